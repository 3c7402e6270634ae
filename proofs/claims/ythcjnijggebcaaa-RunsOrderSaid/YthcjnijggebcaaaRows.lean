/-
  No cell of these rows narrows 'for every input' (looked for: loops, veiled, ifaces, maps, wideKeys, modest, calm, conditions, laid).
  DERIVED. THE GIVEN ROWS OF THIS SEAT. 12 by the template 'for every input the law returns true; each argument reads behind the call as it read before'; 0 by the template 'total and deterministic' (their statements: YthcjnijggebcaaaTotals.lean).
  GIVEN WITH THE SEED: the statements are not yours to turn. If you find one false, say at which input.
  Laid BY PROGRAM, IN A SANDBOX (cutbox-rows.mjs): the forced cells as the released guide's own fill.sh prints them over the translation 9594acb9a02cf9a5… (all of the seat's roots in one cut). By AI agents, Wed Nov 11 2026. No macro, syntax, notation, axiom, sorry.
-/
import Derived.Test.YthcjnijggebcaaaChecked
import GoSem.Claim
import GoSem.ClaimJoined
import GoSem.ClaimMapViews
import Derived.JoinedTies
import Derived.KernelRfl
namespace Go.Proofs.Ythcjnijggebcaaa
/- THE CELL 'sum', in the pinned program and in every row, IS THE sha256 OF THE DUMP (.gsa) THAT YthcjnijggebcaaaProg.lean LOADS. Nothing in Lean hashes anything: it is a label: what it is worth is what the hold of that sum in a sandbox is worth. -/
noncomputable def Try.pinned : Pinned := { name := "ythcjnijggebcaaa", sum := "9594acb9a02cf9a591cd9b8adbde024cd790f591b68f917896414b73028659f0", checked := Try.checked }
namespace Rows
def none {H : Type} : Left H := { results := [], args := [] }

/-- 'stepstonelaw08.RunsMake': WHATEVER THE INPUT: true; the input reads as it did. -/
def runsMakeSpec : ChangeSpec := { name := "runsMake", fn := fun _ => fun
  | [d1, d2, d3, d4] => { results := [.lit (.bool true)], args := [d1, d2, d3, d4] }
  | _ => none }
def runsMakeRow : OpenClaim := { program := "ythcjnijggebcaaa", sum := "9594acb9a02cf9a591cd9b8adbde024cd790f591b68f917896414b73028659f0", func := "stepstone/stepstonelaw08.RunsMake", spec := "runsMake", recurses := true, apart := false }
def RunsMakeSaid : Prop := runsMakeRow.holds Try.pinned (OpenSpec.ofChange runsMakeSpec)

/-- ITS FALSE NEIGHBOUR: 'it returns false'. Refute it at one input. -/
def runsMakeWrong : ChangeSpec := { name := "runsMake", fn := fun _ => fun
  | [d1, d2, d3, d4] => { results := [.lit (.bool false)], args := [d1, d2, d3, d4] }
  | _ => none }
def RunsMakeWrongFalsely : Prop := runsMakeRow.holds Try.pinned (OpenSpec.ofChange runsMakeWrong)

/-- 'stepstonelaw08.RunsOrder': WHATEVER THE INPUT: true; the input reads as it did. -/
def runsOrderSpec : ChangeSpec := { name := "runsOrder", fn := fun _ => fun
  | [d1, d2] => { results := [.lit (.bool true)], args := [d1, d2] }
  | _ => none }
def runsOrderRow : OpenClaim := { program := "ythcjnijggebcaaa", sum := "9594acb9a02cf9a591cd9b8adbde024cd790f591b68f917896414b73028659f0", func := "stepstone/stepstonelaw08.RunsOrder", spec := "runsOrder", recurses := true, apart := false }
def RunsOrderSaid : Prop := runsOrderRow.holds Try.pinned (OpenSpec.ofChange runsOrderSpec)

/-- ITS FALSE NEIGHBOUR: 'it returns false'. Refute it at one input. -/
def runsOrderWrong : ChangeSpec := { name := "runsOrder", fn := fun _ => fun
  | [d1, d2] => { results := [.lit (.bool false)], args := [d1, d2] }
  | _ => none }
def RunsOrderWrongFalsely : Prop := runsOrderRow.holds Try.pinned (OpenSpec.ofChange runsOrderWrong)

/-- 'stepstonelaw06.ArrayMakes': WHATEVER THE INPUT: true; the input reads as it did. -/
def arrayMakesSpec : ChangeSpec := { name := "arrayMakes", fn := fun _ => fun
  | [d] => { results := [.lit (.bool true)], args := [d] }
  | _ => none }
def arrayMakesRow : OpenClaim := { program := "ythcjnijggebcaaa", sum := "9594acb9a02cf9a591cd9b8adbde024cd790f591b68f917896414b73028659f0", func := "stepstone/stepstonelaw06.ArrayMakes", spec := "arrayMakes", recurses := true, apart := false }
def ArrayMakesSaid : Prop := arrayMakesRow.holds Try.pinned (OpenSpec.ofChange arrayMakesSpec)

/-- ITS FALSE NEIGHBOUR: 'it returns false'. Refute it at one input. -/
def arrayMakesWrong : ChangeSpec := { name := "arrayMakes", fn := fun _ => fun
  | [d] => { results := [.lit (.bool false)], args := [d] }
  | _ => none }
def ArrayMakesWrongFalsely : Prop := arrayMakesRow.holds Try.pinned (OpenSpec.ofChange arrayMakesWrong)

/-- 'stepstonelaw06.ArrayInverse': WHATEVER THE INPUT: true; the input reads as it did. -/
def arrayInverseSpec : ChangeSpec := { name := "arrayInverse", fn := fun _ => fun
  | [d1, d2] => { results := [.lit (.bool true)], args := [d1, d2] }
  | _ => none }
def arrayInverseRow : OpenClaim := { program := "ythcjnijggebcaaa", sum := "9594acb9a02cf9a591cd9b8adbde024cd790f591b68f917896414b73028659f0", func := "stepstone/stepstonelaw06.ArrayInverse", spec := "arrayInverse", recurses := true, apart := false }
def ArrayInverseSaid : Prop := arrayInverseRow.holds Try.pinned (OpenSpec.ofChange arrayInverseSpec)

/-- ITS FALSE NEIGHBOUR: 'it returns false'. Refute it at one input. -/
def arrayInverseWrong : ChangeSpec := { name := "arrayInverse", fn := fun _ => fun
  | [d1, d2] => { results := [.lit (.bool false)], args := [d1, d2] }
  | _ => none }
def ArrayInverseWrongFalsely : Prop := arrayInverseRow.holds Try.pinned (OpenSpec.ofChange arrayInverseWrong)

/-- 'stepstonelaw08.RunsPlay': WHATEVER THE INPUT: true; the input reads as it did. -/
def runsPlaySpec : ChangeSpec := { name := "runsPlay", fn := fun _ => fun
  | [d] => { results := [.lit (.bool true)], args := [d] }
  | _ => none }
def runsPlayRow : OpenClaim := { program := "ythcjnijggebcaaa", sum := "9594acb9a02cf9a591cd9b8adbde024cd790f591b68f917896414b73028659f0", func := "stepstone/stepstonelaw08.RunsPlay", spec := "runsPlay", recurses := true, apart := false }
def RunsPlaySaid : Prop := runsPlayRow.holds Try.pinned (OpenSpec.ofChange runsPlaySpec)

/-- ITS FALSE NEIGHBOUR: 'it returns false'. Refute it at one input. -/
def runsPlayWrong : ChangeSpec := { name := "runsPlay", fn := fun _ => fun
  | [d] => { results := [.lit (.bool false)], args := [d] }
  | _ => none }
def RunsPlayWrongFalsely : Prop := runsPlayRow.holds Try.pinned (OpenSpec.ofChange runsPlayWrong)

/-- 'stepstonelaw06.ArrayAsks': WHATEVER THE INPUT: true; the input reads as it did. -/
def arrayAsksSpec : ChangeSpec := { name := "arrayAsks", fn := fun _ => fun
  | [d1, d2, d3] => { results := [.lit (.bool true)], args := [d1, d2, d3] }
  | _ => none }
def arrayAsksRow : OpenClaim := { program := "ythcjnijggebcaaa", sum := "9594acb9a02cf9a591cd9b8adbde024cd790f591b68f917896414b73028659f0", func := "stepstone/stepstonelaw06.ArrayAsks", spec := "arrayAsks", recurses := true, apart := false }
def ArrayAsksSaid : Prop := arrayAsksRow.holds Try.pinned (OpenSpec.ofChange arrayAsksSpec)

/-- ITS FALSE NEIGHBOUR: 'it returns false'. Refute it at one input. -/
def arrayAsksWrong : ChangeSpec := { name := "arrayAsks", fn := fun _ => fun
  | [d1, d2, d3] => { results := [.lit (.bool false)], args := [d1, d2, d3] }
  | _ => none }
def ArrayAsksWrongFalsely : Prop := arrayAsksRow.holds Try.pinned (OpenSpec.ofChange arrayAsksWrong)

/-- 'stepstonelaw15.BucketParts': WHATEVER THE INPUT: true; the input reads as it did. -/
def bucketPartsSpec : ChangeSpec := { name := "bucketParts", fn := fun _ => fun
  | [d1, d2] => { results := [.lit (.bool true)], args := [d1, d2] }
  | _ => none }
def bucketPartsRow : OpenClaim := { program := "ythcjnijggebcaaa", sum := "9594acb9a02cf9a591cd9b8adbde024cd790f591b68f917896414b73028659f0", func := "stepstone/stepstonelaw15.BucketParts", spec := "bucketParts", recurses := true, apart := false }
def BucketPartsSaid : Prop := bucketPartsRow.holds Try.pinned (OpenSpec.ofChange bucketPartsSpec)

/-- ITS FALSE NEIGHBOUR: 'it returns false'. Refute it at one input. -/
def bucketPartsWrong : ChangeSpec := { name := "bucketParts", fn := fun _ => fun
  | [d1, d2] => { results := [.lit (.bool false)], args := [d1, d2] }
  | _ => none }
def BucketPartsWrongFalsely : Prop := bucketPartsRow.holds Try.pinned (OpenSpec.ofChange bucketPartsWrong)

/-- 'stepstonelaw06.ArrayJoins': WHATEVER THE INPUT: true; the input reads as it did. -/
def arrayJoinsSpec : ChangeSpec := { name := "arrayJoins", fn := fun _ => fun
  | [d1, d2, d3, d4] => { results := [.lit (.bool true)], args := [d1, d2, d3, d4] }
  | _ => none }
def arrayJoinsRow : OpenClaim := { program := "ythcjnijggebcaaa", sum := "9594acb9a02cf9a591cd9b8adbde024cd790f591b68f917896414b73028659f0", func := "stepstone/stepstonelaw06.ArrayJoins", spec := "arrayJoins", recurses := true, apart := false }
def ArrayJoinsSaid : Prop := arrayJoinsRow.holds Try.pinned (OpenSpec.ofChange arrayJoinsSpec)

/-- ITS FALSE NEIGHBOUR: 'it returns false'. Refute it at one input. -/
def arrayJoinsWrong : ChangeSpec := { name := "arrayJoins", fn := fun _ => fun
  | [d1, d2, d3, d4] => { results := [.lit (.bool false)], args := [d1, d2, d3, d4] }
  | _ => none }
def ArrayJoinsWrongFalsely : Prop := arrayJoinsRow.holds Try.pinned (OpenSpec.ofChange arrayJoinsWrong)

/-- 'stepstonelaw15.BucketBack': WHATEVER THE INPUT: true; the input reads as it did. -/
def bucketBackSpec : ChangeSpec := { name := "bucketBack", fn := fun _ => fun
  | [d1, d2] => { results := [.lit (.bool true)], args := [d1, d2] }
  | _ => none }
def bucketBackRow : OpenClaim := { program := "ythcjnijggebcaaa", sum := "9594acb9a02cf9a591cd9b8adbde024cd790f591b68f917896414b73028659f0", func := "stepstone/stepstonelaw15.BucketBack", spec := "bucketBack", recurses := true, apart := false }
def BucketBackSaid : Prop := bucketBackRow.holds Try.pinned (OpenSpec.ofChange bucketBackSpec)

/-- ITS FALSE NEIGHBOUR: 'it returns false'. Refute it at one input. -/
def bucketBackWrong : ChangeSpec := { name := "bucketBack", fn := fun _ => fun
  | [d1, d2] => { results := [.lit (.bool false)], args := [d1, d2] }
  | _ => none }
def BucketBackWrongFalsely : Prop := bucketBackRow.holds Try.pinned (OpenSpec.ofChange bucketBackWrong)

/-- 'stepstonelaw15.BucketAsks': WHATEVER THE INPUT: true; the input reads as it did. -/
def bucketAsksSpec : ChangeSpec := { name := "bucketAsks", fn := fun _ => fun
  | [d1, d2] => { results := [.lit (.bool true)], args := [d1, d2] }
  | _ => none }
def bucketAsksRow : OpenClaim := { program := "ythcjnijggebcaaa", sum := "9594acb9a02cf9a591cd9b8adbde024cd790f591b68f917896414b73028659f0", func := "stepstone/stepstonelaw15.BucketAsks", spec := "bucketAsks", recurses := true, apart := false }
def BucketAsksSaid : Prop := bucketAsksRow.holds Try.pinned (OpenSpec.ofChange bucketAsksSpec)

/-- ITS FALSE NEIGHBOUR: 'it returns false'. Refute it at one input. -/
def bucketAsksWrong : ChangeSpec := { name := "bucketAsks", fn := fun _ => fun
  | [d1, d2] => { results := [.lit (.bool false)], args := [d1, d2] }
  | _ => none }
def BucketAsksWrongFalsely : Prop := bucketAsksRow.holds Try.pinned (OpenSpec.ofChange bucketAsksWrong)

/-- 'stepstonelaw06.ArrayChanges': WHATEVER THE INPUT: true; the input reads as it did. -/
def arrayChangesSpec : ChangeSpec := { name := "arrayChanges", fn := fun _ => fun
  | [d1, d2, d3, d4] => { results := [.lit (.bool true)], args := [d1, d2, d3, d4] }
  | _ => none }
def arrayChangesRow : OpenClaim := { program := "ythcjnijggebcaaa", sum := "9594acb9a02cf9a591cd9b8adbde024cd790f591b68f917896414b73028659f0", func := "stepstone/stepstonelaw06.ArrayChanges", spec := "arrayChanges", recurses := true, apart := false }
def ArrayChangesSaid : Prop := arrayChangesRow.holds Try.pinned (OpenSpec.ofChange arrayChangesSpec)

/-- ITS FALSE NEIGHBOUR: 'it returns false'. Refute it at one input. -/
def arrayChangesWrong : ChangeSpec := { name := "arrayChanges", fn := fun _ => fun
  | [d1, d2, d3, d4] => { results := [.lit (.bool false)], args := [d1, d2, d3, d4] }
  | _ => none }
def ArrayChangesWrongFalsely : Prop := arrayChangesRow.holds Try.pinned (OpenSpec.ofChange arrayChangesWrong)

/-- 'stepstonelaw08.RunsAsk': WHATEVER THE INPUT: true; the input reads as it did. -/
def runsAskSpec : ChangeSpec := { name := "runsAsk", fn := fun _ => fun
  | [d1, d2, d3] => { results := [.lit (.bool true)], args := [d1, d2, d3] }
  | _ => none }
def runsAskRow : OpenClaim := { program := "ythcjnijggebcaaa", sum := "9594acb9a02cf9a591cd9b8adbde024cd790f591b68f917896414b73028659f0", func := "stepstone/stepstonelaw08.RunsAsk", spec := "runsAsk", unfollowed := true, recurses := true, apart := false }
def RunsAskSaid : Prop := runsAskRow.holds Try.pinned (OpenSpec.ofChange runsAskSpec)

/-- ITS FALSE NEIGHBOUR: 'it returns false'. Refute it at one input. -/
def runsAskWrong : ChangeSpec := { name := "runsAsk", fn := fun _ => fun
  | [d1, d2, d3] => { results := [.lit (.bool false)], args := [d1, d2, d3] }
  | _ => none }
def RunsAskWrongFalsely : Prop := runsAskRow.holds Try.pinned (OpenSpec.ofChange runsAskWrong)

/- THE SECOND FORM. 'bulk': how many values and letters a reading holds, each counted each time it is reached (what is shared counts as often as it is met; a slice's spare places count too). A statement '..UptoSaid' is the law's where the arguments, and the package variables that the reading takes, are together of bulk at most 1048576: NARROWER than '..Said'. Prove '..Said' where nothing that the law and all that it calls make is longer than what came in: it says more and counts as full. Else prove '..UptoSaid'. A law counts once. -/
mutual
def uptoBulk {H : Type} : DataW H → Nat
  | .lit (.string bytes) => bytes.length + 1
  | .lit _ => 1
  | .nil => 1
  | .ptr d => uptoBulk d + 1
  | .slice elems spare => uptoBulkAll elems + uptoBulkAll spare + 1
  | .agg parts => uptoBulkAll parts + 1
  | .iface _ d => uptoBulk d + 1
  | .map entries => uptoBulkEntries entries + 1
  | .held _ => 1
def uptoBulkAll {H : Type} : List (DataW H) → Nat
  | [] => 0
  | d :: r => uptoBulk d + uptoBulkAll r
def uptoBulkEntries {H : Type} : List (Lit × DataW H) → Nat
  | [] => 0
  | x :: r => uptoBulkEntry x + uptoBulkEntries r
def uptoBulkEntry {H : Type} : Lit × DataW H → Nat
  | (.string bytes, d) => bytes.length + uptoBulk d + 1
  | (_, d) => uptoBulk d + 1
 end
def uptoSmall : (H : Type) → List (DataW H) → Bool := fun _ ds => decide (uptoBulkAll ds ≤ 1048576)
def OpenSpec.upto (s : _root_.Go.ChangeSpec) : _root_.Go.OpenSpec := { _root_.Go.OpenSpec.ofChange s with cond := some uptoSmall }

/-- 'stepstonelaw08.RunsMake', WHERE WHAT IT READS IS OF BULK AT MOST 1048576: true; the input reads as it did. -/
def runsMakeUptoRow : OpenClaim := { program := "ythcjnijggebcaaa", sum := "9594acb9a02cf9a591cd9b8adbde024cd790f591b68f917896414b73028659f0", func := "stepstone/stepstonelaw08.RunsMake", spec := "runsMake", recurses := true, apart := false, narrowed := true }
def RunsMakeUptoSaid : Prop := runsMakeUptoRow.holds Try.pinned (OpenSpec.upto runsMakeSpec)

/-- 'stepstonelaw08.RunsOrder', WHERE WHAT IT READS IS OF BULK AT MOST 1048576: true; the input reads as it did. -/
def runsOrderUptoRow : OpenClaim := { program := "ythcjnijggebcaaa", sum := "9594acb9a02cf9a591cd9b8adbde024cd790f591b68f917896414b73028659f0", func := "stepstone/stepstonelaw08.RunsOrder", spec := "runsOrder", recurses := true, apart := false, narrowed := true }
def RunsOrderUptoSaid : Prop := runsOrderUptoRow.holds Try.pinned (OpenSpec.upto runsOrderSpec)

/-- 'stepstonelaw06.ArrayMakes', WHERE WHAT IT READS IS OF BULK AT MOST 1048576: true; the input reads as it did. -/
def arrayMakesUptoRow : OpenClaim := { program := "ythcjnijggebcaaa", sum := "9594acb9a02cf9a591cd9b8adbde024cd790f591b68f917896414b73028659f0", func := "stepstone/stepstonelaw06.ArrayMakes", spec := "arrayMakes", recurses := true, apart := false, narrowed := true }
def ArrayMakesUptoSaid : Prop := arrayMakesUptoRow.holds Try.pinned (OpenSpec.upto arrayMakesSpec)

/-- 'stepstonelaw06.ArrayInverse', WHERE WHAT IT READS IS OF BULK AT MOST 1048576: true; the input reads as it did. -/
def arrayInverseUptoRow : OpenClaim := { program := "ythcjnijggebcaaa", sum := "9594acb9a02cf9a591cd9b8adbde024cd790f591b68f917896414b73028659f0", func := "stepstone/stepstonelaw06.ArrayInverse", spec := "arrayInverse", recurses := true, apart := false, narrowed := true }
def ArrayInverseUptoSaid : Prop := arrayInverseUptoRow.holds Try.pinned (OpenSpec.upto arrayInverseSpec)

/-- 'stepstonelaw08.RunsPlay', WHERE WHAT IT READS IS OF BULK AT MOST 1048576: true; the input reads as it did. -/
def runsPlayUptoRow : OpenClaim := { program := "ythcjnijggebcaaa", sum := "9594acb9a02cf9a591cd9b8adbde024cd790f591b68f917896414b73028659f0", func := "stepstone/stepstonelaw08.RunsPlay", spec := "runsPlay", recurses := true, apart := false, narrowed := true }
def RunsPlayUptoSaid : Prop := runsPlayUptoRow.holds Try.pinned (OpenSpec.upto runsPlaySpec)

/-- 'stepstonelaw06.ArrayAsks', WHERE WHAT IT READS IS OF BULK AT MOST 1048576: true; the input reads as it did. -/
def arrayAsksUptoRow : OpenClaim := { program := "ythcjnijggebcaaa", sum := "9594acb9a02cf9a591cd9b8adbde024cd790f591b68f917896414b73028659f0", func := "stepstone/stepstonelaw06.ArrayAsks", spec := "arrayAsks", recurses := true, apart := false, narrowed := true }
def ArrayAsksUptoSaid : Prop := arrayAsksUptoRow.holds Try.pinned (OpenSpec.upto arrayAsksSpec)

/-- 'stepstonelaw15.BucketParts', WHERE WHAT IT READS IS OF BULK AT MOST 1048576: true; the input reads as it did. -/
def bucketPartsUptoRow : OpenClaim := { program := "ythcjnijggebcaaa", sum := "9594acb9a02cf9a591cd9b8adbde024cd790f591b68f917896414b73028659f0", func := "stepstone/stepstonelaw15.BucketParts", spec := "bucketParts", recurses := true, apart := false, narrowed := true }
def BucketPartsUptoSaid : Prop := bucketPartsUptoRow.holds Try.pinned (OpenSpec.upto bucketPartsSpec)

/-- 'stepstonelaw06.ArrayJoins', WHERE WHAT IT READS IS OF BULK AT MOST 1048576: true; the input reads as it did. -/
def arrayJoinsUptoRow : OpenClaim := { program := "ythcjnijggebcaaa", sum := "9594acb9a02cf9a591cd9b8adbde024cd790f591b68f917896414b73028659f0", func := "stepstone/stepstonelaw06.ArrayJoins", spec := "arrayJoins", recurses := true, apart := false, narrowed := true }
def ArrayJoinsUptoSaid : Prop := arrayJoinsUptoRow.holds Try.pinned (OpenSpec.upto arrayJoinsSpec)

/-- 'stepstonelaw15.BucketBack', WHERE WHAT IT READS IS OF BULK AT MOST 1048576: true; the input reads as it did. -/
def bucketBackUptoRow : OpenClaim := { program := "ythcjnijggebcaaa", sum := "9594acb9a02cf9a591cd9b8adbde024cd790f591b68f917896414b73028659f0", func := "stepstone/stepstonelaw15.BucketBack", spec := "bucketBack", recurses := true, apart := false, narrowed := true }
def BucketBackUptoSaid : Prop := bucketBackUptoRow.holds Try.pinned (OpenSpec.upto bucketBackSpec)

/-- 'stepstonelaw15.BucketAsks', WHERE WHAT IT READS IS OF BULK AT MOST 1048576: true; the input reads as it did. -/
def bucketAsksUptoRow : OpenClaim := { program := "ythcjnijggebcaaa", sum := "9594acb9a02cf9a591cd9b8adbde024cd790f591b68f917896414b73028659f0", func := "stepstone/stepstonelaw15.BucketAsks", spec := "bucketAsks", recurses := true, apart := false, narrowed := true }
def BucketAsksUptoSaid : Prop := bucketAsksUptoRow.holds Try.pinned (OpenSpec.upto bucketAsksSpec)

/-- 'stepstonelaw06.ArrayChanges', WHERE WHAT IT READS IS OF BULK AT MOST 1048576: true; the input reads as it did. -/
def arrayChangesUptoRow : OpenClaim := { program := "ythcjnijggebcaaa", sum := "9594acb9a02cf9a591cd9b8adbde024cd790f591b68f917896414b73028659f0", func := "stepstone/stepstonelaw06.ArrayChanges", spec := "arrayChanges", recurses := true, apart := false, narrowed := true }
def ArrayChangesUptoSaid : Prop := arrayChangesUptoRow.holds Try.pinned (OpenSpec.upto arrayChangesSpec)

/-- 'stepstonelaw08.RunsAsk', WHERE WHAT IT READS IS OF BULK AT MOST 1048576: true; the input reads as it did. -/
def runsAskUptoRow : OpenClaim := { program := "ythcjnijggebcaaa", sum := "9594acb9a02cf9a591cd9b8adbde024cd790f591b68f917896414b73028659f0", func := "stepstone/stepstonelaw08.RunsAsk", spec := "runsAsk", unfollowed := true, recurses := true, apart := false, narrowed := true }
def RunsAskUptoSaid : Prop := runsAskUptoRow.holds Try.pinned (OpenSpec.upto runsAskSpec)

end Rows
end Go.Proofs.Ythcjnijggebcaaa
