/-
  No cell of these rows narrows 'for every input' (looked for: loops, veiled, ifaces, maps, wideKeys, modest, calm, conditions, laid).
  DERIVED. THE GIVEN ROWS OF THIS SEAT. 13 by the template 'for every input the law returns true; each argument reads behind the call as it read before'; 0 by the template 'total and deterministic' (their statements: YtnbanbfnabhjjaaTotals.lean).
  GIVEN WITH THE SEED: the statements are not yours to turn. If you find one false, say at which input.
  Laid BY PROGRAM, IN A SANDBOX (cutbox-rows.mjs): the forced cells as the released guide's own fill.sh prints them over the translation 4a505caba4f30559… (all of the seat's roots in one cut). By AI agents, Wed Nov 11 2026. No macro, syntax, notation, axiom, sorry.
-/
import Derived.Test.YtnbanbfnabhjjaaChecked
import GoSem.Claim
import GoSem.ClaimJoined
import GoSem.ClaimMapViews
import Derived.JoinedTies
import Derived.KernelRfl
namespace Go.Proofs.Ytnbanbfnabhjjaa
/- THE CELL 'sum', in the pinned program and in every row, IS THE sha256 OF THE DUMP (.gsa) THAT YtnbanbfnabhjjaaProg.lean LOADS. Nothing in Lean hashes anything: it is a label: what it is worth is what the hold of that sum in a sandbox is worth. -/
noncomputable def Try.pinned : Pinned := { name := "ytnbanbfnabhjjaa", sum := "4a505caba4f30559eb315929623f0251df3cb296fa3370bd96789c527a918c46", checked := Try.checked }
namespace Rows
def none {H : Type} : Left H := { results := [], args := [] }

/-- 'stepstonelaw04.PoolFull': WHATEVER THE INPUT: true; the input reads as it did. -/
def poolFullSpec : ChangeSpec := { name := "poolFull", fn := fun _ => fun
  | [d1, d2, d3] => { results := [.lit (.bool true)], args := [d1, d2, d3] }
  | _ => none }
def poolFullRow : OpenClaim := { program := "ytnbanbfnabhjjaa", sum := "4a505caba4f30559eb315929623f0251df3cb296fa3370bd96789c527a918c46", func := "stepstone/stepstonelaw04.PoolFull", spec := "poolFull", apart := false }
def PoolFullSaid : Prop := poolFullRow.holds Try.pinned (OpenSpec.ofChange poolFullSpec)

/-- ITS FALSE NEIGHBOUR: 'it returns false'. Refute it at one input. -/
def poolFullWrong : ChangeSpec := { name := "poolFull", fn := fun _ => fun
  | [d1, d2, d3] => { results := [.lit (.bool false)], args := [d1, d2, d3] }
  | _ => none }
def PoolFullWrongFalsely : Prop := poolFullRow.holds Try.pinned (OpenSpec.ofChange poolFullWrong)

/-- 'stepstonelaw04.PoolArgs': WHATEVER THE INPUT: true; the input reads as it did. -/
def poolArgsSpec : ChangeSpec := { name := "poolArgs", fn := fun _ => fun
  | [d1, d2, d3] => { results := [.lit (.bool true)], args := [d1, d2, d3] }
  | _ => none }
def poolArgsRow : OpenClaim := { program := "ytnbanbfnabhjjaa", sum := "4a505caba4f30559eb315929623f0251df3cb296fa3370bd96789c527a918c46", func := "stepstone/stepstonelaw04.PoolArgs", spec := "poolArgs", unfollowed := true, recurses := true, apart := false }
def PoolArgsSaid : Prop := poolArgsRow.holds Try.pinned (OpenSpec.ofChange poolArgsSpec)

/-- ITS FALSE NEIGHBOUR: 'it returns false'. Refute it at one input. -/
def poolArgsWrong : ChangeSpec := { name := "poolArgs", fn := fun _ => fun
  | [d1, d2, d3] => { results := [.lit (.bool false)], args := [d1, d2, d3] }
  | _ => none }
def PoolArgsWrongFalsely : Prop := poolArgsRow.holds Try.pinned (OpenSpec.ofChange poolArgsWrong)

/-- 'stepstonelaw04.PoolPlays': WHATEVER THE INPUT: true; the input reads as it did. -/
def poolPlaysSpec : ChangeSpec := { name := "poolPlays", fn := fun _ => fun
  | [d1, d2, d3] => { results := [.lit (.bool true)], args := [d1, d2, d3] }
  | _ => none }
def poolPlaysRow : OpenClaim := { program := "ytnbanbfnabhjjaa", sum := "4a505caba4f30559eb315929623f0251df3cb296fa3370bd96789c527a918c46", func := "stepstone/stepstonelaw04.PoolPlays", spec := "poolPlays", unfollowed := true, recurses := true, apart := false }
def PoolPlaysSaid : Prop := poolPlaysRow.holds Try.pinned (OpenSpec.ofChange poolPlaysSpec)

/-- ITS FALSE NEIGHBOUR: 'it returns false'. Refute it at one input. -/
def poolPlaysWrong : ChangeSpec := { name := "poolPlays", fn := fun _ => fun
  | [d1, d2, d3] => { results := [.lit (.bool false)], args := [d1, d2, d3] }
  | _ => none }
def PoolPlaysWrongFalsely : Prop := poolPlaysRow.holds Try.pinned (OpenSpec.ofChange poolPlaysWrong)

/-- 'stepstonelaw05.HashHoles': WHATEVER THE INPUT: true; the input reads as it did. -/
def hashHolesSpec : ChangeSpec := { name := "hashHoles", fn := fun _ => fun
  | [d1, d2, d3, d4, d5] => { results := [.lit (.bool true)], args := [d1, d2, d3, d4, d5] }
  | _ => none }
def hashHolesRow : OpenClaim := { program := "ytnbanbfnabhjjaa", sum := "4a505caba4f30559eb315929623f0251df3cb296fa3370bd96789c527a918c46", func := "stepstone/stepstonelaw05.HashHoles", spec := "hashHoles", apart := false }
def HashHolesSaid : Prop := hashHolesRow.holds Try.pinned (OpenSpec.ofChange hashHolesSpec)

/-- ITS FALSE NEIGHBOUR: 'it returns false'. Refute it at one input. -/
def hashHolesWrong : ChangeSpec := { name := "hashHoles", fn := fun _ => fun
  | [d1, d2, d3, d4, d5] => { results := [.lit (.bool false)], args := [d1, d2, d3, d4, d5] }
  | _ => none }
def HashHolesWrongFalsely : Prop := hashHolesRow.holds Try.pinned (OpenSpec.ofChange hashHolesWrong)

/-- 'stepstonelaw13.ChainEnds': WHATEVER THE INPUT: true; the input reads as it did. -/
def chainEndsSpec : ChangeSpec := { name := "chainEnds", fn := fun _ => fun
  | [d1, d2] => { results := [.lit (.bool true)], args := [d1, d2] }
  | _ => none }
def chainEndsRow : OpenClaim := { program := "ytnbanbfnabhjjaa", sum := "4a505caba4f30559eb315929623f0251df3cb296fa3370bd96789c527a918c46", func := "stepstone/stepstonelaw13.ChainEnds", spec := "chainEnds", unfollowed := true, recurses := true, apart := false }
def ChainEndsSaid : Prop := chainEndsRow.holds Try.pinned (OpenSpec.ofChange chainEndsSpec)

/-- ITS FALSE NEIGHBOUR: 'it returns false'. Refute it at one input. -/
def chainEndsWrong : ChangeSpec := { name := "chainEnds", fn := fun _ => fun
  | [d1, d2] => { results := [.lit (.bool false)], args := [d1, d2] }
  | _ => none }
def ChainEndsWrongFalsely : Prop := chainEndsRow.holds Try.pinned (OpenSpec.ofChange chainEndsWrong)

/-- 'stepstonelaw13.ChainLines': WHATEVER THE INPUT: true; the input reads as it did. -/
def chainLinesSpec : ChangeSpec := { name := "chainLines", fn := fun _ => fun
  | [d1, d2, d3, d4] => { results := [.lit (.bool true)], args := [d1, d2, d3, d4] }
  | _ => none }
def chainLinesRow : OpenClaim := { program := "ytnbanbfnabhjjaa", sum := "4a505caba4f30559eb315929623f0251df3cb296fa3370bd96789c527a918c46", func := "stepstone/stepstonelaw13.ChainLines", spec := "chainLines", unfollowed := true, recurses := true, apart := false }
def ChainLinesSaid : Prop := chainLinesRow.holds Try.pinned (OpenSpec.ofChange chainLinesSpec)

/-- ITS FALSE NEIGHBOUR: 'it returns false'. Refute it at one input. -/
def chainLinesWrong : ChangeSpec := { name := "chainLines", fn := fun _ => fun
  | [d1, d2, d3, d4] => { results := [.lit (.bool false)], args := [d1, d2, d3, d4] }
  | _ => none }
def ChainLinesWrongFalsely : Prop := chainLinesRow.holds Try.pinned (OpenSpec.ofChange chainLinesWrong)

/-- 'stepstonelaw22.SlotsMany': WHATEVER THE INPUT: true; the input reads as it did. -/
def slotsManySpec : ChangeSpec := { name := "slotsMany", fn := fun _ => fun
  | [d1, d2, d3, d4] => { results := [.lit (.bool true)], args := [d1, d2, d3, d4] }
  | _ => none }
def slotsManyRow : OpenClaim := { program := "ytnbanbfnabhjjaa", sum := "4a505caba4f30559eb315929623f0251df3cb296fa3370bd96789c527a918c46", func := "stepstone/stepstonelaw22.SlotsMany", spec := "slotsMany", apart := false }
def SlotsManySaid : Prop := slotsManyRow.holds Try.pinned (OpenSpec.ofChange slotsManySpec)

/-- ITS FALSE NEIGHBOUR: 'it returns false'. Refute it at one input. -/
def slotsManyWrong : ChangeSpec := { name := "slotsMany", fn := fun _ => fun
  | [d1, d2, d3, d4] => { results := [.lit (.bool false)], args := [d1, d2, d3, d4] }
  | _ => none }
def SlotsManyWrongFalsely : Prop := slotsManyRow.holds Try.pinned (OpenSpec.ofChange slotsManyWrong)

/-- 'stepstonelaw22.SlotsPlay': WHATEVER THE INPUT: true; the input reads as it did. -/
def slotsPlaySpec : ChangeSpec := { name := "slotsPlay", fn := fun _ => fun
  | [d1, d2, d3] => { results := [.lit (.bool true)], args := [d1, d2, d3] }
  | _ => none }
def slotsPlayRow : OpenClaim := { program := "ytnbanbfnabhjjaa", sum := "4a505caba4f30559eb315929623f0251df3cb296fa3370bd96789c527a918c46", func := "stepstone/stepstonelaw22.SlotsPlay", spec := "slotsPlay", apart := false }
def SlotsPlaySaid : Prop := slotsPlayRow.holds Try.pinned (OpenSpec.ofChange slotsPlaySpec)

/-- ITS FALSE NEIGHBOUR: 'it returns false'. Refute it at one input. -/
def slotsPlayWrong : ChangeSpec := { name := "slotsPlay", fn := fun _ => fun
  | [d1, d2, d3] => { results := [.lit (.bool false)], args := [d1, d2, d3] }
  | _ => none }
def SlotsPlayWrongFalsely : Prop := slotsPlayRow.holds Try.pinned (OpenSpec.ofChange slotsPlayWrong)

/-- 'stepstonelaw22.SlotsNil': WHATEVER THE INPUT: true; the input reads as it did. -/
def slotsNilSpec : ChangeSpec := { name := "slotsNil", fn := fun _ => fun
  | [d1, d2, d3, d4] => { results := [.lit (.bool true)], args := [d1, d2, d3, d4] }
  | _ => none }
def slotsNilRow : OpenClaim := { program := "ytnbanbfnabhjjaa", sum := "4a505caba4f30559eb315929623f0251df3cb296fa3370bd96789c527a918c46", func := "stepstone/stepstonelaw22.SlotsNil", spec := "slotsNil", apart := false }
def SlotsNilSaid : Prop := slotsNilRow.holds Try.pinned (OpenSpec.ofChange slotsNilSpec)

/-- ITS FALSE NEIGHBOUR: 'it returns false'. Refute it at one input. -/
def slotsNilWrong : ChangeSpec := { name := "slotsNil", fn := fun _ => fun
  | [d1, d2, d3, d4] => { results := [.lit (.bool false)], args := [d1, d2, d3, d4] }
  | _ => none }
def SlotsNilWrongFalsely : Prop := slotsNilRow.holds Try.pinned (OpenSpec.ofChange slotsNilWrong)

/-- 'stepstonelaw05.HashMany': WHATEVER THE INPUT: true; the input reads as it did. -/
def hashManySpec : ChangeSpec := { name := "hashMany", fn := fun _ => fun
  | [d1, d2, d3, d4] => { results := [.lit (.bool true)], args := [d1, d2, d3, d4] }
  | _ => none }
def hashManyRow : OpenClaim := { program := "ytnbanbfnabhjjaa", sum := "4a505caba4f30559eb315929623f0251df3cb296fa3370bd96789c527a918c46", func := "stepstone/stepstonelaw05.HashMany", spec := "hashMany", unfollowed := true, recurses := true, apart := false }
def HashManySaid : Prop := hashManyRow.holds Try.pinned (OpenSpec.ofChange hashManySpec)

/-- ITS FALSE NEIGHBOUR: 'it returns false'. Refute it at one input. -/
def hashManyWrong : ChangeSpec := { name := "hashMany", fn := fun _ => fun
  | [d1, d2, d3, d4] => { results := [.lit (.bool false)], args := [d1, d2, d3, d4] }
  | _ => none }
def HashManyWrongFalsely : Prop := hashManyRow.holds Try.pinned (OpenSpec.ofChange hashManyWrong)

/-- 'stepstonelaw05.HashSeeds': WHATEVER THE INPUT: true; the input reads as it did. -/
def hashSeedsSpec : ChangeSpec := { name := "hashSeeds", fn := fun _ => fun
  | [d1, d2, d3] => { results := [.lit (.bool true)], args := [d1, d2, d3] }
  | _ => none }
def hashSeedsRow : OpenClaim := { program := "ytnbanbfnabhjjaa", sum := "4a505caba4f30559eb315929623f0251df3cb296fa3370bd96789c527a918c46", func := "stepstone/stepstonelaw05.HashSeeds", spec := "hashSeeds", unfollowed := true, recurses := true, apart := false }
def HashSeedsSaid : Prop := hashSeedsRow.holds Try.pinned (OpenSpec.ofChange hashSeedsSpec)

/-- ITS FALSE NEIGHBOUR: 'it returns false'. Refute it at one input. -/
def hashSeedsWrong : ChangeSpec := { name := "hashSeeds", fn := fun _ => fun
  | [d1, d2, d3] => { results := [.lit (.bool false)], args := [d1, d2, d3] }
  | _ => none }
def HashSeedsWrongFalsely : Prop := hashSeedsRow.holds Try.pinned (OpenSpec.ofChange hashSeedsWrong)

/-- 'stepstonelaw05.HashNil': WHATEVER THE INPUT: true; the input reads as it did. -/
def hashNilSpec : ChangeSpec := { name := "hashNil", fn := fun _ => fun
  | [d1, d2, d3] => { results := [.lit (.bool true)], args := [d1, d2, d3] }
  | _ => none }
def hashNilRow : OpenClaim := { program := "ytnbanbfnabhjjaa", sum := "4a505caba4f30559eb315929623f0251df3cb296fa3370bd96789c527a918c46", func := "stepstone/stepstonelaw05.HashNil", spec := "hashNil", unfollowed := true, recurses := true, apart := false }
def HashNilSaid : Prop := hashNilRow.holds Try.pinned (OpenSpec.ofChange hashNilSpec)

/-- ITS FALSE NEIGHBOUR: 'it returns false'. Refute it at one input. -/
def hashNilWrong : ChangeSpec := { name := "hashNil", fn := fun _ => fun
  | [d1, d2, d3] => { results := [.lit (.bool false)], args := [d1, d2, d3] }
  | _ => none }
def HashNilWrongFalsely : Prop := hashNilRow.holds Try.pinned (OpenSpec.ofChange hashNilWrong)

/-- 'stepstonelaw05.HashPlays': WHATEVER THE INPUT: true; the input reads as it did. -/
def hashPlaysSpec : ChangeSpec := { name := "hashPlays", fn := fun _ => fun
  | [d1, d2, d3] => { results := [.lit (.bool true)], args := [d1, d2, d3] }
  | _ => none }
def hashPlaysRow : OpenClaim := { program := "ytnbanbfnabhjjaa", sum := "4a505caba4f30559eb315929623f0251df3cb296fa3370bd96789c527a918c46", func := "stepstone/stepstonelaw05.HashPlays", spec := "hashPlays", unfollowed := true, recurses := true, apart := false }
def HashPlaysSaid : Prop := hashPlaysRow.holds Try.pinned (OpenSpec.ofChange hashPlaysSpec)

/-- ITS FALSE NEIGHBOUR: 'it returns false'. Refute it at one input. -/
def hashPlaysWrong : ChangeSpec := { name := "hashPlays", fn := fun _ => fun
  | [d1, d2, d3] => { results := [.lit (.bool false)], args := [d1, d2, d3] }
  | _ => none }
def HashPlaysWrongFalsely : Prop := hashPlaysRow.holds Try.pinned (OpenSpec.ofChange hashPlaysWrong)

/- THE SECOND FORM. 'bulk': how many values and letters a reading holds, each counted each time it is reached (what is shared counts as often as it is met; a slice's spare places count too). A statement '..UptoSaid' is the law's where the arguments, and the package variables that the reading takes, are together of bulk at most 1048576: NARROWER than '..Said'. Prove '..Said' where nothing that the law and all that it calls make is longer than what came in: it says more and counts as full. Else prove '..UptoSaid'. A law counts once. -/
mutual
def uptoBulk {H : Type} : DataW H → Nat
  | .lit (.string bytes) => bytes.length + 1
  | .lit _ => 1
  | .nil => 1
  | .ptr d => uptoBulk d + 1
  | .slice elems spare => uptoBulkAll elems + uptoBulkAll spare + 1
  | .agg parts => uptoBulkAll parts + 1
  | .iface _ d => uptoBulk d + 1
  | .map entries => uptoBulkEntries entries + 1
  | .held _ => 1
def uptoBulkAll {H : Type} : List (DataW H) → Nat
  | [] => 0
  | d :: r => uptoBulk d + uptoBulkAll r
def uptoBulkEntries {H : Type} : List (Lit × DataW H) → Nat
  | [] => 0
  | x :: r => uptoBulkEntry x + uptoBulkEntries r
def uptoBulkEntry {H : Type} : Lit × DataW H → Nat
  | (.string bytes, d) => bytes.length + uptoBulk d + 1
  | (_, d) => uptoBulk d + 1
 end
def uptoSmall : (H : Type) → List (DataW H) → Bool := fun _ ds => decide (uptoBulkAll ds ≤ 1048576)
def OpenSpec.upto (s : _root_.Go.ChangeSpec) : _root_.Go.OpenSpec := { _root_.Go.OpenSpec.ofChange s with cond := some uptoSmall }

/-- 'stepstonelaw04.PoolFull', WHERE WHAT IT READS IS OF BULK AT MOST 1048576: true; the input reads as it did. -/
def poolFullUptoRow : OpenClaim := { program := "ytnbanbfnabhjjaa", sum := "4a505caba4f30559eb315929623f0251df3cb296fa3370bd96789c527a918c46", func := "stepstone/stepstonelaw04.PoolFull", spec := "poolFull", apart := false, narrowed := true }
def PoolFullUptoSaid : Prop := poolFullUptoRow.holds Try.pinned (OpenSpec.upto poolFullSpec)

/-- 'stepstonelaw04.PoolArgs', WHERE WHAT IT READS IS OF BULK AT MOST 1048576: true; the input reads as it did. -/
def poolArgsUptoRow : OpenClaim := { program := "ytnbanbfnabhjjaa", sum := "4a505caba4f30559eb315929623f0251df3cb296fa3370bd96789c527a918c46", func := "stepstone/stepstonelaw04.PoolArgs", spec := "poolArgs", unfollowed := true, recurses := true, apart := false, narrowed := true }
def PoolArgsUptoSaid : Prop := poolArgsUptoRow.holds Try.pinned (OpenSpec.upto poolArgsSpec)

/-- 'stepstonelaw04.PoolPlays', WHERE WHAT IT READS IS OF BULK AT MOST 1048576: true; the input reads as it did. -/
def poolPlaysUptoRow : OpenClaim := { program := "ytnbanbfnabhjjaa", sum := "4a505caba4f30559eb315929623f0251df3cb296fa3370bd96789c527a918c46", func := "stepstone/stepstonelaw04.PoolPlays", spec := "poolPlays", unfollowed := true, recurses := true, apart := false, narrowed := true }
def PoolPlaysUptoSaid : Prop := poolPlaysUptoRow.holds Try.pinned (OpenSpec.upto poolPlaysSpec)

/-- 'stepstonelaw05.HashHoles', WHERE WHAT IT READS IS OF BULK AT MOST 1048576: true; the input reads as it did. -/
def hashHolesUptoRow : OpenClaim := { program := "ytnbanbfnabhjjaa", sum := "4a505caba4f30559eb315929623f0251df3cb296fa3370bd96789c527a918c46", func := "stepstone/stepstonelaw05.HashHoles", spec := "hashHoles", apart := false, narrowed := true }
def HashHolesUptoSaid : Prop := hashHolesUptoRow.holds Try.pinned (OpenSpec.upto hashHolesSpec)

/-- 'stepstonelaw13.ChainEnds', WHERE WHAT IT READS IS OF BULK AT MOST 1048576: true; the input reads as it did. -/
def chainEndsUptoRow : OpenClaim := { program := "ytnbanbfnabhjjaa", sum := "4a505caba4f30559eb315929623f0251df3cb296fa3370bd96789c527a918c46", func := "stepstone/stepstonelaw13.ChainEnds", spec := "chainEnds", unfollowed := true, recurses := true, apart := false, narrowed := true }
def ChainEndsUptoSaid : Prop := chainEndsUptoRow.holds Try.pinned (OpenSpec.upto chainEndsSpec)

/-- 'stepstonelaw13.ChainLines', WHERE WHAT IT READS IS OF BULK AT MOST 1048576: true; the input reads as it did. -/
def chainLinesUptoRow : OpenClaim := { program := "ytnbanbfnabhjjaa", sum := "4a505caba4f30559eb315929623f0251df3cb296fa3370bd96789c527a918c46", func := "stepstone/stepstonelaw13.ChainLines", spec := "chainLines", unfollowed := true, recurses := true, apart := false, narrowed := true }
def ChainLinesUptoSaid : Prop := chainLinesUptoRow.holds Try.pinned (OpenSpec.upto chainLinesSpec)

/-- 'stepstonelaw22.SlotsMany', WHERE WHAT IT READS IS OF BULK AT MOST 1048576: true; the input reads as it did. -/
def slotsManyUptoRow : OpenClaim := { program := "ytnbanbfnabhjjaa", sum := "4a505caba4f30559eb315929623f0251df3cb296fa3370bd96789c527a918c46", func := "stepstone/stepstonelaw22.SlotsMany", spec := "slotsMany", apart := false, narrowed := true }
def SlotsManyUptoSaid : Prop := slotsManyUptoRow.holds Try.pinned (OpenSpec.upto slotsManySpec)

/-- 'stepstonelaw22.SlotsPlay', WHERE WHAT IT READS IS OF BULK AT MOST 1048576: true; the input reads as it did. -/
def slotsPlayUptoRow : OpenClaim := { program := "ytnbanbfnabhjjaa", sum := "4a505caba4f30559eb315929623f0251df3cb296fa3370bd96789c527a918c46", func := "stepstone/stepstonelaw22.SlotsPlay", spec := "slotsPlay", apart := false, narrowed := true }
def SlotsPlayUptoSaid : Prop := slotsPlayUptoRow.holds Try.pinned (OpenSpec.upto slotsPlaySpec)

/-- 'stepstonelaw22.SlotsNil', WHERE WHAT IT READS IS OF BULK AT MOST 1048576: true; the input reads as it did. -/
def slotsNilUptoRow : OpenClaim := { program := "ytnbanbfnabhjjaa", sum := "4a505caba4f30559eb315929623f0251df3cb296fa3370bd96789c527a918c46", func := "stepstone/stepstonelaw22.SlotsNil", spec := "slotsNil", apart := false, narrowed := true }
def SlotsNilUptoSaid : Prop := slotsNilUptoRow.holds Try.pinned (OpenSpec.upto slotsNilSpec)

/-- 'stepstonelaw05.HashMany', WHERE WHAT IT READS IS OF BULK AT MOST 1048576: true; the input reads as it did. -/
def hashManyUptoRow : OpenClaim := { program := "ytnbanbfnabhjjaa", sum := "4a505caba4f30559eb315929623f0251df3cb296fa3370bd96789c527a918c46", func := "stepstone/stepstonelaw05.HashMany", spec := "hashMany", unfollowed := true, recurses := true, apart := false, narrowed := true }
def HashManyUptoSaid : Prop := hashManyUptoRow.holds Try.pinned (OpenSpec.upto hashManySpec)

/-- 'stepstonelaw05.HashSeeds', WHERE WHAT IT READS IS OF BULK AT MOST 1048576: true; the input reads as it did. -/
def hashSeedsUptoRow : OpenClaim := { program := "ytnbanbfnabhjjaa", sum := "4a505caba4f30559eb315929623f0251df3cb296fa3370bd96789c527a918c46", func := "stepstone/stepstonelaw05.HashSeeds", spec := "hashSeeds", unfollowed := true, recurses := true, apart := false, narrowed := true }
def HashSeedsUptoSaid : Prop := hashSeedsUptoRow.holds Try.pinned (OpenSpec.upto hashSeedsSpec)

/-- 'stepstonelaw05.HashNil', WHERE WHAT IT READS IS OF BULK AT MOST 1048576: true; the input reads as it did. -/
def hashNilUptoRow : OpenClaim := { program := "ytnbanbfnabhjjaa", sum := "4a505caba4f30559eb315929623f0251df3cb296fa3370bd96789c527a918c46", func := "stepstone/stepstonelaw05.HashNil", spec := "hashNil", unfollowed := true, recurses := true, apart := false, narrowed := true }
def HashNilUptoSaid : Prop := hashNilUptoRow.holds Try.pinned (OpenSpec.upto hashNilSpec)

/-- 'stepstonelaw05.HashPlays', WHERE WHAT IT READS IS OF BULK AT MOST 1048576: true; the input reads as it did. -/
def hashPlaysUptoRow : OpenClaim := { program := "ytnbanbfnabhjjaa", sum := "4a505caba4f30559eb315929623f0251df3cb296fa3370bd96789c527a918c46", func := "stepstone/stepstonelaw05.HashPlays", spec := "hashPlays", unfollowed := true, recurses := true, apart := false, narrowed := true }
def HashPlaysUptoSaid : Prop := hashPlaysUptoRow.holds Try.pinned (OpenSpec.upto hashPlaysSpec)

end Rows
end Go.Proofs.Ytnbanbfnabhjjaa
