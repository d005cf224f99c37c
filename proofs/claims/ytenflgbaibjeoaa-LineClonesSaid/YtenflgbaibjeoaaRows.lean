/-
  No cell of these rows narrows 'for every input' (looked for: loops, veiled, ifaces, maps, wideKeys, modest, calm, conditions, laid).
  DERIVED. THE GIVEN ROWS OF THIS SEAT. 11 by the template 'for every input the law returns true; each argument reads behind the call as it read before'; 0 by the template 'total and deterministic' (their statements: YtenflgbaibjeoaaTotals.lean).
  GIVEN WITH THE SEED: the statements are not yours to turn. If you find one false, say at which input.
  Laid BY PROGRAM, IN A SANDBOX (cutbox-rows.mjs): the forced cells as the released guide's own fill.sh prints them over the translation f47eded9c2efd1eb… (all of the seat's roots in one cut). By AI agents, Wed Nov 11 2026. No macro, syntax, notation, axiom, sorry.
-/
import Derived.Test.YtenflgbaibjeoaaChecked
import GoSem.Claim
import GoSem.ClaimJoined
import GoSem.ClaimMapViews
import Derived.JoinedTies
import Derived.KernelRfl
namespace Go.Proofs.Ytenflgbaibjeoaa
/- THE CELL 'sum', in the pinned program and in every row, IS THE sha256 OF THE DUMP (.gsa) THAT YtenflgbaibjeoaaProg.lean LOADS. Nothing in Lean hashes anything: it is a label: what it is worth is what the hold of that sum in a sandbox is worth. -/
noncomputable def Try.pinned : Pinned := { name := "ytenflgbaibjeoaa", sum := "f47eded9c2efd1ebf671505b2dbe22c7674e9b147d8f7f321a7cb9214aeb2949", checked := Try.checked }
namespace Rows
def none {H : Type} : Left H := { results := [], args := [] }

/-- 'bulletinlaw31.LineDelivers': WHATEVER THE INPUT: true; the input reads as it did. -/
def lineDeliversSpec : ChangeSpec := { name := "lineDelivers", fn := fun _ => fun
  | [d1, d2, d3] => { results := [.lit (.bool true)], args := [d1, d2, d3] }
  | _ => none }
def lineDeliversRow : OpenClaim := { program := "ytenflgbaibjeoaa", sum := "f47eded9c2efd1ebf671505b2dbe22c7674e9b147d8f7f321a7cb9214aeb2949", func := "bulletin/bulletinlaw31.LineDelivers", spec := "lineDelivers", apart := false }
def LineDeliversSaid : Prop := lineDeliversRow.holds Try.pinned (OpenSpec.ofChange lineDeliversSpec)

/-- ITS FALSE NEIGHBOUR: 'it returns false'. Refute it at one input. -/
def lineDeliversWrong : ChangeSpec := { name := "lineDelivers", fn := fun _ => fun
  | [d1, d2, d3] => { results := [.lit (.bool false)], args := [d1, d2, d3] }
  | _ => none }
def LineDeliversWrongFalsely : Prop := lineDeliversRow.holds Try.pinned (OpenSpec.ofChange lineDeliversWrong)

/-- 'bulletinlaw31.LineConfigs': WHATEVER THE INPUT: true; the input reads as it did. -/
def lineConfigsSpec : ChangeSpec := { name := "lineConfigs", fn := fun _ => fun
  | [d1, d2] => { results := [.lit (.bool true)], args := [d1, d2] }
  | _ => none }
def lineConfigsRow : OpenClaim := { program := "ytenflgbaibjeoaa", sum := "f47eded9c2efd1ebf671505b2dbe22c7674e9b147d8f7f321a7cb9214aeb2949", func := "bulletin/bulletinlaw31.LineConfigs", spec := "lineConfigs", apart := false }
def LineConfigsSaid : Prop := lineConfigsRow.holds Try.pinned (OpenSpec.ofChange lineConfigsSpec)

/-- ITS FALSE NEIGHBOUR: 'it returns false'. Refute it at one input. -/
def lineConfigsWrong : ChangeSpec := { name := "lineConfigs", fn := fun _ => fun
  | [d1, d2] => { results := [.lit (.bool false)], args := [d1, d2] }
  | _ => none }
def LineConfigsWrongFalsely : Prop := lineConfigsRow.holds Try.pinned (OpenSpec.ofChange lineConfigsWrong)

/-- 'bulletinlaw31.LineStreams': WHATEVER THE INPUT: true; the input reads as it did. -/
def lineStreamsSpec : ChangeSpec := { name := "lineStreams", fn := fun _ => fun
  | [d1, d2] => { results := [.lit (.bool true)], args := [d1, d2] }
  | _ => none }
def lineStreamsRow : OpenClaim := { program := "ytenflgbaibjeoaa", sum := "f47eded9c2efd1ebf671505b2dbe22c7674e9b147d8f7f321a7cb9214aeb2949", func := "bulletin/bulletinlaw31.LineStreams", spec := "lineStreams", apart := false }
def LineStreamsSaid : Prop := lineStreamsRow.holds Try.pinned (OpenSpec.ofChange lineStreamsSpec)

/-- ITS FALSE NEIGHBOUR: 'it returns false'. Refute it at one input. -/
def lineStreamsWrong : ChangeSpec := { name := "lineStreams", fn := fun _ => fun
  | [d1, d2] => { results := [.lit (.bool false)], args := [d1, d2] }
  | _ => none }
def LineStreamsWrongFalsely : Prop := lineStreamsRow.holds Try.pinned (OpenSpec.ofChange lineStreamsWrong)

/-- 'bulletinlaw31.LineCapacity': WHATEVER THE INPUT: true; the input reads as it did. -/
def lineCapacitySpec : ChangeSpec := { name := "lineCapacity", fn := fun _ => fun
  | [d1, d2, d3] => { results := [.lit (.bool true)], args := [d1, d2, d3] }
  | _ => none }
def lineCapacityRow : OpenClaim := { program := "ytenflgbaibjeoaa", sum := "f47eded9c2efd1ebf671505b2dbe22c7674e9b147d8f7f321a7cb9214aeb2949", func := "bulletin/bulletinlaw31.LineCapacity", spec := "lineCapacity", apart := false }
def LineCapacitySaid : Prop := lineCapacityRow.holds Try.pinned (OpenSpec.ofChange lineCapacitySpec)

/-- ITS FALSE NEIGHBOUR: 'it returns false'. Refute it at one input. -/
def lineCapacityWrong : ChangeSpec := { name := "lineCapacity", fn := fun _ => fun
  | [d1, d2, d3] => { results := [.lit (.bool false)], args := [d1, d2, d3] }
  | _ => none }
def LineCapacityWrongFalsely : Prop := lineCapacityRow.holds Try.pinned (OpenSpec.ofChange lineCapacityWrong)

/-- 'bulletinlaw31.LineNext': WHATEVER THE INPUT: true; the input reads as it did. -/
def lineNextSpec : ChangeSpec := { name := "lineNext", fn := fun _ => fun
  | [d1, d2] => { results := [.lit (.bool true)], args := [d1, d2] }
  | _ => none }
def lineNextRow : OpenClaim := { program := "ytenflgbaibjeoaa", sum := "f47eded9c2efd1ebf671505b2dbe22c7674e9b147d8f7f321a7cb9214aeb2949", func := "bulletin/bulletinlaw31.LineNext", spec := "lineNext", apart := false }
def LineNextSaid : Prop := lineNextRow.holds Try.pinned (OpenSpec.ofChange lineNextSpec)

/-- ITS FALSE NEIGHBOUR: 'it returns false'. Refute it at one input. -/
def lineNextWrong : ChangeSpec := { name := "lineNext", fn := fun _ => fun
  | [d1, d2] => { results := [.lit (.bool false)], args := [d1, d2] }
  | _ => none }
def LineNextWrongFalsely : Prop := lineNextRow.holds Try.pinned (OpenSpec.ofChange lineNextWrong)

/-- 'bulletinlaw31.LineOperations': WHATEVER THE INPUT: true; the input reads as it did. -/
def lineOperationsSpec : ChangeSpec := { name := "lineOperations", fn := fun _ => fun
  | [d1, d2] => { results := [.lit (.bool true)], args := [d1, d2] }
  | _ => none }
def lineOperationsRow : OpenClaim := { program := "ytenflgbaibjeoaa", sum := "f47eded9c2efd1ebf671505b2dbe22c7674e9b147d8f7f321a7cb9214aeb2949", func := "bulletin/bulletinlaw31.LineOperations", spec := "lineOperations", apart := false }
def LineOperationsSaid : Prop := lineOperationsRow.holds Try.pinned (OpenSpec.ofChange lineOperationsSpec)

/-- ITS FALSE NEIGHBOUR: 'it returns false'. Refute it at one input. -/
def lineOperationsWrong : ChangeSpec := { name := "lineOperations", fn := fun _ => fun
  | [d1, d2] => { results := [.lit (.bool false)], args := [d1, d2] }
  | _ => none }
def LineOperationsWrongFalsely : Prop := lineOperationsRow.holds Try.pinned (OpenSpec.ofChange lineOperationsWrong)

/-- 'bulletinlaw31.LineDrops': WHATEVER THE INPUT: true; the input reads as it did. -/
def lineDropsSpec : ChangeSpec := { name := "lineDrops", fn := fun _ => fun
  | [d1, d2, d3] => { results := [.lit (.bool true)], args := [d1, d2, d3] }
  | _ => none }
def lineDropsRow : OpenClaim := { program := "ytenflgbaibjeoaa", sum := "f47eded9c2efd1ebf671505b2dbe22c7674e9b147d8f7f321a7cb9214aeb2949", func := "bulletin/bulletinlaw31.LineDrops", spec := "lineDrops", apart := false }
def LineDropsSaid : Prop := lineDropsRow.holds Try.pinned (OpenSpec.ofChange lineDropsSpec)

/-- ITS FALSE NEIGHBOUR: 'it returns false'. Refute it at one input. -/
def lineDropsWrong : ChangeSpec := { name := "lineDrops", fn := fun _ => fun
  | [d1, d2, d3] => { results := [.lit (.bool false)], args := [d1, d2, d3] }
  | _ => none }
def LineDropsWrongFalsely : Prop := lineDropsRow.holds Try.pinned (OpenSpec.ofChange lineDropsWrong)

/-- 'bulletinlaw31.LineDirections': WHATEVER THE INPUT: true; the input reads as it did. -/
def lineDirectionsSpec : ChangeSpec := { name := "lineDirections", fn := fun _ => fun
  | [d1, d2] => { results := [.lit (.bool true)], args := [d1, d2] }
  | _ => none }
def lineDirectionsRow : OpenClaim := { program := "ytenflgbaibjeoaa", sum := "f47eded9c2efd1ebf671505b2dbe22c7674e9b147d8f7f321a7cb9214aeb2949", func := "bulletin/bulletinlaw31.LineDirections", spec := "lineDirections", apart := false }
def LineDirectionsSaid : Prop := lineDirectionsRow.holds Try.pinned (OpenSpec.ofChange lineDirectionsSpec)

/-- ITS FALSE NEIGHBOUR: 'it returns false'. Refute it at one input. -/
def lineDirectionsWrong : ChangeSpec := { name := "lineDirections", fn := fun _ => fun
  | [d1, d2] => { results := [.lit (.bool false)], args := [d1, d2] }
  | _ => none }
def LineDirectionsWrongFalsely : Prop := lineDirectionsRow.holds Try.pinned (OpenSpec.ofChange lineDirectionsWrong)

/-- 'bulletinlaw31.LineDivision': WHATEVER THE INPUT: true; the input reads as it did. -/
def lineDivisionSpec : ChangeSpec := { name := "lineDivision", fn := fun _ => fun
  | [d1, d2, d3] => { results := [.lit (.bool true)], args := [d1, d2, d3] }
  | _ => none }
def lineDivisionRow : OpenClaim := { program := "ytenflgbaibjeoaa", sum := "f47eded9c2efd1ebf671505b2dbe22c7674e9b147d8f7f321a7cb9214aeb2949", func := "bulletin/bulletinlaw31.LineDivision", spec := "lineDivision", unfollowed := true, recurses := true, apart := false }
def LineDivisionSaid : Prop := lineDivisionRow.holds Try.pinned (OpenSpec.ofChange lineDivisionSpec)

/-- ITS FALSE NEIGHBOUR: 'it returns false'. Refute it at one input. -/
def lineDivisionWrong : ChangeSpec := { name := "lineDivision", fn := fun _ => fun
  | [d1, d2, d3] => { results := [.lit (.bool false)], args := [d1, d2, d3] }
  | _ => none }
def LineDivisionWrongFalsely : Prop := lineDivisionRow.holds Try.pinned (OpenSpec.ofChange lineDivisionWrong)

/-- 'bulletinlaw31.LineClones': WHATEVER THE INPUT: true; the input reads as it did. -/
def lineClonesSpec : ChangeSpec := { name := "lineClones", fn := fun _ => fun
  | [d1, d2, d3] => { results := [.lit (.bool true)], args := [d1, d2, d3] }
  | _ => none }
def lineClonesRow : OpenClaim := { program := "ytenflgbaibjeoaa", sum := "f47eded9c2efd1ebf671505b2dbe22c7674e9b147d8f7f321a7cb9214aeb2949", func := "bulletin/bulletinlaw31.LineClones", spec := "lineClones", unfollowed := true, recurses := true, apart := false }
def LineClonesSaid : Prop := lineClonesRow.holds Try.pinned (OpenSpec.ofChange lineClonesSpec)

/-- ITS FALSE NEIGHBOUR: 'it returns false'. Refute it at one input. -/
def lineClonesWrong : ChangeSpec := { name := "lineClones", fn := fun _ => fun
  | [d1, d2, d3] => { results := [.lit (.bool false)], args := [d1, d2, d3] }
  | _ => none }
def LineClonesWrongFalsely : Prop := lineClonesRow.holds Try.pinned (OpenSpec.ofChange lineClonesWrong)

/-- 'bulletinlaw31.LineNil': WHATEVER THE INPUT: true; the input reads as it did. -/
def lineNilSpec : ChangeSpec := { name := "lineNil", fn := fun _ => fun
  | [d1, d2] => { results := [.lit (.bool true)], args := [d1, d2] }
  | _ => none }
def lineNilRow : OpenClaim := { program := "ytenflgbaibjeoaa", sum := "f47eded9c2efd1ebf671505b2dbe22c7674e9b147d8f7f321a7cb9214aeb2949", func := "bulletin/bulletinlaw31.LineNil", spec := "lineNil", unfollowed := true, recurses := true, apart := false }
def LineNilSaid : Prop := lineNilRow.holds Try.pinned (OpenSpec.ofChange lineNilSpec)

/-- ITS FALSE NEIGHBOUR: 'it returns false'. Refute it at one input. -/
def lineNilWrong : ChangeSpec := { name := "lineNil", fn := fun _ => fun
  | [d1, d2] => { results := [.lit (.bool false)], args := [d1, d2] }
  | _ => none }
def LineNilWrongFalsely : Prop := lineNilRow.holds Try.pinned (OpenSpec.ofChange lineNilWrong)

/- THE SECOND FORM. 'bulk': how many values and letters a reading holds, each counted each time it is reached (what is shared counts as often as it is met; a slice's spare places count too). A statement '..UptoSaid' is the law's where the arguments, and the package variables that the reading takes, are together of bulk at most 1048576: NARROWER than '..Said'. Prove '..Said' where nothing that the law and all that it calls make is longer than what came in: it says more and counts as full. Else prove '..UptoSaid'. A law counts once. -/
mutual
def uptoBulk {H : Type} : DataW H → Nat
  | .lit (.string bytes) => bytes.length + 1
  | .lit _ => 1
  | .nil => 1
  | .ptr d => uptoBulk d + 1
  | .slice elems spare => uptoBulkAll elems + uptoBulkAll spare + 1
  | .agg parts => uptoBulkAll parts + 1
  | .iface _ d => uptoBulk d + 1
  | .map entries => uptoBulkEntries entries + 1
  | .held _ => 1
def uptoBulkAll {H : Type} : List (DataW H) → Nat
  | [] => 0
  | d :: r => uptoBulk d + uptoBulkAll r
def uptoBulkEntries {H : Type} : List (Lit × DataW H) → Nat
  | [] => 0
  | x :: r => uptoBulkEntry x + uptoBulkEntries r
def uptoBulkEntry {H : Type} : Lit × DataW H → Nat
  | (.string bytes, d) => bytes.length + uptoBulk d + 1
  | (_, d) => uptoBulk d + 1
 end
def uptoSmall : (H : Type) → List (DataW H) → Bool := fun _ ds => decide (uptoBulkAll ds ≤ 1048576)
def OpenSpec.upto (s : _root_.Go.ChangeSpec) : _root_.Go.OpenSpec := { _root_.Go.OpenSpec.ofChange s with cond := some uptoSmall }

/-- 'bulletinlaw31.LineDelivers', WHERE WHAT IT READS IS OF BULK AT MOST 1048576: true; the input reads as it did. -/
def lineDeliversUptoRow : OpenClaim := { program := "ytenflgbaibjeoaa", sum := "f47eded9c2efd1ebf671505b2dbe22c7674e9b147d8f7f321a7cb9214aeb2949", func := "bulletin/bulletinlaw31.LineDelivers", spec := "lineDelivers", apart := false, narrowed := true }
def LineDeliversUptoSaid : Prop := lineDeliversUptoRow.holds Try.pinned (OpenSpec.upto lineDeliversSpec)

/-- 'bulletinlaw31.LineConfigs', WHERE WHAT IT READS IS OF BULK AT MOST 1048576: true; the input reads as it did. -/
def lineConfigsUptoRow : OpenClaim := { program := "ytenflgbaibjeoaa", sum := "f47eded9c2efd1ebf671505b2dbe22c7674e9b147d8f7f321a7cb9214aeb2949", func := "bulletin/bulletinlaw31.LineConfigs", spec := "lineConfigs", apart := false, narrowed := true }
def LineConfigsUptoSaid : Prop := lineConfigsUptoRow.holds Try.pinned (OpenSpec.upto lineConfigsSpec)

/-- 'bulletinlaw31.LineStreams', WHERE WHAT IT READS IS OF BULK AT MOST 1048576: true; the input reads as it did. -/
def lineStreamsUptoRow : OpenClaim := { program := "ytenflgbaibjeoaa", sum := "f47eded9c2efd1ebf671505b2dbe22c7674e9b147d8f7f321a7cb9214aeb2949", func := "bulletin/bulletinlaw31.LineStreams", spec := "lineStreams", apart := false, narrowed := true }
def LineStreamsUptoSaid : Prop := lineStreamsUptoRow.holds Try.pinned (OpenSpec.upto lineStreamsSpec)

/-- 'bulletinlaw31.LineCapacity', WHERE WHAT IT READS IS OF BULK AT MOST 1048576: true; the input reads as it did. -/
def lineCapacityUptoRow : OpenClaim := { program := "ytenflgbaibjeoaa", sum := "f47eded9c2efd1ebf671505b2dbe22c7674e9b147d8f7f321a7cb9214aeb2949", func := "bulletin/bulletinlaw31.LineCapacity", spec := "lineCapacity", apart := false, narrowed := true }
def LineCapacityUptoSaid : Prop := lineCapacityUptoRow.holds Try.pinned (OpenSpec.upto lineCapacitySpec)

/-- 'bulletinlaw31.LineNext', WHERE WHAT IT READS IS OF BULK AT MOST 1048576: true; the input reads as it did. -/
def lineNextUptoRow : OpenClaim := { program := "ytenflgbaibjeoaa", sum := "f47eded9c2efd1ebf671505b2dbe22c7674e9b147d8f7f321a7cb9214aeb2949", func := "bulletin/bulletinlaw31.LineNext", spec := "lineNext", apart := false, narrowed := true }
def LineNextUptoSaid : Prop := lineNextUptoRow.holds Try.pinned (OpenSpec.upto lineNextSpec)

/-- 'bulletinlaw31.LineOperations', WHERE WHAT IT READS IS OF BULK AT MOST 1048576: true; the input reads as it did. -/
def lineOperationsUptoRow : OpenClaim := { program := "ytenflgbaibjeoaa", sum := "f47eded9c2efd1ebf671505b2dbe22c7674e9b147d8f7f321a7cb9214aeb2949", func := "bulletin/bulletinlaw31.LineOperations", spec := "lineOperations", apart := false, narrowed := true }
def LineOperationsUptoSaid : Prop := lineOperationsUptoRow.holds Try.pinned (OpenSpec.upto lineOperationsSpec)

/-- 'bulletinlaw31.LineDrops', WHERE WHAT IT READS IS OF BULK AT MOST 1048576: true; the input reads as it did. -/
def lineDropsUptoRow : OpenClaim := { program := "ytenflgbaibjeoaa", sum := "f47eded9c2efd1ebf671505b2dbe22c7674e9b147d8f7f321a7cb9214aeb2949", func := "bulletin/bulletinlaw31.LineDrops", spec := "lineDrops", apart := false, narrowed := true }
def LineDropsUptoSaid : Prop := lineDropsUptoRow.holds Try.pinned (OpenSpec.upto lineDropsSpec)

/-- 'bulletinlaw31.LineDirections', WHERE WHAT IT READS IS OF BULK AT MOST 1048576: true; the input reads as it did. -/
def lineDirectionsUptoRow : OpenClaim := { program := "ytenflgbaibjeoaa", sum := "f47eded9c2efd1ebf671505b2dbe22c7674e9b147d8f7f321a7cb9214aeb2949", func := "bulletin/bulletinlaw31.LineDirections", spec := "lineDirections", apart := false, narrowed := true }
def LineDirectionsUptoSaid : Prop := lineDirectionsUptoRow.holds Try.pinned (OpenSpec.upto lineDirectionsSpec)

/-- 'bulletinlaw31.LineDivision', WHERE WHAT IT READS IS OF BULK AT MOST 1048576: true; the input reads as it did. -/
def lineDivisionUptoRow : OpenClaim := { program := "ytenflgbaibjeoaa", sum := "f47eded9c2efd1ebf671505b2dbe22c7674e9b147d8f7f321a7cb9214aeb2949", func := "bulletin/bulletinlaw31.LineDivision", spec := "lineDivision", unfollowed := true, recurses := true, apart := false, narrowed := true }
def LineDivisionUptoSaid : Prop := lineDivisionUptoRow.holds Try.pinned (OpenSpec.upto lineDivisionSpec)

/-- 'bulletinlaw31.LineClones', WHERE WHAT IT READS IS OF BULK AT MOST 1048576: true; the input reads as it did. -/
def lineClonesUptoRow : OpenClaim := { program := "ytenflgbaibjeoaa", sum := "f47eded9c2efd1ebf671505b2dbe22c7674e9b147d8f7f321a7cb9214aeb2949", func := "bulletin/bulletinlaw31.LineClones", spec := "lineClones", unfollowed := true, recurses := true, apart := false, narrowed := true }
def LineClonesUptoSaid : Prop := lineClonesUptoRow.holds Try.pinned (OpenSpec.upto lineClonesSpec)

/-- 'bulletinlaw31.LineNil', WHERE WHAT IT READS IS OF BULK AT MOST 1048576: true; the input reads as it did. -/
def lineNilUptoRow : OpenClaim := { program := "ytenflgbaibjeoaa", sum := "f47eded9c2efd1ebf671505b2dbe22c7674e9b147d8f7f321a7cb9214aeb2949", func := "bulletin/bulletinlaw31.LineNil", spec := "lineNil", unfollowed := true, recurses := true, apart := false, narrowed := true }
def LineNilUptoSaid : Prop := lineNilUptoRow.holds Try.pinned (OpenSpec.upto lineNilSpec)

end Rows
end Go.Proofs.Ytenflgbaibjeoaa
