/-
  No cell of these rows narrows 'for every input' (looked for: loops, veiled, ifaces, maps, wideKeys, modest, calm, conditions, laid).
  DERIVED. THE GIVEN ROWS OF THIS SEAT. 11 by the template 'for every input the law returns true; each argument reads behind the call as it read before'; 0 by the template 'total and deterministic' (their statements: YteagdmkedffplaaTotals.lean).
  GIVEN WITH THE SEED: the statements are not yours to turn. If you find one false, say at which input.
  Laid BY PROGRAM, IN A SANDBOX (cutbox-rows.mjs): the forced cells as the released guide's own fill.sh prints them over the translation 482a8ab722e6ab91… (all of the seat's roots in one cut). By AI agents, Wed Nov 11 2026. No macro, syntax, notation, axiom, sorry.
-/
import Derived.Test.YteagdmkedffplaaChecked
import GoSem.Claim
import GoSem.ClaimJoined
import GoSem.ClaimMapViews
import Derived.JoinedTies
import Derived.KernelRfl
namespace Go.Proofs.Yteagdmkedffplaa
/- THE CELL 'sum', in the pinned program and in every row, IS THE sha256 OF THE DUMP (.gsa) THAT YteagdmkedffplaaProg.lean LOADS. Nothing in Lean hashes anything: it is a label: what it is worth is what the hold of that sum in a sandbox is worth. -/
noncomputable def Try.pinned : Pinned := { name := "yteagdmkedffplaa", sum := "482a8ab722e6ab91fd64475643b80f0e1e686dcf0c3a44aea2ff7107a29ff89e", checked := Try.checked }
namespace Rows
def none {H : Type} : Left H := { results := [], args := [] }

/-- 'crossroadslaw2.TermOps': WHATEVER THE INPUT: true; the input reads as it did. -/
def termOpsSpec : ChangeSpec := { name := "termOps", fn := fun _ => fun
  | [d1, d2, d3] => { results := [.lit (.bool true)], args := [d1, d2, d3] }
  | _ => none }
def termOpsRow : OpenClaim := { program := "yteagdmkedffplaa", sum := "482a8ab722e6ab91fd64475643b80f0e1e686dcf0c3a44aea2ff7107a29ff89e", func := "crossroads/crossroadslaw2.TermOps", spec := "termOps", recurses := true, plainKeys := false, apart := false }
def TermOpsSaid : Prop := termOpsRow.holds Try.pinned (OpenSpec.ofChange termOpsSpec)

/-- ITS FALSE NEIGHBOUR: 'it returns false'. Refute it at one input. -/
def termOpsWrong : ChangeSpec := { name := "termOps", fn := fun _ => fun
  | [d1, d2, d3] => { results := [.lit (.bool false)], args := [d1, d2, d3] }
  | _ => none }
def TermOpsWrongFalsely : Prop := termOpsRow.holds Try.pinned (OpenSpec.ofChange termOpsWrong)

/-- 'crossroadslaw2.TermFolds': WHATEVER THE INPUT: true; the input reads as it did. -/
def termFoldsSpec : ChangeSpec := { name := "termFolds", fn := fun _ => fun
  | [d1, d2, d3] => { results := [.lit (.bool true)], args := [d1, d2, d3] }
  | _ => none }
def termFoldsRow : OpenClaim := { program := "yteagdmkedffplaa", sum := "482a8ab722e6ab91fd64475643b80f0e1e686dcf0c3a44aea2ff7107a29ff89e", func := "crossroads/crossroadslaw2.TermFolds", spec := "termFolds", recurses := true, plainKeys := false, apart := false }
def TermFoldsSaid : Prop := termFoldsRow.holds Try.pinned (OpenSpec.ofChange termFoldsSpec)

/-- ITS FALSE NEIGHBOUR: 'it returns false'. Refute it at one input. -/
def termFoldsWrong : ChangeSpec := { name := "termFolds", fn := fun _ => fun
  | [d1, d2, d3] => { results := [.lit (.bool false)], args := [d1, d2, d3] }
  | _ => none }
def TermFoldsWrongFalsely : Prop := termFoldsRow.holds Try.pinned (OpenSpec.ofChange termFoldsWrong)

/-- 'crossroadslaw3.FixWhole': WHATEVER THE INPUT: true; the input reads as it did. -/
def fixWholeSpec : ChangeSpec := { name := "fixWhole", fn := fun _ => fun
  | [d1, d2] => { results := [.lit (.bool true)], args := [d1, d2] }
  | _ => none }
def fixWholeRow : OpenClaim := { program := "yteagdmkedffplaa", sum := "482a8ab722e6ab91fd64475643b80f0e1e686dcf0c3a44aea2ff7107a29ff89e", func := "crossroads/crossroadslaw3.FixWhole", spec := "fixWhole", recurses := true, plainKeys := false, apart := false }
def FixWholeSaid : Prop := fixWholeRow.holds Try.pinned (OpenSpec.ofChange fixWholeSpec)

/-- ITS FALSE NEIGHBOUR: 'it returns false'. Refute it at one input. -/
def fixWholeWrong : ChangeSpec := { name := "fixWhole", fn := fun _ => fun
  | [d1, d2] => { results := [.lit (.bool false)], args := [d1, d2] }
  | _ => none }
def FixWholeWrongFalsely : Prop := fixWholeRow.holds Try.pinned (OpenSpec.ofChange fixWholeWrong)

/-- 'crossroadslaw2.TermValues': WHATEVER THE INPUT: true; the input reads as it did. -/
def termValuesSpec : ChangeSpec := { name := "termValues", fn := fun _ => fun
  | [d1, d2] => { results := [.lit (.bool true)], args := [d1, d2] }
  | _ => none }
def termValuesRow : OpenClaim := { program := "yteagdmkedffplaa", sum := "482a8ab722e6ab91fd64475643b80f0e1e686dcf0c3a44aea2ff7107a29ff89e", func := "crossroads/crossroadslaw2.TermValues", spec := "termValues", recurses := true, plainKeys := false, apart := false }
def TermValuesSaid : Prop := termValuesRow.holds Try.pinned (OpenSpec.ofChange termValuesSpec)

/-- ITS FALSE NEIGHBOUR: 'it returns false'. Refute it at one input. -/
def termValuesWrong : ChangeSpec := { name := "termValues", fn := fun _ => fun
  | [d1, d2] => { results := [.lit (.bool false)], args := [d1, d2] }
  | _ => none }
def TermValuesWrongFalsely : Prop := termValuesRow.holds Try.pinned (OpenSpec.ofChange termValuesWrong)

/-- 'crossroadslaw2.TermKnown': WHATEVER THE INPUT: true; the input reads as it did. -/
def termKnownSpec : ChangeSpec := { name := "termKnown", fn := fun _ => fun
  | [] => { results := [.lit (.bool true)], args := [] }
  | _ => none }
def termKnownRow : OpenClaim := { program := "yteagdmkedffplaa", sum := "482a8ab722e6ab91fd64475643b80f0e1e686dcf0c3a44aea2ff7107a29ff89e", func := "crossroads/crossroadslaw2.TermKnown", spec := "termKnown", recurses := true, plainKeys := false, apart := false }
def TermKnownSaid : Prop := termKnownRow.holds Try.pinned (OpenSpec.ofChange termKnownSpec)

/-- ITS FALSE NEIGHBOUR: 'it returns false'. Refute it at one input. -/
def termKnownWrong : ChangeSpec := { name := "termKnown", fn := fun _ => fun
  | [] => { results := [.lit (.bool false)], args := [] }
  | _ => none }
def TermKnownWrongFalsely : Prop := termKnownRow.holds Try.pinned (OpenSpec.ofChange termKnownWrong)

/-- 'crossroadslaw2.TermVars': WHATEVER THE INPUT: true; the input reads as it did. -/
def termVarsSpec : ChangeSpec := { name := "termVars", fn := fun _ => fun
  | [d1, d2, d3] => { results := [.lit (.bool true)], args := [d1, d2, d3] }
  | _ => none }
def termVarsRow : OpenClaim := { program := "yteagdmkedffplaa", sum := "482a8ab722e6ab91fd64475643b80f0e1e686dcf0c3a44aea2ff7107a29ff89e", func := "crossroads/crossroadslaw2.TermVars", spec := "termVars", recurses := true, plainKeys := false, apart := false }
def TermVarsSaid : Prop := termVarsRow.holds Try.pinned (OpenSpec.ofChange termVarsSpec)

/-- ITS FALSE NEIGHBOUR: 'it returns false'. Refute it at one input. -/
def termVarsWrong : ChangeSpec := { name := "termVars", fn := fun _ => fun
  | [d1, d2, d3] => { results := [.lit (.bool false)], args := [d1, d2, d3] }
  | _ => none }
def TermVarsWrongFalsely : Prop := termVarsRow.holds Try.pinned (OpenSpec.ofChange termVarsWrong)

/-- 'crossroadslaw2.TermWidths': WHATEVER THE INPUT: true; the input reads as it did. -/
def termWidthsSpec : ChangeSpec := { name := "termWidths", fn := fun _ => fun
  | [d1, d2] => { results := [.lit (.bool true)], args := [d1, d2] }
  | _ => none }
def termWidthsRow : OpenClaim := { program := "yteagdmkedffplaa", sum := "482a8ab722e6ab91fd64475643b80f0e1e686dcf0c3a44aea2ff7107a29ff89e", func := "crossroads/crossroadslaw2.TermWidths", spec := "termWidths", recurses := true, plainKeys := false, apart := false }
def TermWidthsSaid : Prop := termWidthsRow.holds Try.pinned (OpenSpec.ofChange termWidthsSpec)

/-- ITS FALSE NEIGHBOUR: 'it returns false'. Refute it at one input. -/
def termWidthsWrong : ChangeSpec := { name := "termWidths", fn := fun _ => fun
  | [d1, d2] => { results := [.lit (.bool false)], args := [d1, d2] }
  | _ => none }
def TermWidthsWrongFalsely : Prop := termWidthsRow.holds Try.pinned (OpenSpec.ofChange termWidthsWrong)

/-- 'crossroadslaw3.FixParts': WHATEVER THE INPUT: true; the input reads as it did. -/
def fixPartsSpec : ChangeSpec := { name := "fixParts", fn := fun _ => fun
  | [d1, d2, d3] => { results := [.lit (.bool true)], args := [d1, d2, d3] }
  | _ => none }
def fixPartsRow : OpenClaim := { program := "yteagdmkedffplaa", sum := "482a8ab722e6ab91fd64475643b80f0e1e686dcf0c3a44aea2ff7107a29ff89e", func := "crossroads/crossroadslaw3.FixParts", spec := "fixParts", recurses := true, plainKeys := false, apart := false }
def FixPartsSaid : Prop := fixPartsRow.holds Try.pinned (OpenSpec.ofChange fixPartsSpec)

/-- ITS FALSE NEIGHBOUR: 'it returns false'. Refute it at one input. -/
def fixPartsWrong : ChangeSpec := { name := "fixParts", fn := fun _ => fun
  | [d1, d2, d3] => { results := [.lit (.bool false)], args := [d1, d2, d3] }
  | _ => none }
def FixPartsWrongFalsely : Prop := fixPartsRow.holds Try.pinned (OpenSpec.ofChange fixPartsWrong)

/-- 'crossroadslaw3.FixKnown': WHATEVER THE INPUT: true; the input reads as it did. -/
def fixKnownSpec : ChangeSpec := { name := "fixKnown", fn := fun _ => fun
  | [] => { results := [.lit (.bool true)], args := [] }
  | _ => none }
def fixKnownRow : OpenClaim := { program := "yteagdmkedffplaa", sum := "482a8ab722e6ab91fd64475643b80f0e1e686dcf0c3a44aea2ff7107a29ff89e", func := "crossroads/crossroadslaw3.FixKnown", spec := "fixKnown", recurses := true, plainKeys := false, apart := false }
def FixKnownSaid : Prop := fixKnownRow.holds Try.pinned (OpenSpec.ofChange fixKnownSpec)

/-- ITS FALSE NEIGHBOUR: 'it returns false'. Refute it at one input. -/
def fixKnownWrong : ChangeSpec := { name := "fixKnown", fn := fun _ => fun
  | [] => { results := [.lit (.bool false)], args := [] }
  | _ => none }
def FixKnownWrongFalsely : Prop := fixKnownRow.holds Try.pinned (OpenSpec.ofChange fixKnownWrong)

/-- 'crossroadslaw3.FixMany': WHATEVER THE INPUT: true; the input reads as it did. -/
def fixManySpec : ChangeSpec := { name := "fixMany", fn := fun _ => fun
  | [d1, d2] => { results := [.lit (.bool true)], args := [d1, d2] }
  | _ => none }
def fixManyRow : OpenClaim := { program := "yteagdmkedffplaa", sum := "482a8ab722e6ab91fd64475643b80f0e1e686dcf0c3a44aea2ff7107a29ff89e", func := "crossroads/crossroadslaw3.FixMany", spec := "fixMany", recurses := true, plainKeys := false, apart := false }
def FixManySaid : Prop := fixManyRow.holds Try.pinned (OpenSpec.ofChange fixManySpec)

/-- ITS FALSE NEIGHBOUR: 'it returns false'. Refute it at one input. -/
def fixManyWrong : ChangeSpec := { name := "fixMany", fn := fun _ => fun
  | [d1, d2] => { results := [.lit (.bool false)], args := [d1, d2] }
  | _ => none }
def FixManyWrongFalsely : Prop := fixManyRow.holds Try.pinned (OpenSpec.ofChange fixManyWrong)

/-- 'crossroadslaw3.FixPuts': WHATEVER THE INPUT: true; the input reads as it did. -/
def fixPutsSpec : ChangeSpec := { name := "fixPuts", fn := fun _ => fun
  | [d1, d2, d3] => { results := [.lit (.bool true)], args := [d1, d2, d3] }
  | _ => none }
def fixPutsRow : OpenClaim := { program := "yteagdmkedffplaa", sum := "482a8ab722e6ab91fd64475643b80f0e1e686dcf0c3a44aea2ff7107a29ff89e", func := "crossroads/crossroadslaw3.FixPuts", spec := "fixPuts", recurses := true, plainKeys := false, apart := false }
def FixPutsSaid : Prop := fixPutsRow.holds Try.pinned (OpenSpec.ofChange fixPutsSpec)

/-- ITS FALSE NEIGHBOUR: 'it returns false'. Refute it at one input. -/
def fixPutsWrong : ChangeSpec := { name := "fixPuts", fn := fun _ => fun
  | [d1, d2, d3] => { results := [.lit (.bool false)], args := [d1, d2, d3] }
  | _ => none }
def FixPutsWrongFalsely : Prop := fixPutsRow.holds Try.pinned (OpenSpec.ofChange fixPutsWrong)

/- THE SECOND FORM. 'bulk': how many values and letters a reading holds, each counted each time it is reached (what is shared counts as often as it is met; a slice's spare places count too). A statement '..UptoSaid' is the law's where the arguments, and the package variables that the reading takes, are together of bulk at most 1048576: NARROWER than '..Said'. Prove '..Said' where nothing that the law and all that it calls make is longer than what came in: it says more and counts as full. Else prove '..UptoSaid'. A law counts once. -/
mutual
def uptoBulk {H : Type} : DataW H → Nat
  | .lit (.string bytes) => bytes.length + 1
  | .lit _ => 1
  | .nil => 1
  | .ptr d => uptoBulk d + 1
  | .slice elems spare => uptoBulkAll elems + uptoBulkAll spare + 1
  | .agg parts => uptoBulkAll parts + 1
  | .iface _ d => uptoBulk d + 1
  | .map entries => uptoBulkEntries entries + 1
  | .held _ => 1
def uptoBulkAll {H : Type} : List (DataW H) → Nat
  | [] => 0
  | d :: r => uptoBulk d + uptoBulkAll r
def uptoBulkEntries {H : Type} : List (Lit × DataW H) → Nat
  | [] => 0
  | x :: r => uptoBulkEntry x + uptoBulkEntries r
def uptoBulkEntry {H : Type} : Lit × DataW H → Nat
  | (.string bytes, d) => bytes.length + uptoBulk d + 1
  | (_, d) => uptoBulk d + 1
 end
def uptoSmall : (H : Type) → List (DataW H) → Bool := fun _ ds => decide (uptoBulkAll ds ≤ 1048576)
def OpenSpec.upto (s : _root_.Go.ChangeSpec) : _root_.Go.OpenSpec := { _root_.Go.OpenSpec.ofChange s with cond := some uptoSmall }

/-- 'crossroadslaw2.TermOps', WHERE WHAT IT READS IS OF BULK AT MOST 1048576: true; the input reads as it did. -/
def termOpsUptoRow : OpenClaim := { program := "yteagdmkedffplaa", sum := "482a8ab722e6ab91fd64475643b80f0e1e686dcf0c3a44aea2ff7107a29ff89e", func := "crossroads/crossroadslaw2.TermOps", spec := "termOps", recurses := true, plainKeys := false, apart := false, narrowed := true }
def TermOpsUptoSaid : Prop := termOpsUptoRow.holds Try.pinned (OpenSpec.upto termOpsSpec)

/-- 'crossroadslaw2.TermFolds', WHERE WHAT IT READS IS OF BULK AT MOST 1048576: true; the input reads as it did. -/
def termFoldsUptoRow : OpenClaim := { program := "yteagdmkedffplaa", sum := "482a8ab722e6ab91fd64475643b80f0e1e686dcf0c3a44aea2ff7107a29ff89e", func := "crossroads/crossroadslaw2.TermFolds", spec := "termFolds", recurses := true, plainKeys := false, apart := false, narrowed := true }
def TermFoldsUptoSaid : Prop := termFoldsUptoRow.holds Try.pinned (OpenSpec.upto termFoldsSpec)

/-- 'crossroadslaw3.FixWhole', WHERE WHAT IT READS IS OF BULK AT MOST 1048576: true; the input reads as it did. -/
def fixWholeUptoRow : OpenClaim := { program := "yteagdmkedffplaa", sum := "482a8ab722e6ab91fd64475643b80f0e1e686dcf0c3a44aea2ff7107a29ff89e", func := "crossroads/crossroadslaw3.FixWhole", spec := "fixWhole", recurses := true, plainKeys := false, apart := false, narrowed := true }
def FixWholeUptoSaid : Prop := fixWholeUptoRow.holds Try.pinned (OpenSpec.upto fixWholeSpec)

/-- 'crossroadslaw2.TermValues', WHERE WHAT IT READS IS OF BULK AT MOST 1048576: true; the input reads as it did. -/
def termValuesUptoRow : OpenClaim := { program := "yteagdmkedffplaa", sum := "482a8ab722e6ab91fd64475643b80f0e1e686dcf0c3a44aea2ff7107a29ff89e", func := "crossroads/crossroadslaw2.TermValues", spec := "termValues", recurses := true, plainKeys := false, apart := false, narrowed := true }
def TermValuesUptoSaid : Prop := termValuesUptoRow.holds Try.pinned (OpenSpec.upto termValuesSpec)

/-- 'crossroadslaw2.TermKnown', WHERE WHAT IT READS IS OF BULK AT MOST 1048576: true; the input reads as it did. -/
def termKnownUptoRow : OpenClaim := { program := "yteagdmkedffplaa", sum := "482a8ab722e6ab91fd64475643b80f0e1e686dcf0c3a44aea2ff7107a29ff89e", func := "crossroads/crossroadslaw2.TermKnown", spec := "termKnown", recurses := true, plainKeys := false, apart := false, narrowed := true }
def TermKnownUptoSaid : Prop := termKnownUptoRow.holds Try.pinned (OpenSpec.upto termKnownSpec)

/-- 'crossroadslaw2.TermVars', WHERE WHAT IT READS IS OF BULK AT MOST 1048576: true; the input reads as it did. -/
def termVarsUptoRow : OpenClaim := { program := "yteagdmkedffplaa", sum := "482a8ab722e6ab91fd64475643b80f0e1e686dcf0c3a44aea2ff7107a29ff89e", func := "crossroads/crossroadslaw2.TermVars", spec := "termVars", recurses := true, plainKeys := false, apart := false, narrowed := true }
def TermVarsUptoSaid : Prop := termVarsUptoRow.holds Try.pinned (OpenSpec.upto termVarsSpec)

/-- 'crossroadslaw2.TermWidths', WHERE WHAT IT READS IS OF BULK AT MOST 1048576: true; the input reads as it did. -/
def termWidthsUptoRow : OpenClaim := { program := "yteagdmkedffplaa", sum := "482a8ab722e6ab91fd64475643b80f0e1e686dcf0c3a44aea2ff7107a29ff89e", func := "crossroads/crossroadslaw2.TermWidths", spec := "termWidths", recurses := true, plainKeys := false, apart := false, narrowed := true }
def TermWidthsUptoSaid : Prop := termWidthsUptoRow.holds Try.pinned (OpenSpec.upto termWidthsSpec)

/-- 'crossroadslaw3.FixParts', WHERE WHAT IT READS IS OF BULK AT MOST 1048576: true; the input reads as it did. -/
def fixPartsUptoRow : OpenClaim := { program := "yteagdmkedffplaa", sum := "482a8ab722e6ab91fd64475643b80f0e1e686dcf0c3a44aea2ff7107a29ff89e", func := "crossroads/crossroadslaw3.FixParts", spec := "fixParts", recurses := true, plainKeys := false, apart := false, narrowed := true }
def FixPartsUptoSaid : Prop := fixPartsUptoRow.holds Try.pinned (OpenSpec.upto fixPartsSpec)

/-- 'crossroadslaw3.FixKnown', WHERE WHAT IT READS IS OF BULK AT MOST 1048576: true; the input reads as it did. -/
def fixKnownUptoRow : OpenClaim := { program := "yteagdmkedffplaa", sum := "482a8ab722e6ab91fd64475643b80f0e1e686dcf0c3a44aea2ff7107a29ff89e", func := "crossroads/crossroadslaw3.FixKnown", spec := "fixKnown", recurses := true, plainKeys := false, apart := false, narrowed := true }
def FixKnownUptoSaid : Prop := fixKnownUptoRow.holds Try.pinned (OpenSpec.upto fixKnownSpec)

/-- 'crossroadslaw3.FixMany', WHERE WHAT IT READS IS OF BULK AT MOST 1048576: true; the input reads as it did. -/
def fixManyUptoRow : OpenClaim := { program := "yteagdmkedffplaa", sum := "482a8ab722e6ab91fd64475643b80f0e1e686dcf0c3a44aea2ff7107a29ff89e", func := "crossroads/crossroadslaw3.FixMany", spec := "fixMany", recurses := true, plainKeys := false, apart := false, narrowed := true }
def FixManyUptoSaid : Prop := fixManyUptoRow.holds Try.pinned (OpenSpec.upto fixManySpec)

/-- 'crossroadslaw3.FixPuts', WHERE WHAT IT READS IS OF BULK AT MOST 1048576: true; the input reads as it did. -/
def fixPutsUptoRow : OpenClaim := { program := "yteagdmkedffplaa", sum := "482a8ab722e6ab91fd64475643b80f0e1e686dcf0c3a44aea2ff7107a29ff89e", func := "crossroads/crossroadslaw3.FixPuts", spec := "fixPuts", recurses := true, plainKeys := false, apart := false, narrowed := true }
def FixPutsUptoSaid : Prop := fixPutsUptoRow.holds Try.pinned (OpenSpec.upto fixPutsSpec)

end Rows
end Go.Proofs.Yteagdmkedffplaa
