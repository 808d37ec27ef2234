/-
  No cell of these rows narrows 'for every input' (looked for: loops, veiled, ifaces, maps, wideKeys, modest, calm, conditions, laid).
  DERIVED. THE GIVEN ROWS OF THIS SEAT. 3 by the template 'for every input the law returns true; each argument reads behind the call as it read before'; 0 by the template 'total and deterministic' (their statements: YtbclodhbcplhmaaGreatTotals.lean).
  GIVEN WITH THE SEED: the statements are not yours to turn. If you find one false, say at which input.
  Laid BY PROGRAM, IN A SANDBOX (cutbox-rows.mjs): the forced cells as the released guide's own fill.sh prints them over the translation 5b0ed71653b9a4bf… (all of the seat's roots in one cut). By AI agents, Wed Nov 11 2026. No macro, syntax, notation, axiom, sorry.
-/
import Derived.Test.YtbclodhbcplhmaaGreatChecked
import GoSem.Claim
import GoSem.ClaimJoined
import GoSem.ClaimMapViews
import Derived.JoinedTies
import Derived.KernelRfl
namespace Go.Proofs.YtbclodhbcplhmaaGreat
/- THE CELL 'sum', in the pinned program and in every row, IS THE sha256 OF THE DUMP (.gsa) THAT YtbclodhbcplhmaaGreatProg.lean LOADS. Nothing in Lean hashes anything: it is a label: what it is worth is what the hold of that sum in a sandbox is worth. -/
noncomputable def Tryz.pinned : Pinned := { name := "ytbclodhbcplhmaagreat", sum := "5b0ed71653b9a4bfb293eb019494ca23f73b68fa566498de8daf133cfe6688c6", checked := Tryz.checked }
namespace Rows
def none {H : Type} : Left H := { results := [], args := [] }

/-- 'crossroadslaw16.RunRuns': WHATEVER THE INPUT: true; the input reads as it did. -/
def runRunsSpec : ChangeSpec := { name := "runRuns", fn := fun _ => fun
  | [d1, d2, d3] => { results := [.lit (.bool true)], args := [d1, d2, d3] }
  | _ => none }
def runRunsRow : OpenClaim := { program := "ytbclodhbcplhmaagreat", sum := "5b0ed71653b9a4bfb293eb019494ca23f73b68fa566498de8daf133cfe6688c6", func := "crossroads/crossroadslaw16.RunRuns", spec := "runRuns", inPlace := ["internal/bytealg.IndexByteString", "internal/bytealg.IndexString", "maps.clone"], unfollowed := true, recurses := true, named := ["internal/bytealg.MaxLen"], plainKeys := false, apart := false }
def RunRunsSaid : Prop := runRunsRow.holds Tryz.pinned (OpenSpec.ofChange runRunsSpec)

/-- ITS FALSE NEIGHBOUR: 'it returns false'. Refute it at one input. -/
def runRunsWrong : ChangeSpec := { name := "runRuns", fn := fun _ => fun
  | [d1, d2, d3] => { results := [.lit (.bool false)], args := [d1, d2, d3] }
  | _ => none }
def RunRunsWrongFalsely : Prop := runRunsRow.holds Tryz.pinned (OpenSpec.ofChange runRunsWrong)

/-- 'crossroadslaw16.RunCuts': WHATEVER THE INPUT: true; the input reads as it did. -/
def runCutsSpec : ChangeSpec := { name := "runCuts", fn := fun _ => fun
  | [d1, d2, d3] => { results := [.lit (.bool true)], args := [d1, d2, d3] }
  | _ => none }
def runCutsRow : OpenClaim := { program := "ytbclodhbcplhmaagreat", sum := "5b0ed71653b9a4bfb293eb019494ca23f73b68fa566498de8daf133cfe6688c6", func := "crossroads/crossroadslaw16.RunCuts", spec := "runCuts", inPlace := ["internal/bytealg.IndexByteString", "internal/bytealg.IndexString", "maps.clone"], unfollowed := true, recurses := true, named := ["internal/bytealg.MaxLen"], plainKeys := false, apart := false }
def RunCutsSaid : Prop := runCutsRow.holds Tryz.pinned (OpenSpec.ofChange runCutsSpec)

/-- ITS FALSE NEIGHBOUR: 'it returns false'. Refute it at one input. -/
def runCutsWrong : ChangeSpec := { name := "runCuts", fn := fun _ => fun
  | [d1, d2, d3] => { results := [.lit (.bool false)], args := [d1, d2, d3] }
  | _ => none }
def RunCutsWrongFalsely : Prop := runCutsRow.holds Tryz.pinned (OpenSpec.ofChange runCutsWrong)

/-- 'crossroadslaw16.RunAgain': WHATEVER THE INPUT: true; the input reads as it did. -/
def runAgainSpec : ChangeSpec := { name := "runAgain", fn := fun _ => fun
  | [d1, d2, d3] => { results := [.lit (.bool true)], args := [d1, d2, d3] }
  | _ => none }
def runAgainRow : OpenClaim := { program := "ytbclodhbcplhmaagreat", sum := "5b0ed71653b9a4bfb293eb019494ca23f73b68fa566498de8daf133cfe6688c6", func := "crossroads/crossroadslaw16.RunAgain", spec := "runAgain", inPlace := ["internal/bytealg.IndexByteString", "internal/bytealg.IndexString", "maps.clone"], unfollowed := true, recurses := true, named := ["internal/bytealg.MaxLen"], plainKeys := false, apart := false }
def RunAgainSaid : Prop := runAgainRow.holds Tryz.pinned (OpenSpec.ofChange runAgainSpec)

/-- ITS FALSE NEIGHBOUR: 'it returns false'. Refute it at one input. -/
def runAgainWrong : ChangeSpec := { name := "runAgain", fn := fun _ => fun
  | [d1, d2, d3] => { results := [.lit (.bool false)], args := [d1, d2, d3] }
  | _ => none }
def RunAgainWrongFalsely : Prop := runAgainRow.holds Tryz.pinned (OpenSpec.ofChange runAgainWrong)

/- THE SECOND FORM. 'bulk': how many values and letters a reading holds, each counted each time it is reached (what is shared counts as often as it is met; a slice's spare places count too). A statement '..UptoSaid' is the law's where the arguments, and the package variables that the reading takes, are together of bulk at most 1048576: NARROWER than '..Said'. Prove '..Said' where nothing that the law and all that it calls make is longer than what came in: it says more and counts as full. Else prove '..UptoSaid'. A law counts once. -/
mutual
def uptoBulk {H : Type} : DataW H → Nat
  | .lit (.string bytes) => bytes.length + 1
  | .lit _ => 1
  | .nil => 1
  | .ptr d => uptoBulk d + 1
  | .slice elems spare => uptoBulkAll elems + uptoBulkAll spare + 1
  | .agg parts => uptoBulkAll parts + 1
  | .iface _ d => uptoBulk d + 1
  | .map entries => uptoBulkEntries entries + 1
  | .held _ => 1
def uptoBulkAll {H : Type} : List (DataW H) → Nat
  | [] => 0
  | d :: r => uptoBulk d + uptoBulkAll r
def uptoBulkEntries {H : Type} : List (Lit × DataW H) → Nat
  | [] => 0
  | x :: r => uptoBulkEntry x + uptoBulkEntries r
def uptoBulkEntry {H : Type} : Lit × DataW H → Nat
  | (.string bytes, d) => bytes.length + uptoBulk d + 1
  | (_, d) => uptoBulk d + 1
 end
def uptoSmall : (H : Type) → List (DataW H) → Bool := fun _ ds => decide (uptoBulkAll ds ≤ 1048576)
def OpenSpec.upto (s : _root_.Go.ChangeSpec) : _root_.Go.OpenSpec := { _root_.Go.OpenSpec.ofChange s with cond := some uptoSmall }

/-- 'crossroadslaw16.RunRuns', WHERE WHAT IT READS IS OF BULK AT MOST 1048576: true; the input reads as it did. -/
def runRunsUptoRow : OpenClaim := { program := "ytbclodhbcplhmaagreat", sum := "5b0ed71653b9a4bfb293eb019494ca23f73b68fa566498de8daf133cfe6688c6", func := "crossroads/crossroadslaw16.RunRuns", spec := "runRuns", inPlace := ["internal/bytealg.IndexByteString", "internal/bytealg.IndexString", "maps.clone"], unfollowed := true, recurses := true, named := ["internal/bytealg.MaxLen"], plainKeys := false, apart := false, narrowed := true }
def RunRunsUptoSaid : Prop := runRunsUptoRow.holds Tryz.pinned (OpenSpec.upto runRunsSpec)

/-- 'crossroadslaw16.RunCuts', WHERE WHAT IT READS IS OF BULK AT MOST 1048576: true; the input reads as it did. -/
def runCutsUptoRow : OpenClaim := { program := "ytbclodhbcplhmaagreat", sum := "5b0ed71653b9a4bfb293eb019494ca23f73b68fa566498de8daf133cfe6688c6", func := "crossroads/crossroadslaw16.RunCuts", spec := "runCuts", inPlace := ["internal/bytealg.IndexByteString", "internal/bytealg.IndexString", "maps.clone"], unfollowed := true, recurses := true, named := ["internal/bytealg.MaxLen"], plainKeys := false, apart := false, narrowed := true }
def RunCutsUptoSaid : Prop := runCutsUptoRow.holds Tryz.pinned (OpenSpec.upto runCutsSpec)

/-- 'crossroadslaw16.RunAgain', WHERE WHAT IT READS IS OF BULK AT MOST 1048576: true; the input reads as it did. -/
def runAgainUptoRow : OpenClaim := { program := "ytbclodhbcplhmaagreat", sum := "5b0ed71653b9a4bfb293eb019494ca23f73b68fa566498de8daf133cfe6688c6", func := "crossroads/crossroadslaw16.RunAgain", spec := "runAgain", inPlace := ["internal/bytealg.IndexByteString", "internal/bytealg.IndexString", "maps.clone"], unfollowed := true, recurses := true, named := ["internal/bytealg.MaxLen"], plainKeys := false, apart := false, narrowed := true }
def RunAgainUptoSaid : Prop := runAgainUptoRow.holds Tryz.pinned (OpenSpec.upto runAgainSpec)

end Rows
end Go.Proofs.YtbclodhbcplhmaaGreat
