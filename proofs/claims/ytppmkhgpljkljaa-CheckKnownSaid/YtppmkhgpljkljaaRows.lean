/-
  No cell of these rows narrows 'for every input' (looked for: loops, veiled, ifaces, maps, wideKeys, modest, calm, conditions, laid).
  DERIVED. THE GIVEN ROWS OF THIS SEAT. 7 by the template 'for every input the law returns true; each argument reads behind the call as it read before'; 0 by the template 'total and deterministic' (their statements: YtppmkhgpljkljaaTotals.lean).
  GIVEN WITH THE SEED: the statements are not yours to turn. If you find one false, say at which input.
  Laid BY PROGRAM, IN A SANDBOX (cutbox-rows.mjs): the forced cells as the released guide's own fill.sh prints them over the translation bb0e22bce0d1041c… (all of the seat's roots in one cut). By AI agents, Wed Nov 11 2026. No macro, syntax, notation, axiom, sorry.
-/
import Derived.Test.YtppmkhgpljkljaaChecked
import GoSem.Claim
import GoSem.ClaimJoined
import GoSem.ClaimMapViews
import Derived.JoinedTies
import Derived.KernelRfl
namespace Go.Proofs.Ytppmkhgpljkljaa
/- THE CELL 'sum', in the pinned program and in every row, IS THE sha256 OF THE DUMP (.gsa) THAT YtppmkhgpljkljaaProg.lean LOADS. Nothing in Lean hashes anything: it is a label: what it is worth is what the hold of that sum in a sandbox is worth. -/
noncomputable def Try.pinned : Pinned := { name := "ytppmkhgpljkljaa", sum := "bb0e22bce0d1041ca998c5b7a2d4b991b8e690e899a6bae59116a4c26f530daf", checked := Try.checked }
namespace Rows
def none {H : Type} : Left H := { results := [], args := [] }

/-- 'crossroadslaw13.TreeFull': WHATEVER THE INPUT: true; the input reads as it did. -/
def treeFullSpec : ChangeSpec := { name := "treeFull", fn := fun _ => fun
  | [d] => { results := [.lit (.bool true)], args := [d] }
  | _ => none }
def treeFullRow : OpenClaim := { program := "ytppmkhgpljkljaa", sum := "bb0e22bce0d1041ca998c5b7a2d4b991b8e690e899a6bae59116a4c26f530daf", func := "crossroads/crossroadslaw13.TreeFull", spec := "treeFull", inPlace := ["internal/bytealg.IndexByteString", "internal/bytealg.IndexString"], named := ["internal/bytealg.MaxLen"], plainKeys := false, apart := false }
def TreeFullSaid : Prop := treeFullRow.holds Try.pinned (OpenSpec.ofChange treeFullSpec)

/-- ITS FALSE NEIGHBOUR: 'it returns false'. Refute it at one input. -/
def treeFullWrong : ChangeSpec := { name := "treeFull", fn := fun _ => fun
  | [d] => { results := [.lit (.bool false)], args := [d] }
  | _ => none }
def TreeFullWrongFalsely : Prop := treeFullRow.holds Try.pinned (OpenSpec.ofChange treeFullWrong)

/-- 'crossroadslaw13.TreeDirs': WHATEVER THE INPUT: true; the input reads as it did. -/
def treeDirsSpec : ChangeSpec := { name := "treeDirs", fn := fun _ => fun
  | [d] => { results := [.lit (.bool true)], args := [d] }
  | _ => none }
def treeDirsRow : OpenClaim := { program := "ytppmkhgpljkljaa", sum := "bb0e22bce0d1041ca998c5b7a2d4b991b8e690e899a6bae59116a4c26f530daf", func := "crossroads/crossroadslaw13.TreeDirs", spec := "treeDirs", inPlace := ["internal/bytealg.IndexByteString", "internal/bytealg.IndexString"], named := ["internal/bytealg.MaxLen"], plainKeys := false, apart := false }
def TreeDirsSaid : Prop := treeDirsRow.holds Try.pinned (OpenSpec.ofChange treeDirsSpec)

/-- ITS FALSE NEIGHBOUR: 'it returns false'. Refute it at one input. -/
def treeDirsWrong : ChangeSpec := { name := "treeDirs", fn := fun _ => fun
  | [d] => { results := [.lit (.bool false)], args := [d] }
  | _ => none }
def TreeDirsWrongFalsely : Prop := treeDirsRow.holds Try.pinned (OpenSpec.ofChange treeDirsWrong)

/-- 'crossroadslaw11.CheckRuns': WHATEVER THE INPUT: true; the input reads as it did. -/
def checkRunsSpec : ChangeSpec := { name := "checkRuns", fn := fun _ => fun
  | [d] => { results := [.lit (.bool true)], args := [d] }
  | _ => none }
def checkRunsRow : OpenClaim := { program := "ytppmkhgpljkljaa", sum := "bb0e22bce0d1041ca998c5b7a2d4b991b8e690e899a6bae59116a4c26f530daf", func := "crossroads/crossroadslaw11.CheckRuns", spec := "checkRuns", inPlace := ["internal/bytealg.IndexByteString", "internal/bytealg.IndexString"], named := ["internal/bytealg.MaxLen"], plainKeys := false, apart := false }
def CheckRunsSaid : Prop := checkRunsRow.holds Try.pinned (OpenSpec.ofChange checkRunsSpec)

/-- ITS FALSE NEIGHBOUR: 'it returns false'. Refute it at one input. -/
def checkRunsWrong : ChangeSpec := { name := "checkRuns", fn := fun _ => fun
  | [d] => { results := [.lit (.bool false)], args := [d] }
  | _ => none }
def CheckRunsWrongFalsely : Prop := checkRunsRow.holds Try.pinned (OpenSpec.ofChange checkRunsWrong)

/-- 'crossroadslaw11.CheckKnown': WHATEVER THE INPUT: true; the input reads as it did. -/
def checkKnownSpec : ChangeSpec := { name := "checkKnown", fn := fun _ => fun
  | [] => { results := [.lit (.bool true)], args := [] }
  | _ => none }
def checkKnownRow : OpenClaim := { program := "ytppmkhgpljkljaa", sum := "bb0e22bce0d1041ca998c5b7a2d4b991b8e690e899a6bae59116a4c26f530daf", func := "crossroads/crossroadslaw11.CheckKnown", spec := "checkKnown", inPlace := ["internal/bytealg.IndexByteString", "internal/bytealg.IndexString"], unfollowed := true, recurses := true, named := ["internal/bytealg.MaxLen"], plainKeys := false, apart := false }
def CheckKnownSaid : Prop := checkKnownRow.holds Try.pinned (OpenSpec.ofChange checkKnownSpec)

/-- ITS FALSE NEIGHBOUR: 'it returns false'. Refute it at one input. -/
def checkKnownWrong : ChangeSpec := { name := "checkKnown", fn := fun _ => fun
  | [] => { results := [.lit (.bool false)], args := [] }
  | _ => none }
def CheckKnownWrongFalsely : Prop := checkKnownRow.holds Try.pinned (OpenSpec.ofChange checkKnownWrong)

/-- 'crossroadslaw11.CheckHolds': WHATEVER THE INPUT: true; the input reads as it did. -/
def checkHoldsSpec : ChangeSpec := { name := "checkHolds", fn := fun _ => fun
  | [d] => { results := [.lit (.bool true)], args := [d] }
  | _ => none }
def checkHoldsRow : OpenClaim := { program := "ytppmkhgpljkljaa", sum := "bb0e22bce0d1041ca998c5b7a2d4b991b8e690e899a6bae59116a4c26f530daf", func := "crossroads/crossroadslaw11.CheckHolds", spec := "checkHolds", inPlace := ["internal/bytealg.IndexByteString", "internal/bytealg.IndexString"], named := ["internal/bytealg.MaxLen"], plainKeys := false, apart := false }
def CheckHoldsSaid : Prop := checkHoldsRow.holds Try.pinned (OpenSpec.ofChange checkHoldsSpec)

/-- ITS FALSE NEIGHBOUR: 'it returns false'. Refute it at one input. -/
def checkHoldsWrong : ChangeSpec := { name := "checkHolds", fn := fun _ => fun
  | [d] => { results := [.lit (.bool false)], args := [d] }
  | _ => none }
def CheckHoldsWrongFalsely : Prop := checkHoldsRow.holds Try.pinned (OpenSpec.ofChange checkHoldsWrong)

/-- 'crossroadslaw11.CheckJumps': WHATEVER THE INPUT: true; the input reads as it did. -/
def checkJumpsSpec : ChangeSpec := { name := "checkJumps", fn := fun _ => fun
  | [d1, d2] => { results := [.lit (.bool true)], args := [d1, d2] }
  | _ => none }
def checkJumpsRow : OpenClaim := { program := "ytppmkhgpljkljaa", sum := "bb0e22bce0d1041ca998c5b7a2d4b991b8e690e899a6bae59116a4c26f530daf", func := "crossroads/crossroadslaw11.CheckJumps", spec := "checkJumps", inPlace := ["internal/bytealg.IndexByteString", "internal/bytealg.IndexString"], named := ["internal/bytealg.MaxLen"], plainKeys := false, apart := false }
def CheckJumpsSaid : Prop := checkJumpsRow.holds Try.pinned (OpenSpec.ofChange checkJumpsSpec)

/-- ITS FALSE NEIGHBOUR: 'it returns false'. Refute it at one input. -/
def checkJumpsWrong : ChangeSpec := { name := "checkJumps", fn := fun _ => fun
  | [d1, d2] => { results := [.lit (.bool false)], args := [d1, d2] }
  | _ => none }
def CheckJumpsWrongFalsely : Prop := checkJumpsRow.holds Try.pinned (OpenSpec.ofChange checkJumpsWrong)

/-- 'crossroadslaw11.CheckPushes': WHATEVER THE INPUT: true; the input reads as it did. -/
def checkPushesSpec : ChangeSpec := { name := "checkPushes", fn := fun _ => fun
  | [d] => { results := [.lit (.bool true)], args := [d] }
  | _ => none }
def checkPushesRow : OpenClaim := { program := "ytppmkhgpljkljaa", sum := "bb0e22bce0d1041ca998c5b7a2d4b991b8e690e899a6bae59116a4c26f530daf", func := "crossroads/crossroadslaw11.CheckPushes", spec := "checkPushes", inPlace := ["internal/bytealg.IndexByteString", "internal/bytealg.IndexString"], named := ["internal/bytealg.MaxLen"], plainKeys := false, apart := false }
def CheckPushesSaid : Prop := checkPushesRow.holds Try.pinned (OpenSpec.ofChange checkPushesSpec)

/-- ITS FALSE NEIGHBOUR: 'it returns false'. Refute it at one input. -/
def checkPushesWrong : ChangeSpec := { name := "checkPushes", fn := fun _ => fun
  | [d] => { results := [.lit (.bool false)], args := [d] }
  | _ => none }
def CheckPushesWrongFalsely : Prop := checkPushesRow.holds Try.pinned (OpenSpec.ofChange checkPushesWrong)

/- THE SECOND FORM. 'bulk': how many values and letters a reading holds, each counted each time it is reached (what is shared counts as often as it is met; a slice's spare places count too). A statement '..UptoSaid' is the law's where the arguments, and the package variables that the reading takes, are together of bulk at most 1048576: NARROWER than '..Said'. Prove '..Said' where nothing that the law and all that it calls make is longer than what came in: it says more and counts as full. Else prove '..UptoSaid'. A law counts once. -/
mutual
def uptoBulk {H : Type} : DataW H → Nat
  | .lit (.string bytes) => bytes.length + 1
  | .lit _ => 1
  | .nil => 1
  | .ptr d => uptoBulk d + 1
  | .slice elems spare => uptoBulkAll elems + uptoBulkAll spare + 1
  | .agg parts => uptoBulkAll parts + 1
  | .iface _ d => uptoBulk d + 1
  | .map entries => uptoBulkEntries entries + 1
  | .held _ => 1
def uptoBulkAll {H : Type} : List (DataW H) → Nat
  | [] => 0
  | d :: r => uptoBulk d + uptoBulkAll r
def uptoBulkEntries {H : Type} : List (Lit × DataW H) → Nat
  | [] => 0
  | x :: r => uptoBulkEntry x + uptoBulkEntries r
def uptoBulkEntry {H : Type} : Lit × DataW H → Nat
  | (.string bytes, d) => bytes.length + uptoBulk d + 1
  | (_, d) => uptoBulk d + 1
 end
def uptoSmall : (H : Type) → List (DataW H) → Bool := fun _ ds => decide (uptoBulkAll ds ≤ 1048576)
def OpenSpec.upto (s : _root_.Go.ChangeSpec) : _root_.Go.OpenSpec := { _root_.Go.OpenSpec.ofChange s with cond := some uptoSmall }

/-- 'crossroadslaw13.TreeFull', WHERE WHAT IT READS IS OF BULK AT MOST 1048576: true; the input reads as it did. -/
def treeFullUptoRow : OpenClaim := { program := "ytppmkhgpljkljaa", sum := "bb0e22bce0d1041ca998c5b7a2d4b991b8e690e899a6bae59116a4c26f530daf", func := "crossroads/crossroadslaw13.TreeFull", spec := "treeFull", inPlace := ["internal/bytealg.IndexByteString", "internal/bytealg.IndexString"], named := ["internal/bytealg.MaxLen"], plainKeys := false, apart := false, narrowed := true }
def TreeFullUptoSaid : Prop := treeFullUptoRow.holds Try.pinned (OpenSpec.upto treeFullSpec)

/-- 'crossroadslaw13.TreeDirs', WHERE WHAT IT READS IS OF BULK AT MOST 1048576: true; the input reads as it did. -/
def treeDirsUptoRow : OpenClaim := { program := "ytppmkhgpljkljaa", sum := "bb0e22bce0d1041ca998c5b7a2d4b991b8e690e899a6bae59116a4c26f530daf", func := "crossroads/crossroadslaw13.TreeDirs", spec := "treeDirs", inPlace := ["internal/bytealg.IndexByteString", "internal/bytealg.IndexString"], named := ["internal/bytealg.MaxLen"], plainKeys := false, apart := false, narrowed := true }
def TreeDirsUptoSaid : Prop := treeDirsUptoRow.holds Try.pinned (OpenSpec.upto treeDirsSpec)

/-- 'crossroadslaw11.CheckRuns', WHERE WHAT IT READS IS OF BULK AT MOST 1048576: true; the input reads as it did. -/
def checkRunsUptoRow : OpenClaim := { program := "ytppmkhgpljkljaa", sum := "bb0e22bce0d1041ca998c5b7a2d4b991b8e690e899a6bae59116a4c26f530daf", func := "crossroads/crossroadslaw11.CheckRuns", spec := "checkRuns", inPlace := ["internal/bytealg.IndexByteString", "internal/bytealg.IndexString"], named := ["internal/bytealg.MaxLen"], plainKeys := false, apart := false, narrowed := true }
def CheckRunsUptoSaid : Prop := checkRunsUptoRow.holds Try.pinned (OpenSpec.upto checkRunsSpec)

/-- 'crossroadslaw11.CheckKnown', WHERE WHAT IT READS IS OF BULK AT MOST 1048576: true; the input reads as it did. -/
def checkKnownUptoRow : OpenClaim := { program := "ytppmkhgpljkljaa", sum := "bb0e22bce0d1041ca998c5b7a2d4b991b8e690e899a6bae59116a4c26f530daf", func := "crossroads/crossroadslaw11.CheckKnown", spec := "checkKnown", inPlace := ["internal/bytealg.IndexByteString", "internal/bytealg.IndexString"], unfollowed := true, recurses := true, named := ["internal/bytealg.MaxLen"], plainKeys := false, apart := false, narrowed := true }
def CheckKnownUptoSaid : Prop := checkKnownUptoRow.holds Try.pinned (OpenSpec.upto checkKnownSpec)

/-- 'crossroadslaw11.CheckHolds', WHERE WHAT IT READS IS OF BULK AT MOST 1048576: true; the input reads as it did. -/
def checkHoldsUptoRow : OpenClaim := { program := "ytppmkhgpljkljaa", sum := "bb0e22bce0d1041ca998c5b7a2d4b991b8e690e899a6bae59116a4c26f530daf", func := "crossroads/crossroadslaw11.CheckHolds", spec := "checkHolds", inPlace := ["internal/bytealg.IndexByteString", "internal/bytealg.IndexString"], named := ["internal/bytealg.MaxLen"], plainKeys := false, apart := false, narrowed := true }
def CheckHoldsUptoSaid : Prop := checkHoldsUptoRow.holds Try.pinned (OpenSpec.upto checkHoldsSpec)

/-- 'crossroadslaw11.CheckJumps', WHERE WHAT IT READS IS OF BULK AT MOST 1048576: true; the input reads as it did. -/
def checkJumpsUptoRow : OpenClaim := { program := "ytppmkhgpljkljaa", sum := "bb0e22bce0d1041ca998c5b7a2d4b991b8e690e899a6bae59116a4c26f530daf", func := "crossroads/crossroadslaw11.CheckJumps", spec := "checkJumps", inPlace := ["internal/bytealg.IndexByteString", "internal/bytealg.IndexString"], named := ["internal/bytealg.MaxLen"], plainKeys := false, apart := false, narrowed := true }
def CheckJumpsUptoSaid : Prop := checkJumpsUptoRow.holds Try.pinned (OpenSpec.upto checkJumpsSpec)

/-- 'crossroadslaw11.CheckPushes', WHERE WHAT IT READS IS OF BULK AT MOST 1048576: true; the input reads as it did. -/
def checkPushesUptoRow : OpenClaim := { program := "ytppmkhgpljkljaa", sum := "bb0e22bce0d1041ca998c5b7a2d4b991b8e690e899a6bae59116a4c26f530daf", func := "crossroads/crossroadslaw11.CheckPushes", spec := "checkPushes", inPlace := ["internal/bytealg.IndexByteString", "internal/bytealg.IndexString"], named := ["internal/bytealg.MaxLen"], plainKeys := false, apart := false, narrowed := true }
def CheckPushesUptoSaid : Prop := checkPushesUptoRow.holds Try.pinned (OpenSpec.upto checkPushesSpec)

end Rows
end Go.Proofs.Ytppmkhgpljkljaa
