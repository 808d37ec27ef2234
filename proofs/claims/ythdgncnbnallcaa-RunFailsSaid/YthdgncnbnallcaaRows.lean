/-
  No cell of these rows narrows 'for every input' (looked for: loops, veiled, ifaces, maps, wideKeys, modest, calm, conditions, laid).
  DERIVED. THE GIVEN ROWS OF THIS SEAT. 2 by the template 'for every input the law returns true; each argument reads behind the call as it read before'; 0 by the template 'total and deterministic' (their statements: YthdgncnbnallcaaTotals.lean).
  GIVEN WITH THE SEED: the statements are not yours to turn. If you find one false, say at which input.
  Laid BY PROGRAM, IN A SANDBOX (cutbox-rows.mjs): the forced cells as the released guide's own fill.sh prints them over the translation 667c13f199f00f16… (all of the seat's roots in one cut). By AI agents, Wed Nov 11 2026. No macro, syntax, notation, axiom, sorry.
-/
import Derived.Test.YthdgncnbnallcaaChecked
import GoSem.Claim
import GoSem.ClaimJoined
import GoSem.ClaimMapViews
import Derived.JoinedTies
import Derived.KernelRfl
namespace Go.Proofs.Ythdgncnbnallcaa
/- THE CELL 'sum', in the pinned program and in every row, IS THE sha256 OF THE DUMP (.gsa) THAT YthdgncnbnallcaaProg.lean LOADS. Nothing in Lean hashes anything: it is a label: what it is worth is what the hold of that sum in a sandbox is worth. -/
noncomputable def Try.pinned : Pinned := { name := "ythdgncnbnallcaa", sum := "667c13f199f00f16df5e513477dce3595945775c0d2d4376357bbc21a389aae7", checked := Try.checked }
namespace Rows
def none {H : Type} : Left H := { results := [], args := [] }

/-- 'crossroadslaw16.RunFails': WHATEVER THE INPUT: true; the input reads as it did. -/
def runFailsSpec : ChangeSpec := { name := "runFails", fn := fun _ => fun
  | [d1, d2] => { results := [.lit (.bool true)], args := [d1, d2] }
  | _ => none }
def runFailsRow : OpenClaim := { program := "ythdgncnbnallcaa", sum := "667c13f199f00f16df5e513477dce3595945775c0d2d4376357bbc21a389aae7", func := "crossroads/crossroadslaw16.RunFails", spec := "runFails", inPlace := ["internal/bytealg.IndexByteString", "internal/bytealg.IndexString", "maps.clone"], unfollowed := true, recurses := true, named := ["internal/bytealg.MaxLen"], plainKeys := false, apart := false }
def RunFailsSaid : Prop := runFailsRow.holds Try.pinned (OpenSpec.ofChange runFailsSpec)

/-- ITS FALSE NEIGHBOUR: 'it returns false'. Refute it at one input. -/
def runFailsWrong : ChangeSpec := { name := "runFails", fn := fun _ => fun
  | [d1, d2] => { results := [.lit (.bool false)], args := [d1, d2] }
  | _ => none }
def RunFailsWrongFalsely : Prop := runFailsRow.holds Try.pinned (OpenSpec.ofChange runFailsWrong)

/-- 'crossroadslaw16.RunLocals': WHATEVER THE INPUT: true; the input reads as it did. -/
def runLocalsSpec : ChangeSpec := { name := "runLocals", fn := fun _ => fun
  | [d1, d2] => { results := [.lit (.bool true)], args := [d1, d2] }
  | _ => none }
def runLocalsRow : OpenClaim := { program := "ythdgncnbnallcaa", sum := "667c13f199f00f16df5e513477dce3595945775c0d2d4376357bbc21a389aae7", func := "crossroads/crossroadslaw16.RunLocals", spec := "runLocals", inPlace := ["internal/bytealg.IndexByteString", "internal/bytealg.IndexString", "maps.clone"], unfollowed := true, recurses := true, named := ["internal/bytealg.MaxLen"], plainKeys := false, apart := false }
def RunLocalsSaid : Prop := runLocalsRow.holds Try.pinned (OpenSpec.ofChange runLocalsSpec)

/-- ITS FALSE NEIGHBOUR: 'it returns false'. Refute it at one input. -/
def runLocalsWrong : ChangeSpec := { name := "runLocals", fn := fun _ => fun
  | [d1, d2] => { results := [.lit (.bool false)], args := [d1, d2] }
  | _ => none }
def RunLocalsWrongFalsely : Prop := runLocalsRow.holds Try.pinned (OpenSpec.ofChange runLocalsWrong)

/- THE SECOND FORM. 'bulk': how many values and letters a reading holds, each counted each time it is reached (what is shared counts as often as it is met; a slice's spare places count too). A statement '..UptoSaid' is the law's where the arguments, and the package variables that the reading takes, are together of bulk at most 1048576: NARROWER than '..Said'. Prove '..Said' where nothing that the law and all that it calls make is longer than what came in: it says more and counts as full. Else prove '..UptoSaid'. A law counts once. -/
mutual
def uptoBulk {H : Type} : DataW H → Nat
  | .lit (.string bytes) => bytes.length + 1
  | .lit _ => 1
  | .nil => 1
  | .ptr d => uptoBulk d + 1
  | .slice elems spare => uptoBulkAll elems + uptoBulkAll spare + 1
  | .agg parts => uptoBulkAll parts + 1
  | .iface _ d => uptoBulk d + 1
  | .map entries => uptoBulkEntries entries + 1
  | .held _ => 1
def uptoBulkAll {H : Type} : List (DataW H) → Nat
  | [] => 0
  | d :: r => uptoBulk d + uptoBulkAll r
def uptoBulkEntries {H : Type} : List (Lit × DataW H) → Nat
  | [] => 0
  | x :: r => uptoBulkEntry x + uptoBulkEntries r
def uptoBulkEntry {H : Type} : Lit × DataW H → Nat
  | (.string bytes, d) => bytes.length + uptoBulk d + 1
  | (_, d) => uptoBulk d + 1
 end
def uptoSmall : (H : Type) → List (DataW H) → Bool := fun _ ds => decide (uptoBulkAll ds ≤ 1048576)
def OpenSpec.upto (s : _root_.Go.ChangeSpec) : _root_.Go.OpenSpec := { _root_.Go.OpenSpec.ofChange s with cond := some uptoSmall }

/-- 'crossroadslaw16.RunFails', WHERE WHAT IT READS IS OF BULK AT MOST 1048576: true; the input reads as it did. -/
def runFailsUptoRow : OpenClaim := { program := "ythdgncnbnallcaa", sum := "667c13f199f00f16df5e513477dce3595945775c0d2d4376357bbc21a389aae7", func := "crossroads/crossroadslaw16.RunFails", spec := "runFails", inPlace := ["internal/bytealg.IndexByteString", "internal/bytealg.IndexString", "maps.clone"], unfollowed := true, recurses := true, named := ["internal/bytealg.MaxLen"], plainKeys := false, apart := false, narrowed := true }
def RunFailsUptoSaid : Prop := runFailsUptoRow.holds Try.pinned (OpenSpec.upto runFailsSpec)

/-- 'crossroadslaw16.RunLocals', WHERE WHAT IT READS IS OF BULK AT MOST 1048576: true; the input reads as it did. -/
def runLocalsUptoRow : OpenClaim := { program := "ythdgncnbnallcaa", sum := "667c13f199f00f16df5e513477dce3595945775c0d2d4376357bbc21a389aae7", func := "crossroads/crossroadslaw16.RunLocals", spec := "runLocals", inPlace := ["internal/bytealg.IndexByteString", "internal/bytealg.IndexString", "maps.clone"], unfollowed := true, recurses := true, named := ["internal/bytealg.MaxLen"], plainKeys := false, apart := false, narrowed := true }
def RunLocalsUptoSaid : Prop := runLocalsUptoRow.holds Try.pinned (OpenSpec.upto runLocalsSpec)

end Rows
end Go.Proofs.Ythdgncnbnallcaa
