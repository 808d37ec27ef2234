/-
  No cell of these rows narrows 'for every input' (looked for: loops, veiled, ifaces, maps, wideKeys, modest, calm, conditions, laid).
  DERIVED. THE GIVEN ROWS OF THIS SEAT. 4 by the template 'for every input the law returns true; each argument reads behind the call as it read before'; 0 by the template 'total and deterministic' (their statements: YtdopealphpmaeaaTotals.lean).
  GIVEN WITH THE SEED: the statements are not yours to turn. If you find one false, say at which input.
  Laid BY PROGRAM, IN A SANDBOX (cutbox-rows.mjs): the forced cells as the released guide's own fill.sh prints them over the translation 4795b3c175028177… (all of the seat's roots in one cut). By AI agents, Wed Nov 11 2026. No macro, syntax, notation, axiom, sorry.
-/
import Derived.Test.YtdopealphpmaeaaChecked
import GoSem.Claim
import GoSem.ClaimJoined
import GoSem.ClaimMapViews
import Derived.JoinedTies
import Derived.KernelRfl
namespace Go.Proofs.Ytdopealphpmaeaa
/- THE CELL 'sum', in the pinned program and in every row, IS THE sha256 OF THE DUMP (.gsa) THAT YtdopealphpmaeaaProg.lean LOADS. Nothing in Lean hashes anything: it is a label: what it is worth is what the hold of that sum in a sandbox is worth. -/
noncomputable def Try.pinned : Pinned := { name := "ytdopealphpmaeaa", sum := "4795b3c1750281772b60bd2b9893b4501b7ac9d334c50742e72cfac31ea6e6ce", checked := Try.checked }
namespace Rows
def none {H : Type} : Left H := { results := [], args := [] }

/-- 'crossroadslaw14.FilesPlay': WHATEVER THE INPUT: true; the input reads as it did. -/
def filesPlaySpec : ChangeSpec := { name := "filesPlay", fn := fun _ => fun
  | [d1, d2, d3] => { results := [.lit (.bool true)], args := [d1, d2, d3] }
  | _ => none }
def filesPlayRow : OpenClaim := { program := "ytdopealphpmaeaa", sum := "4795b3c1750281772b60bd2b9893b4501b7ac9d334c50742e72cfac31ea6e6ce", func := "crossroads/crossroadslaw14.FilesPlay", spec := "filesPlay", inPlace := ["internal/bytealg.IndexByteString", "internal/bytealg.IndexString", "maps.clone"], named := ["internal/bytealg.MaxLen"], plainKeys := false, apart := false }
def FilesPlaySaid : Prop := filesPlayRow.holds Try.pinned (OpenSpec.ofChange filesPlaySpec)

/-- ITS FALSE NEIGHBOUR: 'it returns false'. Refute it at one input. -/
def filesPlayWrong : ChangeSpec := { name := "filesPlay", fn := fun _ => fun
  | [d1, d2, d3] => { results := [.lit (.bool false)], args := [d1, d2, d3] }
  | _ => none }
def FilesPlayWrongFalsely : Prop := filesPlayRow.holds Try.pinned (OpenSpec.ofChange filesPlayWrong)

/-- 'crossroadslaw19.GhostPlays': WHATEVER THE INPUT: true; the input reads as it did. -/
def ghostPlaysSpec : ChangeSpec := { name := "ghostPlays", fn := fun _ => fun
  | [d1, d2, d3] => { results := [.lit (.bool true)], args := [d1, d2, d3] }
  | _ => none }
def ghostPlaysRow : OpenClaim := { program := "ytdopealphpmaeaa", sum := "4795b3c1750281772b60bd2b9893b4501b7ac9d334c50742e72cfac31ea6e6ce", func := "crossroads/crossroadslaw19.GhostPlays", spec := "ghostPlays", inPlace := ["internal/bytealg.IndexByteString", "internal/bytealg.IndexString", "maps.clone"], named := ["internal/bytealg.MaxLen"], plainKeys := false, apart := false }
def GhostPlaysSaid : Prop := ghostPlaysRow.holds Try.pinned (OpenSpec.ofChange ghostPlaysSpec)

/-- ITS FALSE NEIGHBOUR: 'it returns false'. Refute it at one input. -/
def ghostPlaysWrong : ChangeSpec := { name := "ghostPlays", fn := fun _ => fun
  | [d1, d2, d3] => { results := [.lit (.bool false)], args := [d1, d2, d3] }
  | _ => none }
def GhostPlaysWrongFalsely : Prop := ghostPlaysRow.holds Try.pinned (OpenSpec.ofChange ghostPlaysWrong)

/-- 'crossroadslaw19.GhostCopies': WHATEVER THE INPUT: true; the input reads as it did. -/
def ghostCopiesSpec : ChangeSpec := { name := "ghostCopies", fn := fun _ => fun
  | [d1, d2, d3] => { results := [.lit (.bool true)], args := [d1, d2, d3] }
  | _ => none }
def ghostCopiesRow : OpenClaim := { program := "ytdopealphpmaeaa", sum := "4795b3c1750281772b60bd2b9893b4501b7ac9d334c50742e72cfac31ea6e6ce", func := "crossroads/crossroadslaw19.GhostCopies", spec := "ghostCopies", inPlace := ["internal/bytealg.IndexByteString", "internal/bytealg.IndexString", "maps.clone"], named := ["internal/bytealg.MaxLen"], plainKeys := false, apart := false }
def GhostCopiesSaid : Prop := ghostCopiesRow.holds Try.pinned (OpenSpec.ofChange ghostCopiesSpec)

/-- ITS FALSE NEIGHBOUR: 'it returns false'. Refute it at one input. -/
def ghostCopiesWrong : ChangeSpec := { name := "ghostCopies", fn := fun _ => fun
  | [d1, d2, d3] => { results := [.lit (.bool false)], args := [d1, d2, d3] }
  | _ => none }
def GhostCopiesWrongFalsely : Prop := ghostCopiesRow.holds Try.pinned (OpenSpec.ofChange ghostCopiesWrong)

/-- 'crossroadslaw19.GhostBytes': WHATEVER THE INPUT: true; the input reads as it did. -/
def ghostBytesSpec : ChangeSpec := { name := "ghostBytes", fn := fun _ => fun
  | [d1, d2, d3] => { results := [.lit (.bool true)], args := [d1, d2, d3] }
  | _ => none }
def ghostBytesRow : OpenClaim := { program := "ytdopealphpmaeaa", sum := "4795b3c1750281772b60bd2b9893b4501b7ac9d334c50742e72cfac31ea6e6ce", func := "crossroads/crossroadslaw19.GhostBytes", spec := "ghostBytes", inPlace := ["internal/bytealg.IndexByteString", "internal/bytealg.IndexString", "maps.clone"], unfollowed := true, recurses := true, named := ["internal/bytealg.MaxLen"], plainKeys := false, apart := false }
def GhostBytesSaid : Prop := ghostBytesRow.holds Try.pinned (OpenSpec.ofChange ghostBytesSpec)

/-- ITS FALSE NEIGHBOUR: 'it returns false'. Refute it at one input. -/
def ghostBytesWrong : ChangeSpec := { name := "ghostBytes", fn := fun _ => fun
  | [d1, d2, d3] => { results := [.lit (.bool false)], args := [d1, d2, d3] }
  | _ => none }
def GhostBytesWrongFalsely : Prop := ghostBytesRow.holds Try.pinned (OpenSpec.ofChange ghostBytesWrong)

/- THE SECOND FORM. 'bulk': how many values and letters a reading holds, each counted each time it is reached (what is shared counts as often as it is met; a slice's spare places count too). A statement '..UptoSaid' is the law's where the arguments, and the package variables that the reading takes, are together of bulk at most 1048576: NARROWER than '..Said'. Prove '..Said' where nothing that the law and all that it calls make is longer than what came in: it says more and counts as full. Else prove '..UptoSaid'. A law counts once. -/
mutual
def uptoBulk {H : Type} : DataW H → Nat
  | .lit (.string bytes) => bytes.length + 1
  | .lit _ => 1
  | .nil => 1
  | .ptr d => uptoBulk d + 1
  | .slice elems spare => uptoBulkAll elems + uptoBulkAll spare + 1
  | .agg parts => uptoBulkAll parts + 1
  | .iface _ d => uptoBulk d + 1
  | .map entries => uptoBulkEntries entries + 1
  | .held _ => 1
def uptoBulkAll {H : Type} : List (DataW H) → Nat
  | [] => 0
  | d :: r => uptoBulk d + uptoBulkAll r
def uptoBulkEntries {H : Type} : List (Lit × DataW H) → Nat
  | [] => 0
  | x :: r => uptoBulkEntry x + uptoBulkEntries r
def uptoBulkEntry {H : Type} : Lit × DataW H → Nat
  | (.string bytes, d) => bytes.length + uptoBulk d + 1
  | (_, d) => uptoBulk d + 1
 end
def uptoSmall : (H : Type) → List (DataW H) → Bool := fun _ ds => decide (uptoBulkAll ds ≤ 1048576)
def OpenSpec.upto (s : _root_.Go.ChangeSpec) : _root_.Go.OpenSpec := { _root_.Go.OpenSpec.ofChange s with cond := some uptoSmall }

/-- 'crossroadslaw14.FilesPlay', WHERE WHAT IT READS IS OF BULK AT MOST 1048576: true; the input reads as it did. -/
def filesPlayUptoRow : OpenClaim := { program := "ytdopealphpmaeaa", sum := "4795b3c1750281772b60bd2b9893b4501b7ac9d334c50742e72cfac31ea6e6ce", func := "crossroads/crossroadslaw14.FilesPlay", spec := "filesPlay", inPlace := ["internal/bytealg.IndexByteString", "internal/bytealg.IndexString", "maps.clone"], named := ["internal/bytealg.MaxLen"], plainKeys := false, apart := false, narrowed := true }
def FilesPlayUptoSaid : Prop := filesPlayUptoRow.holds Try.pinned (OpenSpec.upto filesPlaySpec)

/-- 'crossroadslaw19.GhostPlays', WHERE WHAT IT READS IS OF BULK AT MOST 1048576: true; the input reads as it did. -/
def ghostPlaysUptoRow : OpenClaim := { program := "ytdopealphpmaeaa", sum := "4795b3c1750281772b60bd2b9893b4501b7ac9d334c50742e72cfac31ea6e6ce", func := "crossroads/crossroadslaw19.GhostPlays", spec := "ghostPlays", inPlace := ["internal/bytealg.IndexByteString", "internal/bytealg.IndexString", "maps.clone"], named := ["internal/bytealg.MaxLen"], plainKeys := false, apart := false, narrowed := true }
def GhostPlaysUptoSaid : Prop := ghostPlaysUptoRow.holds Try.pinned (OpenSpec.upto ghostPlaysSpec)

/-- 'crossroadslaw19.GhostCopies', WHERE WHAT IT READS IS OF BULK AT MOST 1048576: true; the input reads as it did. -/
def ghostCopiesUptoRow : OpenClaim := { program := "ytdopealphpmaeaa", sum := "4795b3c1750281772b60bd2b9893b4501b7ac9d334c50742e72cfac31ea6e6ce", func := "crossroads/crossroadslaw19.GhostCopies", spec := "ghostCopies", inPlace := ["internal/bytealg.IndexByteString", "internal/bytealg.IndexString", "maps.clone"], named := ["internal/bytealg.MaxLen"], plainKeys := false, apart := false, narrowed := true }
def GhostCopiesUptoSaid : Prop := ghostCopiesUptoRow.holds Try.pinned (OpenSpec.upto ghostCopiesSpec)

/-- 'crossroadslaw19.GhostBytes', WHERE WHAT IT READS IS OF BULK AT MOST 1048576: true; the input reads as it did. -/
def ghostBytesUptoRow : OpenClaim := { program := "ytdopealphpmaeaa", sum := "4795b3c1750281772b60bd2b9893b4501b7ac9d334c50742e72cfac31ea6e6ce", func := "crossroads/crossroadslaw19.GhostBytes", spec := "ghostBytes", inPlace := ["internal/bytealg.IndexByteString", "internal/bytealg.IndexString", "maps.clone"], unfollowed := true, recurses := true, named := ["internal/bytealg.MaxLen"], plainKeys := false, apart := false, narrowed := true }
def GhostBytesUptoSaid : Prop := ghostBytesUptoRow.holds Try.pinned (OpenSpec.upto ghostBytesSpec)

end Rows
end Go.Proofs.Ytdopealphpmaeaa
