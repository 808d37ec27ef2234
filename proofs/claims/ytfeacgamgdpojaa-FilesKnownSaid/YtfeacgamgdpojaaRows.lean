/-
  No cell of these rows narrows 'for every input' (looked for: loops, veiled, ifaces, maps, wideKeys, modest, calm, conditions, laid).
  DERIVED. THE GIVEN ROWS OF THIS SEAT. 12 by the template 'for every input the law returns true; each argument reads behind the call as it read before'; 0 by the template 'total and deterministic' (their statements: YtfeacgamgdpojaaTotals.lean).
  GIVEN WITH THE SEED: the statements are not yours to turn. If you find one false, say at which input.
  Laid BY PROGRAM, IN A SANDBOX (cutbox-rows.mjs): the forced cells as the released guide's own fill.sh prints them over the translation e538117d69d548e9… (all of the seat's roots in one cut). By AI agents, Wed Nov 11 2026. No macro, syntax, notation, axiom, sorry.
-/
import Derived.Test.YtfeacgamgdpojaaChecked
import GoSem.Claim
import GoSem.ClaimJoined
import GoSem.ClaimMapViews
import Derived.JoinedTies
import Derived.KernelRfl
namespace Go.Proofs.Ytfeacgamgdpojaa
/- THE CELL 'sum', in the pinned program and in every row, IS THE sha256 OF THE DUMP (.gsa) THAT YtfeacgamgdpojaaProg.lean LOADS. Nothing in Lean hashes anything: it is a label: what it is worth is what the hold of that sum in a sandbox is worth. -/
noncomputable def Try.pinned : Pinned := { name := "ytfeacgamgdpojaa", sum := "e538117d69d548e92ec57832d987a5c8930ea0ff21fd477610f96671116e3782", checked := Try.checked }
namespace Rows
def none {H : Type} : Left H := { results := [], args := [] }

/-- 'crossroadslaw14.FilesWrite': WHATEVER THE INPUT: true; the input reads as it did. -/
def filesWriteSpec : ChangeSpec := { name := "filesWrite", fn := fun _ => fun
  | [d1, d2, d3] => { results := [.lit (.bool true)], args := [d1, d2, d3] }
  | _ => none }
def filesWriteRow : OpenClaim := { program := "ytfeacgamgdpojaa", sum := "e538117d69d548e92ec57832d987a5c8930ea0ff21fd477610f96671116e3782", func := "crossroads/crossroadslaw14.FilesWrite", spec := "filesWrite", inPlace := ["internal/bytealg.IndexByteString", "internal/bytealg.IndexString", "maps.clone"], named := ["internal/bytealg.MaxLen"], plainKeys := false, apart := false }
def FilesWriteSaid : Prop := filesWriteRow.holds Try.pinned (OpenSpec.ofChange filesWriteSpec)

/-- ITS FALSE NEIGHBOUR: 'it returns false'. Refute it at one input. -/
def filesWriteWrong : ChangeSpec := { name := "filesWrite", fn := fun _ => fun
  | [d1, d2, d3] => { results := [.lit (.bool false)], args := [d1, d2, d3] }
  | _ => none }
def FilesWriteWrongFalsely : Prop := filesWriteRow.holds Try.pinned (OpenSpec.ofChange filesWriteWrong)

/-- 'crossroadslaw14.FilesFds': WHATEVER THE INPUT: true; the input reads as it did. -/
def filesFdsSpec : ChangeSpec := { name := "filesFds", fn := fun _ => fun
  | [d] => { results := [.lit (.bool true)], args := [d] }
  | _ => none }
def filesFdsRow : OpenClaim := { program := "ytfeacgamgdpojaa", sum := "e538117d69d548e92ec57832d987a5c8930ea0ff21fd477610f96671116e3782", func := "crossroads/crossroadslaw14.FilesFds", spec := "filesFds", inPlace := ["internal/bytealg.IndexByteString", "internal/bytealg.IndexString", "maps.clone"], named := ["internal/bytealg.MaxLen"], plainKeys := false, apart := false }
def FilesFdsSaid : Prop := filesFdsRow.holds Try.pinned (OpenSpec.ofChange filesFdsSpec)

/-- ITS FALSE NEIGHBOUR: 'it returns false'. Refute it at one input. -/
def filesFdsWrong : ChangeSpec := { name := "filesFds", fn := fun _ => fun
  | [d] => { results := [.lit (.bool false)], args := [d] }
  | _ => none }
def FilesFdsWrongFalsely : Prop := filesFdsRow.holds Try.pinned (OpenSpec.ofChange filesFdsWrong)

/-- 'crossroadslaw14.FilesNew': WHATEVER THE INPUT: true; the input reads as it did. -/
def filesNewSpec : ChangeSpec := { name := "filesNew", fn := fun _ => fun
  | [d] => { results := [.lit (.bool true)], args := [d] }
  | _ => none }
def filesNewRow : OpenClaim := { program := "ytfeacgamgdpojaa", sum := "e538117d69d548e92ec57832d987a5c8930ea0ff21fd477610f96671116e3782", func := "crossroads/crossroadslaw14.FilesNew", spec := "filesNew", inPlace := ["internal/bytealg.IndexByteString", "internal/bytealg.IndexString", "maps.clone"], named := ["internal/bytealg.MaxLen"], plainKeys := false, apart := false }
def FilesNewSaid : Prop := filesNewRow.holds Try.pinned (OpenSpec.ofChange filesNewSpec)

/-- ITS FALSE NEIGHBOUR: 'it returns false'. Refute it at one input. -/
def filesNewWrong : ChangeSpec := { name := "filesNew", fn := fun _ => fun
  | [d] => { results := [.lit (.bool false)], args := [d] }
  | _ => none }
def FilesNewWrongFalsely : Prop := filesNewRow.holds Try.pinned (OpenSpec.ofChange filesNewWrong)

/-- 'crossroadslaw14.FilesTrunc': WHATEVER THE INPUT: true; the input reads as it did. -/
def filesTruncSpec : ChangeSpec := { name := "filesTrunc", fn := fun _ => fun
  | [d1, d2] => { results := [.lit (.bool true)], args := [d1, d2] }
  | _ => none }
def filesTruncRow : OpenClaim := { program := "ytfeacgamgdpojaa", sum := "e538117d69d548e92ec57832d987a5c8930ea0ff21fd477610f96671116e3782", func := "crossroads/crossroadslaw14.FilesTrunc", spec := "filesTrunc", inPlace := ["internal/bytealg.IndexByteString", "internal/bytealg.IndexString", "maps.clone"], named := ["internal/bytealg.MaxLen"], plainKeys := false, apart := false }
def FilesTruncSaid : Prop := filesTruncRow.holds Try.pinned (OpenSpec.ofChange filesTruncSpec)

/-- ITS FALSE NEIGHBOUR: 'it returns false'. Refute it at one input. -/
def filesTruncWrong : ChangeSpec := { name := "filesTrunc", fn := fun _ => fun
  | [d1, d2] => { results := [.lit (.bool false)], args := [d1, d2] }
  | _ => none }
def FilesTruncWrongFalsely : Prop := filesTruncRow.holds Try.pinned (OpenSpec.ofChange filesTruncWrong)

/-- 'crossroadslaw19.GhostFds': WHATEVER THE INPUT: true; the input reads as it did. -/
def ghostFdsSpec : ChangeSpec := { name := "ghostFds", fn := fun _ => fun
  | [d1, d2] => { results := [.lit (.bool true)], args := [d1, d2] }
  | _ => none }
def ghostFdsRow : OpenClaim := { program := "ytfeacgamgdpojaa", sum := "e538117d69d548e92ec57832d987a5c8930ea0ff21fd477610f96671116e3782", func := "crossroads/crossroadslaw19.GhostFds", spec := "ghostFds", inPlace := ["internal/bytealg.IndexByteString", "internal/bytealg.IndexString", "maps.clone"], named := ["internal/bytealg.MaxLen"], plainKeys := false, apart := false }
def GhostFdsSaid : Prop := ghostFdsRow.holds Try.pinned (OpenSpec.ofChange ghostFdsSpec)

/-- ITS FALSE NEIGHBOUR: 'it returns false'. Refute it at one input. -/
def ghostFdsWrong : ChangeSpec := { name := "ghostFds", fn := fun _ => fun
  | [d1, d2] => { results := [.lit (.bool false)], args := [d1, d2] }
  | _ => none }
def GhostFdsWrongFalsely : Prop := ghostFdsRow.holds Try.pinned (OpenSpec.ofChange ghostFdsWrong)

/-- 'crossroadslaw14.FilesLive': WHATEVER THE INPUT: true; the input reads as it did. -/
def filesLiveSpec : ChangeSpec := { name := "filesLive", fn := fun _ => fun
  | [d1, d2] => { results := [.lit (.bool true)], args := [d1, d2] }
  | _ => none }
def filesLiveRow : OpenClaim := { program := "ytfeacgamgdpojaa", sum := "e538117d69d548e92ec57832d987a5c8930ea0ff21fd477610f96671116e3782", func := "crossroads/crossroadslaw14.FilesLive", spec := "filesLive", inPlace := ["internal/bytealg.IndexByteString", "internal/bytealg.IndexString", "maps.clone"], named := ["internal/bytealg.MaxLen"], plainKeys := false, apart := false }
def FilesLiveSaid : Prop := filesLiveRow.holds Try.pinned (OpenSpec.ofChange filesLiveSpec)

/-- ITS FALSE NEIGHBOUR: 'it returns false'. Refute it at one input. -/
def filesLiveWrong : ChangeSpec := { name := "filesLive", fn := fun _ => fun
  | [d1, d2] => { results := [.lit (.bool false)], args := [d1, d2] }
  | _ => none }
def FilesLiveWrongFalsely : Prop := filesLiveRow.holds Try.pinned (OpenSpec.ofChange filesLiveWrong)

/-- 'crossroadslaw14.FilesKnown': WHATEVER THE INPUT: true; the input reads as it did. -/
def filesKnownSpec : ChangeSpec := { name := "filesKnown", fn := fun _ => fun
  | [] => { results := [.lit (.bool true)], args := [] }
  | _ => none }
def filesKnownRow : OpenClaim := { program := "ytfeacgamgdpojaa", sum := "e538117d69d548e92ec57832d987a5c8930ea0ff21fd477610f96671116e3782", func := "crossroads/crossroadslaw14.FilesKnown", spec := "filesKnown", inPlace := ["internal/bytealg.IndexByteString", "internal/bytealg.IndexString", "maps.clone"], named := ["internal/bytealg.MaxLen"], plainKeys := false, apart := false }
def FilesKnownSaid : Prop := filesKnownRow.holds Try.pinned (OpenSpec.ofChange filesKnownSpec)

/-- ITS FALSE NEIGHBOUR: 'it returns false'. Refute it at one input. -/
def filesKnownWrong : ChangeSpec := { name := "filesKnown", fn := fun _ => fun
  | [] => { results := [.lit (.bool false)], args := [] }
  | _ => none }
def FilesKnownWrongFalsely : Prop := filesKnownRow.holds Try.pinned (OpenSpec.ofChange filesKnownWrong)

/-- 'crossroadslaw14.FilesPlay': WHATEVER THE INPUT: true; the input reads as it did. -/
def filesPlaySpec : ChangeSpec := { name := "filesPlay", fn := fun _ => fun
  | [d1, d2, d3] => { results := [.lit (.bool true)], args := [d1, d2, d3] }
  | _ => none }
def filesPlayRow : OpenClaim := { program := "ytfeacgamgdpojaa", sum := "e538117d69d548e92ec57832d987a5c8930ea0ff21fd477610f96671116e3782", func := "crossroads/crossroadslaw14.FilesPlay", spec := "filesPlay", inPlace := ["internal/bytealg.IndexByteString", "internal/bytealg.IndexString", "maps.clone"], named := ["internal/bytealg.MaxLen"], plainKeys := false, apart := false }
def FilesPlaySaid : Prop := filesPlayRow.holds Try.pinned (OpenSpec.ofChange filesPlaySpec)

/-- ITS FALSE NEIGHBOUR: 'it returns false'. Refute it at one input. -/
def filesPlayWrong : ChangeSpec := { name := "filesPlay", fn := fun _ => fun
  | [d1, d2, d3] => { results := [.lit (.bool false)], args := [d1, d2, d3] }
  | _ => none }
def FilesPlayWrongFalsely : Prop := filesPlayRow.holds Try.pinned (OpenSpec.ofChange filesPlayWrong)

/-- 'crossroadslaw19.GhostKnown': WHATEVER THE INPUT: true; the input reads as it did. -/
def ghostKnownSpec : ChangeSpec := { name := "ghostKnown", fn := fun _ => fun
  | [] => { results := [.lit (.bool true)], args := [] }
  | _ => none }
def ghostKnownRow : OpenClaim := { program := "ytfeacgamgdpojaa", sum := "e538117d69d548e92ec57832d987a5c8930ea0ff21fd477610f96671116e3782", func := "crossroads/crossroadslaw19.GhostKnown", spec := "ghostKnown", inPlace := ["internal/bytealg.IndexByteString", "internal/bytealg.IndexString", "maps.clone"], named := ["internal/bytealg.MaxLen"], plainKeys := false, apart := false }
def GhostKnownSaid : Prop := ghostKnownRow.holds Try.pinned (OpenSpec.ofChange ghostKnownSpec)

/-- ITS FALSE NEIGHBOUR: 'it returns false'. Refute it at one input. -/
def ghostKnownWrong : ChangeSpec := { name := "ghostKnown", fn := fun _ => fun
  | [] => { results := [.lit (.bool false)], args := [] }
  | _ => none }
def GhostKnownWrongFalsely : Prop := ghostKnownRow.holds Try.pinned (OpenSpec.ofChange ghostKnownWrong)

/-- 'crossroadslaw19.GhostPlays': WHATEVER THE INPUT: true; the input reads as it did. -/
def ghostPlaysSpec : ChangeSpec := { name := "ghostPlays", fn := fun _ => fun
  | [d1, d2, d3] => { results := [.lit (.bool true)], args := [d1, d2, d3] }
  | _ => none }
def ghostPlaysRow : OpenClaim := { program := "ytfeacgamgdpojaa", sum := "e538117d69d548e92ec57832d987a5c8930ea0ff21fd477610f96671116e3782", func := "crossroads/crossroadslaw19.GhostPlays", spec := "ghostPlays", inPlace := ["internal/bytealg.IndexByteString", "internal/bytealg.IndexString", "maps.clone"], named := ["internal/bytealg.MaxLen"], plainKeys := false, apart := false }
def GhostPlaysSaid : Prop := ghostPlaysRow.holds Try.pinned (OpenSpec.ofChange ghostPlaysSpec)

/-- ITS FALSE NEIGHBOUR: 'it returns false'. Refute it at one input. -/
def ghostPlaysWrong : ChangeSpec := { name := "ghostPlays", fn := fun _ => fun
  | [d1, d2, d3] => { results := [.lit (.bool false)], args := [d1, d2, d3] }
  | _ => none }
def GhostPlaysWrongFalsely : Prop := ghostPlaysRow.holds Try.pinned (OpenSpec.ofChange ghostPlaysWrong)

/-- 'crossroadslaw19.GhostCopies': WHATEVER THE INPUT: true; the input reads as it did. -/
def ghostCopiesSpec : ChangeSpec := { name := "ghostCopies", fn := fun _ => fun
  | [d1, d2, d3] => { results := [.lit (.bool true)], args := [d1, d2, d3] }
  | _ => none }
def ghostCopiesRow : OpenClaim := { program := "ytfeacgamgdpojaa", sum := "e538117d69d548e92ec57832d987a5c8930ea0ff21fd477610f96671116e3782", func := "crossroads/crossroadslaw19.GhostCopies", spec := "ghostCopies", inPlace := ["internal/bytealg.IndexByteString", "internal/bytealg.IndexString", "maps.clone"], named := ["internal/bytealg.MaxLen"], plainKeys := false, apart := false }
def GhostCopiesSaid : Prop := ghostCopiesRow.holds Try.pinned (OpenSpec.ofChange ghostCopiesSpec)

/-- ITS FALSE NEIGHBOUR: 'it returns false'. Refute it at one input. -/
def ghostCopiesWrong : ChangeSpec := { name := "ghostCopies", fn := fun _ => fun
  | [d1, d2, d3] => { results := [.lit (.bool false)], args := [d1, d2, d3] }
  | _ => none }
def GhostCopiesWrongFalsely : Prop := ghostCopiesRow.holds Try.pinned (OpenSpec.ofChange ghostCopiesWrong)

/-- 'crossroadslaw19.GhostBytes': WHATEVER THE INPUT: true; the input reads as it did. -/
def ghostBytesSpec : ChangeSpec := { name := "ghostBytes", fn := fun _ => fun
  | [d1, d2, d3] => { results := [.lit (.bool true)], args := [d1, d2, d3] }
  | _ => none }
def ghostBytesRow : OpenClaim := { program := "ytfeacgamgdpojaa", sum := "e538117d69d548e92ec57832d987a5c8930ea0ff21fd477610f96671116e3782", func := "crossroads/crossroadslaw19.GhostBytes", spec := "ghostBytes", inPlace := ["internal/bytealg.IndexByteString", "internal/bytealg.IndexString", "maps.clone"], unfollowed := true, recurses := true, named := ["internal/bytealg.MaxLen"], plainKeys := false, apart := false }
def GhostBytesSaid : Prop := ghostBytesRow.holds Try.pinned (OpenSpec.ofChange ghostBytesSpec)

/-- ITS FALSE NEIGHBOUR: 'it returns false'. Refute it at one input. -/
def ghostBytesWrong : ChangeSpec := { name := "ghostBytes", fn := fun _ => fun
  | [d1, d2, d3] => { results := [.lit (.bool false)], args := [d1, d2, d3] }
  | _ => none }
def GhostBytesWrongFalsely : Prop := ghostBytesRow.holds Try.pinned (OpenSpec.ofChange ghostBytesWrong)

/- THE SECOND FORM. 'bulk': how many values and letters a reading holds, each counted each time it is reached (what is shared counts as often as it is met; a slice's spare places count too). A statement '..UptoSaid' is the law's where the arguments, and the package variables that the reading takes, are together of bulk at most 1048576: NARROWER than '..Said'. Prove '..Said' where nothing that the law and all that it calls make is longer than what came in: it says more and counts as full. Else prove '..UptoSaid'. A law counts once. -/
mutual
def uptoBulk {H : Type} : DataW H → Nat
  | .lit (.string bytes) => bytes.length + 1
  | .lit _ => 1
  | .nil => 1
  | .ptr d => uptoBulk d + 1
  | .slice elems spare => uptoBulkAll elems + uptoBulkAll spare + 1
  | .agg parts => uptoBulkAll parts + 1
  | .iface _ d => uptoBulk d + 1
  | .map entries => uptoBulkEntries entries + 1
  | .held _ => 1
def uptoBulkAll {H : Type} : List (DataW H) → Nat
  | [] => 0
  | d :: r => uptoBulk d + uptoBulkAll r
def uptoBulkEntries {H : Type} : List (Lit × DataW H) → Nat
  | [] => 0
  | x :: r => uptoBulkEntry x + uptoBulkEntries r
def uptoBulkEntry {H : Type} : Lit × DataW H → Nat
  | (.string bytes, d) => bytes.length + uptoBulk d + 1
  | (_, d) => uptoBulk d + 1
 end
def uptoSmall : (H : Type) → List (DataW H) → Bool := fun _ ds => decide (uptoBulkAll ds ≤ 1048576)
def OpenSpec.upto (s : _root_.Go.ChangeSpec) : _root_.Go.OpenSpec := { _root_.Go.OpenSpec.ofChange s with cond := some uptoSmall }

/-- 'crossroadslaw14.FilesWrite', WHERE WHAT IT READS IS OF BULK AT MOST 1048576: true; the input reads as it did. -/
def filesWriteUptoRow : OpenClaim := { program := "ytfeacgamgdpojaa", sum := "e538117d69d548e92ec57832d987a5c8930ea0ff21fd477610f96671116e3782", func := "crossroads/crossroadslaw14.FilesWrite", spec := "filesWrite", inPlace := ["internal/bytealg.IndexByteString", "internal/bytealg.IndexString", "maps.clone"], named := ["internal/bytealg.MaxLen"], plainKeys := false, apart := false, narrowed := true }
def FilesWriteUptoSaid : Prop := filesWriteUptoRow.holds Try.pinned (OpenSpec.upto filesWriteSpec)

/-- 'crossroadslaw14.FilesFds', WHERE WHAT IT READS IS OF BULK AT MOST 1048576: true; the input reads as it did. -/
def filesFdsUptoRow : OpenClaim := { program := "ytfeacgamgdpojaa", sum := "e538117d69d548e92ec57832d987a5c8930ea0ff21fd477610f96671116e3782", func := "crossroads/crossroadslaw14.FilesFds", spec := "filesFds", inPlace := ["internal/bytealg.IndexByteString", "internal/bytealg.IndexString", "maps.clone"], named := ["internal/bytealg.MaxLen"], plainKeys := false, apart := false, narrowed := true }
def FilesFdsUptoSaid : Prop := filesFdsUptoRow.holds Try.pinned (OpenSpec.upto filesFdsSpec)

/-- 'crossroadslaw14.FilesNew', WHERE WHAT IT READS IS OF BULK AT MOST 1048576: true; the input reads as it did. -/
def filesNewUptoRow : OpenClaim := { program := "ytfeacgamgdpojaa", sum := "e538117d69d548e92ec57832d987a5c8930ea0ff21fd477610f96671116e3782", func := "crossroads/crossroadslaw14.FilesNew", spec := "filesNew", inPlace := ["internal/bytealg.IndexByteString", "internal/bytealg.IndexString", "maps.clone"], named := ["internal/bytealg.MaxLen"], plainKeys := false, apart := false, narrowed := true }
def FilesNewUptoSaid : Prop := filesNewUptoRow.holds Try.pinned (OpenSpec.upto filesNewSpec)

/-- 'crossroadslaw14.FilesTrunc', WHERE WHAT IT READS IS OF BULK AT MOST 1048576: true; the input reads as it did. -/
def filesTruncUptoRow : OpenClaim := { program := "ytfeacgamgdpojaa", sum := "e538117d69d548e92ec57832d987a5c8930ea0ff21fd477610f96671116e3782", func := "crossroads/crossroadslaw14.FilesTrunc", spec := "filesTrunc", inPlace := ["internal/bytealg.IndexByteString", "internal/bytealg.IndexString", "maps.clone"], named := ["internal/bytealg.MaxLen"], plainKeys := false, apart := false, narrowed := true }
def FilesTruncUptoSaid : Prop := filesTruncUptoRow.holds Try.pinned (OpenSpec.upto filesTruncSpec)

/-- 'crossroadslaw19.GhostFds', WHERE WHAT IT READS IS OF BULK AT MOST 1048576: true; the input reads as it did. -/
def ghostFdsUptoRow : OpenClaim := { program := "ytfeacgamgdpojaa", sum := "e538117d69d548e92ec57832d987a5c8930ea0ff21fd477610f96671116e3782", func := "crossroads/crossroadslaw19.GhostFds", spec := "ghostFds", inPlace := ["internal/bytealg.IndexByteString", "internal/bytealg.IndexString", "maps.clone"], named := ["internal/bytealg.MaxLen"], plainKeys := false, apart := false, narrowed := true }
def GhostFdsUptoSaid : Prop := ghostFdsUptoRow.holds Try.pinned (OpenSpec.upto ghostFdsSpec)

/-- 'crossroadslaw14.FilesLive', WHERE WHAT IT READS IS OF BULK AT MOST 1048576: true; the input reads as it did. -/
def filesLiveUptoRow : OpenClaim := { program := "ytfeacgamgdpojaa", sum := "e538117d69d548e92ec57832d987a5c8930ea0ff21fd477610f96671116e3782", func := "crossroads/crossroadslaw14.FilesLive", spec := "filesLive", inPlace := ["internal/bytealg.IndexByteString", "internal/bytealg.IndexString", "maps.clone"], named := ["internal/bytealg.MaxLen"], plainKeys := false, apart := false, narrowed := true }
def FilesLiveUptoSaid : Prop := filesLiveUptoRow.holds Try.pinned (OpenSpec.upto filesLiveSpec)

/-- 'crossroadslaw14.FilesKnown', WHERE WHAT IT READS IS OF BULK AT MOST 1048576: true; the input reads as it did. -/
def filesKnownUptoRow : OpenClaim := { program := "ytfeacgamgdpojaa", sum := "e538117d69d548e92ec57832d987a5c8930ea0ff21fd477610f96671116e3782", func := "crossroads/crossroadslaw14.FilesKnown", spec := "filesKnown", inPlace := ["internal/bytealg.IndexByteString", "internal/bytealg.IndexString", "maps.clone"], named := ["internal/bytealg.MaxLen"], plainKeys := false, apart := false, narrowed := true }
def FilesKnownUptoSaid : Prop := filesKnownUptoRow.holds Try.pinned (OpenSpec.upto filesKnownSpec)

/-- 'crossroadslaw14.FilesPlay', WHERE WHAT IT READS IS OF BULK AT MOST 1048576: true; the input reads as it did. -/
def filesPlayUptoRow : OpenClaim := { program := "ytfeacgamgdpojaa", sum := "e538117d69d548e92ec57832d987a5c8930ea0ff21fd477610f96671116e3782", func := "crossroads/crossroadslaw14.FilesPlay", spec := "filesPlay", inPlace := ["internal/bytealg.IndexByteString", "internal/bytealg.IndexString", "maps.clone"], named := ["internal/bytealg.MaxLen"], plainKeys := false, apart := false, narrowed := true }
def FilesPlayUptoSaid : Prop := filesPlayUptoRow.holds Try.pinned (OpenSpec.upto filesPlaySpec)

/-- 'crossroadslaw19.GhostKnown', WHERE WHAT IT READS IS OF BULK AT MOST 1048576: true; the input reads as it did. -/
def ghostKnownUptoRow : OpenClaim := { program := "ytfeacgamgdpojaa", sum := "e538117d69d548e92ec57832d987a5c8930ea0ff21fd477610f96671116e3782", func := "crossroads/crossroadslaw19.GhostKnown", spec := "ghostKnown", inPlace := ["internal/bytealg.IndexByteString", "internal/bytealg.IndexString", "maps.clone"], named := ["internal/bytealg.MaxLen"], plainKeys := false, apart := false, narrowed := true }
def GhostKnownUptoSaid : Prop := ghostKnownUptoRow.holds Try.pinned (OpenSpec.upto ghostKnownSpec)

/-- 'crossroadslaw19.GhostPlays', WHERE WHAT IT READS IS OF BULK AT MOST 1048576: true; the input reads as it did. -/
def ghostPlaysUptoRow : OpenClaim := { program := "ytfeacgamgdpojaa", sum := "e538117d69d548e92ec57832d987a5c8930ea0ff21fd477610f96671116e3782", func := "crossroads/crossroadslaw19.GhostPlays", spec := "ghostPlays", inPlace := ["internal/bytealg.IndexByteString", "internal/bytealg.IndexString", "maps.clone"], named := ["internal/bytealg.MaxLen"], plainKeys := false, apart := false, narrowed := true }
def GhostPlaysUptoSaid : Prop := ghostPlaysUptoRow.holds Try.pinned (OpenSpec.upto ghostPlaysSpec)

/-- 'crossroadslaw19.GhostCopies', WHERE WHAT IT READS IS OF BULK AT MOST 1048576: true; the input reads as it did. -/
def ghostCopiesUptoRow : OpenClaim := { program := "ytfeacgamgdpojaa", sum := "e538117d69d548e92ec57832d987a5c8930ea0ff21fd477610f96671116e3782", func := "crossroads/crossroadslaw19.GhostCopies", spec := "ghostCopies", inPlace := ["internal/bytealg.IndexByteString", "internal/bytealg.IndexString", "maps.clone"], named := ["internal/bytealg.MaxLen"], plainKeys := false, apart := false, narrowed := true }
def GhostCopiesUptoSaid : Prop := ghostCopiesUptoRow.holds Try.pinned (OpenSpec.upto ghostCopiesSpec)

/-- 'crossroadslaw19.GhostBytes', WHERE WHAT IT READS IS OF BULK AT MOST 1048576: true; the input reads as it did. -/
def ghostBytesUptoRow : OpenClaim := { program := "ytfeacgamgdpojaa", sum := "e538117d69d548e92ec57832d987a5c8930ea0ff21fd477610f96671116e3782", func := "crossroads/crossroadslaw19.GhostBytes", spec := "ghostBytes", inPlace := ["internal/bytealg.IndexByteString", "internal/bytealg.IndexString", "maps.clone"], unfollowed := true, recurses := true, named := ["internal/bytealg.MaxLen"], plainKeys := false, apart := false, narrowed := true }
def GhostBytesUptoSaid : Prop := ghostBytesUptoRow.holds Try.pinned (OpenSpec.upto ghostBytesSpec)

end Rows
end Go.Proofs.Ytfeacgamgdpojaa
