/-
  No cell of these rows narrows 'for every input' (looked for: loops, veiled, ifaces, maps, wideKeys, modest, calm, conditions, laid).
  DERIVED. THE GIVEN ROWS OF THIS SEAT. 7 by the template 'for every input the law returns true; each argument reads behind the call as it read before'; 0 by the template 'total and deterministic' (their statements: YtlfhmecdgfennaaTotals.lean).
  GIVEN WITH THE SEED: the statements are not yours to turn. If you find one false, say at which input.
  Laid BY PROGRAM, IN A SANDBOX (cutbox-rows.mjs): the forced cells as the released guide's own fill.sh prints them over the translation f2b744fa2d61995c… (all of the seat's roots in one cut). By AI agents, Wed Nov 11 2026. No macro, syntax, notation, axiom, sorry.
-/
import Derived.Test.YtlfhmecdgfennaaChecked
import GoSem.Claim
import GoSem.ClaimJoined
import GoSem.ClaimMapViews
import Derived.JoinedTies
import Derived.KernelRfl
namespace Go.Proofs.Ytlfhmecdgfennaa
/- THE CELL 'sum', in the pinned program and in every row, IS THE sha256 OF THE DUMP (.gsa) THAT YtlfhmecdgfennaaProg.lean LOADS. Nothing in Lean hashes anything: it is a label: what it is worth is what the hold of that sum in a sandbox is worth. -/
noncomputable def Try.pinned : Pinned := { name := "ytlfhmecdgfennaa", sum := "f2b744fa2d61995c6cd466e9eb218b4c4deaa73e44be3ab064a5226417147083", checked := Try.checked }
namespace Rows
def none {H : Type} : Left H := { results := [], args := [] }

/-- 'crossroadslaw18.CastPlaces': WHATEVER THE INPUT: true; the input reads as it did. -/
def castPlacesSpec : ChangeSpec := { name := "castPlaces", fn := fun _ => fun
  | [d] => { results := [.lit (.bool true)], args := [d] }
  | _ => none }
def castPlacesRow : OpenClaim := { program := "ytlfhmecdgfennaa", sum := "f2b744fa2d61995c6cd466e9eb218b4c4deaa73e44be3ab064a5226417147083", func := "crossroads/crossroadslaw18.CastPlaces", spec := "castPlaces", inPlace := ["internal/bytealg.IndexByteString", "internal/bytealg.IndexString"], named := ["internal/bytealg.MaxLen"], plainKeys := false, apart := false }
def CastPlacesSaid : Prop := castPlacesRow.holds Try.pinned (OpenSpec.ofChange castPlacesSpec)

/-- ITS FALSE NEIGHBOUR: 'it returns false'. Refute it at one input. -/
def castPlacesWrong : ChangeSpec := { name := "castPlaces", fn := fun _ => fun
  | [d] => { results := [.lit (.bool false)], args := [d] }
  | _ => none }
def CastPlacesWrongFalsely : Prop := castPlacesRow.holds Try.pinned (OpenSpec.ofChange castPlacesWrong)

/-- 'crossroadslaw18.CastApart': WHATEVER THE INPUT: true; the input reads as it did. -/
def castApartSpec : ChangeSpec := { name := "castApart", fn := fun _ => fun
  | [d1, d2, d3] => { results := [.lit (.bool true)], args := [d1, d2, d3] }
  | _ => none }
def castApartRow : OpenClaim := { program := "ytlfhmecdgfennaa", sum := "f2b744fa2d61995c6cd466e9eb218b4c4deaa73e44be3ab064a5226417147083", func := "crossroads/crossroadslaw18.CastApart", spec := "castApart", inPlace := ["internal/bytealg.IndexByteString", "internal/bytealg.IndexString"], recurses := true, named := ["internal/bytealg.MaxLen"], plainKeys := false, apart := false }
def CastApartSaid : Prop := castApartRow.holds Try.pinned (OpenSpec.ofChange castApartSpec)

/-- ITS FALSE NEIGHBOUR: 'it returns false'. Refute it at one input. -/
def castApartWrong : ChangeSpec := { name := "castApart", fn := fun _ => fun
  | [d1, d2, d3] => { results := [.lit (.bool false)], args := [d1, d2, d3] }
  | _ => none }
def CastApartWrongFalsely : Prop := castApartRow.holds Try.pinned (OpenSpec.ofChange castApartWrong)

/-- 'crossroadslaw18.CastSizes': WHATEVER THE INPUT: true; the input reads as it did. -/
def castSizesSpec : ChangeSpec := { name := "castSizes", fn := fun _ => fun
  | [d1, d2] => { results := [.lit (.bool true)], args := [d1, d2] }
  | _ => none }
def castSizesRow : OpenClaim := { program := "ytlfhmecdgfennaa", sum := "f2b744fa2d61995c6cd466e9eb218b4c4deaa73e44be3ab064a5226417147083", func := "crossroads/crossroadslaw18.CastSizes", spec := "castSizes", inPlace := ["internal/bytealg.IndexByteString", "internal/bytealg.IndexString"], recurses := true, named := ["internal/bytealg.MaxLen"], plainKeys := false, apart := false }
def CastSizesSaid : Prop := castSizesRow.holds Try.pinned (OpenSpec.ofChange castSizesSpec)

/-- ITS FALSE NEIGHBOUR: 'it returns false'. Refute it at one input. -/
def castSizesWrong : ChangeSpec := { name := "castSizes", fn := fun _ => fun
  | [d1, d2] => { results := [.lit (.bool false)], args := [d1, d2] }
  | _ => none }
def CastSizesWrongFalsely : Prop := castSizesRow.holds Try.pinned (OpenSpec.ofChange castSizesWrong)

/-- 'crossroadslaw18.CastTurns': WHATEVER THE INPUT: true; the input reads as it did. -/
def castTurnsSpec : ChangeSpec := { name := "castTurns", fn := fun _ => fun
  | [d1, d2, d3] => { results := [.lit (.bool true)], args := [d1, d2, d3] }
  | _ => none }
def castTurnsRow : OpenClaim := { program := "ytlfhmecdgfennaa", sum := "f2b744fa2d61995c6cd466e9eb218b4c4deaa73e44be3ab064a5226417147083", func := "crossroads/crossroadslaw18.CastTurns", spec := "castTurns", inPlace := ["internal/bytealg.IndexByteString", "internal/bytealg.IndexString"], named := ["internal/bytealg.MaxLen"], plainKeys := false, apart := false }
def CastTurnsSaid : Prop := castTurnsRow.holds Try.pinned (OpenSpec.ofChange castTurnsSpec)

/-- ITS FALSE NEIGHBOUR: 'it returns false'. Refute it at one input. -/
def castTurnsWrong : ChangeSpec := { name := "castTurns", fn := fun _ => fun
  | [d1, d2, d3] => { results := [.lit (.bool false)], args := [d1, d2, d3] }
  | _ => none }
def CastTurnsWrongFalsely : Prop := castTurnsRow.holds Try.pinned (OpenSpec.ofChange castTurnsWrong)

/-- 'crossroadslaw18.CastKnown': WHATEVER THE INPUT: true; the input reads as it did. -/
def castKnownSpec : ChangeSpec := { name := "castKnown", fn := fun _ => fun
  | [] => { results := [.lit (.bool true)], args := [] }
  | _ => none }
def castKnownRow : OpenClaim := { program := "ytlfhmecdgfennaa", sum := "f2b744fa2d61995c6cd466e9eb218b4c4deaa73e44be3ab064a5226417147083", func := "crossroads/crossroadslaw18.CastKnown", spec := "castKnown", inPlace := ["internal/bytealg.IndexByteString", "internal/bytealg.IndexString"], recurses := true, named := ["internal/bytealg.MaxLen"], plainKeys := false, apart := false }
def CastKnownSaid : Prop := castKnownRow.holds Try.pinned (OpenSpec.ofChange castKnownSpec)

/-- ITS FALSE NEIGHBOUR: 'it returns false'. Refute it at one input. -/
def castKnownWrong : ChangeSpec := { name := "castKnown", fn := fun _ => fun
  | [] => { results := [.lit (.bool false)], args := [] }
  | _ => none }
def CastKnownWrongFalsely : Prop := castKnownRow.holds Try.pinned (OpenSpec.ofChange castKnownWrong)

/-- 'crossroadslaw18.CastPremise': WHATEVER THE INPUT: true; the input reads as it did. -/
def castPremiseSpec : ChangeSpec := { name := "castPremise", fn := fun _ => fun
  | [d1, d2] => { results := [.lit (.bool true)], args := [d1, d2] }
  | _ => none }
def castPremiseRow : OpenClaim := { program := "ytlfhmecdgfennaa", sum := "f2b744fa2d61995c6cd466e9eb218b4c4deaa73e44be3ab064a5226417147083", func := "crossroads/crossroadslaw18.CastPremise", spec := "castPremise", inPlace := ["internal/bytealg.IndexByteString", "internal/bytealg.IndexString"], recurses := true, named := ["internal/bytealg.MaxLen"], plainKeys := false, apart := false }
def CastPremiseSaid : Prop := castPremiseRow.holds Try.pinned (OpenSpec.ofChange castPremiseSpec)

/-- ITS FALSE NEIGHBOUR: 'it returns false'. Refute it at one input. -/
def castPremiseWrong : ChangeSpec := { name := "castPremise", fn := fun _ => fun
  | [d1, d2] => { results := [.lit (.bool false)], args := [d1, d2] }
  | _ => none }
def CastPremiseWrongFalsely : Prop := castPremiseRow.holds Try.pinned (OpenSpec.ofChange castPremiseWrong)

/-- 'crossroadslaw18.CastWhole': WHATEVER THE INPUT: true; the input reads as it did. -/
def castWholeSpec : ChangeSpec := { name := "castWhole", fn := fun _ => fun
  | [d1, d2, d3] => { results := [.lit (.bool true)], args := [d1, d2, d3] }
  | _ => none }
def castWholeRow : OpenClaim := { program := "ytlfhmecdgfennaa", sum := "f2b744fa2d61995c6cd466e9eb218b4c4deaa73e44be3ab064a5226417147083", func := "crossroads/crossroadslaw18.CastWhole", spec := "castWhole", inPlace := ["internal/bytealg.IndexByteString", "internal/bytealg.IndexString"], recurses := true, named := ["internal/bytealg.MaxLen"], plainKeys := false, apart := false }
def CastWholeSaid : Prop := castWholeRow.holds Try.pinned (OpenSpec.ofChange castWholeSpec)

/-- ITS FALSE NEIGHBOUR: 'it returns false'. Refute it at one input. -/
def castWholeWrong : ChangeSpec := { name := "castWhole", fn := fun _ => fun
  | [d1, d2, d3] => { results := [.lit (.bool false)], args := [d1, d2, d3] }
  | _ => none }
def CastWholeWrongFalsely : Prop := castWholeRow.holds Try.pinned (OpenSpec.ofChange castWholeWrong)

/- THE SECOND FORM. 'bulk': how many values and letters a reading holds, each counted each time it is reached (what is shared counts as often as it is met; a slice's spare places count too). A statement '..UptoSaid' is the law's where the arguments, and the package variables that the reading takes, are together of bulk at most 1048576: NARROWER than '..Said'. Prove '..Said' where nothing that the law and all that it calls make is longer than what came in: it says more and counts as full. Else prove '..UptoSaid'. A law counts once. -/
mutual
def uptoBulk {H : Type} : DataW H → Nat
  | .lit (.string bytes) => bytes.length + 1
  | .lit _ => 1
  | .nil => 1
  | .ptr d => uptoBulk d + 1
  | .slice elems spare => uptoBulkAll elems + uptoBulkAll spare + 1
  | .agg parts => uptoBulkAll parts + 1
  | .iface _ d => uptoBulk d + 1
  | .map entries => uptoBulkEntries entries + 1
  | .held _ => 1
def uptoBulkAll {H : Type} : List (DataW H) → Nat
  | [] => 0
  | d :: r => uptoBulk d + uptoBulkAll r
def uptoBulkEntries {H : Type} : List (Lit × DataW H) → Nat
  | [] => 0
  | x :: r => uptoBulkEntry x + uptoBulkEntries r
def uptoBulkEntry {H : Type} : Lit × DataW H → Nat
  | (.string bytes, d) => bytes.length + uptoBulk d + 1
  | (_, d) => uptoBulk d + 1
 end
def uptoSmall : (H : Type) → List (DataW H) → Bool := fun _ ds => decide (uptoBulkAll ds ≤ 1048576)
def OpenSpec.upto (s : _root_.Go.ChangeSpec) : _root_.Go.OpenSpec := { _root_.Go.OpenSpec.ofChange s with cond := some uptoSmall }

/-- 'crossroadslaw18.CastPlaces', WHERE WHAT IT READS IS OF BULK AT MOST 1048576: true; the input reads as it did. -/
def castPlacesUptoRow : OpenClaim := { program := "ytlfhmecdgfennaa", sum := "f2b744fa2d61995c6cd466e9eb218b4c4deaa73e44be3ab064a5226417147083", func := "crossroads/crossroadslaw18.CastPlaces", spec := "castPlaces", inPlace := ["internal/bytealg.IndexByteString", "internal/bytealg.IndexString"], named := ["internal/bytealg.MaxLen"], plainKeys := false, apart := false, narrowed := true }
def CastPlacesUptoSaid : Prop := castPlacesUptoRow.holds Try.pinned (OpenSpec.upto castPlacesSpec)

/-- 'crossroadslaw18.CastApart', WHERE WHAT IT READS IS OF BULK AT MOST 1048576: true; the input reads as it did. -/
def castApartUptoRow : OpenClaim := { program := "ytlfhmecdgfennaa", sum := "f2b744fa2d61995c6cd466e9eb218b4c4deaa73e44be3ab064a5226417147083", func := "crossroads/crossroadslaw18.CastApart", spec := "castApart", inPlace := ["internal/bytealg.IndexByteString", "internal/bytealg.IndexString"], recurses := true, named := ["internal/bytealg.MaxLen"], plainKeys := false, apart := false, narrowed := true }
def CastApartUptoSaid : Prop := castApartUptoRow.holds Try.pinned (OpenSpec.upto castApartSpec)

/-- 'crossroadslaw18.CastSizes', WHERE WHAT IT READS IS OF BULK AT MOST 1048576: true; the input reads as it did. -/
def castSizesUptoRow : OpenClaim := { program := "ytlfhmecdgfennaa", sum := "f2b744fa2d61995c6cd466e9eb218b4c4deaa73e44be3ab064a5226417147083", func := "crossroads/crossroadslaw18.CastSizes", spec := "castSizes", inPlace := ["internal/bytealg.IndexByteString", "internal/bytealg.IndexString"], recurses := true, named := ["internal/bytealg.MaxLen"], plainKeys := false, apart := false, narrowed := true }
def CastSizesUptoSaid : Prop := castSizesUptoRow.holds Try.pinned (OpenSpec.upto castSizesSpec)

/-- 'crossroadslaw18.CastTurns', WHERE WHAT IT READS IS OF BULK AT MOST 1048576: true; the input reads as it did. -/
def castTurnsUptoRow : OpenClaim := { program := "ytlfhmecdgfennaa", sum := "f2b744fa2d61995c6cd466e9eb218b4c4deaa73e44be3ab064a5226417147083", func := "crossroads/crossroadslaw18.CastTurns", spec := "castTurns", inPlace := ["internal/bytealg.IndexByteString", "internal/bytealg.IndexString"], named := ["internal/bytealg.MaxLen"], plainKeys := false, apart := false, narrowed := true }
def CastTurnsUptoSaid : Prop := castTurnsUptoRow.holds Try.pinned (OpenSpec.upto castTurnsSpec)

/-- 'crossroadslaw18.CastKnown', WHERE WHAT IT READS IS OF BULK AT MOST 1048576: true; the input reads as it did. -/
def castKnownUptoRow : OpenClaim := { program := "ytlfhmecdgfennaa", sum := "f2b744fa2d61995c6cd466e9eb218b4c4deaa73e44be3ab064a5226417147083", func := "crossroads/crossroadslaw18.CastKnown", spec := "castKnown", inPlace := ["internal/bytealg.IndexByteString", "internal/bytealg.IndexString"], recurses := true, named := ["internal/bytealg.MaxLen"], plainKeys := false, apart := false, narrowed := true }
def CastKnownUptoSaid : Prop := castKnownUptoRow.holds Try.pinned (OpenSpec.upto castKnownSpec)

/-- 'crossroadslaw18.CastPremise', WHERE WHAT IT READS IS OF BULK AT MOST 1048576: true; the input reads as it did. -/
def castPremiseUptoRow : OpenClaim := { program := "ytlfhmecdgfennaa", sum := "f2b744fa2d61995c6cd466e9eb218b4c4deaa73e44be3ab064a5226417147083", func := "crossroads/crossroadslaw18.CastPremise", spec := "castPremise", inPlace := ["internal/bytealg.IndexByteString", "internal/bytealg.IndexString"], recurses := true, named := ["internal/bytealg.MaxLen"], plainKeys := false, apart := false, narrowed := true }
def CastPremiseUptoSaid : Prop := castPremiseUptoRow.holds Try.pinned (OpenSpec.upto castPremiseSpec)

/-- 'crossroadslaw18.CastWhole', WHERE WHAT IT READS IS OF BULK AT MOST 1048576: true; the input reads as it did. -/
def castWholeUptoRow : OpenClaim := { program := "ytlfhmecdgfennaa", sum := "f2b744fa2d61995c6cd466e9eb218b4c4deaa73e44be3ab064a5226417147083", func := "crossroads/crossroadslaw18.CastWhole", spec := "castWhole", inPlace := ["internal/bytealg.IndexByteString", "internal/bytealg.IndexString"], recurses := true, named := ["internal/bytealg.MaxLen"], plainKeys := false, apart := false, narrowed := true }
def CastWholeUptoSaid : Prop := castWholeUptoRow.holds Try.pinned (OpenSpec.upto castWholeSpec)

end Rows
end Go.Proofs.Ytlfhmecdgfennaa
