/-
 crossroadslaw2's rows, and rows of numbers, as what a law is handed may be.
-/
import Derived.Test.YtmgoeikbdikmdaaGxLaw
import Derived.Test.YtmgoeikbdikmdaaPTermBuild
set_option linter.unusedVariables false
namespace Go.Proofs.Ytmgoeikbdikmdaa
open Go.Gx

theorem rows_wf {l : List Nd} (h : WfT (.isl (.pair (.int .i64) (.pair (.int .i64) (.pair (.int .u16) (.pair (.int .u8) (.pair (.int .u8) (.int .u8))))))) l) : RowsOk l := fun r hr => by
 have k := h.2 r hr
 have a := wf_u16 k.2.2.1
 have b := wf_u8 k.2.2.2.1
 have c := wf_u8 k.2.2.2.2.1
 have d := wf_u8 k.2.2.2.2.2
 exact ⟨⟨a.1, Int.lt_of_le_of_lt a.2 (by decide)⟩, ⟨b.1, Int.lt_of_le_of_lt b.2 (by decide)⟩, ⟨c.1, Int.lt_of_le_of_lt c.2 (by decide)⟩, ⟨d.1, Int.lt_of_le_of_lt d.2 (by decide)⟩⟩
theorem u16s_wf {l : List Int} (h : WfT (.isl (.int .u16)) l) : ∀ x ∈ l, 0 ≤ x ∧ x < 65536 := fun x hx => by
 have k := wf_u16 (h.2 x hx)
 omega
theorem u8s_wf {l : List Int} (h : WfT (.isl (.int .u8)) l) : ∀ x ∈ l, 0 ≤ x ∧ x < 256 := fun x hx => by
 have k := wf_u8 (h.2 x hx)
 omega

end Go.Proofs.Ytmgoeikbdikmdaa
