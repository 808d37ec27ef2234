/-
  what comes in is in its bounds (chapter 18).
-/
import Derived.Test.YtlfhmecdgfennaaPCastTurns
import Derived.Test.YtlfhmecdgfennaaGxLaw
namespace Go.Proofs.Ytlfhmecdgfennaa
open Go.Gx

theorem byts_wf {l : List (List Int)} (h : WfT (.isl (.isl (.int .u8))) l) : ∀ t ∈ l, Byt t := fun t ht x hx => by
  have h1 : WfT (.isl (.int .u8)) t := h.2 t ht
  exact wf_u8 (h1.2 x hx)
theorem w16_wf {l : List Int} (h : WfT (.isl (.int .u16)) l) : W16 l := fun x hx => wf_u16 (h.2 x hx)

end Go.Proofs.Ytlfhmecdgfennaa
