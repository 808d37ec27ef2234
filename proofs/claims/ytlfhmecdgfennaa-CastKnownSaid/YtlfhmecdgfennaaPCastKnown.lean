/-
  the law CastKnown of chapter 18, as a printed function: it comes to true (reckoned).
-/
import Derived.Test.YtlfhmecdgfennaaD
import Derived.Test.YtlfhmecdgfennaaGx5
import Derived.KernelRfl
namespace Go.Proofs.Ytlfhmecdgfennaa
open Go.Gx

set_option maxRecDepth 1000000 in
theorem castKnown_true {R : Type} (k : Bool → Option R) : law18_CastKnown 3000 k = k true := by kernel_rfl

end Go.Proofs.Ytlfhmecdgfennaa
