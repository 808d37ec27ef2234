/-
  the law FixKnown of chapter 3, as a printed function: it comes to true (reckoned).
-/
import Derived.Test.YteagdmkedffplaaD
import Derived.Test.YteagdmkedffplaaGxR
import Derived.KernelRfl
namespace Go.Proofs.Yteagdmkedffplaa
open Go.Gx

set_option maxRecDepth 1000000 in
theorem fixKnown_true {R : Type} (k : Bool → Option R) : law3_FixKnown 3000 k = k true := by kernel_rfl

end Go.Proofs.Yteagdmkedffplaa
