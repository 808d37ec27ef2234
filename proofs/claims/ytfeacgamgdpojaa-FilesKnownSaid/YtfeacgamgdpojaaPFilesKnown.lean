/-
  the law FilesKnown of chapter 14, as a printed function: it comes to true (reckoned).
-/
import Derived.Test.YtfeacgamgdpojaaD
import Derived.Test.YtfeacgamgdpojaaGx5
import Derived.KernelRfl
namespace Go.Proofs.Ytfeacgamgdpojaa
open Go.Gx

set_option maxRecDepth 1000000 in
theorem filesKnown_true {R : Type} (k : Bool → Option R) : Z47 3000 k = k true := by kernel_rfl

end Go.Proofs.Ytfeacgamgdpojaa
