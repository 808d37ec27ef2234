/-
  the law CheckKnown of chapter 11, as a printed function: it comes to true (reckoned).
-/
import Derived.Test.YtppmkhgpljkljaaD
import Derived.Test.YtppmkhgpljkljaaGx5
import Derived.KernelRfl
namespace Go.Proofs.Ytppmkhgpljkljaa
open Go.Gx

set_option maxRecDepth 1000000 in
theorem checkKnown_true : Z24 3000 (fun b => isTrue (.sv (.v (.bool b)))) = some () := by kernel_rfl

end Go.Proofs.Ytppmkhgpljkljaa
