/-
  the law RunKnown of chapter 16, as a printed function: it comes to true (reckoned).
-/
import Derived.Test.YthdgncnbnallcaaGreatD
import Derived.Test.YthdgncnbnallcaaGreatGx5
import Derived.KernelRfl
namespace Go.Proofs.YthdgncnbnallcaaGreat
open Go.Gx

set_option maxRecDepth 1000000 in
theorem runKnown_true : Z45 3000 (fun b => isTrue (.sv (.v (.bool b)))) = some () := by kernel_rfl

end Go.Proofs.YthdgncnbnallcaaGreat
