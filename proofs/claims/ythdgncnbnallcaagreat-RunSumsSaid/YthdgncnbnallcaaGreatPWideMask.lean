/-
  numbers of a width: the document's own widths and masks.
-/
import Derived.Test.YthdgncnbnallcaaGreatPWideMay
set_option linter.unusedSimpArgs false
set_option linter.unusedVariables false
namespace Go.Proofs.YthdgncnbnallcaaGreat
open Go.Gx

theorem refMask_eq {R : Type} (N : Nat) (w : Int) (k : Int → Option R) : ref1_Mask N w k = k (maskI w) := by
  unfold ref1_Mask ref1_Mask_T maskI
  rw [refMay_eq, br_ndec]
  by_cases h : Wd w
  · obtain ⟨n, rfl, hn⟩ := h.nat
    rw [if_pos h, if_pos h]
    have e : decide (IntKind.wrap .u64 (n : Int) < 0) = false := by rcases hn with rfl | rfl | rfl <;> decide +kernel
    rw [e, br_false, shl1 n hn]
    rfl
  · rw [if_neg h, if_neg h]

end Go.Proofs.YthdgncnbnallcaaGreat
