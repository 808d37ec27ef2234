/-
 the reference's May.
-/
import Derived.Test.YtmgoeikbdikmdaaPWide
set_option linter.unusedSimpArgs false
set_option linter.unusedVariables false
namespace Go.Proofs.Ytmgoeikbdikmdaa
open Go.Gx

theorem refMay_eq {R : Type} (N : Nat) (w : Int) (k : Bool → Option R) : Z10 N w k = k (decide (Wd w)) := by
 unfold Z10 Z10_T Wd
 simp only [br_ndec]
 by_cases h1 : w = 1
 ·simp [h1]
 ·by_cases h2 : w = 8
  ·simp [h2]
  ·simp [h1, h2]

end Go.Proofs.Ytmgoeikbdikmdaa
