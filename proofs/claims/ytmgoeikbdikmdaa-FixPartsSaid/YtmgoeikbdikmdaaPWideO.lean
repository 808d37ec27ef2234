/-
 the width of what comes.
-/
import Derived.Test.YtmgoeikbdikmdaaPWide
set_option linter.unusedSimpArgs false
set_option linter.unusedVariables false
namespace Go.Proofs.Ytmgoeikbdikmdaa
open Go.Gx

/-- the width of what comes -/
theorem Out_eq {R : Type} (N : Nat) {op w : Int} (hw : Wd w) (ho : 3 ≤ op ∧ op ≤ 15) (k : Int → Option R) : Z39 N op w k = k (if op = 14 ∨ op = 15 then 1 else w) := by
 obtain ⟨n, rfl, hn⟩ := hw.nat
 unfold Z39 Z39_T
 have := Do_eq N (op := op) (w := n) (a := 0) (b := 0) hn (by omega) (by omega) ho (fun i110 i111 => br (!(decide (i111 = (0 : Int)))) (k (0 : Int)) (br (!(decide (op = (14 : Int)))) (br (decide (op = (15 : Int))) (k (1 : Int)) (k (n : Int))) (k (1 : Int))))
 refine this.trans ?_
 simp only [decide_true, Bool.not_true, br_false, br_ndec, br_dec]
 by_cases h1 : op = 14
 ·simp [h1]
 ·by_cases h2 : op = 15 <;> simp [h1, h2]

end Go.Proofs.Ytmgoeikbdikmdaa
