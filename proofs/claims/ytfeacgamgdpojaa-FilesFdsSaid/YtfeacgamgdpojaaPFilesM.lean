/-
  the files (chapter 14): a tree of one file.
-/
import Derived.Test.YtfeacgamgdpojaaPFilesB
set_option linter.unusedSimpArgs false
set_option linter.unusedVariables false
namespace Go.Proofs.Ytfeacgamgdpojaa
open Go.Gx

/-- the tree of one file -/
def M1 : TM := [((bs [], bs [97]), (0, false))]
theorem M1_find : tfind M1 (key 0) = some (0, false) := mfind_put_same (ks := KS) (vs := VS) KS_key (l := []) (key 0) ((0 : Int), false)
theorem M1_file : ∀ v, tfind M1 (key 0) = some v → v.2 = false := by
  intro v hv
  rw [M1_find] at hv
  cases hv
  rfl

theorem sizedV_len (b : List Int) (n : Nat) : (sizedV b n).length = n := by
  unfold sizedV
  simp
  omega

end Go.Proofs.Ytfeacgamgdpojaa
