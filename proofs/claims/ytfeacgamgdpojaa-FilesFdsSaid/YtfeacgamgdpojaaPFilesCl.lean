/-
  the files (chapter 14): what the printed functions come to (closing).
-/
import Derived.Test.YtfeacgamgdpojaaPFilesA
set_option linter.unusedSimpArgs false
set_option linter.unusedVariables false
namespace Go.Proofs.Ytfeacgamgdpojaa
open Go.Gx

/-- closing what is open -/
theorem close_eq {R : Type} (N : Nat) (fd j : Nat) (hfd : fd < 4) (f : List Int) (hj : f.getD fd 0 = ((j + 1 : Nat) : Int)) (nx : Int) (m : TM) (d : DM) (l : OL) (hl : j < l.length) (hl2 : l.length ≤ 1000000)
    (K : Int → List Int → Int → TM → DM → OL → Option R) :
    files_Files_Close_b447 N (fd : Int) f nx m d l K = K 0 (f.set fd 0) nx m d l := by
  unfold files_Files_Close_b447 files_Files_Close_b447_T files_Files_file_b447 files_Files_file_b447_T
  have hn : Int.toNat (fd : Int) = fd := by omega
  have e1 : IntKind.wrap .i64 (((j + 1 : Nat) : Int) - 1) = (j : Int) := by rw [w64 (by omega)]; omega
  simp only [hn, hj, e1]
  rw [br_of (by rw [decide_eq_false (by omega)]; rfl), br_of (inB_of (by omega)), br_of (decide_eq_true hfd), br_not (decide_eq_false (by omega)), br_of (inB_of (by omega)), br_of (decide_eq_true hfd), br_of (inB_of (by omega)), br_of (inB_of (by omega)), br_of (decide_eq_true hfd)]

theorem close_none {R : Type} (N : Nat) (fd : Nat) (hfd : fd < 4) (f : List Int) (hj : f.getD fd 0 = 0) (nx : Int) (m : TM) (d : DM) (l : OL) (K : Int → List Int → Int → TM → DM → OL → Option R) :
    files_Files_Close_b447 N (fd : Int) f nx m d l K = K 65289 f nx m d l := by
  unfold files_Files_Close_b447 files_Files_Close_b447_T files_Files_file_b447 files_Files_file_b447_T
  have hn : Int.toNat (fd : Int) = fd := by omega
  simp only [hn, hj]
  rw [br_of (by rw [decide_eq_false (by omega)]; rfl), br_of (inB_of (by omega)), br_of (decide_eq_true hfd)]
  rfl

end Go.Proofs.Ytfeacgamgdpojaa
