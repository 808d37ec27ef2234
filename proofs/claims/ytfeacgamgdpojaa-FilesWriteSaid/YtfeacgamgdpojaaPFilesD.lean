/-
  the files (chapter 14): the bytes of a name.
-/
import Derived.Test.YtfeacgamgdpojaaPFilesA
set_option linter.unusedSimpArgs false
set_option linter.unusedVariables false
namespace Go.Proofs.Ytfeacgamgdpojaa
open Go.Gx

/-- the bytes of a name of one letter -/
def dataV {R : Type} (k : Nat) (f : List Int) (nx : Int) (m : TM) (d : DM) (l : OL) (K : Int → List Int → Int → TM → DM → OL → List Int → Option R) : Option R :=
  match tfind m (key k) with
  | some v => K 0 f nx m d l (dgetV d v.1)
  | none => K 65282 f nx m d l []

theorem data_nm {R : Type} (N : Nat) (hN : 8 < N) {k : Nat} (hk : k < 26) (f : List Int) (nx : Int) (m : TM) (d : DM) (l : OL)
    (hd : ∀ v, tfind m (key k) = some v → (dgetV d v.1).length ≤ 1000000) (file : ∀ v, tfind m (key k) = some v → v.2 = false) (K : Int → List Int → Int → TM → DM → OL → List Int → Option R) :
    files_Files_Data_f601 N (bs (nm k)) f nx m d l K = dataV k f nx m d l K := by
  unfold files_Files_Data_f601 files_Files_Data_f601_T dataV
  rw [find_eq N hN, findV_nm hk]
  have e3 : decide ((65282 : Int) = 0) = false := by decide
  have e4 : decide ((0 : Int) = 0) = true := by decide
  cases hs : tfind m (key k) with
  | none => simp only [e3, Bool.not_false, br_true]
  | some v =>
    simp only [e4, Bool.not_true, br_false, file v hs]
    show slices_Clone__byte_byte (dgetV d v.1) _ = _
    unfold slices_Clone__byte_byte
    rw [br_of (by have := hd v hs; rw [decide_eq_true (by omega)]; rfl)]

end Go.Proofs.Ytfeacgamgdpojaa
