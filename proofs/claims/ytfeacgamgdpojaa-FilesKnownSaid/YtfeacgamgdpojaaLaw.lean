/-
  Proved: the statement FilesKnown of this seat: for every input the law returns true, and each argument reads behind the call as it read before. No condition.
-/
import Derived.Test.YtfeacgamgdpojaaRows
import Derived.Test.YtfeacgamgdpojaaO
import Derived.Test.YtfeacgamgdpojaaGxLaw
import Derived.Test.YtfeacgamgdpojaaPFilesKnown
namespace Go.Proofs.Ytfeacgamgdpojaa
open Go.ChangeShapes Go.WideShapes Go.ChangeAt Go.RowKit Go.Gx

theorem Try.own : ownKnob Try.prog.godebug = none := by kernel_rfl
theorem Try.laidOut : laidOutB Try.prog = true := by kernel_rfl

def lawSh : List PSh := []

theorem run_W (f : Z47_Ty) (t : AT lawSh) : (Ent.of [Z47_W f]).run (putP lawSh t) [] (fun s _ => isTrue s) = f  (fun b => isTrue (.sv (.v (.bool b)))) := rfl

theorem law_run (t : AT lawSh) (w : AllWf lawSh t) : ∃ E, EntOK Try.prog 9 E ∧ E.run (putP lawSh t) [] (fun s _ => isTrue s) = some () :=
  ⟨E_Z47 (3000), E_Z47_ok (3000), (run_W (@Z47 (3000)) t).trans ((filesKnown_true _).trans rfl)⟩

set_option maxRecDepth 100000 in
theorem filesKnown_lifted (os : Os) (started : os.Started) (H : Type) (enc : TypeId × Value → H) :
    ReturnsInHanded {} Try.checked os 9 .any (Rows.filesKnownSpec.pre6 enc Try.prog Try.f9 Rows.filesKnownRow.domain false) (Rows.filesKnownSpec.post enc Try.prog Try.f9 false true false false) := by
  refine returnsInHanded_of_change (C := Try.checked) Try.own started (by kernel_rfl) Try.func9
    (ChangeSpec.witness6 (enc := enc) (C := Try.checked) false ⟨#[], #[], []⟩ 8 (by kernel_rfl) (by kernel_rfl) (by kernel_rfl) (by kernel_rfl)) ?_
  intro W base args ds gs before hval0 hW hcnd _
  have hval : ∀ (j : Nat) t v, Try.f9.params[j]? = some t → args[j]? = some v → Value.okWide Try.prog W .any base t v := hval0
  exact law_post (P := Try.prog) (f := Try.f9) Try.laidOut rfl (l := lawSh) (by kernel_rfl) (tb := 4) (by kernel_rfl) Try.underlying4
    (fun ds h => match ds, h with | [], _ => ⟨rfl, rfl, rfl⟩) law_run hval hW

theorem filesKnown_holds : Rows.FilesKnownSaid :=
  OpenClaim.holds_of_wide 9 Try.f9 rfl rfl rfl rfl rfl rfl rfl ⟨rfl, rfl, rfl, rfl, rfl⟩ rfl rfl rfl rfl rfl (by kernel_rfl) Try.func9 (by kernel_rfl)
    (of_decide_eq_true (by kernel_rfl)) (by unfold Func.isWrapper; rw [if_neg (by decide +kernel)]; exact ⟨rfl, rfl⟩)
    (fun os started H enc _ => filesKnown_lifted os started H enc)

end Go.Proofs.Ytfeacgamgdpojaa
