/-
  Proved: the statement CheckKnown of this seat: for every input the law returns true, and each argument reads behind the call as it read before. No condition.
-/
import Derived.Test.YtppmkhgpljkljaaRows
import Derived.Test.YtppmkhgpljkljaaO
import Derived.Test.YtppmkhgpljkljaaGxLaw
import Derived.Test.YtppmkhgpljkljaaPCheckKnown
namespace Go.Proofs.Ytppmkhgpljkljaa
open Go.ChangeShapes Go.WideShapes Go.ChangeAt Go.RowKit Go.Gx

theorem Try.own : ownKnob Try.prog.godebug = none := by kernel_rfl
theorem Try.laidOut : laidOutB Try.prog = true := by kernel_rfl

def lawSh : List PSh := []

theorem run_W (f : Z24_Ty) (t : AT lawSh) : (Ent.of [Z24_W f]).run (putP lawSh t) [] (fun s _ => isTrue s) = f  (fun b => isTrue (.sv (.v (.bool b)))) := rfl

theorem law_run (t : AT lawSh) (w : AllWf lawSh t) : ∃ E, EntOK Try.prog 6 E ∧ E.run (putP lawSh t) [] (fun s _ => isTrue s) = some () :=
  ⟨E_Z24 (3000), E_Z24_ok (3000), (run_W (@Z24 (3000)) t).trans (checkKnown_true)⟩

set_option maxRecDepth 100000 in
theorem checkKnown_lifted (os : Os) (started : os.Started) (H : Type) (enc : TypeId × Value → H) :
    ReturnsInHanded {} Try.checked os 6 .any (Rows.checkKnownSpec.pre6 enc Try.prog Try.f6 Rows.checkKnownRow.domain false) (Rows.checkKnownSpec.post enc Try.prog Try.f6 false true false false) := by
  refine returnsInHanded_of_change (C := Try.checked) Try.own started (by kernel_rfl) Try.func6
    (ChangeSpec.witness6 (enc := enc) (C := Try.checked) false ⟨#[], #[], []⟩ 8 (by kernel_rfl) (by kernel_rfl) (by kernel_rfl) (by kernel_rfl)) ?_
  intro W base args ds gs before hval0 hW hcnd _
  have hval : ∀ (j : Nat) t v, Try.f6.params[j]? = some t → args[j]? = some v → Value.okWide Try.prog W .any base t v := hval0
  exact law_post (P := Try.prog) (f := Try.f6) Try.laidOut rfl (l := lawSh) (by kernel_rfl) (tb := 4) (by kernel_rfl) Try.underlying4
    (fun ds h => match ds, h with | [], _ => ⟨rfl, rfl, rfl⟩) law_run hval hW

theorem checkKnown_holds : Rows.CheckKnownSaid :=
  OpenClaim.holds_of_wide 6 Try.f6 rfl rfl rfl rfl rfl rfl rfl ⟨rfl, rfl, rfl, rfl, rfl⟩ rfl rfl rfl rfl rfl (by kernel_rfl) Try.func6 (by kernel_rfl)
    (of_decide_eq_true (by kernel_rfl)) (by unfold Func.isWrapper; rw [if_neg (by decide +kernel)]; exact ⟨rfl, rfl⟩)
    (fun os started H enc _ => checkKnown_lifted os started H enc)

end Go.Proofs.Ytppmkhgpljkljaa
