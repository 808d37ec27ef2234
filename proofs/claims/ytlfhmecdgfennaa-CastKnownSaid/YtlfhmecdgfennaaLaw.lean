/-
  Proved: the statement CastKnown of this seat: for every input the law returns true, and each argument reads behind the call as it read before. No condition.
-/
import Derived.Test.YtlfhmecdgfennaaRows
import Derived.Test.YtlfhmecdgfennaaO
import Derived.Test.YtlfhmecdgfennaaGxLaw
import Derived.Test.YtlfhmecdgfennaaPCastKnown
namespace Go.Proofs.Ytlfhmecdgfennaa
open Go.ChangeShapes Go.WideShapes Go.ChangeAt Go.RowKit Go.Gx

theorem Try.own : ownKnob Try.prog.godebug = none := by kernel_rfl
theorem Try.laidOut : laidOutB Try.prog = true := by kernel_rfl

def lawSh : List PSh := []

theorem run_W (f : law18_CastKnown_Ty) (t : AT lawSh) : (Ent.of [law18_CastKnown_W f]).run (putP lawSh t) [] (fun s _ => isTrue s) = f  (fun b => isTrue (.sv (.v (.bool b)))) := rfl

theorem law_run (t : AT lawSh) (w : AllWf lawSh t) : ∃ E, EntOK Try.prog 7 E ∧ E.run (putP lawSh t) [] (fun s _ => isTrue s) = some () :=
  ⟨E_law18_CastKnown (3000), E_law18_CastKnown_ok (3000), (run_W (@law18_CastKnown (3000)) t).trans ((castKnown_true _).trans rfl)⟩

set_option maxRecDepth 100000 in
theorem castKnown_lifted (os : Os) (started : os.Started) (H : Type) (enc : TypeId × Value → H) :
    ReturnsInHanded {} Try.checked os 7 .any (Rows.castKnownSpec.pre6 enc Try.prog Try.f7 Rows.castKnownRow.domain false) (Rows.castKnownSpec.post enc Try.prog Try.f7 false true false false) := by
  refine returnsInHanded_of_change (C := Try.checked) Try.own started (by kernel_rfl) Try.func7
    (ChangeSpec.witness6 (enc := enc) (C := Try.checked) false ⟨#[], #[], []⟩ 8 (by kernel_rfl) (by kernel_rfl) (by kernel_rfl) (by kernel_rfl)) ?_
  intro W base args ds gs before hval0 hW hcnd _
  have hval : ∀ (j : Nat) t v, Try.f7.params[j]? = some t → args[j]? = some v → Value.okWide Try.prog W .any base t v := hval0
  exact law_post (P := Try.prog) (f := Try.f7) Try.laidOut rfl (l := lawSh) (by kernel_rfl) (tb := 4) (by kernel_rfl) Try.underlying4
    (fun ds h => match ds, h with | [], _ => ⟨rfl, rfl, rfl⟩) law_run hval hW

theorem castKnown_holds : Rows.CastKnownSaid :=
  OpenClaim.holds_of_wide 7 Try.f7 rfl rfl rfl rfl rfl rfl rfl ⟨rfl, rfl, rfl, rfl, rfl⟩ rfl rfl rfl rfl rfl (by kernel_rfl) Try.func7 (by kernel_rfl)
    (of_decide_eq_true (by kernel_rfl)) (by unfold Func.isWrapper; rw [if_neg (by decide +kernel)]; exact ⟨rfl, rfl⟩)
    (fun os started H enc _ => castKnown_lifted os started H enc)

end Go.Proofs.Ytlfhmecdgfennaa
