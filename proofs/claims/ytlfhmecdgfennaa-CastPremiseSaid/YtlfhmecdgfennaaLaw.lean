/-
  Proved: the statement CastPremise of this seat: for every input the law returns true, and each argument reads behind the call as it read before. No condition.
-/
import Derived.Test.YtlfhmecdgfennaaRows
import Derived.Test.YtlfhmecdgfennaaO
import Derived.Test.YtlfhmecdgfennaaGxLaw
import Derived.Test.YtlfhmecdgfennaaPCastPremise
namespace Go.Proofs.Ytlfhmecdgfennaa
open Go.ChangeShapes Go.WideShapes Go.ChangeAt Go.RowKit Go.Gx

theorem Try.own : ownKnob Try.prog.godebug = none := by kernel_rfl
theorem Try.laidOut : laidOutB Try.prog = true := by kernel_rfl

def lawSh : List PSh := [(.pair (.isl (.pair .str (.pair .bool (.int .i64)))) (.pair (.isl (.int .i64)) (.pair (.int .i64) (.pair (.int .i64) (.int .i64)))), true), (.isl (.int .u16), false)]

theorem run_W (f : law18_CastPremise_Ty) (t : AT lawSh) : (Ent.of [law18_CastPremise_W f]).run (putP lawSh t) [] (fun s _ => isTrue s) = f t.1.1 t.1.2.1 t.1.2.2.1 t.1.2.2.2.1 t.1.2.2.2.2 t.2.1 (fun b => isTrue (.sv (.v (.bool b)))) := rfl

theorem law_run (t : AT lawSh) (w : AllWf lawSh t) : ∃ E, EntOK Try.prog 8 E ∧ E.run (putP lawSh t) [] (fun s _ => isTrue s) = some () :=
  ⟨E_law18_CastPremise (t.1.1.length + 77000 + 3000), E_law18_CastPremise_ok (t.1.1.length + 77000 + 3000), (run_W (@law18_CastPremise (t.1.1.length + 77000 + 3000)) t).trans ((castPremise_true (t.1.1.length + 77000) t.1.1 t.1.2.1 t.1.2.2.1 t.1.2.2.2.1 t.1.2.2.2.2 t.2.1 (wf_isl w.1.1) (fun x hx => wf_u16 (w.2.1.2 x hx)) rfl _).trans rfl)⟩

set_option maxRecDepth 100000 in
theorem castPremise_lifted (os : Os) (started : os.Started) (H : Type) (enc : TypeId × Value → H) :
    ReturnsInHanded {} Try.checked os 8 .any (Rows.castPremiseSpec.pre6 enc Try.prog Try.f8 Rows.castPremiseRow.domain false) (Rows.castPremiseSpec.post enc Try.prog Try.f8 false true false false) := by
  refine returnsInHanded_of_change (C := Try.checked) Try.own started (by kernel_rfl) Try.func8
    (ChangeSpec.witness6 (enc := enc) (C := Try.checked) false ⟨#[], #[.agg #[.slice none 0 0, .slice none 0 0, .int .i64 0, .int .i64 0, .int .i64 0], .slice none 0 0], []⟩ 8 (by kernel_rfl) (by kernel_rfl) (by kernel_rfl) (by kernel_rfl)) ?_
  intro W base args ds gs before hval0 hW hcnd _
  have hval : ∀ (j : Nat) t v, Try.f8.params[j]? = some t → args[j]? = some v → Value.okWide Try.prog W .any base t v := hval0
  exact law_post (P := Try.prog) (f := Try.f8) Try.laidOut rfl (l := lawSh) (by kernel_rfl) (tb := 4) (by kernel_rfl) Try.underlying4
    (fun ds h => match ds, h with | [_, _], _ => ⟨rfl, rfl, rfl⟩) law_run hval hW

theorem castPremise_holds : Rows.CastPremiseSaid :=
  OpenClaim.holds_of_wide 8 Try.f8 rfl rfl rfl rfl rfl rfl rfl ⟨rfl, rfl, rfl, rfl, rfl⟩ rfl rfl rfl rfl rfl (by kernel_rfl) Try.func8 (by kernel_rfl)
    (of_decide_eq_true (by kernel_rfl)) (by unfold Func.isWrapper; rw [if_neg (by decide +kernel)]; exact ⟨rfl, rfl⟩)
    (fun os started H enc _ => castPremise_lifted os started H enc)

end Go.Proofs.Ytlfhmecdgfennaa
