/-
  Proved: the statement FixMany of this seat: for every input the law returns true, and each argument reads behind the call as it read before. No condition.
-/
import Derived.Test.YteagdmkedffplaaRows
import Derived.Test.YteagdmkedffplaaO
import Derived.Test.YteagdmkedffplaaGxLaw
import Derived.Test.YteagdmkedffplaaPFixMany
namespace Go.Proofs.Yteagdmkedffplaa
open Go.ChangeShapes Go.WideShapes Go.ChangeAt Go.RowKit Go.Gx

theorem Try.own : ownKnob Try.prog.godebug = none := by kernel_rfl
theorem Try.laidOut : laidOutB Try.prog = true := by kernel_rfl

def lawSh : List PSh := [(.int .u8, false), (.isl (.int .u16), false)]

theorem run_W (f : law3_FixMany_Ty) (t : AT lawSh) : (Ent.of [law3_FixMany_W f]).run (putP lawSh t) [] (fun s _ => isTrue s) = f t.1 t.2.1 (fun b => isTrue (.sv (.v (.bool b)))) := rfl

theorem law_run (t : AT lawSh) (w : AllWf lawSh t) : ∃ E, EntOK Try.prog 12 E ∧ E.run (putP lawSh t) [] (fun s _ => isTrue s) = some () :=
  ⟨E_law3_FixMany (80000 + 3000), E_law3_FixMany_ok (80000 + 3000), (run_W (@law3_FixMany (80000 + 3000)) t).trans ((fixMany_true 80000 ⟨by decide, by decide⟩ t.1 t.2.1 (wf_u8 w.1) (u16s_wf' w.2.1) _).trans rfl)⟩

set_option maxRecDepth 100000 in
theorem fixMany_lifted (os : Os) (started : os.Started) (H : Type) (enc : TypeId × Value → H) :
    ReturnsInHanded {} Try.checked os 12 .any (Rows.fixManySpec.pre6 enc Try.prog Try.f12 Rows.fixManyRow.domain false) (Rows.fixManySpec.post enc Try.prog Try.f12 false true false false) := by
  refine returnsInHanded_of_change (C := Try.checked) Try.own started (by kernel_rfl) Try.func12
    (ChangeSpec.witness6 (enc := enc) (C := Try.checked) false ⟨#[], #[.int .u8 0, .slice none 0 0], []⟩ 8 (by kernel_rfl) (by kernel_rfl) (by kernel_rfl) (by kernel_rfl)) ?_
  intro W base args ds gs before hval0 hW hcnd _
  have hval : ∀ (j : Nat) t v, Try.f12.params[j]? = some t → args[j]? = some v → Value.okWide Try.prog W .any base t v := hval0
  exact law_post (P := Try.prog) (f := Try.f12) Try.laidOut rfl (l := lawSh) (by kernel_rfl) (tb := 4) (by kernel_rfl) Try.underlying4
    (fun ds h => match ds, h with | [_, _], _ => ⟨rfl, rfl, rfl⟩) law_run hval hW

theorem fixMany_holds : Rows.FixManySaid :=
  OpenClaim.holds_of_wide 12 Try.f12 rfl rfl rfl rfl rfl rfl rfl ⟨rfl, rfl, rfl, rfl, rfl⟩ rfl rfl rfl rfl rfl (by kernel_rfl) Try.func12 (by kernel_rfl)
    (of_decide_eq_true (by kernel_rfl)) (by unfold Func.isWrapper; rw [if_neg (by decide +kernel)]; exact ⟨rfl, rfl⟩)
    (fun os started H enc _ => fixMany_lifted os started H enc)

end Go.Proofs.Yteagdmkedffplaa
