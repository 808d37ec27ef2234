/-
  Proved: the statement RunFails of this seat: for every input the law returns true, and each argument reads behind the call as it read before. No condition.
-/
import Derived.Test.YthdgncnbnallcaaRows
import Derived.Test.YthdgncnbnallcaaO
import Derived.Test.YthdgncnbnallcaaGxLaw
import Derived.Test.YthdgncnbnallcaaPRunFails
namespace Go.Proofs.Ythdgncnbnallcaa
open Go.ChangeShapes Go.WideShapes Go.ChangeAt Go.RowKit Go.Gx

theorem Try.own : ownKnob Try.prog.godebug = none := by kernel_rfl
theorem Try.laidOut : laidOutB Try.prog = true := by kernel_rfl

def lawSh : List PSh := [(.isl .bool, false), (.int .u8, false)]

theorem run_W (f : Z72_Ty) (t : AT lawSh) : (Ent.of [Z72_W f]).run (putP lawSh t) [] (fun s _ => isTrue s) = f t.1 t.2.1 (fun b => isTrue (.sv (.v (.bool b)))) := rfl

theorem law_run (t : AT lawSh) (w : AllWf lawSh t) : ∃ E, EntOK Try.prog 3 E ∧ E.run (putP lawSh t) [] (fun s _ => isTrue s) = some () :=
  ⟨E_Z72 (0 + 3000), E_Z72_ok (0 + 3000), (run_W (@Z72 (0 + 3000)) t).trans ((runFails_true 0 t.1 t.2.1 (wf_u8 w.2.1) _).trans rfl)⟩

set_option maxRecDepth 100000 in
theorem runFails_lifted (os : Os) (started : os.Started) (H : Type) (enc : TypeId × Value → H) :
    ReturnsInHanded {} Try.checked os 3 .any (Rows.runFailsSpec.pre6 enc Try.prog Try.f3 Rows.runFailsRow.domain false) (Rows.runFailsSpec.post enc Try.prog Try.f3 false true false false) := by
  refine returnsInHanded_of_change (C := Try.checked) Try.own started (by kernel_rfl) Try.func3
    (ChangeSpec.witness6 (enc := enc) (C := Try.checked) false ⟨#[], #[.slice none 0 0, .int .u8 0], []⟩ 8 (by kernel_rfl) (by kernel_rfl) (by kernel_rfl) (by kernel_rfl)) ?_
  intro W base args ds gs before hval0 hW hcnd _
  have hval : ∀ (j : Nat) t v, Try.f3.params[j]? = some t → args[j]? = some v → Value.okWide Try.prog W .any base t v := hval0
  exact law_post (P := Try.prog) (f := Try.f3) Try.laidOut rfl (l := lawSh) (by kernel_rfl) (tb := 4) (by kernel_rfl) Try.underlying4
    (fun ds h => match ds, h with | [_, _], _ => ⟨rfl, rfl, rfl⟩) law_run hval hW

theorem runFails_holds : Rows.RunFailsSaid :=
  OpenClaim.holds_of_wide 3 Try.f3 rfl rfl rfl rfl rfl rfl rfl ⟨rfl, rfl, rfl, rfl, rfl⟩ rfl rfl rfl rfl rfl (by kernel_rfl) Try.func3 (by kernel_rfl)
    (of_decide_eq_true (by kernel_rfl)) (by unfold Func.isWrapper; rw [if_neg (by decide +kernel)]; exact ⟨rfl, rfl⟩)
    (fun os started H enc _ => runFails_lifted os started H enc)

end Go.Proofs.Ythdgncnbnallcaa
