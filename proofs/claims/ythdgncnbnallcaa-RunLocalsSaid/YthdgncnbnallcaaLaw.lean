/-
  Proved: the statement RunLocals of this seat: for every input the law returns true, and each argument reads behind the call as it read before. No condition.
-/
import Derived.Test.YthdgncnbnallcaaRows
import Derived.Test.YthdgncnbnallcaaO
import Derived.Test.YthdgncnbnallcaaGxLaw
import Derived.Test.YthdgncnbnallcaaPRunLocals
namespace Go.Proofs.Ythdgncnbnallcaa
open Go.ChangeShapes Go.WideShapes Go.ChangeAt Go.RowKit Go.Gx

theorem Try.own : ownKnob Try.prog.godebug = none := by kernel_rfl
theorem Try.laidOut : laidOutB Try.prog = true := by kernel_rfl

def lawSh : List PSh := [(.isl (.pair (.int .u8) (.int .u8)), false), (.int .u16, false)]

theorem run_W (f : law16_RunLocals_Ty) (t : AT lawSh) : (Ent.of [law16_RunLocals_W f]).run (putP lawSh t) [] (fun s _ => isTrue s) = f t.1 t.2.1 (fun b => isTrue (.sv (.v (.bool b)))) := rfl

theorem law_run (t : AT lawSh) (w : AllWf lawSh t) : ∃ E, EntOK Try.prog 4 E ∧ E.run (putP lawSh t) [] (fun s _ => isTrue s) = some () :=
  ⟨E_law16_RunLocals (0 + 3000), E_law16_RunLocals_ok (0 + 3000), (run_W (@law16_RunLocals (0 + 3000)) t).trans ((runLocals_true 0 t.1 t.2.1 (fun x hx => wf_u8 (w.1.2 x hx).1) _).trans rfl)⟩

set_option maxRecDepth 100000 in
theorem runLocals_lifted (os : Os) (started : os.Started) (H : Type) (enc : TypeId × Value → H) :
    ReturnsInHanded {} Try.checked os 4 .any (Rows.runLocalsSpec.pre6 enc Try.prog Try.f4 Rows.runLocalsRow.domain false) (Rows.runLocalsSpec.post enc Try.prog Try.f4 false true false false) := by
  refine returnsInHanded_of_change (C := Try.checked) Try.own started (by kernel_rfl) Try.func4
    (ChangeSpec.witness6 (enc := enc) (C := Try.checked) false ⟨#[], #[.slice none 0 0, .int .u16 0], []⟩ 8 (by kernel_rfl) (by kernel_rfl) (by kernel_rfl) (by kernel_rfl)) ?_
  intro W base args ds gs before hval0 hW hcnd _
  have hval : ∀ (j : Nat) t v, Try.f4.params[j]? = some t → args[j]? = some v → Value.okWide Try.prog W .any base t v := hval0
  exact law_post (P := Try.prog) (f := Try.f4) Try.laidOut rfl (l := lawSh) (by kernel_rfl) (tb := 4) (by kernel_rfl) Try.underlying4
    (fun ds h => match ds, h with | [_, _], _ => ⟨rfl, rfl, rfl⟩) law_run hval hW

theorem runLocals_holds : Rows.RunLocalsSaid :=
  OpenClaim.holds_of_wide 4 Try.f4 rfl rfl rfl rfl rfl rfl rfl ⟨rfl, rfl, rfl, rfl, rfl⟩ rfl rfl rfl rfl rfl (by kernel_rfl) Try.func4 (by kernel_rfl)
    (of_decide_eq_true (by kernel_rfl)) (by unfold Func.isWrapper; rw [if_neg (by decide +kernel)]; exact ⟨rfl, rfl⟩)
    (fun os started H enc _ => runLocals_lifted os started H enc)

end Go.Proofs.Ythdgncnbnallcaa
