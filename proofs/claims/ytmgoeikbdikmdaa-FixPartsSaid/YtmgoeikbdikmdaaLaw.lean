/-
  Proved: the statement FixParts of this seat: for every input the law returns true, and each argument reads behind the call as it read before. No condition.
-/
import Derived.Test.YtmgoeikbdikmdaaRows
import Derived.Test.YtmgoeikbdikmdaaO
import Derived.Test.YtmgoeikbdikmdaaGxLaw
import Derived.Test.YtmgoeikbdikmdaaPFixParts
namespace Go.Proofs.Ytmgoeikbdikmdaa
open Go.ChangeShapes Go.WideShapes Go.ChangeAt Go.RowKit Go.Gx

theorem Try.own : ownKnob Try.prog.godebug = none := by kernel_rfl
theorem Try.laidOut : laidOutB Try.prog = true := by kernel_rfl

def lawSh : List PSh := [(.isl (.pair (.int .i64) (.pair (.int .i64) (.pair (.int .u16) (.pair (.int .u8) (.pair (.int .u8) (.int .u8)))))), false), (.isl (.int .u8), false), (.isl (.int .u16), false)]

theorem run_W (f : Z8_Ty) (t : AT lawSh) : (Ent.of [Z8_W f]).run (putP lawSh t) [] (fun s _ => isTrue s) = f t.1 t.2.1 t.2.2.1 (fun b => isTrue (.sv (.v (.bool b)))) := rfl

theorem law_run (t : AT lawSh) (w : AllWf lawSh t) : ∃ E, EntOK Try.prog 3 E ∧ E.run (putP lawSh t) [] (fun s _ => isTrue s) = some () :=
  ⟨E_Z8 (80000 + 3000), E_Z8_ok (80000 + 3000), (run_W (@Z8 (80000 + 3000)) t).trans ((fixParts_true 80000 ⟨by decide, by decide⟩ t.1 t.2.1 t.2.2.1 (rows_wf w.1) (u16s_wf w.2.2.1) _).trans rfl)⟩

set_option maxRecDepth 100000 in
theorem fixParts_lifted (os : Os) (started : os.Started) (H : Type) (enc : TypeId × Value → H) :
    ReturnsInHanded {} Try.checked os 3 .any (Rows.fixPartsSpec.pre6 enc Try.prog Try.f3 Rows.fixPartsRow.domain false) (Rows.fixPartsSpec.post enc Try.prog Try.f3 false true false false) := by
  refine returnsInHanded_of_change (C := Try.checked) Try.own started (by kernel_rfl) Try.func3
    (ChangeSpec.witness6 (enc := enc) (C := Try.checked) false ⟨#[], #[.slice none 0 0, .slice none 0 0, .slice none 0 0], []⟩ 8 (by kernel_rfl) (by kernel_rfl) (by kernel_rfl) (by kernel_rfl)) ?_
  intro W base args ds gs before hval0 hW hcnd _
  have hval : ∀ (j : Nat) t v, Try.f3.params[j]? = some t → args[j]? = some v → Value.okWide Try.prog W .any base t v := hval0
  exact law_post (P := Try.prog) (f := Try.f3) Try.laidOut rfl (l := lawSh) (by kernel_rfl) (tb := 4) (by kernel_rfl) Try.underlying4
    (fun ds h => match ds, h with | [_, _, _], _ => ⟨rfl, rfl, rfl⟩) law_run hval hW

theorem fixParts_holds : Rows.FixPartsSaid :=
  OpenClaim.holds_of_wide 3 Try.f3 rfl rfl rfl rfl rfl rfl rfl ⟨rfl, rfl, rfl, rfl, rfl⟩ rfl rfl rfl rfl rfl (by kernel_rfl) Try.func3 (by kernel_rfl)
    (of_decide_eq_true (by kernel_rfl)) (by unfold Func.isWrapper; rw [if_neg (by decide +kernel)]; exact ⟨rfl, rfl⟩)
    (fun os started H enc _ => fixParts_lifted os started H enc)

end Go.Proofs.Ytmgoeikbdikmdaa
