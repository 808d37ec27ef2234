/-
  Proved: the statement CastWhole of this seat: for every input the law returns true, and each argument reads behind the call as it read before. No condition.
-/
import Derived.Test.YtlfhmecdgfennaaRows
import Derived.Test.YtlfhmecdgfennaaO
import Derived.Test.YtlfhmecdgfennaaGxLaw
import Derived.Test.YtlfhmecdgfennaaPCastWhole
namespace Go.Proofs.Ytlfhmecdgfennaa
open Go.ChangeShapes Go.WideShapes Go.ChangeAt Go.RowKit Go.Gx

theorem Try.own : ownKnob Try.prog.godebug = none := by kernel_rfl
theorem Try.laidOut : laidOutB Try.prog = true := by kernel_rfl

def lawSh : List PSh := [(.pair (.isl (.pair .str (.pair .bool (.int .i64)))) (.pair (.isl (.int .i64)) (.pair (.int .i64) (.pair (.int .i64) (.int .i64)))), true), (.int .u16, false), (.pair (.int .u8) (.int .u8), true)]

theorem run_W (f : Z34_Ty) (t : AT lawSh) : (Ent.of [Z34_W f]).run (putP lawSh t) [] (fun s _ => isTrue s) = f t.1.1 t.1.2.1 t.1.2.2.1 t.1.2.2.2.1 t.1.2.2.2.2 t.2.1 t.2.2.1.1 t.2.2.1.2 (fun b => isTrue (.sv (.v (.bool b)))) := rfl

theorem law_run (t : AT lawSh) (w : AllWf lawSh t) : ∃ E, EntOK Try.prog 9 E ∧ E.run (putP lawSh t) [] (fun s _ => isTrue s) = some () :=
  ⟨E_Z34 (t.1.1.length + 77000 + 3000), E_Z34_ok (t.1.1.length + 77000 + 3000), (run_W (@Z34 (t.1.1.length + 77000 + 3000)) t).trans ((castWhole_true (t.1.1.length + 77000) t.1.1 t.1.2.1 t.1.2.2.1 t.1.2.2.2.1 t.1.2.2.2.2 t.2.1 t.2.2.1.1 t.2.2.1.2 (wf_isl w.1.1) (wf_u16 w.2.1) (wf_u8 w.2.2.1.1) (wf_u8 w.2.2.1.2) rfl _).trans rfl)⟩

set_option maxRecDepth 100000 in
theorem castWhole_lifted (os : Os) (started : os.Started) (H : Type) (enc : TypeId × Value → H) :
    ReturnsInHanded {} Try.checked os 9 .any (Rows.castWholeSpec.pre6 enc Try.prog Try.f9 Rows.castWholeRow.domain false) (Rows.castWholeSpec.post enc Try.prog Try.f9 false true false false) := by
  refine returnsInHanded_of_change (C := Try.checked) Try.own started (by kernel_rfl) Try.func9
    (ChangeSpec.witness6 (enc := enc) (C := Try.checked) false ⟨#[], #[.agg #[.slice none 0 0, .slice none 0 0, .int .i64 0, .int .i64 0, .int .i64 0], .int .u16 0, .agg #[.int .u8 0, .int .u8 0]], []⟩ 8 (by kernel_rfl) (by kernel_rfl) (by kernel_rfl) (by kernel_rfl)) ?_
  intro W base args ds gs before hval0 hW hcnd _
  have hval : ∀ (j : Nat) t v, Try.f9.params[j]? = some t → args[j]? = some v → Value.okWide Try.prog W .any base t v := hval0
  exact law_post (P := Try.prog) (f := Try.f9) Try.laidOut rfl (l := lawSh) (by kernel_rfl) (tb := 4) (by kernel_rfl) Try.underlying4
    (fun ds h => match ds, h with | [_, _, _], _ => ⟨rfl, rfl, rfl⟩) law_run hval hW

theorem castWhole_holds : Rows.CastWholeSaid :=
  OpenClaim.holds_of_wide 9 Try.f9 rfl rfl rfl rfl rfl rfl rfl ⟨rfl, rfl, rfl, rfl, rfl⟩ rfl rfl rfl rfl rfl (by kernel_rfl) Try.func9 (by kernel_rfl)
    (of_decide_eq_true (by kernel_rfl)) (by unfold Func.isWrapper; rw [if_neg (by decide +kernel)]; exact ⟨rfl, rfl⟩)
    (fun os started H enc _ => castWhole_lifted os started H enc)

end Go.Proofs.Ytlfhmecdgfennaa
