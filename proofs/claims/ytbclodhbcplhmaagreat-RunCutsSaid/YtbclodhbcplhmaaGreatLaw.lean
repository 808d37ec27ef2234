/-
  Proved: the statement RunCuts of this seat: for every input the law returns true, and each argument reads behind the call as it read before. No condition.
-/
import Derived.Test.YtbclodhbcplhmaaGreatRows
import Derived.Test.YtbclodhbcplhmaaGreatO
import Derived.Test.YtbclodhbcplhmaaGreatGxLaw
import Derived.Test.YtbclodhbcplhmaaGreatPRunCuts
namespace Go.Proofs.YtbclodhbcplhmaaGreat
open Go.ChangeShapes Go.WideShapes Go.ChangeAt Go.RowKit Go.Gx

theorem Tryz.own : ownKnob Tryz.prog.godebug = none := by kernel_rfl
theorem Tryz.laidOut : laidOutB Tryz.prog = true := by kernel_rfl

def lawSh : List PSh := [(.pair (.isl (.pair (.int .i64) (.int .i64))) (.isl .str), true), (.isl (.pair .str (.pair .bool (.int .i64))), false), (.pair (.pair (.isl (.isl (.int .u8))) (.pair (.isl (.isl (.int .u8))) (.isl .bool))) (.int .i64), true)]

theorem run_W (f : Z49_Ty) (t : AT lawSh) : (Ent.of [Z49_W f]).run (putP lawSh t) [] (fun s _ => isTrue s) = f t.1.1 t.1.2 t.2.1 t.2.2.1.1.1 t.2.2.1.1.2.1 t.2.2.1.1.2.2 t.2.2.1.2 (fun b => isTrue (.sv (.v (.bool b)))) := rfl

theorem law_run (t : AT lawSh) (w : AllWf lawSh t) : ∃ E, EntOK Tryz.prog 4 E ∧ E.run (putP lawSh t) [] (fun s _ => isTrue s) = some () :=
  ⟨E_Z49 (t.1.2.length + 3000), E_Z49_ok (t.1.2.length + 3000), (run_W (@Z49 (t.1.2.length + 3000)) t).trans ((runCuts_run t.1.1 t.1.2 (wf_isl w.1.2) t.2.1 t.2.2.1.1.1 t.2.2.1.1.2.1 t.2.2.1.1.2.2 t.2.2.1.2 _).trans rfl)⟩

set_option maxRecDepth 100000 in
theorem runCuts_lifted (os : Os) (started : os.Started) (H : Type) (enc : TypeId × Value → H) :
    ReturnsInHanded {} Tryz.checked os 4 .any (Rows.runCutsSpec.pre6 enc Tryz.prog Tryz.f4 Rows.runCutsRow.domain false) (Rows.runCutsSpec.post enc Tryz.prog Tryz.f4 false true false false) := by
  refine returnsInHanded_of_change (C := Tryz.checked) Tryz.own started (by kernel_rfl) Tryz.func4
    (ChangeSpec.witness6 (enc := enc) (C := Tryz.checked) false ⟨#[], #[.agg #[.slice none 0 0, .slice none 0 0], .slice none 0 0, .agg #[.slice none 0 0, .slice none 0 0, .slice none 0 0, .int .i64 0]], []⟩ 8 (by kernel_rfl) (by kernel_rfl) (by kernel_rfl) (by kernel_rfl)) ?_
  intro W base args ds gs before hval0 hW hcnd _
  have hval : ∀ (j : Nat) t v, Tryz.f4.params[j]? = some t → args[j]? = some v → Value.okWide Tryz.prog W .any base t v := hval0
  exact law_post (P := Tryz.prog) (f := Tryz.f4) Tryz.laidOut rfl (l := lawSh) (by kernel_rfl) (tb := 4) (by kernel_rfl) Tryz.underlying4
    (fun ds h => match ds, h with | [_, _, _], _ => ⟨rfl, rfl, rfl⟩) law_run hval hW

theorem runCuts_holds : Rows.RunCutsSaid :=
  OpenClaim.holds_of_wide 4 Tryz.f4 rfl rfl rfl rfl rfl rfl rfl ⟨rfl, rfl, rfl, rfl, rfl⟩ rfl rfl rfl rfl rfl (by kernel_rfl) Tryz.func4 (by kernel_rfl)
    (of_decide_eq_true (by kernel_rfl)) (by unfold Func.isWrapper; rw [if_neg (by decide +kernel)]; exact ⟨rfl, rfl⟩)
    (fun os started H enc _ => runCuts_lifted os started H enc)

end Go.Proofs.YtbclodhbcplhmaaGreat
