/-
  Proved: the statement RunSums of this seat: for every input the law returns true, and each argument reads behind the call as it read before. No condition.
-/
import Derived.Test.YthdgncnbnallcaaGreatRows
import Derived.Test.YthdgncnbnallcaaGreatO
import Derived.Test.YthdgncnbnallcaaGreatGxLaw
import Derived.Test.YthdgncnbnallcaaGreatPRunSums
namespace Go.Proofs.YthdgncnbnallcaaGreat
open Go.ChangeShapes Go.WideShapes Go.ChangeAt Go.RowKit Go.Gx

theorem Tryz.own : ownKnob Tryz.prog.godebug = none := by kernel_rfl
theorem Tryz.laidOut : laidOutB Tryz.prog = true := by kernel_rfl

def lawSh : List PSh := [(.int .u8, false), (.pair (.int .u16) (.int .u16), true), (.int .u8, false)]

theorem run_W (f : law16_RunSums_Ty) (t : AT lawSh) : (Ent.of [law16_RunSums_W f]).run (putP lawSh t) [] (fun s _ => isTrue s) = f t.1 t.2.1.1 t.2.1.2 t.2.2.1 (fun b => isTrue (.sv (.v (.bool b)))) := rfl

theorem law_run (t : AT lawSh) (w : AllWf lawSh t) : ∃ E, EntOK Tryz.prog 6 E ∧ E.run (putP lawSh t) [] (fun s _ => isTrue s) = some () :=
  ⟨E_law16_RunSums (0 + 3000), E_law16_RunSums_ok (0 + 3000), (run_W (@law16_RunSums (0 + 3000)) t).trans ((runSums_true 0 t.1 t.2.1.1 t.2.1.2 t.2.2.1 (wf_u8 w.1) (wf_u16 w.2.1.1) (wf_u16 w.2.1.2) (wf_u8 w.2.2.1) _).trans rfl)⟩

set_option maxRecDepth 100000 in
theorem runSums_lifted (os : Os) (started : os.Started) (H : Type) (enc : TypeId × Value → H) :
    ReturnsInHanded {} Tryz.checked os 6 .any (Rows.runSumsSpec.pre6 enc Tryz.prog Tryz.f6 Rows.runSumsRow.domain false) (Rows.runSumsSpec.post enc Tryz.prog Tryz.f6 false true false false) := by
  refine returnsInHanded_of_change (C := Tryz.checked) Tryz.own started (by kernel_rfl) Tryz.func6
    (ChangeSpec.witness6 (enc := enc) (C := Tryz.checked) false ⟨#[], #[.int .u8 0, .agg #[.int .u16 0, .int .u16 0], .int .u8 0], []⟩ 8 (by kernel_rfl) (by kernel_rfl) (by kernel_rfl) (by kernel_rfl)) ?_
  intro W base args ds gs before hval0 hW hcnd _
  have hval : ∀ (j : Nat) t v, Tryz.f6.params[j]? = some t → args[j]? = some v → Value.okWide Tryz.prog W .any base t v := hval0
  exact law_post (P := Tryz.prog) (f := Tryz.f6) Tryz.laidOut rfl (l := lawSh) (by kernel_rfl) (tb := 4) (by kernel_rfl) Tryz.underlying4
    (fun ds h => match ds, h with | [_, _, _], _ => ⟨rfl, rfl, rfl⟩) law_run hval hW

theorem runSums_holds : Rows.RunSumsSaid :=
  OpenClaim.holds_of_wide 6 Tryz.f6 rfl rfl rfl rfl rfl rfl rfl ⟨rfl, rfl, rfl, rfl, rfl⟩ rfl rfl rfl rfl rfl (by kernel_rfl) Tryz.func6 (by kernel_rfl)
    (of_decide_eq_true (by kernel_rfl)) (by unfold Func.isWrapper; rw [if_neg (by decide +kernel)]; exact ⟨rfl, rfl⟩)
    (fun os started H enc _ => runSums_lifted os started H enc)

end Go.Proofs.YthdgncnbnallcaaGreat
