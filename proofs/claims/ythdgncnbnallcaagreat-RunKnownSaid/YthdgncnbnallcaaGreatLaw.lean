/-
  Proved: the statement RunKnown of this seat: for every input the law returns true, and each argument reads behind the call as it read before. No condition.
-/
import Derived.Test.YthdgncnbnallcaaGreatRows
import Derived.Test.YthdgncnbnallcaaGreatO
import Derived.Test.YthdgncnbnallcaaGreatGxLaw
import Derived.Test.YthdgncnbnallcaaGreatPRunKnown
namespace Go.Proofs.YthdgncnbnallcaaGreat
open Go.ChangeShapes Go.WideShapes Go.ChangeAt Go.RowKit Go.Gx

theorem Tryz.own : ownKnob Tryz.prog.godebug = none := by kernel_rfl
theorem Tryz.laidOut : laidOutB Tryz.prog = true := by kernel_rfl

def lawSh : List PSh := []

theorem run_W (f : Z45_Ty) (t : AT lawSh) : (Ent.of [Z45_W f]).run (putP lawSh t) [] (fun s _ => isTrue s) = f  (fun b => isTrue (.sv (.v (.bool b)))) := rfl

theorem law_run (t : AT lawSh) (w : AllWf lawSh t) : ∃ E, EntOK Tryz.prog 5 E ∧ E.run (putP lawSh t) [] (fun s _ => isTrue s) = some () :=
  ⟨E_Z45 (3000), E_Z45_ok (3000), (run_W (@Z45 (3000)) t).trans (runKnown_true)⟩

set_option maxRecDepth 100000 in
theorem runKnown_lifted (os : Os) (started : os.Started) (H : Type) (enc : TypeId × Value → H) :
    ReturnsInHanded {} Tryz.checked os 5 .any (Rows.runKnownSpec.pre6 enc Tryz.prog Tryz.f5 Rows.runKnownRow.domain false) (Rows.runKnownSpec.post enc Tryz.prog Tryz.f5 false true false false) := by
  refine returnsInHanded_of_change (C := Tryz.checked) Tryz.own started (by kernel_rfl) Tryz.func5
    (ChangeSpec.witness6 (enc := enc) (C := Tryz.checked) false ⟨#[], #[], []⟩ 8 (by kernel_rfl) (by kernel_rfl) (by kernel_rfl) (by kernel_rfl)) ?_
  intro W base args ds gs before hval0 hW hcnd _
  have hval : ∀ (j : Nat) t v, Tryz.f5.params[j]? = some t → args[j]? = some v → Value.okWide Tryz.prog W .any base t v := hval0
  exact law_post (P := Tryz.prog) (f := Tryz.f5) Tryz.laidOut rfl (l := lawSh) (by kernel_rfl) (tb := 4) (by kernel_rfl) Tryz.underlying4
    (fun ds h => match ds, h with | [], _ => ⟨rfl, rfl, rfl⟩) law_run hval hW

theorem runKnown_holds : Rows.RunKnownSaid :=
  OpenClaim.holds_of_wide 5 Tryz.f5 rfl rfl rfl rfl rfl rfl rfl ⟨rfl, rfl, rfl, rfl, rfl⟩ rfl rfl rfl rfl rfl (by kernel_rfl) Tryz.func5 (by kernel_rfl)
    (of_decide_eq_true (by kernel_rfl)) (by unfold Func.isWrapper; rw [if_neg (by decide +kernel)]; exact ⟨rfl, rfl⟩)
    (fun os started H enc _ => runKnown_lifted os started H enc)

end Go.Proofs.YthdgncnbnallcaaGreat
