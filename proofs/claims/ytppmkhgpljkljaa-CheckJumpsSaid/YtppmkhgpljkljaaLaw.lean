/-
  Proved: the statement CheckJumps of this seat: for every input the law returns true, and each argument reads behind the call as it read before. No condition.
-/
import Derived.Test.YtppmkhgpljkljaaRows
import Derived.Test.YtppmkhgpljkljaaO
import Derived.Test.YtppmkhgpljkljaaGxLaw
import Derived.Test.YtppmkhgpljkljaaPCheckJumps
namespace Go.Proofs.Ytppmkhgpljkljaa
open Go.ChangeShapes Go.WideShapes Go.ChangeAt Go.RowKit Go.Gx

theorem Try.own : ownKnob Try.prog.godebug = none := by kernel_rfl
theorem Try.laidOut : laidOutB Try.prog = true := by kernel_rfl

def lawSh : List PSh := [(.isl (.int .u8), false), (.bool, false)]

theorem run_W (f : law11_CheckJumps_Ty) (t : AT lawSh) : (Ent.of [law11_CheckJumps_W f]).run (putP lawSh t) [] (fun s _ => isTrue s) = f t.1 t.2.1 (fun b => isTrue (.sv (.v (.bool b)))) := rfl

theorem law_run (t : AT lawSh) (w : AllWf lawSh t) : ∃ E, EntOK Try.prog 8 E ∧ E.run (putP lawSh t) [] (fun s _ => isTrue s) = some () :=
  ⟨E_law11_CheckJumps (3000), E_law11_CheckJumps_ok (3000), (run_W (@law11_CheckJumps (3000)) t).trans ((checkJumps_true t.1 (fun x hx => wf_u8 (w.1.2 x hx)) t.2.1 _).trans rfl)⟩

set_option maxRecDepth 100000 in
theorem checkJumps_lifted (os : Os) (started : os.Started) (H : Type) (enc : TypeId × Value → H) :
    ReturnsInHanded {} Try.checked os 8 .any (Rows.checkJumpsSpec.pre6 enc Try.prog Try.f8 Rows.checkJumpsRow.domain false) (Rows.checkJumpsSpec.post enc Try.prog Try.f8 false true false false) := by
  refine returnsInHanded_of_change (C := Try.checked) Try.own started (by kernel_rfl) Try.func8
    (ChangeSpec.witness6 (enc := enc) (C := Try.checked) false ⟨#[], #[.slice none 0 0, .bool false], []⟩ 8 (by kernel_rfl) (by kernel_rfl) (by kernel_rfl) (by kernel_rfl)) ?_
  intro W base args ds gs before hval0 hW hcnd _
  have hval : ∀ (j : Nat) t v, Try.f8.params[j]? = some t → args[j]? = some v → Value.okWide Try.prog W .any base t v := hval0
  exact law_post (P := Try.prog) (f := Try.f8) Try.laidOut rfl (l := lawSh) (by kernel_rfl) (tb := 4) (by kernel_rfl) Try.underlying4
    (fun ds h => match ds, h with | [_, _], _ => ⟨rfl, rfl, rfl⟩) law_run hval hW

theorem checkJumps_holds : Rows.CheckJumpsSaid :=
  OpenClaim.holds_of_wide 8 Try.f8 rfl rfl rfl rfl rfl rfl rfl ⟨rfl, rfl, rfl, rfl, rfl⟩ rfl rfl rfl rfl rfl (by kernel_rfl) Try.func8 (by kernel_rfl)
    (of_decide_eq_true (by kernel_rfl)) (by unfold Func.isWrapper; rw [if_neg (by decide +kernel)]; exact ⟨rfl, rfl⟩)
    (fun os started H enc _ => checkJumps_lifted os started H enc)

end Go.Proofs.Ytppmkhgpljkljaa
