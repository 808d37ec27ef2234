/-
  Proved: the statement GhostFds of this seat: for every input the law returns true, and each argument reads behind the call as it read before. No condition.
-/
import Derived.Test.YtfeacgamgdpojaaRows
import Derived.Test.YtfeacgamgdpojaaO
import Derived.Test.YtfeacgamgdpojaaGxLaw
import Derived.Test.YtfeacgamgdpojaaPGhostFds
namespace Go.Proofs.Ytfeacgamgdpojaa
open Go.ChangeShapes Go.WideShapes Go.ChangeAt Go.RowKit Go.Gx

theorem Try.own : ownKnob Try.prog.godebug = none := by kernel_rfl
theorem Try.laidOut : laidOutB Try.prog = true := by kernel_rfl

def lawSh : List PSh := [(.int .u8, false), (.int .u8, false)]

theorem run_W (f : law19_GhostFds_Ty) (t : AT lawSh) : (Ent.of [law19_GhostFds_W f]).run (putP lawSh t) [] (fun s _ => isTrue s) = f t.1 t.2.1 (fun b => isTrue (.sv (.v (.bool b)))) := rfl

theorem law_run (t : AT lawSh) (w : AllWf lawSh t) : ∃ E, EntOK Try.prog 7 E ∧ E.run (putP lawSh t) [] (fun s _ => isTrue s) = some () :=
  ⟨E_law19_GhostFds (3000), E_law19_GhostFds_ok (3000), (run_W (@law19_GhostFds (3000)) t).trans ((ghostFds_true t.1 t.2.1 (wf_u8 w.1) (wf_u8 w.2.1) _).trans rfl)⟩

set_option maxRecDepth 100000 in
theorem ghostFds_lifted (os : Os) (started : os.Started) (H : Type) (enc : TypeId × Value → H) :
    ReturnsInHanded {} Try.checked os 7 .any (Rows.ghostFdsSpec.pre6 enc Try.prog Try.f7 Rows.ghostFdsRow.domain false) (Rows.ghostFdsSpec.post enc Try.prog Try.f7 false true false false) := by
  refine returnsInHanded_of_change (C := Try.checked) Try.own started (by kernel_rfl) Try.func7
    (ChangeSpec.witness6 (enc := enc) (C := Try.checked) false ⟨#[], #[.int .u8 0, .int .u8 0], []⟩ 8 (by kernel_rfl) (by kernel_rfl) (by kernel_rfl) (by kernel_rfl)) ?_
  intro W base args ds gs before hval0 hW hcnd _
  have hval : ∀ (j : Nat) t v, Try.f7.params[j]? = some t → args[j]? = some v → Value.okWide Try.prog W .any base t v := hval0
  exact law_post (P := Try.prog) (f := Try.f7) Try.laidOut rfl (l := lawSh) (by kernel_rfl) (tb := 4) (by kernel_rfl) Try.underlying4
    (fun ds h => match ds, h with | [_, _], _ => ⟨rfl, rfl, rfl⟩) law_run hval hW

theorem ghostFds_holds : Rows.GhostFdsSaid :=
  OpenClaim.holds_of_wide 7 Try.f7 rfl rfl rfl rfl rfl rfl rfl ⟨rfl, rfl, rfl, rfl, rfl⟩ rfl rfl rfl rfl rfl (by kernel_rfl) Try.func7 (by kernel_rfl)
    (of_decide_eq_true (by kernel_rfl)) (by unfold Func.isWrapper; rw [if_neg (by decide +kernel)]; exact ⟨rfl, rfl⟩)
    (fun os started H enc _ => ghostFds_lifted os started H enc)

end Go.Proofs.Ytfeacgamgdpojaa
