/-
  Proved: the statement GhostPlays of this seat: for every input the law returns true, and each argument reads behind the call as it read before. No condition.
-/
import Derived.Test.YtdopealphpmaeaaRows
import Derived.Test.YtdopealphpmaeaaO
import Derived.Test.YtdopealphpmaeaaGxLaw
import Derived.Test.YtdopealphpmaeaaPGhostPlays
namespace Go.Proofs.Ytdopealphpmaeaa
open Go.ChangeShapes Go.WideShapes Go.ChangeAt Go.RowKit Go.Gx

theorem Try.own : ownKnob Try.prog.godebug = none := by kernel_rfl
theorem Try.laidOut : laidOutB Try.prog = true := by kernel_rfl

def lawSh : List PSh := [(.isl (.pair .str (.pair .bool (.int .i64))), false), (.isl (.isl (.int .u8)), false), (.isl (.pair (.int .i64) (.pair (.int .u16) (.pair (.int .u16) (.pair (.isl (.int .u8)) (.pair .str .str))))), false)]

theorem run_W (f : Z31_Ty) (t : AT lawSh) : (Ent.of [Z31_W f]).run (putP lawSh t) [] (fun s _ => isTrue s) = f t.1 t.2.1 t.2.2.1 (fun b => isTrue (.sv (.v (.bool b)))) := rfl

theorem law_run (t : AT lawSh) (w : AllWf lawSh t) : ∃ E, EntOK Try.prog 4 E ∧ E.run (putP lawSh t) [] (fun s _ => isTrue s) = some () :=
  ⟨E_Z31 (3000), E_Z31_ok (3000), (run_W (@Z31 (3000)) t).trans ((ghostPlays_true t.1 t.2.1 t.2.2.1 (fun r hr x hx => wf_u8 ((w.2.1.2 r hr).2 x hx)) (fun x hx => ⟨wf_u16 (w.2.2.1.2 x hx).2.1, wf_u16 (w.2.2.1.2 x hx).2.2.1, fun y hy => wf_u8 ((w.2.2.1.2 x hx).2.2.2.1.2 y hy)⟩) _).trans rfl)⟩

set_option maxRecDepth 100000 in
theorem ghostPlays_lifted (os : Os) (started : os.Started) (H : Type) (enc : TypeId × Value → H) :
    ReturnsInHanded {} Try.checked os 4 .any (Rows.ghostPlaysSpec.pre6 enc Try.prog Try.f4 Rows.ghostPlaysRow.domain false) (Rows.ghostPlaysSpec.post enc Try.prog Try.f4 false true false false) := by
  refine returnsInHanded_of_change (C := Try.checked) Try.own started (by kernel_rfl) Try.func4
    (ChangeSpec.witness6 (enc := enc) (C := Try.checked) false ⟨#[], #[.slice none 0 0, .slice none 0 0, .slice none 0 0], []⟩ 8 (by kernel_rfl) (by kernel_rfl) (by kernel_rfl) (by kernel_rfl)) ?_
  intro W base args ds gs before hval0 hW hcnd _
  have hval : ∀ (j : Nat) t v, Try.f4.params[j]? = some t → args[j]? = some v → Value.okWide Try.prog W .any base t v := hval0
  exact law_post (P := Try.prog) (f := Try.f4) Try.laidOut rfl (l := lawSh) (by kernel_rfl) (tb := 4) (by kernel_rfl) Try.underlying4
    (fun ds h => match ds, h with | [_, _, _], _ => ⟨rfl, rfl, rfl⟩) law_run hval hW

theorem ghostPlays_holds : Rows.GhostPlaysSaid :=
  OpenClaim.holds_of_wide 4 Try.f4 rfl rfl rfl rfl rfl rfl rfl ⟨rfl, rfl, rfl, rfl, rfl⟩ rfl rfl rfl rfl rfl (by kernel_rfl) Try.func4 (by kernel_rfl)
    (of_decide_eq_true (by kernel_rfl)) (by unfold Func.isWrapper; rw [if_neg (by decide +kernel)]; exact ⟨rfl, rfl⟩)
    (fun os started H enc _ => ghostPlays_lifted os started H enc)

end Go.Proofs.Ytdopealphpmaeaa
