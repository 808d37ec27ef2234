/-
  Proved: the statement CastSizes of this seat, in its second form: for every input whose bulk is at most 1048576 the law returns true, and each argument reads behind the call as it read before. The condition is the form's own: the bulk.
-/
import Derived.Test.YtlfhmecdgfennaaRows
import Derived.Test.YtlfhmecdgfennaaO
import Derived.Test.YtlfhmecdgfennaaGxLaw
import Derived.Test.YtlfhmecdgfennaaPCastSizes
import Derived.JoinedCond
namespace Go.Proofs.Ytlfhmecdgfennaa
open Go.ChangeShapes Go.WideShapes Go.ChangeAt Go.RowKit Go.Gx

theorem Try.own : ownKnob Try.prog.godebug = none := by kernel_rfl
theorem Try.laidOut : laidOutB Try.prog = true := by kernel_rfl

def lawSh : List PSh := [(.pair (.isl (.pair .str (.pair .bool (.int .i64)))) (.pair (.isl (.int .i64)) (.pair (.int .i64) (.pair (.int .i64) (.int .i64)))), true), (.int .u16, false)]

theorem run_W (f : law18_CastSizes_Ty) (t : AT lawSh) : (Ent.of [law18_CastSizes_W f]).run (putP lawSh t) [] (fun s _ => isTrue s) = f t.1.1 t.1.2.1 t.1.2.2.1 t.1.2.2.2.1 t.1.2.2.2.2 t.2.1 (fun b => isTrue (.sv (.v (.bool b)))) := rfl

theorem law_bulk {H : Type} : Bulk (H := H) Rows.uptoBulk Rows.uptoBulkAll where
  cons _ _ := by simp only [Rows.uptoBulkAll]
  pos d := by
    cases d with
    | lit l => cases l <;> simp [Rows.uptoBulk]
    | nil => simp [Rows.uptoBulk]
    | ptr d => simp [Rows.uptoBulk]
    | slice elems spare => simp [Rows.uptoBulk]
    | agg parts => simp [Rows.uptoBulk]
    | iface t d => simp [Rows.uptoBulk]
    | map entries => simp [Rows.uptoBulk]
    | held h => simp [Rows.uptoBulk]
  str b := by simp [Rows.uptoBulk]
  slice a b := by simp only [Rows.uptoBulk]; omega
  agg a := by simp only [Rows.uptoBulk]; omega

theorem law_run (t : AT lawSh) (w : AllWf lawSh t) (b : AllB 1048576 lawSh t) : ∃ E, EntOK Try.prog 5 E ∧ E.run (putP lawSh t) [] (fun s _ => isTrue s) = some () :=
  ⟨E_law18_CastSizes (t.1.1.length + 3000), E_law18_CastSizes_ok (t.1.1.length + 3000), (run_W (@law18_CastSizes (t.1.1.length + 3000)) t).trans ((castSizes_true t.1.1.length t.1.1 t.1.2.1 t.1.2.2.1 t.1.2.2.2.1 t.1.2.2.2.2 t.2.1 (Nat.le_trans b.1.1.1 (by decide)) (by omega) (Nat.le_trans b.1.2.1.1 (by decide)) (wf_u16 w.2.1) _).trans rfl)⟩

set_option maxRecDepth 100000 in
theorem castSizes_lifted (os : Os) (started : os.Started) (H : Type) (enc : TypeId × Value → H) (F : Stop.Interp) :
    ReturnsInHanded {} Try.checked os 5 .any ((Rows.OpenSpec.upto Rows.castSizesSpec).pre6 enc Try.prog Try.f5 Rows.castSizesUptoRow.domain false) (((Rows.OpenSpec.upto Rows.castSizesSpec).at F).post enc Try.prog Try.f5 false true false false) := by
  refine returnsInHanded_of_cond (C := Try.checked) (s := Rows.OpenSpec.upto Rows.castSizesSpec) (k := Rows.uptoSmall) rfl Try.own started (by kernel_rfl) Try.func5
    (OpenSpec.witness (enc := enc) (C := Try.checked) (s := Rows.OpenSpec.upto Rows.castSizesSpec) (k := Rows.uptoSmall) rfl false ⟨#[], #[.agg #[.slice none 0 0, .slice none 0 0, .int .i64 0, .int .i64 0, .int .i64 0], .int .u16 0], []⟩ 8 (by kernel_rfl) (by kernel_rfl) (by kernel_rfl)
      (x := ([.agg [.nil, .nil, .lit (.int .i64 0), .lit (.int .i64 0), .lit (.int .i64 0)], .lit (.int .u16 0)], [], [])) (by kernel_rfl) rfl (by kernel_rfl)) ?_
  intro W base args ds gs before hval0 hW _ hk _
  have hval : ∀ (j : Nat) t v, Try.f5.params[j]? = some t → args[j]? = some v → Value.okWide Try.prog W .any base t v := hval0
  have hk : Rows.uptoBulkAll (ds ++ gs) ≤ 1048576 := of_decide_eq_true hk
  exact law_postB (P := Try.prog) (f := Try.f5) Try.laidOut (s := Rows.castSizesSpec) rfl (l := lawSh) (by kernel_rfl) (tb := 4) (by kernel_rfl) Try.underlying4
    (fun ds h => match ds, h with | [_, _], _ => ⟨rfl, rfl, rfl⟩) law_bulk law_run hval hW hk

theorem castSizes_holds : Rows.CastSizesUptoSaid :=
  OpenClaim.holds_of_cond 5 Try.f5 rfl rfl rfl rfl rfl rfl rfl ⟨rfl, rfl, rfl, rfl, rfl⟩ rfl rfl rfl rfl rfl (by kernel_rfl) Try.func5 (by kernel_rfl)
    (of_decide_eq_true (by kernel_rfl)) (by unfold Func.isWrapper; rw [if_neg (by decide +kernel)]; exact ⟨rfl, rfl⟩)
    (fun os started H enc _ F => castSizes_lifted os started H enc F)

end Go.Proofs.Ytlfhmecdgfennaa
