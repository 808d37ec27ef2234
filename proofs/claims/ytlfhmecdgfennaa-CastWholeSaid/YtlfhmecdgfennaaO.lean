/-
  Each entry is borne out (printed by a program of this work).
-/
import Derived.Test.YtlfhmecdgfennaaX
import Derived.Test.YtlfhmecdgfennaaQ0
import Derived.Test.YtlfhmecdgfennaaQ1
import Derived.Test.YtlfhmecdgfennaaQ2
import Derived.Test.YtlfhmecdgfennaaQ3
set_option linter.unusedVariables false
set_option maxRecDepth 100000
namespace Go.Proofs.Ytlfhmecdgfennaa
open Go.Gx
theorem E_Z56_Tok (N : Nat) : TabOK Try.prog (E_Z56_T N) := TabOK.cons E_stringslite_IndexByte_ok (TabOK.nil)
theorem Z56_ok (N : Nat) : VarOK Try.prog (E_Z56_T N) Try.f91 (codeOf Try.f91) (Z56_W (Z56 N)) :=
  VarOK.of (E_Z56_Tok N) (by kernel_rfl) pn (Z56_F) N (fun _ => LStep.none) fun t u K => Z56_body N _ _ t u K
theorem E_Z56_ok (N : Nat) : EntOK Try.prog 91 (E_Z56 N) := EntOK.vars (E_Z56_Tok N) Try.func91 (by kernel_rfl) (by kernel_rfl) (all_cons (Z56_ok N) (all_nil))
theorem E_Z55_Tok (N : Nat) : TabOK Try.prog (E_Z55_T N) := TabOK.cons (E_Z56_ok N) (TabOK.nil)
theorem Z55_ok (N : Nat) : VarOK Try.prog (E_Z55_T N) Try.f88 (codeOf Try.f88) (Z55_W (Z55 N)) :=
  VarOK.of (E_Z55_Tok N) (by kernel_rfl) pn (Z55_F) N (fun _ => LStep.none) fun t u K => Z55_body N _ _ t u K
theorem E_Z55_ok (N : Nat) : EntOK Try.prog 88 (E_Z55 N) := EntOK.vars (E_Z55_Tok N) Try.func88 (by kernel_rfl) (by kernel_rfl) (all_cons (Z55_ok N) (all_nil))
theorem E_Z54_Tok (N : Nat) : TabOK Try.prog (E_Z54_T N) := TabOK.cons (E_Z55_ok N) (TabOK.nil)
theorem Z54_ok (N : Nat) : VarOK Try.prog (E_Z54_T N) Try.f84 (codeOf Try.f84) (Z54_W (Z54 N)) :=
  VarOK.of (E_Z54_Tok N) (by kernel_rfl) pn (Z54_F) N (fun _ => LStep.none) fun t u K => Z54_body N _ _ t u K
theorem E_Z54_ok (N : Nat) : EntOK Try.prog 84 (E_Z54 N) := EntOK.vars (E_Z54_Tok N) Try.func84 (by kernel_rfl) (by kernel_rfl) (all_cons (Z54_ok N) (all_nil))
theorem E_Z18_Tok (N : Nat) : TabOK Try.prog (E_Z18_T N) := TabOK.nil
theorem Z18_ok (N : Nat) : VarOK Try.prog (E_Z18_T N) Try.f89 (codeOf Try.f89) (Z18_W (Z18 N)) :=
  VarOK.of (E_Z18_Tok N) (by kernel_rfl) pn (Z18_F) N (fun _ => LStep.none) fun t u K => Z18_body N _ t u K
theorem E_Z18_ok (N : Nat) : EntOK Try.prog 89 (E_Z18 N) := EntOK.vars (E_Z18_Tok N) Try.func89 (by kernel_rfl) (by kernel_rfl) (all_cons (Z18_ok N) (all_nil))
theorem E_Z19_Tok (N : Nat) : TabOK Try.prog (E_Z19_T N) := TabOK.cons (E_Z18_ok N) (TabOK.nil)
theorem Z19_ok (N : Nat) : VarOK Try.prog (E_Z19_T N) Try.f85 (codeOf Try.f85) (Z19_W (Z19 N)) :=
  VarOK.of (E_Z19_Tok N) (by kernel_rfl) pn (Z19_F (@Z19_l0 N)) N (fun _ => LStep.pick (all_cons ⟨.inl fun _ _ _ => rfl, fun n t u K => Z19_v0_0_round N _ _ _ n t u K⟩ (all_nil)) (LStep.none)) fun t u K => Z19_body N _ _ _ t u K
theorem E_Z19_ok (N : Nat) : EntOK Try.prog 85 (E_Z19 N) := EntOK.vars (E_Z19_Tok N) Try.func85 (by kernel_rfl) (by kernel_rfl) (all_cons (Z19_ok N) (all_nil))
theorem E_Z17_Tok (N : Nat) : TabOK Try.prog (E_Z17_T N) := TabOK.cons (E_Z19_ok N) (TabOK.cons (E_Z54_ok N) (TabOK.nil))
theorem Z17_ok (N : Nat) : VarOK Try.prog (E_Z17_T N) Try.f76 (codeOf Try.f76) (Z17_W (Z17 N)) :=
  VarOK.of (E_Z17_Tok N) (by kernel_rfl) pn (Z17_F) N (fun _ => LStep.none) fun t u K => Z17_body N _ _ _ t u K
theorem E_Z17_ok (N : Nat) : EntOK Try.prog 76 (E_Z17 N) := EntOK.vars (E_Z17_Tok N) Try.func76 (by kernel_rfl) (by kernel_rfl) (all_cons (Z17_ok N) (all_nil))
theorem E_Z37_Tok (N : Nat) : TabOK Try.prog (E_Z37_T N) := TabOK.cons (E_Z17_ok N) (TabOK.nil)
theorem Z37_ok (N : Nat) : VarOK Try.prog (E_Z37_T N) Try.f68 (codeOf Try.f68) (Z37_W (Z37 N)) :=
  VarOK.of (E_Z37_Tok N) (by kernel_rfl) pn (Z37_F) N (fun _ => LStep.none) fun t u K => Z37_body N _ _ t u K
theorem E_Z37_ok (N : Nat) : EntOK Try.prog 68 (E_Z37 N) := EntOK.vars (E_Z37_Tok N) Try.func68 (by kernel_rfl) (by kernel_rfl) (all_cons (Z37_ok N) (all_nil))
theorem E_Z38_Tok (N : Nat) : TabOK Try.prog (E_Z38_T N) := TabOK.cons (E_Z54_ok N) (TabOK.cons (E_Z37_ok N) (TabOK.nil))
theorem Z38_ok (N : Nat) : VarOK Try.prog (E_Z38_T N) Try.f86 (codeOf Try.f86) (Z38_W (Z38 N)) :=
  VarOK.of (E_Z38_Tok N) (by kernel_rfl) pn (Z38_F) N (fun _ => LStep.none) fun t u K => Z38_body N _ _ _ t u K
theorem E_Z38_ok (N : Nat) : EntOK Try.prog 86 (E_Z38 N) := EntOK.vars (E_Z38_Tok N) Try.func86 (by kernel_rfl) (by kernel_rfl) (all_cons (Z38_ok N) (all_nil))
theorem E_Z82_Tok (N : Nat) : TabOK Try.prog (E_Z82_T N) := TabOK.cons (E_Z38_ok N) (TabOK.nil)
theorem Z82_ok (N : Nat) : VarOK Try.prog (E_Z82_T N) Try.f77 (codeOf Try.f77) (Z82_W (Z82 N)) :=
  VarOK.of (E_Z82_Tok N) (by kernel_rfl) pn (Z82_F) N (fun _ => LStep.none) fun t u K => Z82_body N _ _ t u K
theorem E_Z82_ok (N : Nat) : EntOK Try.prog 77 (E_Z82 N) := EntOK.vars (E_Z82_Tok N) Try.func77 (by kernel_rfl) (by kernel_rfl) (all_cons (Z82_ok N) (all_nil))
theorem E_tree_Tree_above_Tok (N : Nat) : TabOK Try.prog (E_tree_Tree_above_T N) := TabOK.nil
theorem Z81_ok (N : Nat) : VarOK Try.prog (E_tree_Tree_above_T N) Try.f78 (codeOf Try.f78) (Z81_W (Z81 N)) :=
  VarOK.of (E_tree_Tree_above_Tok N) (by kernel_rfl) pn (Z81_F) N (fun _ => LStep.none) fun t u K => Z81_body N _ t u K
theorem E_tree_Tree_above_ok (N : Nat) : EntOK Try.prog 78 (E_tree_Tree_above N) := EntOK.vars (E_tree_Tree_above_Tok N) Try.func78 (by kernel_rfl) (by kernel_rfl) (all_cons (Z81_ok N) (all_nil))
theorem E_tree_Tree_Make_Tok (N : Nat) : TabOK Try.prog (E_tree_Tree_Make_T N) := TabOK.cons (E_tree_Tree_above_ok N) (TabOK.cons (E_Z82_ok N) (TabOK.nil))
theorem Z80_ok (N : Nat) : VarOK Try.prog (E_tree_Tree_Make_T N) Try.f69 (codeOf Try.f69) (Z80_W (Z80 N)) :=
  VarOK.of (E_tree_Tree_Make_Tok N) (by kernel_rfl) pn (Z80_F) N (fun _ => LStep.none) fun t u K => Z80_body N _ _ _ t u K
theorem E_tree_Tree_Make_ok (N : Nat) : EntOK Try.prog 69 (E_tree_Tree_Make N) := EntOK.vars (E_tree_Tree_Make_Tok N) Try.func69 (by kernel_rfl) (by kernel_rfl) (all_cons (Z80_ok N) (all_nil))
theorem E_Z78_Tok (N : Nat) : TabOK Try.prog (E_Z78_T N) := TabOK.cons (E_tree_Tree_Make_ok N) (TabOK.cons (E_Z37_ok N) (TabOK.nil))
theorem Z79_ok (N : Nat) : VarOK Try.prog (E_Z78_T N) Try.f57 (codeOf Try.f57) (Z79_W (Z79 N)) :=
  VarOK.of (E_Z78_Tok N) (by kernel_rfl) ⟨[], [], [0]⟩ (Z79_F (@Z79_l0 N)) N (fun _ => LStep.pick (all_cons ⟨.inl fun _ _ _ => rfl, fun n t u K => Z79_v0_0_round N _ _ _ _ n t u K⟩ (all_nil)) (LStep.none)) fun t u K => Z79_body N _ _ _ _ t u K
theorem Z78_ok (N : Nat) : VarOK Try.prog (E_Z78_T N) Try.f57 (codeOf Try.f57) (Z78_W (Z78 N)) :=
  VarOK.of (E_Z78_Tok N) (by kernel_rfl) pn (Z78_F (@Z78_l0 N)) N (fun _ => LStep.pick (all_cons ⟨.inl fun _ _ _ => rfl, fun n t u K => Z78_v0_0_round N _ _ _ _ n t u K⟩ (all_nil)) (LStep.none)) fun t u K => Z78_body N _ _ _ _ t u K
theorem E_Z78_ok (N : Nat) : EntOK Try.prog 57 (E_Z78 N) := EntOK.vars (E_Z78_Tok N) Try.func57 (by kernel_rfl) (by kernel_rfl) (all_cons (Z79_ok N) (all_cons (Z78_ok N) (all_nil)))
theorem E_Z22_Tok (N : Nat) : TabOK Try.prog (E_Z22_T N) := TabOK.nil
theorem Z23_ok (N : Nat) : VarOK Try.prog (E_Z22_T N) Try.f40 (codeOf Try.f40) (Z23_W (Z23 N)) :=
  VarOK.of (E_Z22_Tok N) (by kernel_rfl) ⟨[], [], [0, 1]⟩ (Z23_F (@Z23_l0 N)) N (fun _ => LStep.pick (all_cons ⟨.inl fun _ _ _ => rfl, fun n t u K => Z23_v0_0_round N _ _ n t u K⟩ (all_nil)) (LStep.none)) fun t u K => Z23_body N _ _ t u K
theorem Z22_ok (N : Nat) : VarOK Try.prog (E_Z22_T N) Try.f40 (codeOf Try.f40) (Z22_W (Z22 N)) :=
  VarOK.of (E_Z22_Tok N) (by kernel_rfl) pn (Z22_F (@Z22_l0 N)) N (fun _ => LStep.pick (all_cons ⟨.inl fun _ _ _ => rfl, fun n t u K => Z22_v0_0_round N _ _ n t u K⟩ (all_nil)) (LStep.none)) fun t u K => Z22_body N _ _ t u K
theorem E_Z22_ok (N : Nat) : EntOK Try.prog 40 (E_Z22 N) := EntOK.vars (E_Z22_Tok N) Try.func40 (by kernel_rfl) (by kernel_rfl) (all_cons (Z23_ok N) (all_cons (Z22_ok N) (all_nil)))
theorem E_Z30_Tok (N : Nat) : TabOK Try.prog (E_Z30_T N) := TabOK.nil
theorem Z30_ok (N : Nat) : VarOK Try.prog (E_Z30_T N) Try.f58 (codeOf Try.f58) (Z30_W (Z30 N)) :=
  VarOK.of (E_Z30_Tok N) (by kernel_rfl) pn (Z30_F) N (fun _ => LStep.none) fun t u K => Z30_body N _ t u K
theorem E_Z30_ok (N : Nat) : EntOK Try.prog 58 (E_Z30 N) := EntOK.vars (E_Z30_Tok N) Try.func58 (by kernel_rfl) (by kernel_rfl) (all_cons (Z30_ok N) (all_nil))
theorem E_Z28_Tok (N : Nat) : TabOK Try.prog (E_Z28_T N) := TabOK.cons (E_Z30_ok N) (TabOK.cons (E_Z22_ok N) (TabOK.cons (E_Z78_ok N) (TabOK.nil)))
theorem Z29_ok (N : Nat) : VarOK Try.prog (E_Z28_T N) Try.f33 (codeOf Try.f33) (Z29_W (Z29 N)) :=
  VarOK.of (E_Z28_Tok N) (by kernel_rfl) ⟨[], [], [0, 1]⟩ (Z29_F (@Z29_l0 N) (@Z29_l1 N)) N (fun _ => LStep.pick (all_cons ⟨.inl fun _ _ _ => rfl, fun n t u K => Z29_v0_0_round N _ _ _ _ _ _ _ _ n t u K⟩ (all_nil)) (LStep.pick (all_cons ⟨.inl fun _ _ _ => rfl, fun n t u K => Z29_v1_0_round N _ _ _ _ _ _ _ _ n t u K⟩ (all_nil)) (LStep.none))) fun t u K => Z29_body N _ _ _ _ _ _ _ _ t u K
theorem Z28_ok (N : Nat) : VarOK Try.prog (E_Z28_T N) Try.f33 (codeOf Try.f33) (Z28_W (Z28 N)) :=
  VarOK.of (E_Z28_Tok N) (by kernel_rfl) pn (Z28_F (@Z28_l0 N) (@Z28_l1 N)) N (fun _ => LStep.pick (all_cons ⟨.inl fun _ _ _ => rfl, fun n t u K => Z28_v0_0_round N _ _ _ _ _ _ _ _ n t u K⟩ (all_nil)) (LStep.pick (all_cons ⟨.inl fun _ _ _ => rfl, fun n t u K => Z28_v1_0_round N _ _ _ _ _ _ _ _ n t u K⟩ (all_nil)) (LStep.none))) fun t u K => Z28_body N _ _ _ _ _ _ _ _ t u K
theorem E_Z28_ok (N : Nat) : EntOK Try.prog 33 (E_Z28 N) := EntOK.vars (E_Z28_Tok N) Try.func33 (by kernel_rfl) (by kernel_rfl) (all_cons (Z29_ok N) (all_cons (Z28_ok N) (all_nil)))
theorem E_Z31_Tok (N : Nat) : TabOK Try.prog (E_Z31_T N) := TabOK.nil
theorem Z32_ok (N : Nat) : VarOK Try.prog (E_Z31_T N) Try.f59 (codeOf Try.f59) (Z32_W (Z32 N)) :=
  VarOK.of (E_Z31_Tok N) (by kernel_rfl) ⟨[], [], [0]⟩ (Z32_F (@Z32_l0 N)) N (fun _ => LStep.pick (all_cons ⟨.inl fun _ _ _ => rfl, fun n t u K => Z32_v0_0_round N _ _ n t u K⟩ (all_nil)) (LStep.none)) fun t u K => Z32_body N _ _ t u K
theorem Z31_ok (N : Nat) : VarOK Try.prog (E_Z31_T N) Try.f59 (codeOf Try.f59) (Z31_W (Z31 N)) :=
  VarOK.of (E_Z31_Tok N) (by kernel_rfl) pn (Z31_F (@Z31_l0 N)) N (fun _ => LStep.pick (all_cons ⟨.inl fun _ _ _ => rfl, fun n t u K => Z31_v0_0_round N _ _ n t u K⟩ (all_nil)) (LStep.none)) fun t u K => Z31_body N _ _ t u K
theorem E_Z31_ok (N : Nat) : EntOK Try.prog 59 (E_Z31 N) := EntOK.vars (E_Z31_Tok N) Try.func59 (by kernel_rfl) (by kernel_rfl) (all_cons (Z32_ok N) (all_cons (Z31_ok N) (all_nil)))
theorem E_Z20_Tok (N : Nat) : TabOK Try.prog (E_Z20_T N) := TabOK.cons (E_Z22_ok N) (TabOK.nil)
theorem Z21_ok (N : Nat) : VarOK Try.prog (E_Z20_T N) Try.f32 (codeOf Try.f32) (Z21_W (Z21 N)) :=
  VarOK.of (E_Z20_Tok N) (by kernel_rfl) ⟨[], [], [0, 1]⟩ (Z21_F (@Z21_l0 N)) N (fun _ => LStep.pick (all_cons ⟨.inl fun _ _ _ => rfl, fun n t u K => Z21_v0_0_round N _ _ _ _ n t u K⟩ (all_nil)) (LStep.none)) fun t u K => Z21_body N _ _ _ _ t u K
theorem Z20_ok (N : Nat) : VarOK Try.prog (E_Z20_T N) Try.f32 (codeOf Try.f32) (Z20_W (Z20 N)) :=
  VarOK.of (E_Z20_Tok N) (by kernel_rfl) pn (Z20_F (@Z20_l0 N)) N (fun _ => LStep.pick (all_cons ⟨.inl fun _ _ _ => rfl, fun n t u K => Z20_v0_0_round N _ _ _ _ n t u K⟩ (all_nil)) (LStep.none)) fun t u K => Z20_body N _ _ _ _ t u K
theorem E_Z20_ok (N : Nat) : EntOK Try.prog 32 (E_Z20 N) := EntOK.vars (E_Z20_Tok N) Try.func32 (by kernel_rfl) (by kernel_rfl) (all_cons (Z21_ok N) (all_cons (Z20_ok N) (all_nil)))
theorem E_class_Has_Tok (N : Nat) : TabOK Try.prog (E_class_Has_T N) := TabOK.cons (E_Z20_ok N) (TabOK.cons (E_Z31_ok N) (TabOK.cons (E_Z28_ok N) (TabOK.cons (E_Z22_ok N) (TabOK.nil))))
theorem Z25_ok (N : Nat) : VarOK Try.prog (E_class_Has_T N) Try.f38 (codeOf Try.f38) (Z25_W (Z25 N)) :=
  VarOK.of (E_class_Has_Tok N) (by kernel_rfl) ⟨[], [], [0, 1, 2, 3, 4]⟩ (Z25_F (@Z25_l0 N)) N (fun _ => LStep.pick (all_cons ⟨.inl fun _ _ _ => rfl, fun n t u K => Z25_v0_0_round N _ _ _ _ _ _ _ _ _ _ n t u K⟩ (all_nil)) (LStep.none)) fun t u K => Z25_body N _ _ _ _ _ _ _ _ _ _ t u K
theorem Z24_ok (N : Nat) : VarOK Try.prog (E_class_Has_T N) Try.f38 (codeOf Try.f38) (Z24_W (Z24 N)) :=
  VarOK.of (E_class_Has_Tok N) (by kernel_rfl) ⟨[], [], [0, 1]⟩ (Z24_F (@Z24_l0 N)) N (fun _ => LStep.pick (all_cons ⟨.inl fun _ _ _ => rfl, fun n t u K => Z24_v0_0_round N _ _ _ _ _ _ _ _ _ _ n t u K⟩ (all_nil)) (LStep.none)) fun t u K => Z24_body N _ _ _ _ _ _ _ _ _ _ t u K
theorem Z26_ok (N : Nat) : VarOK Try.prog (E_class_Has_T N) Try.f38 (codeOf Try.f38) (Z26_W (Z26 N)) :=
  VarOK.of (E_class_Has_Tok N) (by kernel_rfl) ⟨[], [], [1]⟩ (Z26_F (@Z26_l0 N)) N (fun _ => LStep.pick (all_cons ⟨.inl fun _ _ _ => rfl, fun n t u K => Z26_v0_0_round N _ _ _ _ _ _ _ _ _ _ n t u K⟩ (all_nil)) (LStep.none)) fun t u K => Z26_body N _ _ _ _ _ _ _ _ _ _ t u K
theorem Z27_ok (N : Nat) : VarOK Try.prog (E_class_Has_T N) Try.f38 (codeOf Try.f38) (Z27_W (Z27 N)) :=
  VarOK.of (E_class_Has_Tok N) (by kernel_rfl) pn (Z27_F (@Z27_l0 N)) N (fun _ => LStep.pick (all_cons ⟨.inl fun _ _ _ => rfl, fun n t u K => Z27_v0_0_round N _ _ _ _ _ _ _ _ _ _ n t u K⟩ (all_nil)) (LStep.none)) fun t u K => Z27_body N _ _ _ _ _ _ _ _ _ _ t u K
theorem E_class_Has_ok (N : Nat) : EntOK Try.prog 38 (E_class_Has N) := EntOK.vars (E_class_Has_Tok N) Try.func38 (by kernel_rfl) (by kernel_rfl) (all_cons (Z25_ok N) (all_cons (Z24_ok N) (all_cons (Z26_ok N) (all_cons (Z27_ok N) (all_nil)))))
theorem E_slices_Grow___byte__byte_Tok (N : Nat) : TabOK Try.prog (E_slices_Grow___byte__byte_T N) := TabOK.nil
theorem Z53_ok (N : Nat) : VarOK Try.prog (E_slices_Grow___byte__byte_T N) Try.f60 (codeOf Try.f60) (Z53_W (Z53 N)) :=
  VarOK.of (E_slices_Grow___byte__byte_Tok N) (by kernel_rfl) ⟨[], [(0, false, (.isl (.int .u8)))], []⟩ (Z53_F) N (fun _ => LStep.none) fun t u K => Z53_body N _ t u K
theorem E_slices_Grow___byte__byte_ok (N : Nat) : EntOK Try.prog 60 (E_slices_Grow___byte__byte N) := EntOK.vars (E_slices_Grow___byte__byte_Tok N) Try.func60 (by kernel_rfl) (by kernel_rfl) (all_cons (Z53_ok N) (all_nil))
theorem E_slices_Concat___byte__byte_Tok (N : Nat) : TabOK Try.prog (E_slices_Concat___byte__byte_T N) := TabOK.cons (E_slices_Grow___byte__byte_ok N) (TabOK.nil)
theorem Z51_ok (N : Nat) : VarOK Try.prog (E_slices_Concat___byte__byte_T N) Try.f39 (codeOf Try.f39) (Z51_W (Z51 N)) :=
  VarOK.of (E_slices_Concat___byte__byte_Tok N) (by kernel_rfl) ⟨[], [], [0]⟩ (Z51_F (@Z51_l0 N) (@Z51_l1 N)) N (fun _ => LStep.pick (all_cons ⟨.inl fun _ _ _ => rfl, fun n t u K => Z51_v0_0_round N _ _ _ _ n t u K⟩ (all_nil)) (LStep.pick (all_cons ⟨.inl fun _ _ _ => rfl, fun n t u K => Z51_v1_0_round N _ _ _ _ n t u K⟩ (all_nil)) (LStep.none))) fun t u K => Z51_body N _ _ _ _ t u K
theorem E_slices_Concat___byte__byte_ok (N : Nat) : EntOK Try.prog 39 (E_slices_Concat___byte__byte N) := EntOK.vars (E_slices_Concat___byte__byte_Tok N) Try.func39 (by kernel_rfl) (by kernel_rfl) (all_cons (Z51_ok N) (all_nil))
theorem E_cast_Env_Tok (N : Nat) : TabOK Try.prog (E_cast_Env_T N) := TabOK.cons (E_Z20_ok N) (TabOK.cons (E_slices_Concat___byte__byte_ok N) (TabOK.cons (E_class_Has_ok N) (TabOK.cons (E_Z28_ok N) (TabOK.nil))))
theorem Z3_ok (N : Nat) : VarOK Try.prog (E_cast_Env_T N) Try.f19 (codeOf Try.f19) (Z3_W (Z3 N)) :=
  VarOK.of (E_cast_Env_Tok N) (by kernel_rfl) ⟨[], [(0, false, (.int .u16))], [0, 1, 2, 3]⟩ (Z3_F (@Z3_l0 N) (@Z3_l1 N) (@Z3_l2 N)) N (fun _ => LStep.pick (all_cons ⟨.inl fun _ _ _ => rfl, fun n t u K => Z3_v0_0_round N _ _ _ _ _ _ _ _ _ _ _ _ _ n t u K⟩ (all_nil)) (LStep.pick (all_cons ⟨.inl fun _ _ _ => rfl, fun n t u K => Z3_v1_0_round N _ _ _ _ _ _ _ _ _ _ _ _ _ n t u K⟩ (all_nil)) (LStep.pick (all_cons ⟨.inl fun _ _ _ => rfl, fun n t u K => Z3_v2_0_round N _ _ _ _ _ _ _ _ _ _ _ _ _ n t u K⟩ (all_nil)) (LStep.none)))) fun t u K => Z3_body N _ _ _ _ _ _ _ _ _ _ _ _ _ t u K
theorem Z1_ok (N : Nat) : VarOK Try.prog (E_cast_Env_T N) Try.f19 (codeOf Try.f19) (Z1_W (Z1 N)) :=
  VarOK.of (E_cast_Env_Tok N) (by kernel_rfl) ⟨[], [(0, false, (.int .u16))], [0, 1]⟩ (Z1_F (@Z1_l0 N) (@Z1_l1 N) (@Z1_l2 N)) N (fun _ => LStep.pick (all_cons ⟨.inl fun _ _ _ => rfl, fun n t u K => Z1_v0_0_round N _ _ _ _ _ _ _ _ _ _ _ _ _ n t u K⟩ (all_nil)) (LStep.pick (all_cons ⟨.inl fun _ _ _ => rfl, fun n t u K => Z1_v1_0_round N _ _ _ _ _ _ _ _ _ _ _ _ _ n t u K⟩ (all_nil)) (LStep.pick (all_cons ⟨.inl fun _ _ _ => rfl, fun n t u K => Z1_v2_0_round N _ _ _ _ _ _ _ _ _ _ _ _ _ n t u K⟩ (all_nil)) (LStep.none)))) fun t u K => Z1_body N _ _ _ _ _ _ _ _ _ _ _ _ _ t u K
theorem Z2_ok (N : Nat) : VarOK Try.prog (E_cast_Env_T N) Try.f19 (codeOf Try.f19) (Z2_W (Z2 N)) :=
  VarOK.of (E_cast_Env_Tok N) (by kernel_rfl) ⟨[], [(0, false, (.int .u16))], [1]⟩ (Z2_F (@Z2_l0 N) (@Z2_l1 N) (@Z2_l2 N)) N (fun _ => LStep.pick (all_cons ⟨.inl fun _ _ _ => rfl, fun n t u K => Z2_v0_0_round N _ _ _ _ _ _ _ _ _ _ _ _ _ n t u K⟩ (all_nil)) (LStep.pick (all_cons ⟨.inl fun _ _ _ => rfl, fun n t u K => Z2_v1_0_round N _ _ _ _ _ _ _ _ _ _ _ _ _ n t u K⟩ (all_nil)) (LStep.pick (all_cons ⟨.inl fun _ _ _ => rfl, fun n t u K => Z2_v2_0_round N _ _ _ _ _ _ _ _ _ _ _ _ _ n t u K⟩ (all_nil)) (LStep.none)))) fun t u K => Z2_body N _ _ _ _ _ _ _ _ _ _ _ _ _ t u K
theorem Z4_ok (N : Nat) : VarOK Try.prog (E_cast_Env_T N) Try.f19 (codeOf Try.f19) (Z4_W (Z4 N)) :=
  VarOK.of (E_cast_Env_Tok N) (by kernel_rfl) ⟨[], [(0, false, (.int .u16))], []⟩ (Z4_F (@Z4_l0 N) (@Z4_l1 N) (@Z4_l2 N)) N (fun _ => LStep.pick (all_cons ⟨.inl fun _ _ _ => rfl, fun n t u K => Z4_v0_0_round N _ _ _ _ _ _ _ _ _ _ _ _ _ n t u K⟩ (all_nil)) (LStep.pick (all_cons ⟨.inl fun _ _ _ => rfl, fun n t u K => Z4_v1_0_round N _ _ _ _ _ _ _ _ _ _ _ _ _ n t u K⟩ (all_nil)) (LStep.pick (all_cons ⟨.inl fun _ _ _ => rfl, fun n t u K => Z4_v2_0_round N _ _ _ _ _ _ _ _ _ _ _ _ _ n t u K⟩ (all_nil)) (LStep.none)))) fun t u K => Z4_body N _ _ _ _ _ _ _ _ _ _ _ _ _ t u K
theorem E_cast_Env_ok (N : Nat) : EntOK Try.prog 19 (E_cast_Env N) := EntOK.vars (E_cast_Env_Tok N) Try.func19 (by kernel_rfl) (by kernel_rfl) (all_cons (Z3_ok N) (all_cons (Z1_ok N) (all_cons (Z2_ok N) (all_cons (Z4_ok N) (all_nil)))))
theorem E_Z9_Tok (N : Nat) : TabOK Try.prog (E_Z9_T N) := TabOK.cons (E_Z28_ok N) (TabOK.cons (E_Z20_ok N) (TabOK.nil))
theorem Z10_ok (N : Nat) : VarOK Try.prog (E_Z9_T N) Try.f14 (codeOf Try.f14) (Z10_W (Z10 N)) :=
  VarOK.of (E_Z9_Tok N) (by kernel_rfl) ⟨[], [], [0, 1]⟩ (Z10_F (@Z10_l0 N)) N (fun _ => LStep.pick (all_cons ⟨.inl fun _ _ _ => rfl, fun n t u K => Z10_v0_0_round N _ _ _ _ _ _ n t u K⟩ (all_nil)) (LStep.none)) fun t u K => Z10_body N _ _ _ _ _ _ t u K
theorem Z9_ok (N : Nat) : VarOK Try.prog (E_Z9_T N) Try.f14 (codeOf Try.f14) (Z9_W (Z9 N)) :=
  VarOK.of (E_Z9_Tok N) (by kernel_rfl) pn (Z9_F (@Z9_l0 N)) N (fun _ => LStep.pick (all_cons ⟨.inl fun _ _ _ => rfl, fun n t u K => Z9_v0_0_round N _ _ _ _ _ _ n t u K⟩ (all_nil)) (LStep.none)) fun t u K => Z9_body N _ _ _ _ _ _ t u K
theorem E_Z9_ok (N : Nat) : EntOK Try.prog 14 (E_Z9 N) := EntOK.vars (E_Z9_Tok N) Try.func14 (by kernel_rfl) (by kernel_rfl) (all_cons (Z10_ok N) (all_cons (Z9_ok N) (all_nil)))
theorem E_cast_Byte_Tok (N : Nat) : TabOK Try.prog (E_cast_Byte_T N) := TabOK.cons (E_Z20_ok N) (TabOK.cons (E_Z9_ok N) (TabOK.nil))
theorem Z0_ok (N : Nat) : VarOK Try.prog (E_cast_Byte_T N) Try.f15 (codeOf Try.f15) (Z0_W (Z0 N)) :=
  VarOK.of (E_cast_Byte_Tok N) (by kernel_rfl) ⟨[], [], [0, 1]⟩ (Z0_F) N (fun _ => LStep.none) fun t u K => Z0_body N _ _ _ _ _ t u K
theorem E_cast_Byte_ok (N : Nat) : EntOK Try.prog 15 (E_cast_Byte N) := EntOK.vars (E_cast_Byte_Tok N) Try.func15 (by kernel_rfl) (by kernel_rfl) (all_cons (Z0_ok N) (all_nil))
theorem E_Z11_Tok (N : Nat) : TabOK Try.prog (E_Z11_T N) := TabOK.cons (E_Z20_ok N) (TabOK.cons (E_Z28_ok N) (TabOK.nil))
theorem Z12_ok (N : Nat) : VarOK Try.prog (E_Z11_T N) Try.f17 (codeOf Try.f17) (Z12_W (Z12 N)) :=
  VarOK.of (E_Z11_Tok N) (by kernel_rfl) ⟨[], [], [0, 1]⟩ (Z12_F (@Z12_l0 N)) N (fun _ => LStep.pick (all_cons ⟨.inl fun _ _ _ => rfl, fun n t u K => Z12_v0_0_round N _ _ _ _ _ _ n t u K⟩ (all_nil)) (LStep.none)) fun t u K => Z12_body N _ _ _ _ _ _ t u K
theorem Z11_ok (N : Nat) : VarOK Try.prog (E_Z11_T N) Try.f17 (codeOf Try.f17) (Z11_W (Z11 N)) :=
  VarOK.of (E_Z11_Tok N) (by kernel_rfl) pn (Z11_F (@Z11_l0 N)) N (fun _ => LStep.pick (all_cons ⟨.inl fun _ _ _ => rfl, fun n t u K => Z11_v0_0_round N _ _ _ _ _ _ n t u K⟩ (all_nil)) (LStep.none)) fun t u K => Z11_body N _ _ _ _ _ _ t u K
theorem E_Z11_ok (N : Nat) : EntOK Try.prog 17 (E_Z11 N) := EntOK.vars (E_Z11_Tok N) Try.func17 (by kernel_rfl) (by kernel_rfl) (all_cons (Z12_ok N) (all_cons (Z11_ok N) (all_nil)))
theorem E_Z5_Tok (N : Nat) : TabOK Try.prog (E_Z5_T N) := TabOK.cons (E_Z11_ok N) (TabOK.cons (E_Z28_ok N) (TabOK.nil))
theorem Z6_ok (N : Nat) : VarOK Try.prog (E_Z5_T N) Try.f16 (codeOf Try.f16) (Z6_W (Z6 N)) :=
  VarOK.of (E_Z5_Tok N) (by kernel_rfl) ⟨[], [], [0, 1]⟩ (Z6_F) N (fun _ => LStep.none) fun t u K => Z6_body N _ _ _ _ _ t u K
theorem Z5_ok (N : Nat) : VarOK Try.prog (E_Z5_T N) Try.f16 (codeOf Try.f16) (Z5_W (Z5 N)) :=
  VarOK.of (E_Z5_Tok N) (by kernel_rfl) pn (Z5_F) N (fun _ => LStep.none) fun t u K => Z5_body N _ _ _ _ _ t u K
theorem E_Z5_ok (N : Nat) : EntOK Try.prog 16 (E_Z5 N) := EntOK.vars (E_Z5_Tok N) Try.func16 (by kernel_rfl) (by kernel_rfl) (all_cons (Z6_ok N) (all_cons (Z5_ok N) (all_nil)))
theorem E_law18_same_Tok (N : Nat) : TabOK Try.prog (E_law18_same_T N) := TabOK.nil
theorem Z36_ok (N : Nat) : VarOK Try.prog (E_law18_same_T N) Try.f20 (codeOf Try.f20) (Z36_W (Z36 N)) :=
  VarOK.of (E_law18_same_Tok N) (by kernel_rfl) ⟨[], [], [0, 1]⟩ (Z36_F (@Z36_l0 N)) N (fun _ => LStep.pick (all_cons ⟨.inl fun _ _ _ => rfl, fun n t u K => Z36_v0_0_round N _ _ n t u K⟩ (all_nil)) (LStep.none)) fun t u K => Z36_body N _ _ t u K
theorem E_law18_same_ok (N : Nat) : EntOK Try.prog 20 (E_law18_same N) := EntOK.vars (E_law18_same_Tok N) Try.func20 (by kernel_rfl) (by kernel_rfl) (all_cons (Z36_ok N) (all_nil))
theorem E_Z35_Tok (N : Nat) : TabOK Try.prog (E_Z35_T N) := TabOK.cons (E_Z9_ok N) (TabOK.cons (E_Z11_ok N) (TabOK.cons (E_law18_same_ok N) (TabOK.cons (E_Z5_ok N) (TabOK.cons (E_cast_Byte_ok N) (TabOK.cons (E_cast_Env_ok N) (TabOK.nil))))))
theorem Z35_ok (N : Nat) : VarOK Try.prog (E_Z35_T N) Try.f10 (codeOf Try.f10) (Z35_W (Z35 N)) :=
  VarOK.of (E_Z35_Tok N) (by kernel_rfl) pn (Z35_F) N (fun _ => LStep.none) fun t u K => Z35_body N _ _ _ _ _ _ _ _ _ _ _ _ _ t u K
theorem E_Z35_ok (N : Nat) : EntOK Try.prog 10 (E_Z35 N) := EntOK.vars (E_Z35_Tok N) Try.func10 (by kernel_rfl) (by kernel_rfl) (all_cons (Z35_ok N) (all_nil))
theorem E_Z33_Tok (N : Nat) : TabOK Try.prog (E_Z33_T N) := TabOK.nil
theorem Z33_ok (N : Nat) : VarOK Try.prog (E_Z33_T N) Try.f11 (codeOf Try.f11) (Z33_W (Z33 N)) :=
  VarOK.of (E_Z33_Tok N) (by kernel_rfl) pn (Z33_F (@Z33_l0 N)) N (fun _ => LStep.pick (all_cons ⟨.inl fun _ _ _ => rfl, fun n t u K => Z33_v0_0_round N _ _ n t u K⟩ (all_nil)) (LStep.none)) fun t u K => Z33_body N _ _ t u K
theorem E_Z33_ok (N : Nat) : EntOK Try.prog 11 (E_Z33 N) := EntOK.vars (E_Z33_Tok N) Try.func11 (by kernel_rfl) (by kernel_rfl) (all_cons (Z33_ok N) (all_nil))
theorem E_Z39_Tok (N : Nat) : TabOK Try.prog (E_Z39_T N) := TabOK.nil
theorem Z39_ok (N : Nat) : VarOK Try.prog (E_Z39_T N) Try.f54 (codeOf Try.f54) (Z39_W (Z39 N)) :=
  VarOK.of (E_Z39_Tok N) (by kernel_rfl) pn (Z39_F (@Z39_l0 N) (@Z39_l1 N)) N (fun _ => LStep.pick (all_cons ⟨.inl fun _ _ _ => rfl, fun n t u K => Z39_v0_0_round N _ _ _ n t u K⟩ (all_nil)) (LStep.pick (all_cons ⟨.inl fun _ _ _ => rfl, fun n t u K => Z39_v1_0_round N _ _ _ n t u K⟩ (all_nil)) (LStep.none))) fun t u K => Z39_body N _ _ _ t u K
theorem E_Z39_ok (N : Nat) : EntOK Try.prog 54 (E_Z39 N) := EntOK.vars (E_Z39_Tok N) Try.func54 (by kernel_rfl) (by kernel_rfl) (all_cons (Z39_ok N) (all_nil))
theorem E_ref12_Tree_at_Tok (N : Nat) : TabOK Try.prog (E_ref12_Tree_at_T N) := TabOK.nil
theorem Z42_ok (N : Nat) : VarOK Try.prog (E_ref12_Tree_at_T N) Try.f55 (codeOf Try.f55) (Z42_W (Z42 N)) :=
  VarOK.of (E_ref12_Tree_at_Tok N) (by kernel_rfl) ⟨[], [], [1]⟩ (Z42_F (@Z42_l0 N)) N (fun _ => LStep.pick (all_cons ⟨.inl fun _ _ _ => rfl, fun n t u K => Z42_v0_0_round N _ _ n t u K⟩ (all_nil)) (LStep.none)) fun t u K => Z42_body N _ _ t u K
theorem E_ref12_Tree_at_ok (N : Nat) : EntOK Try.prog 55 (E_ref12_Tree_at N) := EntOK.vars (E_ref12_Tree_at_Tok N) Try.func55 (by kernel_rfl) (by kernel_rfl) (all_cons (Z42_ok N) (all_nil))
theorem E_Z41_Tok (N : Nat) : TabOK Try.prog (E_Z41_T N) := TabOK.cons (E_Z39_ok N) (TabOK.nil)
theorem Z41_ok (N : Nat) : VarOK Try.prog (E_Z41_T N) Try.f56 (codeOf Try.f56) (Z41_W (Z41 N)) :=
  VarOK.of (E_Z41_Tok N) (by kernel_rfl) pn (Z41_F (@Z41_l0 N)) N (fun _ => LStep.pick (all_cons ⟨.inl fun _ _ _ => rfl, fun n t u K => Z41_v0_0_round N _ _ _ n t u K⟩ (all_nil)) (LStep.none)) fun t u K => Z41_body N _ _ _ t u K
theorem E_Z41_ok (N : Nat) : EntOK Try.prog 56 (E_Z41 N) := EntOK.vars (E_Z41_Tok N) Try.func56 (by kernel_rfl) (by kernel_rfl) (all_cons (Z41_ok N) (all_nil))
theorem E_Z40_Tok (N : Nat) : TabOK Try.prog (E_Z40_T N) := TabOK.cons (E_Z41_ok N) (TabOK.cons (E_ref12_Tree_at_ok N) (TabOK.cons (E_Z39_ok N) (TabOK.nil)))
theorem Z40_ok (N : Nat) : VarOK Try.prog (E_Z40_T N) Try.f30 (codeOf Try.f30) (Z40_W (Z40 N)) :=
  VarOK.of (E_Z40_Tok N) (by kernel_rfl) pn (Z40_F (@Z40_l0 N)) N (fun _ => LStep.pick (all_cons ⟨.inl fun _ _ _ => rfl, fun n t u K => Z40_v0_0_round N _ _ _ _ _ n t u K⟩ (all_nil)) (LStep.none)) fun t u K => Z40_body N _ _ _ _ _ t u K
theorem E_Z40_ok (N : Nat) : EntOK Try.prog 30 (E_Z40 N) := EntOK.vars (E_Z40_Tok N) Try.func30 (by kernel_rfl) (by kernel_rfl) (all_cons (Z40_ok N) (all_nil))
theorem E_Z43_Tok (N : Nat) : TabOK Try.prog (E_Z43_T N) := TabOK.nil
theorem Z43_ok (N : Nat) : VarOK Try.prog (E_Z43_T N) Try.f13 (codeOf Try.f13) (Z43_W (Z43 N)) :=
  VarOK.of (E_Z43_Tok N) (by kernel_rfl) pn (Z43_F (@Z43_l0 N)) N (fun _ => LStep.pick (all_cons ⟨.inl fun _ _ _ => rfl, fun n t u K => Z43_v0_0_round N _ _ n t u K⟩ (all_nil)) (LStep.none)) fun t u K => Z43_body N _ _ t u K
theorem E_Z43_ok (N : Nat) : EntOK Try.prog 13 (E_Z43 N) := EntOK.vars (E_Z43_Tok N) Try.func13 (by kernel_rfl) (by kernel_rfl) (all_cons (Z43_ok N) (all_nil))
theorem E_Z47_Tok (N : Nat) : TabOK Try.prog (E_Z47_T N) := TabOK.cons (E_Z43_ok N) (TabOK.nil)
theorem Z47_ok (N : Nat) : VarOK Try.prog (E_Z47_T N) Try.f31 (codeOf Try.f31) (Z47_W (Z47 N)) :=
  VarOK.of (E_Z47_Tok N) (by kernel_rfl) pn (Z47_F) N (fun _ => LStep.none) fun t u K => Z47_body N _ _ t u K
theorem E_Z47_ok (N : Nat) : EntOK Try.prog 31 (E_Z47 N) := EntOK.vars (E_Z47_Tok N) Try.func31 (by kernel_rfl) (by kernel_rfl) (all_cons (Z47_ok N) (all_nil))
theorem E_Z45_Tok (N : Nat) : TabOK Try.prog (E_Z45_T N) := TabOK.cons (E_Z43_ok N) (TabOK.cons (E_Z47_ok N) (TabOK.cons (E_Z40_ok N) (TabOK.nil)))
theorem Z45_ok (N : Nat) : VarOK Try.prog (E_Z45_T N) Try.f12 (codeOf Try.f12) (Z45_W (Z45 N)) :=
  VarOK.of (E_Z45_Tok N) (by kernel_rfl) pn (Z45_F (@Z45_l0 N) (@Z45_l1 N)) N (fun _ => LStep.pick (all_cons ⟨.inl fun _ _ _ => rfl, fun n t u K => Z45_v0_0_round N _ _ _ _ _ _ n t u K⟩ (all_nil)) (LStep.pick (all_cons ⟨.inl fun _ _ _ => rfl, fun n t u K => Z45_v1_0_round N _ _ _ _ _ _ n t u K⟩ (all_nil)) (LStep.none))) fun t u K => Z45_body N _ _ _ _ _ _ t u K
theorem E_Z45_ok (N : Nat) : EntOK Try.prog 12 (E_Z45 N) := EntOK.vars (E_Z45_Tok N) Try.func12 (by kernel_rfl) (by kernel_rfl) (all_cons (Z45_ok N) (all_nil))
theorem E_Z50_Tok (N : Nat) : TabOK Try.prog (E_Z50_T N) := TabOK.nil
theorem Z50_ok (N : Nat) : VarOK Try.prog (E_Z50_T N) Try.f36 (codeOf Try.f36) (Z50_W (Z50 N)) :=
  VarOK.of (E_Z50_Tok N) (by kernel_rfl) pn (Z50_F (@Z50_l0 N)) N (fun _ => LStep.pick (all_cons ⟨.inl fun _ _ _ => rfl, fun n t u K => Z50_v0_0_round N _ _ n t u K⟩ (all_nil)) (LStep.none)) fun t u K => Z50_body N _ _ t u K
theorem E_Z50_ok (N : Nat) : EntOK Try.prog 36 (E_Z50 N) := EntOK.vars (E_Z50_Tok N) Try.func36 (by kernel_rfl) (by kernel_rfl) (all_cons (Z50_ok N) (all_nil))
theorem E_Z49_Tok (N : Nat) : TabOK Try.prog (E_Z49_T N) := TabOK.nil
theorem Z49_ok (N : Nat) : VarOK Try.prog (E_Z49_T N) Try.f37 (codeOf Try.f37) (Z49_W (Z49 N)) :=
  VarOK.of (E_Z49_Tok N) (by kernel_rfl) pn (Z49_F (@Z49_l0 N) (@Z49_l1 N)) N (fun _ => LStep.pick (all_cons ⟨.inl fun _ _ _ => rfl, fun n t u K => Z49_v0_0_round N _ _ _ n t u K⟩ (all_nil)) (LStep.pick (all_cons ⟨.inl fun _ _ _ => rfl, fun n t u K => Z49_v1_0_round N _ _ _ n t u K⟩ (all_nil)) (LStep.none))) fun t u K => Z49_body N _ _ _ t u K
theorem E_Z49_ok (N : Nat) : EntOK Try.prog 37 (E_Z49 N) := EntOK.vars (E_Z49_Tok N) Try.func37 (by kernel_rfl) (by kernel_rfl) (all_cons (Z49_ok N) (all_nil))
theorem E_Z74_Tok (N : Nat) : TabOK Try.prog (E_Z74_T N) := TabOK.nil
theorem Z74_ok (N : Nat) : VarOK Try.prog (E_Z74_T N) Try.f27 (codeOf Try.f27) (Z74_W (Z74 N)) :=
  VarOK.of (E_Z74_Tok N) (by kernel_rfl) pn (Z74_F) N (fun _ => LStep.none) fun t u K => Z74_body N _ t u K
theorem E_Z74_ok (N : Nat) : EntOK Try.prog 27 (E_Z74 N) := EntOK.vars (E_Z74_Tok N) Try.func27 (by kernel_rfl) (by kernel_rfl) (all_cons (Z74_ok N) (all_nil))
theorem E_Z85_Tok (N : Nat) : TabOK Try.prog (E_Z85_T N) := TabOK.nil
theorem Z85_ok (N : Nat) : VarOK Try.prog (E_Z85_T N) Try.f64 (codeOf Try.f64) (Z85_W (Z85 N)) :=
  VarOK.of (E_Z85_Tok N) (by kernel_rfl) pn (Z85_F) N (fun _ => LStep.none) fun t u K => Z85_body N _ t u K
theorem E_Z85_ok (N : Nat) : EntOK Try.prog 64 (E_Z85 N) := EntOK.vars (E_Z85_Tok N) Try.func64 (by kernel_rfl) (by kernel_rfl) (all_cons (Z85_ok N) (all_nil))
theorem E_term_Arena_keep_Tok (N : Nat) : TabOK Try.prog (E_term_Arena_keep_T N) := TabOK.nil
theorem Z69_ok (N : Nat) : VarOK Try.prog (E_term_Arena_keep_T N) Try.f65 (codeOf Try.f65) (Z69_W (Z69 N)) :=
  VarOK.of (E_term_Arena_keep_Tok N) (by kernel_rfl) ⟨[1], [], [1]⟩ (Z69_F) N (fun _ => LStep.none) fun t u K => Z69_body N _ t u K
theorem E_term_Arena_keep_ok (N : Nat) : EntOK Try.prog 65 (E_term_Arena_keep N) := EntOK.vars (E_term_Arena_keep_Tok N) Try.func65 (by kernel_rfl) (by kernel_rfl) (all_cons (Z69_ok N) (all_nil))
theorem E_term_Arena_Var_Tok (N : Nat) : TabOK Try.prog (E_term_Arena_Var_T N) := TabOK.cons (E_term_Arena_keep_ok N) (TabOK.cons (E_Z85_ok N) (TabOK.nil))
theorem Z65_ok (N : Nat) : VarOK Try.prog (E_term_Arena_Var_T N) Try.f61 (codeOf Try.f61) (Z65_W (Z65 N)) :=
  VarOK.of (E_term_Arena_Var_Tok N) (by kernel_rfl) ⟨[1], [], [1]⟩ (Z65_F) N (fun _ => LStep.none) fun t u K => Z65_body N _ _ _ t u K
theorem E_term_Arena_Var_ok (N : Nat) : EntOK Try.prog 61 (E_term_Arena_Var N) := EntOK.vars (E_term_Arena_Var_Tok N) Try.func61 (by kernel_rfl) (by kernel_rfl) (all_cons (Z65_ok N) (all_nil))
theorem E_cast_maker_keep_Tok (N : Nat) : TabOK Try.prog (E_cast_maker_keep_T N) := TabOK.nil
theorem Z13_ok (N : Nat) : VarOK Try.prog (E_cast_maker_keep_T N) Try.f47 (codeOf Try.f47) (Z13_W (Z13 N)) :=
  VarOK.of (E_cast_maker_keep_Tok N) (by kernel_rfl) ⟨[], [], [2]⟩ (Z13_F) N (fun _ => LStep.none) fun t u K => Z13_body N _ t u K
theorem E_cast_maker_keep_ok (N : Nat) : EntOK Try.prog 47 (E_cast_maker_keep N) := EntOK.vars (E_cast_maker_keep_Tok N) Try.func47 (by kernel_rfl) (by kernel_rfl) (all_cons (Z13_ok N) (all_nil))
theorem E_cast_maker_variable_Tok (N : Nat) : TabOK Try.prog (E_cast_maker_variable_T N) := TabOK.cons (E_cast_maker_keep_ok N) (TabOK.cons (E_term_Arena_Var_ok N) (TabOK.nil))
theorem Z16_ok (N : Nat) : VarOK Try.prog (E_cast_maker_variable_T N) Try.f44 (codeOf Try.f44) (Z16_W (Z16 N)) :=
  VarOK.of (E_cast_maker_variable_Tok N) (by kernel_rfl) ⟨[], [], [2]⟩ (Z16_F) N (fun _ => LStep.none) fun t u K => Z16_body N _ _ _ t u K
theorem E_cast_maker_variable_ok (N : Nat) : EntOK Try.prog 44 (E_cast_maker_variable N) := EntOK.vars (E_cast_maker_variable_Tok N) Try.func44 (by kernel_rfl) (by kernel_rfl) (all_cons (Z16_ok N) (all_nil))
theorem E_Z84_Tok (N : Nat) : TabOK Try.prog (E_Z84_T N) := TabOK.cons (E_Z85_ok N) (TabOK.nil)
theorem Z84_ok (N : Nat) : VarOK Try.prog (E_Z84_T N) Try.f66 (codeOf Try.f66) (Z84_W (Z84 N)) :=
  VarOK.of (E_Z84_Tok N) (by kernel_rfl) pn (Z84_F) N (fun _ => LStep.none) fun t u K => Z84_body N _ _ t u K
theorem E_Z84_ok (N : Nat) : EntOK Try.prog 66 (E_Z84 N) := EntOK.vars (E_Z84_Tok N) Try.func66 (by kernel_rfl) (by kernel_rfl) (all_cons (Z84_ok N) (all_nil))
theorem E_term_Arena_Const_Tok (N : Nat) : TabOK Try.prog (E_term_Arena_Const_T N) := TabOK.cons (E_term_Arena_keep_ok N) (TabOK.cons (E_Z84_ok N) (TabOK.cons (E_Z85_ok N) (TabOK.nil)))
theorem Z57_ok (N : Nat) : VarOK Try.prog (E_term_Arena_Const_T N) Try.f63 (codeOf Try.f63) (Z57_W (Z57 N)) :=
  VarOK.of (E_term_Arena_Const_Tok N) (by kernel_rfl) ⟨[1], [], [1]⟩ (Z57_F) N (fun _ => LStep.none) fun t u K => Z57_body N _ _ _ _ t u K
theorem E_term_Arena_Const_ok (N : Nat) : EntOK Try.prog 63 (E_term_Arena_Const N) := EntOK.vars (E_term_Arena_Const_Tok N) Try.func63 (by kernel_rfl) (by kernel_rfl) (all_cons (Z57_ok N) (all_nil))
theorem E_cast_maker_number_Tok (N : Nat) : TabOK Try.prog (E_cast_maker_number_T N) := TabOK.cons (E_cast_maker_keep_ok N) (TabOK.cons (E_term_Arena_Const_ok N) (TabOK.nil))
theorem Z14_ok (N : Nat) : VarOK Try.prog (E_cast_maker_number_T N) Try.f46 (codeOf Try.f46) (Z14_W (Z14 N)) :=
  VarOK.of (E_cast_maker_number_Tok N) (by kernel_rfl) ⟨[], [], [2]⟩ (Z14_F) N (fun _ => LStep.none) fun t u K => Z14_body N _ _ _ t u K
theorem E_cast_maker_number_ok (N : Nat) : EntOK Try.prog 46 (E_cast_maker_number N) := EntOK.vars (E_cast_maker_number_Tok N) Try.func46 (by kernel_rfl) (by kernel_rfl) (all_cons (Z14_ok N) (all_nil))
theorem E_Z77_Tok (N : Nat) : TabOK Try.prog (E_Z77_T N) := TabOK.nil
theorem Z77_ok (N : Nat) : VarOK Try.prog (E_Z77_T N) Try.f70 (codeOf Try.f70) (Z77_W (Z77 N)) :=
  VarOK.of (E_Z77_Tok N) (by kernel_rfl) pn (Z77_F) N (fun _ => LStep.none) fun t u K => Z77_body N _ t u K
theorem E_Z77_ok (N : Nat) : EntOK Try.prog 70 (E_Z77 N) := EntOK.vars (E_Z77_Tok N) Try.func70 (by kernel_rfl) (by kernel_rfl) (all_cons (Z77_ok N) (all_nil))
theorem E_term_Arena_Node_Tok (N : Nat) : TabOK Try.prog (E_term_Arena_Node_T N) := TabOK.nil
theorem Z61_ok (N : Nat) : VarOK Try.prog (E_term_Arena_Node_T N) Try.f49 (codeOf Try.f49) (Z61_W (Z61 N)) :=
  VarOK.of (E_term_Arena_Node_Tok N) (by kernel_rfl) ⟨[], [], [1]⟩ (Z61_F) N (fun _ => LStep.none) fun t u K => Z61_body N _ t u K
theorem E_term_Arena_Node_ok (N : Nat) : EntOK Try.prog 49 (E_term_Arena_Node N) := EntOK.vars (E_term_Arena_Node_Tok N) Try.func49 (by kernel_rfl) (by kernel_rfl) (all_cons (Z61_ok N) (all_nil))
theorem E_term_Arena_there_Tok (N : Nat) : TabOK Try.prog (E_term_Arena_there_T N) := TabOK.cons (E_term_Arena_Node_ok N) (TabOK.nil)
theorem Z72_ok (N : Nat) : VarOK Try.prog (E_term_Arena_there_T N) Try.f50 (codeOf Try.f50) (Z72_W (Z72 N)) :=
  VarOK.of (E_term_Arena_there_Tok N) (by kernel_rfl) ⟨[], [], [1, 4]⟩ (Z72_F (@Z72_l0 N)) N (fun _ => LStep.pick (all_cons ⟨.inl fun _ _ _ => rfl, fun n t u K => Z72_v0_0_round N _ _ _ n t u K⟩ (all_nil)) (LStep.none)) fun t u K => Z72_body N _ _ _ t u K
theorem E_term_Arena_there_ok (N : Nat) : EntOK Try.prog 50 (E_term_Arena_there N) := EntOK.vars (E_term_Arena_there_Tok N) Try.func50 (by kernel_rfl) (by kernel_rfl) (all_cons (Z72_ok N) (all_nil))
theorem E_term_Arena_Width_Tok (N : Nat) : TabOK Try.prog (E_term_Arena_Width_T N) := TabOK.cons (E_term_Arena_Node_ok N) (TabOK.nil)
theorem Z66_ok (N : Nat) : VarOK Try.prog (E_term_Arena_Width_T N) Try.f28 (codeOf Try.f28) (Z66_W (Z66 N)) :=
  VarOK.of (E_term_Arena_Width_Tok N) (by kernel_rfl) ⟨[], [], [1]⟩ (Z66_F) N (fun _ => LStep.none) fun t u K => Z66_body N _ _ t u K
theorem E_term_Arena_Width_ok (N : Nat) : EntOK Try.prog 28 (E_term_Arena_Width N) := EntOK.vars (E_term_Arena_Width_Tok N) Try.func28 (by kernel_rfl) (by kernel_rfl) (all_cons (Z66_ok N) (all_nil))
theorem E_term_Arena_Known_Tok (N : Nat) : TabOK Try.prog (E_term_Arena_Known_T N) := TabOK.cons (E_term_Arena_Node_ok N) (TabOK.nil)
theorem Z60_ok (N : Nat) : VarOK Try.prog (E_term_Arena_Known_T N) Try.f71 (codeOf Try.f71) (Z60_W (Z60 N)) :=
  VarOK.of (E_term_Arena_Known_Tok N) (by kernel_rfl) ⟨[], [], [1]⟩ (Z60_F) N (fun _ => LStep.none) fun t u K => Z60_body N _ _ t u K
theorem E_term_Arena_Known_ok (N : Nat) : EntOK Try.prog 71 (E_term_Arena_Known N) := EntOK.vars (E_term_Arena_Known_Tok N) Try.func71 (by kernel_rfl) (by kernel_rfl) (all_cons (Z60_ok N) (all_nil))
theorem E_Z87_Tok (N : Nat) : TabOK Try.prog (E_Z87_T N) := TabOK.cons (E_Z84_ok N) (TabOK.nil)
theorem Z87_ok (N : Nat) : VarOK Try.prog (E_Z87_T N) Try.f81 (codeOf Try.f81) (Z87_W (Z87 N)) :=
  VarOK.of (E_Z87_Tok N) (by kernel_rfl) pn (Z87_F) N (fun _ => LStep.none) fun t u K => Z87_body N _ _ t u K
theorem E_Z87_ok (N : Nat) : EntOK Try.prog 81 (E_Z87 N) := EntOK.vars (E_Z87_Tok N) Try.func81 (by kernel_rfl) (by kernel_rfl) (all_cons (Z87_ok N) (all_nil))
theorem E_Z89_Tok (N : Nat) : TabOK Try.prog (E_Z89_T N) := TabOK.nil
theorem Z89_ok (N : Nat) : VarOK Try.prog (E_Z89_T N) Try.f82 (codeOf Try.f82) (Z89_W (Z89 N)) :=
  VarOK.of (E_Z89_Tok N) (by kernel_rfl) pn (Z89_F) N (fun _ => LStep.none) fun t u K => Z89_body N _ t u K
theorem E_Z89_ok (N : Nat) : EntOK Try.prog 82 (E_Z89 N) := EntOK.vars (E_Z89_Tok N) Try.func82 (by kernel_rfl) (by kernel_rfl) (all_cons (Z89_ok N) (all_nil))
theorem E_Z90_Tok (N : Nat) : TabOK Try.prog (E_Z90_T N) := TabOK.nil
theorem Z90_ok (N : Nat) : VarOK Try.prog (E_Z90_T N) Try.f83 (codeOf Try.f83) (Z90_W (Z90 N)) :=
  VarOK.of (E_Z90_Tok N) (by kernel_rfl) pn (Z90_F) N (fun _ => LStep.none) fun t u K => Z90_body N _ t u K
theorem E_Z90_ok (N : Nat) : EntOK Try.prog 83 (E_Z90 N) := EntOK.vars (E_Z90_Tok N) Try.func83 (by kernel_rfl) (by kernel_rfl) (all_cons (Z90_ok N) (all_nil))
theorem E_Z88_Tok (N : Nat) : TabOK Try.prog (E_Z88_T N) := TabOK.cons (E_Z90_ok N) (TabOK.cons (E_Z89_ok N) (TabOK.cons (E_Z87_ok N) (TabOK.nil)))
theorem Z88_ok (N : Nat) : VarOK Try.prog (E_Z88_T N) Try.f75 (codeOf Try.f75) (Z88_W (Z88 N)) :=
  VarOK.of (E_Z88_Tok N) (by kernel_rfl) pn (Z88_F) N (fun _ => LStep.none) fun t u K => Z88_body N _ _ _ _ t u K
theorem E_Z88_ok (N : Nat) : EntOK Try.prog 75 (E_Z88 N) := EntOK.vars (E_Z88_Tok N) Try.func75 (by kernel_rfl) (by kernel_rfl) (all_cons (Z88_ok N) (all_nil))
theorem E_Z83_Tok (N : Nat) : TabOK Try.prog (E_Z83_T N) := TabOK.cons (E_Z88_ok N) (TabOK.cons (E_Z84_ok N) (TabOK.cons (E_Z85_ok N) (TabOK.nil)))
theorem Z83_ok (N : Nat) : VarOK Try.prog (E_Z83_T N) Try.f67 (codeOf Try.f67) (Z83_W (Z83 N)) :=
  VarOK.of (E_Z83_Tok N) (by kernel_rfl) pn (Z83_F) N (fun _ => LStep.none) fun t u K => Z83_body N _ _ _ _ t u K
theorem E_Z83_ok (N : Nat) : EntOK Try.prog 67 (E_Z83 N) := EntOK.vars (E_Z83_Tok N) Try.func67 (by kernel_rfl) (by kernel_rfl) (all_cons (Z83_ok N) (all_nil))
theorem E_Z86_Tok (N : Nat) : TabOK Try.prog (E_Z86_T N) := TabOK.cons (E_Z83_ok N) (TabOK.nil)
theorem Z86_ok (N : Nat) : VarOK Try.prog (E_Z86_T N) Try.f72 (codeOf Try.f72) (Z86_W (Z86 N)) :=
  VarOK.of (E_Z86_Tok N) (by kernel_rfl) pn (Z86_F) N (fun _ => LStep.none) fun t u K => Z86_body N _ _ t u K
theorem E_Z86_ok (N : Nat) : EntOK Try.prog 72 (E_Z86 N) := EntOK.vars (E_Z86_Tok N) Try.func72 (by kernel_rfl) (by kernel_rfl) (all_cons (Z86_ok N) (all_nil))
theorem E_Z76_Tok (N : Nat) : TabOK Try.prog (E_Z76_T N) := TabOK.nil
theorem Z76_ok (N : Nat) : VarOK Try.prog (E_Z76_T N) Try.f73 (codeOf Try.f73) (Z76_W (Z76 N)) :=
  VarOK.of (E_Z76_Tok N) (by kernel_rfl) pn (Z76_F) N (fun _ => LStep.none) fun t u K => Z76_body N _ t u K
theorem E_Z76_ok (N : Nat) : EntOK Try.prog 73 (E_Z76 N) := EntOK.vars (E_Z76_Tok N) Try.func73 (by kernel_rfl) (by kernel_rfl) (all_cons (Z76_ok N) (all_nil))
theorem E_term_Arena_alike_Tok (N : Nat) : TabOK Try.prog (E_term_Arena_alike_T N) := TabOK.cons (E_Z83_ok N) (TabOK.cons (E_term_Arena_Const_ok N) (TabOK.cons (E_term_Arena_Width_ok N) (TabOK.nil)))
theorem Z67_ok (N : Nat) : VarOK Try.prog (E_term_Arena_alike_T N) Try.f79 (codeOf Try.f79) (Z67_W (Z67 N)) :=
  VarOK.of (E_term_Arena_alike_Tok N) (by kernel_rfl) ⟨[1], [], [1]⟩ (Z67_F) N (fun _ => LStep.none) fun t u K => Z67_body N _ _ _ _ t u K
theorem E_term_Arena_alike_ok (N : Nat) : EntOK Try.prog 79 (E_term_Arena_alike N) := EntOK.vars (E_term_Arena_alike_Tok N) Try.func79 (by kernel_rfl) (by kernel_rfl) (all_cons (Z67_ok N) (all_nil))
theorem E_term_Arena_Not_Tok (N : Nat) : TabOK Try.prog (E_term_Arena_Not_T N) := TabOK.cons (E_term_Arena_keep_ok N) (TabOK.cons (E_term_Arena_Const_ok N) (TabOK.cons (E_term_Arena_Node_ok N) (TabOK.cons (E_term_Arena_there_ok N) (TabOK.nil))))
theorem Z62_ok (N : Nat) : VarOK Try.prog (E_term_Arena_Not_T N) Try.f90 (codeOf Try.f90) (Z62_W (Z62 N)) :=
  VarOK.of (E_term_Arena_Not_Tok N) (by kernel_rfl) ⟨[1], [], [1]⟩ (Z62_F) N (fun _ => LStep.none) fun t u K => Z62_body N _ _ _ _ _ t u K
theorem E_term_Arena_Not_ok (N : Nat) : EntOK Try.prog 90 (E_term_Arena_Not N) := EntOK.vars (E_term_Arena_Not_Tok N) Try.func90 (by kernel_rfl) (by kernel_rfl) (all_cons (Z62_ok N) (all_nil))
theorem E_slices_Equal__uint16_uint16_Tok (N : Nat) : TabOK Try.prog (E_slices_Equal__uint16_uint16_T N) := TabOK.nil
theorem Z52_ok (N : Nat) : VarOK Try.prog (E_slices_Equal__uint16_uint16_T N) Try.f41 (codeOf Try.f41) (Z52_W (Z52 N)) :=
  VarOK.of (E_slices_Equal__uint16_uint16_Tok N) (by kernel_rfl) ⟨[], [], [0]⟩ (Z52_F (@Z52_l0 N)) N (fun _ => LStep.pick (all_cons ⟨.inl fun _ _ _ => rfl, fun n t u K => Z52_v0_0_round N _ _ n t u K⟩ (all_nil)) (LStep.none)) fun t u K => Z52_body N _ _ t u K
theorem E_slices_Equal__uint16_uint16_ok (N : Nat) : EntOK Try.prog 41 (E_slices_Equal__uint16_uint16 N) := EntOK.vars (E_slices_Equal__uint16_uint16_Tok N) Try.func41 (by kernel_rfl) (by kernel_rfl) (all_cons (Z52_ok N) (all_nil))
theorem E_cast_Input_Tok (N : Nat) : TabOK Try.prog (E_cast_Input_T N) := TabOK.cons (E_slices_Equal__uint16_uint16_ok N) (TabOK.cons (E_cast_Env_ok N) (TabOK.cons (E_Z22_ok N) (TabOK.cons (E_Z9_ok N) (TabOK.cons (E_Z20_ok N) (TabOK.cons (E_Z11_ok N) (TabOK.cons (E_Z28_ok N) (TabOK.nil)))))))
theorem Z7_ok (N : Nat) : VarOK Try.prog (E_cast_Input_T N) Try.f21 (codeOf Try.f21) (Z7_W (Z7 N)) :=
  VarOK.of (E_cast_Input_Tok N) (by kernel_rfl) ⟨[], [], [0]⟩ (Z7_F (@Z7_l0 N) (@Z7_l1 N) (@Z7_l2 N)) N (fun _ => LStep.pick (all_cons ⟨.inl fun _ _ _ => rfl, fun n t u K => Z7_v0_0_round N _ _ _ _ _ _ _ _ _ _ _ _ _ _ _ _ _ _ _ n t u K⟩ (all_nil)) (LStep.pick (all_cons ⟨.inl fun _ _ _ => rfl, fun n t u K => Z7_v1_0_round N _ _ _ _ _ _ _ _ _ _ _ _ _ _ _ _ _ _ _ n t u K⟩ (all_nil)) (LStep.pick (all_cons ⟨.inl fun _ _ _ => rfl, fun n t u K => Z7_v2_0_round N _ _ _ _ _ _ _ _ _ _ _ _ _ _ _ _ _ _ _ n t u K⟩ (all_nil)) (LStep.none)))) fun t u K => Z7_body N _ _ _ _ _ _ _ _ _ _ _ _ _ _ _ _ _ _ _ t u K
theorem E_cast_Input_ok (N : Nat) : EntOK Try.prog 21 (E_cast_Input N) := EntOK.vars (E_cast_Input_Tok N) Try.func21 (by kernel_rfl) (by kernel_rfl) (all_cons (Z7_ok N) (all_nil))
theorem E_term_Value_Tok (N : Nat) : TabOK Try.prog (E_term_Value_T N) := TabOK.cons (E_Z83_ok N) (TabOK.cons (E_Z84_ok N) (TabOK.nil))
theorem Z75_ok (N : Nat) : VarOK Try.prog (E_term_Value_T N) Try.f53 (codeOf Try.f53) (Z75_W (Z75 N)) :=
  VarOK.of (E_term_Value_Tok N) (by kernel_rfl) ⟨[], [], [0]⟩ (Z75_F) N (fun _ => LStep.none) fun t u K => Z75_body N _ _ _ t u K
theorem E_term_Value_ok (N : Nat) : EntOK Try.prog 53 (E_term_Value N) := EntOK.vars (E_term_Value_Tok N) Try.func53 (by kernel_rfl) (by kernel_rfl) (all_cons (Z75_ok N) (all_nil))
theorem E_term_Arena_Under_Tok (N : Nat) : TabOK Try.prog (E_term_Arena_Under_T N) := TabOK.cons (E_term_Arena_there_ok N) (TabOK.nil)
theorem Z64_ok (N : Nat) : VarOK Try.prog (E_term_Arena_Under_T N) Try.f52 (codeOf Try.f52) (Z64_W (Z64 N)) :=
  VarOK.of (E_term_Arena_Under_Tok N) (by kernel_rfl) ⟨[], [], [1, 4]⟩ (Z64_F (@Z64_l0 N) (@Z64_l1 N) (@Z64_l2 N) (@Z64_l3 N)) N (fun _ => LStep.pick (all_cons ⟨.inl fun _ _ _ => rfl, fun n t u K => Z64_v0_0_round N _ _ _ _ _ _ n t u K⟩ (all_nil)) (LStep.pick (all_cons ⟨.inl fun _ _ _ => rfl, fun n t u K => Z64_v1_0_round N _ _ _ _ _ _ n t u K⟩ (all_nil)) (LStep.pick (all_cons ⟨.inl fun _ _ _ => rfl, fun n t u K => Z64_v2_0_round N _ _ _ _ _ _ n t u K⟩ (all_nil)) (LStep.pick (all_cons ⟨.inl fun _ _ _ => rfl, fun n t u K => Z64_v3_0_round N _ _ _ _ _ _ n t u K⟩ (all_nil)) (LStep.none))))) fun t u K => Z64_body N _ _ _ _ _ _ t u K
theorem E_term_Arena_Under_ok (N : Nat) : EntOK Try.prog 52 (E_term_Arena_Under N) := EntOK.vars (E_term_Arena_Under_Tok N) Try.func52 (by kernel_rfl) (by kernel_rfl) (all_cons (Z64_ok N) (all_nil))
theorem Z48_ok (N : Nat) (n : Nat) (hT : TabOK Try.prog (E_Z48_T N n)) : VarOK Try.prog (E_Z48_T N n) Try.f35 (codeOf Try.f35) (Z48_W (@G_Z48_Rec.Z48 (G_Z48_rec N (n + 1)))) :=
  VarOK.of hT (by kernel_rfl) pn (Z48_F (@Z48_l0 N (@G_Z48_Rec.Z48 (G_Z48_rec N n))) (@Z48_l1 N (@G_Z48_Rec.Z48 (G_Z48_rec N n)))) N (fun _ => LStep.pick (all_cons ⟨.inl fun _ _ _ => rfl, fun n t u K => Z48_v0_0_round N _ _ _ _ n t u K⟩ (all_nil)) (LStep.pick (all_cons ⟨.inl fun _ _ _ => rfl, fun n t u K => Z48_v1_0_round N _ _ _ _ n t u K⟩ (all_nil)) (LStep.none))) fun t u K => Z48_body N _ _ _ _ t u K
theorem G_Z48_ok (N : Nat) : ∀ n : Nat, EntOK Try.prog 35 (E_Z48_n N n)
  | 0 => EntOK.void Try.func35 (by kernel_rfl) (by kernel_rfl) (all_cons (fun _ _ _ _ => rfl) (all_nil))
  | n + 1 =>
    have ih := G_Z48_ok N n
    (have hT : TabOK Try.prog (E_Z48_T N n) := TabOK.cons (ih) (TabOK.nil)
     EntOK.vars hT Try.func35 (by kernel_rfl) (by kernel_rfl) (all_cons (Z48_ok N n hT) (all_nil)))
theorem E_Z48_ok (N : Nat) : EntOK Try.prog 35 (E_Z48 N) := (G_Z48_ok N N)
theorem E_Z44_Tok (N : Nat) : TabOK Try.prog (E_Z44_T N) := TabOK.cons (E_Z50_ok N) (TabOK.cons (E_Z43_ok N) (TabOK.cons (E_Z48_ok N) (TabOK.cons (E_Z45_ok N) (TabOK.nil))))
theorem Z44_ok (N : Nat) : VarOK Try.prog (E_Z44_T N) Try.f34 (codeOf Try.f34) (Z44_W (Z44 N)) :=
  VarOK.of (E_Z44_Tok N) (by kernel_rfl) pn (Z44_F (@Z44_l0 N)) N (fun _ => LStep.pick (all_cons ⟨.inl fun _ _ _ => rfl, fun n t u K => Z44_v0_0_round N _ _ _ _ _ _ n t u K⟩ (all_nil)) (LStep.none)) fun t u K => Z44_body N _ _ _ _ _ _ t u K
theorem E_Z44_ok (N : Nat) : EntOK Try.prog 34 (E_Z44 N) := EntOK.vars (E_Z44_Tok N) Try.func34 (by kernel_rfl) (by kernel_rfl) (all_cons (Z44_ok N) (all_nil))
theorem E_Z46_Tok (N : Nat) : TabOK Try.prog (E_Z46_T N) := TabOK.cons (E_Z47_ok N) (TabOK.cons (E_Z49_ok N) (TabOK.cons (E_Z50_ok N) (TabOK.cons (E_Z43_ok N) (TabOK.cons (E_Z48_ok N) (TabOK.cons (E_Z44_ok N) (TabOK.nil))))))
theorem Z46_ok (N : Nat) : VarOK Try.prog (E_Z46_T N) Try.f18 (codeOf Try.f18) (Z46_W (Z46 N)) :=
  VarOK.of (E_Z46_Tok N) (by kernel_rfl) ⟨[], [(2, true, .bool)], []⟩ (Z46_F (@Z46_l0 N)) N (fun _ => LStep.pick (all_cons ⟨.inl fun _ _ _ => rfl, fun n t u K => Z46_v0_0_round N _ _ _ _ _ _ _ _ n t u K⟩ (all_nil)) (LStep.none)) fun t u K => Z46_body N _ _ _ _ _ _ _ _ t u K
theorem E_Z46_ok (N : Nat) : EntOK Try.prog 18 (E_Z46 N) := EntOK.vars (E_Z46_Tok N) Try.func18 (by kernel_rfl) (by kernel_rfl) (all_cons (Z46_ok N) (all_nil))
theorem Z63_ok (N : Nat) (n : Nat) (hT : TabOK Try.prog (E_term_Arena_Two_T N n)) : VarOK Try.prog (E_term_Arena_Two_T N n) Try.f62 (codeOf Try.f62) (Z63_W (@G_term_Arena_Two_Rec.Z63 (G_term_Arena_Two_rec N (n + 1)))) :=
  VarOK.of hT (by kernel_rfl) ⟨[1], [], [1]⟩ (Z63_F) N (fun _ => LStep.none) fun t u K => Z63_body N _ _ _ _ _ _ _ _ _ _ _ t u K
theorem Z68_ok (N : Nat) (n : Nat) (hT : TabOK Try.prog (E_term_Arena_equal_T N n)) : VarOK Try.prog (E_term_Arena_equal_T N n) Try.f87 (codeOf Try.f87) (Z68_W (@G_term_Arena_Two_Rec.Z68 (G_term_Arena_Two_rec N (n + 1)))) :=
  VarOK.of hT (by kernel_rfl) ⟨[1], [], [1]⟩ (Z68_F) N (fun _ => LStep.none) fun t u K => Z68_body N _ _ _ _ _ _ _ t u K
theorem Z73_ok (N : Nat) (n : Nat) (hT : TabOK Try.prog (E_term_Arena_with_T N n)) : VarOK Try.prog (E_term_Arena_with_T N n) Try.f80 (codeOf Try.f80) (Z73_W (@G_term_Arena_Two_Rec.Z73 (G_term_Arena_Two_rec N (n + 1)))) :=
  VarOK.of hT (by kernel_rfl) ⟨[1], [], [1]⟩ (Z73_F) N (fun _ => LStep.none) fun t u K => Z73_body N _ _ _ _ _ _ t u K
theorem Z70_ok (N : Nat) (n : Nat) (hT : TabOK Try.prog (E_term_Arena_less_T N n)) : VarOK Try.prog (E_term_Arena_less_T N n) Try.f74 (codeOf Try.f74) (Z70_W (@G_term_Arena_Two_Rec.Z70 (G_term_Arena_Two_rec N (n + 1)))) :=
  VarOK.of hT (by kernel_rfl) ⟨[1], [], [1]⟩ (Z70_F) N (fun _ => LStep.none) fun t u K => Z70_body N _ _ _ _ _ t u K
theorem G_term_Arena_Two_ok (N : Nat) : ∀ n : Nat, EntOK Try.prog 62 (E_term_Arena_Two_n N n) ∧ EntOK Try.prog 87 (E_term_Arena_equal_n N n) ∧ EntOK Try.prog 80 (E_term_Arena_with_n N n) ∧ EntOK Try.prog 74 (E_term_Arena_less_n N n)
  | 0 => ⟨EntOK.void Try.func62 (by kernel_rfl) (by kernel_rfl) (all_cons (fun _ _ _ _ => rfl) (all_nil)),
    EntOK.void Try.func87 (by kernel_rfl) (by kernel_rfl) (all_cons (fun _ _ _ _ => rfl) (all_nil)),
    EntOK.void Try.func80 (by kernel_rfl) (by kernel_rfl) (all_cons (fun _ _ _ _ => rfl) (all_nil)),
    EntOK.void Try.func74 (by kernel_rfl) (by kernel_rfl) (all_cons (fun _ _ _ _ => rfl) (all_nil))⟩
  | n + 1 =>
    have ih := G_term_Arena_Two_ok N n
    ⟨(have hT : TabOK Try.prog (E_term_Arena_Two_T N n) := TabOK.cons (E_term_Arena_keep_ok N) (TabOK.cons (ih.2.2.2) (TabOK.cons (E_Z76_ok N) (TabOK.cons (E_term_Arena_Const_ok N) (TabOK.cons (E_Z86_ok N) (TabOK.cons (E_Z83_ok N) (TabOK.cons (E_term_Arena_Known_ok N) (TabOK.cons (E_term_Arena_Width_ok N) (TabOK.cons (E_term_Arena_there_ok N) (TabOK.cons (E_Z77_ok N) (TabOK.nil))))))))))
     EntOK.vars hT Try.func62 (by kernel_rfl) (by kernel_rfl) (all_cons (Z63_ok N n hT) (all_nil))),
    (have hT : TabOK Try.prog (E_term_Arena_equal_T N n) := TabOK.cons (ih.1) (TabOK.cons (E_term_Arena_Const_ok N) (TabOK.cons (E_Z84_ok N) (TabOK.cons (E_term_Arena_Width_ok N) (TabOK.cons (E_term_Arena_Not_ok N) (TabOK.cons (E_term_Arena_Node_ok N) (TabOK.nil))))))
     EntOK.vars hT Try.func87 (by kernel_rfl) (by kernel_rfl) (all_cons (Z68_ok N n hT) (all_nil))),
    (have hT : TabOK Try.prog (E_term_Arena_with_T N n) := TabOK.cons (ih.2.1) (TabOK.cons (E_Z84_ok N) (TabOK.cons (E_term_Arena_Const_ok N) (TabOK.cons (E_Z86_ok N) (TabOK.cons (E_term_Arena_Width_ok N) (TabOK.nil)))))
     EntOK.vars hT Try.func80 (by kernel_rfl) (by kernel_rfl) (all_cons (Z73_ok N n hT) (all_nil))),
    (have hT : TabOK Try.prog (E_term_Arena_less_T N n) := TabOK.cons (ih.2.2.1) (TabOK.cons (E_Z76_ok N) (TabOK.cons (E_term_Arena_Known_ok N) (TabOK.cons (E_term_Arena_alike_ok N) (TabOK.nil))))
     EntOK.vars hT Try.func74 (by kernel_rfl) (by kernel_rfl) (all_cons (Z70_ok N n hT) (all_nil)))⟩
theorem E_term_Arena_Two_ok (N : Nat) : EntOK Try.prog 62 (E_term_Arena_Two N) := (G_term_Arena_Two_ok N N).1
theorem E_term_Arena_equal_ok (N : Nat) : EntOK Try.prog 87 (E_term_Arena_equal N) := (G_term_Arena_Two_ok N N).2.1
theorem E_term_Arena_with_ok (N : Nat) : EntOK Try.prog 80 (E_term_Arena_with N) := (G_term_Arena_Two_ok N N).2.2.1
theorem E_term_Arena_less_ok (N : Nat) : EntOK Try.prog 74 (E_term_Arena_less N) := (G_term_Arena_Two_ok N N).2.2.2
theorem E_cast_maker_two_Tok (N : Nat) : TabOK Try.prog (E_cast_maker_two_T N) := TabOK.cons (E_cast_maker_keep_ok N) (TabOK.cons (E_term_Arena_Two_ok N) (TabOK.nil))
theorem Z15_ok (N : Nat) : VarOK Try.prog (E_cast_maker_two_T N) Try.f45 (codeOf Try.f45) (Z15_W (Z15 N)) :=
  VarOK.of (E_cast_maker_two_Tok N) (by kernel_rfl) ⟨[2], [], [2]⟩ (Z15_F) N (fun _ => LStep.none) fun t u K => Z15_body N _ _ _ t u K
theorem E_cast_maker_two_ok (N : Nat) : EntOK Try.prog 45 (E_cast_maker_two N) := EntOK.vars (E_cast_maker_two_Tok N) Try.func45 (by kernel_rfl) (by kernel_rfl) (all_cons (Z15_ok N) (all_nil))
theorem Z59_ok (N : Nat) (n : Nat) (hT : TabOK Try.prog (E_term_Arena_Ext_T N n)) : VarOK Try.prog (E_term_Arena_Ext_T N n) Try.f48 (codeOf Try.f48) (Z59_W (@G_term_Arena_Ext_Rec.Z59 (G_term_Arena_Ext_rec N (n + 1)))) :=
  VarOK.of hT (by kernel_rfl) ⟨[1], [], [1]⟩ (Z59_F) N (fun _ => LStep.none) fun t u K => Z59_body N _ _ _ _ _ _ t u K
theorem G_term_Arena_Ext_ok (N : Nat) : ∀ n : Nat, EntOK Try.prog 48 (E_term_Arena_Ext_n N n)
  | 0 => EntOK.void Try.func48 (by kernel_rfl) (by kernel_rfl) (all_cons (fun _ _ _ _ => rfl) (all_nil))
  | n + 1 =>
    have ih := G_term_Arena_Ext_ok N n
    (have hT : TabOK Try.prog (E_term_Arena_Ext_T N n) := TabOK.cons (E_term_Arena_keep_ok N) (TabOK.cons (ih) (TabOK.cons (E_term_Arena_Const_ok N) (TabOK.cons (E_Z85_ok N) (TabOK.cons (E_term_Arena_Node_ok N) (TabOK.nil)))))
     EntOK.vars hT Try.func48 (by kernel_rfl) (by kernel_rfl) (all_cons (Z59_ok N n hT) (all_nil)))
theorem E_term_Arena_Ext_ok (N : Nat) : EntOK Try.prog 48 (E_term_Arena_Ext N) := (G_term_Arena_Ext_ok N N)
theorem E_cast_Premise_Tok (N : Nat) : TabOK Try.prog (E_cast_Premise_T N) := TabOK.cons (E_cast_maker_keep_ok N) (TabOK.cons (E_term_Arena_Ext_ok N) (TabOK.cons (E_Z5_ok N) (TabOK.cons (E_cast_maker_two_ok N) (TabOK.cons (E_cast_maker_number_ok N) (TabOK.cons (E_cast_maker_variable_ok N) (TabOK.cons (E_Z9_ok N) (TabOK.cons (E_Z20_ok N) (TabOK.cons (E_Z28_ok N) (TabOK.nil)))))))))
theorem Z8_ok (N : Nat) : VarOK Try.prog (E_cast_Premise_T N) Try.f26 (codeOf Try.f26) (Z8_W (Z8 N)) :=
  VarOK.of (E_cast_Premise_Tok N) (by kernel_rfl) ⟨[1], [(0, false, (.int .i64))], [1]⟩ (Z8_F (@Z8_l0 N) (@Z8_l1 N) (@Z8_l2 N)) N (fun _ => LStep.pick (all_cons ⟨.inl fun _ _ _ => rfl, fun n t u K => Z8_v0_0_round N _ _ _ _ _ _ _ _ _ _ _ _ _ _ _ _ _ n t u K⟩ (all_nil)) (LStep.pick (all_cons ⟨.inl fun _ _ _ => rfl, fun n t u K => Z8_v1_0_round N _ _ _ _ _ _ _ _ _ _ _ _ _ _ _ _ _ n t u K⟩ (all_nil)) (LStep.pick (all_cons ⟨.inl fun _ _ _ => rfl, fun n t u K => Z8_v2_0_round N _ _ _ _ _ _ _ _ _ _ _ _ _ _ _ _ _ n t u K⟩ (all_nil)) (LStep.none)))) fun t u K => Z8_body N _ _ _ _ _ _ _ _ _ _ _ _ _ _ _ _ _ t u K
theorem E_cast_Premise_ok (N : Nat) : EntOK Try.prog 26 (E_cast_Premise N) := EntOK.vars (E_cast_Premise_Tok N) Try.func26 (by kernel_rfl) (by kernel_rfl) (all_cons (Z8_ok N) (all_nil))
theorem Z71_ok (N : Nat) (n : Nat) (hT : TabOK Try.prog (E_term_Arena_quick_T N n)) : VarOK Try.prog (E_term_Arena_quick_T N n) Try.f51 (codeOf Try.f51) (Z71_W (@G_term_Arena_quick_Rec.Z71 (G_term_Arena_quick_rec N (n + 1)))) :=
  VarOK.of hT (by kernel_rfl) ⟨[], [], [1, 4]⟩ (Z71_F) N (fun _ => LStep.none) fun t u K => Z71_body N _ _ _ _ t u K
theorem G_term_Arena_quick_ok (N : Nat) : ∀ n : Nat, EntOK Try.prog 51 (E_term_Arena_quick_n N n)
  | 0 => EntOK.void Try.func51 (by kernel_rfl) (by kernel_rfl) (all_cons (fun _ _ _ _ => rfl) (all_nil))
  | n + 1 =>
    have ih := G_term_Arena_quick_ok N n
    (have hT : TabOK Try.prog (E_term_Arena_quick_T N n) := TabOK.cons (E_term_Value_ok N) (TabOK.cons (E_term_Arena_Width_ok N) (TabOK.cons (ih) (TabOK.nil)))
     EntOK.vars hT Try.func51 (by kernel_rfl) (by kernel_rfl) (all_cons (Z71_ok N n hT) (all_nil)))
theorem E_term_Arena_quick_ok (N : Nat) : EntOK Try.prog 51 (E_term_Arena_quick N) := (G_term_Arena_quick_ok N N)
theorem E_term_Arena_Eval_Tok (N : Nat) : TabOK Try.prog (E_term_Arena_Eval_T N) := TabOK.cons (E_term_Value_ok N) (TabOK.cons (E_term_Arena_Width_ok N) (TabOK.cons (E_term_Arena_Under_ok N) (TabOK.cons (E_term_Arena_quick_ok N) (TabOK.cons (E_term_Arena_there_ok N) (TabOK.nil)))))
theorem Z58_ok (N : Nat) : VarOK Try.prog (E_term_Arena_Eval_T N) Try.f29 (codeOf Try.f29) (Z58_W (Z58 N)) :=
  VarOK.of (E_term_Arena_Eval_Tok N) (by kernel_rfl) ⟨[], [], [1, 4]⟩ (Z58_F (@Z58_l0 N)) N (fun _ => LStep.pick (all_cons ⟨.inl fun _ _ _ => rfl, fun n t u K => Z58_v0_0_round N _ _ _ _ _ _ _ n t u K⟩ (all_nil)) (LStep.none)) fun t u K => Z58_body N _ _ _ _ _ _ _ t u K
theorem E_term_Arena_Eval_ok (N : Nat) : EntOK Try.prog 29 (E_term_Arena_Eval N) := EntOK.vars (E_term_Arena_Eval_Tok N) Try.func29 (by kernel_rfl) (by kernel_rfl) (all_cons (Z58_ok N) (all_nil))
theorem E_Z34_Tok (N : Nat) : TabOK Try.prog (E_Z34_T N) := TabOK.cons (E_cast_Env_ok N) (TabOK.cons (E_term_Arena_Eval_ok N) (TabOK.cons (E_cast_Input_ok N) (TabOK.cons (E_cast_Premise_ok N) (TabOK.cons (E_Z74_ok N) (TabOK.cons (E_Z46_ok N) (TabOK.cons (E_Z33_ok N) (TabOK.cons (E_Z35_ok N) (TabOK.nil))))))))
theorem Z34_ok (N : Nat) : VarOK Try.prog (E_Z34_T N) Try.f9 (codeOf Try.f9) (Z34_W (Z34 N)) :=
  VarOK.of (E_Z34_Tok N) (by kernel_rfl) pn (Z34_F (@Z34_l0 N) (@Z34_l1 N)) N (fun _ => LStep.pick (all_cons ⟨.inl fun _ _ _ => rfl, fun n t u K => Z34_v0_0_round N _ _ _ _ _ _ _ _ _ _ _ _ _ _ n t u K⟩ (all_nil)) (LStep.pick (all_cons ⟨.inl fun _ _ _ => rfl, fun n t u K => Z34_v1_0_round N _ _ _ _ _ _ _ _ _ _ _ _ _ _ n t u K⟩ (all_nil)) (LStep.none))) fun t u K => Z34_body N _ _ _ _ _ _ _ _ _ _ _ _ _ _ t u K
theorem E_Z34_ok (N : Nat) : EntOK Try.prog 9 (E_Z34 N) := EntOK.vars (E_Z34_Tok N) Try.func9 (by kernel_rfl) (by kernel_rfl) (all_cons (Z34_ok N) (all_nil))
end Go.Proofs.Ytlfhmecdgfennaa
