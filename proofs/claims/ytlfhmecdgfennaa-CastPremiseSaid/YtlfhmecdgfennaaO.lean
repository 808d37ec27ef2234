/-
  Each entry is borne out (printed by a program of this work).
-/
import Derived.Test.YtlfhmecdgfennaaX
import Derived.Test.YtlfhmecdgfennaaQ0
import Derived.Test.YtlfhmecdgfennaaQ1
import Derived.Test.YtlfhmecdgfennaaQ2
import Derived.Test.YtlfhmecdgfennaaQ3
set_option linter.unusedVariables false
set_option maxRecDepth 100000
namespace Go.Proofs.Ytlfhmecdgfennaa
open Go.Gx
theorem E_stringslite_Index_Tok (N : Nat) : TabOK Try.prog (E_stringslite_Index_T N) := TabOK.cons E_stringslite_IndexByte_ok (TabOK.nil)
theorem stringslite_Index_ok (N : Nat) : VarOK Try.prog (E_stringslite_Index_T N) Try.f91 (codeOf Try.f91) (stringslite_Index_W (stringslite_Index N)) :=
  VarOK.of (E_stringslite_Index_Tok N) (by kernel_rfl) pn (stringslite_Index_F) N (fun _ => LStep.none) fun t u K => stringslite_Index_body N _ _ t u K
theorem E_stringslite_Index_ok (N : Nat) : EntOK Try.prog 91 (E_stringslite_Index N) := EntOK.vars (E_stringslite_Index_Tok N) Try.func91 (by kernel_rfl) (by kernel_rfl) (all_cons (stringslite_Index_ok N) (all_nil))
theorem E_stringslite_Cut_Tok (N : Nat) : TabOK Try.prog (E_stringslite_Cut_T N) := TabOK.cons (E_stringslite_Index_ok N) (TabOK.nil)
theorem stringslite_Cut_ok (N : Nat) : VarOK Try.prog (E_stringslite_Cut_T N) Try.f88 (codeOf Try.f88) (stringslite_Cut_W (stringslite_Cut N)) :=
  VarOK.of (E_stringslite_Cut_Tok N) (by kernel_rfl) pn (stringslite_Cut_F) N (fun _ => LStep.none) fun t u K => stringslite_Cut_body N _ _ t u K
theorem E_stringslite_Cut_ok (N : Nat) : EntOK Try.prog 88 (E_stringslite_Cut N) := EntOK.vars (E_stringslite_Cut_Tok N) Try.func88 (by kernel_rfl) (by kernel_rfl) (all_cons (stringslite_Cut_ok N) (all_nil))
theorem E_strings_Cut_Tok (N : Nat) : TabOK Try.prog (E_strings_Cut_T N) := TabOK.cons (E_stringslite_Cut_ok N) (TabOK.nil)
theorem strings_Cut_ok (N : Nat) : VarOK Try.prog (E_strings_Cut_T N) Try.f84 (codeOf Try.f84) (strings_Cut_W (strings_Cut N)) :=
  VarOK.of (E_strings_Cut_Tok N) (by kernel_rfl) pn (strings_Cut_F) N (fun _ => LStep.none) fun t u K => strings_Cut_body N _ _ t u K
theorem E_strings_Cut_ok (N : Nat) : EntOK Try.prog 84 (E_strings_Cut N) := EntOK.vars (E_strings_Cut_Tok N) Try.func84 (by kernel_rfl) (by kernel_rfl) (all_cons (strings_Cut_ok N) (all_nil))
theorem E_check_letter_Tok (N : Nat) : TabOK Try.prog (E_check_letter_T N) := TabOK.nil
theorem check_letter_ok (N : Nat) : VarOK Try.prog (E_check_letter_T N) Try.f89 (codeOf Try.f89) (check_letter_W (check_letter N)) :=
  VarOK.of (E_check_letter_Tok N) (by kernel_rfl) pn (check_letter_F) N (fun _ => LStep.none) fun t u K => check_letter_body N _ t u K
theorem E_check_letter_ok (N : Nat) : EntOK Try.prog 89 (E_check_letter N) := EntOK.vars (E_check_letter_Tok N) Try.func89 (by kernel_rfl) (by kernel_rfl) (all_cons (check_letter_ok N) (all_nil))
theorem E_check_part_Tok (N : Nat) : TabOK Try.prog (E_check_part_T N) := TabOK.cons (E_check_letter_ok N) (TabOK.nil)
theorem check_part_ok (N : Nat) : VarOK Try.prog (E_check_part_T N) Try.f85 (codeOf Try.f85) (check_part_W (check_part N)) :=
  VarOK.of (E_check_part_Tok N) (by kernel_rfl) pn (check_part_F (@check_part_l0 N)) N (fun _ => LStep.pick (all_cons ⟨.inl fun _ _ _ => rfl, fun n t u K => check_part_v0_0_round N _ _ _ n t u K⟩ (all_nil)) (LStep.none)) fun t u K => check_part_body N _ _ _ t u K
theorem E_check_part_ok (N : Nat) : EntOK Try.prog 85 (E_check_part N) := EntOK.vars (E_check_part_Tok N) Try.func85 (by kernel_rfl) (by kernel_rfl) (all_cons (check_part_ok N) (all_nil))
theorem E_check_Name_Tok (N : Nat) : TabOK Try.prog (E_check_Name_T N) := TabOK.cons (E_check_part_ok N) (TabOK.cons (E_strings_Cut_ok N) (TabOK.nil))
theorem check_Name_ok (N : Nat) : VarOK Try.prog (E_check_Name_T N) Try.f76 (codeOf Try.f76) (check_Name_W (check_Name N)) :=
  VarOK.of (E_check_Name_Tok N) (by kernel_rfl) pn (check_Name_F) N (fun _ => LStep.none) fun t u K => check_Name_body N _ _ _ t u K
theorem E_check_Name_ok (N : Nat) : EntOK Try.prog 76 (E_check_Name N) := EntOK.vars (E_check_Name_Tok N) Try.func76 (by kernel_rfl) (by kernel_rfl) (all_cons (check_Name_ok N) (all_nil))
theorem E_names_May_Tok (N : Nat) : TabOK Try.prog (E_names_May_T N) := TabOK.cons (E_check_Name_ok N) (TabOK.nil)
theorem names_May_ok (N : Nat) : VarOK Try.prog (E_names_May_T N) Try.f68 (codeOf Try.f68) (names_May_W (names_May N)) :=
  VarOK.of (E_names_May_Tok N) (by kernel_rfl) pn (names_May_F) N (fun _ => LStep.none) fun t u K => names_May_body N _ _ t u K
theorem E_names_May_ok (N : Nat) : EntOK Try.prog 68 (E_names_May N) := EntOK.vars (E_names_May_Tok N) Try.func68 (by kernel_rfl) (by kernel_rfl) (all_cons (names_May_ok N) (all_nil))
theorem E_names_Split_Tok (N : Nat) : TabOK Try.prog (E_names_Split_T N) := TabOK.cons (E_strings_Cut_ok N) (TabOK.cons (E_names_May_ok N) (TabOK.nil))
theorem names_Split_ok (N : Nat) : VarOK Try.prog (E_names_Split_T N) Try.f86 (codeOf Try.f86) (names_Split_W (names_Split N)) :=
  VarOK.of (E_names_Split_Tok N) (by kernel_rfl) pn (names_Split_F) N (fun _ => LStep.none) fun t u K => names_Split_body N _ _ _ t u K
theorem E_names_Split_ok (N : Nat) : EntOK Try.prog 86 (E_names_Split N) := EntOK.vars (E_names_Split_Tok N) Try.func86 (by kernel_rfl) (by kernel_rfl) (all_cons (names_Split_ok N) (all_nil))
theorem E_tree_of_Tok (N : Nat) : TabOK Try.prog (E_tree_of_T N) := TabOK.cons (E_names_Split_ok N) (TabOK.nil)
theorem tree_of_ok (N : Nat) : VarOK Try.prog (E_tree_of_T N) Try.f77 (codeOf Try.f77) (tree_of_W (tree_of N)) :=
  VarOK.of (E_tree_of_Tok N) (by kernel_rfl) pn (tree_of_F) N (fun _ => LStep.none) fun t u K => tree_of_body N _ _ t u K
theorem E_tree_of_ok (N : Nat) : EntOK Try.prog 77 (E_tree_of N) := EntOK.vars (E_tree_of_Tok N) Try.func77 (by kernel_rfl) (by kernel_rfl) (all_cons (tree_of_ok N) (all_nil))
theorem E_tree_Tree_above_Tok (N : Nat) : TabOK Try.prog (E_tree_Tree_above_T N) := TabOK.nil
theorem tree_Tree_above_2de7_ok (N : Nat) : VarOK Try.prog (E_tree_Tree_above_T N) Try.f78 (codeOf Try.f78) (tree_Tree_above_2de7_W (tree_Tree_above_2de7 N)) :=
  VarOK.of (E_tree_Tree_above_Tok N) (by kernel_rfl) pn (tree_Tree_above_2de7_F) N (fun _ => LStep.none) fun t u K => tree_Tree_above_2de7_body N _ t u K
theorem E_tree_Tree_above_ok (N : Nat) : EntOK Try.prog 78 (E_tree_Tree_above N) := EntOK.vars (E_tree_Tree_above_Tok N) Try.func78 (by kernel_rfl) (by kernel_rfl) (all_cons (tree_Tree_above_2de7_ok N) (all_nil))
theorem E_tree_Tree_Make_Tok (N : Nat) : TabOK Try.prog (E_tree_Tree_Make_T N) := TabOK.cons (E_tree_Tree_above_ok N) (TabOK.cons (E_tree_of_ok N) (TabOK.nil))
theorem tree_Tree_Make_c502_ok (N : Nat) : VarOK Try.prog (E_tree_Tree_Make_T N) Try.f69 (codeOf Try.f69) (tree_Tree_Make_c502_W (tree_Tree_Make_c502 N)) :=
  VarOK.of (E_tree_Tree_Make_Tok N) (by kernel_rfl) pn (tree_Tree_Make_c502_F) N (fun _ => LStep.none) fun t u K => tree_Tree_Make_c502_body N _ _ _ t u K
theorem E_tree_Tree_Make_ok (N : Nat) : EntOK Try.prog 69 (E_tree_Tree_Make N) := EntOK.vars (E_tree_Tree_Make_Tok N) Try.func69 (by kernel_rfl) (by kernel_rfl) (all_cons (tree_Tree_Make_c502_ok N) (all_nil))
theorem E_tree_New_Tok (N : Nat) : TabOK Try.prog (E_tree_New_T N) := TabOK.cons (E_tree_Tree_Make_ok N) (TabOK.cons (E_names_May_ok N) (TabOK.nil))
theorem tree_New_644a_ok (N : Nat) : VarOK Try.prog (E_tree_New_T N) Try.f57 (codeOf Try.f57) (tree_New_644a_W (tree_New_644a N)) :=
  VarOK.of (E_tree_New_Tok N) (by kernel_rfl) ⟨[], [], [0]⟩ (tree_New_644a_F (@tree_New_644a_l0 N)) N (fun _ => LStep.pick (all_cons ⟨.inl fun _ _ _ => rfl, fun n t u K => tree_New_644a_v0_0_round N _ _ _ _ n t u K⟩ (all_nil)) (LStep.none)) fun t u K => tree_New_644a_body N _ _ _ _ t u K
theorem tree_New_ok (N : Nat) : VarOK Try.prog (E_tree_New_T N) Try.f57 (codeOf Try.f57) (tree_New_W (tree_New N)) :=
  VarOK.of (E_tree_New_Tok N) (by kernel_rfl) pn (tree_New_F (@tree_New_l0 N)) N (fun _ => LStep.pick (all_cons ⟨.inl fun _ _ _ => rfl, fun n t u K => tree_New_v0_0_round N _ _ _ _ n t u K⟩ (all_nil)) (LStep.none)) fun t u K => tree_New_body N _ _ _ _ t u K
theorem E_tree_New_ok (N : Nat) : EntOK Try.prog 57 (E_tree_New N) := EntOK.vars (E_tree_New_Tok N) Try.func57 (by kernel_rfl) (by kernel_rfl) (all_cons (tree_New_644a_ok N) (all_cons (tree_New_ok N) (all_nil)))
theorem E_class_Files_Tok (N : Nat) : TabOK Try.prog (E_class_Files_T N) := TabOK.nil
theorem class_Files_66e6_ok (N : Nat) : VarOK Try.prog (E_class_Files_T N) Try.f40 (codeOf Try.f40) (class_Files_66e6_W (class_Files_66e6 N)) :=
  VarOK.of (E_class_Files_Tok N) (by kernel_rfl) ⟨[], [], [0, 1]⟩ (class_Files_66e6_F (@class_Files_66e6_l0 N)) N (fun _ => LStep.pick (all_cons ⟨.inl fun _ _ _ => rfl, fun n t u K => class_Files_66e6_v0_0_round N _ _ n t u K⟩ (all_nil)) (LStep.none)) fun t u K => class_Files_66e6_body N _ _ t u K
theorem class_Files_ok (N : Nat) : VarOK Try.prog (E_class_Files_T N) Try.f40 (codeOf Try.f40) (class_Files_W (class_Files N)) :=
  VarOK.of (E_class_Files_Tok N) (by kernel_rfl) pn (class_Files_F (@class_Files_l0 N)) N (fun _ => LStep.pick (all_cons ⟨.inl fun _ _ _ => rfl, fun n t u K => class_Files_v0_0_round N _ _ n t u K⟩ (all_nil)) (LStep.none)) fun t u K => class_Files_body N _ _ t u K
theorem E_class_Files_ok (N : Nat) : EntOK Try.prog 40 (E_class_Files N) := EntOK.vars (E_class_Files_Tok N) Try.func40 (by kernel_rfl) (by kernel_rfl) (all_cons (class_Files_66e6_ok N) (all_cons (class_Files_ok N) (all_nil)))
theorem E_class_fits_Tok (N : Nat) : TabOK Try.prog (E_class_fits_T N) := TabOK.nil
theorem class_fits_ok (N : Nat) : VarOK Try.prog (E_class_fits_T N) Try.f58 (codeOf Try.f58) (class_fits_W (class_fits N)) :=
  VarOK.of (E_class_fits_Tok N) (by kernel_rfl) pn (class_fits_F) N (fun _ => LStep.none) fun t u K => class_fits_body N _ t u K
theorem E_class_fits_ok (N : Nat) : EntOK Try.prog 58 (E_class_fits N) := EntOK.vars (E_class_fits_Tok N) Try.func58 (by kernel_rfl) (by kernel_rfl) (all_cons (class_fits_ok N) (all_nil))
theorem E_class_May_Tok (N : Nat) : TabOK Try.prog (E_class_May_T N) := TabOK.cons (E_class_fits_ok N) (TabOK.cons (E_class_Files_ok N) (TabOK.cons (E_tree_New_ok N) (TabOK.nil)))
theorem class_May_66e6_ok (N : Nat) : VarOK Try.prog (E_class_May_T N) Try.f33 (codeOf Try.f33) (class_May_66e6_W (class_May_66e6 N)) :=
  VarOK.of (E_class_May_Tok N) (by kernel_rfl) ⟨[], [], [0, 1]⟩ (class_May_66e6_F (@class_May_66e6_l0 N) (@class_May_66e6_l1 N)) N (fun _ => LStep.pick (all_cons ⟨.inl fun _ _ _ => rfl, fun n t u K => class_May_66e6_v0_0_round N _ _ _ _ _ _ _ _ n t u K⟩ (all_nil)) (LStep.pick (all_cons ⟨.inl fun _ _ _ => rfl, fun n t u K => class_May_66e6_v1_0_round N _ _ _ _ _ _ _ _ n t u K⟩ (all_nil)) (LStep.none))) fun t u K => class_May_66e6_body N _ _ _ _ _ _ _ _ t u K
theorem class_May_ok (N : Nat) : VarOK Try.prog (E_class_May_T N) Try.f33 (codeOf Try.f33) (class_May_W (class_May N)) :=
  VarOK.of (E_class_May_Tok N) (by kernel_rfl) pn (class_May_F (@class_May_l0 N) (@class_May_l1 N)) N (fun _ => LStep.pick (all_cons ⟨.inl fun _ _ _ => rfl, fun n t u K => class_May_v0_0_round N _ _ _ _ _ _ _ _ n t u K⟩ (all_nil)) (LStep.pick (all_cons ⟨.inl fun _ _ _ => rfl, fun n t u K => class_May_v1_0_round N _ _ _ _ _ _ _ _ n t u K⟩ (all_nil)) (LStep.none))) fun t u K => class_May_body N _ _ _ _ _ _ _ _ t u K
theorem E_class_May_ok (N : Nat) : EntOK Try.prog 33 (E_class_May N) := EntOK.vars (E_class_May_Tok N) Try.func33 (by kernel_rfl) (by kernel_rfl) (all_cons (class_May_66e6_ok N) (all_cons (class_May_ok N) (all_nil)))
theorem E_fails_May_Tok (N : Nat) : TabOK Try.prog (E_fails_May_T N) := TabOK.nil
theorem fails_May_e7e3_ok (N : Nat) : VarOK Try.prog (E_fails_May_T N) Try.f59 (codeOf Try.f59) (fails_May_e7e3_W (fails_May_e7e3 N)) :=
  VarOK.of (E_fails_May_Tok N) (by kernel_rfl) ⟨[], [], [0]⟩ (fails_May_e7e3_F (@fails_May_e7e3_l0 N)) N (fun _ => LStep.pick (all_cons ⟨.inl fun _ _ _ => rfl, fun n t u K => fails_May_e7e3_v0_0_round N _ _ n t u K⟩ (all_nil)) (LStep.none)) fun t u K => fails_May_e7e3_body N _ _ t u K
theorem E_fails_May_ok (N : Nat) : EntOK Try.prog 59 (E_fails_May N) := EntOK.vars (E_fails_May_Tok N) Try.func59 (by kernel_rfl) (by kernel_rfl) (all_cons (fails_May_e7e3_ok N) (all_nil))
theorem E_class_Caps_Tok (N : Nat) : TabOK Try.prog (E_class_Caps_T N) := TabOK.cons (E_class_Files_ok N) (TabOK.nil)
theorem class_Caps_66e6_ok (N : Nat) : VarOK Try.prog (E_class_Caps_T N) Try.f32 (codeOf Try.f32) (class_Caps_66e6_W (class_Caps_66e6 N)) :=
  VarOK.of (E_class_Caps_Tok N) (by kernel_rfl) ⟨[], [], [0, 1]⟩ (class_Caps_66e6_F (@class_Caps_66e6_l0 N)) N (fun _ => LStep.pick (all_cons ⟨.inl fun _ _ _ => rfl, fun n t u K => class_Caps_66e6_v0_0_round N _ _ _ _ n t u K⟩ (all_nil)) (LStep.none)) fun t u K => class_Caps_66e6_body N _ _ _ _ t u K
theorem class_Caps_ok (N : Nat) : VarOK Try.prog (E_class_Caps_T N) Try.f32 (codeOf Try.f32) (class_Caps_W (class_Caps N)) :=
  VarOK.of (E_class_Caps_Tok N) (by kernel_rfl) pn (class_Caps_F (@class_Caps_l0 N)) N (fun _ => LStep.pick (all_cons ⟨.inl fun _ _ _ => rfl, fun n t u K => class_Caps_v0_0_round N _ _ _ _ n t u K⟩ (all_nil)) (LStep.none)) fun t u K => class_Caps_body N _ _ _ _ t u K
theorem E_class_Caps_ok (N : Nat) : EntOK Try.prog 32 (E_class_Caps N) := EntOK.vars (E_class_Caps_Tok N) Try.func32 (by kernel_rfl) (by kernel_rfl) (all_cons (class_Caps_66e6_ok N) (all_cons (class_Caps_ok N) (all_nil)))
theorem E_class_Has_Tok (N : Nat) : TabOK Try.prog (E_class_Has_T N) := TabOK.cons (E_class_Caps_ok N) (TabOK.cons (E_fails_May_ok N) (TabOK.cons (E_class_May_ok N) (TabOK.cons (E_class_Files_ok N) (TabOK.nil))))
theorem class_Has_1e53_ok (N : Nat) : VarOK Try.prog (E_class_Has_T N) Try.f38 (codeOf Try.f38) (class_Has_1e53_W (class_Has_1e53 N)) :=
  VarOK.of (E_class_Has_Tok N) (by kernel_rfl) ⟨[], [], [0, 1, 2, 3, 4]⟩ (class_Has_1e53_F (@class_Has_1e53_l0 N)) N (fun _ => LStep.pick (all_cons ⟨.inl fun _ _ _ => rfl, fun n t u K => class_Has_1e53_v0_0_round N _ _ _ _ _ _ _ _ _ n t u K⟩ (all_nil)) (LStep.none)) fun t u K => class_Has_1e53_body N _ _ _ _ _ _ _ _ _ t u K
theorem E_class_Has_ok (N : Nat) : EntOK Try.prog 38 (E_class_Has N) := EntOK.vars (E_class_Has_Tok N) Try.func38 (by kernel_rfl) (by kernel_rfl) (all_cons (class_Has_1e53_ok N) (all_nil))
theorem E_slices_Grow___byte__byte_Tok (N : Nat) : TabOK Try.prog (E_slices_Grow___byte__byte_T N) := TabOK.nil
theorem slices_Grow___byte__byte_06c2_ok (N : Nat) : VarOK Try.prog (E_slices_Grow___byte__byte_T N) Try.f60 (codeOf Try.f60) (slices_Grow___byte__byte_06c2_W (slices_Grow___byte__byte_06c2 N)) :=
  VarOK.of (E_slices_Grow___byte__byte_Tok N) (by kernel_rfl) ⟨[], [(0, false, (.isl (.int .u8)))], []⟩ (slices_Grow___byte__byte_06c2_F) N (fun _ => LStep.none) fun t u K => slices_Grow___byte__byte_06c2_body N _ t u K
theorem E_slices_Grow___byte__byte_ok (N : Nat) : EntOK Try.prog 60 (E_slices_Grow___byte__byte N) := EntOK.vars (E_slices_Grow___byte__byte_Tok N) Try.func60 (by kernel_rfl) (by kernel_rfl) (all_cons (slices_Grow___byte__byte_06c2_ok N) (all_nil))
theorem E_slices_Concat___byte__byte_Tok (N : Nat) : TabOK Try.prog (E_slices_Concat___byte__byte_T N) := TabOK.cons (E_slices_Grow___byte__byte_ok N) (TabOK.nil)
theorem slices_Concat___byte__byte_1789_ok (N : Nat) : VarOK Try.prog (E_slices_Concat___byte__byte_T N) Try.f39 (codeOf Try.f39) (slices_Concat___byte__byte_1789_W (slices_Concat___byte__byte_1789 N)) :=
  VarOK.of (E_slices_Concat___byte__byte_Tok N) (by kernel_rfl) ⟨[], [], [0]⟩ (slices_Concat___byte__byte_1789_F (@slices_Concat___byte__byte_1789_l0 N) (@slices_Concat___byte__byte_1789_l1 N)) N (fun _ => LStep.pick (all_cons ⟨.inl fun _ _ _ => rfl, fun n t u K => slices_Concat___byte__byte_1789_v0_0_round N _ _ _ _ n t u K⟩ (all_nil)) (LStep.pick (all_cons ⟨.inl fun _ _ _ => rfl, fun n t u K => slices_Concat___byte__byte_1789_v1_0_round N _ _ _ _ n t u K⟩ (all_nil)) (LStep.none))) fun t u K => slices_Concat___byte__byte_1789_body N _ _ _ _ t u K
theorem E_slices_Concat___byte__byte_ok (N : Nat) : EntOK Try.prog 39 (E_slices_Concat___byte__byte N) := EntOK.vars (E_slices_Concat___byte__byte_Tok N) Try.func39 (by kernel_rfl) (by kernel_rfl) (all_cons (slices_Concat___byte__byte_1789_ok N) (all_nil))
theorem E_cast_Env_Tok (N : Nat) : TabOK Try.prog (E_cast_Env_T N) := TabOK.cons (E_class_Caps_ok N) (TabOK.cons (E_slices_Concat___byte__byte_ok N) (TabOK.cons (E_class_Has_ok N) (TabOK.cons (E_class_May_ok N) (TabOK.nil))))
theorem cast_Env_727c_ok (N : Nat) : VarOK Try.prog (E_cast_Env_T N) Try.f19 (codeOf Try.f19) (cast_Env_727c_W (cast_Env_727c N)) :=
  VarOK.of (E_cast_Env_Tok N) (by kernel_rfl) ⟨[], [(0, false, (.int .u16))], [0, 1, 2, 3]⟩ (cast_Env_727c_F (@cast_Env_727c_l0 N) (@cast_Env_727c_l1 N) (@cast_Env_727c_l2 N)) N (fun _ => LStep.pick (all_cons ⟨.inl fun _ _ _ => rfl, fun n t u K => cast_Env_727c_v0_0_round N _ _ _ _ _ _ _ _ _ _ n t u K⟩ (all_nil)) (LStep.pick (all_cons ⟨.inl fun _ _ _ => rfl, fun n t u K => cast_Env_727c_v1_0_round N _ _ _ _ _ _ _ _ _ _ n t u K⟩ (all_nil)) (LStep.pick (all_cons ⟨.inl fun _ _ _ => rfl, fun n t u K => cast_Env_727c_v2_0_round N _ _ _ _ _ _ _ _ _ _ n t u K⟩ (all_nil)) (LStep.none)))) fun t u K => cast_Env_727c_body N _ _ _ _ _ _ _ _ _ _ t u K
theorem E_cast_Env_ok (N : Nat) : EntOK Try.prog 19 (E_cast_Env N) := EntOK.vars (E_cast_Env_Tok N) Try.func19 (by kernel_rfl) (by kernel_rfl) (all_cons (cast_Env_727c_ok N) (all_nil))
theorem E_cast_Size_Tok (N : Nat) : TabOK Try.prog (E_cast_Size_T N) := TabOK.cons (E_class_May_ok N) (TabOK.cons (E_class_Caps_ok N) (TabOK.nil))
theorem cast_Size_9e58_ok (N : Nat) : VarOK Try.prog (E_cast_Size_T N) Try.f14 (codeOf Try.f14) (cast_Size_9e58_W (cast_Size_9e58 N)) :=
  VarOK.of (E_cast_Size_Tok N) (by kernel_rfl) ⟨[], [], [0, 1]⟩ (cast_Size_9e58_F (@cast_Size_9e58_l0 N)) N (fun _ => LStep.pick (all_cons ⟨.inl fun _ _ _ => rfl, fun n t u K => cast_Size_9e58_v0_0_round N _ _ _ _ _ _ n t u K⟩ (all_nil)) (LStep.none)) fun t u K => cast_Size_9e58_body N _ _ _ _ _ _ t u K
theorem cast_Size_ok (N : Nat) : VarOK Try.prog (E_cast_Size_T N) Try.f14 (codeOf Try.f14) (cast_Size_W (cast_Size N)) :=
  VarOK.of (E_cast_Size_Tok N) (by kernel_rfl) pn (cast_Size_F (@cast_Size_l0 N)) N (fun _ => LStep.pick (all_cons ⟨.inl fun _ _ _ => rfl, fun n t u K => cast_Size_v0_0_round N _ _ _ _ _ _ n t u K⟩ (all_nil)) (LStep.none)) fun t u K => cast_Size_body N _ _ _ _ _ _ t u K
theorem E_cast_Size_ok (N : Nat) : EntOK Try.prog 14 (E_cast_Size N) := EntOK.vars (E_cast_Size_Tok N) Try.func14 (by kernel_rfl) (by kernel_rfl) (all_cons (cast_Size_9e58_ok N) (all_cons (cast_Size_ok N) (all_nil)))
theorem E_cast_Byte_Tok (N : Nat) : TabOK Try.prog (E_cast_Byte_T N) := TabOK.cons (E_class_Caps_ok N) (TabOK.cons (E_cast_Size_ok N) (TabOK.nil))
theorem cast_Byte_dbd4_ok (N : Nat) : VarOK Try.prog (E_cast_Byte_T N) Try.f15 (codeOf Try.f15) (cast_Byte_dbd4_W (cast_Byte_dbd4 N)) :=
  VarOK.of (E_cast_Byte_Tok N) (by kernel_rfl) ⟨[], [], [0, 1]⟩ (cast_Byte_dbd4_F) N (fun _ => LStep.none) fun t u K => cast_Byte_dbd4_body N _ _ _ _ _ t u K
theorem E_cast_Byte_ok (N : Nat) : EntOK Try.prog 15 (E_cast_Byte N) := EntOK.vars (E_cast_Byte_Tok N) Try.func15 (by kernel_rfl) (by kernel_rfl) (all_cons (cast_Byte_dbd4_ok N) (all_nil))
theorem E_cast_Vars_Tok (N : Nat) : TabOK Try.prog (E_cast_Vars_T N) := TabOK.cons (E_class_Caps_ok N) (TabOK.cons (E_class_May_ok N) (TabOK.nil))
theorem cast_Vars_66e6_ok (N : Nat) : VarOK Try.prog (E_cast_Vars_T N) Try.f17 (codeOf Try.f17) (cast_Vars_66e6_W (cast_Vars_66e6 N)) :=
  VarOK.of (E_cast_Vars_Tok N) (by kernel_rfl) ⟨[], [], [0, 1]⟩ (cast_Vars_66e6_F (@cast_Vars_66e6_l0 N)) N (fun _ => LStep.pick (all_cons ⟨.inl fun _ _ _ => rfl, fun n t u K => cast_Vars_66e6_v0_0_round N _ _ _ _ _ _ n t u K⟩ (all_nil)) (LStep.none)) fun t u K => cast_Vars_66e6_body N _ _ _ _ _ _ t u K
theorem cast_Vars_ok (N : Nat) : VarOK Try.prog (E_cast_Vars_T N) Try.f17 (codeOf Try.f17) (cast_Vars_W (cast_Vars N)) :=
  VarOK.of (E_cast_Vars_Tok N) (by kernel_rfl) pn (cast_Vars_F (@cast_Vars_l0 N)) N (fun _ => LStep.pick (all_cons ⟨.inl fun _ _ _ => rfl, fun n t u K => cast_Vars_v0_0_round N _ _ _ _ _ _ n t u K⟩ (all_nil)) (LStep.none)) fun t u K => cast_Vars_body N _ _ _ _ _ _ t u K
theorem E_cast_Vars_ok (N : Nat) : EntOK Try.prog 17 (E_cast_Vars N) := EntOK.vars (E_cast_Vars_Tok N) Try.func17 (by kernel_rfl) (by kernel_rfl) (all_cons (cast_Vars_66e6_ok N) (all_cons (cast_Vars_ok N) (all_nil)))
theorem E_cast_Fail_Tok (N : Nat) : TabOK Try.prog (E_cast_Fail_T N) := TabOK.cons (E_cast_Vars_ok N) (TabOK.cons (E_class_May_ok N) (TabOK.nil))
theorem cast_Fail_9e58_ok (N : Nat) : VarOK Try.prog (E_cast_Fail_T N) Try.f16 (codeOf Try.f16) (cast_Fail_9e58_W (cast_Fail_9e58 N)) :=
  VarOK.of (E_cast_Fail_Tok N) (by kernel_rfl) ⟨[], [], [0, 1]⟩ (cast_Fail_9e58_F) N (fun _ => LStep.none) fun t u K => cast_Fail_9e58_body N _ _ _ _ _ t u K
theorem cast_Fail_ok (N : Nat) : VarOK Try.prog (E_cast_Fail_T N) Try.f16 (codeOf Try.f16) (cast_Fail_W (cast_Fail N)) :=
  VarOK.of (E_cast_Fail_Tok N) (by kernel_rfl) pn (cast_Fail_F) N (fun _ => LStep.none) fun t u K => cast_Fail_body N _ _ _ _ _ t u K
theorem E_cast_Fail_ok (N : Nat) : EntOK Try.prog 16 (E_cast_Fail N) := EntOK.vars (E_cast_Fail_Tok N) Try.func16 (by kernel_rfl) (by kernel_rfl) (all_cons (cast_Fail_9e58_ok N) (all_cons (cast_Fail_ok N) (all_nil)))
theorem E_law18_same_Tok (N : Nat) : TabOK Try.prog (E_law18_same_T N) := TabOK.nil
theorem law18_same_894e_ok (N : Nat) : VarOK Try.prog (E_law18_same_T N) Try.f20 (codeOf Try.f20) (law18_same_894e_W (law18_same_894e N)) :=
  VarOK.of (E_law18_same_Tok N) (by kernel_rfl) ⟨[], [], [0, 1]⟩ (law18_same_894e_F (@law18_same_894e_l0 N)) N (fun _ => LStep.pick (all_cons ⟨.inl fun _ _ _ => rfl, fun n t u K => law18_same_894e_v0_0_round N _ _ n t u K⟩ (all_nil)) (LStep.none)) fun t u K => law18_same_894e_body N _ _ t u K
theorem E_law18_same_ok (N : Nat) : EntOK Try.prog 20 (E_law18_same N) := EntOK.vars (E_law18_same_Tok N) Try.func20 (by kernel_rfl) (by kernel_rfl) (all_cons (law18_same_894e_ok N) (all_nil))
theorem E_law18_awake_Tok (N : Nat) : TabOK Try.prog (E_law18_awake_T N) := TabOK.cons (E_cast_Size_ok N) (TabOK.cons (E_cast_Vars_ok N) (TabOK.cons (E_law18_same_ok N) (TabOK.cons (E_cast_Fail_ok N) (TabOK.cons (E_cast_Byte_ok N) (TabOK.cons (E_cast_Env_ok N) (TabOK.nil))))))
theorem law18_awake_ok (N : Nat) : VarOK Try.prog (E_law18_awake_T N) Try.f10 (codeOf Try.f10) (law18_awake_W (law18_awake N)) :=
  VarOK.of (E_law18_awake_Tok N) (by kernel_rfl) pn (law18_awake_F) N (fun _ => LStep.none) fun t u K => law18_awake_body N _ _ _ _ _ _ _ _ _ _ t u K
theorem E_law18_awake_ok (N : Nat) : EntOK Try.prog 10 (E_law18_awake N) := EntOK.vars (E_law18_awake_Tok N) Try.func10 (by kernel_rfl) (by kernel_rfl) (all_cons (law18_awake_ok N) (all_nil))
theorem E_law17_Small_Tok (N : Nat) : TabOK Try.prog (E_law17_Small_T N) := TabOK.nil
theorem law17_Small_ok (N : Nat) : VarOK Try.prog (E_law17_Small_T N) Try.f11 (codeOf Try.f11) (law17_Small_W (law17_Small N)) :=
  VarOK.of (E_law17_Small_Tok N) (by kernel_rfl) pn (law17_Small_F (@law17_Small_l0 N)) N (fun _ => LStep.pick (all_cons ⟨.inl fun _ _ _ => rfl, fun n t u K => law17_Small_v0_0_round N _ _ n t u K⟩ (all_nil)) (LStep.none)) fun t u K => law17_Small_body N _ _ t u K
theorem E_law17_Small_ok (N : Nat) : EntOK Try.prog 11 (E_law17_Small N) := EntOK.vars (E_law17_Small_Tok N) Try.func11 (by kernel_rfl) (by kernel_rfl) (all_cons (law17_Small_ok N) (all_nil))
theorem E_term_New_Tok (N : Nat) : TabOK Try.prog (E_term_New_T N) := TabOK.nil
theorem term_New_ok (N : Nat) : VarOK Try.prog (E_term_New_T N) Try.f27 (codeOf Try.f27) (term_New_W (term_New N)) :=
  VarOK.of (E_term_New_Tok N) (by kernel_rfl) pn (term_New_F) N (fun _ => LStep.none) fun t u K => term_New_body N _ t u K
theorem E_term_New_ok (N : Nat) : EntOK Try.prog 27 (E_term_New N) := EntOK.vars (E_term_New_Tok N) Try.func27 (by kernel_rfl) (by kernel_rfl) (all_cons (term_New_ok N) (all_nil))
theorem E_wide_May_Tok (N : Nat) : TabOK Try.prog (E_wide_May_T N) := TabOK.nil
theorem wide_May_ok (N : Nat) : VarOK Try.prog (E_wide_May_T N) Try.f64 (codeOf Try.f64) (wide_May_W (wide_May N)) :=
  VarOK.of (E_wide_May_Tok N) (by kernel_rfl) pn (wide_May_F) N (fun _ => LStep.none) fun t u K => wide_May_body N _ t u K
theorem E_wide_May_ok (N : Nat) : EntOK Try.prog 64 (E_wide_May N) := EntOK.vars (E_wide_May_Tok N) Try.func64 (by kernel_rfl) (by kernel_rfl) (all_cons (wide_May_ok N) (all_nil))
theorem E_term_Arena_keep_Tok (N : Nat) : TabOK Try.prog (E_term_Arena_keep_T N) := TabOK.nil
theorem term_Arena_keep_a25e_ok (N : Nat) : VarOK Try.prog (E_term_Arena_keep_T N) Try.f65 (codeOf Try.f65) (term_Arena_keep_a25e_W (term_Arena_keep_a25e N)) :=
  VarOK.of (E_term_Arena_keep_Tok N) (by kernel_rfl) ⟨[1], [], [1]⟩ (term_Arena_keep_a25e_F) N (fun _ => LStep.none) fun t u K => term_Arena_keep_a25e_body N _ t u K
theorem E_term_Arena_keep_ok (N : Nat) : EntOK Try.prog 65 (E_term_Arena_keep N) := EntOK.vars (E_term_Arena_keep_Tok N) Try.func65 (by kernel_rfl) (by kernel_rfl) (all_cons (term_Arena_keep_a25e_ok N) (all_nil))
theorem E_term_Arena_Var_Tok (N : Nat) : TabOK Try.prog (E_term_Arena_Var_T N) := TabOK.cons (E_term_Arena_keep_ok N) (TabOK.cons (E_wide_May_ok N) (TabOK.nil))
theorem term_Arena_Var_99d8_ok (N : Nat) : VarOK Try.prog (E_term_Arena_Var_T N) Try.f61 (codeOf Try.f61) (term_Arena_Var_99d8_W (term_Arena_Var_99d8 N)) :=
  VarOK.of (E_term_Arena_Var_Tok N) (by kernel_rfl) ⟨[1], [], [1]⟩ (term_Arena_Var_99d8_F) N (fun _ => LStep.none) fun t u K => term_Arena_Var_99d8_body N _ _ _ t u K
theorem E_term_Arena_Var_ok (N : Nat) : EntOK Try.prog 61 (E_term_Arena_Var N) := EntOK.vars (E_term_Arena_Var_Tok N) Try.func61 (by kernel_rfl) (by kernel_rfl) (all_cons (term_Arena_Var_99d8_ok N) (all_nil))
theorem E_cast_maker_keep_Tok (N : Nat) : TabOK Try.prog (E_cast_maker_keep_T N) := TabOK.nil
theorem cast_maker_keep_9e9f_ok (N : Nat) : VarOK Try.prog (E_cast_maker_keep_T N) Try.f47 (codeOf Try.f47) (cast_maker_keep_9e9f_W (cast_maker_keep_9e9f N)) :=
  VarOK.of (E_cast_maker_keep_Tok N) (by kernel_rfl) ⟨[], [], [2]⟩ (cast_maker_keep_9e9f_F) N (fun _ => LStep.none) fun t u K => cast_maker_keep_9e9f_body N _ t u K
theorem E_cast_maker_keep_ok (N : Nat) : EntOK Try.prog 47 (E_cast_maker_keep N) := EntOK.vars (E_cast_maker_keep_Tok N) Try.func47 (by kernel_rfl) (by kernel_rfl) (all_cons (cast_maker_keep_9e9f_ok N) (all_nil))
theorem E_cast_maker_variable_Tok (N : Nat) : TabOK Try.prog (E_cast_maker_variable_T N) := TabOK.cons (E_cast_maker_keep_ok N) (TabOK.cons (E_term_Arena_Var_ok N) (TabOK.nil))
theorem cast_maker_variable_9e9f_ok (N : Nat) : VarOK Try.prog (E_cast_maker_variable_T N) Try.f44 (codeOf Try.f44) (cast_maker_variable_9e9f_W (cast_maker_variable_9e9f N)) :=
  VarOK.of (E_cast_maker_variable_Tok N) (by kernel_rfl) ⟨[], [], [2]⟩ (cast_maker_variable_9e9f_F) N (fun _ => LStep.none) fun t u K => cast_maker_variable_9e9f_body N _ _ _ t u K
theorem E_cast_maker_variable_ok (N : Nat) : EntOK Try.prog 44 (E_cast_maker_variable N) := EntOK.vars (E_cast_maker_variable_Tok N) Try.func44 (by kernel_rfl) (by kernel_rfl) (all_cons (cast_maker_variable_9e9f_ok N) (all_nil))
theorem E_wide_Mask_Tok (N : Nat) : TabOK Try.prog (E_wide_Mask_T N) := TabOK.cons (E_wide_May_ok N) (TabOK.nil)
theorem wide_Mask_ok (N : Nat) : VarOK Try.prog (E_wide_Mask_T N) Try.f66 (codeOf Try.f66) (wide_Mask_W (wide_Mask N)) :=
  VarOK.of (E_wide_Mask_Tok N) (by kernel_rfl) pn (wide_Mask_F) N (fun _ => LStep.none) fun t u K => wide_Mask_body N _ _ t u K
theorem E_wide_Mask_ok (N : Nat) : EntOK Try.prog 66 (E_wide_Mask N) := EntOK.vars (E_wide_Mask_Tok N) Try.func66 (by kernel_rfl) (by kernel_rfl) (all_cons (wide_Mask_ok N) (all_nil))
theorem E_term_Arena_Const_Tok (N : Nat) : TabOK Try.prog (E_term_Arena_Const_T N) := TabOK.cons (E_term_Arena_keep_ok N) (TabOK.cons (E_wide_Mask_ok N) (TabOK.cons (E_wide_May_ok N) (TabOK.nil)))
theorem term_Arena_Const_2c81_ok (N : Nat) : VarOK Try.prog (E_term_Arena_Const_T N) Try.f63 (codeOf Try.f63) (term_Arena_Const_2c81_W (term_Arena_Const_2c81 N)) :=
  VarOK.of (E_term_Arena_Const_Tok N) (by kernel_rfl) ⟨[1], [], [1]⟩ (term_Arena_Const_2c81_F) N (fun _ => LStep.none) fun t u K => term_Arena_Const_2c81_body N _ _ _ _ t u K
theorem E_term_Arena_Const_ok (N : Nat) : EntOK Try.prog 63 (E_term_Arena_Const N) := EntOK.vars (E_term_Arena_Const_Tok N) Try.func63 (by kernel_rfl) (by kernel_rfl) (all_cons (term_Arena_Const_2c81_ok N) (all_nil))
theorem E_cast_maker_number_Tok (N : Nat) : TabOK Try.prog (E_cast_maker_number_T N) := TabOK.cons (E_cast_maker_keep_ok N) (TabOK.cons (E_term_Arena_Const_ok N) (TabOK.nil))
theorem cast_maker_number_2f2a_ok (N : Nat) : VarOK Try.prog (E_cast_maker_number_T N) Try.f46 (codeOf Try.f46) (cast_maker_number_2f2a_W (cast_maker_number_2f2a N)) :=
  VarOK.of (E_cast_maker_number_Tok N) (by kernel_rfl) ⟨[], [], [2]⟩ (cast_maker_number_2f2a_F) N (fun _ => LStep.none) fun t u K => cast_maker_number_2f2a_body N _ _ _ t u K
theorem E_cast_maker_number_ok (N : Nat) : EntOK Try.prog 46 (E_cast_maker_number N) := EntOK.vars (E_cast_maker_number_Tok N) Try.func46 (by kernel_rfl) (by kernel_rfl) (all_cons (cast_maker_number_2f2a_ok N) (all_nil))
theorem E_term_two_Tok (N : Nat) : TabOK Try.prog (E_term_two_T N) := TabOK.nil
theorem term_two_ok (N : Nat) : VarOK Try.prog (E_term_two_T N) Try.f70 (codeOf Try.f70) (term_two_W (term_two N)) :=
  VarOK.of (E_term_two_Tok N) (by kernel_rfl) pn (term_two_F) N (fun _ => LStep.none) fun t u K => term_two_body N _ t u K
theorem E_term_two_ok (N : Nat) : EntOK Try.prog 70 (E_term_two N) := EntOK.vars (E_term_two_Tok N) Try.func70 (by kernel_rfl) (by kernel_rfl) (all_cons (term_two_ok N) (all_nil))
theorem E_term_Arena_Node_Tok (N : Nat) : TabOK Try.prog (E_term_Arena_Node_T N) := TabOK.nil
theorem term_Arena_Node_43b4_ok (N : Nat) : VarOK Try.prog (E_term_Arena_Node_T N) Try.f49 (codeOf Try.f49) (term_Arena_Node_43b4_W (term_Arena_Node_43b4 N)) :=
  VarOK.of (E_term_Arena_Node_Tok N) (by kernel_rfl) ⟨[], [], [1]⟩ (term_Arena_Node_43b4_F) N (fun _ => LStep.none) fun t u K => term_Arena_Node_43b4_body N _ t u K
theorem E_term_Arena_Node_ok (N : Nat) : EntOK Try.prog 49 (E_term_Arena_Node N) := EntOK.vars (E_term_Arena_Node_Tok N) Try.func49 (by kernel_rfl) (by kernel_rfl) (all_cons (term_Arena_Node_43b4_ok N) (all_nil))
theorem E_term_Arena_there_Tok (N : Nat) : TabOK Try.prog (E_term_Arena_there_T N) := TabOK.cons (E_term_Arena_Node_ok N) (TabOK.nil)
theorem term_Arena_there_2549_ok (N : Nat) : VarOK Try.prog (E_term_Arena_there_T N) Try.f50 (codeOf Try.f50) (term_Arena_there_2549_W (term_Arena_there_2549 N)) :=
  VarOK.of (E_term_Arena_there_Tok N) (by kernel_rfl) ⟨[], [], [1, 4]⟩ (term_Arena_there_2549_F (@term_Arena_there_2549_l0 N)) N (fun _ => LStep.pick (all_cons ⟨.inl fun _ _ _ => rfl, fun n t u K => term_Arena_there_2549_v0_0_round N _ _ _ n t u K⟩ (all_nil)) (LStep.none)) fun t u K => term_Arena_there_2549_body N _ _ _ t u K
theorem E_term_Arena_there_ok (N : Nat) : EntOK Try.prog 50 (E_term_Arena_there N) := EntOK.vars (E_term_Arena_there_Tok N) Try.func50 (by kernel_rfl) (by kernel_rfl) (all_cons (term_Arena_there_2549_ok N) (all_nil))
theorem E_term_Arena_Width_Tok (N : Nat) : TabOK Try.prog (E_term_Arena_Width_T N) := TabOK.cons (E_term_Arena_Node_ok N) (TabOK.nil)
theorem term_Arena_Width_43b4_ok (N : Nat) : VarOK Try.prog (E_term_Arena_Width_T N) Try.f28 (codeOf Try.f28) (term_Arena_Width_43b4_W (term_Arena_Width_43b4 N)) :=
  VarOK.of (E_term_Arena_Width_Tok N) (by kernel_rfl) ⟨[], [], [1]⟩ (term_Arena_Width_43b4_F) N (fun _ => LStep.none) fun t u K => term_Arena_Width_43b4_body N _ _ t u K
theorem E_term_Arena_Width_ok (N : Nat) : EntOK Try.prog 28 (E_term_Arena_Width N) := EntOK.vars (E_term_Arena_Width_Tok N) Try.func28 (by kernel_rfl) (by kernel_rfl) (all_cons (term_Arena_Width_43b4_ok N) (all_nil))
theorem E_term_Arena_Known_Tok (N : Nat) : TabOK Try.prog (E_term_Arena_Known_T N) := TabOK.cons (E_term_Arena_Node_ok N) (TabOK.nil)
theorem term_Arena_Known_43b4_ok (N : Nat) : VarOK Try.prog (E_term_Arena_Known_T N) Try.f71 (codeOf Try.f71) (term_Arena_Known_43b4_W (term_Arena_Known_43b4 N)) :=
  VarOK.of (E_term_Arena_Known_Tok N) (by kernel_rfl) ⟨[], [], [1]⟩ (term_Arena_Known_43b4_F) N (fun _ => LStep.none) fun t u K => term_Arena_Known_43b4_body N _ _ t u K
theorem E_term_Arena_Known_ok (N : Nat) : EntOK Try.prog 71 (E_term_Arena_Known N) := EntOK.vars (E_term_Arena_Known_Tok N) Try.func71 (by kernel_rfl) (by kernel_rfl) (all_cons (term_Arena_Known_43b4_ok N) (all_nil))
theorem E_wide_divided_Tok (N : Nat) : TabOK Try.prog (E_wide_divided_T N) := TabOK.cons (E_wide_Mask_ok N) (TabOK.nil)
theorem wide_divided_ok (N : Nat) : VarOK Try.prog (E_wide_divided_T N) Try.f81 (codeOf Try.f81) (wide_divided_W (wide_divided N)) :=
  VarOK.of (E_wide_divided_Tok N) (by kernel_rfl) pn (wide_divided_F) N (fun _ => LStep.none) fun t u K => wide_divided_body N _ _ t u K
theorem E_wide_divided_ok (N : Nat) : EntOK Try.prog 81 (E_wide_divided N) := EntOK.vars (E_wide_divided_Tok N) Try.func81 (by kernel_rfl) (by kernel_rfl) (all_cons (wide_divided_ok N) (all_nil))
theorem E_wide_rest_Tok (N : Nat) : TabOK Try.prog (E_wide_rest_T N) := TabOK.nil
theorem wide_rest_ok (N : Nat) : VarOK Try.prog (E_wide_rest_T N) Try.f82 (codeOf Try.f82) (wide_rest_W (wide_rest N)) :=
  VarOK.of (E_wide_rest_Tok N) (by kernel_rfl) pn (wide_rest_F) N (fun _ => LStep.none) fun t u K => wide_rest_body N _ t u K
theorem E_wide_rest_ok (N : Nat) : EntOK Try.prog 82 (E_wide_rest N) := EntOK.vars (E_wide_rest_Tok N) Try.func82 (by kernel_rfl) (by kernel_rfl) (all_cons (wide_rest_ok N) (all_nil))
theorem E_wide_truth_Tok (N : Nat) : TabOK Try.prog (E_wide_truth_T N) := TabOK.nil
theorem wide_truth_ok (N : Nat) : VarOK Try.prog (E_wide_truth_T N) Try.f83 (codeOf Try.f83) (wide_truth_W (wide_truth N)) :=
  VarOK.of (E_wide_truth_Tok N) (by kernel_rfl) pn (wide_truth_F) N (fun _ => LStep.none) fun t u K => wide_truth_body N _ t u K
theorem E_wide_truth_ok (N : Nat) : EntOK Try.prog 83 (E_wide_truth N) := EntOK.vars (E_wide_truth_Tok N) Try.func83 (by kernel_rfl) (by kernel_rfl) (all_cons (wide_truth_ok N) (all_nil))
theorem E_wide_reckon_Tok (N : Nat) : TabOK Try.prog (E_wide_reckon_T N) := TabOK.cons (E_wide_truth_ok N) (TabOK.cons (E_wide_rest_ok N) (TabOK.cons (E_wide_divided_ok N) (TabOK.nil)))
theorem wide_reckon_ok (N : Nat) : VarOK Try.prog (E_wide_reckon_T N) Try.f75 (codeOf Try.f75) (wide_reckon_W (wide_reckon N)) :=
  VarOK.of (E_wide_reckon_Tok N) (by kernel_rfl) pn (wide_reckon_F) N (fun _ => LStep.none) fun t u K => wide_reckon_body N _ _ _ _ t u K
theorem E_wide_reckon_ok (N : Nat) : EntOK Try.prog 75 (E_wide_reckon N) := EntOK.vars (E_wide_reckon_Tok N) Try.func75 (by kernel_rfl) (by kernel_rfl) (all_cons (wide_reckon_ok N) (all_nil))
theorem E_wide_Do_Tok (N : Nat) : TabOK Try.prog (E_wide_Do_T N) := TabOK.cons (E_wide_reckon_ok N) (TabOK.cons (E_wide_Mask_ok N) (TabOK.cons (E_wide_May_ok N) (TabOK.nil)))
theorem wide_Do_ok (N : Nat) : VarOK Try.prog (E_wide_Do_T N) Try.f67 (codeOf Try.f67) (wide_Do_W (wide_Do N)) :=
  VarOK.of (E_wide_Do_Tok N) (by kernel_rfl) pn (wide_Do_F) N (fun _ => LStep.none) fun t u K => wide_Do_body N _ _ _ _ t u K
theorem E_wide_Do_ok (N : Nat) : EntOK Try.prog 67 (E_wide_Do N) := EntOK.vars (E_wide_Do_Tok N) Try.func67 (by kernel_rfl) (by kernel_rfl) (all_cons (wide_Do_ok N) (all_nil))
theorem E_wide_Out_Tok (N : Nat) : TabOK Try.prog (E_wide_Out_T N) := TabOK.cons (E_wide_Do_ok N) (TabOK.nil)
theorem wide_Out_ok (N : Nat) : VarOK Try.prog (E_wide_Out_T N) Try.f72 (codeOf Try.f72) (wide_Out_W (wide_Out N)) :=
  VarOK.of (E_wide_Out_Tok N) (by kernel_rfl) pn (wide_Out_F) N (fun _ => LStep.none) fun t u K => wide_Out_body N _ _ t u K
theorem E_wide_Out_ok (N : Nat) : EntOK Try.prog 72 (E_wide_Out N) := EntOK.vars (E_wide_Out_Tok N) Try.func72 (by kernel_rfl) (by kernel_rfl) (all_cons (wide_Out_ok N) (all_nil))
theorem E_term_turns_Tok (N : Nat) : TabOK Try.prog (E_term_turns_T N) := TabOK.nil
theorem term_turns_ok (N : Nat) : VarOK Try.prog (E_term_turns_T N) Try.f73 (codeOf Try.f73) (term_turns_W (term_turns N)) :=
  VarOK.of (E_term_turns_Tok N) (by kernel_rfl) pn (term_turns_F) N (fun _ => LStep.none) fun t u K => term_turns_body N _ t u K
theorem E_term_turns_ok (N : Nat) : EntOK Try.prog 73 (E_term_turns N) := EntOK.vars (E_term_turns_Tok N) Try.func73 (by kernel_rfl) (by kernel_rfl) (all_cons (term_turns_ok N) (all_nil))
theorem E_term_Arena_alike_Tok (N : Nat) : TabOK Try.prog (E_term_Arena_alike_T N) := TabOK.cons (E_wide_Do_ok N) (TabOK.cons (E_term_Arena_Const_ok N) (TabOK.cons (E_term_Arena_Width_ok N) (TabOK.nil)))
theorem term_Arena_alike_99d8_ok (N : Nat) : VarOK Try.prog (E_term_Arena_alike_T N) Try.f79 (codeOf Try.f79) (term_Arena_alike_99d8_W (term_Arena_alike_99d8 N)) :=
  VarOK.of (E_term_Arena_alike_Tok N) (by kernel_rfl) ⟨[1], [], [1]⟩ (term_Arena_alike_99d8_F) N (fun _ => LStep.none) fun t u K => term_Arena_alike_99d8_body N _ _ _ _ t u K
theorem E_term_Arena_alike_ok (N : Nat) : EntOK Try.prog 79 (E_term_Arena_alike N) := EntOK.vars (E_term_Arena_alike_Tok N) Try.func79 (by kernel_rfl) (by kernel_rfl) (all_cons (term_Arena_alike_99d8_ok N) (all_nil))
theorem E_term_Arena_Not_Tok (N : Nat) : TabOK Try.prog (E_term_Arena_Not_T N) := TabOK.cons (E_term_Arena_keep_ok N) (TabOK.cons (E_term_Arena_Const_ok N) (TabOK.cons (E_term_Arena_Node_ok N) (TabOK.cons (E_term_Arena_there_ok N) (TabOK.nil))))
theorem term_Arena_Not_43b4_ok (N : Nat) : VarOK Try.prog (E_term_Arena_Not_T N) Try.f90 (codeOf Try.f90) (term_Arena_Not_43b4_W (term_Arena_Not_43b4 N)) :=
  VarOK.of (E_term_Arena_Not_Tok N) (by kernel_rfl) ⟨[1], [], [1]⟩ (term_Arena_Not_43b4_F) N (fun _ => LStep.none) fun t u K => term_Arena_Not_43b4_body N _ _ _ _ _ t u K
theorem E_term_Arena_Not_ok (N : Nat) : EntOK Try.prog 90 (E_term_Arena_Not N) := EntOK.vars (E_term_Arena_Not_Tok N) Try.func90 (by kernel_rfl) (by kernel_rfl) (all_cons (term_Arena_Not_43b4_ok N) (all_nil))
theorem E_ref12_NameMay_Tok (N : Nat) : TabOK Try.prog (E_ref12_NameMay_T N) := TabOK.nil
theorem ref12_NameMay_ok (N : Nat) : VarOK Try.prog (E_ref12_NameMay_T N) Try.f54 (codeOf Try.f54) (ref12_NameMay_W (ref12_NameMay N)) :=
  VarOK.of (E_ref12_NameMay_Tok N) (by kernel_rfl) pn (ref12_NameMay_F (@ref12_NameMay_l0 N) (@ref12_NameMay_l1 N)) N (fun _ => LStep.pick (all_cons ⟨.inl fun _ _ _ => rfl, fun n t u K => ref12_NameMay_v0_0_round N _ _ _ n t u K⟩ (all_nil)) (LStep.pick (all_cons ⟨.inl fun _ _ _ => rfl, fun n t u K => ref12_NameMay_v1_0_round N _ _ _ n t u K⟩ (all_nil)) (LStep.none))) fun t u K => ref12_NameMay_body N _ _ _ t u K
theorem E_ref12_NameMay_ok (N : Nat) : EntOK Try.prog 54 (E_ref12_NameMay N) := EntOK.vars (E_ref12_NameMay_Tok N) Try.func54 (by kernel_rfl) (by kernel_rfl) (all_cons (ref12_NameMay_ok N) (all_nil))
theorem E_ref12_Tree_at_Tok (N : Nat) : TabOK Try.prog (E_ref12_Tree_at_T N) := TabOK.nil
theorem ref12_Tree_at_7d70_ok (N : Nat) : VarOK Try.prog (E_ref12_Tree_at_T N) Try.f55 (codeOf Try.f55) (ref12_Tree_at_7d70_W (ref12_Tree_at_7d70 N)) :=
  VarOK.of (E_ref12_Tree_at_Tok N) (by kernel_rfl) ⟨[], [], [1]⟩ (ref12_Tree_at_7d70_F (@ref12_Tree_at_7d70_l0 N)) N (fun _ => LStep.pick (all_cons ⟨.inl fun _ _ _ => rfl, fun n t u K => ref12_Tree_at_7d70_v0_0_round N _ _ n t u K⟩ (all_nil)) (LStep.none)) fun t u K => ref12_Tree_at_7d70_body N _ _ t u K
theorem E_ref12_Tree_at_ok (N : Nat) : EntOK Try.prog 55 (E_ref12_Tree_at N) := EntOK.vars (E_ref12_Tree_at_Tok N) Try.func55 (by kernel_rfl) (by kernel_rfl) (all_cons (ref12_Tree_at_7d70_ok N) (all_nil))
theorem E_ref12_Split_Tok (N : Nat) : TabOK Try.prog (E_ref12_Split_T N) := TabOK.cons (E_ref12_NameMay_ok N) (TabOK.nil)
theorem ref12_Split_ok (N : Nat) : VarOK Try.prog (E_ref12_Split_T N) Try.f56 (codeOf Try.f56) (ref12_Split_W (ref12_Split N)) :=
  VarOK.of (E_ref12_Split_Tok N) (by kernel_rfl) pn (ref12_Split_F (@ref12_Split_l0 N)) N (fun _ => LStep.pick (all_cons ⟨.inl fun _ _ _ => rfl, fun n t u K => ref12_Split_v0_0_round N _ _ _ n t u K⟩ (all_nil)) (LStep.none)) fun t u K => ref12_Split_body N _ _ _ t u K
theorem E_ref12_Split_ok (N : Nat) : EntOK Try.prog 56 (E_ref12_Split N) := EntOK.vars (E_ref12_Split_Tok N) Try.func56 (by kernel_rfl) (by kernel_rfl) (all_cons (ref12_Split_ok N) (all_nil))
theorem E_ref12_NewTree_Tok (N : Nat) : TabOK Try.prog (E_ref12_NewTree_T N) := TabOK.cons (E_ref12_Split_ok N) (TabOK.cons (E_ref12_Tree_at_ok N) (TabOK.cons (E_ref12_NameMay_ok N) (TabOK.nil)))
theorem ref12_NewTree_ok (N : Nat) : VarOK Try.prog (E_ref12_NewTree_T N) Try.f30 (codeOf Try.f30) (ref12_NewTree_W (ref12_NewTree N)) :=
  VarOK.of (E_ref12_NewTree_Tok N) (by kernel_rfl) pn (ref12_NewTree_F (@ref12_NewTree_l0 N)) N (fun _ => LStep.pick (all_cons ⟨.inl fun _ _ _ => rfl, fun n t u K => ref12_NewTree_v0_0_round N _ _ _ _ _ n t u K⟩ (all_nil)) (LStep.none)) fun t u K => ref12_NewTree_body N _ _ _ _ _ t u K
theorem E_ref12_NewTree_ok (N : Nat) : EntOK Try.prog 30 (E_ref12_NewTree N) := EntOK.vars (E_ref12_NewTree_Tok N) Try.func30 (by kernel_rfl) (by kernel_rfl) (all_cons (ref12_NewTree_ok N) (all_nil))
theorem E_ref17_Caps_Tok (N : Nat) : TabOK Try.prog (E_ref17_Caps_T N) := TabOK.nil
theorem ref17_Caps_ok (N : Nat) : VarOK Try.prog (E_ref17_Caps_T N) Try.f13 (codeOf Try.f13) (ref17_Caps_W (ref17_Caps N)) :=
  VarOK.of (E_ref17_Caps_Tok N) (by kernel_rfl) pn (ref17_Caps_F (@ref17_Caps_l0 N)) N (fun _ => LStep.pick (all_cons ⟨.inl fun _ _ _ => rfl, fun n t u K => ref17_Caps_v0_0_round N _ _ n t u K⟩ (all_nil)) (LStep.none)) fun t u K => ref17_Caps_body N _ _ t u K
theorem E_ref17_Caps_ok (N : Nat) : EntOK Try.prog 13 (E_ref17_Caps N) := EntOK.vars (E_ref17_Caps_Tok N) Try.func13 (by kernel_rfl) (by kernel_rfl) (all_cons (ref17_Caps_ok N) (all_nil))
theorem E_ref17_files_Tok (N : Nat) : TabOK Try.prog (E_ref17_files_T N) := TabOK.cons (E_ref17_Caps_ok N) (TabOK.nil)
theorem ref17_files_ok (N : Nat) : VarOK Try.prog (E_ref17_files_T N) Try.f31 (codeOf Try.f31) (ref17_files_W (ref17_files N)) :=
  VarOK.of (E_ref17_files_Tok N) (by kernel_rfl) pn (ref17_files_F) N (fun _ => LStep.none) fun t u K => ref17_files_body N _ _ t u K
theorem E_ref17_files_ok (N : Nat) : EntOK Try.prog 31 (E_ref17_files N) := EntOK.vars (E_ref17_files_Tok N) Try.func31 (by kernel_rfl) (by kernel_rfl) (all_cons (ref17_files_ok N) (all_nil))
theorem E_ref17_May_Tok (N : Nat) : TabOK Try.prog (E_ref17_May_T N) := TabOK.cons (E_ref17_Caps_ok N) (TabOK.cons (E_ref17_files_ok N) (TabOK.cons (E_ref12_NewTree_ok N) (TabOK.nil)))
theorem ref17_May_ok (N : Nat) : VarOK Try.prog (E_ref17_May_T N) Try.f12 (codeOf Try.f12) (ref17_May_W (ref17_May N)) :=
  VarOK.of (E_ref17_May_Tok N) (by kernel_rfl) pn (ref17_May_F (@ref17_May_l0 N) (@ref17_May_l1 N)) N (fun _ => LStep.pick (all_cons ⟨.inl fun _ _ _ => rfl, fun n t u K => ref17_May_v0_0_round N _ _ _ _ _ _ n t u K⟩ (all_nil)) (LStep.pick (all_cons ⟨.inl fun _ _ _ => rfl, fun n t u K => ref17_May_v1_0_round N _ _ _ _ _ _ n t u K⟩ (all_nil)) (LStep.none))) fun t u K => ref17_May_body N _ _ _ _ _ _ t u K
theorem E_ref17_May_ok (N : Nat) : EntOK Try.prog 12 (E_ref17_May N) := EntOK.vars (E_ref17_May_Tok N) Try.func12 (by kernel_rfl) (by kernel_rfl) (all_cons (ref17_May_ok N) (all_nil))
theorem E_ref17_Has_Tok (N : Nat) : TabOK Try.prog (E_ref17_Has_T N) := TabOK.cons (E_ref17_Caps_ok N) (TabOK.cons (E_ref17_files_ok N) (TabOK.cons (E_ref17_May_ok N) (TabOK.nil)))
theorem ref17_Has_fd41_ok (N : Nat) : VarOK Try.prog (E_ref17_Has_T N) Try.f22 (codeOf Try.f22) (ref17_Has_fd41_W (ref17_Has_fd41 N)) :=
  VarOK.of (E_ref17_Has_Tok N) (by kernel_rfl) ⟨[], [], [0, 1, 2]⟩ (ref17_Has_fd41_F (@ref17_Has_fd41_l0 N) (@ref17_Has_fd41_l1 N) (@ref17_Has_fd41_l2 N)) N (fun _ => LStep.pick (all_cons ⟨.inl fun _ _ _ => rfl, fun n t u K => ref17_Has_fd41_v0_0_round N _ _ _ _ _ _ _ n t u K⟩ (all_nil)) (LStep.pick (all_cons ⟨.inl fun _ _ _ => rfl, fun n t u K => ref17_Has_fd41_v1_0_round N _ _ _ _ _ _ _ n t u K⟩ (all_nil)) (LStep.pick (all_cons ⟨.inl fun _ _ _ => rfl, fun n t u K => ref17_Has_fd41_v2_0_round N _ _ _ _ _ _ _ n t u K⟩ (all_nil)) (LStep.none)))) fun t u K => ref17_Has_fd41_body N _ _ _ _ _ _ _ t u K
theorem E_ref17_Has_ok (N : Nat) : EntOK Try.prog 22 (E_ref17_Has N) := EntOK.vars (E_ref17_Has_Tok N) Try.func22 (by kernel_rfl) (by kernel_rfl) (all_cons (ref17_Has_fd41_ok N) (all_nil))
theorem E_ref17_Input_Tok (N : Nat) : TabOK Try.prog (E_ref17_Input_T N) := TabOK.cons (E_ref17_Has_ok N) (TabOK.cons (E_ref17_files_ok N) (TabOK.cons (E_ref17_Caps_ok N) (TabOK.cons (E_ref17_May_ok N) (TabOK.nil))))
theorem ref17_Input_ed18_ok (N : Nat) : VarOK Try.prog (E_ref17_Input_T N) Try.f25 (codeOf Try.f25) (ref17_Input_ed18_W (ref17_Input_ed18 N)) :=
  VarOK.of (E_ref17_Input_Tok N) (by kernel_rfl) ⟨[], [], [0]⟩ (ref17_Input_ed18_F (@ref17_Input_ed18_l0 N) (@ref17_Input_ed18_l1 N) (@ref17_Input_ed18_l2 N) (@ref17_Input_ed18_l3 N)) N (fun _ => LStep.pick (all_cons ⟨.inl fun _ _ _ => rfl, fun n t u K => ref17_Input_ed18_v0_0_round N _ _ _ _ _ _ _ _ _ n t u K⟩ (all_nil)) (LStep.pick (all_cons ⟨.inl fun _ _ _ => rfl, fun n t u K => ref17_Input_ed18_v1_0_round N _ _ _ _ _ _ _ _ _ n t u K⟩ (all_nil)) (LStep.pick (all_cons ⟨.inl fun _ _ _ => rfl, fun n t u K => ref17_Input_ed18_v2_0_round N _ _ _ _ _ _ _ _ _ n t u K⟩ (all_nil)) (LStep.pick (all_cons ⟨.inl fun _ _ _ => rfl, fun n t u K => ref17_Input_ed18_v3_0_round N _ _ _ _ _ _ _ _ _ n t u K⟩ (all_nil)) (LStep.none))))) fun t u K => ref17_Input_ed18_body N _ _ _ _ _ _ _ _ _ t u K
theorem E_ref17_Input_ok (N : Nat) : EntOK Try.prog 25 (E_ref17_Input N) := EntOK.vars (E_ref17_Input_Tok N) Try.func25 (by kernel_rfl) (by kernel_rfl) (all_cons (ref17_Input_ed18_ok N) (all_nil))
theorem E_term_Value_Tok (N : Nat) : TabOK Try.prog (E_term_Value_T N) := TabOK.cons (E_wide_Do_ok N) (TabOK.cons (E_wide_Mask_ok N) (TabOK.nil))
theorem term_Value_7344_ok (N : Nat) : VarOK Try.prog (E_term_Value_T N) Try.f53 (codeOf Try.f53) (term_Value_7344_W (term_Value_7344 N)) :=
  VarOK.of (E_term_Value_Tok N) (by kernel_rfl) ⟨[], [], [0]⟩ (term_Value_7344_F) N (fun _ => LStep.none) fun t u K => term_Value_7344_body N _ _ _ t u K
theorem E_term_Value_ok (N : Nat) : EntOK Try.prog 53 (E_term_Value N) := EntOK.vars (E_term_Value_Tok N) Try.func53 (by kernel_rfl) (by kernel_rfl) (all_cons (term_Value_7344_ok N) (all_nil))
theorem E_term_Arena_Under_Tok (N : Nat) : TabOK Try.prog (E_term_Arena_Under_T N) := TabOK.cons (E_term_Arena_there_ok N) (TabOK.nil)
theorem term_Arena_Under_2549_ok (N : Nat) : VarOK Try.prog (E_term_Arena_Under_T N) Try.f52 (codeOf Try.f52) (term_Arena_Under_2549_W (term_Arena_Under_2549 N)) :=
  VarOK.of (E_term_Arena_Under_Tok N) (by kernel_rfl) ⟨[], [], [1, 4]⟩ (term_Arena_Under_2549_F (@term_Arena_Under_2549_l0 N) (@term_Arena_Under_2549_l1 N) (@term_Arena_Under_2549_l2 N) (@term_Arena_Under_2549_l3 N)) N (fun _ => LStep.pick (all_cons ⟨.inl fun _ _ _ => rfl, fun n t u K => term_Arena_Under_2549_v0_0_round N _ _ _ _ _ _ n t u K⟩ (all_nil)) (LStep.pick (all_cons ⟨.inl fun _ _ _ => rfl, fun n t u K => term_Arena_Under_2549_v1_0_round N _ _ _ _ _ _ n t u K⟩ (all_nil)) (LStep.pick (all_cons ⟨.inl fun _ _ _ => rfl, fun n t u K => term_Arena_Under_2549_v2_0_round N _ _ _ _ _ _ n t u K⟩ (all_nil)) (LStep.pick (all_cons ⟨.inl fun _ _ _ => rfl, fun n t u K => term_Arena_Under_2549_v3_0_round N _ _ _ _ _ _ n t u K⟩ (all_nil)) (LStep.none))))) fun t u K => term_Arena_Under_2549_body N _ _ _ _ _ _ t u K
theorem E_term_Arena_Under_ok (N : Nat) : EntOK Try.prog 52 (E_term_Arena_Under N) := EntOK.vars (E_term_Arena_Under_Tok N) Try.func52 (by kernel_rfl) (by kernel_rfl) (all_cons (term_Arena_Under_2549_ok N) (all_nil))
theorem term_Arena_Two_12d2_ok (N : Nat) (n : Nat) (hT : TabOK Try.prog (E_term_Arena_Two_T N n)) : VarOK Try.prog (E_term_Arena_Two_T N n) Try.f62 (codeOf Try.f62) (term_Arena_Two_12d2_W (@G_term_Arena_Two_Rec.term_Arena_Two_12d2 (G_term_Arena_Two_rec N (n + 1)))) :=
  VarOK.of hT (by kernel_rfl) ⟨[1], [], [1]⟩ (term_Arena_Two_12d2_F) N (fun _ => LStep.none) fun t u K => term_Arena_Two_12d2_body N _ _ _ _ _ _ _ _ _ _ _ t u K
theorem term_Arena_equal_2c81_ok (N : Nat) (n : Nat) (hT : TabOK Try.prog (E_term_Arena_equal_T N n)) : VarOK Try.prog (E_term_Arena_equal_T N n) Try.f87 (codeOf Try.f87) (term_Arena_equal_2c81_W (@G_term_Arena_Two_Rec.term_Arena_equal_2c81 (G_term_Arena_Two_rec N (n + 1)))) :=
  VarOK.of hT (by kernel_rfl) ⟨[1], [], [1]⟩ (term_Arena_equal_2c81_F) N (fun _ => LStep.none) fun t u K => term_Arena_equal_2c81_body N _ _ _ _ _ _ _ t u K
theorem term_Arena_with_7a2f_ok (N : Nat) (n : Nat) (hT : TabOK Try.prog (E_term_Arena_with_T N n)) : VarOK Try.prog (E_term_Arena_with_T N n) Try.f80 (codeOf Try.f80) (term_Arena_with_7a2f_W (@G_term_Arena_Two_Rec.term_Arena_with_7a2f (G_term_Arena_Two_rec N (n + 1)))) :=
  VarOK.of hT (by kernel_rfl) ⟨[1], [], [1]⟩ (term_Arena_with_7a2f_F) N (fun _ => LStep.none) fun t u K => term_Arena_with_7a2f_body N _ _ _ _ _ _ t u K
theorem term_Arena_less_12d2_ok (N : Nat) (n : Nat) (hT : TabOK Try.prog (E_term_Arena_less_T N n)) : VarOK Try.prog (E_term_Arena_less_T N n) Try.f74 (codeOf Try.f74) (term_Arena_less_12d2_W (@G_term_Arena_Two_Rec.term_Arena_less_12d2 (G_term_Arena_Two_rec N (n + 1)))) :=
  VarOK.of hT (by kernel_rfl) ⟨[1], [], [1]⟩ (term_Arena_less_12d2_F) N (fun _ => LStep.none) fun t u K => term_Arena_less_12d2_body N _ _ _ _ _ t u K
theorem G_term_Arena_Two_ok (N : Nat) : ∀ n : Nat, EntOK Try.prog 62 (E_term_Arena_Two_n N n) ∧ EntOK Try.prog 87 (E_term_Arena_equal_n N n) ∧ EntOK Try.prog 80 (E_term_Arena_with_n N n) ∧ EntOK Try.prog 74 (E_term_Arena_less_n N n)
  | 0 => ⟨EntOK.void Try.func62 (by kernel_rfl) (by kernel_rfl) (all_cons (fun _ _ _ _ => rfl) (all_nil)),
    EntOK.void Try.func87 (by kernel_rfl) (by kernel_rfl) (all_cons (fun _ _ _ _ => rfl) (all_nil)),
    EntOK.void Try.func80 (by kernel_rfl) (by kernel_rfl) (all_cons (fun _ _ _ _ => rfl) (all_nil)),
    EntOK.void Try.func74 (by kernel_rfl) (by kernel_rfl) (all_cons (fun _ _ _ _ => rfl) (all_nil))⟩
  | n + 1 =>
    have ih := G_term_Arena_Two_ok N n
    ⟨(have hT : TabOK Try.prog (E_term_Arena_Two_T N n) := TabOK.cons (E_term_Arena_keep_ok N) (TabOK.cons (ih.2.2.2) (TabOK.cons (E_term_turns_ok N) (TabOK.cons (E_term_Arena_Const_ok N) (TabOK.cons (E_wide_Out_ok N) (TabOK.cons (E_wide_Do_ok N) (TabOK.cons (E_term_Arena_Known_ok N) (TabOK.cons (E_term_Arena_Width_ok N) (TabOK.cons (E_term_Arena_there_ok N) (TabOK.cons (E_term_two_ok N) (TabOK.nil))))))))))
     EntOK.vars hT Try.func62 (by kernel_rfl) (by kernel_rfl) (all_cons (term_Arena_Two_12d2_ok N n hT) (all_nil))),
    (have hT : TabOK Try.prog (E_term_Arena_equal_T N n) := TabOK.cons (ih.1) (TabOK.cons (E_term_Arena_Const_ok N) (TabOK.cons (E_wide_Mask_ok N) (TabOK.cons (E_term_Arena_Width_ok N) (TabOK.cons (E_term_Arena_Not_ok N) (TabOK.cons (E_term_Arena_Node_ok N) (TabOK.nil))))))
     EntOK.vars hT Try.func87 (by kernel_rfl) (by kernel_rfl) (all_cons (term_Arena_equal_2c81_ok N n hT) (all_nil))),
    (have hT : TabOK Try.prog (E_term_Arena_with_T N n) := TabOK.cons (ih.2.1) (TabOK.cons (E_wide_Mask_ok N) (TabOK.cons (E_term_Arena_Const_ok N) (TabOK.cons (E_wide_Out_ok N) (TabOK.cons (E_term_Arena_Width_ok N) (TabOK.nil)))))
     EntOK.vars hT Try.func80 (by kernel_rfl) (by kernel_rfl) (all_cons (term_Arena_with_7a2f_ok N n hT) (all_nil))),
    (have hT : TabOK Try.prog (E_term_Arena_less_T N n) := TabOK.cons (ih.2.2.1) (TabOK.cons (E_term_turns_ok N) (TabOK.cons (E_term_Arena_Known_ok N) (TabOK.cons (E_term_Arena_alike_ok N) (TabOK.nil))))
     EntOK.vars hT Try.func74 (by kernel_rfl) (by kernel_rfl) (all_cons (term_Arena_less_12d2_ok N n hT) (all_nil)))⟩
theorem E_term_Arena_Two_ok (N : Nat) : EntOK Try.prog 62 (E_term_Arena_Two N) := (G_term_Arena_Two_ok N N).1
theorem E_term_Arena_equal_ok (N : Nat) : EntOK Try.prog 87 (E_term_Arena_equal N) := (G_term_Arena_Two_ok N N).2.1
theorem E_term_Arena_with_ok (N : Nat) : EntOK Try.prog 80 (E_term_Arena_with N) := (G_term_Arena_Two_ok N N).2.2.1
theorem E_term_Arena_less_ok (N : Nat) : EntOK Try.prog 74 (E_term_Arena_less N) := (G_term_Arena_Two_ok N N).2.2.2
theorem E_cast_maker_two_Tok (N : Nat) : TabOK Try.prog (E_cast_maker_two_T N) := TabOK.cons (E_cast_maker_keep_ok N) (TabOK.cons (E_term_Arena_Two_ok N) (TabOK.nil))
theorem cast_maker_two_8916_ok (N : Nat) : VarOK Try.prog (E_cast_maker_two_T N) Try.f45 (codeOf Try.f45) (cast_maker_two_8916_W (cast_maker_two_8916 N)) :=
  VarOK.of (E_cast_maker_two_Tok N) (by kernel_rfl) ⟨[2], [], [2]⟩ (cast_maker_two_8916_F) N (fun _ => LStep.none) fun t u K => cast_maker_two_8916_body N _ _ _ t u K
theorem E_cast_maker_two_ok (N : Nat) : EntOK Try.prog 45 (E_cast_maker_two N) := EntOK.vars (E_cast_maker_two_Tok N) Try.func45 (by kernel_rfl) (by kernel_rfl) (all_cons (cast_maker_two_8916_ok N) (all_nil))
theorem term_Arena_Ext_99d8_ok (N : Nat) (n : Nat) (hT : TabOK Try.prog (E_term_Arena_Ext_T N n)) : VarOK Try.prog (E_term_Arena_Ext_T N n) Try.f48 (codeOf Try.f48) (term_Arena_Ext_99d8_W (@G_term_Arena_Ext_Rec.term_Arena_Ext_99d8 (G_term_Arena_Ext_rec N (n + 1)))) :=
  VarOK.of hT (by kernel_rfl) ⟨[1], [], [1]⟩ (term_Arena_Ext_99d8_F) N (fun _ => LStep.none) fun t u K => term_Arena_Ext_99d8_body N _ _ _ _ _ _ t u K
theorem G_term_Arena_Ext_ok (N : Nat) : ∀ n : Nat, EntOK Try.prog 48 (E_term_Arena_Ext_n N n)
  | 0 => EntOK.void Try.func48 (by kernel_rfl) (by kernel_rfl) (all_cons (fun _ _ _ _ => rfl) (all_nil))
  | n + 1 =>
    have ih := G_term_Arena_Ext_ok N n
    (have hT : TabOK Try.prog (E_term_Arena_Ext_T N n) := TabOK.cons (E_term_Arena_keep_ok N) (TabOK.cons (ih) (TabOK.cons (E_term_Arena_Const_ok N) (TabOK.cons (E_wide_May_ok N) (TabOK.cons (E_term_Arena_Node_ok N) (TabOK.nil)))))
     EntOK.vars hT Try.func48 (by kernel_rfl) (by kernel_rfl) (all_cons (term_Arena_Ext_99d8_ok N n hT) (all_nil)))
theorem E_term_Arena_Ext_ok (N : Nat) : EntOK Try.prog 48 (E_term_Arena_Ext N) := (G_term_Arena_Ext_ok N N)
theorem E_cast_Premise_Tok (N : Nat) : TabOK Try.prog (E_cast_Premise_T N) := TabOK.cons (E_cast_maker_keep_ok N) (TabOK.cons (E_term_Arena_Ext_ok N) (TabOK.cons (E_cast_Fail_ok N) (TabOK.cons (E_cast_maker_two_ok N) (TabOK.cons (E_cast_maker_number_ok N) (TabOK.cons (E_cast_maker_variable_ok N) (TabOK.cons (E_cast_Size_ok N) (TabOK.cons (E_class_Caps_ok N) (TabOK.cons (E_class_May_ok N) (TabOK.nil)))))))))
theorem cast_Premise_46c2_ok (N : Nat) : VarOK Try.prog (E_cast_Premise_T N) Try.f26 (codeOf Try.f26) (cast_Premise_46c2_W (cast_Premise_46c2 N)) :=
  VarOK.of (E_cast_Premise_Tok N) (by kernel_rfl) ⟨[1], [(0, false, (.int .i64))], [1]⟩ (cast_Premise_46c2_F (@cast_Premise_46c2_l0 N) (@cast_Premise_46c2_l1 N) (@cast_Premise_46c2_l2 N)) N (fun _ => LStep.pick (all_cons ⟨.inl fun _ _ _ => rfl, fun n t u K => cast_Premise_46c2_v0_0_round N _ _ _ _ _ _ _ _ _ _ _ _ _ _ _ _ _ n t u K⟩ (all_nil)) (LStep.pick (all_cons ⟨.inl fun _ _ _ => rfl, fun n t u K => cast_Premise_46c2_v1_0_round N _ _ _ _ _ _ _ _ _ _ _ _ _ _ _ _ _ n t u K⟩ (all_nil)) (LStep.pick (all_cons ⟨.inl fun _ _ _ => rfl, fun n t u K => cast_Premise_46c2_v2_0_round N _ _ _ _ _ _ _ _ _ _ _ _ _ _ _ _ _ n t u K⟩ (all_nil)) (LStep.none)))) fun t u K => cast_Premise_46c2_body N _ _ _ _ _ _ _ _ _ _ _ _ _ _ _ _ _ t u K
theorem E_cast_Premise_ok (N : Nat) : EntOK Try.prog 26 (E_cast_Premise N) := EntOK.vars (E_cast_Premise_Tok N) Try.func26 (by kernel_rfl) (by kernel_rfl) (all_cons (cast_Premise_46c2_ok N) (all_nil))
theorem term_Arena_quick_520c_ok (N : Nat) (n : Nat) (hT : TabOK Try.prog (E_term_Arena_quick_T N n)) : VarOK Try.prog (E_term_Arena_quick_T N n) Try.f51 (codeOf Try.f51) (term_Arena_quick_520c_W (@G_term_Arena_quick_Rec.term_Arena_quick_520c (G_term_Arena_quick_rec N (n + 1)))) :=
  VarOK.of hT (by kernel_rfl) ⟨[], [], [1, 4]⟩ (term_Arena_quick_520c_F) N (fun _ => LStep.none) fun t u K => term_Arena_quick_520c_body N _ _ _ _ t u K
theorem G_term_Arena_quick_ok (N : Nat) : ∀ n : Nat, EntOK Try.prog 51 (E_term_Arena_quick_n N n)
  | 0 => EntOK.void Try.func51 (by kernel_rfl) (by kernel_rfl) (all_cons (fun _ _ _ _ => rfl) (all_nil))
  | n + 1 =>
    have ih := G_term_Arena_quick_ok N n
    (have hT : TabOK Try.prog (E_term_Arena_quick_T N n) := TabOK.cons (E_term_Value_ok N) (TabOK.cons (E_term_Arena_Width_ok N) (TabOK.cons (ih) (TabOK.nil)))
     EntOK.vars hT Try.func51 (by kernel_rfl) (by kernel_rfl) (all_cons (term_Arena_quick_520c_ok N n hT) (all_nil)))
theorem E_term_Arena_quick_ok (N : Nat) : EntOK Try.prog 51 (E_term_Arena_quick N) := (G_term_Arena_quick_ok N N)
theorem E_term_Arena_Eval_Tok (N : Nat) : TabOK Try.prog (E_term_Arena_Eval_T N) := TabOK.cons (E_term_Value_ok N) (TabOK.cons (E_term_Arena_Width_ok N) (TabOK.cons (E_term_Arena_Under_ok N) (TabOK.cons (E_term_Arena_quick_ok N) (TabOK.cons (E_term_Arena_there_ok N) (TabOK.nil)))))
theorem term_Arena_Eval_0112_ok (N : Nat) : VarOK Try.prog (E_term_Arena_Eval_T N) Try.f29 (codeOf Try.f29) (term_Arena_Eval_0112_W (term_Arena_Eval_0112 N)) :=
  VarOK.of (E_term_Arena_Eval_Tok N) (by kernel_rfl) ⟨[], [], [1, 4]⟩ (term_Arena_Eval_0112_F (@term_Arena_Eval_0112_l0 N)) N (fun _ => LStep.pick (all_cons ⟨.inl fun _ _ _ => rfl, fun n t u K => term_Arena_Eval_0112_v0_0_round N _ _ _ _ _ _ _ n t u K⟩ (all_nil)) (LStep.none)) fun t u K => term_Arena_Eval_0112_body N _ _ _ _ _ _ _ t u K
theorem E_term_Arena_Eval_ok (N : Nat) : EntOK Try.prog 29 (E_term_Arena_Eval N) := EntOK.vars (E_term_Arena_Eval_Tok N) Try.func29 (by kernel_rfl) (by kernel_rfl) (all_cons (term_Arena_Eval_0112_ok N) (all_nil))
theorem E_law18_CastPremise_Tok (N : Nat) : TabOK Try.prog (E_law18_CastPremise_T N) := TabOK.cons (E_term_Arena_Eval_ok N) (TabOK.cons (E_term_Arena_Width_ok N) (TabOK.cons (E_ref17_Input_ok N) (TabOK.cons (E_cast_Vars_ok N) (TabOK.cons (E_ref17_May_ok N) (TabOK.cons (E_cast_Premise_ok N) (TabOK.cons (E_term_New_ok N) (TabOK.cons (E_law17_Small_ok N) (TabOK.cons (E_law18_awake_ok N) (TabOK.nil)))))))))
theorem law18_CastPremise_ok (N : Nat) : VarOK Try.prog (E_law18_CastPremise_T N) Try.f8 (codeOf Try.f8) (law18_CastPremise_W (law18_CastPremise N)) :=
  VarOK.of (E_law18_CastPremise_Tok N) (by kernel_rfl) pn (law18_CastPremise_F (@law18_CastPremise_l0 N) (@law18_CastPremise_l1 N)) N (fun _ => LStep.pick (all_cons ⟨.inl fun _ _ _ => rfl, fun n t u K => law18_CastPremise_v0_0_round N _ _ _ _ _ _ _ _ _ _ _ _ _ n t u K⟩ (all_nil)) (LStep.pick (all_cons ⟨.inl fun _ _ _ => rfl, fun n t u K => law18_CastPremise_v1_0_round N _ _ _ _ _ _ _ _ _ _ _ _ _ n t u K⟩ (all_nil)) (LStep.none))) fun t u K => law18_CastPremise_body N _ _ _ _ _ _ _ _ _ _ _ _ _ t u K
theorem E_law18_CastPremise_ok (N : Nat) : EntOK Try.prog 8 (E_law18_CastPremise N) := EntOK.vars (E_law18_CastPremise_Tok N) Try.func8 (by kernel_rfl) (by kernel_rfl) (all_cons (law18_CastPremise_ok N) (all_nil))
end Go.Proofs.Ytlfhmecdgfennaa
