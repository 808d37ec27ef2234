/-
  Each entry is borne out (printed by a program of this work).
-/
import Derived.Test.YtfeacgamgdpojaaX
import Derived.Test.YtfeacgamgdpojaaQ0
import Derived.Test.YtfeacgamgdpojaaQ1
import Derived.Test.YtfeacgamgdpojaaQ2
import Derived.Test.YtfeacgamgdpojaaQ3
set_option linter.unusedVariables false
set_option maxRecDepth 100000
namespace Go.Proofs.Ytfeacgamgdpojaa
open Go.Gx
theorem E_term_New_Tok (N : Nat) : TabOK Try.prog (E_term_New_T N) := TabOK.nil
theorem term_New_ok (N : Nat) : VarOK Try.prog (E_term_New_T N) Try.f27 (codeOf Try.f27) (term_New_W (term_New N)) :=
  VarOK.of (E_term_New_Tok N) (by kernel_rfl) ⟨[], [], []⟩ (term_New_F) N (fun _ => LStep.none) (term_New_body N)
theorem E_term_New_ok (N : Nat) : EntOK Try.prog 27 (E_term_New N) := EntOK.vars (E_term_New_Tok N) Try.func27 (by kernel_rfl) (by kernel_rfl) (all_cons (term_New_ok N) (all_nil))
theorem E_wide_May_Tok (N : Nat) : TabOK Try.prog (E_wide_May_T N) := TabOK.nil
theorem wide_May_ok (N : Nat) : VarOK Try.prog (E_wide_May_T N) Try.f64 (codeOf Try.f64) (wide_May_W (wide_May N)) :=
  VarOK.of (E_wide_May_Tok N) (by kernel_rfl) ⟨[], [], []⟩ (wide_May_F) N (fun _ => LStep.none) (wide_May_body N)
theorem E_wide_May_ok (N : Nat) : EntOK Try.prog 64 (E_wide_May N) := EntOK.vars (E_wide_May_Tok N) Try.func64 (by kernel_rfl) (by kernel_rfl) (all_cons (wide_May_ok N) (all_nil))
theorem E_wide_Mask_Tok (N : Nat) : TabOK Try.prog (E_wide_Mask_T N) := TabOK.cons (E_wide_May_ok N) (TabOK.nil)
theorem wide_Mask_ok (N : Nat) : VarOK Try.prog (E_wide_Mask_T N) Try.f66 (codeOf Try.f66) (wide_Mask_W (wide_Mask N)) :=
  VarOK.of (E_wide_Mask_Tok N) (by kernel_rfl) ⟨[], [], []⟩ (wide_Mask_F) N (fun _ => LStep.none) (wide_Mask_body N (@wide_May N))
theorem E_wide_Mask_ok (N : Nat) : EntOK Try.prog 66 (E_wide_Mask N) := EntOK.vars (E_wide_Mask_Tok N) Try.func66 (by kernel_rfl) (by kernel_rfl) (all_cons (wide_Mask_ok N) (all_nil))
theorem E_term_Arena_keep_Tok (N : Nat) : TabOK Try.prog (E_term_Arena_keep_T N) := TabOK.nil
theorem term_Arena_keep_a25e_ok (N : Nat) : VarOK Try.prog (E_term_Arena_keep_T N) Try.f65 (codeOf Try.f65) (term_Arena_keep_a25e_W (term_Arena_keep_a25e N)) :=
  VarOK.of (E_term_Arena_keep_Tok N) (by kernel_rfl) ⟨[1], [], [1]⟩ (term_Arena_keep_a25e_F) N (fun _ => LStep.none) (term_Arena_keep_a25e_body N)
theorem E_term_Arena_keep_ok (N : Nat) : EntOK Try.prog 65 (E_term_Arena_keep N) := EntOK.vars (E_term_Arena_keep_Tok N) Try.func65 (by kernel_rfl) (by kernel_rfl) (all_cons (term_Arena_keep_a25e_ok N) (all_nil))
theorem E_term_Arena_Const_Tok (N : Nat) : TabOK Try.prog (E_term_Arena_Const_T N) := TabOK.cons (E_term_Arena_keep_ok N) (TabOK.cons (E_wide_Mask_ok N) (TabOK.cons (E_wide_May_ok N) (TabOK.nil)))
theorem term_Arena_Const_2c81_ok (N : Nat) : VarOK Try.prog (E_term_Arena_Const_T N) Try.f28 (codeOf Try.f28) (term_Arena_Const_2c81_W (term_Arena_Const_2c81 N)) :=
  VarOK.of (E_term_Arena_Const_Tok N) (by kernel_rfl) ⟨[1], [], [1]⟩ (term_Arena_Const_2c81_F) N (fun _ => LStep.none) (term_Arena_Const_2c81_body N (@term_Arena_keep_a25e N) (@wide_Mask N) (@wide_May N))
theorem E_term_Arena_Const_ok (N : Nat) : EntOK Try.prog 28 (E_term_Arena_Const N) := EntOK.vars (E_term_Arena_Const_Tok N) Try.func28 (by kernel_rfl) (by kernel_rfl) (all_cons (term_Arena_Const_2c81_ok N) (all_nil))
theorem E_term_Arena_Var_Tok (N : Nat) : TabOK Try.prog (E_term_Arena_Var_T N) := TabOK.cons (E_term_Arena_keep_ok N) (TabOK.cons (E_wide_May_ok N) (TabOK.nil))
theorem term_Arena_Var_99d8_ok (N : Nat) : VarOK Try.prog (E_term_Arena_Var_T N) Try.f29 (codeOf Try.f29) (term_Arena_Var_99d8_W (term_Arena_Var_99d8 N)) :=
  VarOK.of (E_term_Arena_Var_Tok N) (by kernel_rfl) ⟨[1], [], [1]⟩ (term_Arena_Var_99d8_F) N (fun _ => LStep.none) (term_Arena_Var_99d8_body N (@term_Arena_keep_a25e N) (@wide_May N))
theorem E_term_Arena_Var_ok (N : Nat) : EntOK Try.prog 29 (E_term_Arena_Var N) := EntOK.vars (E_term_Arena_Var_Tok N) Try.func29 (by kernel_rfl) (by kernel_rfl) (all_cons (term_Arena_Var_99d8_ok N) (all_nil))
theorem E_stringslite_Index_Tok (N : Nat) : TabOK Try.prog (E_stringslite_Index_T N) := TabOK.cons E_stringslite_IndexByte_ok (TabOK.nil)
theorem stringslite_Index_ok (N : Nat) : VarOK Try.prog (E_stringslite_Index_T N) Try.f129 (codeOf Try.f129) (stringslite_Index_W (stringslite_Index N)) :=
  VarOK.of (E_stringslite_Index_Tok N) (by kernel_rfl) ⟨[], [], []⟩ (stringslite_Index_F) N (fun _ => LStep.none) (stringslite_Index_body N @stringslite_IndexByte)
theorem E_stringslite_Index_ok (N : Nat) : EntOK Try.prog 129 (E_stringslite_Index N) := EntOK.vars (E_stringslite_Index_Tok N) Try.func129 (by kernel_rfl) (by kernel_rfl) (all_cons (stringslite_Index_ok N) (all_nil))
theorem E_stringslite_Cut_Tok (N : Nat) : TabOK Try.prog (E_stringslite_Cut_T N) := TabOK.cons (E_stringslite_Index_ok N) (TabOK.nil)
theorem stringslite_Cut_ok (N : Nat) : VarOK Try.prog (E_stringslite_Cut_T N) Try.f124 (codeOf Try.f124) (stringslite_Cut_W (stringslite_Cut N)) :=
  VarOK.of (E_stringslite_Cut_Tok N) (by kernel_rfl) ⟨[], [], []⟩ (stringslite_Cut_F) N (fun _ => LStep.none) (stringslite_Cut_body N (@stringslite_Index N))
theorem E_stringslite_Cut_ok (N : Nat) : EntOK Try.prog 124 (E_stringslite_Cut N) := EntOK.vars (E_stringslite_Cut_Tok N) Try.func124 (by kernel_rfl) (by kernel_rfl) (all_cons (stringslite_Cut_ok N) (all_nil))
theorem E_strings_Cut_Tok (N : Nat) : TabOK Try.prog (E_strings_Cut_T N) := TabOK.cons (E_stringslite_Cut_ok N) (TabOK.nil)
theorem strings_Cut_ok (N : Nat) : VarOK Try.prog (E_strings_Cut_T N) Try.f121 (codeOf Try.f121) (strings_Cut_W (strings_Cut N)) :=
  VarOK.of (E_strings_Cut_Tok N) (by kernel_rfl) ⟨[], [], []⟩ (strings_Cut_F) N (fun _ => LStep.none) (strings_Cut_body N (@stringslite_Cut N))
theorem E_strings_Cut_ok (N : Nat) : EntOK Try.prog 121 (E_strings_Cut N) := EntOK.vars (E_strings_Cut_Tok N) Try.func121 (by kernel_rfl) (by kernel_rfl) (all_cons (strings_Cut_ok N) (all_nil))
theorem E_check_letter_Tok (N : Nat) : TabOK Try.prog (E_check_letter_T N) := TabOK.nil
theorem check_letter_ok (N : Nat) : VarOK Try.prog (E_check_letter_T N) Try.f125 (codeOf Try.f125) (check_letter_W (check_letter N)) :=
  VarOK.of (E_check_letter_Tok N) (by kernel_rfl) ⟨[], [], []⟩ (check_letter_F) N (fun _ => LStep.none) (check_letter_body N)
theorem E_check_letter_ok (N : Nat) : EntOK Try.prog 125 (E_check_letter N) := EntOK.vars (E_check_letter_Tok N) Try.func125 (by kernel_rfl) (by kernel_rfl) (all_cons (check_letter_ok N) (all_nil))
theorem E_check_part_Tok (N : Nat) : TabOK Try.prog (E_check_part_T N) := TabOK.cons (E_check_letter_ok N) (TabOK.nil)
theorem check_part_v0_0_ok (N : Nat) : LV Try.prog (E_check_part_T N) ⟨0, Try.f122.ntmps, fun i => (check_part_F (@check_part_l0 N) i).at N, []⟩ (bodyAt Try.f122 3) (check_part_F0 (@check_part_l0 N)) (check_part_v0_0 (@check_part_l0 N)) := ⟨.inl fun _ _ _ => rfl, check_part_v0_0_round N (@check_letter N) (@check_part_l0 N)⟩
theorem check_part_s0 (N : Nat) : LStep Try.prog (E_check_part_T N) ⟨0, Try.f122.ntmps, fun i => (check_part_F (@check_part_l0 N) i).at N, []⟩ (bodyAt Try.f122 3) (check_part_F0 (@check_part_l0 N)) := all_cons (check_part_v0_0_ok N) (all_nil)
theorem check_part_ok (N : Nat) : VarOK Try.prog (E_check_part_T N) Try.f122 (codeOf Try.f122) (check_part_W (check_part N)) :=
  VarOK.of (E_check_part_Tok N) (by kernel_rfl) ⟨[], [], []⟩ (check_part_F (@check_part_l0 N)) N (fun _ => LStep.pick (check_part_s0 N) (LStep.none)) (check_part_body N (@check_letter N) (@check_part_l0 N))
theorem E_check_part_ok (N : Nat) : EntOK Try.prog 122 (E_check_part N) := EntOK.vars (E_check_part_Tok N) Try.func122 (by kernel_rfl) (by kernel_rfl) (all_cons (check_part_ok N) (all_nil))
theorem E_check_Name_Tok (N : Nat) : TabOK Try.prog (E_check_Name_T N) := TabOK.cons (E_check_part_ok N) (TabOK.cons (E_strings_Cut_ok N) (TabOK.nil))
theorem check_Name_ok (N : Nat) : VarOK Try.prog (E_check_Name_T N) Try.f116 (codeOf Try.f116) (check_Name_W (check_Name N)) :=
  VarOK.of (E_check_Name_Tok N) (by kernel_rfl) ⟨[], [], []⟩ (check_Name_F) N (fun _ => LStep.none) (check_Name_body N (@check_part N) (@strings_Cut N))
theorem E_check_Name_ok (N : Nat) : EntOK Try.prog 116 (E_check_Name N) := EntOK.vars (E_check_Name_Tok N) Try.func116 (by kernel_rfl) (by kernel_rfl) (all_cons (check_Name_ok N) (all_nil))
theorem E_names_May_Tok (N : Nat) : TabOK Try.prog (E_names_May_T N) := TabOK.cons (E_check_Name_ok N) (TabOK.nil)
theorem names_May_ok (N : Nat) : VarOK Try.prog (E_names_May_T N) Try.f93 (codeOf Try.f93) (names_May_W (names_May N)) :=
  VarOK.of (E_names_May_Tok N) (by kernel_rfl) ⟨[], [], []⟩ (names_May_F) N (fun _ => LStep.none) (names_May_body N (@check_Name N))
theorem E_names_May_ok (N : Nat) : EntOK Try.prog 93 (E_names_May N) := EntOK.vars (E_names_May_Tok N) Try.func93 (by kernel_rfl) (by kernel_rfl) (all_cons (names_May_ok N) (all_nil))
theorem E_names_Split_Tok (N : Nat) : TabOK Try.prog (E_names_Split_T N) := TabOK.cons (E_strings_Cut_ok N) (TabOK.cons (E_names_May_ok N) (TabOK.nil))
theorem names_Split_ok (N : Nat) : VarOK Try.prog (E_names_Split_T N) Try.f117 (codeOf Try.f117) (names_Split_W (names_Split N)) :=
  VarOK.of (E_names_Split_Tok N) (by kernel_rfl) ⟨[], [], []⟩ (names_Split_F) N (fun _ => LStep.none) (names_Split_body N (@strings_Cut N) (@names_May N))
theorem E_names_Split_ok (N : Nat) : EntOK Try.prog 117 (E_names_Split N) := EntOK.vars (E_names_Split_Tok N) Try.func117 (by kernel_rfl) (by kernel_rfl) (all_cons (names_Split_ok N) (all_nil))
theorem E_tree_of_Tok (N : Nat) : TabOK Try.prog (E_tree_of_T N) := TabOK.cons (E_names_Split_ok N) (TabOK.nil)
theorem tree_of_ok (N : Nat) : VarOK Try.prog (E_tree_of_T N) Try.f96 (codeOf Try.f96) (tree_of_W (tree_of N)) :=
  VarOK.of (E_tree_of_Tok N) (by kernel_rfl) ⟨[], [], []⟩ (tree_of_F) N (fun _ => LStep.none) (tree_of_body N (@names_Split N))
theorem E_tree_of_ok (N : Nat) : EntOK Try.prog 96 (E_tree_of N) := EntOK.vars (E_tree_of_Tok N) Try.func96 (by kernel_rfl) (by kernel_rfl) (all_cons (tree_of_ok N) (all_nil))
theorem E_tree_Tree_above_Tok (N : Nat) : TabOK Try.prog (E_tree_Tree_above_T N) := TabOK.nil
theorem tree_Tree_above_2de7_ok (N : Nat) : VarOK Try.prog (E_tree_Tree_above_T N) Try.f97 (codeOf Try.f97) (tree_Tree_above_2de7_W (tree_Tree_above_2de7 N)) :=
  VarOK.of (E_tree_Tree_above_Tok N) (by kernel_rfl) ⟨[], [], []⟩ (tree_Tree_above_2de7_F) N (fun _ => LStep.none) (tree_Tree_above_2de7_body N)
theorem E_tree_Tree_above_ok (N : Nat) : EntOK Try.prog 97 (E_tree_Tree_above N) := EntOK.vars (E_tree_Tree_above_Tok N) Try.func97 (by kernel_rfl) (by kernel_rfl) (all_cons (tree_Tree_above_2de7_ok N) (all_nil))
theorem E_tree_Tree_Make_Tok (N : Nat) : TabOK Try.prog (E_tree_Tree_Make_T N) := TabOK.cons (E_tree_Tree_above_ok N) (TabOK.cons (E_tree_of_ok N) (TabOK.nil))
theorem tree_Tree_Make_c502_ok (N : Nat) : VarOK Try.prog (E_tree_Tree_Make_T N) Try.f61 (codeOf Try.f61) (tree_Tree_Make_c502_W (tree_Tree_Make_c502 N)) :=
  VarOK.of (E_tree_Tree_Make_Tok N) (by kernel_rfl) ⟨[], [], []⟩ (tree_Tree_Make_c502_F) N (fun _ => LStep.none) (tree_Tree_Make_c502_body N (@tree_Tree_above_2de7 N) (@tree_of N))
theorem tree_Tree_Make_ok (N : Nat) : VarOK Try.prog (E_tree_Tree_Make_T N) Try.f61 (codeOf Try.f61) (tree_Tree_Make_W (tree_Tree_Make N)) :=
  VarOK.of (E_tree_Tree_Make_Tok N) (by kernel_rfl) ⟨[], [], []⟩ (tree_Tree_Make_F) N (fun _ => LStep.none) (tree_Tree_Make_body N (@tree_Tree_above_2de7 N) (@tree_of N))
theorem E_tree_Tree_Make_ok (N : Nat) : EntOK Try.prog 61 (E_tree_Tree_Make N) := EntOK.vars (E_tree_Tree_Make_Tok N) Try.func61 (by kernel_rfl) (by kernel_rfl) (all_cons (tree_Tree_Make_c502_ok N) (all_cons (tree_Tree_Make_ok N) (all_nil)))
theorem E_tree_New_Tok (N : Nat) : TabOK Try.prog (E_tree_New_T N) := TabOK.cons (E_tree_Tree_Make_ok N) (TabOK.cons (E_names_May_ok N) (TabOK.nil))
theorem tree_New_644a_v0_0_ok (N : Nat) : LV Try.prog (E_tree_New_T N) ⟨1, Try.f56.ntmps, fun i => (tree_New_644a_F (@tree_New_644a_l0 N) i).at N, [0]⟩ (bodyAt Try.f56 7) (tree_New_644a_F0 (@tree_New_644a_l0 N)) (tree_New_644a_v0_0 (@tree_New_644a_l0 N)) := ⟨.inl fun _ _ _ => rfl, tree_New_644a_v0_0_round N (@tree_Tree_Make_c502 N) (@tree_Tree_Make N) (@names_May N) (@tree_New_644a_l0 N)⟩
theorem tree_New_644a_s0 (N : Nat) : LStep Try.prog (E_tree_New_T N) ⟨1, Try.f56.ntmps, fun i => (tree_New_644a_F (@tree_New_644a_l0 N) i).at N, [0]⟩ (bodyAt Try.f56 7) (tree_New_644a_F0 (@tree_New_644a_l0 N)) := all_cons (tree_New_644a_v0_0_ok N) (all_nil)
theorem tree_New_644a_ok (N : Nat) : VarOK Try.prog (E_tree_New_T N) Try.f56 (codeOf Try.f56) (tree_New_644a_W (tree_New_644a N)) :=
  VarOK.of (E_tree_New_Tok N) (by kernel_rfl) ⟨[], [], [0]⟩ (tree_New_644a_F (@tree_New_644a_l0 N)) N (fun _ => LStep.pick (tree_New_644a_s0 N) (LStep.none)) (tree_New_644a_body N (@tree_Tree_Make_c502 N) (@tree_Tree_Make N) (@names_May N) (@tree_New_644a_l0 N))
theorem E_tree_New_ok (N : Nat) : EntOK Try.prog 56 (E_tree_New N) := EntOK.vars (E_tree_New_Tok N) Try.func56 (by kernel_rfl) (by kernel_rfl) (all_cons (tree_New_644a_ok N) (all_nil))
theorem E_ghost_New_Tok (N : Nat) : TabOK Try.prog (E_ghost_New_T N) := TabOK.cons E_slices_Clone__term_T_term_T_ok (TabOK.cons (E_tree_New_ok N) (TabOK.nil))
theorem ghost_New_669c_v0_0_ok (N : Nat) : LV Try.prog (E_ghost_New_T N) ⟨2, Try.f30.ntmps, fun i => (ghost_New_669c_F (@ghost_New_669c_l0 N) i).at N, [0, 1]⟩ (bodyAt Try.f30 8) (ghost_New_669c_F0 (@ghost_New_669c_l0 N)) (ghost_New_669c_v0_0 (@ghost_New_669c_l0 N)) := ⟨.inl fun _ _ _ => rfl, ghost_New_669c_v0_0_round N @slices_Clone__term_T_term_T (@tree_New_644a N) (@ghost_New_669c_l0 N)⟩
theorem ghost_New_669c_v0_1_ok (N : Nat) : LV Try.prog (E_ghost_New_T N) ⟨2, Try.f30.ntmps, fun i => (ghost_New_669c_F (@ghost_New_669c_l0 N) i).at N, [0, 1]⟩ (bodyAt Try.f30 8) (ghost_New_669c_F0 (@ghost_New_669c_l0 N)) (ghost_New_669c_v0_1 (@ghost_New_669c_l0 N)) := ⟨.inl fun _ _ _ => rfl, ghost_New_669c_v0_1_round N @slices_Clone__term_T_term_T (@tree_New_644a N) (@ghost_New_669c_l0 N)⟩
theorem ghost_New_669c_v0_2_ok (N : Nat) : LV Try.prog (E_ghost_New_T N) ⟨2, Try.f30.ntmps, fun i => (ghost_New_669c_F (@ghost_New_669c_l0 N) i).at N, [0, 1]⟩ (bodyAt Try.f30 8) (ghost_New_669c_F0 (@ghost_New_669c_l0 N)) (ghost_New_669c_v0_2 (@ghost_New_669c_l0 N)) := ⟨.inl fun _ _ _ => rfl, ghost_New_669c_v0_2_round N @slices_Clone__term_T_term_T (@tree_New_644a N) (@ghost_New_669c_l0 N)⟩
theorem ghost_New_669c_v0_3_ok (N : Nat) : LV Try.prog (E_ghost_New_T N) ⟨2, Try.f30.ntmps, fun i => (ghost_New_669c_F (@ghost_New_669c_l0 N) i).at N, [0, 1]⟩ (bodyAt Try.f30 8) (ghost_New_669c_F0 (@ghost_New_669c_l0 N)) (ghost_New_669c_v0_3 (@ghost_New_669c_l0 N)) := ⟨.inl fun _ _ _ => rfl, ghost_New_669c_v0_3_round N @slices_Clone__term_T_term_T (@tree_New_644a N) (@ghost_New_669c_l0 N)⟩
theorem ghost_New_669c_s0 (N : Nat) : LStep Try.prog (E_ghost_New_T N) ⟨2, Try.f30.ntmps, fun i => (ghost_New_669c_F (@ghost_New_669c_l0 N) i).at N, [0, 1]⟩ (bodyAt Try.f30 8) (ghost_New_669c_F0 (@ghost_New_669c_l0 N)) := all_cons (ghost_New_669c_v0_0_ok N) (all_cons (ghost_New_669c_v0_1_ok N) (all_cons (ghost_New_669c_v0_2_ok N) (all_cons (ghost_New_669c_v0_3_ok N) (all_nil))))
theorem ghost_New_669c_ok (N : Nat) : VarOK Try.prog (E_ghost_New_T N) Try.f30 (codeOf Try.f30) (ghost_New_669c_W (ghost_New_669c N)) :=
  VarOK.of (E_ghost_New_Tok N) (by kernel_rfl) ⟨[], [], [0, 1]⟩ (ghost_New_669c_F (@ghost_New_669c_l0 N)) N (fun _ => LStep.pick (ghost_New_669c_s0 N) (LStep.none)) (ghost_New_669c_body N @slices_Clone__term_T_term_T (@tree_New_644a N) (@ghost_New_669c_l0 N))
theorem E_ghost_New_ok (N : Nat) : EntOK Try.prog 30 (E_ghost_New N) := EntOK.vars (E_ghost_New_Tok N) Try.func30 (by kernel_rfl) (by kernel_rfl) (all_cons (ghost_New_669c_ok N) (all_nil))
theorem E_slices_Index__int_int_Tok (N : Nat) : TabOK Try.prog (E_slices_Index__int_int_T N) := TabOK.nil
theorem slices_Index__int_int_8e17_v0_0_ok (N : Nat) : LV Try.prog (E_slices_Index__int_int_T N) ⟨3, Try.f95.ntmps, fun i => (slices_Index__int_int_8e17_F (@slices_Index__int_int_8e17_l0 N) i).at N, [2]⟩ (bodyAt Try.f95 3) (slices_Index__int_int_8e17_F0 (@slices_Index__int_int_8e17_l0 N)) (slices_Index__int_int_8e17_v0_0 (@slices_Index__int_int_8e17_l0 N)) := ⟨.inl fun _ _ _ => rfl, slices_Index__int_int_8e17_v0_0_round N (@slices_Index__int_int_8e17_l0 N)⟩
theorem slices_Index__int_int_8e17_s0 (N : Nat) : LStep Try.prog (E_slices_Index__int_int_T N) ⟨3, Try.f95.ntmps, fun i => (slices_Index__int_int_8e17_F (@slices_Index__int_int_8e17_l0 N) i).at N, [2]⟩ (bodyAt Try.f95 3) (slices_Index__int_int_8e17_F0 (@slices_Index__int_int_8e17_l0 N)) := all_cons (slices_Index__int_int_8e17_v0_0_ok N) (all_nil)
theorem slices_Index__int_int_8e17_ok (N : Nat) : VarOK Try.prog (E_slices_Index__int_int_T N) Try.f95 (codeOf Try.f95) (slices_Index__int_int_8e17_W (slices_Index__int_int_8e17 N)) :=
  VarOK.of (E_slices_Index__int_int_Tok N) (by kernel_rfl) ⟨[], [], [2]⟩ (slices_Index__int_int_8e17_F (@slices_Index__int_int_8e17_l0 N)) N (fun _ => LStep.pick (slices_Index__int_int_8e17_s0 N) (LStep.none)) (slices_Index__int_int_8e17_body N (@slices_Index__int_int_8e17_l0 N))
theorem slices_Index__int_int_4bb2_v0_0_ok (N : Nat) : LV Try.prog (E_slices_Index__int_int_T N) ⟨5, Try.f95.ntmps, fun i => (slices_Index__int_int_4bb2_F (@slices_Index__int_int_4bb2_l0 N) i).at N, [4]⟩ (bodyAt Try.f95 3) (slices_Index__int_int_4bb2_F0 (@slices_Index__int_int_4bb2_l0 N)) (slices_Index__int_int_4bb2_v0_0 (@slices_Index__int_int_4bb2_l0 N)) := ⟨.inl fun _ _ _ => rfl, slices_Index__int_int_4bb2_v0_0_round N (@slices_Index__int_int_4bb2_l0 N)⟩
theorem slices_Index__int_int_4bb2_s0 (N : Nat) : LStep Try.prog (E_slices_Index__int_int_T N) ⟨5, Try.f95.ntmps, fun i => (slices_Index__int_int_4bb2_F (@slices_Index__int_int_4bb2_l0 N) i).at N, [4]⟩ (bodyAt Try.f95 3) (slices_Index__int_int_4bb2_F0 (@slices_Index__int_int_4bb2_l0 N)) := all_cons (slices_Index__int_int_4bb2_v0_0_ok N) (all_nil)
theorem slices_Index__int_int_4bb2_ok (N : Nat) : VarOK Try.prog (E_slices_Index__int_int_T N) Try.f95 (codeOf Try.f95) (slices_Index__int_int_4bb2_W (slices_Index__int_int_4bb2 N)) :=
  VarOK.of (E_slices_Index__int_int_Tok N) (by kernel_rfl) ⟨[], [], [4]⟩ (slices_Index__int_int_4bb2_F (@slices_Index__int_int_4bb2_l0 N)) N (fun _ => LStep.pick (slices_Index__int_int_4bb2_s0 N) (LStep.none)) (slices_Index__int_int_4bb2_body N (@slices_Index__int_int_4bb2_l0 N))
theorem E_slices_Index__int_int_ok (N : Nat) : EntOK Try.prog 95 (E_slices_Index__int_int N) := EntOK.vars (E_slices_Index__int_int_Tok N) Try.func95 (by kernel_rfl) (by kernel_rfl) (all_cons (slices_Index__int_int_8e17_ok N) (all_cons (slices_Index__int_int_4bb2_ok N) (all_nil)))
theorem E_ghost_Ghost_free_Tok (N : Nat) : TabOK Try.prog (E_ghost_Ghost_free_T N) := TabOK.cons (E_slices_Index__int_int_ok N) (TabOK.nil)
theorem ghost_Ghost_free_109a_ok (N : Nat) : VarOK Try.prog (E_ghost_Ghost_free_T N) Try.f68 (codeOf Try.f68) (ghost_Ghost_free_109a_W (ghost_Ghost_free_109a N)) :=
  VarOK.of (E_ghost_Ghost_free_Tok N) (by kernel_rfl) ⟨[], [], [2]⟩ (ghost_Ghost_free_109a_F) N (fun _ => LStep.none) (ghost_Ghost_free_109a_body N (@slices_Index__int_int_8e17 N) (@slices_Index__int_int_4bb2 N))
theorem ghost_Ghost_free_f1e4_ok (N : Nat) : VarOK Try.prog (E_ghost_Ghost_free_T N) Try.f68 (codeOf Try.f68) (ghost_Ghost_free_f1e4_W (ghost_Ghost_free_f1e4 N)) :=
  VarOK.of (E_ghost_Ghost_free_Tok N) (by kernel_rfl) ⟨[], [], [4]⟩ (ghost_Ghost_free_f1e4_F) N (fun _ => LStep.none) (ghost_Ghost_free_f1e4_body N (@slices_Index__int_int_8e17 N) (@slices_Index__int_int_4bb2 N))
theorem E_ghost_Ghost_free_ok (N : Nat) : EntOK Try.prog 68 (E_ghost_Ghost_free N) := EntOK.vars (E_ghost_Ghost_free_Tok N) Try.func68 (by kernel_rfl) (by kernel_rfl) (all_cons (ghost_Ghost_free_109a_ok N) (all_cons (ghost_Ghost_free_f1e4_ok N) (all_nil)))
theorem E_ghost_Ghost_file_Tok (N : Nat) : TabOK Try.prog (E_ghost_Ghost_file_T N) := TabOK.nil
theorem ghost_Ghost_file_4cb0_ok (N : Nat) : VarOK Try.prog (E_ghost_Ghost_file_T N) Try.f70 (codeOf Try.f70) (ghost_Ghost_file_4cb0_W (ghost_Ghost_file_4cb0 N)) :=
  VarOK.of (E_ghost_Ghost_file_Tok N) (by kernel_rfl) ⟨[], [], [2]⟩ (ghost_Ghost_file_4cb0_F) N (fun _ => LStep.none) (ghost_Ghost_file_4cb0_body N)
theorem ghost_Ghost_file_7504_ok (N : Nat) : VarOK Try.prog (E_ghost_Ghost_file_T N) Try.f70 (codeOf Try.f70) (ghost_Ghost_file_7504_W (ghost_Ghost_file_7504 N)) :=
  VarOK.of (E_ghost_Ghost_file_Tok N) (by kernel_rfl) ⟨[], [], [4]⟩ (ghost_Ghost_file_7504_F) N (fun _ => LStep.none) (ghost_Ghost_file_7504_body N)
theorem E_ghost_Ghost_file_ok (N : Nat) : EntOK Try.prog 70 (E_ghost_Ghost_file N) := EntOK.vars (E_ghost_Ghost_file_Tok N) Try.func70 (by kernel_rfl) (by kernel_rfl) (all_cons (ghost_Ghost_file_4cb0_ok N) (all_cons (ghost_Ghost_file_7504_ok N) (all_nil)))
theorem E_ghost_Ghost_Read_Tok (N : Nat) : TabOK Try.prog (E_ghost_Ghost_Read_T N) := TabOK.cons E_slices_Clone__term_T_term_T_ok (TabOK.cons (E_ghost_Ghost_file_ok N) (TabOK.nil))
theorem ghost_Ghost_Read_ab5b_ok (N : Nat) : VarOK Try.prog (E_ghost_Ghost_Read_T N) Try.f33 (codeOf Try.f33) (ghost_Ghost_Read_ab5b_W (ghost_Ghost_Read_ab5b N)) :=
  VarOK.of (E_ghost_Ghost_Read_Tok N) (by kernel_rfl) ⟨[], [(0, false, (.int .i64))], [2]⟩ (ghost_Ghost_Read_ab5b_F) N (fun _ => LStep.none) (ghost_Ghost_Read_ab5b_body N @slices_Clone__term_T_term_T (@ghost_Ghost_file_4cb0 N) (@ghost_Ghost_file_7504 N))
theorem ghost_Ghost_Read_5658_ok (N : Nat) : VarOK Try.prog (E_ghost_Ghost_Read_T N) Try.f33 (codeOf Try.f33) (ghost_Ghost_Read_5658_W (ghost_Ghost_Read_5658 N)) :=
  VarOK.of (E_ghost_Ghost_Read_Tok N) (by kernel_rfl) ⟨[], [(0, false, (.int .i64))], [4]⟩ (ghost_Ghost_Read_5658_F) N (fun _ => LStep.none) (ghost_Ghost_Read_5658_body N @slices_Clone__term_T_term_T (@ghost_Ghost_file_4cb0 N) (@ghost_Ghost_file_7504 N))
theorem E_ghost_Ghost_Read_ok (N : Nat) : EntOK Try.prog 33 (E_ghost_Ghost_Read N) := EntOK.vars (E_ghost_Ghost_Read_Tok N) Try.func33 (by kernel_rfl) (by kernel_rfl) (all_cons (ghost_Ghost_Read_ab5b_ok N) (all_cons (ghost_Ghost_Read_5658_ok N) (all_nil)))
theorem E_ghost_Ghost_Size_Tok (N : Nat) : TabOK Try.prog (E_ghost_Ghost_Size_T N) := TabOK.cons (E_ghost_Ghost_file_ok N) (TabOK.nil)
theorem ghost_Ghost_Size_4cb0_ok (N : Nat) : VarOK Try.prog (E_ghost_Ghost_Size_T N) Try.f45 (codeOf Try.f45) (ghost_Ghost_Size_4cb0_W (ghost_Ghost_Size_4cb0 N)) :=
  VarOK.of (E_ghost_Ghost_Size_Tok N) (by kernel_rfl) ⟨[], [], [2]⟩ (ghost_Ghost_Size_4cb0_F) N (fun _ => LStep.none) (ghost_Ghost_Size_4cb0_body N (@ghost_Ghost_file_4cb0 N) (@ghost_Ghost_file_7504 N))
theorem ghost_Ghost_Size_7504_ok (N : Nat) : VarOK Try.prog (E_ghost_Ghost_Size_T N) Try.f45 (codeOf Try.f45) (ghost_Ghost_Size_7504_W (ghost_Ghost_Size_7504 N)) :=
  VarOK.of (E_ghost_Ghost_Size_Tok N) (by kernel_rfl) ⟨[], [], [4]⟩ (ghost_Ghost_Size_7504_F) N (fun _ => LStep.none) (ghost_Ghost_Size_7504_body N (@ghost_Ghost_file_4cb0 N) (@ghost_Ghost_file_7504 N))
theorem E_ghost_Ghost_Size_ok (N : Nat) : EntOK Try.prog 45 (E_ghost_Ghost_Size N) := EntOK.vars (E_ghost_Ghost_Size_Tok N) Try.func45 (by kernel_rfl) (by kernel_rfl) (all_cons (ghost_Ghost_Size_4cb0_ok N) (all_cons (ghost_Ghost_Size_7504_ok N) (all_nil)))
theorem E_tree_Tree_get_Tok (N : Nat) : TabOK Try.prog (E_tree_Tree_get_T N) := TabOK.cons (E_tree_Tree_above_ok N) (TabOK.cons (E_tree_of_ok N) (TabOK.nil))
theorem tree_Tree_get_fb98_ok (N : Nat) : VarOK Try.prog (E_tree_Tree_get_T N) Try.f94 (codeOf Try.f94) (tree_Tree_get_fb98_W (tree_Tree_get_fb98 N)) :=
  VarOK.of (E_tree_Tree_get_Tok N) (by kernel_rfl) ⟨[], [], []⟩ (tree_Tree_get_fb98_F) N (fun _ => LStep.none) (tree_Tree_get_fb98_body N (@tree_Tree_above_2de7 N) (@tree_of N))
theorem E_tree_Tree_get_ok (N : Nat) : EntOK Try.prog 94 (E_tree_Tree_get N) := EntOK.vars (E_tree_Tree_get_Tok N) Try.func94 (by kernel_rfl) (by kernel_rfl) (all_cons (tree_Tree_get_fb98_ok N) (all_nil))
theorem E_tree_Tree_Find_Tok (N : Nat) : TabOK Try.prog (E_tree_Tree_Find_T N) := TabOK.cons (E_tree_Tree_get_ok N) (TabOK.nil)
theorem tree_Tree_Find_ok (N : Nat) : VarOK Try.prog (E_tree_Tree_Find_T N) Try.f58 (codeOf Try.f58) (tree_Tree_Find_W (tree_Tree_Find N)) :=
  VarOK.of (E_tree_Tree_Find_Tok N) (by kernel_rfl) ⟨[], [], []⟩ (tree_Tree_Find_F) N (fun _ => LStep.none) (tree_Tree_Find_body N (@tree_Tree_get_fb98 N))
theorem tree_Tree_Find_fb98_ok (N : Nat) : VarOK Try.prog (E_tree_Tree_Find_T N) Try.f58 (codeOf Try.f58) (tree_Tree_Find_fb98_W (tree_Tree_Find_fb98 N)) :=
  VarOK.of (E_tree_Tree_Find_Tok N) (by kernel_rfl) ⟨[], [], []⟩ (tree_Tree_Find_fb98_F) N (fun _ => LStep.none) (tree_Tree_Find_fb98_body N (@tree_Tree_get_fb98 N))
theorem E_tree_Tree_Find_ok (N : Nat) : EntOK Try.prog 58 (E_tree_Tree_Find N) := EntOK.vars (E_tree_Tree_Find_Tok N) Try.func58 (by kernel_rfl) (by kernel_rfl) (all_cons (tree_Tree_Find_ok N) (all_cons (tree_Tree_Find_fb98_ok N) (all_nil)))
theorem E_tree_Tree_Copy_Tok (N : Nat) : TabOK Try.prog (E_tree_Tree_Copy_T N) := TabOK.cons E_maps_Clone_map_tree_keytree_entry_tree_key_tree_entry_ok (TabOK.nil)
theorem tree_Tree_Copy_ok (N : Nat) : VarOK Try.prog (E_tree_Tree_Copy_T N) Try.f71 (codeOf Try.f71) (tree_Tree_Copy_W (tree_Tree_Copy N)) :=
  VarOK.of (E_tree_Tree_Copy_Tok N) (by kernel_rfl) ⟨[], [], []⟩ (tree_Tree_Copy_F) N (fun _ => LStep.none) (tree_Tree_Copy_body N @maps_Clone_map_tree_keytree_entry_tree_key_tree_entry_df6b)
theorem tree_Tree_Copy_a28d_ok (N : Nat) : VarOK Try.prog (E_tree_Tree_Copy_T N) Try.f71 (codeOf Try.f71) (tree_Tree_Copy_a28d_W (tree_Tree_Copy_a28d N)) :=
  VarOK.of (E_tree_Tree_Copy_Tok N) (by kernel_rfl) ⟨[], [], []⟩ (tree_Tree_Copy_a28d_F) N (fun _ => LStep.none) (tree_Tree_Copy_a28d_body N @maps_Clone_map_tree_keytree_entry_tree_key_tree_entry_df6b)
theorem E_tree_Tree_Copy_ok (N : Nat) : EntOK Try.prog 71 (E_tree_Tree_Copy N) := EntOK.vars (E_tree_Tree_Copy_Tok N) Try.func71 (by kernel_rfl) (by kernel_rfl) (all_cons (tree_Tree_Copy_ok N) (all_cons (tree_Tree_Copy_a28d_ok N) (all_nil)))
theorem E_ghost_Ghost_may_Tok (N : Nat) : TabOK Try.prog (E_ghost_Ghost_may_T N) := TabOK.cons (E_tree_Tree_Make_ok N) (TabOK.cons (E_tree_Tree_Copy_ok N) (TabOK.nil))
theorem ghost_Ghost_may_9183_ok (N : Nat) : VarOK Try.prog (E_ghost_Ghost_may_T N) Try.f69 (codeOf Try.f69) (ghost_Ghost_may_9183_W (ghost_Ghost_may_9183 N)) :=
  VarOK.of (E_ghost_Ghost_may_Tok N) (by kernel_rfl) ⟨[], [], [2]⟩ (ghost_Ghost_may_9183_F) N (fun _ => LStep.none) (ghost_Ghost_may_9183_body N (@tree_Tree_Make_c502 N) (@tree_Tree_Make N) (@tree_Tree_Copy N) (@tree_Tree_Copy_a28d N))
theorem ghost_Ghost_may_e876_ok (N : Nat) : VarOK Try.prog (E_ghost_Ghost_may_T N) Try.f69 (codeOf Try.f69) (ghost_Ghost_may_e876_W (ghost_Ghost_may_e876 N)) :=
  VarOK.of (E_ghost_Ghost_may_Tok N) (by kernel_rfl) ⟨[], [], [4]⟩ (ghost_Ghost_may_e876_F) N (fun _ => LStep.none) (ghost_Ghost_may_e876_body N (@tree_Tree_Make_c502 N) (@tree_Tree_Make N) (@tree_Tree_Copy N) (@tree_Tree_Copy_a28d N))
theorem E_ghost_Ghost_may_ok (N : Nat) : EntOK Try.prog 69 (E_ghost_Ghost_may N) := EntOK.vars (E_ghost_Ghost_may_Tok N) Try.func69 (by kernel_rfl) (by kernel_rfl) (all_cons (ghost_Ghost_may_9183_ok N) (all_cons (ghost_Ghost_may_e876_ok N) (all_nil)))
theorem E_ghost_Ghost_Open_Tok (N : Nat) : TabOK Try.prog (E_ghost_Ghost_Open_T N) := TabOK.cons (E_tree_Tree_Make_ok N) (TabOK.cons (E_ghost_Ghost_may_ok N) (TabOK.cons (E_ghost_Ghost_free_ok N) (TabOK.cons (E_tree_Tree_Find_ok N) (TabOK.nil))))
theorem ghost_Ghost_Open_9183_ok (N : Nat) : VarOK Try.prog (E_ghost_Ghost_Open_T N) Try.f31 (codeOf Try.f31) (ghost_Ghost_Open_9183_W (ghost_Ghost_Open_9183 N)) :=
  VarOK.of (E_ghost_Ghost_Open_Tok N) (by kernel_rfl) ⟨[2], [], [2]⟩ (ghost_Ghost_Open_9183_F) N (fun _ => LStep.none) (ghost_Ghost_Open_9183_body N (@tree_Tree_Make_c502 N) (@tree_Tree_Make N) (@ghost_Ghost_may_9183 N) (@ghost_Ghost_may_e876 N) (@ghost_Ghost_free_109a N) (@ghost_Ghost_free_f1e4 N) (@tree_Tree_Find N) (@tree_Tree_Find_fb98 N))
theorem ghost_Ghost_Open_e876_ok (N : Nat) : VarOK Try.prog (E_ghost_Ghost_Open_T N) Try.f31 (codeOf Try.f31) (ghost_Ghost_Open_e876_W (ghost_Ghost_Open_e876 N)) :=
  VarOK.of (E_ghost_Ghost_Open_Tok N) (by kernel_rfl) ⟨[4], [], [4]⟩ (ghost_Ghost_Open_e876_F) N (fun _ => LStep.none) (ghost_Ghost_Open_e876_body N (@tree_Tree_Make_c502 N) (@tree_Tree_Make N) (@ghost_Ghost_may_9183 N) (@ghost_Ghost_may_e876 N) (@ghost_Ghost_free_109a N) (@ghost_Ghost_free_f1e4 N) (@tree_Tree_Find N) (@tree_Tree_Find_fb98 N))
theorem E_ghost_Ghost_Open_ok (N : Nat) : EntOK Try.prog 31 (E_ghost_Ghost_Open N) := EntOK.vars (E_ghost_Ghost_Open_Tok N) Try.func31 (by kernel_rfl) (by kernel_rfl) (all_cons (ghost_Ghost_Open_9183_ok N) (all_cons (ghost_Ghost_Open_e876_ok N) (all_nil)))
theorem E_law19_awake_Tok (N : Nat) : TabOK Try.prog (E_law19_awake_T N) := TabOK.cons (E_ghost_Ghost_Size_ok N) (TabOK.cons (E_ghost_Ghost_Read_ok N) (TabOK.cons (E_ghost_Ghost_Open_ok N) (TabOK.cons (E_ghost_New_ok N) (TabOK.cons (E_term_Arena_Var_ok N) (TabOK.cons (E_term_Arena_Const_ok N) (TabOK.cons (E_term_New_ok N) (TabOK.nil)))))))
theorem law19_awake_ok (N : Nat) : VarOK Try.prog (E_law19_awake_T N) Try.f26 (codeOf Try.f26) (law19_awake_W (law19_awake N)) :=
  VarOK.of (E_law19_awake_Tok N) (by kernel_rfl) ⟨[], [], []⟩ (law19_awake_F) N (fun _ => LStep.none) (law19_awake_body N (@ghost_Ghost_Size_4cb0 N) (@ghost_Ghost_Size_7504 N) (@ghost_Ghost_Read_ab5b N) (@ghost_Ghost_Read_5658 N) (@ghost_Ghost_Open_9183 N) (@ghost_Ghost_Open_e876 N) (@ghost_New_669c N) (@term_Arena_Var_99d8 N) (@term_Arena_Const_2c81 N) (@term_New N))
theorem E_law19_awake_ok (N : Nat) : EntOK Try.prog 26 (E_law19_awake N) := EntOK.vars (E_law19_awake_Tok N) Try.func26 (by kernel_rfl) (by kernel_rfl) (all_cons (law19_awake_ok N) (all_nil))
theorem E_ghost_Ghost_Twin_Tok (N : Nat) : TabOK Try.prog (E_ghost_Ghost_Twin_T N) := TabOK.cons (E_ghost_Ghost_free_ok N) (TabOK.cons (E_ghost_Ghost_file_ok N) (TabOK.nil))
theorem ghost_Ghost_Twin_4cb0_ok (N : Nat) : VarOK Try.prog (E_ghost_Ghost_Twin_T N) Try.f32 (codeOf Try.f32) (ghost_Ghost_Twin_4cb0_W (ghost_Ghost_Twin_4cb0 N)) :=
  VarOK.of (E_ghost_Ghost_Twin_Tok N) (by kernel_rfl) ⟨[], [], [2]⟩ (ghost_Ghost_Twin_4cb0_F) N (fun _ => LStep.none) (ghost_Ghost_Twin_4cb0_body N (@ghost_Ghost_free_109a N) (@ghost_Ghost_free_f1e4 N) (@ghost_Ghost_file_4cb0 N) (@ghost_Ghost_file_7504 N))
theorem ghost_Ghost_Twin_7504_ok (N : Nat) : VarOK Try.prog (E_ghost_Ghost_Twin_T N) Try.f32 (codeOf Try.f32) (ghost_Ghost_Twin_7504_W (ghost_Ghost_Twin_7504 N)) :=
  VarOK.of (E_ghost_Ghost_Twin_Tok N) (by kernel_rfl) ⟨[], [], [4]⟩ (ghost_Ghost_Twin_7504_F) N (fun _ => LStep.none) (ghost_Ghost_Twin_7504_body N (@ghost_Ghost_free_109a N) (@ghost_Ghost_free_f1e4 N) (@ghost_Ghost_file_4cb0 N) (@ghost_Ghost_file_7504 N))
theorem E_ghost_Ghost_Twin_ok (N : Nat) : EntOK Try.prog 32 (E_ghost_Ghost_Twin N) := EntOK.vars (E_ghost_Ghost_Twin_Tok N) Try.func32 (by kernel_rfl) (by kernel_rfl) (all_cons (ghost_Ghost_Twin_4cb0_ok N) (all_cons (ghost_Ghost_Twin_7504_ok N) (all_nil)))
theorem E_ghost_Ghost_Copy_Tok (N : Nat) : TabOK Try.prog (E_ghost_Ghost_Copy_T N) := TabOK.cons E_slices_Clone__ghost_open_ghost_open_ok (TabOK.cons E_maps_Clone_map_int_term_T_int__term_T_ok (TabOK.cons (E_tree_Tree_Copy_ok N) (TabOK.nil)))
theorem ghost_Ghost_Copy_109a_ok (N : Nat) : VarOK Try.prog (E_ghost_Ghost_Copy_T N) Try.f34 (codeOf Try.f34) (ghost_Ghost_Copy_109a_W (ghost_Ghost_Copy_109a N)) :=
  VarOK.of (E_ghost_Ghost_Copy_Tok N) (by kernel_rfl) ⟨[], [], [2]⟩ (ghost_Ghost_Copy_109a_F) N (fun _ => LStep.none) (ghost_Ghost_Copy_109a_body N @slices_Clone__ghost_open_ghost_open_4ed5 @maps_Clone_map_int_term_T_int__term_T_d9f3 (@tree_Tree_Copy N) (@tree_Tree_Copy_a28d N))
theorem ghost_Ghost_Copy_f1e4_ok (N : Nat) : VarOK Try.prog (E_ghost_Ghost_Copy_T N) Try.f34 (codeOf Try.f34) (ghost_Ghost_Copy_f1e4_W (ghost_Ghost_Copy_f1e4 N)) :=
  VarOK.of (E_ghost_Ghost_Copy_Tok N) (by kernel_rfl) ⟨[], [], [4]⟩ (ghost_Ghost_Copy_f1e4_F) N (fun _ => LStep.none) (ghost_Ghost_Copy_f1e4_body N @slices_Clone__ghost_open_ghost_open_4ed5 @maps_Clone_map_int_term_T_int__term_T_d9f3 (@tree_Tree_Copy N) (@tree_Tree_Copy_a28d N))
theorem E_ghost_Ghost_Copy_ok (N : Nat) : EntOK Try.prog 34 (E_ghost_Ghost_Copy N) := EntOK.vars (E_ghost_Ghost_Copy_Tok N) Try.func34 (by kernel_rfl) (by kernel_rfl) (all_cons (ghost_Ghost_Copy_109a_ok N) (all_cons (ghost_Ghost_Copy_f1e4_ok N) (all_nil)))
theorem E_law19_GhostFds_Tok (N : Nat) : TabOK Try.prog (E_law19_GhostFds_T N) := TabOK.cons (E_ghost_Ghost_Copy_ok N) (TabOK.cons (E_ghost_Ghost_Read_ok N) (TabOK.cons (E_ghost_Ghost_Twin_ok N) (TabOK.cons (E_ghost_Ghost_Open_ok N) (TabOK.cons (E_ghost_New_ok N) (TabOK.cons (E_term_Arena_Var_ok N) (TabOK.cons (E_term_Arena_Const_ok N) (TabOK.cons (E_term_New_ok N) (TabOK.cons (E_law19_awake_ok N) (TabOK.nil)))))))))
theorem law19_GhostFds_v0_0_ok (N : Nat) : LV Try.prog (E_law19_GhostFds_T N) ⟨0, Try.f7.ntmps, fun i => (law19_GhostFds_F (@law19_GhostFds_l0 N) i).at N, []⟩ (bodyAt Try.f7 12) (law19_GhostFds_F0 (@law19_GhostFds_l0 N)) (law19_GhostFds_v0_0 (@law19_GhostFds_l0 N)) := ⟨.inl fun _ _ _ => rfl, law19_GhostFds_v0_0_round N (@ghost_Ghost_Copy_109a N) (@ghost_Ghost_Copy_f1e4 N) (@ghost_Ghost_Read_ab5b N) (@ghost_Ghost_Read_5658 N) (@ghost_Ghost_Twin_4cb0 N) (@ghost_Ghost_Twin_7504 N) (@ghost_Ghost_Open_9183 N) (@ghost_Ghost_Open_e876 N) (@ghost_New_669c N) (@term_Arena_Var_99d8 N) (@term_Arena_Const_2c81 N) (@term_New N) (@law19_awake N) (@law19_GhostFds_l0 N)⟩
theorem law19_GhostFds_s0 (N : Nat) : LStep Try.prog (E_law19_GhostFds_T N) ⟨0, Try.f7.ntmps, fun i => (law19_GhostFds_F (@law19_GhostFds_l0 N) i).at N, []⟩ (bodyAt Try.f7 12) (law19_GhostFds_F0 (@law19_GhostFds_l0 N)) := all_cons (law19_GhostFds_v0_0_ok N) (all_nil)
theorem law19_GhostFds_ok (N : Nat) : VarOK Try.prog (E_law19_GhostFds_T N) Try.f7 (codeOf Try.f7) (law19_GhostFds_W (law19_GhostFds N)) :=
  VarOK.of (E_law19_GhostFds_Tok N) (by kernel_rfl) ⟨[], [], []⟩ (law19_GhostFds_F (@law19_GhostFds_l0 N)) N (fun _ => LStep.pick (law19_GhostFds_s0 N) (LStep.none)) (law19_GhostFds_body N (@ghost_Ghost_Copy_109a N) (@ghost_Ghost_Copy_f1e4 N) (@ghost_Ghost_Read_ab5b N) (@ghost_Ghost_Read_5658 N) (@ghost_Ghost_Twin_4cb0 N) (@ghost_Ghost_Twin_7504 N) (@ghost_Ghost_Open_9183 N) (@ghost_Ghost_Open_e876 N) (@ghost_New_669c N) (@term_Arena_Var_99d8 N) (@term_Arena_Const_2c81 N) (@term_New N) (@law19_awake N) (@law19_GhostFds_l0 N))
theorem E_law19_GhostFds_ok (N : Nat) : EntOK Try.prog 7 (E_law19_GhostFds N) := EntOK.vars (E_law19_GhostFds_Tok N) Try.func7 (by kernel_rfl) (by kernel_rfl) (all_cons (law19_GhostFds_ok N) (all_nil))
end Go.Proofs.Ytfeacgamgdpojaa
