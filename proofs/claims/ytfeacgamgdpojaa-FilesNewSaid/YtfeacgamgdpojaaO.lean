/-
  Each entry is borne out (printed by a program of this work).
-/
import Derived.Test.YtfeacgamgdpojaaX
import Derived.Test.YtfeacgamgdpojaaQ0
import Derived.Test.YtfeacgamgdpojaaQ1
import Derived.Test.YtfeacgamgdpojaaQ2
import Derived.Test.YtfeacgamgdpojaaQ3
set_option linter.unusedVariables false
set_option maxRecDepth 100000
namespace Go.Proofs.Ytfeacgamgdpojaa
open Go.Gx
theorem E_tree_New_Tok (N : Nat) : TabOK Try.prog (E_tree_New_T N) := TabOK.nil
theorem tree_New_1c12_v0_0_ok (N : Nat) : LV Try.prog (E_tree_New_T N) ⟨0, Try.f56.ntmps, fun i => (tree_New_1c12_F (@tree_New_1c12_l0 N) i).at N, []⟩ (bodyAt Try.f56 7) (tree_New_1c12_F0 (@tree_New_1c12_l0 N)) (tree_New_1c12_v0_0 (@tree_New_1c12_l0 N)) := ⟨.inl fun _ _ _ => rfl, tree_New_1c12_v0_0_round N (@tree_New_1c12_l0 N)⟩
theorem tree_New_1c12_s0 (N : Nat) : LStep Try.prog (E_tree_New_T N) ⟨0, Try.f56.ntmps, fun i => (tree_New_1c12_F (@tree_New_1c12_l0 N) i).at N, []⟩ (bodyAt Try.f56 7) (tree_New_1c12_F0 (@tree_New_1c12_l0 N)) := all_cons (tree_New_1c12_v0_0_ok N) (all_nil)
theorem tree_New_1c12_ok (N : Nat) : VarOK Try.prog (E_tree_New_T N) Try.f56 (codeOf Try.f56) (tree_New_1c12_W (tree_New_1c12 N)) :=
  VarOK.of (E_tree_New_Tok N) (by kernel_rfl) ⟨[], [], []⟩ (tree_New_1c12_F (@tree_New_1c12_l0 N)) N (fun _ => LStep.pick (tree_New_1c12_s0 N) (LStep.none)) (tree_New_1c12_body N (@tree_New_1c12_l0 N))
theorem E_tree_New_ok (N : Nat) : EntOK Try.prog 56 (E_tree_New N) := EntOK.vars (E_tree_New_Tok N) Try.func56 (by kernel_rfl) (by kernel_rfl) (all_cons (tree_New_1c12_ok N) (all_nil))
theorem E_files_New_Tok (N : Nat) : TabOK Try.prog (E_files_New_T N) := TabOK.cons (E_tree_New_ok N) (TabOK.nil)
theorem files_New_38f2_v0_0_ok (N : Nat) : LV Try.prog (E_files_New_T N) ⟨0, Try.f16.ntmps, fun i => (files_New_38f2_F (@files_New_38f2_l0 N) i).at N, []⟩ (bodyAt Try.f16 8) (files_New_38f2_F0 (@files_New_38f2_l0 N)) (files_New_38f2_v0_0 (@files_New_38f2_l0 N)) := ⟨.inl fun _ _ _ => rfl, files_New_38f2_v0_0_round N (@tree_New_1c12 N) (@files_New_38f2_l0 N)⟩
theorem files_New_38f2_s0 (N : Nat) : LStep Try.prog (E_files_New_T N) ⟨0, Try.f16.ntmps, fun i => (files_New_38f2_F (@files_New_38f2_l0 N) i).at N, []⟩ (bodyAt Try.f16 8) (files_New_38f2_F0 (@files_New_38f2_l0 N)) := all_cons (files_New_38f2_v0_0_ok N) (all_nil)
theorem files_New_38f2_ok (N : Nat) : VarOK Try.prog (E_files_New_T N) Try.f16 (codeOf Try.f16) (files_New_38f2_W (files_New_38f2 N)) :=
  VarOK.of (E_files_New_Tok N) (by kernel_rfl) ⟨[], [], []⟩ (files_New_38f2_F (@files_New_38f2_l0 N)) N (fun _ => LStep.pick (files_New_38f2_s0 N) (LStep.none)) (files_New_38f2_body N (@tree_New_1c12 N) (@files_New_38f2_l0 N))
theorem E_files_New_ok (N : Nat) : EntOK Try.prog 16 (E_files_New N) := EntOK.vars (E_files_New_Tok N) Try.func16 (by kernel_rfl) (by kernel_rfl) (all_cons (files_New_38f2_ok N) (all_nil))
theorem E_stringslite_Index_Tok (N : Nat) : TabOK Try.prog (E_stringslite_Index_T N) := TabOK.cons E_stringslite_IndexByte_ok (TabOK.nil)
theorem stringslite_Index_ok (N : Nat) : VarOK Try.prog (E_stringslite_Index_T N) Try.f129 (codeOf Try.f129) (stringslite_Index_W (stringslite_Index N)) :=
  VarOK.of (E_stringslite_Index_Tok N) (by kernel_rfl) ⟨[], [], []⟩ (stringslite_Index_F) N (fun _ => LStep.none) (stringslite_Index_body N @stringslite_IndexByte)
theorem E_stringslite_Index_ok (N : Nat) : EntOK Try.prog 129 (E_stringslite_Index N) := EntOK.vars (E_stringslite_Index_Tok N) Try.func129 (by kernel_rfl) (by kernel_rfl) (all_cons (stringslite_Index_ok N) (all_nil))
theorem E_stringslite_Cut_Tok (N : Nat) : TabOK Try.prog (E_stringslite_Cut_T N) := TabOK.cons (E_stringslite_Index_ok N) (TabOK.nil)
theorem stringslite_Cut_ok (N : Nat) : VarOK Try.prog (E_stringslite_Cut_T N) Try.f124 (codeOf Try.f124) (stringslite_Cut_W (stringslite_Cut N)) :=
  VarOK.of (E_stringslite_Cut_Tok N) (by kernel_rfl) ⟨[], [], []⟩ (stringslite_Cut_F) N (fun _ => LStep.none) (stringslite_Cut_body N (@stringslite_Index N))
theorem E_stringslite_Cut_ok (N : Nat) : EntOK Try.prog 124 (E_stringslite_Cut N) := EntOK.vars (E_stringslite_Cut_Tok N) Try.func124 (by kernel_rfl) (by kernel_rfl) (all_cons (stringslite_Cut_ok N) (all_nil))
theorem E_strings_Cut_Tok (N : Nat) : TabOK Try.prog (E_strings_Cut_T N) := TabOK.cons (E_stringslite_Cut_ok N) (TabOK.nil)
theorem strings_Cut_ok (N : Nat) : VarOK Try.prog (E_strings_Cut_T N) Try.f121 (codeOf Try.f121) (strings_Cut_W (strings_Cut N)) :=
  VarOK.of (E_strings_Cut_Tok N) (by kernel_rfl) ⟨[], [], []⟩ (strings_Cut_F) N (fun _ => LStep.none) (strings_Cut_body N (@stringslite_Cut N))
theorem E_strings_Cut_ok (N : Nat) : EntOK Try.prog 121 (E_strings_Cut N) := EntOK.vars (E_strings_Cut_Tok N) Try.func121 (by kernel_rfl) (by kernel_rfl) (all_cons (strings_Cut_ok N) (all_nil))
theorem E_check_letter_Tok (N : Nat) : TabOK Try.prog (E_check_letter_T N) := TabOK.nil
theorem check_letter_ok (N : Nat) : VarOK Try.prog (E_check_letter_T N) Try.f125 (codeOf Try.f125) (check_letter_W (check_letter N)) :=
  VarOK.of (E_check_letter_Tok N) (by kernel_rfl) ⟨[], [], []⟩ (check_letter_F) N (fun _ => LStep.none) (check_letter_body N)
theorem E_check_letter_ok (N : Nat) : EntOK Try.prog 125 (E_check_letter N) := EntOK.vars (E_check_letter_Tok N) Try.func125 (by kernel_rfl) (by kernel_rfl) (all_cons (check_letter_ok N) (all_nil))
theorem E_check_part_Tok (N : Nat) : TabOK Try.prog (E_check_part_T N) := TabOK.cons (E_check_letter_ok N) (TabOK.nil)
theorem check_part_v0_0_ok (N : Nat) : LV Try.prog (E_check_part_T N) ⟨0, Try.f122.ntmps, fun i => (check_part_F (@check_part_l0 N) i).at N, []⟩ (bodyAt Try.f122 3) (check_part_F0 (@check_part_l0 N)) (check_part_v0_0 (@check_part_l0 N)) := ⟨.inl fun _ _ _ => rfl, check_part_v0_0_round N (@check_letter N) (@check_part_l0 N)⟩
theorem check_part_s0 (N : Nat) : LStep Try.prog (E_check_part_T N) ⟨0, Try.f122.ntmps, fun i => (check_part_F (@check_part_l0 N) i).at N, []⟩ (bodyAt Try.f122 3) (check_part_F0 (@check_part_l0 N)) := all_cons (check_part_v0_0_ok N) (all_nil)
theorem check_part_ok (N : Nat) : VarOK Try.prog (E_check_part_T N) Try.f122 (codeOf Try.f122) (check_part_W (check_part N)) :=
  VarOK.of (E_check_part_Tok N) (by kernel_rfl) ⟨[], [], []⟩ (check_part_F (@check_part_l0 N)) N (fun _ => LStep.pick (check_part_s0 N) (LStep.none)) (check_part_body N (@check_letter N) (@check_part_l0 N))
theorem E_check_part_ok (N : Nat) : EntOK Try.prog 122 (E_check_part N) := EntOK.vars (E_check_part_Tok N) Try.func122 (by kernel_rfl) (by kernel_rfl) (all_cons (check_part_ok N) (all_nil))
theorem E_check_Name_Tok (N : Nat) : TabOK Try.prog (E_check_Name_T N) := TabOK.cons (E_check_part_ok N) (TabOK.cons (E_strings_Cut_ok N) (TabOK.nil))
theorem check_Name_ok (N : Nat) : VarOK Try.prog (E_check_Name_T N) Try.f116 (codeOf Try.f116) (check_Name_W (check_Name N)) :=
  VarOK.of (E_check_Name_Tok N) (by kernel_rfl) ⟨[], [], []⟩ (check_Name_F) N (fun _ => LStep.none) (check_Name_body N (@check_part N) (@strings_Cut N))
theorem E_check_Name_ok (N : Nat) : EntOK Try.prog 116 (E_check_Name N) := EntOK.vars (E_check_Name_Tok N) Try.func116 (by kernel_rfl) (by kernel_rfl) (all_cons (check_Name_ok N) (all_nil))
theorem E_names_May_Tok (N : Nat) : TabOK Try.prog (E_names_May_T N) := TabOK.cons (E_check_Name_ok N) (TabOK.nil)
theorem names_May_ok (N : Nat) : VarOK Try.prog (E_names_May_T N) Try.f93 (codeOf Try.f93) (names_May_W (names_May N)) :=
  VarOK.of (E_names_May_Tok N) (by kernel_rfl) ⟨[], [], []⟩ (names_May_F) N (fun _ => LStep.none) (names_May_body N (@check_Name N))
theorem E_names_May_ok (N : Nat) : EntOK Try.prog 93 (E_names_May N) := EntOK.vars (E_names_May_Tok N) Try.func93 (by kernel_rfl) (by kernel_rfl) (all_cons (names_May_ok N) (all_nil))
theorem E_names_Split_Tok (N : Nat) : TabOK Try.prog (E_names_Split_T N) := TabOK.cons (E_strings_Cut_ok N) (TabOK.cons (E_names_May_ok N) (TabOK.nil))
theorem names_Split_ok (N : Nat) : VarOK Try.prog (E_names_Split_T N) Try.f117 (codeOf Try.f117) (names_Split_W (names_Split N)) :=
  VarOK.of (E_names_Split_Tok N) (by kernel_rfl) ⟨[], [], []⟩ (names_Split_F) N (fun _ => LStep.none) (names_Split_body N (@strings_Cut N) (@names_May N))
theorem E_names_Split_ok (N : Nat) : EntOK Try.prog 117 (E_names_Split N) := EntOK.vars (E_names_Split_Tok N) Try.func117 (by kernel_rfl) (by kernel_rfl) (all_cons (names_Split_ok N) (all_nil))
theorem E_tree_of_Tok (N : Nat) : TabOK Try.prog (E_tree_of_T N) := TabOK.cons (E_names_Split_ok N) (TabOK.nil)
theorem tree_of_ok (N : Nat) : VarOK Try.prog (E_tree_of_T N) Try.f96 (codeOf Try.f96) (tree_of_W (tree_of N)) :=
  VarOK.of (E_tree_of_Tok N) (by kernel_rfl) ⟨[], [], []⟩ (tree_of_F) N (fun _ => LStep.none) (tree_of_body N (@names_Split N))
theorem E_tree_of_ok (N : Nat) : EntOK Try.prog 96 (E_tree_of N) := EntOK.vars (E_tree_of_Tok N) Try.func96 (by kernel_rfl) (by kernel_rfl) (all_cons (tree_of_ok N) (all_nil))
theorem E_tree_Tree_above_Tok (N : Nat) : TabOK Try.prog (E_tree_Tree_above_T N) := TabOK.nil
theorem tree_Tree_above_2de7_ok (N : Nat) : VarOK Try.prog (E_tree_Tree_above_T N) Try.f97 (codeOf Try.f97) (tree_Tree_above_2de7_W (tree_Tree_above_2de7 N)) :=
  VarOK.of (E_tree_Tree_above_Tok N) (by kernel_rfl) ⟨[], [], []⟩ (tree_Tree_above_2de7_F) N (fun _ => LStep.none) (tree_Tree_above_2de7_body N)
theorem E_tree_Tree_above_ok (N : Nat) : EntOK Try.prog 97 (E_tree_Tree_above N) := EntOK.vars (E_tree_Tree_above_Tok N) Try.func97 (by kernel_rfl) (by kernel_rfl) (all_cons (tree_Tree_above_2de7_ok N) (all_nil))
theorem E_tree_Tree_get_Tok (N : Nat) : TabOK Try.prog (E_tree_Tree_get_T N) := TabOK.cons (E_tree_Tree_above_ok N) (TabOK.cons (E_tree_of_ok N) (TabOK.nil))
theorem tree_Tree_get_fb98_ok (N : Nat) : VarOK Try.prog (E_tree_Tree_get_T N) Try.f94 (codeOf Try.f94) (tree_Tree_get_fb98_W (tree_Tree_get_fb98 N)) :=
  VarOK.of (E_tree_Tree_get_Tok N) (by kernel_rfl) ⟨[], [], []⟩ (tree_Tree_get_fb98_F) N (fun _ => LStep.none) (tree_Tree_get_fb98_body N (@tree_Tree_above_2de7 N) (@tree_of N))
theorem E_tree_Tree_get_ok (N : Nat) : EntOK Try.prog 94 (E_tree_Tree_get N) := EntOK.vars (E_tree_Tree_get_Tok N) Try.func94 (by kernel_rfl) (by kernel_rfl) (all_cons (tree_Tree_get_fb98_ok N) (all_nil))
theorem E_tree_Tree_Find_Tok (N : Nat) : TabOK Try.prog (E_tree_Tree_Find_T N) := TabOK.cons (E_tree_Tree_get_ok N) (TabOK.nil)
theorem tree_Tree_Find_fb98_ok (N : Nat) : VarOK Try.prog (E_tree_Tree_Find_T N) Try.f58 (codeOf Try.f58) (tree_Tree_Find_fb98_W (tree_Tree_Find_fb98 N)) :=
  VarOK.of (E_tree_Tree_Find_Tok N) (by kernel_rfl) ⟨[], [], []⟩ (tree_Tree_Find_fb98_F) N (fun _ => LStep.none) (tree_Tree_Find_fb98_body N (@tree_Tree_get_fb98 N))
theorem E_tree_Tree_Find_ok (N : Nat) : EntOK Try.prog 58 (E_tree_Tree_Find N) := EntOK.vars (E_tree_Tree_Find_Tok N) Try.func58 (by kernel_rfl) (by kernel_rfl) (all_cons (tree_Tree_Find_fb98_ok N) (all_nil))
theorem E_slices_Index__int_int_Tok (N : Nat) : TabOK Try.prog (E_slices_Index__int_int_T N) := TabOK.nil
theorem slices_Index__int_int_9a75_v0_0_ok (N : Nat) : LV Try.prog (E_slices_Index__int_int_T N) ⟨5, Try.f95.ntmps, fun i => (slices_Index__int_int_9a75_F (@slices_Index__int_int_9a75_l0 N) i).at N, [4]⟩ (bodyAt Try.f95 3) (slices_Index__int_int_9a75_F0 (@slices_Index__int_int_9a75_l0 N)) (slices_Index__int_int_9a75_v0_0 (@slices_Index__int_int_9a75_l0 N)) := ⟨.inl fun _ _ _ => rfl, slices_Index__int_int_9a75_v0_0_round N (@slices_Index__int_int_9a75_l0 N)⟩
theorem slices_Index__int_int_9a75_s0 (N : Nat) : LStep Try.prog (E_slices_Index__int_int_T N) ⟨5, Try.f95.ntmps, fun i => (slices_Index__int_int_9a75_F (@slices_Index__int_int_9a75_l0 N) i).at N, [4]⟩ (bodyAt Try.f95 3) (slices_Index__int_int_9a75_F0 (@slices_Index__int_int_9a75_l0 N)) := all_cons (slices_Index__int_int_9a75_v0_0_ok N) (all_nil)
theorem slices_Index__int_int_9a75_ok (N : Nat) : VarOK Try.prog (E_slices_Index__int_int_T N) Try.f95 (codeOf Try.f95) (slices_Index__int_int_9a75_W (slices_Index__int_int_9a75 N)) :=
  VarOK.of (E_slices_Index__int_int_Tok N) (by kernel_rfl) ⟨[], [], [4]⟩ (slices_Index__int_int_9a75_F (@slices_Index__int_int_9a75_l0 N)) N (fun _ => LStep.pick (slices_Index__int_int_9a75_s0 N) (LStep.none)) (slices_Index__int_int_9a75_body N (@slices_Index__int_int_9a75_l0 N))
theorem E_slices_Index__int_int_ok (N : Nat) : EntOK Try.prog 95 (E_slices_Index__int_int N) := EntOK.vars (E_slices_Index__int_int_Tok N) Try.func95 (by kernel_rfl) (by kernel_rfl) (all_cons (slices_Index__int_int_9a75_ok N) (all_nil))
theorem E_files_Files_free_Tok (N : Nat) : TabOK Try.prog (E_files_Files_free_T N) := TabOK.cons (E_slices_Index__int_int_ok N) (TabOK.nil)
theorem files_Files_free_18fa_ok (N : Nat) : VarOK Try.prog (E_files_Files_free_T N) Try.f59 (codeOf Try.f59) (files_Files_free_18fa_W (files_Files_free_18fa N)) :=
  VarOK.of (E_files_Files_free_Tok N) (by kernel_rfl) ⟨[], [], [4]⟩ (files_Files_free_18fa_F) N (fun _ => LStep.none) (files_Files_free_18fa_body N (@slices_Index__int_int_9a75 N))
theorem E_files_Files_free_ok (N : Nat) : EntOK Try.prog 59 (E_files_Files_free N) := EntOK.vars (E_files_Files_free_Tok N) Try.func59 (by kernel_rfl) (by kernel_rfl) (all_cons (files_Files_free_18fa_ok N) (all_nil))
theorem E_tree_Tree_Copy_Tok (N : Nat) : TabOK Try.prog (E_tree_Tree_Copy_T N) := TabOK.cons E_maps_Clone_map_tree_keytree_entry_tree_key_tree_entry_ok (TabOK.nil)
theorem tree_Tree_Copy_a28d_ok (N : Nat) : VarOK Try.prog (E_tree_Tree_Copy_T N) Try.f71 (codeOf Try.f71) (tree_Tree_Copy_a28d_W (tree_Tree_Copy_a28d N)) :=
  VarOK.of (E_tree_Tree_Copy_Tok N) (by kernel_rfl) ⟨[], [], []⟩ (tree_Tree_Copy_a28d_F) N (fun _ => LStep.none) (tree_Tree_Copy_a28d_body N @maps_Clone_map_tree_keytree_entry_tree_key_tree_entry_df6b)
theorem E_tree_Tree_Copy_ok (N : Nat) : EntOK Try.prog 71 (E_tree_Tree_Copy N) := EntOK.vars (E_tree_Tree_Copy_Tok N) Try.func71 (by kernel_rfl) (by kernel_rfl) (all_cons (tree_Tree_Copy_a28d_ok N) (all_nil))
theorem E_tree_Tree_Make_Tok (N : Nat) : TabOK Try.prog (E_tree_Tree_Make_T N) := TabOK.cons (E_tree_Tree_above_ok N) (TabOK.cons (E_tree_of_ok N) (TabOK.nil))
theorem tree_Tree_Make_c502_ok (N : Nat) : VarOK Try.prog (E_tree_Tree_Make_T N) Try.f61 (codeOf Try.f61) (tree_Tree_Make_c502_W (tree_Tree_Make_c502 N)) :=
  VarOK.of (E_tree_Tree_Make_Tok N) (by kernel_rfl) ⟨[], [], []⟩ (tree_Tree_Make_c502_F) N (fun _ => LStep.none) (tree_Tree_Make_c502_body N (@tree_Tree_above_2de7 N) (@tree_of N))
theorem E_tree_Tree_Make_ok (N : Nat) : EntOK Try.prog 61 (E_tree_Tree_Make N) := EntOK.vars (E_tree_Tree_Make_Tok N) Try.func61 (by kernel_rfl) (by kernel_rfl) (all_cons (tree_Tree_Make_c502_ok N) (all_nil))
theorem E_files_Files_may_Tok (N : Nat) : TabOK Try.prog (E_files_Files_may_T N) := TabOK.cons (E_tree_Tree_Make_ok N) (TabOK.cons (E_tree_Tree_Copy_ok N) (TabOK.nil))
theorem files_Files_may_f601_ok (N : Nat) : VarOK Try.prog (E_files_Files_may_T N) Try.f60 (codeOf Try.f60) (files_Files_may_f601_W (files_Files_may_f601 N)) :=
  VarOK.of (E_files_Files_may_Tok N) (by kernel_rfl) ⟨[], [], [4]⟩ (files_Files_may_f601_F) N (fun _ => LStep.none) (files_Files_may_f601_body N (@tree_Tree_Make_c502 N) (@tree_Tree_Copy_a28d N))
theorem E_files_Files_may_ok (N : Nat) : EntOK Try.prog 60 (E_files_Files_may N) := EntOK.vars (E_files_Files_may_Tok N) Try.func60 (by kernel_rfl) (by kernel_rfl) (all_cons (files_Files_may_f601_ok N) (all_nil))
theorem E_files_Files_Open_Tok (N : Nat) : TabOK Try.prog (E_files_Files_Open_T N) := TabOK.cons (E_tree_Tree_Make_ok N) (TabOK.cons (E_files_Files_may_ok N) (TabOK.cons (E_files_Files_free_ok N) (TabOK.cons (E_tree_Tree_Find_ok N) (TabOK.nil))))
theorem files_Files_Open_f601_ok (N : Nat) : VarOK Try.prog (E_files_Files_Open_T N) Try.f17 (codeOf Try.f17) (files_Files_Open_f601_W (files_Files_Open_f601 N)) :=
  VarOK.of (E_files_Files_Open_Tok N) (by kernel_rfl) ⟨[4], [], [4]⟩ (files_Files_Open_f601_F) N (fun _ => LStep.none) (files_Files_Open_f601_body N (@tree_Tree_Make_c502 N) (@files_Files_may_f601 N) (@files_Files_free_18fa N) (@tree_Tree_Find_fb98 N))
theorem E_files_Files_Open_ok (N : Nat) : EntOK Try.prog 17 (E_files_Files_Open N) := EntOK.vars (E_files_Files_Open_Tok N) Try.func17 (by kernel_rfl) (by kernel_rfl) (all_cons (files_Files_Open_f601_ok N) (all_nil))
theorem E_files_Files_file_Tok (N : Nat) : TabOK Try.prog (E_files_Files_file_T N) := TabOK.nil
theorem files_Files_file_b447_ok (N : Nat) : VarOK Try.prog (E_files_Files_file_T N) Try.f62 (codeOf Try.f62) (files_Files_file_b447_W (files_Files_file_b447 N)) :=
  VarOK.of (E_files_Files_file_Tok N) (by kernel_rfl) ⟨[], [], [4]⟩ (files_Files_file_b447_F) N (fun _ => LStep.none) (files_Files_file_b447_body N)
theorem E_files_Files_file_ok (N : Nat) : EntOK Try.prog 62 (E_files_Files_file N) := EntOK.vars (E_files_Files_file_Tok N) Try.func62 (by kernel_rfl) (by kernel_rfl) (all_cons (files_Files_file_b447_ok N) (all_nil))
theorem E_files_sized_Tok (N : Nat) : TabOK Try.prog (E_files_sized_T N) := TabOK.cons E_slices_Clone__byte_byte_ok (TabOK.nil)
theorem files_sized_v0_0_ok (N : Nat) : LV Try.prog (E_files_sized_T N) ⟨0, Try.f63.ntmps, fun i => (files_sized_F (@files_sized_l0 N) i).at N, []⟩ (bodyAt Try.f63 3) (files_sized_F0 (@files_sized_l0 N)) (files_sized_v0_0 (@files_sized_l0 N)) := ⟨.inl fun _ _ _ => rfl, files_sized_v0_0_round N @slices_Clone__byte_byte (@files_sized_l0 N)⟩
theorem files_sized_s0 (N : Nat) : LStep Try.prog (E_files_sized_T N) ⟨0, Try.f63.ntmps, fun i => (files_sized_F (@files_sized_l0 N) i).at N, []⟩ (bodyAt Try.f63 3) (files_sized_F0 (@files_sized_l0 N)) := all_cons (files_sized_v0_0_ok N) (all_nil)
theorem files_sized_ok (N : Nat) : VarOK Try.prog (E_files_sized_T N) Try.f63 (codeOf Try.f63) (files_sized_W (files_sized N)) :=
  VarOK.of (E_files_sized_Tok N) (by kernel_rfl) ⟨[], [], []⟩ (files_sized_F (@files_sized_l0 N)) N (fun _ => LStep.pick (files_sized_s0 N) (LStep.none)) (files_sized_body N @slices_Clone__byte_byte (@files_sized_l0 N))
theorem E_files_sized_ok (N : Nat) : EntOK Try.prog 63 (E_files_sized N) := EntOK.vars (E_files_sized_Tok N) Try.func63 (by kernel_rfl) (by kernel_rfl) (all_cons (files_sized_ok N) (all_nil))
theorem E_files_Files_Write_Tok (N : Nat) : TabOK Try.prog (E_files_Files_Write_T N) := TabOK.cons (E_files_sized_ok N) (TabOK.cons (E_files_Files_file_ok N) (TabOK.nil))
theorem files_Files_Write_5dfd_ok (N : Nat) : VarOK Try.prog (E_files_Files_Write_T N) Try.f19 (codeOf Try.f19) (files_Files_Write_5dfd_W (files_Files_Write_5dfd N)) :=
  VarOK.of (E_files_Files_Write_Tok N) (by kernel_rfl) ⟨[], [], [4, 5]⟩ (files_Files_Write_5dfd_F) N (fun _ => LStep.none) (files_Files_Write_5dfd_body N (@files_sized N) (@files_Files_file_b447 N))
theorem E_files_Files_Write_ok (N : Nat) : EntOK Try.prog 19 (E_files_Files_Write N) := EntOK.vars (E_files_Files_Write_Tok N) Try.func19 (by kernel_rfl) (by kernel_rfl) (all_cons (files_Files_Write_5dfd_ok N) (all_nil))
theorem E_files_Files_Seek_Tok (N : Nat) : TabOK Try.prog (E_files_Files_Seek_T N) := TabOK.cons (E_files_Files_file_ok N) (TabOK.nil)
theorem files_Files_Seek_0442_ok (N : Nat) : VarOK Try.prog (E_files_Files_Seek_T N) Try.f18 (codeOf Try.f18) (files_Files_Seek_0442_W (files_Files_Seek_0442 N)) :=
  VarOK.of (E_files_Files_Seek_Tok N) (by kernel_rfl) ⟨[], [], [4]⟩ (files_Files_Seek_0442_F) N (fun _ => LStep.none) (files_Files_Seek_0442_body N (@files_Files_file_b447 N))
theorem E_files_Files_Seek_ok (N : Nat) : EntOK Try.prog 18 (E_files_Files_Seek N) := EntOK.vars (E_files_Files_Seek_Tok N) Try.func18 (by kernel_rfl) (by kernel_rfl) (all_cons (files_Files_Seek_0442_ok N) (all_nil))
theorem E_files_Files_Read_Tok (N : Nat) : TabOK Try.prog (E_files_Files_Read_T N) := TabOK.cons E_slices_Clone__byte_byte_ok (TabOK.cons (E_files_Files_file_ok N) (TabOK.nil))
theorem files_Files_Read_0442_ok (N : Nat) : VarOK Try.prog (E_files_Files_Read_T N) Try.f21 (codeOf Try.f21) (files_Files_Read_0442_W (files_Files_Read_0442 N)) :=
  VarOK.of (E_files_Files_Read_Tok N) (by kernel_rfl) ⟨[], [(0, false, (.int .u8))], [4]⟩ (files_Files_Read_0442_F) N (fun _ => LStep.none) (files_Files_Read_0442_body N @slices_Clone__byte_byte (@files_Files_file_b447 N))
theorem E_files_Files_Read_ok (N : Nat) : EntOK Try.prog 21 (E_files_Files_Read N) := EntOK.vars (E_files_Files_Read_Tok N) Try.func21 (by kernel_rfl) (by kernel_rfl) (all_cons (files_Files_Read_0442_ok N) (all_nil))
theorem E_files_Files_Size_Tok (N : Nat) : TabOK Try.prog (E_files_Files_Size_T N) := TabOK.cons (E_files_Files_file_ok N) (TabOK.nil)
theorem files_Files_Size_b447_ok (N : Nat) : VarOK Try.prog (E_files_Files_Size_T N) Try.f25 (codeOf Try.f25) (files_Files_Size_b447_W (files_Files_Size_b447 N)) :=
  VarOK.of (E_files_Files_Size_Tok N) (by kernel_rfl) ⟨[], [], [4]⟩ (files_Files_Size_b447_F) N (fun _ => LStep.none) (files_Files_Size_b447_body N (@files_Files_file_b447 N))
theorem E_files_Files_Size_ok (N : Nat) : EntOK Try.prog 25 (E_files_Files_Size N) := EntOK.vars (E_files_Files_Size_Tok N) Try.func25 (by kernel_rfl) (by kernel_rfl) (all_cons (files_Files_Size_b447_ok N) (all_nil))
theorem E_law14_awake_Tok (N : Nat) : TabOK Try.prog (E_law14_awake_T N) := TabOK.cons (E_files_Files_Size_ok N) (TabOK.cons (E_files_Files_Read_ok N) (TabOK.cons (E_files_Files_Seek_ok N) (TabOK.cons (E_files_Files_Write_ok N) (TabOK.cons (E_files_Files_Open_ok N) (TabOK.cons (E_files_New_ok N) (TabOK.nil))))))
theorem law14_awake_ok (N : Nat) : VarOK Try.prog (E_law14_awake_T N) Try.f15 (codeOf Try.f15) (law14_awake_W (law14_awake N)) :=
  VarOK.of (E_law14_awake_Tok N) (by kernel_rfl) ⟨[], [], []⟩ (law14_awake_F) N (fun _ => LStep.none) (law14_awake_body N (@files_Files_Size_b447 N) (@files_Files_Read_0442 N) (@files_Files_Seek_0442 N) (@files_Files_Write_5dfd N) (@files_Files_Open_f601 N) (@files_New_38f2 N))
theorem E_law14_awake_ok (N : Nat) : EntOK Try.prog 15 (E_law14_awake N) := EntOK.vars (E_law14_awake_Tok N) Try.func15 (by kernel_rfl) (by kernel_rfl) (all_cons (law14_awake_ok N) (all_nil))
theorem E_files_Files_Data_Tok (N : Nat) : TabOK Try.prog (E_files_Files_Data_T N) := TabOK.cons E_slices_Clone__byte_byte_ok (TabOK.cons (E_tree_Tree_Find_ok N) (TabOK.nil))
theorem files_Files_Data_f601_ok (N : Nat) : VarOK Try.prog (E_files_Files_Data_T N) Try.f20 (codeOf Try.f20) (files_Files_Data_f601_W (files_Files_Data_f601 N)) :=
  VarOK.of (E_files_Files_Data_Tok N) (by kernel_rfl) ⟨[], [(0, false, (.int .u8))], [4]⟩ (files_Files_Data_f601_F) N (fun _ => LStep.none) (files_Files_Data_f601_body N @slices_Clone__byte_byte (@tree_Tree_Find_fb98 N))
theorem E_files_Files_Data_ok (N : Nat) : EntOK Try.prog 20 (E_files_Files_Data N) := EntOK.vars (E_files_Files_Data_Tok N) Try.func20 (by kernel_rfl) (by kernel_rfl) (all_cons (files_Files_Data_f601_ok N) (all_nil))
theorem E_files_Files_Close_Tok (N : Nat) : TabOK Try.prog (E_files_Files_Close_T N) := TabOK.cons (E_files_Files_file_ok N) (TabOK.nil)
theorem files_Files_Close_b447_ok (N : Nat) : VarOK Try.prog (E_files_Files_Close_T N) Try.f23 (codeOf Try.f23) (files_Files_Close_b447_W (files_Files_Close_b447 N)) :=
  VarOK.of (E_files_Files_Close_Tok N) (by kernel_rfl) ⟨[], [], [4]⟩ (files_Files_Close_b447_F) N (fun _ => LStep.none) (files_Files_Close_b447_body N (@files_Files_file_b447 N))
theorem E_files_Files_Close_ok (N : Nat) : EntOK Try.prog 23 (E_files_Files_Close N) := EntOK.vars (E_files_Files_Close_Tok N) Try.func23 (by kernel_rfl) (by kernel_rfl) (all_cons (files_Files_Close_b447_ok N) (all_nil))
theorem E_law14_FilesNew_Tok (N : Nat) : TabOK Try.prog (E_law14_FilesNew_T N) := TabOK.cons (E_files_Files_Close_ok N) (TabOK.cons (E_files_Files_Data_ok N) (TabOK.cons (E_files_Files_Open_ok N) (TabOK.cons (E_files_New_ok N) (TabOK.cons (E_law14_awake_ok N) (TabOK.nil)))))
theorem law14_FilesNew_v0_0_ok (N : Nat) : LV Try.prog (E_law14_FilesNew_T N) ⟨0, Try.f5.ntmps, fun i => (law14_FilesNew_F (@law14_FilesNew_l0 N) (@law14_FilesNew_lj0 N) (@law14_FilesNew_lj1 N) i).at N, []⟩ (bodyAt Try.f5 12) (law14_FilesNew_F0 (@law14_FilesNew_l0 N)) (law14_FilesNew_v0_0 (@law14_FilesNew_l0 N)) := ⟨.inl fun _ _ _ => rfl, law14_FilesNew_v0_0_round N (@files_Files_Close_b447 N) (@files_Files_Data_f601 N) (@files_Files_Open_f601 N) (@files_New_38f2 N) (@law14_awake N) (@law14_FilesNew_l0 N) (@law14_FilesNew_lj0 N) (@law14_FilesNew_lj1 N)⟩
theorem law14_FilesNew_s0 (N : Nat) : LStep Try.prog (E_law14_FilesNew_T N) ⟨0, Try.f5.ntmps, fun i => (law14_FilesNew_F (@law14_FilesNew_l0 N) (@law14_FilesNew_lj0 N) (@law14_FilesNew_lj1 N) i).at N, []⟩ (bodyAt Try.f5 12) (law14_FilesNew_F0 (@law14_FilesNew_l0 N)) := all_cons (law14_FilesNew_v0_0_ok N) (all_nil)
theorem law14_FilesNew_vj0_0_ok (N : Nat) : LV Try.prog (E_law14_FilesNew_T N) ⟨0, Try.f5.ntmps, fun i => (law14_FilesNew_F (@law14_FilesNew_l0 N) (@law14_FilesNew_lj0 N) (@law14_FilesNew_lj1 N) i).at N, []⟩ (bodyAt Try.f5 19) (law14_FilesNew_Fj0 (@law14_FilesNew_lj0 N)) (law14_FilesNew_vj0_0 (@law14_FilesNew_lj0 N)) := ⟨.inr ⟨by kernel_rfl, fun _ _ _ _ => rfl⟩, law14_FilesNew_vj0_0_round N (@files_Files_Close_b447 N) (@files_Files_Data_f601 N) (@files_Files_Open_f601 N) (@files_New_38f2 N) (@law14_awake N) (@law14_FilesNew_l0 N) (@law14_FilesNew_lj0 N) (@law14_FilesNew_lj1 N)⟩
theorem law14_FilesNew_sj0 (N : Nat) : LStep Try.prog (E_law14_FilesNew_T N) ⟨0, Try.f5.ntmps, fun i => (law14_FilesNew_F (@law14_FilesNew_l0 N) (@law14_FilesNew_lj0 N) (@law14_FilesNew_lj1 N) i).at N, []⟩ (bodyAt Try.f5 19) (law14_FilesNew_Fj0 (@law14_FilesNew_lj0 N)) := all_cons (law14_FilesNew_vj0_0_ok N) (all_nil)
theorem law14_FilesNew_vj1_0_ok (N : Nat) : LV Try.prog (E_law14_FilesNew_T N) ⟨0, Try.f5.ntmps, fun i => (law14_FilesNew_F (@law14_FilesNew_l0 N) (@law14_FilesNew_lj0 N) (@law14_FilesNew_lj1 N) i).at N, []⟩ (bodyAt Try.f5 28) (law14_FilesNew_Fj1 (@law14_FilesNew_lj1 N)) (law14_FilesNew_vj1_0 (@law14_FilesNew_lj1 N)) := ⟨.inr ⟨by kernel_rfl, fun _ _ _ _ => rfl⟩, law14_FilesNew_vj1_0_round N (@files_Files_Close_b447 N) (@files_Files_Data_f601 N) (@files_Files_Open_f601 N) (@files_New_38f2 N) (@law14_awake N) (@law14_FilesNew_l0 N) (@law14_FilesNew_lj0 N) (@law14_FilesNew_lj1 N)⟩
theorem law14_FilesNew_sj1 (N : Nat) : LStep Try.prog (E_law14_FilesNew_T N) ⟨0, Try.f5.ntmps, fun i => (law14_FilesNew_F (@law14_FilesNew_l0 N) (@law14_FilesNew_lj0 N) (@law14_FilesNew_lj1 N) i).at N, []⟩ (bodyAt Try.f5 28) (law14_FilesNew_Fj1 (@law14_FilesNew_lj1 N)) := all_cons (law14_FilesNew_vj1_0_ok N) (all_nil)
theorem law14_FilesNew_ok (N : Nat) : VarOK Try.prog (E_law14_FilesNew_T N) Try.f5 (codeOf Try.f5) (law14_FilesNew_W (law14_FilesNew N)) :=
  VarOK.of (E_law14_FilesNew_Tok N) (by kernel_rfl) ⟨[], [], []⟩ (law14_FilesNew_F (@law14_FilesNew_l0 N) (@law14_FilesNew_lj0 N) (@law14_FilesNew_lj1 N)) N (fun _ => LStep.pick (law14_FilesNew_s0 N) (LStep.pick (law14_FilesNew_sj0 N) (LStep.pick (law14_FilesNew_sj1 N) (LStep.none)))) (law14_FilesNew_body N (@files_Files_Close_b447 N) (@files_Files_Data_f601 N) (@files_Files_Open_f601 N) (@files_New_38f2 N) (@law14_awake N) (@law14_FilesNew_l0 N) (@law14_FilesNew_lj0 N) (@law14_FilesNew_lj1 N))
theorem E_law14_FilesNew_ok (N : Nat) : EntOK Try.prog 5 (E_law14_FilesNew N) := EntOK.vars (E_law14_FilesNew_Tok N) Try.func5 (by kernel_rfl) (by kernel_rfl) (all_cons (law14_FilesNew_ok N) (all_nil))
end Go.Proofs.Ytfeacgamgdpojaa
