/-
  Each entry is borne out (printed by a program of this work).
-/
import Derived.Test.YthdgncnbnallcaaX
import Derived.Test.YthdgncnbnallcaaQ0
import Derived.Test.YthdgncnbnallcaaQ1
import Derived.Test.YthdgncnbnallcaaQ2
import Derived.Test.YthdgncnbnallcaaQ3
set_option linter.unusedVariables false
set_option maxRecDepth 100000
namespace Go.Proofs.Ythdgncnbnallcaa
open Go.Gx
theorem E_stringslite_Index_Tok (N : Nat) : TabOK Try.prog (E_stringslite_Index_T N) := TabOK.cons E_stringslite_IndexByte_ok (TabOK.nil)
theorem stringslite_Index_ok (N : Nat) : VarOK Try.prog (E_stringslite_Index_T N) Try.f91 (codeOf Try.f91) (stringslite_Index_W (stringslite_Index N)) :=
  VarOK.of (E_stringslite_Index_Tok N) (by kernel_rfl) pn (stringslite_Index_F) N (fun _ => LStep.none) fun t u K => stringslite_Index_body N _ _ t u K
theorem E_stringslite_Index_ok (N : Nat) : EntOK Try.prog 91 (E_stringslite_Index N) := EntOK.vars (E_stringslite_Index_Tok N) Try.func91 (by kernel_rfl) (by kernel_rfl) (all_cons (stringslite_Index_ok N) (all_nil))
theorem E_stringslite_Cut_Tok (N : Nat) : TabOK Try.prog (E_stringslite_Cut_T N) := TabOK.cons (E_stringslite_Index_ok N) (TabOK.nil)
theorem stringslite_Cut_ok (N : Nat) : VarOK Try.prog (E_stringslite_Cut_T N) Try.f79 (codeOf Try.f79) (stringslite_Cut_W (stringslite_Cut N)) :=
  VarOK.of (E_stringslite_Cut_Tok N) (by kernel_rfl) pn (stringslite_Cut_F) N (fun _ => LStep.none) fun t u K => stringslite_Cut_body N _ _ t u K
theorem E_stringslite_Cut_ok (N : Nat) : EntOK Try.prog 79 (E_stringslite_Cut N) := EntOK.vars (E_stringslite_Cut_Tok N) Try.func79 (by kernel_rfl) (by kernel_rfl) (all_cons (stringslite_Cut_ok N) (all_nil))
theorem E_strings_Cut_Tok (N : Nat) : TabOK Try.prog (E_strings_Cut_T N) := TabOK.cons (E_stringslite_Cut_ok N) (TabOK.nil)
theorem strings_Cut_ok (N : Nat) : VarOK Try.prog (E_strings_Cut_T N) Try.f56 (codeOf Try.f56) (strings_Cut_W (strings_Cut N)) :=
  VarOK.of (E_strings_Cut_Tok N) (by kernel_rfl) pn (strings_Cut_F) N (fun _ => LStep.none) fun t u K => strings_Cut_body N _ _ t u K
theorem E_strings_Cut_ok (N : Nat) : EntOK Try.prog 56 (E_strings_Cut N) := EntOK.vars (E_strings_Cut_Tok N) Try.func56 (by kernel_rfl) (by kernel_rfl) (all_cons (strings_Cut_ok N) (all_nil))
theorem E_check_letter_Tok (N : Nat) : TabOK Try.prog (E_check_letter_T N) := TabOK.nil
theorem check_letter_ok (N : Nat) : VarOK Try.prog (E_check_letter_T N) Try.f80 (codeOf Try.f80) (check_letter_W (check_letter N)) :=
  VarOK.of (E_check_letter_Tok N) (by kernel_rfl) pn (check_letter_F) N (fun _ => LStep.none) fun t u K => check_letter_body N _ t u K
theorem E_check_letter_ok (N : Nat) : EntOK Try.prog 80 (E_check_letter N) := EntOK.vars (E_check_letter_Tok N) Try.func80 (by kernel_rfl) (by kernel_rfl) (all_cons (check_letter_ok N) (all_nil))
theorem E_check_part_Tok (N : Nat) : TabOK Try.prog (E_check_part_T N) := TabOK.cons (E_check_letter_ok N) (TabOK.nil)
theorem check_part_ok (N : Nat) : VarOK Try.prog (E_check_part_T N) Try.f57 (codeOf Try.f57) (check_part_W (check_part N)) :=
  VarOK.of (E_check_part_Tok N) (by kernel_rfl) pn (check_part_F (@check_part_l0 N)) N (fun _ => LStep.pick (all_cons ⟨.inl fun _ _ _ => rfl, fun n t u K => check_part_v0_0_round N _ _ _ n t u K⟩ (all_nil)) (LStep.none)) fun t u K => check_part_body N _ _ _ t u K
theorem E_check_part_ok (N : Nat) : EntOK Try.prog 57 (E_check_part N) := EntOK.vars (E_check_part_Tok N) Try.func57 (by kernel_rfl) (by kernel_rfl) (all_cons (check_part_ok N) (all_nil))
theorem E_check_Name_Tok (N : Nat) : TabOK Try.prog (E_check_Name_T N) := TabOK.cons (E_check_part_ok N) (TabOK.cons (E_strings_Cut_ok N) (TabOK.nil))
theorem check_Name_ok (N : Nat) : VarOK Try.prog (E_check_Name_T N) Try.f25 (codeOf Try.f25) (check_Name_W (check_Name N)) :=
  VarOK.of (E_check_Name_Tok N) (by kernel_rfl) pn (check_Name_F) N (fun _ => LStep.none) fun t u K => check_Name_body N _ _ _ t u K
theorem E_check_Name_ok (N : Nat) : EntOK Try.prog 25 (E_check_Name N) := EntOK.vars (E_check_Name_Tok N) Try.func25 (by kernel_rfl) (by kernel_rfl) (all_cons (check_Name_ok N) (all_nil))
theorem E_inst_table_Tok (N : Nat) : TabOK Try.prog (E_inst_table_T N) := TabOK.nil
theorem inst_table_ok (N : Nat) : VarOK Try.prog (E_inst_table_T N) Try.f33 (codeOf Try.f33) (inst_table_W (inst_table N)) :=
  VarOK.of (E_inst_table_Tok N) (by kernel_rfl) pn (inst_table_F) N (fun _ => LStep.none) fun t u K => inst_table_body N _ t u K
theorem E_inst_table_ok (N : Nat) : EntOK Try.prog 33 (E_inst_table N) := EntOK.vars (E_inst_table_Tok N) Try.func33 (by kernel_rfl) (by kernel_rfl) (all_cons (inst_table_ok N) (all_nil))
theorem E_inst_May_Tok (N : Nat) : TabOK Try.prog (E_inst_May_T N) := TabOK.cons (E_inst_table_ok N) (TabOK.nil)
theorem inst_May_ok (N : Nat) : VarOK Try.prog (E_inst_May_T N) Try.f58 (codeOf Try.f58) (inst_May_W (inst_May N)) :=
  VarOK.of (E_inst_May_Tok N) (by kernel_rfl) pn (inst_May_F) N (fun _ => LStep.none) fun t u K => inst_May_body N _ _ t u K
theorem E_inst_May_ok (N : Nat) : EntOK Try.prog 58 (E_inst_May N) := EntOK.vars (E_inst_May_Tok N) Try.func58 (by kernel_rfl) (by kernel_rfl) (all_cons (inst_May_ok N) (all_nil))
theorem E_check_names_Tok (N : Nat) : TabOK Try.prog (E_check_names_T N) := TabOK.nil
theorem check_names_ok (N : Nat) : VarOK Try.prog (E_check_names_T N) Try.f59 (codeOf Try.f59) (check_names_W (check_names N)) :=
  VarOK.of (E_check_names_Tok N) (by kernel_rfl) pn (check_names_F) N (fun _ => LStep.none) fun t u K => check_names_body N _ t u K
theorem E_check_names_ok (N : Nat) : EntOK Try.prog 59 (E_check_names N) := EntOK.vars (E_check_names_Tok N) Try.func59 (by kernel_rfl) (by kernel_rfl) (all_cons (check_names_ok N) (all_nil))
theorem E_inst_Jumps_Tok (N : Nat) : TabOK Try.prog (E_inst_Jumps_T N) := TabOK.nil
theorem inst_Jumps_ok (N : Nat) : VarOK Try.prog (E_inst_Jumps_T N) Try.f60 (codeOf Try.f60) (inst_Jumps_W (inst_Jumps N)) :=
  VarOK.of (E_inst_Jumps_Tok N) (by kernel_rfl) pn (inst_Jumps_F) N (fun _ => LStep.none) fun t u K => inst_Jumps_body N _ t u K
theorem E_inst_Jumps_ok (N : Nat) : EntOK Try.prog 60 (E_inst_Jumps N) := EntOK.vars (E_inst_Jumps_Tok N) Try.func60 (by kernel_rfl) (by kernel_rfl) (all_cons (inst_Jumps_ok N) (all_nil))
theorem E_inst_Ends_Tok (N : Nat) : TabOK Try.prog (E_inst_Ends_T N) := TabOK.nil
theorem inst_Ends_ok (N : Nat) : VarOK Try.prog (E_inst_Ends_T N) Try.f61 (codeOf Try.f61) (inst_Ends_W (inst_Ends N)) :=
  VarOK.of (E_inst_Ends_Tok N) (by kernel_rfl) pn (inst_Ends_F) N (fun _ => LStep.none) fun t u K => inst_Ends_body N _ t u K
theorem E_inst_Ends_ok (N : Nat) : EntOK Try.prog 61 (E_inst_Ends N) := EntOK.vars (E_inst_Ends_Tok N) Try.func61 (by kernel_rfl) (by kernel_rfl) (all_cons (inst_Ends_ok N) (all_nil))
theorem E_check_one_Tok (N : Nat) : TabOK Try.prog (E_check_one_T N) := TabOK.cons (E_inst_Ends_ok N) (TabOK.cons (E_inst_Jumps_ok N) (TabOK.cons (E_check_names_ok N) (TabOK.cons (E_inst_May_ok N) (TabOK.nil))))
theorem check_one_ebbf_ok (N : Nat) : VarOK Try.prog (E_check_one_T N) Try.f26 (codeOf Try.f26) (check_one_ebbf_W (check_one_ebbf N)) :=
  VarOK.of (E_check_one_Tok N) (by kernel_rfl) ⟨[], [], [0, 1]⟩ (check_one_ebbf_F) N (fun _ => LStep.none) fun t u K => check_one_ebbf_body N _ _ _ _ _ t u K
theorem E_check_one_ok (N : Nat) : EntOK Try.prog 26 (E_check_one N) := EntOK.vars (E_check_one_Tok N) Try.func26 (by kernel_rfl) (by kernel_rfl) (all_cons (check_one_ebbf_ok N) (all_nil))
theorem E_inst_Takes_Tok (N : Nat) : TabOK Try.prog (E_inst_Takes_T N) := TabOK.cons (E_inst_table_ok N) (TabOK.nil)
theorem inst_Takes_ok (N : Nat) : VarOK Try.prog (E_inst_Takes_T N) Try.f19 (codeOf Try.f19) (inst_Takes_W (inst_Takes N)) :=
  VarOK.of (E_inst_Takes_Tok N) (by kernel_rfl) pn (inst_Takes_F) N (fun _ => LStep.none) fun t u K => inst_Takes_body N _ _ t u K
theorem E_inst_Takes_ok (N : Nat) : EntOK Try.prog 19 (E_inst_Takes N) := EntOK.vars (E_inst_Takes_Tok N) Try.func19 (by kernel_rfl) (by kernel_rfl) (all_cons (inst_Takes_ok N) (all_nil))
theorem E_inst_Gives_Tok (N : Nat) : TabOK Try.prog (E_inst_Gives_T N) := TabOK.cons (E_inst_table_ok N) (TabOK.nil)
theorem inst_Gives_ok (N : Nat) : VarOK Try.prog (E_inst_Gives_T N) Try.f81 (codeOf Try.f81) (inst_Gives_W (inst_Gives N)) :=
  VarOK.of (E_inst_Gives_Tok N) (by kernel_rfl) pn (inst_Gives_F) N (fun _ => LStep.none) fun t u K => inst_Gives_body N _ _ t u K
theorem E_inst_Gives_ok (N : Nat) : EntOK Try.prog 81 (E_inst_Gives N) := EntOK.vars (E_inst_Gives_Tok N) Try.func81 (by kernel_rfl) (by kernel_rfl) (all_cons (inst_Gives_ok N) (all_nil))
theorem E_check_behind_Tok (N : Nat) : TabOK Try.prog (E_check_behind_T N) := TabOK.cons (E_inst_Gives_ok N) (TabOK.cons (E_inst_Takes_ok N) (TabOK.nil))
theorem check_behind_ok (N : Nat) : VarOK Try.prog (E_check_behind_T N) Try.f62 (codeOf Try.f62) (check_behind_W (check_behind N)) :=
  VarOK.of (E_check_behind_Tok N) (by kernel_rfl) pn (check_behind_F) N (fun _ => LStep.none) fun t u K => check_behind_body N _ _ _ t u K
theorem E_check_behind_ok (N : Nat) : EntOK Try.prog 62 (E_check_behind N) := EntOK.vars (E_check_behind_Tok N) Try.func62 (by kernel_rfl) (by kernel_rfl) (all_cons (check_behind_ok N) (all_nil))
theorem E_check_next_Tok (N : Nat) : TabOK Try.prog (E_check_next_T N) := TabOK.cons (E_inst_Jumps_ok N) (TabOK.cons (E_inst_Ends_ok N) (TabOK.nil))
theorem check_next_ebbf_ok (N : Nat) : VarOK Try.prog (E_check_next_T N) Try.f63 (codeOf Try.f63) (check_next_ebbf_W (check_next_ebbf N)) :=
  VarOK.of (E_check_next_Tok N) (by kernel_rfl) ⟨[], [(0, false, (.int .i64))], [0, 1]⟩ (check_next_ebbf_F) N (fun _ => LStep.none) fun t u K => check_next_ebbf_body N _ _ _ t u K
theorem E_check_next_ok (N : Nat) : EntOK Try.prog 63 (E_check_next N) := EntOK.vars (E_check_next_Tok N) Try.func63 (by kernel_rfl) (by kernel_rfl) (all_cons (check_next_ebbf_ok N) (all_nil))
theorem E_check_reach_Tok (N : Nat) : TabOK Try.prog (E_check_reach_T N) := TabOK.cons (E_check_next_ok N) (TabOK.cons (E_check_behind_ok N) (TabOK.nil))
theorem check_reach_87f1_ok (N : Nat) : VarOK Try.prog (E_check_reach_T N) Try.f27 (codeOf Try.f27) (check_reach_87f1_W (check_reach_87f1 N)) :=
  VarOK.of (E_check_reach_Tok N) (by kernel_rfl) ⟨[], [], [0, 1]⟩ (check_reach_87f1_F (@check_reach_87f1_l0 N) (@check_reach_87f1_l1 N) (@check_reach_87f1_l2 N) (@check_reach_87f1_l3 N)) N (fun _ => LStep.pick (all_cons ⟨.inl fun _ _ _ => rfl, fun n t u K => check_reach_87f1_v0_0_round N _ _ _ _ _ _ _ n t u K⟩ (all_nil)) (LStep.pick (all_cons ⟨.inl fun _ _ _ => rfl, fun n t u K => check_reach_87f1_v1_0_round N _ _ _ _ _ _ _ n t u K⟩ (all_nil)) (LStep.pick (all_cons ⟨.inl fun _ _ _ => rfl, fun n t u K => check_reach_87f1_v2_0_round N _ _ _ _ _ _ _ n t u K⟩ (all_nil)) (LStep.pick (all_cons ⟨.inl fun _ _ _ => rfl, fun n t u K => check_reach_87f1_v3_0_round N _ _ _ _ _ _ _ n t u K⟩ (all_nil)) (LStep.none))))) fun t u K => check_reach_87f1_body N _ _ _ _ _ _ _ t u K
theorem E_check_reach_ok (N : Nat) : EntOK Try.prog 27 (E_check_reach N) := EntOK.vars (E_check_reach_Tok N) Try.func27 (by kernel_rfl) (by kernel_rfl) (all_cons (check_reach_87f1_ok N) (all_nil))
theorem E_check_height_Tok (N : Nat) : TabOK Try.prog (E_check_height_T N) := TabOK.cons (E_check_behind_ok N) (TabOK.nil)
theorem check_height_866d_ok (N : Nat) : VarOK Try.prog (E_check_height_T N) Try.f28 (codeOf Try.f28) (check_height_866d_W (check_height_866d N)) :=
  VarOK.of (E_check_height_Tok N) (by kernel_rfl) ⟨[], [], [0, 1]⟩ (check_height_866d_F (@check_height_866d_l0 N)) N (fun _ => LStep.pick (all_cons ⟨.inl fun _ _ _ => rfl, fun n t u K => check_height_866d_v0_0_round N _ _ _ n t u K⟩ (all_nil)) (LStep.none)) fun t u K => check_height_866d_body N _ _ _ t u K
theorem E_check_height_ok (N : Nat) : EntOK Try.prog 28 (E_check_height N) := EntOK.vars (E_check_height_Tok N) Try.func28 (by kernel_rfl) (by kernel_rfl) (all_cons (check_height_866d_ok N) (all_nil))
theorem E_check_Run_Tok (N : Nat) : TabOK Try.prog (E_check_Run_T N) := TabOK.cons (E_check_height_ok N) (TabOK.cons (E_check_reach_ok N) (TabOK.cons (E_check_one_ok N) (TabOK.cons (E_check_Name_ok N) (TabOK.nil))))
theorem check_Run_87f1_ok (N : Nat) : VarOK Try.prog (E_check_Run_T N) Try.f12 (codeOf Try.f12) (check_Run_87f1_W (check_Run_87f1 N)) :=
  VarOK.of (E_check_Run_Tok N) (by kernel_rfl) ⟨[], [], [0, 1]⟩ (check_Run_87f1_F (@check_Run_87f1_l0 N) (@check_Run_87f1_l1 N) (@check_Run_87f1_l2 N)) N (fun _ => LStep.pick (all_cons ⟨.inl fun _ _ _ => rfl, fun n t u K => check_Run_87f1_v0_0_round N _ _ _ _ _ _ _ _ n t u K⟩ (all_nil)) (LStep.pick (all_cons ⟨.inl fun _ _ _ => rfl, fun n t u K => check_Run_87f1_v1_0_round N _ _ _ _ _ _ _ _ n t u K⟩ (all_nil)) (LStep.pick (all_cons ⟨.inl fun _ _ _ => rfl, fun n t u K => check_Run_87f1_v2_0_round N _ _ _ _ _ _ _ _ n t u K⟩ (all_nil)) (LStep.none)))) fun t u K => check_Run_87f1_body N _ _ _ _ _ _ _ _ t u K
theorem E_check_Run_ok (N : Nat) : EntOK Try.prog 12 (E_check_Run N) := EntOK.vars (E_check_Run_Tok N) Try.func12 (by kernel_rfl) (by kernel_rfl) (all_cons (check_Run_87f1_ok N) (all_nil))
theorem E_tree_New_Tok (N : Nat) : TabOK Try.prog (E_tree_New_T N) := TabOK.nil
theorem tree_New_1c12_ok (N : Nat) : VarOK Try.prog (E_tree_New_T N) Try.f29 (codeOf Try.f29) (tree_New_1c12_W (tree_New_1c12 N)) :=
  VarOK.of (E_tree_New_Tok N) (by kernel_rfl) pn (tree_New_1c12_F (@tree_New_1c12_l0 N)) N (fun _ => LStep.pick (all_cons ⟨.inl fun _ _ _ => rfl, fun n t u K => tree_New_1c12_v0_0_round N _ _ n t u K⟩ (all_nil)) (LStep.none)) fun t u K => tree_New_1c12_body N _ _ t u K
theorem E_tree_New_ok (N : Nat) : EntOK Try.prog 29 (E_tree_New N) := EntOK.vars (E_tree_New_Tok N) Try.func29 (by kernel_rfl) (by kernel_rfl) (all_cons (tree_New_1c12_ok N) (all_nil))
theorem E_files_New_Tok (N : Nat) : TabOK Try.prog (E_files_New_T N) := TabOK.cons (E_tree_New_ok N) (TabOK.nil)
theorem files_New_9d03_ok (N : Nat) : VarOK Try.prog (E_files_New_T N) Try.f13 (codeOf Try.f13) (files_New_9d03_W (files_New_9d03 N)) :=
  VarOK.of (E_files_New_Tok N) (by kernel_rfl) ⟨[], [], [0]⟩ (files_New_9d03_F (@files_New_9d03_l0 N)) N (fun _ => LStep.pick (all_cons ⟨.inl fun _ _ _ => rfl, fun n t u K => files_New_9d03_v0_0_round N _ _ _ n t u K⟩ (all_nil)) (LStep.none)) fun t u K => files_New_9d03_body N _ _ _ t u K
theorem E_files_New_ok (N : Nat) : EntOK Try.prog 13 (E_files_New N) := EntOK.vars (E_files_New_Tok N) Try.func13 (by kernel_rfl) (by kernel_rfl) (all_cons (files_New_9d03_ok N) (all_nil))
theorem E_run_made_1_Tok (N : Nat) : TabOK Try.prog (E_run_made_1_T N) := TabOK.nil
theorem run_made_1_ok (N : Nat) : VarOK Try.prog (E_run_made_1_T N) Try.f15 (codeOf Try.f15) (run_made_1_W (run_made_1 N)) :=
  VarOK.of (E_run_made_1_Tok N) (by kernel_rfl) pn (run_made_1_F) N (fun _ => LStep.none) fun t u K => run_made_1_body N _ t u K
theorem E_run_made_1_ok (N : Nat) : EntOK Try.prog 15 (E_run_made_1 N) := EntOK.vars (E_run_made_1_Tok N) Try.func15 (by kernel_rfl) (by kernel_rfl) (all_cons (run_made_1_ok N) (all_nil))
theorem E_slices_IndexFunc___byte__byte_Tok (N : Nat) : TabOK Try.prog (E_slices_IndexFunc___byte__byte_T N) := TabOK.cons (E_run_made_1_ok N) (TabOK.nil)
theorem slices_IndexFunc___byte__byte_0f9d_ok (N : Nat) : VarOK Try.prog (E_slices_IndexFunc___byte__byte_T N) Try.f31 (codeOf Try.f31) (slices_IndexFunc___byte__byte_0f9d_W (slices_IndexFunc___byte__byte_0f9d N)) :=
  VarOK.of (E_slices_IndexFunc___byte__byte_Tok N) (by kernel_rfl) ⟨[], [], [0]⟩ (slices_IndexFunc___byte__byte_0f9d_F (@slices_IndexFunc___byte__byte_0f9d_l0 N)) N (fun _ => LStep.pick (all_cons ⟨.inl fun _ _ _ => rfl, fun n t u K => slices_IndexFunc___byte__byte_0f9d_v0_0_round N _ _ _ n t u K⟩ (all_nil)) (LStep.none)) fun t u K => slices_IndexFunc___byte__byte_0f9d_body N _ _ _ t u K
theorem E_slices_IndexFunc___byte__byte_ok (N : Nat) : EntOK Try.prog 31 (E_slices_IndexFunc___byte__byte N) := EntOK.vars (E_slices_IndexFunc___byte__byte_Tok N) Try.func31 (by kernel_rfl) (by kernel_rfl) (all_cons (slices_IndexFunc___byte__byte_0f9d_ok N) (all_nil))
theorem E_slices_ContainsFunc___byte__byte_Tok (N : Nat) : TabOK Try.prog (E_slices_ContainsFunc___byte__byte_T N) := TabOK.cons (E_slices_IndexFunc___byte__byte_ok N) (TabOK.nil)
theorem slices_ContainsFunc___byte__byte_0f9d_ok (N : Nat) : VarOK Try.prog (E_slices_ContainsFunc___byte__byte_T N) Try.f14 (codeOf Try.f14) (slices_ContainsFunc___byte__byte_0f9d_W (slices_ContainsFunc___byte__byte_0f9d N)) :=
  VarOK.of (E_slices_ContainsFunc___byte__byte_Tok N) (by kernel_rfl) ⟨[], [], [0]⟩ (slices_ContainsFunc___byte__byte_0f9d_F) N (fun _ => LStep.none) fun t u K => slices_ContainsFunc___byte__byte_0f9d_body N _ _ t u K
theorem E_slices_ContainsFunc___byte__byte_ok (N : Nat) : EntOK Try.prog 14 (E_slices_ContainsFunc___byte__byte N) := EntOK.vars (E_slices_ContainsFunc___byte__byte_Tok N) Try.func14 (by kernel_rfl) (by kernel_rfl) (all_cons (slices_ContainsFunc___byte__byte_0f9d_ok N) (all_nil))
theorem E_fails_New_Tok (N : Nat) : TabOK Try.prog (E_fails_New_T N) := TabOK.cons E_slices_Clone__bool_bool_ok (TabOK.nil)
theorem fails_New_a594_ok (N : Nat) : VarOK Try.prog (E_fails_New_T N) Try.f16 (codeOf Try.f16) (fails_New_a594_W (fails_New_a594 N)) :=
  VarOK.of (E_fails_New_Tok N) (by kernel_rfl) ⟨[], [], [0]⟩ (fails_New_a594_F) N (fun _ => LStep.none) fun t u K => fails_New_a594_body N _ _ t u K
theorem E_fails_New_ok (N : Nat) : EntOK Try.prog 16 (E_fails_New N) := EntOK.vars (E_fails_New_Tok N) Try.func16 (by kernel_rfl) (by kernel_rfl) (all_cons (fails_New_a594_ok N) (all_nil))
theorem E_run_made_Tok (N : Nat) : TabOK Try.prog (E_run_made_T N) := TabOK.cons (E_fails_New_ok N) (TabOK.cons (E_slices_ContainsFunc___byte__byte_ok N) (TabOK.cons (E_files_New_ok N) (TabOK.cons (E_check_Run_ok N) (TabOK.nil))))
theorem run_made_32d2_ok (N : Nat) : VarOK Try.prog (E_run_made_T N) Try.f9 (codeOf Try.f9) (run_made_32d2_W (run_made_32d2 N)) :=
  VarOK.of (E_run_made_Tok N) (by kernel_rfl) ⟨[], [], [0, 1, 2, 3, 4]⟩ (run_made_32d2_F) N (fun _ => LStep.none) fun t u K => run_made_32d2_body N _ _ _ _ _ t u K
theorem E_run_made_ok (N : Nat) : EntOK Try.prog 9 (E_run_made N) := EntOK.vars (E_run_made_Tok N) Try.func9 (by kernel_rfl) (by kernel_rfl) (all_cons (run_made_32d2_ok N) (all_nil))
theorem E_run_machine_end_Tok (N : Nat) : TabOK Try.prog (E_run_machine_end_T N) := TabOK.nil
theorem run_machine_end_5a2b_ok (N : Nat) : VarOK Try.prog (E_run_machine_end_T N) Try.f10 (codeOf Try.f10) (run_machine_end_5a2b_W (run_machine_end_5a2b N)) :=
  VarOK.of (E_run_machine_end_Tok N) (by kernel_rfl) ⟨[], [], [1, 2, 3, 5, 6, 7]⟩ (run_machine_end_5a2b_F) N (fun _ => LStep.none) fun t u K => run_machine_end_5a2b_body N _ t u K
theorem run_machine_end_3f90_ok (N : Nat) : VarOK Try.prog (E_run_machine_end_T N) Try.f10 (codeOf Try.f10) (run_machine_end_3f90_W (run_machine_end_3f90 N)) :=
  VarOK.of (E_run_machine_end_Tok N) (by kernel_rfl) ⟨[], [], [1, 2, 3, 8, 10, 11, 12]⟩ (run_machine_end_3f90_F) N (fun _ => LStep.none) fun t u K => run_machine_end_3f90_body N _ t u K
theorem E_run_machine_end_ok (N : Nat) : EntOK Try.prog 10 (E_run_machine_end N) := EntOK.vars (E_run_machine_end_Tok N) Try.func10 (by kernel_rfl) (by kernel_rfl) (all_cons (run_machine_end_5a2b_ok N) (all_cons (run_machine_end_3f90_ok N) (all_nil)))
theorem E_inst_Falls_Tok (N : Nat) : TabOK Try.prog (E_inst_Falls_T N) := TabOK.nil
theorem inst_Falls_ok (N : Nat) : VarOK Try.prog (E_inst_Falls_T N) Try.f17 (codeOf Try.f17) (inst_Falls_W (inst_Falls N)) :=
  VarOK.of (E_inst_Falls_Tok N) (by kernel_rfl) pn (inst_Falls_F) N (fun _ => LStep.none) fun t u K => inst_Falls_body N _ t u K
theorem E_inst_Falls_ok (N : Nat) : EntOK Try.prog 17 (E_inst_Falls N) := EntOK.vars (E_inst_Falls_Tok N) Try.func17 (by kernel_rfl) (by kernel_rfl) (all_cons (inst_Falls_ok N) (all_nil))
theorem E_fails_Fails_Next_Tok (N : Nat) : TabOK Try.prog (E_fails_Fails_Next_T N) := TabOK.nil
theorem fails_Fails_Next_054a_ok (N : Nat) : VarOK Try.prog (E_fails_Fails_Next_T N) Try.f18 (codeOf Try.f18) (fails_Fails_Next_054a_W (fails_Fails_Next_054a N)) :=
  VarOK.of (E_fails_Fails_Next_Tok N) (by kernel_rfl) ⟨[], [], [1]⟩ (fails_Fails_Next_054a_F) N (fun _ => LStep.none) fun t u K => fails_Fails_Next_054a_body N _ t u K
theorem E_fails_Fails_Next_ok (N : Nat) : EntOK Try.prog 18 (E_fails_Fails_Next N) := EntOK.vars (E_fails_Fails_Next_Tok N) Try.func18 (by kernel_rfl) (by kernel_rfl) (all_cons (fails_Fails_Next_054a_ok N) (all_nil))
theorem E_run_machine_push_Tok (N : Nat) : TabOK Try.prog (E_run_machine_push_T N) := TabOK.nil
theorem run_machine_push_6121_ok (N : Nat) : VarOK Try.prog (E_run_machine_push_T N) Try.f34 (codeOf Try.f34) (run_machine_push_6121_W (run_machine_push_6121 N)) :=
  VarOK.of (E_run_machine_push_Tok N) (by kernel_rfl) ⟨[], [], [1, 2, 5, 6, 7]⟩ (run_machine_push_6121_F) N (fun _ => LStep.none) fun t u K => run_machine_push_6121_body N _ t u K
theorem run_machine_push_9b59_ok (N : Nat) : VarOK Try.prog (E_run_machine_push_T N) Try.f34 (codeOf Try.f34) (run_machine_push_9b59_W (run_machine_push_9b59 N)) :=
  VarOK.of (E_run_machine_push_Tok N) (by kernel_rfl) ⟨[], [], [1, 2, 3, 5, 6, 7]⟩ (run_machine_push_9b59_F) N (fun _ => LStep.none) fun t u K => run_machine_push_9b59_body N _ t u K
theorem run_machine_push_c21d_ok (N : Nat) : VarOK Try.prog (E_run_machine_push_T N) Try.f34 (codeOf Try.f34) (run_machine_push_c21d_W (run_machine_push_c21d N)) :=
  VarOK.of (E_run_machine_push_Tok N) (by kernel_rfl) ⟨[], [], [1, 2, 8, 10, 11, 12]⟩ (run_machine_push_c21d_F) N (fun _ => LStep.none) fun t u K => run_machine_push_c21d_body N _ t u K
theorem run_machine_push_684b_ok (N : Nat) : VarOK Try.prog (E_run_machine_push_T N) Try.f34 (codeOf Try.f34) (run_machine_push_684b_W (run_machine_push_684b N)) :=
  VarOK.of (E_run_machine_push_Tok N) (by kernel_rfl) ⟨[], [], [1, 2, 3, 8, 10, 11, 12]⟩ (run_machine_push_684b_F) N (fun _ => LStep.none) fun t u K => run_machine_push_684b_body N _ t u K
theorem E_run_machine_push_ok (N : Nat) : EntOK Try.prog 34 (E_run_machine_push N) := EntOK.vars (E_run_machine_push_Tok N) Try.func34 (by kernel_rfl) (by kernel_rfl) (all_cons (run_machine_push_6121_ok N) (all_cons (run_machine_push_9b59_ok N) (all_cons (run_machine_push_c21d_ok N) (all_cons (run_machine_push_684b_ok N) (all_nil)))))
theorem E_run_machine_answer_Tok (N : Nat) : TabOK Try.prog (E_run_machine_answer_T N) := TabOK.cons (E_run_machine_push_ok N) (TabOK.nil)
theorem run_machine_answer_6121_ok (N : Nat) : VarOK Try.prog (E_run_machine_answer_T N) Try.f20 (codeOf Try.f20) (run_machine_answer_6121_W (run_machine_answer_6121 N)) :=
  VarOK.of (E_run_machine_answer_Tok N) (by kernel_rfl) ⟨[], [], [1, 2, 5, 6, 7]⟩ (run_machine_answer_6121_F) N (fun _ => LStep.none) fun t u K => run_machine_answer_6121_body N _ _ _ _ _ t u K
theorem run_machine_answer_9b59_ok (N : Nat) : VarOK Try.prog (E_run_machine_answer_T N) Try.f20 (codeOf Try.f20) (run_machine_answer_9b59_W (run_machine_answer_9b59 N)) :=
  VarOK.of (E_run_machine_answer_Tok N) (by kernel_rfl) ⟨[], [], [1, 2, 3, 5, 6, 7]⟩ (run_machine_answer_9b59_F) N (fun _ => LStep.none) fun t u K => run_machine_answer_9b59_body N _ _ _ _ _ t u K
theorem run_machine_answer_c21d_ok (N : Nat) : VarOK Try.prog (E_run_machine_answer_T N) Try.f20 (codeOf Try.f20) (run_machine_answer_c21d_W (run_machine_answer_c21d N)) :=
  VarOK.of (E_run_machine_answer_Tok N) (by kernel_rfl) ⟨[], [], [1, 2, 8, 10, 11, 12]⟩ (run_machine_answer_c21d_F) N (fun _ => LStep.none) fun t u K => run_machine_answer_c21d_body N _ _ _ _ _ t u K
theorem run_machine_answer_684b_ok (N : Nat) : VarOK Try.prog (E_run_machine_answer_T N) Try.f20 (codeOf Try.f20) (run_machine_answer_684b_W (run_machine_answer_684b N)) :=
  VarOK.of (E_run_machine_answer_Tok N) (by kernel_rfl) ⟨[], [], [1, 2, 3, 8, 10, 11, 12]⟩ (run_machine_answer_684b_F) N (fun _ => LStep.none) fun t u K => run_machine_answer_684b_body N _ _ _ _ _ t u K
theorem E_run_machine_answer_ok (N : Nat) : EntOK Try.prog 20 (E_run_machine_answer N) := EntOK.vars (E_run_machine_answer_Tok N) Try.func20 (by kernel_rfl) (by kernel_rfl) (all_cons (run_machine_answer_6121_ok N) (all_cons (run_machine_answer_9b59_ok N) (all_cons (run_machine_answer_c21d_ok N) (all_cons (run_machine_answer_684b_ok N) (all_nil)))))
theorem E_run_machine_pop_Tok (N : Nat) : TabOK Try.prog (E_run_machine_pop_T N) := TabOK.nil
theorem run_machine_pop_9c77_ok (N : Nat) : VarOK Try.prog (E_run_machine_pop_T N) Try.f35 (codeOf Try.f35) (run_machine_pop_9c77_W (run_machine_pop_9c77 N)) :=
  VarOK.of (E_run_machine_pop_Tok N) (by kernel_rfl) ⟨[], [], [1, 2, 3, 5, 6, 7]⟩ (run_machine_pop_9c77_F) N (fun _ => LStep.none) fun t u K => run_machine_pop_9c77_body N _ t u K
theorem run_machine_pop_6326_ok (N : Nat) : VarOK Try.prog (E_run_machine_pop_T N) Try.f35 (codeOf Try.f35) (run_machine_pop_6326_W (run_machine_pop_6326 N)) :=
  VarOK.of (E_run_machine_pop_Tok N) (by kernel_rfl) ⟨[], [], [1, 2, 3, 8, 10, 11, 12]⟩ (run_machine_pop_6326_F) N (fun _ => LStep.none) fun t u K => run_machine_pop_6326_body N _ t u K
theorem E_run_machine_pop_ok (N : Nat) : EntOK Try.prog 35 (E_run_machine_pop N) := EntOK.vars (E_run_machine_pop_Tok N) Try.func35 (by kernel_rfl) (by kernel_rfl) (all_cons (run_machine_pop_9c77_ok N) (all_cons (run_machine_pop_6326_ok N) (all_nil)))
theorem E_run_operator_Tok (N : Nat) : TabOK Try.prog (E_run_operator_T N) := TabOK.nil
theorem run_operator_ok (N : Nat) : VarOK Try.prog (E_run_operator_T N) Try.f68 (codeOf Try.f68) (run_operator_W (run_operator N)) :=
  VarOK.of (E_run_operator_Tok N) (by kernel_rfl) pn (run_operator_F) N (fun _ => LStep.none) fun t u K => run_operator_body N _ t u K
theorem E_run_operator_ok (N : Nat) : EntOK Try.prog 68 (E_run_operator N) := EntOK.vars (E_run_operator_Tok N) Try.func68 (by kernel_rfl) (by kernel_rfl) (all_cons (run_operator_ok N) (all_nil))
theorem E_run_logic_Tok (N : Nat) : TabOK Try.prog (E_run_logic_T N) := TabOK.cons (E_run_operator_ok N) (TabOK.nil)
theorem run_logic_ok (N : Nat) : VarOK Try.prog (E_run_logic_T N) Try.f37 (codeOf Try.f37) (run_logic_W (run_logic N)) :=
  VarOK.of (E_run_logic_Tok N) (by kernel_rfl) pn (run_logic_F) N (fun _ => LStep.none) fun t u K => run_logic_body N _ _ t u K
theorem E_run_logic_ok (N : Nat) : EntOK Try.prog 37 (E_run_logic N) := EntOK.vars (E_run_logic_Tok N) Try.func37 (by kernel_rfl) (by kernel_rfl) (all_cons (run_logic_ok N) (all_nil))
theorem E_wide_May_Tok (N : Nat) : TabOK Try.prog (E_wide_May_T N) := TabOK.nil
theorem wide_May_ok (N : Nat) : VarOK Try.prog (E_wide_May_T N) Try.f66 (codeOf Try.f66) (wide_May_W (wide_May N)) :=
  VarOK.of (E_wide_May_Tok N) (by kernel_rfl) pn (wide_May_F) N (fun _ => LStep.none) fun t u K => wide_May_body N _ t u K
theorem E_wide_May_ok (N : Nat) : EntOK Try.prog 66 (E_wide_May N) := EntOK.vars (E_wide_May_Tok N) Try.func66 (by kernel_rfl) (by kernel_rfl) (all_cons (wide_May_ok N) (all_nil))
theorem E_wide_Mask_Tok (N : Nat) : TabOK Try.prog (E_wide_Mask_T N) := TabOK.cons (E_wide_May_ok N) (TabOK.nil)
theorem wide_Mask_ok (N : Nat) : VarOK Try.prog (E_wide_Mask_T N) Try.f40 (codeOf Try.f40) (wide_Mask_W (wide_Mask N)) :=
  VarOK.of (E_wide_Mask_Tok N) (by kernel_rfl) pn (wide_Mask_F) N (fun _ => LStep.none) fun t u K => wide_Mask_body N _ _ t u K
theorem E_wide_Mask_ok (N : Nat) : EntOK Try.prog 40 (E_wide_Mask N) := EntOK.vars (E_wide_Mask_Tok N) Try.func40 (by kernel_rfl) (by kernel_rfl) (all_cons (wide_Mask_ok N) (all_nil))
theorem E_wide_divided_Tok (N : Nat) : TabOK Try.prog (E_wide_divided_T N) := TabOK.cons (E_wide_Mask_ok N) (TabOK.nil)
theorem wide_divided_ok (N : Nat) : VarOK Try.prog (E_wide_divided_T N) Try.f84 (codeOf Try.f84) (wide_divided_W (wide_divided N)) :=
  VarOK.of (E_wide_divided_Tok N) (by kernel_rfl) pn (wide_divided_F) N (fun _ => LStep.none) fun t u K => wide_divided_body N _ _ t u K
theorem E_wide_divided_ok (N : Nat) : EntOK Try.prog 84 (E_wide_divided N) := EntOK.vars (E_wide_divided_Tok N) Try.func84 (by kernel_rfl) (by kernel_rfl) (all_cons (wide_divided_ok N) (all_nil))
theorem E_wide_rest_Tok (N : Nat) : TabOK Try.prog (E_wide_rest_T N) := TabOK.nil
theorem wide_rest_ok (N : Nat) : VarOK Try.prog (E_wide_rest_T N) Try.f85 (codeOf Try.f85) (wide_rest_W (wide_rest N)) :=
  VarOK.of (E_wide_rest_Tok N) (by kernel_rfl) pn (wide_rest_F) N (fun _ => LStep.none) fun t u K => wide_rest_body N _ t u K
theorem E_wide_rest_ok (N : Nat) : EntOK Try.prog 85 (E_wide_rest N) := EntOK.vars (E_wide_rest_Tok N) Try.func85 (by kernel_rfl) (by kernel_rfl) (all_cons (wide_rest_ok N) (all_nil))
theorem E_wide_truth_Tok (N : Nat) : TabOK Try.prog (E_wide_truth_T N) := TabOK.nil
theorem wide_truth_ok (N : Nat) : VarOK Try.prog (E_wide_truth_T N) Try.f86 (codeOf Try.f86) (wide_truth_W (wide_truth N)) :=
  VarOK.of (E_wide_truth_Tok N) (by kernel_rfl) pn (wide_truth_F) N (fun _ => LStep.none) fun t u K => wide_truth_body N _ t u K
theorem E_wide_truth_ok (N : Nat) : EntOK Try.prog 86 (E_wide_truth N) := EntOK.vars (E_wide_truth_Tok N) Try.func86 (by kernel_rfl) (by kernel_rfl) (all_cons (wide_truth_ok N) (all_nil))
theorem E_wide_reckon_Tok (N : Nat) : TabOK Try.prog (E_wide_reckon_T N) := TabOK.cons (E_wide_truth_ok N) (TabOK.cons (E_wide_rest_ok N) (TabOK.cons (E_wide_divided_ok N) (TabOK.nil)))
theorem wide_reckon_ok (N : Nat) : VarOK Try.prog (E_wide_reckon_T N) Try.f67 (codeOf Try.f67) (wide_reckon_W (wide_reckon N)) :=
  VarOK.of (E_wide_reckon_Tok N) (by kernel_rfl) pn (wide_reckon_F) N (fun _ => LStep.none) fun t u K => wide_reckon_body N _ _ _ _ t u K
theorem E_wide_reckon_ok (N : Nat) : EntOK Try.prog 67 (E_wide_reckon N) := EntOK.vars (E_wide_reckon_Tok N) Try.func67 (by kernel_rfl) (by kernel_rfl) (all_cons (wide_reckon_ok N) (all_nil))
theorem E_wide_Do_Tok (N : Nat) : TabOK Try.prog (E_wide_Do_T N) := TabOK.cons (E_wide_reckon_ok N) (TabOK.cons (E_wide_Mask_ok N) (TabOK.cons (E_wide_May_ok N) (TabOK.nil)))
theorem wide_Do_ok (N : Nat) : VarOK Try.prog (E_wide_Do_T N) Try.f36 (codeOf Try.f36) (wide_Do_W (wide_Do N)) :=
  VarOK.of (E_wide_Do_Tok N) (by kernel_rfl) pn (wide_Do_F) N (fun _ => LStep.none) fun t u K => wide_Do_body N _ _ _ _ t u K
theorem E_wide_Do_ok (N : Nat) : EntOK Try.prog 36 (E_wide_Do N) := EntOK.vars (E_wide_Do_Tok N) Try.func36 (by kernel_rfl) (by kernel_rfl) (all_cons (wide_Do_ok N) (all_nil))
theorem E_run_machine_reckon_Tok (N : Nat) : TabOK Try.prog (E_run_machine_reckon_T N) := TabOK.cons (E_run_machine_push_ok N) (TabOK.cons (E_wide_Do_ok N) (TabOK.cons (E_run_logic_ok N) (TabOK.cons (E_run_machine_end_ok N) (TabOK.cons (E_run_machine_pop_ok N) (TabOK.nil)))))
theorem run_machine_reckon_3c75_ok (N : Nat) : VarOK Try.prog (E_run_machine_reckon_T N) Try.f21 (codeOf Try.f21) (run_machine_reckon_3c75_W (run_machine_reckon_3c75 N)) :=
  VarOK.of (E_run_machine_reckon_Tok N) (by kernel_rfl) ⟨[], [], [1, 2, 3, 5, 6, 7]⟩ (run_machine_reckon_3c75_F) N (fun _ => LStep.none) fun t u K => run_machine_reckon_3c75_body N _ _ _ _ _ _ _ _ _ _ _ t u K
theorem run_machine_reckon_61a1_ok (N : Nat) : VarOK Try.prog (E_run_machine_reckon_T N) Try.f21 (codeOf Try.f21) (run_machine_reckon_61a1_W (run_machine_reckon_61a1 N)) :=
  VarOK.of (E_run_machine_reckon_Tok N) (by kernel_rfl) ⟨[], [], [1, 2, 3, 8, 10, 11, 12]⟩ (run_machine_reckon_61a1_F) N (fun _ => LStep.none) fun t u K => run_machine_reckon_61a1_body N _ _ _ _ _ _ _ _ _ _ _ t u K
theorem E_run_machine_reckon_ok (N : Nat) : EntOK Try.prog 21 (E_run_machine_reckon N) := EntOK.vars (E_run_machine_reckon_Tok N) Try.func21 (by kernel_rfl) (by kernel_rfl) (all_cons (run_machine_reckon_3c75_ok N) (all_cons (run_machine_reckon_61a1_ok N) (all_nil)))
theorem E_run_truth_Tok (N : Nat) : TabOK Try.prog (E_run_truth_T N) := TabOK.nil
theorem run_truth_ok (N : Nat) : VarOK Try.prog (E_run_truth_T N) Try.f38 (codeOf Try.f38) (run_truth_W (run_truth N)) :=
  VarOK.of (E_run_truth_Tok N) (by kernel_rfl) pn (run_truth_F) N (fun _ => LStep.none) fun t u K => run_truth_body N _ t u K
theorem E_run_truth_ok (N : Nat) : EntOK Try.prog 38 (E_run_truth N) := EntOK.vars (E_run_truth_Tok N) Try.func38 (by kernel_rfl) (by kernel_rfl) (all_cons (run_truth_ok N) (all_nil))
theorem E_run_machine_memory_Tok (N : Nat) : TabOK Try.prog (E_run_machine_memory_T N) := TabOK.cons (E_run_machine_push_ok N) (TabOK.cons (E_run_machine_end_ok N) (TabOK.cons (E_run_machine_pop_ok N) (TabOK.nil)))
theorem run_machine_memory_3c75_ok (N : Nat) : VarOK Try.prog (E_run_machine_memory_T N) Try.f39 (codeOf Try.f39) (run_machine_memory_3c75_W (run_machine_memory_3c75 N)) :=
  VarOK.of (E_run_machine_memory_Tok N) (by kernel_rfl) ⟨[], [], [1, 2, 3, 5, 6, 7]⟩ (run_machine_memory_3c75_F) N (fun _ => LStep.none) fun t u K => run_machine_memory_3c75_body N _ _ _ _ _ _ _ _ _ t u K
theorem run_machine_memory_61a1_ok (N : Nat) : VarOK Try.prog (E_run_machine_memory_T N) Try.f39 (codeOf Try.f39) (run_machine_memory_61a1_W (run_machine_memory_61a1 N)) :=
  VarOK.of (E_run_machine_memory_Tok N) (by kernel_rfl) ⟨[], [], [1, 2, 3, 8, 10, 11, 12]⟩ (run_machine_memory_61a1_F) N (fun _ => LStep.none) fun t u K => run_machine_memory_61a1_body N _ _ _ _ _ _ _ _ _ t u K
theorem E_run_machine_memory_ok (N : Nat) : EntOK Try.prog 39 (E_run_machine_memory N) := EntOK.vars (E_run_machine_memory_Tok N) Try.func39 (by kernel_rfl) (by kernel_rfl) (all_cons (run_machine_memory_3c75_ok N) (all_cons (run_machine_memory_61a1_ok N) (all_nil)))
theorem E_run_machine_plain_Tok (N : Nat) : TabOK Try.prog (E_run_machine_plain_T N) := TabOK.cons (E_run_machine_end_ok N) (TabOK.cons (E_wide_Mask_ok N) (TabOK.cons (E_run_machine_memory_ok N) (TabOK.cons (E_run_truth_ok N) (TabOK.cons (E_run_machine_pop_ok N) (TabOK.cons (E_run_machine_push_ok N) (TabOK.nil))))))
theorem run_machine_plain_ffdd_ok (N : Nat) : VarOK Try.prog (E_run_machine_plain_T N) Try.f22 (codeOf Try.f22) (run_machine_plain_ffdd_W (run_machine_plain_ffdd N)) :=
  VarOK.of (E_run_machine_plain_Tok N) (by kernel_rfl) ⟨[3, 7], [], [1, 2, 3, 5, 6, 7]⟩ (run_machine_plain_ffdd_F) N (fun _ => LStep.none) fun t u K => run_machine_plain_ffdd_body N _ _ _ _ _ _ _ _ _ _ _ _ _ t u K
theorem run_machine_plain_e571_ok (N : Nat) : VarOK Try.prog (E_run_machine_plain_T N) Try.f22 (codeOf Try.f22) (run_machine_plain_e571_W (run_machine_plain_e571 N)) :=
  VarOK.of (E_run_machine_plain_Tok N) (by kernel_rfl) ⟨[3, 12], [], [1, 2, 3, 8, 10, 11, 12]⟩ (run_machine_plain_e571_F) N (fun _ => LStep.none) fun t u K => run_machine_plain_e571_body N _ _ _ _ _ _ _ _ _ _ _ _ _ t u K
theorem E_run_machine_plain_ok (N : Nat) : EntOK Try.prog 22 (E_run_machine_plain N) := EntOK.vars (E_run_machine_plain_Tok N) Try.func22 (by kernel_rfl) (by kernel_rfl) (all_cons (run_machine_plain_ffdd_ok N) (all_cons (run_machine_plain_e571_ok N) (all_nil)))
theorem E_run_machine_name_Tok (N : Nat) : TabOK Try.prog (E_run_machine_name_T N) := TabOK.nil
theorem run_machine_name_3c75_ok (N : Nat) : VarOK Try.prog (E_run_machine_name_T N) Try.f42 (codeOf Try.f42) (run_machine_name_3c75_W (run_machine_name_3c75 N)) :=
  VarOK.of (E_run_machine_name_Tok N) (by kernel_rfl) ⟨[], [], [1, 2, 3, 5, 6, 7]⟩ (run_machine_name_3c75_F) N (fun _ => LStep.none) fun t u K => run_machine_name_3c75_body N _ t u K
theorem run_machine_name_61a1_ok (N : Nat) : VarOK Try.prog (E_run_machine_name_T N) Try.f42 (codeOf Try.f42) (run_machine_name_61a1_W (run_machine_name_61a1 N)) :=
  VarOK.of (E_run_machine_name_Tok N) (by kernel_rfl) ⟨[], [], [1, 2, 3, 8, 10, 11, 12]⟩ (run_machine_name_61a1_F) N (fun _ => LStep.none) fun t u K => run_machine_name_61a1_body N _ t u K
theorem E_run_machine_name_ok (N : Nat) : EntOK Try.prog 42 (E_run_machine_name N) := EntOK.vars (E_run_machine_name_Tok N) Try.func42 (by kernel_rfl) (by kernel_rfl) (all_cons (run_machine_name_3c75_ok N) (all_cons (run_machine_name_61a1_ok N) (all_nil)))
theorem E_files_Files_file_Tok (N : Nat) : TabOK Try.prog (E_files_Files_file_T N) := TabOK.nil
theorem files_Files_file_ok (N : Nat) : VarOK Try.prog (E_files_Files_file_T N) Try.f75 (codeOf Try.f75) (files_Files_file_W (files_Files_file N)) :=
  VarOK.of (E_files_Files_file_Tok N) (by kernel_rfl) pn (files_Files_file_F) N (fun _ => LStep.none) fun t u K => files_Files_file_body N _ t u K
theorem files_Files_file_b447_ok (N : Nat) : VarOK Try.prog (E_files_Files_file_T N) Try.f75 (codeOf Try.f75) (files_Files_file_b447_W (files_Files_file_b447 N)) :=
  VarOK.of (E_files_Files_file_Tok N) (by kernel_rfl) ⟨[], [], [4]⟩ (files_Files_file_b447_F) N (fun _ => LStep.none) fun t u K => files_Files_file_b447_body N _ t u K
theorem E_files_Files_file_ok (N : Nat) : EntOK Try.prog 75 (E_files_Files_file N) := EntOK.vars (E_files_Files_file_Tok N) Try.func75 (by kernel_rfl) (by kernel_rfl) (all_cons (files_Files_file_ok N) (all_cons (files_Files_file_b447_ok N) (all_nil)))
theorem E_files_Files_Close_Tok (N : Nat) : TabOK Try.prog (E_files_Files_Close_T N) := TabOK.cons (E_files_Files_file_ok N) (TabOK.nil)
theorem files_Files_Close_ok (N : Nat) : VarOK Try.prog (E_files_Files_Close_T N) Try.f48 (codeOf Try.f48) (files_Files_Close_W (files_Files_Close N)) :=
  VarOK.of (E_files_Files_Close_Tok N) (by kernel_rfl) pn (files_Files_Close_F) N (fun _ => LStep.none) fun t u K => files_Files_Close_body N _ _ _ t u K
theorem files_Files_Close_b447_ok (N : Nat) : VarOK Try.prog (E_files_Files_Close_T N) Try.f48 (codeOf Try.f48) (files_Files_Close_b447_W (files_Files_Close_b447 N)) :=
  VarOK.of (E_files_Files_Close_Tok N) (by kernel_rfl) ⟨[], [], [4]⟩ (files_Files_Close_b447_F) N (fun _ => LStep.none) fun t u K => files_Files_Close_b447_body N _ _ _ t u K
theorem E_files_Files_Close_ok (N : Nat) : EntOK Try.prog 48 (E_files_Files_Close N) := EntOK.vars (E_files_Files_Close_Tok N) Try.func48 (by kernel_rfl) (by kernel_rfl) (all_cons (files_Files_Close_ok N) (all_cons (files_Files_Close_b447_ok N) (all_nil)))
theorem E_files_Files_Size_Tok (N : Nat) : TabOK Try.prog (E_files_Files_Size_T N) := TabOK.cons (E_files_Files_file_ok N) (TabOK.nil)
theorem files_Files_Size_ok (N : Nat) : VarOK Try.prog (E_files_Files_Size_T N) Try.f49 (codeOf Try.f49) (files_Files_Size_W (files_Files_Size N)) :=
  VarOK.of (E_files_Files_Size_Tok N) (by kernel_rfl) pn (files_Files_Size_F) N (fun _ => LStep.none) fun t u K => files_Files_Size_body N _ _ _ t u K
theorem files_Files_Size_b447_ok (N : Nat) : VarOK Try.prog (E_files_Files_Size_T N) Try.f49 (codeOf Try.f49) (files_Files_Size_b447_W (files_Files_Size_b447 N)) :=
  VarOK.of (E_files_Files_Size_Tok N) (by kernel_rfl) ⟨[], [], [4]⟩ (files_Files_Size_b447_F) N (fun _ => LStep.none) fun t u K => files_Files_Size_b447_body N _ _ _ t u K
theorem E_files_Files_Size_ok (N : Nat) : EntOK Try.prog 49 (E_files_Files_Size N) := EntOK.vars (E_files_Files_Size_Tok N) Try.func49 (by kernel_rfl) (by kernel_rfl) (all_cons (files_Files_Size_ok N) (all_cons (files_Files_Size_b447_ok N) (all_nil)))
theorem E_files_Files_Seek_Tok (N : Nat) : TabOK Try.prog (E_files_Files_Seek_T N) := TabOK.cons (E_files_Files_file_ok N) (TabOK.nil)
theorem files_Files_Seek_ok (N : Nat) : VarOK Try.prog (E_files_Files_Seek_T N) Try.f51 (codeOf Try.f51) (files_Files_Seek_W (files_Files_Seek N)) :=
  VarOK.of (E_files_Files_Seek_Tok N) (by kernel_rfl) pn (files_Files_Seek_F) N (fun _ => LStep.none) fun t u K => files_Files_Seek_body N _ _ _ t u K
theorem files_Files_Seek_0442_ok (N : Nat) : VarOK Try.prog (E_files_Files_Seek_T N) Try.f51 (codeOf Try.f51) (files_Files_Seek_0442_W (files_Files_Seek_0442 N)) :=
  VarOK.of (E_files_Files_Seek_Tok N) (by kernel_rfl) ⟨[], [], [4]⟩ (files_Files_Seek_0442_F) N (fun _ => LStep.none) fun t u K => files_Files_Seek_0442_body N _ _ _ t u K
theorem E_files_Files_Seek_ok (N : Nat) : EntOK Try.prog 51 (E_files_Files_Seek N) := EntOK.vars (E_files_Files_Seek_Tok N) Try.func51 (by kernel_rfl) (by kernel_rfl) (all_cons (files_Files_Seek_ok N) (all_cons (files_Files_Seek_0442_ok N) (all_nil)))
theorem E_run_machine_argument_Tok (N : Nat) : TabOK Try.prog (E_run_machine_argument_T N) := TabOK.cons (E_run_machine_push_ok N) (TabOK.cons (E_run_machine_pop_ok N) (TabOK.nil))
theorem run_machine_argument_9c77_ok (N : Nat) : VarOK Try.prog (E_run_machine_argument_T N) Try.f55 (codeOf Try.f55) (run_machine_argument_9c77_W (run_machine_argument_9c77 N)) :=
  VarOK.of (E_run_machine_argument_Tok N) (by kernel_rfl) ⟨[], [], [1, 2, 3, 5, 6, 7]⟩ (run_machine_argument_9c77_F) N (fun _ => LStep.none) fun t u K => run_machine_argument_9c77_body N _ _ _ _ _ _ _ t u K
theorem run_machine_argument_6326_ok (N : Nat) : VarOK Try.prog (E_run_machine_argument_T N) Try.f55 (codeOf Try.f55) (run_machine_argument_6326_W (run_machine_argument_6326 N)) :=
  VarOK.of (E_run_machine_argument_Tok N) (by kernel_rfl) ⟨[], [], [1, 2, 3, 8, 10, 11, 12]⟩ (run_machine_argument_6326_F) N (fun _ => LStep.none) fun t u K => run_machine_argument_6326_body N _ _ _ _ _ _ _ t u K
theorem E_run_machine_argument_ok (N : Nat) : EntOK Try.prog 55 (E_run_machine_argument N) := EntOK.vars (E_run_machine_argument_Tok N) Try.func55 (by kernel_rfl) (by kernel_rfl) (all_cons (run_machine_argument_9c77_ok N) (all_cons (run_machine_argument_6326_ok N) (all_nil)))
theorem E_names_May_Tok (N : Nat) : TabOK Try.prog (E_names_May_T N) := TabOK.cons (E_check_Name_ok N) (TabOK.nil)
theorem names_May_ok (N : Nat) : VarOK Try.prog (E_names_May_T N) Try.f64 (codeOf Try.f64) (names_May_W (names_May N)) :=
  VarOK.of (E_names_May_Tok N) (by kernel_rfl) pn (names_May_F) N (fun _ => LStep.none) fun t u K => names_May_body N _ _ t u K
theorem E_names_May_ok (N : Nat) : EntOK Try.prog 64 (E_names_May N) := EntOK.vars (E_names_May_Tok N) Try.func64 (by kernel_rfl) (by kernel_rfl) (all_cons (names_May_ok N) (all_nil))
theorem E_names_Split_Tok (N : Nat) : TabOK Try.prog (E_names_Split_T N) := TabOK.cons (E_strings_Cut_ok N) (TabOK.cons (E_names_May_ok N) (TabOK.nil))
theorem names_Split_ok (N : Nat) : VarOK Try.prog (E_names_Split_T N) Try.f92 (codeOf Try.f92) (names_Split_W (names_Split N)) :=
  VarOK.of (E_names_Split_Tok N) (by kernel_rfl) pn (names_Split_F) N (fun _ => LStep.none) fun t u K => names_Split_body N _ _ _ t u K
theorem E_names_Split_ok (N : Nat) : EntOK Try.prog 92 (E_names_Split N) := EntOK.vars (E_names_Split_Tok N) Try.func92 (by kernel_rfl) (by kernel_rfl) (all_cons (names_Split_ok N) (all_nil))
theorem E_tree_of_Tok (N : Nat) : TabOK Try.prog (E_tree_of_T N) := TabOK.cons (E_names_Split_ok N) (TabOK.nil)
theorem tree_of_ok (N : Nat) : VarOK Try.prog (E_tree_of_T N) Try.f82 (codeOf Try.f82) (tree_of_W (tree_of N)) :=
  VarOK.of (E_tree_of_Tok N) (by kernel_rfl) pn (tree_of_F) N (fun _ => LStep.none) fun t u K => tree_of_body N _ _ t u K
theorem E_tree_of_ok (N : Nat) : EntOK Try.prog 82 (E_tree_of N) := EntOK.vars (E_tree_of_Tok N) Try.func82 (by kernel_rfl) (by kernel_rfl) (all_cons (tree_of_ok N) (all_nil))
theorem E_tree_Tree_above_Tok (N : Nat) : TabOK Try.prog (E_tree_Tree_above_T N) := TabOK.nil
theorem tree_Tree_above_2de7_ok (N : Nat) : VarOK Try.prog (E_tree_Tree_above_T N) Try.f83 (codeOf Try.f83) (tree_Tree_above_2de7_W (tree_Tree_above_2de7 N)) :=
  VarOK.of (E_tree_Tree_above_Tok N) (by kernel_rfl) pn (tree_Tree_above_2de7_F) N (fun _ => LStep.none) fun t u K => tree_Tree_above_2de7_body N _ t u K
theorem E_tree_Tree_above_ok (N : Nat) : EntOK Try.prog 83 (E_tree_Tree_above N) := EntOK.vars (E_tree_Tree_above_Tok N) Try.func83 (by kernel_rfl) (by kernel_rfl) (all_cons (tree_Tree_above_2de7_ok N) (all_nil))
theorem E_tree_Tree_get_Tok (N : Nat) : TabOK Try.prog (E_tree_Tree_get_T N) := TabOK.cons (E_tree_Tree_above_ok N) (TabOK.cons (E_tree_of_ok N) (TabOK.nil))
theorem tree_Tree_get_fb98_ok (N : Nat) : VarOK Try.prog (E_tree_Tree_get_T N) Try.f87 (codeOf Try.f87) (tree_Tree_get_fb98_W (tree_Tree_get_fb98 N)) :=
  VarOK.of (E_tree_Tree_get_Tok N) (by kernel_rfl) pn (tree_Tree_get_fb98_F) N (fun _ => LStep.none) fun t u K => tree_Tree_get_fb98_body N _ _ _ t u K
theorem E_tree_Tree_get_ok (N : Nat) : EntOK Try.prog 87 (E_tree_Tree_get N) := EntOK.vars (E_tree_Tree_get_Tok N) Try.func87 (by kernel_rfl) (by kernel_rfl) (all_cons (tree_Tree_get_fb98_ok N) (all_nil))
theorem E_tree_Tree_Find_Tok (N : Nat) : TabOK Try.prog (E_tree_Tree_Find_T N) := TabOK.cons (E_tree_Tree_get_ok N) (TabOK.nil)
theorem tree_Tree_Find_fb98_ok (N : Nat) : VarOK Try.prog (E_tree_Tree_Find_T N) Try.f69 (codeOf Try.f69) (tree_Tree_Find_fb98_W (tree_Tree_Find_fb98 N)) :=
  VarOK.of (E_tree_Tree_Find_Tok N) (by kernel_rfl) pn (tree_Tree_Find_fb98_F) N (fun _ => LStep.none) fun t u K => tree_Tree_Find_fb98_body N _ _ t u K
theorem E_tree_Tree_Find_ok (N : Nat) : EntOK Try.prog 69 (E_tree_Tree_Find N) := EntOK.vars (E_tree_Tree_Find_Tok N) Try.func69 (by kernel_rfl) (by kernel_rfl) (all_cons (tree_Tree_Find_fb98_ok N) (all_nil))
theorem E_slices_Index__int_int_Tok (N : Nat) : TabOK Try.prog (E_slices_Index__int_int_T N) := TabOK.nil
theorem slices_Index__int_int_9a75_ok (N : Nat) : VarOK Try.prog (E_slices_Index__int_int_T N) Try.f88 (codeOf Try.f88) (slices_Index__int_int_9a75_W (slices_Index__int_int_9a75 N)) :=
  VarOK.of (E_slices_Index__int_int_Tok N) (by kernel_rfl) ⟨[], [], [4]⟩ (slices_Index__int_int_9a75_F (@slices_Index__int_int_9a75_l0 N)) N (fun _ => LStep.pick (all_cons ⟨.inl fun _ _ _ => rfl, fun n t u K => slices_Index__int_int_9a75_v0_0_round N _ _ n t u K⟩ (all_nil)) (LStep.none)) fun t u K => slices_Index__int_int_9a75_body N _ _ t u K
theorem E_slices_Index__int_int_ok (N : Nat) : EntOK Try.prog 88 (E_slices_Index__int_int N) := EntOK.vars (E_slices_Index__int_int_Tok N) Try.func88 (by kernel_rfl) (by kernel_rfl) (all_cons (slices_Index__int_int_9a75_ok N) (all_nil))
theorem E_files_Files_free_Tok (N : Nat) : TabOK Try.prog (E_files_Files_free_T N) := TabOK.cons (E_slices_Index__int_int_ok N) (TabOK.nil)
theorem files_Files_free_18fa_ok (N : Nat) : VarOK Try.prog (E_files_Files_free_T N) Try.f70 (codeOf Try.f70) (files_Files_free_18fa_W (files_Files_free_18fa N)) :=
  VarOK.of (E_files_Files_free_Tok N) (by kernel_rfl) ⟨[], [], [4]⟩ (files_Files_free_18fa_F) N (fun _ => LStep.none) fun t u K => files_Files_free_18fa_body N _ _ t u K
theorem E_files_Files_free_ok (N : Nat) : EntOK Try.prog 70 (E_files_Files_free N) := EntOK.vars (E_files_Files_free_Tok N) Try.func70 (by kernel_rfl) (by kernel_rfl) (all_cons (files_Files_free_18fa_ok N) (all_nil))
theorem E_files_Files_Twin_Tok (N : Nat) : TabOK Try.prog (E_files_Files_Twin_T N) := TabOK.cons (E_files_Files_file_ok N) (TabOK.cons (E_files_Files_free_ok N) (TabOK.nil))
theorem files_Files_Twin_ok (N : Nat) : VarOK Try.prog (E_files_Files_Twin_T N) Try.f50 (codeOf Try.f50) (files_Files_Twin_W (files_Files_Twin N)) :=
  VarOK.of (E_files_Files_Twin_Tok N) (by kernel_rfl) pn (files_Files_Twin_F) N (fun _ => LStep.none) fun t u K => files_Files_Twin_body N _ _ _ _ t u K
theorem files_Files_Twin_b447_ok (N : Nat) : VarOK Try.prog (E_files_Files_Twin_T N) Try.f50 (codeOf Try.f50) (files_Files_Twin_b447_W (files_Files_Twin_b447 N)) :=
  VarOK.of (E_files_Files_Twin_Tok N) (by kernel_rfl) ⟨[], [], [4]⟩ (files_Files_Twin_b447_F) N (fun _ => LStep.none) fun t u K => files_Files_Twin_b447_body N _ _ _ _ t u K
theorem E_files_Files_Twin_ok (N : Nat) : EntOK Try.prog 50 (E_files_Files_Twin N) := EntOK.vars (E_files_Files_Twin_Tok N) Try.func50 (by kernel_rfl) (by kernel_rfl) (all_cons (files_Files_Twin_ok N) (all_cons (files_Files_Twin_b447_ok N) (all_nil)))
theorem E_tree_Tree_Copy_Tok (N : Nat) : TabOK Try.prog (E_tree_Tree_Copy_T N) := TabOK.cons E_maps_Clone_map_tree_keytree_entry_tree_key_tree_entry_ok (TabOK.nil)
theorem tree_Tree_Copy_a28d_ok (N : Nat) : VarOK Try.prog (E_tree_Tree_Copy_T N) Try.f89 (codeOf Try.f89) (tree_Tree_Copy_a28d_W (tree_Tree_Copy_a28d N)) :=
  VarOK.of (E_tree_Tree_Copy_Tok N) (by kernel_rfl) pn (tree_Tree_Copy_a28d_F) N (fun _ => LStep.none) fun t u K => tree_Tree_Copy_a28d_body N _ _ t u K
theorem E_tree_Tree_Copy_ok (N : Nat) : EntOK Try.prog 89 (E_tree_Tree_Copy N) := EntOK.vars (E_tree_Tree_Copy_Tok N) Try.func89 (by kernel_rfl) (by kernel_rfl) (all_cons (tree_Tree_Copy_a28d_ok N) (all_nil))
theorem E_tree_Tree_Make_Tok (N : Nat) : TabOK Try.prog (E_tree_Tree_Make_T N) := TabOK.cons (E_tree_Tree_above_ok N) (TabOK.cons (E_tree_of_ok N) (TabOK.nil))
theorem tree_Tree_Make_c502_ok (N : Nat) : VarOK Try.prog (E_tree_Tree_Make_T N) Try.f65 (codeOf Try.f65) (tree_Tree_Make_c502_W (tree_Tree_Make_c502 N)) :=
  VarOK.of (E_tree_Tree_Make_Tok N) (by kernel_rfl) pn (tree_Tree_Make_c502_F) N (fun _ => LStep.none) fun t u K => tree_Tree_Make_c502_body N _ _ _ t u K
theorem E_tree_Tree_Make_ok (N : Nat) : EntOK Try.prog 65 (E_tree_Tree_Make N) := EntOK.vars (E_tree_Tree_Make_Tok N) Try.func65 (by kernel_rfl) (by kernel_rfl) (all_cons (tree_Tree_Make_c502_ok N) (all_nil))
theorem E_files_Files_Mkdir_Tok (N : Nat) : TabOK Try.prog (E_files_Files_Mkdir_T N) := TabOK.cons (E_tree_Tree_Make_ok N) (TabOK.nil)
theorem files_Files_Mkdir_ok (N : Nat) : VarOK Try.prog (E_files_Files_Mkdir_T N) Try.f45 (codeOf Try.f45) (files_Files_Mkdir_W (files_Files_Mkdir N)) :=
  VarOK.of (E_files_Files_Mkdir_Tok N) (by kernel_rfl) pn (files_Files_Mkdir_F) N (fun _ => LStep.none) fun t u K => files_Files_Mkdir_body N _ _ t u K
theorem files_Files_Mkdir_f601_ok (N : Nat) : VarOK Try.prog (E_files_Files_Mkdir_T N) Try.f45 (codeOf Try.f45) (files_Files_Mkdir_f601_W (files_Files_Mkdir_f601 N)) :=
  VarOK.of (E_files_Files_Mkdir_Tok N) (by kernel_rfl) ⟨[], [], [4]⟩ (files_Files_Mkdir_f601_F) N (fun _ => LStep.none) fun t u K => files_Files_Mkdir_f601_body N _ _ t u K
theorem E_files_Files_Mkdir_ok (N : Nat) : EntOK Try.prog 45 (E_files_Files_Mkdir N) := EntOK.vars (E_files_Files_Mkdir_Tok N) Try.func45 (by kernel_rfl) (by kernel_rfl) (all_cons (files_Files_Mkdir_ok N) (all_cons (files_Files_Mkdir_f601_ok N) (all_nil)))
theorem E_files_Files_may_Tok (N : Nat) : TabOK Try.prog (E_files_Files_may_T N) := TabOK.cons (E_tree_Tree_Make_ok N) (TabOK.cons (E_tree_Tree_Copy_ok N) (TabOK.nil))
theorem files_Files_may_f601_ok (N : Nat) : VarOK Try.prog (E_files_Files_may_T N) Try.f71 (codeOf Try.f71) (files_Files_may_f601_W (files_Files_may_f601 N)) :=
  VarOK.of (E_files_Files_may_Tok N) (by kernel_rfl) ⟨[], [], [4]⟩ (files_Files_may_f601_F) N (fun _ => LStep.none) fun t u K => files_Files_may_f601_body N _ _ _ t u K
theorem E_files_Files_may_ok (N : Nat) : EntOK Try.prog 71 (E_files_Files_may N) := EntOK.vars (E_files_Files_may_Tok N) Try.func71 (by kernel_rfl) (by kernel_rfl) (all_cons (files_Files_may_f601_ok N) (all_nil))
theorem E_files_Files_Open_Tok (N : Nat) : TabOK Try.prog (E_files_Files_Open_T N) := TabOK.cons (E_tree_Tree_Make_ok N) (TabOK.cons (E_files_Files_may_ok N) (TabOK.cons (E_files_Files_free_ok N) (TabOK.cons (E_tree_Tree_Find_ok N) (TabOK.nil))))
theorem files_Files_Open_ok (N : Nat) : VarOK Try.prog (E_files_Files_Open_T N) Try.f41 (codeOf Try.f41) (files_Files_Open_W (files_Files_Open N)) :=
  VarOK.of (E_files_Files_Open_Tok N) (by kernel_rfl) pn (files_Files_Open_F) N (fun _ => LStep.none) fun t u K => files_Files_Open_body N _ _ _ _ _ t u K
theorem files_Files_Open_f601_ok (N : Nat) : VarOK Try.prog (E_files_Files_Open_T N) Try.f41 (codeOf Try.f41) (files_Files_Open_f601_W (files_Files_Open_f601 N)) :=
  VarOK.of (E_files_Files_Open_Tok N) (by kernel_rfl) ⟨[4], [], [4]⟩ (files_Files_Open_f601_F) N (fun _ => LStep.none) fun t u K => files_Files_Open_f601_body N _ _ _ _ _ t u K
theorem E_files_Files_Open_ok (N : Nat) : EntOK Try.prog 41 (E_files_Files_Open N) := EntOK.vars (E_files_Files_Open_Tok N) Try.func41 (by kernel_rfl) (by kernel_rfl) (all_cons (files_Files_Open_ok N) (all_cons (files_Files_Open_f601_ok N) (all_nil)))
theorem E_tree_Tree_Drop_Tok (N : Nat) : TabOK Try.prog (E_tree_Tree_Drop_T N) := TabOK.cons (E_tree_of_ok N) (TabOK.cons E_tree_Tree_many_ok (TabOK.cons (E_tree_Tree_get_ok N) (TabOK.nil)))
theorem tree_Tree_Drop_c502_ok (N : Nat) : VarOK Try.prog (E_tree_Tree_Drop_T N) Try.f72 (codeOf Try.f72) (tree_Tree_Drop_c502_W (tree_Tree_Drop_c502 N)) :=
  VarOK.of (E_tree_Tree_Drop_Tok N) (by kernel_rfl) pn (tree_Tree_Drop_c502_F) N (fun _ => LStep.none) fun t u K => tree_Tree_Drop_c502_body N _ _ _ _ t u K
theorem E_tree_Tree_Drop_ok (N : Nat) : EntOK Try.prog 72 (E_tree_Tree_Drop N) := EntOK.vars (E_tree_Tree_Drop_Tok N) Try.func72 (by kernel_rfl) (by kernel_rfl) (all_cons (tree_Tree_Drop_c502_ok N) (all_nil))
theorem E_files_Files_Unlink_Tok (N : Nat) : TabOK Try.prog (E_files_Files_Unlink_T N) := TabOK.cons (E_tree_Tree_Drop_ok N) (TabOK.nil)
theorem files_Files_Unlink_ok (N : Nat) : VarOK Try.prog (E_files_Files_Unlink_T N) Try.f43 (codeOf Try.f43) (files_Files_Unlink_W (files_Files_Unlink N)) :=
  VarOK.of (E_files_Files_Unlink_Tok N) (by kernel_rfl) pn (files_Files_Unlink_F) N (fun _ => LStep.none) fun t u K => files_Files_Unlink_body N _ _ t u K
theorem files_Files_Unlink_f601_ok (N : Nat) : VarOK Try.prog (E_files_Files_Unlink_T N) Try.f43 (codeOf Try.f43) (files_Files_Unlink_f601_W (files_Files_Unlink_f601 N)) :=
  VarOK.of (E_files_Files_Unlink_Tok N) (by kernel_rfl) ⟨[], [], [4]⟩ (files_Files_Unlink_f601_F) N (fun _ => LStep.none) fun t u K => files_Files_Unlink_f601_body N _ _ t u K
theorem E_files_Files_Unlink_ok (N : Nat) : EntOK Try.prog 43 (E_files_Files_Unlink N) := EntOK.vars (E_files_Files_Unlink_Tok N) Try.func43 (by kernel_rfl) (by kernel_rfl) (all_cons (files_Files_Unlink_ok N) (all_cons (files_Files_Unlink_f601_ok N) (all_nil)))
theorem E_files_Files_Rmdir_Tok (N : Nat) : TabOK Try.prog (E_files_Files_Rmdir_T N) := TabOK.cons (E_tree_Tree_Drop_ok N) (TabOK.nil)
theorem files_Files_Rmdir_ok (N : Nat) : VarOK Try.prog (E_files_Files_Rmdir_T N) Try.f46 (codeOf Try.f46) (files_Files_Rmdir_W (files_Files_Rmdir N)) :=
  VarOK.of (E_files_Files_Rmdir_Tok N) (by kernel_rfl) pn (files_Files_Rmdir_F) N (fun _ => LStep.none) fun t u K => files_Files_Rmdir_body N _ _ t u K
theorem files_Files_Rmdir_f601_ok (N : Nat) : VarOK Try.prog (E_files_Files_Rmdir_T N) Try.f46 (codeOf Try.f46) (files_Files_Rmdir_f601_W (files_Files_Rmdir_f601 N)) :=
  VarOK.of (E_files_Files_Rmdir_Tok N) (by kernel_rfl) ⟨[], [], [4]⟩ (files_Files_Rmdir_f601_F) N (fun _ => LStep.none) fun t u K => files_Files_Rmdir_f601_body N _ _ t u K
theorem E_files_Files_Rmdir_ok (N : Nat) : EntOK Try.prog 46 (E_files_Files_Rmdir N) := EntOK.vars (E_files_Files_Rmdir_Tok N) Try.func46 (by kernel_rfl) (by kernel_rfl) (all_cons (files_Files_Rmdir_ok N) (all_cons (files_Files_Rmdir_f601_ok N) (all_nil)))
theorem E_tree_Tree_Move_Tok (N : Nat) : TabOK Try.prog (E_tree_Tree_Move_T N) := TabOK.cons (E_tree_Tree_above_ok N) (TabOK.cons (E_tree_of_ok N) (TabOK.cons (E_tree_Tree_get_ok N) (TabOK.nil)))
theorem tree_Tree_Move_f9be_ok (N : Nat) : VarOK Try.prog (E_tree_Tree_Move_T N) Try.f73 (codeOf Try.f73) (tree_Tree_Move_f9be_W (tree_Tree_Move_f9be N)) :=
  VarOK.of (E_tree_Tree_Move_Tok N) (by kernel_rfl) pn (tree_Tree_Move_f9be_F) N (fun _ => LStep.none) fun t u K => tree_Tree_Move_f9be_body N _ _ _ _ t u K
theorem E_tree_Tree_Move_ok (N : Nat) : EntOK Try.prog 73 (E_tree_Tree_Move N) := EntOK.vars (E_tree_Tree_Move_Tok N) Try.func73 (by kernel_rfl) (by kernel_rfl) (all_cons (tree_Tree_Move_f9be_ok N) (all_nil))
theorem E_files_Files_Rename_Tok (N : Nat) : TabOK Try.prog (E_files_Files_Rename_T N) := TabOK.cons (E_tree_Tree_Move_ok N) (TabOK.nil)
theorem files_Files_Rename_ok (N : Nat) : VarOK Try.prog (E_files_Files_Rename_T N) Try.f44 (codeOf Try.f44) (files_Files_Rename_W (files_Files_Rename N)) :=
  VarOK.of (E_files_Files_Rename_Tok N) (by kernel_rfl) pn (files_Files_Rename_F) N (fun _ => LStep.none) fun t u K => files_Files_Rename_body N _ _ t u K
theorem files_Files_Rename_94d5_ok (N : Nat) : VarOK Try.prog (E_files_Files_Rename_T N) Try.f44 (codeOf Try.f44) (files_Files_Rename_94d5_W (files_Files_Rename_94d5 N)) :=
  VarOK.of (E_files_Files_Rename_Tok N) (by kernel_rfl) ⟨[], [], [4]⟩ (files_Files_Rename_94d5_F) N (fun _ => LStep.none) fun t u K => files_Files_Rename_94d5_body N _ _ t u K
theorem E_files_Files_Rename_ok (N : Nat) : EntOK Try.prog 44 (E_files_Files_Rename N) := EntOK.vars (E_files_Files_Rename_Tok N) Try.func44 (by kernel_rfl) (by kernel_rfl) (all_cons (files_Files_Rename_ok N) (all_cons (files_Files_Rename_94d5_ok N) (all_nil)))
theorem E_tree_Tree_Many_Tok (N : Nat) : TabOK Try.prog (E_tree_Tree_Many_T N) := TabOK.cons E_tree_Tree_many_ok (TabOK.cons (E_tree_Tree_get_ok N) (TabOK.nil))
theorem tree_Tree_Many_fb98_ok (N : Nat) : VarOK Try.prog (E_tree_Tree_Many_T N) Try.f74 (codeOf Try.f74) (tree_Tree_Many_fb98_W (tree_Tree_Many_fb98 N)) :=
  VarOK.of (E_tree_Tree_Many_Tok N) (by kernel_rfl) pn (tree_Tree_Many_fb98_F) N (fun _ => LStep.none) fun t u K => tree_Tree_Many_fb98_body N _ _ _ t u K
theorem E_tree_Tree_Many_ok (N : Nat) : EntOK Try.prog 74 (E_tree_Tree_Many N) := EntOK.vars (E_tree_Tree_Many_Tok N) Try.func74 (by kernel_rfl) (by kernel_rfl) (all_cons (tree_Tree_Many_fb98_ok N) (all_nil))
theorem E_files_Files_List_Tok (N : Nat) : TabOK Try.prog (E_files_Files_List_T N) := TabOK.cons (E_tree_Tree_Many_ok N) (TabOK.nil)
theorem files_Files_List_ok (N : Nat) : VarOK Try.prog (E_files_Files_List_T N) Try.f47 (codeOf Try.f47) (files_Files_List_W (files_Files_List N)) :=
  VarOK.of (E_files_Files_List_Tok N) (by kernel_rfl) pn (files_Files_List_F) N (fun _ => LStep.none) fun t u K => files_Files_List_body N _ _ t u K
theorem files_Files_List_f601_ok (N : Nat) : VarOK Try.prog (E_files_Files_List_T N) Try.f47 (codeOf Try.f47) (files_Files_List_f601_W (files_Files_List_f601 N)) :=
  VarOK.of (E_files_Files_List_Tok N) (by kernel_rfl) ⟨[], [], [4]⟩ (files_Files_List_f601_F) N (fun _ => LStep.none) fun t u K => files_Files_List_f601_body N _ _ t u K
theorem E_files_Files_List_ok (N : Nat) : EntOK Try.prog 47 (E_files_Files_List N) := EntOK.vars (E_files_Files_List_Tok N) Try.func47 (by kernel_rfl) (by kernel_rfl) (all_cons (files_Files_List_ok N) (all_cons (files_Files_List_f601_ok N) (all_nil)))
theorem E_run_machine_named_Tok (N : Nat) : TabOK Try.prog (E_run_machine_named_T N) := TabOK.cons (E_files_Files_List_ok N) (TabOK.cons (E_files_Files_Rmdir_ok N) (TabOK.cons (E_files_Files_Mkdir_ok N) (TabOK.cons (E_files_Files_Rename_ok N) (TabOK.cons (E_files_Files_Unlink_ok N) (TabOK.cons (E_run_machine_answer_ok N) (TabOK.cons (E_files_Files_Open_ok N) (TabOK.cons (E_run_machine_name_ok N) (TabOK.nil))))))))
theorem run_machine_named_ffdd_ok (N : Nat) : VarOK Try.prog (E_run_machine_named_T N) Try.f23 (codeOf Try.f23) (run_machine_named_ffdd_W (run_machine_named_ffdd N)) :=
  VarOK.of (E_run_machine_named_Tok N) (by kernel_rfl) ⟨[3, 7], [], [1, 2, 3, 5, 6, 7]⟩ (run_machine_named_ffdd_F) N (fun _ => LStep.none) fun t u K => run_machine_named_ffdd_body N _ _ _ _ _ _ _ _ _ _ _ _ _ _ _ _ _ _ _ t u K
theorem run_machine_named_e571_ok (N : Nat) : VarOK Try.prog (E_run_machine_named_T N) Try.f23 (codeOf Try.f23) (run_machine_named_e571_W (run_machine_named_e571 N)) :=
  VarOK.of (E_run_machine_named_Tok N) (by kernel_rfl) ⟨[8, 3, 12], [], [1, 2, 3, 8, 10, 11, 12]⟩ (run_machine_named_e571_F) N (fun _ => LStep.none) fun t u K => run_machine_named_e571_body N _ _ _ _ _ _ _ _ _ _ _ _ _ _ _ _ _ _ _ t u K
theorem E_run_machine_named_ok (N : Nat) : EntOK Try.prog 23 (E_run_machine_named N) := EntOK.vars (E_run_machine_named_Tok N) Try.func23 (by kernel_rfl) (by kernel_rfl) (all_cons (run_machine_named_ffdd_ok N) (all_cons (run_machine_named_e571_ok N) (all_nil)))
theorem E_files_Files_Read_Tok (N : Nat) : TabOK Try.prog (E_files_Files_Read_T N) := TabOK.cons (E_files_Files_file_ok N) (TabOK.cons E_slices_Clone__byte_byte_ok (TabOK.nil))
theorem files_Files_Read_ok (N : Nat) : VarOK Try.prog (E_files_Files_Read_T N) Try.f77 (codeOf Try.f77) (files_Files_Read_W (files_Files_Read N)) :=
  VarOK.of (E_files_Files_Read_Tok N) (by kernel_rfl) pn (files_Files_Read_F) N (fun _ => LStep.none) fun t u K => files_Files_Read_body N _ _ _ _ t u K
theorem files_Files_Read_0442_ok (N : Nat) : VarOK Try.prog (E_files_Files_Read_T N) Try.f77 (codeOf Try.f77) (files_Files_Read_0442_W (files_Files_Read_0442 N)) :=
  VarOK.of (E_files_Files_Read_Tok N) (by kernel_rfl) ⟨[], [(0, false, (.int .u8))], [4]⟩ (files_Files_Read_0442_F) N (fun _ => LStep.none) fun t u K => files_Files_Read_0442_body N _ _ _ _ t u K
theorem E_files_Files_Read_ok (N : Nat) : EntOK Try.prog 77 (E_files_Files_Read N) := EntOK.vars (E_files_Files_Read_Tok N) Try.func77 (by kernel_rfl) (by kernel_rfl) (all_cons (files_Files_Read_ok N) (all_cons (files_Files_Read_0442_ok N) (all_nil)))
theorem E_run_machine_read_Tok (N : Nat) : TabOK Try.prog (E_run_machine_read_T N) := TabOK.cons (E_run_machine_answer_ok N) (TabOK.cons (E_files_Files_Read_ok N) (TabOK.cons (E_run_machine_pop_ok N) (TabOK.cons (E_run_machine_end_ok N) (TabOK.nil))))
theorem run_machine_read_9c77_ok (N : Nat) : VarOK Try.prog (E_run_machine_read_T N) Try.f53 (codeOf Try.f53) (run_machine_read_9c77_W (run_machine_read_9c77 N)) :=
  VarOK.of (E_run_machine_read_Tok N) (by kernel_rfl) ⟨[], [], [1, 2, 3, 5, 6, 7]⟩ (run_machine_read_9c77_F) N (fun _ => LStep.none) fun t u K => run_machine_read_9c77_body N _ _ _ _ _ _ _ _ _ _ _ t u K
theorem run_machine_read_6326_ok (N : Nat) : VarOK Try.prog (E_run_machine_read_T N) Try.f53 (codeOf Try.f53) (run_machine_read_6326_W (run_machine_read_6326 N)) :=
  VarOK.of (E_run_machine_read_Tok N) (by kernel_rfl) ⟨[12], [], [1, 2, 3, 8, 10, 11, 12]⟩ (run_machine_read_6326_F) N (fun _ => LStep.none) fun t u K => run_machine_read_6326_body N _ _ _ _ _ _ _ _ _ _ _ t u K
theorem E_run_machine_read_ok (N : Nat) : EntOK Try.prog 53 (E_run_machine_read N) := EntOK.vars (E_run_machine_read_Tok N) Try.func53 (by kernel_rfl) (by kernel_rfl) (all_cons (run_machine_read_9c77_ok N) (all_cons (run_machine_read_6326_ok N) (all_nil)))
theorem E_files_sized_Tok (N : Nat) : TabOK Try.prog (E_files_sized_T N) := TabOK.cons E_slices_Clone__byte_byte_ok (TabOK.nil)
theorem files_sized_ok (N : Nat) : VarOK Try.prog (E_files_sized_T N) Try.f76 (codeOf Try.f76) (files_sized_W (files_sized N)) :=
  VarOK.of (E_files_sized_Tok N) (by kernel_rfl) pn (files_sized_F (@files_sized_l0 N)) N (fun _ => LStep.pick (all_cons ⟨.inl fun _ _ _ => rfl, fun n t u K => files_sized_v0_0_round N _ _ _ n t u K⟩ (all_nil)) (LStep.none)) fun t u K => files_sized_body N _ _ _ t u K
theorem E_files_sized_ok (N : Nat) : EntOK Try.prog 76 (E_files_sized N) := EntOK.vars (E_files_sized_Tok N) Try.func76 (by kernel_rfl) (by kernel_rfl) (all_cons (files_sized_ok N) (all_nil))
theorem E_files_Files_Trunc_Tok (N : Nat) : TabOK Try.prog (E_files_Files_Trunc_T N) := TabOK.cons (E_files_Files_file_ok N) (TabOK.cons (E_files_sized_ok N) (TabOK.nil))
theorem files_Files_Trunc_ok (N : Nat) : VarOK Try.prog (E_files_Files_Trunc_T N) Try.f52 (codeOf Try.f52) (files_Files_Trunc_W (files_Files_Trunc N)) :=
  VarOK.of (E_files_Files_Trunc_Tok N) (by kernel_rfl) pn (files_Files_Trunc_F) N (fun _ => LStep.none) fun t u K => files_Files_Trunc_body N _ _ _ _ t u K
theorem files_Files_Trunc_0442_ok (N : Nat) : VarOK Try.prog (E_files_Files_Trunc_T N) Try.f52 (codeOf Try.f52) (files_Files_Trunc_0442_W (files_Files_Trunc_0442 N)) :=
  VarOK.of (E_files_Files_Trunc_Tok N) (by kernel_rfl) ⟨[], [], [4]⟩ (files_Files_Trunc_0442_F) N (fun _ => LStep.none) fun t u K => files_Files_Trunc_0442_body N _ _ _ _ t u K
theorem E_files_Files_Trunc_ok (N : Nat) : EntOK Try.prog 52 (E_files_Files_Trunc N) := EntOK.vars (E_files_Files_Trunc_Tok N) Try.func52 (by kernel_rfl) (by kernel_rfl) (all_cons (files_Files_Trunc_ok N) (all_cons (files_Files_Trunc_0442_ok N) (all_nil)))
theorem E_files_Files_Write_Tok (N : Nat) : TabOK Try.prog (E_files_Files_Write_T N) := TabOK.cons (E_files_Files_file_ok N) (TabOK.cons (E_files_sized_ok N) (TabOK.nil))
theorem files_Files_Write_c4b4_ok (N : Nat) : VarOK Try.prog (E_files_Files_Write_T N) Try.f78 (codeOf Try.f78) (files_Files_Write_c4b4_W (files_Files_Write_c4b4 N)) :=
  VarOK.of (E_files_Files_Write_Tok N) (by kernel_rfl) ⟨[], [], [1, 2, 3, 5, 6, 7]⟩ (files_Files_Write_c4b4_F) N (fun _ => LStep.none) fun t u K => files_Files_Write_c4b4_body N _ _ _ _ t u K
theorem files_Files_Write_44ab_ok (N : Nat) : VarOK Try.prog (E_files_Files_Write_T N) Try.f78 (codeOf Try.f78) (files_Files_Write_44ab_W (files_Files_Write_44ab N)) :=
  VarOK.of (E_files_Files_Write_Tok N) (by kernel_rfl) pn (files_Files_Write_44ab_F) N (fun _ => LStep.none) fun t u K => files_Files_Write_44ab_body N _ _ _ _ t u K
theorem files_Files_Write_56dc_ok (N : Nat) : VarOK Try.prog (E_files_Files_Write_T N) Try.f78 (codeOf Try.f78) (files_Files_Write_56dc_W (files_Files_Write_56dc N)) :=
  VarOK.of (E_files_Files_Write_Tok N) (by kernel_rfl) ⟨[], [], [4, 6, 7, 8, 10, 11, 12]⟩ (files_Files_Write_56dc_F) N (fun _ => LStep.none) fun t u K => files_Files_Write_56dc_body N _ _ _ _ t u K
theorem files_Files_Write_b195_ok (N : Nat) : VarOK Try.prog (E_files_Files_Write_T N) Try.f78 (codeOf Try.f78) (files_Files_Write_b195_W (files_Files_Write_b195 N)) :=
  VarOK.of (E_files_Files_Write_Tok N) (by kernel_rfl) ⟨[], [], [4]⟩ (files_Files_Write_b195_F) N (fun _ => LStep.none) fun t u K => files_Files_Write_b195_body N _ _ _ _ t u K
theorem E_files_Files_Write_ok (N : Nat) : EntOK Try.prog 78 (E_files_Files_Write N) := EntOK.vars (E_files_Files_Write_Tok N) Try.func78 (by kernel_rfl) (by kernel_rfl) (all_cons (files_Files_Write_c4b4_ok N) (all_cons (files_Files_Write_44ab_ok N) (all_cons (files_Files_Write_56dc_ok N) (all_cons (files_Files_Write_b195_ok N) (all_nil)))))
theorem E_run_machine_write_Tok (N : Nat) : TabOK Try.prog (E_run_machine_write_T N) := TabOK.cons (E_files_Files_Write_ok N) (TabOK.cons (E_run_machine_answer_ok N) (TabOK.cons (E_run_machine_end_ok N) (TabOK.cons (E_run_machine_pop_ok N) (TabOK.nil))))
theorem run_machine_write_9c77_ok (N : Nat) : VarOK Try.prog (E_run_machine_write_T N) Try.f54 (codeOf Try.f54) (run_machine_write_9c77_W (run_machine_write_9c77 N)) :=
  VarOK.of (E_run_machine_write_Tok N) (by kernel_rfl) ⟨[7], [], [1, 2, 3, 5, 6, 7]⟩ (run_machine_write_9c77_F) N (fun _ => LStep.none) fun t u K => run_machine_write_9c77_body N _ _ _ _ _ _ _ _ _ _ _ _ _ t u K
theorem run_machine_write_6326_ok (N : Nat) : VarOK Try.prog (E_run_machine_write_T N) Try.f54 (codeOf Try.f54) (run_machine_write_6326_W (run_machine_write_6326 N)) :=
  VarOK.of (E_run_machine_write_Tok N) (by kernel_rfl) ⟨[12], [], [1, 2, 3, 8, 10, 11, 12]⟩ (run_machine_write_6326_F) N (fun _ => LStep.none) fun t u K => run_machine_write_6326_body N _ _ _ _ _ _ _ _ _ _ _ _ _ t u K
theorem E_run_machine_write_ok (N : Nat) : EntOK Try.prog 54 (E_run_machine_write N) := EntOK.vars (E_run_machine_write_Tok N) Try.func54 (by kernel_rfl) (by kernel_rfl) (all_cons (run_machine_write_9c77_ok N) (all_cons (run_machine_write_6326_ok N) (all_nil)))
theorem E_run_machine_call_Tok (N : Nat) : TabOK Try.prog (E_run_machine_call_T N) := TabOK.cons (E_run_machine_argument_ok N) (TabOK.cons (E_run_machine_push_ok N) (TabOK.cons (E_run_machine_write_ok N) (TabOK.cons (E_run_machine_read_ok N) (TabOK.cons (E_files_Files_Trunc_ok N) (TabOK.cons (E_files_Files_Seek_ok N) (TabOK.cons (E_files_Files_Twin_ok N) (TabOK.cons (E_files_Files_Size_ok N) (TabOK.cons (E_run_machine_answer_ok N) (TabOK.cons (E_files_Files_Close_ok N) (TabOK.cons (E_run_machine_pop_ok N) (TabOK.nil)))))))))))
theorem run_machine_call_3c75_ok (N : Nat) : VarOK Try.prog (E_run_machine_call_T N) Try.f24 (codeOf Try.f24) (run_machine_call_3c75_W (run_machine_call_3c75 N)) :=
  VarOK.of (E_run_machine_call_Tok N) (by kernel_rfl) ⟨[7, 3], [], [1, 2, 3, 5, 6, 7]⟩ (run_machine_call_3c75_F) N (fun _ => LStep.none) fun t u K => run_machine_call_3c75_body N _ _ _ _ _ _ _ _ _ _ _ _ _ _ _ _ _ _ _ _ _ _ _ _ _ _ _ t u K
theorem run_machine_call_61a1_ok (N : Nat) : VarOK Try.prog (E_run_machine_call_T N) Try.f24 (codeOf Try.f24) (run_machine_call_61a1_W (run_machine_call_61a1 N)) :=
  VarOK.of (E_run_machine_call_Tok N) (by kernel_rfl) ⟨[12, 3], [], [1, 2, 3, 8, 10, 11, 12]⟩ (run_machine_call_61a1_F) N (fun _ => LStep.none) fun t u K => run_machine_call_61a1_body N _ _ _ _ _ _ _ _ _ _ _ _ _ _ _ _ _ _ _ _ _ _ _ _ _ _ _ t u K
theorem E_run_machine_call_ok (N : Nat) : EntOK Try.prog 24 (E_run_machine_call N) := EntOK.vars (E_run_machine_call_Tok N) Try.func24 (by kernel_rfl) (by kernel_rfl) (all_cons (run_machine_call_3c75_ok N) (all_cons (run_machine_call_61a1_ok N) (all_nil)))
theorem E_run_machine_step_Tok (N : Nat) : TabOK Try.prog (E_run_machine_step_T N) := TabOK.cons (E_run_machine_call_ok N) (TabOK.cons (E_run_machine_named_ok N) (TabOK.cons (E_run_machine_plain_ok N) (TabOK.cons (E_run_machine_reckon_ok N) (TabOK.cons (E_run_machine_answer_ok N) (TabOK.cons (E_inst_Takes_ok N) (TabOK.cons (E_fails_Fails_Next_ok N) (TabOK.cons (E_inst_Falls_ok N) (TabOK.nil))))))))
theorem run_machine_step_9c77_ok (N : Nat) : VarOK Try.prog (E_run_machine_step_T N) Try.f11 (codeOf Try.f11) (run_machine_step_9c77_W (run_machine_step_9c77 N)) :=
  VarOK.of (E_run_machine_step_Tok N) (by kernel_rfl) ⟨[7], [], [1, 2, 3, 5, 6, 7]⟩ (run_machine_step_9c77_F) N (fun _ => LStep.none) fun t u K => run_machine_step_9c77_body N _ _ _ _ _ _ _ _ _ _ _ _ _ _ _ _ t u K
theorem run_machine_step_6326_ok (N : Nat) : VarOK Try.prog (E_run_machine_step_T N) Try.f11 (codeOf Try.f11) (run_machine_step_6326_W (run_machine_step_6326 N)) :=
  VarOK.of (E_run_machine_step_Tok N) (by kernel_rfl) ⟨[12, 8], [], [1, 2, 3, 8, 10, 11, 12]⟩ (run_machine_step_6326_F) N (fun _ => LStep.none) fun t u K => run_machine_step_6326_body N _ _ _ _ _ _ _ _ _ _ _ _ _ _ _ _ t u K
theorem E_run_machine_step_ok (N : Nat) : EntOK Try.prog 11 (E_run_machine_step N) := EntOK.vars (E_run_machine_step_Tok N) Try.func11 (by kernel_rfl) (by kernel_rfl) (all_cons (run_machine_step_9c77_ok N) (all_cons (run_machine_step_6326_ok N) (all_nil)))
theorem E_run_all_Tok (N : Nat) : TabOK Try.prog (E_run_all_T N) := TabOK.cons (E_run_machine_step_ok N) (TabOK.cons (E_run_machine_end_ok N) (TabOK.cons (E_run_made_ok N) (TabOK.nil)))
theorem run_all_32d2_ok (N : Nat) : VarOK Try.prog (E_run_all_T N) Try.f8 (codeOf Try.f8) (run_all_32d2_W (run_all_32d2 N)) :=
  VarOK.of (E_run_all_Tok N) (by kernel_rfl) ⟨[], [], [0, 1, 2, 3, 4]⟩ (run_all_32d2_F (@run_all_32d2_l0 N)) N (fun _ => LStep.pick (all_cons ⟨.inl fun _ _ _ => rfl, fun n t u K => run_all_32d2_v0_0_round N _ _ _ _ _ _ _ n t u K⟩ (all_cons ⟨.inl fun _ _ _ => rfl, fun n t u K => run_all_32d2_v0_1_round N _ _ _ _ _ _ _ n t u K⟩ (all_cons ⟨.inl fun _ _ _ => rfl, fun n t u K => run_all_32d2_v0_2_round N _ _ _ _ _ _ _ n t u K⟩ (all_nil)))) (LStep.none)) fun t u K => run_all_32d2_body N _ _ _ _ _ _ _ t u K
theorem E_run_all_ok (N : Nat) : EntOK Try.prog 8 (E_run_all N) := EntOK.vars (E_run_all_Tok N) Try.func8 (by kernel_rfl) (by kernel_rfl) (all_cons (run_all_32d2_ok N) (all_nil))
theorem E_run_Run_Tok (N : Nat) : TabOK Try.prog (E_run_Run_T N) := TabOK.cons (E_run_all_ok N) (TabOK.nil)
theorem run_Run_bc75_ok (N : Nat) : VarOK Try.prog (E_run_Run_T N) Try.f6 (codeOf Try.f6) (run_Run_bc75_W (run_Run_bc75 N)) :=
  VarOK.of (E_run_Run_Tok N) (by kernel_rfl) ⟨[], [], [0]⟩ (run_Run_bc75_F) N (fun _ => LStep.none) fun t u K => run_Run_bc75_body N _ _ t u K
theorem run_Run_99d4_ok (N : Nat) : VarOK Try.prog (E_run_Run_T N) Try.f6 (codeOf Try.f6) (run_Run_99d4_W (run_Run_99d4 N)) :=
  VarOK.of (E_run_Run_Tok N) (by kernel_rfl) ⟨[], [], [0, 1]⟩ (run_Run_99d4_F) N (fun _ => LStep.none) fun t u K => run_Run_99d4_body N _ _ t u K
theorem E_run_Run_ok (N : Nat) : EntOK Try.prog 6 (E_run_Run N) := EntOK.vars (E_run_Run_Tok N) Try.func6 (by kernel_rfl) (by kernel_rfl) (all_cons (run_Run_bc75_ok N) (all_cons (run_Run_99d4_ok N) (all_nil)))
theorem E_run_Steps_Tok (N : Nat) : TabOK Try.prog (E_run_Steps_T N) := TabOK.cons (E_run_all_ok N) (TabOK.nil)
theorem run_Steps_bc75_ok (N : Nat) : VarOK Try.prog (E_run_Steps_T N) Try.f7 (codeOf Try.f7) (run_Steps_bc75_W (run_Steps_bc75 N)) :=
  VarOK.of (E_run_Steps_Tok N) (by kernel_rfl) ⟨[], [], [0]⟩ (run_Steps_bc75_F) N (fun _ => LStep.none) fun t u K => run_Steps_bc75_body N _ _ t u K
theorem E_run_Steps_ok (N : Nat) : EntOK Try.prog 7 (E_run_Steps N) := EntOK.vars (E_run_Steps_Tok N) Try.func7 (by kernel_rfl) (by kernel_rfl) (all_cons (run_Steps_bc75_ok N) (all_nil))
theorem E_law16_awake_Tok (N : Nat) : TabOK Try.prog (E_law16_awake_T N) := TabOK.cons (E_run_Steps_ok N) (TabOK.cons (E_run_Run_ok N) (TabOK.nil))
theorem law16_awake_ok (N : Nat) : VarOK Try.prog (E_law16_awake_T N) Try.f5 (codeOf Try.f5) (law16_awake_W (law16_awake N)) :=
  VarOK.of (E_law16_awake_Tok N) (by kernel_rfl) pn (law16_awake_F) N (fun _ => LStep.none) fun t u K => law16_awake_body N _ _ _ _ t u K
theorem E_law16_awake_ok (N : Nat) : EntOK Try.prog 5 (E_law16_awake N) := EntOK.vars (E_law16_awake_Tok N) Try.func5 (by kernel_rfl) (by kernel_rfl) (all_cons (law16_awake_ok N) (all_nil))
theorem E_law16_RunLocals_Tok (N : Nat) : TabOK Try.prog (E_law16_RunLocals_T N) := TabOK.cons (E_run_Run_ok N) (TabOK.cons (E_law16_awake_ok N) (TabOK.nil))
theorem law16_RunLocals_ok (N : Nat) : VarOK Try.prog (E_law16_RunLocals_T N) Try.f4 (codeOf Try.f4) (law16_RunLocals_W (law16_RunLocals N)) :=
  VarOK.of (E_law16_RunLocals_Tok N) (by kernel_rfl) pn (law16_RunLocals_F (@law16_RunLocals_l0 N) (@law16_RunLocals_l1 N) (@law16_RunLocals_l2 N) (@law16_RunLocals_l3 N)) N (fun _ => LStep.pick (all_cons ⟨.inl fun _ _ _ => rfl, fun n t u K => law16_RunLocals_v0_0_round N _ _ _ _ _ _ _ _ n t u K⟩ (all_nil)) (LStep.pick (all_cons ⟨.inl fun _ _ _ => rfl, fun n t u K => law16_RunLocals_v1_0_round N _ _ _ _ _ _ _ _ n t u K⟩ (all_nil)) (LStep.pick (all_cons ⟨.inl fun _ _ _ => rfl, fun n t u K => law16_RunLocals_v2_0_round N _ _ _ _ _ _ _ _ n t u K⟩ (all_nil)) (LStep.pick (all_cons ⟨.inl fun _ _ _ => rfl, fun n t u K => law16_RunLocals_v3_0_round N _ _ _ _ _ _ _ _ n t u K⟩ (all_nil)) (LStep.none))))) fun t u K => law16_RunLocals_body N _ _ _ _ _ _ _ _ t u K
theorem E_law16_RunLocals_ok (N : Nat) : EntOK Try.prog 4 (E_law16_RunLocals N) := EntOK.vars (E_law16_RunLocals_Tok N) Try.func4 (by kernel_rfl) (by kernel_rfl) (all_cons (law16_RunLocals_ok N) (all_nil))
end Go.Proofs.Ythdgncnbnallcaa
