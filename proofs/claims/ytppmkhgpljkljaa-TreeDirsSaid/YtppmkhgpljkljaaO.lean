/-
  Each entry is borne out (printed by a program of this work).
-/
import Derived.Test.YtppmkhgpljkljaaX
import Derived.Test.YtppmkhgpljkljaaQ0
import Derived.Test.YtppmkhgpljkljaaQ1
import Derived.Test.YtppmkhgpljkljaaQ2
import Derived.Test.YtppmkhgpljkljaaQ3
set_option linter.unusedVariables false
set_option maxRecDepth 100000
namespace Go.Proofs.Ytppmkhgpljkljaa
open Go.Gx
theorem E_stringslite_Index_Tok (N : Nat) : TabOK Try.prog (E_stringslite_Index_T N) := TabOK.cons E_stringslite_IndexByte_ok (TabOK.nil)
theorem stringslite_Index_ok (N : Nat) : VarOK Try.prog (E_stringslite_Index_T N) Try.f52 (codeOf Try.f52) (stringslite_Index_W (stringslite_Index N)) :=
  VarOK.of (E_stringslite_Index_Tok N) (by kernel_rfl) ⟨[], [], []⟩ (stringslite_Index_F) N (fun _ => LStep.none) (stringslite_Index_body N @stringslite_IndexByte)
theorem E_stringslite_Index_ok (N : Nat) : EntOK Try.prog 52 (E_stringslite_Index N) := EntOK.vars (E_stringslite_Index_Tok N) Try.func52 (by kernel_rfl) (by kernel_rfl) (all_cons (stringslite_Index_ok N) (all_nil))
theorem E_stringslite_Cut_Tok (N : Nat) : TabOK Try.prog (E_stringslite_Cut_T N) := TabOK.cons (E_stringslite_Index_ok N) (TabOK.nil)
theorem stringslite_Cut_ok (N : Nat) : VarOK Try.prog (E_stringslite_Cut_T N) Try.f47 (codeOf Try.f47) (stringslite_Cut_W (stringslite_Cut N)) :=
  VarOK.of (E_stringslite_Cut_Tok N) (by kernel_rfl) ⟨[], [], []⟩ (stringslite_Cut_F) N (fun _ => LStep.none) (stringslite_Cut_body N (@stringslite_Index N))
theorem E_stringslite_Cut_ok (N : Nat) : EntOK Try.prog 47 (E_stringslite_Cut N) := EntOK.vars (E_stringslite_Cut_Tok N) Try.func47 (by kernel_rfl) (by kernel_rfl) (all_cons (stringslite_Cut_ok N) (all_nil))
theorem E_strings_Cut_Tok (N : Nat) : TabOK Try.prog (E_strings_Cut_T N) := TabOK.cons (E_stringslite_Cut_ok N) (TabOK.nil)
theorem strings_Cut_ok (N : Nat) : VarOK Try.prog (E_strings_Cut_T N) Try.f39 (codeOf Try.f39) (strings_Cut_W (strings_Cut N)) :=
  VarOK.of (E_strings_Cut_Tok N) (by kernel_rfl) ⟨[], [], []⟩ (strings_Cut_F) N (fun _ => LStep.none) (strings_Cut_body N (@stringslite_Cut N))
theorem E_strings_Cut_ok (N : Nat) : EntOK Try.prog 39 (E_strings_Cut N) := EntOK.vars (E_strings_Cut_Tok N) Try.func39 (by kernel_rfl) (by kernel_rfl) (all_cons (strings_Cut_ok N) (all_nil))
theorem E_check_letter_Tok (N : Nat) : TabOK Try.prog (E_check_letter_T N) := TabOK.nil
theorem check_letter_ok (N : Nat) : VarOK Try.prog (E_check_letter_T N) Try.f48 (codeOf Try.f48) (check_letter_W (check_letter N)) :=
  VarOK.of (E_check_letter_Tok N) (by kernel_rfl) ⟨[], [], []⟩ (check_letter_F) N (fun _ => LStep.none) (check_letter_body N)
theorem E_check_letter_ok (N : Nat) : EntOK Try.prog 48 (E_check_letter N) := EntOK.vars (E_check_letter_Tok N) Try.func48 (by kernel_rfl) (by kernel_rfl) (all_cons (check_letter_ok N) (all_nil))
theorem E_check_part_Tok (N : Nat) : TabOK Try.prog (E_check_part_T N) := TabOK.cons (E_check_letter_ok N) (TabOK.nil)
theorem check_part_v0_0_ok (N : Nat) : LV Try.prog (E_check_part_T N) ⟨0, Try.f40.ntmps, fun i => (check_part_F (@check_part_l0 N) i).at N, []⟩ (bodyAt Try.f40 3) (check_part_F0 (@check_part_l0 N)) (check_part_v0_0 (@check_part_l0 N)) := ⟨.inl fun _ _ _ => rfl, check_part_v0_0_round N (@check_letter N) (@check_part_l0 N)⟩
theorem check_part_s0 (N : Nat) : LStep Try.prog (E_check_part_T N) ⟨0, Try.f40.ntmps, fun i => (check_part_F (@check_part_l0 N) i).at N, []⟩ (bodyAt Try.f40 3) (check_part_F0 (@check_part_l0 N)) := all_cons (check_part_v0_0_ok N) (all_nil)
theorem check_part_ok (N : Nat) : VarOK Try.prog (E_check_part_T N) Try.f40 (codeOf Try.f40) (check_part_W (check_part N)) :=
  VarOK.of (E_check_part_Tok N) (by kernel_rfl) ⟨[], [], []⟩ (check_part_F (@check_part_l0 N)) N (fun _ => LStep.pick (check_part_s0 N) (LStep.none)) (check_part_body N (@check_letter N) (@check_part_l0 N))
theorem E_check_part_ok (N : Nat) : EntOK Try.prog 40 (E_check_part N) := EntOK.vars (E_check_part_Tok N) Try.func40 (by kernel_rfl) (by kernel_rfl) (all_cons (check_part_ok N) (all_nil))
theorem E_check_Name_Tok (N : Nat) : TabOK Try.prog (E_check_Name_T N) := TabOK.cons (E_check_part_ok N) (TabOK.cons (E_strings_Cut_ok N) (TabOK.nil))
theorem check_Name_ok (N : Nat) : VarOK Try.prog (E_check_Name_T N) Try.f30 (codeOf Try.f30) (check_Name_W (check_Name N)) :=
  VarOK.of (E_check_Name_Tok N) (by kernel_rfl) ⟨[], [], []⟩ (check_Name_F) N (fun _ => LStep.none) (check_Name_body N (@check_part N) (@strings_Cut N))
theorem E_check_Name_ok (N : Nat) : EntOK Try.prog 30 (E_check_Name N) := EntOK.vars (E_check_Name_Tok N) Try.func30 (by kernel_rfl) (by kernel_rfl) (all_cons (check_Name_ok N) (all_nil))
theorem E_names_May_Tok (N : Nat) : TabOK Try.prog (E_names_May_T N) := TabOK.cons (E_check_Name_ok N) (TabOK.nil)
theorem names_May_ok (N : Nat) : VarOK Try.prog (E_names_May_T N) Try.f25 (codeOf Try.f25) (names_May_W (names_May N)) :=
  VarOK.of (E_names_May_Tok N) (by kernel_rfl) ⟨[], [], []⟩ (names_May_F) N (fun _ => LStep.none) (names_May_body N (@check_Name N))
theorem E_names_May_ok (N : Nat) : EntOK Try.prog 25 (E_names_May N) := EntOK.vars (E_names_May_Tok N) Try.func25 (by kernel_rfl) (by kernel_rfl) (all_cons (names_May_ok N) (all_nil))
theorem E_names_Split_Tok (N : Nat) : TabOK Try.prog (E_names_Split_T N) := TabOK.cons (E_strings_Cut_ok N) (TabOK.cons (E_names_May_ok N) (TabOK.nil))
theorem names_Split_ok (N : Nat) : VarOK Try.prog (E_names_Split_T N) Try.f38 (codeOf Try.f38) (names_Split_W (names_Split N)) :=
  VarOK.of (E_names_Split_Tok N) (by kernel_rfl) ⟨[], [], []⟩ (names_Split_F) N (fun _ => LStep.none) (names_Split_body N (@strings_Cut N) (@names_May N))
theorem E_names_Split_ok (N : Nat) : EntOK Try.prog 38 (E_names_Split N) := EntOK.vars (E_names_Split_Tok N) Try.func38 (by kernel_rfl) (by kernel_rfl) (all_cons (names_Split_ok N) (all_nil))
theorem E_tree_of_Tok (N : Nat) : TabOK Try.prog (E_tree_of_T N) := TabOK.cons (E_names_Split_ok N) (TabOK.nil)
theorem tree_of_ok (N : Nat) : VarOK Try.prog (E_tree_of_T N) Try.f26 (codeOf Try.f26) (tree_of_W (tree_of N)) :=
  VarOK.of (E_tree_of_Tok N) (by kernel_rfl) ⟨[], [], []⟩ (tree_of_F) N (fun _ => LStep.none) (tree_of_body N (@names_Split N))
theorem E_tree_of_ok (N : Nat) : EntOK Try.prog 26 (E_tree_of N) := EntOK.vars (E_tree_of_Tok N) Try.func26 (by kernel_rfl) (by kernel_rfl) (all_cons (tree_of_ok N) (all_nil))
theorem E_tree_Tree_above_Tok (N : Nat) : TabOK Try.prog (E_tree_Tree_above_T N) := TabOK.nil
theorem tree_Tree_above_2de7_ok (N : Nat) : VarOK Try.prog (E_tree_Tree_above_T N) Try.f27 (codeOf Try.f27) (tree_Tree_above_2de7_W (tree_Tree_above_2de7 N)) :=
  VarOK.of (E_tree_Tree_above_Tok N) (by kernel_rfl) ⟨[], [], []⟩ (tree_Tree_above_2de7_F) N (fun _ => LStep.none) (tree_Tree_above_2de7_body N)
theorem E_tree_Tree_above_ok (N : Nat) : EntOK Try.prog 27 (E_tree_Tree_above N) := EntOK.vars (E_tree_Tree_above_Tok N) Try.func27 (by kernel_rfl) (by kernel_rfl) (all_cons (tree_Tree_above_2de7_ok N) (all_nil))
theorem E_tree_Tree_Make_Tok (N : Nat) : TabOK Try.prog (E_tree_Tree_Make_T N) := TabOK.cons (E_tree_Tree_above_ok N) (TabOK.cons (E_tree_of_ok N) (TabOK.nil))
theorem tree_Tree_Make_c502_ok (N : Nat) : VarOK Try.prog (E_tree_Tree_Make_T N) Try.f12 (codeOf Try.f12) (tree_Tree_Make_c502_W (tree_Tree_Make_c502 N)) :=
  VarOK.of (E_tree_Tree_Make_Tok N) (by kernel_rfl) ⟨[], [], []⟩ (tree_Tree_Make_c502_F) N (fun _ => LStep.none) (tree_Tree_Make_c502_body N (@tree_Tree_above_2de7 N) (@tree_of N))
theorem E_tree_Tree_Make_ok (N : Nat) : EntOK Try.prog 12 (E_tree_Tree_Make N) := EntOK.vars (E_tree_Tree_Make_Tok N) Try.func12 (by kernel_rfl) (by kernel_rfl) (all_cons (tree_Tree_Make_c502_ok N) (all_nil))
theorem E_tree_New_Tok (N : Nat) : TabOK Try.prog (E_tree_New_T N) := TabOK.cons (E_tree_Tree_Make_ok N) (TabOK.cons (E_names_May_ok N) (TabOK.nil))
theorem tree_New_1c12_v0_0_ok (N : Nat) : LV Try.prog (E_tree_New_T N) ⟨0, Try.f11.ntmps, fun i => (tree_New_1c12_F (@tree_New_1c12_l0 N) i).at N, []⟩ (bodyAt Try.f11 7) (tree_New_1c12_F0 (@tree_New_1c12_l0 N)) (tree_New_1c12_v0_0 (@tree_New_1c12_l0 N)) := ⟨.inl fun _ _ _ => rfl, tree_New_1c12_v0_0_round N (@tree_Tree_Make_c502 N) (@names_May N) (@tree_New_1c12_l0 N)⟩
theorem tree_New_1c12_s0 (N : Nat) : LStep Try.prog (E_tree_New_T N) ⟨0, Try.f11.ntmps, fun i => (tree_New_1c12_F (@tree_New_1c12_l0 N) i).at N, []⟩ (bodyAt Try.f11 7) (tree_New_1c12_F0 (@tree_New_1c12_l0 N)) := all_cons (tree_New_1c12_v0_0_ok N) (all_nil)
theorem tree_New_1c12_ok (N : Nat) : VarOK Try.prog (E_tree_New_T N) Try.f11 (codeOf Try.f11) (tree_New_1c12_W (tree_New_1c12 N)) :=
  VarOK.of (E_tree_New_Tok N) (by kernel_rfl) ⟨[], [], []⟩ (tree_New_1c12_F (@tree_New_1c12_l0 N)) N (fun _ => LStep.pick (tree_New_1c12_s0 N) (LStep.none)) (tree_New_1c12_body N (@tree_Tree_Make_c502 N) (@names_May N) (@tree_New_1c12_l0 N))
theorem tree_New_644a_v0_0_ok (N : Nat) : LV Try.prog (E_tree_New_T N) ⟨1, Try.f11.ntmps, fun i => (tree_New_644a_F (@tree_New_644a_l0 N) i).at N, [0]⟩ (bodyAt Try.f11 7) (tree_New_644a_F0 (@tree_New_644a_l0 N)) (tree_New_644a_v0_0 (@tree_New_644a_l0 N)) := ⟨.inl fun _ _ _ => rfl, tree_New_644a_v0_0_round N (@tree_Tree_Make_c502 N) (@names_May N) (@tree_New_644a_l0 N)⟩
theorem tree_New_644a_s0 (N : Nat) : LStep Try.prog (E_tree_New_T N) ⟨1, Try.f11.ntmps, fun i => (tree_New_644a_F (@tree_New_644a_l0 N) i).at N, [0]⟩ (bodyAt Try.f11 7) (tree_New_644a_F0 (@tree_New_644a_l0 N)) := all_cons (tree_New_644a_v0_0_ok N) (all_nil)
theorem tree_New_644a_ok (N : Nat) : VarOK Try.prog (E_tree_New_T N) Try.f11 (codeOf Try.f11) (tree_New_644a_W (tree_New_644a N)) :=
  VarOK.of (E_tree_New_Tok N) (by kernel_rfl) ⟨[], [], [0]⟩ (tree_New_644a_F (@tree_New_644a_l0 N)) N (fun _ => LStep.pick (tree_New_644a_s0 N) (LStep.none)) (tree_New_644a_body N (@tree_Tree_Make_c502 N) (@names_May N) (@tree_New_644a_l0 N))
theorem E_tree_New_ok (N : Nat) : EntOK Try.prog 11 (E_tree_New N) := EntOK.vars (E_tree_New_Tok N) Try.func11 (by kernel_rfl) (by kernel_rfl) (all_cons (tree_New_1c12_ok N) (all_cons (tree_New_644a_ok N) (all_nil)))
theorem E_tree_Tree_get_Tok (N : Nat) : TabOK Try.prog (E_tree_Tree_get_T N) := TabOK.cons (E_tree_Tree_above_ok N) (TabOK.cons (E_tree_of_ok N) (TabOK.nil))
theorem tree_Tree_get_fb98_ok (N : Nat) : VarOK Try.prog (E_tree_Tree_get_T N) Try.f28 (codeOf Try.f28) (tree_Tree_get_fb98_W (tree_Tree_get_fb98 N)) :=
  VarOK.of (E_tree_Tree_get_Tok N) (by kernel_rfl) ⟨[], [], []⟩ (tree_Tree_get_fb98_F) N (fun _ => LStep.none) (tree_Tree_get_fb98_body N (@tree_Tree_above_2de7 N) (@tree_of N))
theorem E_tree_Tree_get_ok (N : Nat) : EntOK Try.prog 28 (E_tree_Tree_get N) := EntOK.vars (E_tree_Tree_get_Tok N) Try.func28 (by kernel_rfl) (by kernel_rfl) (all_cons (tree_Tree_get_fb98_ok N) (all_nil))
theorem E_tree_Tree_Find_Tok (N : Nat) : TabOK Try.prog (E_tree_Tree_Find_T N) := TabOK.cons (E_tree_Tree_get_ok N) (TabOK.nil)
theorem tree_Tree_Find_fb98_ok (N : Nat) : VarOK Try.prog (E_tree_Tree_Find_T N) Try.f24 (codeOf Try.f24) (tree_Tree_Find_fb98_W (tree_Tree_Find_fb98 N)) :=
  VarOK.of (E_tree_Tree_Find_Tok N) (by kernel_rfl) ⟨[], [], []⟩ (tree_Tree_Find_fb98_F) N (fun _ => LStep.none) (tree_Tree_Find_fb98_body N (@tree_Tree_get_fb98 N))
theorem E_tree_Tree_Find_ok (N : Nat) : EntOK Try.prog 24 (E_tree_Tree_Find N) := EntOK.vars (E_tree_Tree_Find_Tok N) Try.func24 (by kernel_rfl) (by kernel_rfl) (all_cons (tree_Tree_Find_fb98_ok N) (all_nil))
theorem E_tree_Tree_Len_Tok (N : Nat) : TabOK Try.prog (E_tree_Tree_Len_T N) := TabOK.nil
theorem tree_Tree_Len_a28d_ok (N : Nat) : VarOK Try.prog (E_tree_Tree_Len_T N) Try.f14 (codeOf Try.f14) (tree_Tree_Len_a28d_W (tree_Tree_Len_a28d N)) :=
  VarOK.of (E_tree_Tree_Len_Tok N) (by kernel_rfl) ⟨[], [], []⟩ (tree_Tree_Len_a28d_F) N (fun _ => LStep.none) (tree_Tree_Len_a28d_body N)
theorem E_tree_Tree_Len_ok (N : Nat) : EntOK Try.prog 14 (E_tree_Tree_Len N) := EntOK.vars (E_tree_Tree_Len_Tok N) Try.func14 (by kernel_rfl) (by kernel_rfl) (all_cons (tree_Tree_Len_a28d_ok N) (all_nil))
theorem E_law13_awake_Tok (N : Nat) : TabOK Try.prog (E_law13_awake_T N) := TabOK.cons (E_tree_Tree_Len_ok N) (TabOK.cons (E_tree_Tree_Find_ok N) (TabOK.cons (E_tree_Tree_Make_ok N) (TabOK.cons (E_tree_New_ok N) (TabOK.nil))))
theorem law13_awake_ok (N : Nat) : VarOK Try.prog (E_law13_awake_T N) Try.f10 (codeOf Try.f10) (law13_awake_W (law13_awake N)) :=
  VarOK.of (E_law13_awake_Tok N) (by kernel_rfl) ⟨[], [], []⟩ (law13_awake_F) N (fun _ => LStep.none) (law13_awake_body N (@tree_Tree_Len_a28d N) (@tree_Tree_Find_fb98 N) (@tree_Tree_Make_c502 N) (@tree_New_1c12 N) (@tree_New_644a N))
theorem E_law13_awake_ok (N : Nat) : EntOK Try.prog 10 (E_law13_awake N) := EntOK.vars (E_law13_awake_Tok N) Try.func10 (by kernel_rfl) (by kernel_rfl) (all_cons (law13_awake_ok N) (all_nil))
theorem E_tree_Tree_Many_Tok (N : Nat) : TabOK Try.prog (E_tree_Tree_Many_T N) := TabOK.cons E_tree_Tree_many_ok (TabOK.cons (E_tree_Tree_get_ok N) (TabOK.nil))
theorem tree_Tree_Many_fb98_ok (N : Nat) : VarOK Try.prog (E_tree_Tree_Many_T N) Try.f15 (codeOf Try.f15) (tree_Tree_Many_fb98_W (tree_Tree_Many_fb98 N)) :=
  VarOK.of (E_tree_Tree_Many_Tok N) (by kernel_rfl) ⟨[], [], []⟩ (tree_Tree_Many_fb98_F) N (fun _ => LStep.none) (tree_Tree_Many_fb98_body N @tree_Tree_many_fb98 (@tree_Tree_get_fb98 N))
theorem E_tree_Tree_Many_ok (N : Nat) : EntOK Try.prog 15 (E_tree_Tree_Many N) := EntOK.vars (E_tree_Tree_Many_Tok N) Try.func15 (by kernel_rfl) (by kernel_rfl) (all_cons (tree_Tree_Many_fb98_ok N) (all_nil))
theorem E_tree_Tree_Drop_Tok (N : Nat) : TabOK Try.prog (E_tree_Tree_Drop_T N) := TabOK.cons (E_tree_of_ok N) (TabOK.cons E_tree_Tree_many_ok (TabOK.cons (E_tree_Tree_get_ok N) (TabOK.nil)))
theorem tree_Tree_Drop_c502_ok (N : Nat) : VarOK Try.prog (E_tree_Tree_Drop_T N) Try.f13 (codeOf Try.f13) (tree_Tree_Drop_c502_W (tree_Tree_Drop_c502 N)) :=
  VarOK.of (E_tree_Tree_Drop_Tok N) (by kernel_rfl) ⟨[], [], []⟩ (tree_Tree_Drop_c502_F) N (fun _ => LStep.none) (tree_Tree_Drop_c502_body N (@tree_of N) @tree_Tree_many_fb98 (@tree_Tree_get_fb98 N))
theorem E_tree_Tree_Drop_ok (N : Nat) : EntOK Try.prog 13 (E_tree_Tree_Drop N) := EntOK.vars (E_tree_Tree_Drop_Tok N) Try.func13 (by kernel_rfl) (by kernel_rfl) (all_cons (tree_Tree_Drop_c502_ok N) (all_nil))
theorem E_law13_TreeDirs_Tok (N : Nat) : TabOK Try.prog (E_law13_TreeDirs_T N) := TabOK.cons (E_tree_Tree_Drop_ok N) (TabOK.cons (E_tree_Tree_Many_ok N) (TabOK.cons (E_tree_Tree_Make_ok N) (TabOK.cons (E_tree_New_ok N) (TabOK.cons (E_law13_awake_ok N) (TabOK.nil)))))
theorem law13_TreeDirs_v0_0_ok (N : Nat) : LV Try.prog (E_law13_TreeDirs_T N) ⟨0, Try.f4.ntmps, fun i => (law13_TreeDirs_F (@law13_TreeDirs_l0 N) (@law13_TreeDirs_l1 N) (@law13_TreeDirs_l2 N) (@law13_TreeDirs_l3 N) i).at N, []⟩ (bodyAt Try.f4 14) (law13_TreeDirs_F0 (@law13_TreeDirs_l0 N)) (law13_TreeDirs_v0_0 (@law13_TreeDirs_l0 N)) := ⟨.inl fun _ _ _ => rfl, law13_TreeDirs_v0_0_round N (@tree_Tree_Drop_c502 N) (@tree_Tree_Many_fb98 N) (@tree_Tree_Make_c502 N) (@tree_New_1c12 N) (@tree_New_644a N) (@law13_awake N) (@law13_TreeDirs_l0 N) (@law13_TreeDirs_l1 N) (@law13_TreeDirs_l2 N) (@law13_TreeDirs_l3 N)⟩
theorem law13_TreeDirs_s0 (N : Nat) : LStep Try.prog (E_law13_TreeDirs_T N) ⟨0, Try.f4.ntmps, fun i => (law13_TreeDirs_F (@law13_TreeDirs_l0 N) (@law13_TreeDirs_l1 N) (@law13_TreeDirs_l2 N) (@law13_TreeDirs_l3 N) i).at N, []⟩ (bodyAt Try.f4 14) (law13_TreeDirs_F0 (@law13_TreeDirs_l0 N)) := all_cons (law13_TreeDirs_v0_0_ok N) (all_nil)
theorem law13_TreeDirs_v1_0_ok (N : Nat) : LV Try.prog (E_law13_TreeDirs_T N) ⟨0, Try.f4.ntmps, fun i => (law13_TreeDirs_F (@law13_TreeDirs_l0 N) (@law13_TreeDirs_l1 N) (@law13_TreeDirs_l2 N) (@law13_TreeDirs_l3 N) i).at N, []⟩ (bodyAt Try.f4 23) (law13_TreeDirs_F1 (@law13_TreeDirs_l1 N)) (law13_TreeDirs_v1_0 (@law13_TreeDirs_l1 N)) := ⟨.inl fun _ _ _ => rfl, law13_TreeDirs_v1_0_round N (@tree_Tree_Drop_c502 N) (@tree_Tree_Many_fb98 N) (@tree_Tree_Make_c502 N) (@tree_New_1c12 N) (@tree_New_644a N) (@law13_awake N) (@law13_TreeDirs_l0 N) (@law13_TreeDirs_l1 N) (@law13_TreeDirs_l2 N) (@law13_TreeDirs_l3 N)⟩
theorem law13_TreeDirs_s1 (N : Nat) : LStep Try.prog (E_law13_TreeDirs_T N) ⟨0, Try.f4.ntmps, fun i => (law13_TreeDirs_F (@law13_TreeDirs_l0 N) (@law13_TreeDirs_l1 N) (@law13_TreeDirs_l2 N) (@law13_TreeDirs_l3 N) i).at N, []⟩ (bodyAt Try.f4 23) (law13_TreeDirs_F1 (@law13_TreeDirs_l1 N)) := all_cons (law13_TreeDirs_v1_0_ok N) (all_nil)
theorem law13_TreeDirs_v2_0_ok (N : Nat) : LV Try.prog (E_law13_TreeDirs_T N) ⟨0, Try.f4.ntmps, fun i => (law13_TreeDirs_F (@law13_TreeDirs_l0 N) (@law13_TreeDirs_l1 N) (@law13_TreeDirs_l2 N) (@law13_TreeDirs_l3 N) i).at N, []⟩ (bodyAt Try.f4 39) (law13_TreeDirs_F2 (@law13_TreeDirs_l2 N)) (law13_TreeDirs_v2_0 (@law13_TreeDirs_l2 N)) := ⟨.inl fun _ _ _ => rfl, law13_TreeDirs_v2_0_round N (@tree_Tree_Drop_c502 N) (@tree_Tree_Many_fb98 N) (@tree_Tree_Make_c502 N) (@tree_New_1c12 N) (@tree_New_644a N) (@law13_awake N) (@law13_TreeDirs_l0 N) (@law13_TreeDirs_l1 N) (@law13_TreeDirs_l2 N) (@law13_TreeDirs_l3 N)⟩
theorem law13_TreeDirs_s2 (N : Nat) : LStep Try.prog (E_law13_TreeDirs_T N) ⟨0, Try.f4.ntmps, fun i => (law13_TreeDirs_F (@law13_TreeDirs_l0 N) (@law13_TreeDirs_l1 N) (@law13_TreeDirs_l2 N) (@law13_TreeDirs_l3 N) i).at N, []⟩ (bodyAt Try.f4 39) (law13_TreeDirs_F2 (@law13_TreeDirs_l2 N)) := all_cons (law13_TreeDirs_v2_0_ok N) (all_nil)
theorem law13_TreeDirs_v3_0_ok (N : Nat) : LV Try.prog (E_law13_TreeDirs_T N) ⟨0, Try.f4.ntmps, fun i => (law13_TreeDirs_F (@law13_TreeDirs_l0 N) (@law13_TreeDirs_l1 N) (@law13_TreeDirs_l2 N) (@law13_TreeDirs_l3 N) i).at N, []⟩ (bodyAt Try.f4 46) (law13_TreeDirs_F3 (@law13_TreeDirs_l3 N)) (law13_TreeDirs_v3_0 (@law13_TreeDirs_l3 N)) := ⟨.inl fun _ _ _ => rfl, law13_TreeDirs_v3_0_round N (@tree_Tree_Drop_c502 N) (@tree_Tree_Many_fb98 N) (@tree_Tree_Make_c502 N) (@tree_New_1c12 N) (@tree_New_644a N) (@law13_awake N) (@law13_TreeDirs_l0 N) (@law13_TreeDirs_l1 N) (@law13_TreeDirs_l2 N) (@law13_TreeDirs_l3 N)⟩
theorem law13_TreeDirs_s3 (N : Nat) : LStep Try.prog (E_law13_TreeDirs_T N) ⟨0, Try.f4.ntmps, fun i => (law13_TreeDirs_F (@law13_TreeDirs_l0 N) (@law13_TreeDirs_l1 N) (@law13_TreeDirs_l2 N) (@law13_TreeDirs_l3 N) i).at N, []⟩ (bodyAt Try.f4 46) (law13_TreeDirs_F3 (@law13_TreeDirs_l3 N)) := all_cons (law13_TreeDirs_v3_0_ok N) (all_nil)
theorem law13_TreeDirs_ok (N : Nat) : VarOK Try.prog (E_law13_TreeDirs_T N) Try.f4 (codeOf Try.f4) (law13_TreeDirs_W (law13_TreeDirs N)) :=
  VarOK.of (E_law13_TreeDirs_Tok N) (by kernel_rfl) ⟨[], [], []⟩ (law13_TreeDirs_F (@law13_TreeDirs_l0 N) (@law13_TreeDirs_l1 N) (@law13_TreeDirs_l2 N) (@law13_TreeDirs_l3 N)) N (fun _ => LStep.pick (law13_TreeDirs_s0 N) (LStep.pick (law13_TreeDirs_s1 N) (LStep.pick (law13_TreeDirs_s2 N) (LStep.pick (law13_TreeDirs_s3 N) (LStep.none))))) (law13_TreeDirs_body N (@tree_Tree_Drop_c502 N) (@tree_Tree_Many_fb98 N) (@tree_Tree_Make_c502 N) (@tree_New_1c12 N) (@tree_New_644a N) (@law13_awake N) (@law13_TreeDirs_l0 N) (@law13_TreeDirs_l1 N) (@law13_TreeDirs_l2 N) (@law13_TreeDirs_l3 N))
theorem E_law13_TreeDirs_ok (N : Nat) : EntOK Try.prog 4 (E_law13_TreeDirs N) := EntOK.vars (E_law13_TreeDirs_Tok N) Try.func4 (by kernel_rfl) (by kernel_rfl) (all_cons (law13_TreeDirs_ok N) (all_nil))
end Go.Proofs.Ytppmkhgpljkljaa
