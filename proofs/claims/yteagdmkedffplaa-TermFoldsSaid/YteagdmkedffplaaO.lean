/-
  Each entry is borne out (printed by a program of this work).
-/
import Derived.Test.YteagdmkedffplaaX
import Derived.Test.YteagdmkedffplaaQ0
import Derived.Test.YteagdmkedffplaaQ1
import Derived.Test.YteagdmkedffplaaQ2
import Derived.Test.YteagdmkedffplaaQ3
set_option linter.unusedVariables false
set_option maxRecDepth 100000
namespace Go.Proofs.Yteagdmkedffplaa
open Go.Gx
theorem E_term_New_Tok (N : Nat) : TabOK Try.prog (E_term_New_T N) := TabOK.nil
theorem term_New_ok (N : Nat) : VarOK Try.prog (E_term_New_T N) Try.f16 (codeOf Try.f16) (term_New_W (term_New N)) :=
  VarOK.of (E_term_New_Tok N) (by kernel_rfl) ⟨[], [], []⟩ (term_New_F) N (fun _ => LStep.none) (term_New_body N)
theorem E_term_New_ok (N : Nat) : EntOK Try.prog 16 (E_term_New N) := EntOK.vars (E_term_New_Tok N) Try.func16 (by kernel_rfl) (by kernel_rfl) (all_cons (term_New_ok N) (all_nil))
theorem E_wide_May_Tok (N : Nat) : TabOK Try.prog (E_wide_May_T N) := TabOK.nil
theorem wide_May_ok (N : Nat) : VarOK Try.prog (E_wide_May_T N) Try.f37 (codeOf Try.f37) (wide_May_W (wide_May N)) :=
  VarOK.of (E_wide_May_Tok N) (by kernel_rfl) ⟨[], [], []⟩ (wide_May_F) N (fun _ => LStep.none) (wide_May_body N)
theorem E_wide_May_ok (N : Nat) : EntOK Try.prog 37 (E_wide_May N) := EntOK.vars (E_wide_May_Tok N) Try.func37 (by kernel_rfl) (by kernel_rfl) (all_cons (wide_May_ok N) (all_nil))
theorem E_wide_Mask_Tok (N : Nat) : TabOK Try.prog (E_wide_Mask_T N) := TabOK.cons (E_wide_May_ok N) (TabOK.nil)
theorem wide_Mask_ok (N : Nat) : VarOK Try.prog (E_wide_Mask_T N) Try.f49 (codeOf Try.f49) (wide_Mask_W (wide_Mask N)) :=
  VarOK.of (E_wide_Mask_Tok N) (by kernel_rfl) ⟨[], [], []⟩ (wide_Mask_F) N (fun _ => LStep.none) (wide_Mask_body N (@wide_May N))
theorem E_wide_Mask_ok (N : Nat) : EntOK Try.prog 49 (E_wide_Mask N) := EntOK.vars (E_wide_Mask_Tok N) Try.func49 (by kernel_rfl) (by kernel_rfl) (all_cons (wide_Mask_ok N) (all_nil))
theorem E_term_Arena_keep_Tok (N : Nat) : TabOK Try.prog (E_term_Arena_keep_T N) := TabOK.nil
theorem term_Arena_keep_a25e_ok (N : Nat) : VarOK Try.prog (E_term_Arena_keep_T N) Try.f38 (codeOf Try.f38) (term_Arena_keep_a25e_W (term_Arena_keep_a25e N)) :=
  VarOK.of (E_term_Arena_keep_Tok N) (by kernel_rfl) ⟨[1], [], [1]⟩ (term_Arena_keep_a25e_F) N (fun _ => LStep.none) (term_Arena_keep_a25e_body N)
theorem E_term_Arena_keep_ok (N : Nat) : EntOK Try.prog 38 (E_term_Arena_keep N) := EntOK.vars (E_term_Arena_keep_Tok N) Try.func38 (by kernel_rfl) (by kernel_rfl) (all_cons (term_Arena_keep_a25e_ok N) (all_nil))
theorem E_term_Arena_Const_Tok (N : Nat) : TabOK Try.prog (E_term_Arena_Const_T N) := TabOK.cons (E_term_Arena_keep_ok N) (TabOK.cons (E_wide_Mask_ok N) (TabOK.cons (E_wide_May_ok N) (TabOK.nil)))
theorem term_Arena_Const_2c81_ok (N : Nat) : VarOK Try.prog (E_term_Arena_Const_T N) Try.f21 (codeOf Try.f21) (term_Arena_Const_2c81_W (term_Arena_Const_2c81 N)) :=
  VarOK.of (E_term_Arena_Const_Tok N) (by kernel_rfl) ⟨[1], [], [1]⟩ (term_Arena_Const_2c81_F) N (fun _ => LStep.none) (term_Arena_Const_2c81_body N (@term_Arena_keep_a25e N) (@wide_Mask N) (@wide_May N))
theorem E_term_Arena_Const_ok (N : Nat) : EntOK Try.prog 21 (E_term_Arena_Const N) := EntOK.vars (E_term_Arena_Const_Tok N) Try.func21 (by kernel_rfl) (by kernel_rfl) (all_cons (term_Arena_Const_2c81_ok N) (all_nil))
theorem E_term_two_Tok (N : Nat) : TabOK Try.prog (E_term_two_T N) := TabOK.nil
theorem term_two_ok (N : Nat) : VarOK Try.prog (E_term_two_T N) Try.f39 (codeOf Try.f39) (term_two_W (term_two N)) :=
  VarOK.of (E_term_two_Tok N) (by kernel_rfl) ⟨[], [], []⟩ (term_two_F) N (fun _ => LStep.none) (term_two_body N)
theorem E_term_two_ok (N : Nat) : EntOK Try.prog 39 (E_term_two N) := EntOK.vars (E_term_two_Tok N) Try.func39 (by kernel_rfl) (by kernel_rfl) (all_cons (term_two_ok N) (all_nil))
theorem E_term_Arena_Node_Tok (N : Nat) : TabOK Try.prog (E_term_Arena_Node_T N) := TabOK.nil
theorem term_Arena_Node_43b4_ok (N : Nat) : VarOK Try.prog (E_term_Arena_Node_T N) Try.f50 (codeOf Try.f50) (term_Arena_Node_43b4_W (term_Arena_Node_43b4 N)) :=
  VarOK.of (E_term_Arena_Node_Tok N) (by kernel_rfl) ⟨[], [], [1]⟩ (term_Arena_Node_43b4_F) N (fun _ => LStep.none) (term_Arena_Node_43b4_body N)
theorem E_term_Arena_Node_ok (N : Nat) : EntOK Try.prog 50 (E_term_Arena_Node N) := EntOK.vars (E_term_Arena_Node_Tok N) Try.func50 (by kernel_rfl) (by kernel_rfl) (all_cons (term_Arena_Node_43b4_ok N) (all_nil))
theorem E_term_Arena_there_Tok (N : Nat) : TabOK Try.prog (E_term_Arena_there_T N) := TabOK.cons (E_term_Arena_Node_ok N) (TabOK.nil)
theorem term_Arena_there_2549_v0_0_ok (N : Nat) : LV Try.prog (E_term_Arena_there_T N) ⟨5, Try.f40.ntmps, fun i => (term_Arena_there_2549_F (@term_Arena_there_2549_l0 N) i).at N, [1, 4]⟩ (bodyAt Try.f40 0) 0 (term_Arena_there_2549_F0 (@term_Arena_there_2549_l0 N)) (term_Arena_there_2549_v0_0 (@term_Arena_there_2549_l0 N)) := ⟨fun _ _ _ => rfl, term_Arena_there_2549_v0_0_round N (@term_Arena_Node_43b4 N) (@term_Arena_there_2549_l0 N)⟩
theorem term_Arena_there_2549_s0 (N : Nat) : LStep Try.prog (E_term_Arena_there_T N) ⟨5, Try.f40.ntmps, fun i => (term_Arena_there_2549_F (@term_Arena_there_2549_l0 N) i).at N, [1, 4]⟩ (bodyAt Try.f40 0) 0 (term_Arena_there_2549_F0 (@term_Arena_there_2549_l0 N)) := all_cons (term_Arena_there_2549_v0_0_ok N) (all_nil)
theorem term_Arena_there_2549_ok (N : Nat) : VarOK Try.prog (E_term_Arena_there_T N) Try.f40 (codeOf Try.f40) (term_Arena_there_2549_W (term_Arena_there_2549 N)) :=
  VarOK.of (E_term_Arena_there_Tok N) (by kernel_rfl) ⟨[], [], [1, 4]⟩ (term_Arena_there_2549_F (@term_Arena_there_2549_l0 N)) N (fun | 0 => term_Arena_there_2549_s0 N | _ + 1 => LStep.none) (term_Arena_there_2549_body N (@term_Arena_Node_43b4 N) (@term_Arena_there_2549_l0 N))
theorem E_term_Arena_there_ok (N : Nat) : EntOK Try.prog 40 (E_term_Arena_there N) := EntOK.vars (E_term_Arena_there_Tok N) Try.func40 (by kernel_rfl) (by kernel_rfl) (all_cons (term_Arena_there_2549_ok N) (all_nil))
theorem E_term_Arena_Width_Tok (N : Nat) : TabOK Try.prog (E_term_Arena_Width_T N) := TabOK.cons (E_term_Arena_Node_ok N) (TabOK.nil)
theorem term_Arena_Width_43b4_ok (N : Nat) : VarOK Try.prog (E_term_Arena_Width_T N) Try.f31 (codeOf Try.f31) (term_Arena_Width_43b4_W (term_Arena_Width_43b4 N)) :=
  VarOK.of (E_term_Arena_Width_Tok N) (by kernel_rfl) ⟨[], [], [1]⟩ (term_Arena_Width_43b4_F) N (fun _ => LStep.none) (term_Arena_Width_43b4_body N (@term_Arena_Node_43b4 N))
theorem E_term_Arena_Width_ok (N : Nat) : EntOK Try.prog 31 (E_term_Arena_Width N) := EntOK.vars (E_term_Arena_Width_Tok N) Try.func31 (by kernel_rfl) (by kernel_rfl) (all_cons (term_Arena_Width_43b4_ok N) (all_nil))
theorem E_term_Arena_Known_Tok (N : Nat) : TabOK Try.prog (E_term_Arena_Known_T N) := TabOK.cons (E_term_Arena_Node_ok N) (TabOK.nil)
theorem term_Arena_Known_43b4_ok (N : Nat) : VarOK Try.prog (E_term_Arena_Known_T N) Try.f23 (codeOf Try.f23) (term_Arena_Known_43b4_W (term_Arena_Known_43b4 N)) :=
  VarOK.of (E_term_Arena_Known_Tok N) (by kernel_rfl) ⟨[], [], [1]⟩ (term_Arena_Known_43b4_F) N (fun _ => LStep.none) (term_Arena_Known_43b4_body N (@term_Arena_Node_43b4 N))
theorem E_term_Arena_Known_ok (N : Nat) : EntOK Try.prog 23 (E_term_Arena_Known N) := EntOK.vars (E_term_Arena_Known_Tok N) Try.func23 (by kernel_rfl) (by kernel_rfl) (all_cons (term_Arena_Known_43b4_ok N) (all_nil))
theorem E_wide_divided_Tok (N : Nat) : TabOK Try.prog (E_wide_divided_T N) := TabOK.cons (E_wide_Mask_ok N) (TabOK.nil)
theorem wide_divided_ok (N : Nat) : VarOK Try.prog (E_wide_divided_T N) Try.f58 (codeOf Try.f58) (wide_divided_W (wide_divided N)) :=
  VarOK.of (E_wide_divided_Tok N) (by kernel_rfl) ⟨[], [], []⟩ (wide_divided_F) N (fun _ => LStep.none) (wide_divided_body N (@wide_Mask N))
theorem E_wide_divided_ok (N : Nat) : EntOK Try.prog 58 (E_wide_divided N) := EntOK.vars (E_wide_divided_Tok N) Try.func58 (by kernel_rfl) (by kernel_rfl) (all_cons (wide_divided_ok N) (all_nil))
theorem E_wide_rest_Tok (N : Nat) : TabOK Try.prog (E_wide_rest_T N) := TabOK.nil
theorem wide_rest_ok (N : Nat) : VarOK Try.prog (E_wide_rest_T N) Try.f59 (codeOf Try.f59) (wide_rest_W (wide_rest N)) :=
  VarOK.of (E_wide_rest_Tok N) (by kernel_rfl) ⟨[], [], []⟩ (wide_rest_F) N (fun _ => LStep.none) (wide_rest_body N)
theorem E_wide_rest_ok (N : Nat) : EntOK Try.prog 59 (E_wide_rest N) := EntOK.vars (E_wide_rest_Tok N) Try.func59 (by kernel_rfl) (by kernel_rfl) (all_cons (wide_rest_ok N) (all_nil))
theorem E_wide_truth_Tok (N : Nat) : TabOK Try.prog (E_wide_truth_T N) := TabOK.nil
theorem wide_truth_ok (N : Nat) : VarOK Try.prog (E_wide_truth_T N) Try.f60 (codeOf Try.f60) (wide_truth_W (wide_truth N)) :=
  VarOK.of (E_wide_truth_Tok N) (by kernel_rfl) ⟨[], [], []⟩ (wide_truth_F) N (fun _ => LStep.none) (wide_truth_body N)
theorem E_wide_truth_ok (N : Nat) : EntOK Try.prog 60 (E_wide_truth N) := EntOK.vars (E_wide_truth_Tok N) Try.func60 (by kernel_rfl) (by kernel_rfl) (all_cons (wide_truth_ok N) (all_nil))
theorem E_wide_reckon_Tok (N : Nat) : TabOK Try.prog (E_wide_reckon_T N) := TabOK.cons (E_wide_truth_ok N) (TabOK.cons (E_wide_rest_ok N) (TabOK.cons (E_wide_divided_ok N) (TabOK.nil)))
theorem wide_reckon_ok (N : Nat) : VarOK Try.prog (E_wide_reckon_T N) Try.f55 (codeOf Try.f55) (wide_reckon_W (wide_reckon N)) :=
  VarOK.of (E_wide_reckon_Tok N) (by kernel_rfl) ⟨[], [], []⟩ (wide_reckon_F) N (fun _ => LStep.none) (wide_reckon_body N (@wide_truth N) (@wide_rest N) (@wide_divided N))
theorem E_wide_reckon_ok (N : Nat) : EntOK Try.prog 55 (E_wide_reckon N) := EntOK.vars (E_wide_reckon_Tok N) Try.func55 (by kernel_rfl) (by kernel_rfl) (all_cons (wide_reckon_ok N) (all_nil))
theorem E_wide_Do_Tok (N : Nat) : TabOK Try.prog (E_wide_Do_T N) := TabOK.cons (E_wide_reckon_ok N) (TabOK.cons (E_wide_Mask_ok N) (TabOK.cons (E_wide_May_ok N) (TabOK.nil)))
theorem wide_Do_ok (N : Nat) : VarOK Try.prog (E_wide_Do_T N) Try.f41 (codeOf Try.f41) (wide_Do_W (wide_Do N)) :=
  VarOK.of (E_wide_Do_Tok N) (by kernel_rfl) ⟨[], [], []⟩ (wide_Do_F) N (fun _ => LStep.none) (wide_Do_body N (@wide_reckon N) (@wide_Mask N) (@wide_May N))
theorem E_wide_Do_ok (N : Nat) : EntOK Try.prog 41 (E_wide_Do N) := EntOK.vars (E_wide_Do_Tok N) Try.func41 (by kernel_rfl) (by kernel_rfl) (all_cons (wide_Do_ok N) (all_nil))
theorem E_wide_Out_Tok (N : Nat) : TabOK Try.prog (E_wide_Out_T N) := TabOK.cons (E_wide_Do_ok N) (TabOK.nil)
theorem wide_Out_ok (N : Nat) : VarOK Try.prog (E_wide_Out_T N) Try.f42 (codeOf Try.f42) (wide_Out_W (wide_Out N)) :=
  VarOK.of (E_wide_Out_Tok N) (by kernel_rfl) ⟨[], [], []⟩ (wide_Out_F) N (fun _ => LStep.none) (wide_Out_body N (@wide_Do N))
theorem E_wide_Out_ok (N : Nat) : EntOK Try.prog 42 (E_wide_Out N) := EntOK.vars (E_wide_Out_Tok N) Try.func42 (by kernel_rfl) (by kernel_rfl) (all_cons (wide_Out_ok N) (all_nil))
theorem E_term_turns_Tok (N : Nat) : TabOK Try.prog (E_term_turns_T N) := TabOK.nil
theorem term_turns_ok (N : Nat) : VarOK Try.prog (E_term_turns_T N) Try.f43 (codeOf Try.f43) (term_turns_W (term_turns N)) :=
  VarOK.of (E_term_turns_Tok N) (by kernel_rfl) ⟨[], [], []⟩ (term_turns_F) N (fun _ => LStep.none) (term_turns_body N)
theorem E_term_turns_ok (N : Nat) : EntOK Try.prog 43 (E_term_turns N) := EntOK.vars (E_term_turns_Tok N) Try.func43 (by kernel_rfl) (by kernel_rfl) (all_cons (term_turns_ok N) (all_nil))
theorem E_term_Arena_alike_Tok (N : Nat) : TabOK Try.prog (E_term_Arena_alike_T N) := TabOK.cons (E_wide_Do_ok N) (TabOK.cons (E_term_Arena_Const_ok N) (TabOK.cons (E_term_Arena_Width_ok N) (TabOK.nil)))
theorem term_Arena_alike_99d8_ok (N : Nat) : VarOK Try.prog (E_term_Arena_alike_T N) Try.f56 (codeOf Try.f56) (term_Arena_alike_99d8_W (term_Arena_alike_99d8 N)) :=
  VarOK.of (E_term_Arena_alike_Tok N) (by kernel_rfl) ⟨[1], [], [1]⟩ (term_Arena_alike_99d8_F) N (fun _ => LStep.none) (term_Arena_alike_99d8_body N (@wide_Do N) (@term_Arena_Const_2c81 N) (@term_Arena_Width_43b4 N))
theorem E_term_Arena_alike_ok (N : Nat) : EntOK Try.prog 56 (E_term_Arena_alike N) := EntOK.vars (E_term_Arena_alike_Tok N) Try.func56 (by kernel_rfl) (by kernel_rfl) (all_cons (term_Arena_alike_99d8_ok N) (all_nil))
theorem E_term_Arena_Not_Tok (N : Nat) : TabOK Try.prog (E_term_Arena_Not_T N) := TabOK.cons (E_term_Arena_keep_ok N) (TabOK.cons (E_term_Arena_Const_ok N) (TabOK.cons (E_term_Arena_Node_ok N) (TabOK.cons (E_term_Arena_there_ok N) (TabOK.nil))))
theorem term_Arena_Not_43b4_ok (N : Nat) : VarOK Try.prog (E_term_Arena_Not_T N) Try.f22 (codeOf Try.f22) (term_Arena_Not_43b4_W (term_Arena_Not_43b4 N)) :=
  VarOK.of (E_term_Arena_Not_Tok N) (by kernel_rfl) ⟨[1], [], [1]⟩ (term_Arena_Not_43b4_F) N (fun _ => LStep.none) (term_Arena_Not_43b4_body N (@term_Arena_keep_a25e N) (@term_Arena_Const_2c81 N) (@term_Arena_Node_43b4 N) (@term_Arena_there_2549 N))
theorem E_term_Arena_Not_ok (N : Nat) : EntOK Try.prog 22 (E_term_Arena_Not N) := EntOK.vars (E_term_Arena_Not_Tok N) Try.func22 (by kernel_rfl) (by kernel_rfl) (all_cons (term_Arena_Not_43b4_ok N) (all_nil))
theorem E_term_Arena_Var_Tok (N : Nat) : TabOK Try.prog (E_term_Arena_Var_T N) := TabOK.cons (E_term_Arena_keep_ok N) (TabOK.cons (E_wide_May_ok N) (TabOK.nil))
theorem term_Arena_Var_99d8_ok (N : Nat) : VarOK Try.prog (E_term_Arena_Var_T N) Try.f17 (codeOf Try.f17) (term_Arena_Var_99d8_W (term_Arena_Var_99d8 N)) :=
  VarOK.of (E_term_Arena_Var_Tok N) (by kernel_rfl) ⟨[1], [], [1]⟩ (term_Arena_Var_99d8_F) N (fun _ => LStep.none) (term_Arena_Var_99d8_body N (@term_Arena_keep_a25e N) (@wide_May N))
theorem E_term_Arena_Var_ok (N : Nat) : EntOK Try.prog 17 (E_term_Arena_Var N) := EntOK.vars (E_term_Arena_Var_Tok N) Try.func17 (by kernel_rfl) (by kernel_rfl) (all_cons (term_Arena_Var_99d8_ok N) (all_nil))
theorem E_term_Value_Tok (N : Nat) : TabOK Try.prog (E_term_Value_T N) := TabOK.cons (E_wide_Do_ok N) (TabOK.cons (E_wide_Mask_ok N) (TabOK.nil))
theorem term_Value_7344_ok (N : Nat) : VarOK Try.prog (E_term_Value_T N) Try.f48 (codeOf Try.f48) (term_Value_7344_W (term_Value_7344 N)) :=
  VarOK.of (E_term_Value_Tok N) (by kernel_rfl) ⟨[], [], [0]⟩ (term_Value_7344_F) N (fun _ => LStep.none) (term_Value_7344_body N (@wide_Do N) (@wide_Mask N))
theorem E_term_Value_ok (N : Nat) : EntOK Try.prog 48 (E_term_Value N) := EntOK.vars (E_term_Value_Tok N) Try.func48 (by kernel_rfl) (by kernel_rfl) (all_cons (term_Value_7344_ok N) (all_nil))
theorem E_term_Arena_Under_Tok (N : Nat) : TabOK Try.prog (E_term_Arena_Under_T N) := TabOK.cons (E_term_Arena_there_ok N) (TabOK.nil)
theorem term_Arena_Under_2549_v0_0_ok (N : Nat) : LV Try.prog (E_term_Arena_Under_T N) ⟨5, Try.f47.ntmps, fun i => (term_Arena_Under_2549_F (@term_Arena_Under_2549_l0 N) (@term_Arena_Under_2549_l1 N) (@term_Arena_Under_2549_l2 N) (@term_Arena_Under_2549_l3 N) i).at N, [1, 4]⟩ (bodyAt Try.f47 0) 0 (term_Arena_Under_2549_F0 (@term_Arena_Under_2549_l0 N)) (term_Arena_Under_2549_v0_0 (@term_Arena_Under_2549_l0 N)) := ⟨fun _ _ _ => rfl, term_Arena_Under_2549_v0_0_round N (@term_Arena_there_2549 N) (@term_Arena_Under_2549_l0 N) (@term_Arena_Under_2549_l1 N) (@term_Arena_Under_2549_l2 N) (@term_Arena_Under_2549_l3 N)⟩
theorem term_Arena_Under_2549_s0 (N : Nat) : LStep Try.prog (E_term_Arena_Under_T N) ⟨5, Try.f47.ntmps, fun i => (term_Arena_Under_2549_F (@term_Arena_Under_2549_l0 N) (@term_Arena_Under_2549_l1 N) (@term_Arena_Under_2549_l2 N) (@term_Arena_Under_2549_l3 N) i).at N, [1, 4]⟩ (bodyAt Try.f47 0) 0 (term_Arena_Under_2549_F0 (@term_Arena_Under_2549_l0 N)) := all_cons (term_Arena_Under_2549_v0_0_ok N) (all_nil)
theorem term_Arena_Under_2549_v1_0_ok (N : Nat) : LV Try.prog (E_term_Arena_Under_T N) ⟨5, Try.f47.ntmps, fun i => (term_Arena_Under_2549_F (@term_Arena_Under_2549_l0 N) (@term_Arena_Under_2549_l1 N) (@term_Arena_Under_2549_l2 N) (@term_Arena_Under_2549_l3 N) i).at N, [1, 4]⟩ (bodyAt Try.f47 1) 1 (term_Arena_Under_2549_F1 (@term_Arena_Under_2549_l1 N)) (term_Arena_Under_2549_v1_0 (@term_Arena_Under_2549_l1 N)) := ⟨fun _ _ _ => rfl, term_Arena_Under_2549_v1_0_round N (@term_Arena_there_2549 N) (@term_Arena_Under_2549_l0 N) (@term_Arena_Under_2549_l1 N) (@term_Arena_Under_2549_l2 N) (@term_Arena_Under_2549_l3 N)⟩
theorem term_Arena_Under_2549_s1 (N : Nat) : LStep Try.prog (E_term_Arena_Under_T N) ⟨5, Try.f47.ntmps, fun i => (term_Arena_Under_2549_F (@term_Arena_Under_2549_l0 N) (@term_Arena_Under_2549_l1 N) (@term_Arena_Under_2549_l2 N) (@term_Arena_Under_2549_l3 N) i).at N, [1, 4]⟩ (bodyAt Try.f47 1) 1 (term_Arena_Under_2549_F1 (@term_Arena_Under_2549_l1 N)) := all_cons (term_Arena_Under_2549_v1_0_ok N) (all_nil)
theorem term_Arena_Under_2549_v2_0_ok (N : Nat) : LV Try.prog (E_term_Arena_Under_T N) ⟨5, Try.f47.ntmps, fun i => (term_Arena_Under_2549_F (@term_Arena_Under_2549_l0 N) (@term_Arena_Under_2549_l1 N) (@term_Arena_Under_2549_l2 N) (@term_Arena_Under_2549_l3 N) i).at N, [1, 4]⟩ (bodyAt Try.f47 2) 2 (term_Arena_Under_2549_F2 (@term_Arena_Under_2549_l2 N)) (term_Arena_Under_2549_v2_0 (@term_Arena_Under_2549_l2 N)) := ⟨fun _ _ _ => rfl, term_Arena_Under_2549_v2_0_round N (@term_Arena_there_2549 N) (@term_Arena_Under_2549_l0 N) (@term_Arena_Under_2549_l1 N) (@term_Arena_Under_2549_l2 N) (@term_Arena_Under_2549_l3 N)⟩
theorem term_Arena_Under_2549_s2 (N : Nat) : LStep Try.prog (E_term_Arena_Under_T N) ⟨5, Try.f47.ntmps, fun i => (term_Arena_Under_2549_F (@term_Arena_Under_2549_l0 N) (@term_Arena_Under_2549_l1 N) (@term_Arena_Under_2549_l2 N) (@term_Arena_Under_2549_l3 N) i).at N, [1, 4]⟩ (bodyAt Try.f47 2) 2 (term_Arena_Under_2549_F2 (@term_Arena_Under_2549_l2 N)) := all_cons (term_Arena_Under_2549_v2_0_ok N) (all_nil)
theorem term_Arena_Under_2549_v3_0_ok (N : Nat) : LV Try.prog (E_term_Arena_Under_T N) ⟨5, Try.f47.ntmps, fun i => (term_Arena_Under_2549_F (@term_Arena_Under_2549_l0 N) (@term_Arena_Under_2549_l1 N) (@term_Arena_Under_2549_l2 N) (@term_Arena_Under_2549_l3 N) i).at N, [1, 4]⟩ (bodyAt Try.f47 3) 3 (term_Arena_Under_2549_F3 (@term_Arena_Under_2549_l3 N)) (term_Arena_Under_2549_v3_0 (@term_Arena_Under_2549_l3 N)) := ⟨fun _ _ _ => rfl, term_Arena_Under_2549_v3_0_round N (@term_Arena_there_2549 N) (@term_Arena_Under_2549_l0 N) (@term_Arena_Under_2549_l1 N) (@term_Arena_Under_2549_l2 N) (@term_Arena_Under_2549_l3 N)⟩
theorem term_Arena_Under_2549_s3 (N : Nat) : LStep Try.prog (E_term_Arena_Under_T N) ⟨5, Try.f47.ntmps, fun i => (term_Arena_Under_2549_F (@term_Arena_Under_2549_l0 N) (@term_Arena_Under_2549_l1 N) (@term_Arena_Under_2549_l2 N) (@term_Arena_Under_2549_l3 N) i).at N, [1, 4]⟩ (bodyAt Try.f47 3) 3 (term_Arena_Under_2549_F3 (@term_Arena_Under_2549_l3 N)) := all_cons (term_Arena_Under_2549_v3_0_ok N) (all_nil)
theorem term_Arena_Under_2549_ok (N : Nat) : VarOK Try.prog (E_term_Arena_Under_T N) Try.f47 (codeOf Try.f47) (term_Arena_Under_2549_W (term_Arena_Under_2549 N)) :=
  VarOK.of (E_term_Arena_Under_Tok N) (by kernel_rfl) ⟨[], [], [1, 4]⟩ (term_Arena_Under_2549_F (@term_Arena_Under_2549_l0 N) (@term_Arena_Under_2549_l1 N) (@term_Arena_Under_2549_l2 N) (@term_Arena_Under_2549_l3 N)) N (fun | 0 => term_Arena_Under_2549_s0 N | 1 => term_Arena_Under_2549_s1 N | 2 => term_Arena_Under_2549_s2 N | 3 => term_Arena_Under_2549_s3 N | _ + 4 => LStep.none) (term_Arena_Under_2549_body N (@term_Arena_there_2549 N) (@term_Arena_Under_2549_l0 N) (@term_Arena_Under_2549_l1 N) (@term_Arena_Under_2549_l2 N) (@term_Arena_Under_2549_l3 N))
theorem E_term_Arena_Under_ok (N : Nat) : EntOK Try.prog 47 (E_term_Arena_Under N) := EntOK.vars (E_term_Arena_Under_Tok N) Try.func47 (by kernel_rfl) (by kernel_rfl) (all_cons (term_Arena_Under_2549_ok N) (all_nil))
theorem E_term_Arena_Vars_Tok (N : Nat) : TabOK Try.prog (E_term_Arena_Vars_T N) := TabOK.cons (E_term_Arena_Under_ok N) (TabOK.cons (E_term_Arena_there_ok N) (TabOK.nil))
theorem term_Arena_Vars_43b4_v0_0_ok (N : Nat) : LV Try.prog (E_term_Arena_Vars_T N) ⟨4, Try.f32.ntmps, fun i => (term_Arena_Vars_43b4_F (@term_Arena_Vars_43b4_l0 N) (@term_Arena_Vars_43b4_l1 N) i).at N, [1]⟩ (bodyAt Try.f32 0) 0 (term_Arena_Vars_43b4_F0 (@term_Arena_Vars_43b4_l0 N)) (term_Arena_Vars_43b4_v0_0 (@term_Arena_Vars_43b4_l0 N)) := ⟨fun _ _ _ => rfl, term_Arena_Vars_43b4_v0_0_round N (@term_Arena_Under_2549 N) (@term_Arena_there_2549 N) (@term_Arena_Vars_43b4_l0 N) (@term_Arena_Vars_43b4_l1 N)⟩
theorem term_Arena_Vars_43b4_s0 (N : Nat) : LStep Try.prog (E_term_Arena_Vars_T N) ⟨4, Try.f32.ntmps, fun i => (term_Arena_Vars_43b4_F (@term_Arena_Vars_43b4_l0 N) (@term_Arena_Vars_43b4_l1 N) i).at N, [1]⟩ (bodyAt Try.f32 0) 0 (term_Arena_Vars_43b4_F0 (@term_Arena_Vars_43b4_l0 N)) := all_cons (term_Arena_Vars_43b4_v0_0_ok N) (all_nil)
theorem term_Arena_Vars_43b4_v1_0_ok (N : Nat) : LV Try.prog (E_term_Arena_Vars_T N) ⟨4, Try.f32.ntmps, fun i => (term_Arena_Vars_43b4_F (@term_Arena_Vars_43b4_l0 N) (@term_Arena_Vars_43b4_l1 N) i).at N, [1]⟩ (bodyAt Try.f32 1) 1 (term_Arena_Vars_43b4_F1 (@term_Arena_Vars_43b4_l1 N)) (term_Arena_Vars_43b4_v1_0 (@term_Arena_Vars_43b4_l1 N)) := ⟨fun _ _ _ => rfl, term_Arena_Vars_43b4_v1_0_round N (@term_Arena_Under_2549 N) (@term_Arena_there_2549 N) (@term_Arena_Vars_43b4_l0 N) (@term_Arena_Vars_43b4_l1 N)⟩
theorem term_Arena_Vars_43b4_s1 (N : Nat) : LStep Try.prog (E_term_Arena_Vars_T N) ⟨4, Try.f32.ntmps, fun i => (term_Arena_Vars_43b4_F (@term_Arena_Vars_43b4_l0 N) (@term_Arena_Vars_43b4_l1 N) i).at N, [1]⟩ (bodyAt Try.f32 1) 1 (term_Arena_Vars_43b4_F1 (@term_Arena_Vars_43b4_l1 N)) := all_cons (term_Arena_Vars_43b4_v1_0_ok N) (all_nil)
theorem term_Arena_Vars_43b4_ok (N : Nat) : VarOK Try.prog (E_term_Arena_Vars_T N) Try.f32 (codeOf Try.f32) (term_Arena_Vars_43b4_W (term_Arena_Vars_43b4 N)) :=
  VarOK.of (E_term_Arena_Vars_Tok N) (by kernel_rfl) ⟨[], [], [1]⟩ (term_Arena_Vars_43b4_F (@term_Arena_Vars_43b4_l0 N) (@term_Arena_Vars_43b4_l1 N)) N (fun | 0 => term_Arena_Vars_43b4_s0 N | 1 => term_Arena_Vars_43b4_s1 N | _ + 2 => LStep.none) (term_Arena_Vars_43b4_body N (@term_Arena_Under_2549 N) (@term_Arena_there_2549 N) (@term_Arena_Vars_43b4_l0 N) (@term_Arena_Vars_43b4_l1 N))
theorem E_term_Arena_Vars_ok (N : Nat) : EntOK Try.prog 32 (E_term_Arena_Vars N) := EntOK.vars (E_term_Arena_Vars_Tok N) Try.func32 (by kernel_rfl) (by kernel_rfl) (all_cons (term_Arena_Vars_43b4_ok N) (all_nil))
theorem E_ref1_May_Tok (N : Nat) : TabOK Try.prog (E_ref1_May_T N) := TabOK.nil
theorem ref1_May_ok (N : Nat) : VarOK Try.prog (E_ref1_May_T N) Try.f15 (codeOf Try.f15) (ref1_May_W (ref1_May N)) :=
  VarOK.of (E_ref1_May_Tok N) (by kernel_rfl) ⟨[], [], []⟩ (ref1_May_F) N (fun _ => LStep.none) (ref1_May_body N)
theorem E_ref1_May_ok (N : Nat) : EntOK Try.prog 15 (E_ref1_May N) := EntOK.vars (E_ref1_May_Tok N) Try.func15 (by kernel_rfl) (by kernel_rfl) (all_cons (ref1_May_ok N) (all_nil))
theorem E_ref1_Mask_Tok (N : Nat) : TabOK Try.prog (E_ref1_Mask_T N) := TabOK.cons (E_ref1_May_ok N) (TabOK.nil)
theorem ref1_Mask_ok (N : Nat) : VarOK Try.prog (E_ref1_Mask_T N) Try.f33 (codeOf Try.f33) (ref1_Mask_W (ref1_Mask N)) :=
  VarOK.of (E_ref1_Mask_Tok N) (by kernel_rfl) ⟨[], [], []⟩ (ref1_Mask_F) N (fun _ => LStep.none) (ref1_Mask_body N (@ref1_May N))
theorem E_ref1_Mask_ok (N : Nat) : EntOK Try.prog 33 (E_ref1_Mask N) := EntOK.vars (E_ref1_Mask_Tok N) Try.func33 (by kernel_rfl) (by kernel_rfl) (all_cons (ref1_Mask_ok N) (all_nil))
theorem E_ref1_bit_Tok (N : Nat) : TabOK Try.prog (E_ref1_bit_T N) := TabOK.nil
theorem ref1_bit_ok (N : Nat) : VarOK Try.prog (E_ref1_bit_T N) Try.f45 (codeOf Try.f45) (ref1_bit_W (ref1_bit N)) :=
  VarOK.of (E_ref1_bit_Tok N) (by kernel_rfl) ⟨[], [], []⟩ (ref1_bit_F) N (fun _ => LStep.none) (ref1_bit_body N)
theorem E_ref1_bit_ok (N : Nat) : EntOK Try.prog 45 (E_ref1_bit N) := EntOK.vars (E_ref1_bit_Tok N) Try.func45 (by kernel_rfl) (by kernel_rfl) (all_cons (ref1_bit_ok N) (all_nil))
theorem E_ref1_Do_Tok (N : Nat) : TabOK Try.prog (E_ref1_Do_T N) := TabOK.cons (E_ref1_bit_ok N) (TabOK.cons (E_ref1_Mask_ok N) (TabOK.cons (E_ref1_May_ok N) (TabOK.nil)))
theorem ref1_Do_ok (N : Nat) : VarOK Try.prog (E_ref1_Do_T N) Try.f19 (codeOf Try.f19) (ref1_Do_W (ref1_Do N)) :=
  VarOK.of (E_ref1_Do_Tok N) (by kernel_rfl) ⟨[], [], []⟩ (ref1_Do_F) N (fun _ => LStep.none) (ref1_Do_body N (@ref1_bit N) (@ref1_Mask N) (@ref1_May N))
theorem E_ref1_Do_ok (N : Nat) : EntOK Try.prog 19 (E_ref1_Do N) := EntOK.vars (E_ref1_Do_Tok N) Try.func19 (by kernel_rfl) (by kernel_rfl) (all_cons (ref1_Do_ok N) (all_nil))
theorem term_Arena_Two_12d2_ok (N : Nat) (n : Nat) (hT : TabOK Try.prog (E_term_Arena_Two_T N n)) : VarOK Try.prog (E_term_Arena_Two_T N n) Try.f18 (codeOf Try.f18) (term_Arena_Two_12d2_W (@G_term_Arena_Two_Rec.term_Arena_Two_12d2 (G_term_Arena_Two_rec N (n + 1)))) :=
  VarOK.of hT (by kernel_rfl) ⟨[1], [], [1]⟩ (term_Arena_Two_12d2_F) N (fun _ => LStep.none) (term_Arena_Two_12d2_body N (@term_Arena_keep_a25e N) (@G_term_Arena_Two_Rec.term_Arena_less_12d2 (G_term_Arena_Two_rec N n)) (@term_turns N) (@term_Arena_Const_2c81 N) (@wide_Out N) (@wide_Do N) (@term_Arena_Known_43b4 N) (@term_Arena_Width_43b4 N) (@term_Arena_there_2549 N) (@term_two N))
theorem term_Arena_equal_2c81_ok (N : Nat) (n : Nat) (hT : TabOK Try.prog (E_term_Arena_equal_T N n)) : VarOK Try.prog (E_term_Arena_equal_T N n) Try.f61 (codeOf Try.f61) (term_Arena_equal_2c81_W (@G_term_Arena_Two_Rec.term_Arena_equal_2c81 (G_term_Arena_Two_rec N (n + 1)))) :=
  VarOK.of hT (by kernel_rfl) ⟨[1], [], [1]⟩ (term_Arena_equal_2c81_F) N (fun _ => LStep.none) (term_Arena_equal_2c81_body N (@G_term_Arena_Two_Rec.term_Arena_Two_12d2 (G_term_Arena_Two_rec N n)) (@term_Arena_Const_2c81 N) (@wide_Mask N) (@term_Arena_Width_43b4 N) (@term_Arena_Not_43b4 N) (@term_Arena_Node_43b4 N))
theorem term_Arena_with_7a2f_ok (N : Nat) (n : Nat) (hT : TabOK Try.prog (E_term_Arena_with_T N n)) : VarOK Try.prog (E_term_Arena_with_T N n) Try.f57 (codeOf Try.f57) (term_Arena_with_7a2f_W (@G_term_Arena_Two_Rec.term_Arena_with_7a2f (G_term_Arena_Two_rec N (n + 1)))) :=
  VarOK.of hT (by kernel_rfl) ⟨[1], [], [1]⟩ (term_Arena_with_7a2f_F) N (fun _ => LStep.none) (term_Arena_with_7a2f_body N (@G_term_Arena_Two_Rec.term_Arena_equal_2c81 (G_term_Arena_Two_rec N n)) (@wide_Mask N) (@term_Arena_Const_2c81 N) (@wide_Out N) (@term_Arena_Width_43b4 N))
theorem term_Arena_less_12d2_ok (N : Nat) (n : Nat) (hT : TabOK Try.prog (E_term_Arena_less_T N n)) : VarOK Try.prog (E_term_Arena_less_T N n) Try.f44 (codeOf Try.f44) (term_Arena_less_12d2_W (@G_term_Arena_Two_Rec.term_Arena_less_12d2 (G_term_Arena_Two_rec N (n + 1)))) :=
  VarOK.of hT (by kernel_rfl) ⟨[1], [], [1]⟩ (term_Arena_less_12d2_F) N (fun _ => LStep.none) (term_Arena_less_12d2_body N (@G_term_Arena_Two_Rec.term_Arena_with_7a2f (G_term_Arena_Two_rec N n)) (@term_turns N) (@term_Arena_Known_43b4 N) (@term_Arena_alike_99d8 N))
theorem G_term_Arena_Two_ok (N : Nat) : ∀ n : Nat, EntOK Try.prog 18 (E_term_Arena_Two_n N n) ∧ EntOK Try.prog 61 (E_term_Arena_equal_n N n) ∧ EntOK Try.prog 57 (E_term_Arena_with_n N n) ∧ EntOK Try.prog 44 (E_term_Arena_less_n N n)
  | 0 => ⟨EntOK.void Try.func18 (by kernel_rfl) (by kernel_rfl) (all_cons (fun _ _ _ _ => rfl) (all_nil)),
    EntOK.void Try.func61 (by kernel_rfl) (by kernel_rfl) (all_cons (fun _ _ _ _ => rfl) (all_nil)),
    EntOK.void Try.func57 (by kernel_rfl) (by kernel_rfl) (all_cons (fun _ _ _ _ => rfl) (all_nil)),
    EntOK.void Try.func44 (by kernel_rfl) (by kernel_rfl) (all_cons (fun _ _ _ _ => rfl) (all_nil))⟩
  | n + 1 =>
    have ih := G_term_Arena_Two_ok N n
    ⟨(have hT : TabOK Try.prog (E_term_Arena_Two_T N n) := TabOK.cons (E_term_Arena_keep_ok N) (TabOK.cons (ih.2.2.2) (TabOK.cons (E_term_turns_ok N) (TabOK.cons (E_term_Arena_Const_ok N) (TabOK.cons (E_wide_Out_ok N) (TabOK.cons (E_wide_Do_ok N) (TabOK.cons (E_term_Arena_Known_ok N) (TabOK.cons (E_term_Arena_Width_ok N) (TabOK.cons (E_term_Arena_there_ok N) (TabOK.cons (E_term_two_ok N) (TabOK.nil))))))))))
     EntOK.vars hT Try.func18 (by kernel_rfl) (by kernel_rfl) (all_cons (term_Arena_Two_12d2_ok N n hT) (all_nil))),
    (have hT : TabOK Try.prog (E_term_Arena_equal_T N n) := TabOK.cons (ih.1) (TabOK.cons (E_term_Arena_Const_ok N) (TabOK.cons (E_wide_Mask_ok N) (TabOK.cons (E_term_Arena_Width_ok N) (TabOK.cons (E_term_Arena_Not_ok N) (TabOK.cons (E_term_Arena_Node_ok N) (TabOK.nil))))))
     EntOK.vars hT Try.func61 (by kernel_rfl) (by kernel_rfl) (all_cons (term_Arena_equal_2c81_ok N n hT) (all_nil))),
    (have hT : TabOK Try.prog (E_term_Arena_with_T N n) := TabOK.cons (ih.2.1) (TabOK.cons (E_wide_Mask_ok N) (TabOK.cons (E_term_Arena_Const_ok N) (TabOK.cons (E_wide_Out_ok N) (TabOK.cons (E_term_Arena_Width_ok N) (TabOK.nil)))))
     EntOK.vars hT Try.func57 (by kernel_rfl) (by kernel_rfl) (all_cons (term_Arena_with_7a2f_ok N n hT) (all_nil))),
    (have hT : TabOK Try.prog (E_term_Arena_less_T N n) := TabOK.cons (ih.2.2.1) (TabOK.cons (E_term_turns_ok N) (TabOK.cons (E_term_Arena_Known_ok N) (TabOK.cons (E_term_Arena_alike_ok N) (TabOK.nil))))
     EntOK.vars hT Try.func44 (by kernel_rfl) (by kernel_rfl) (all_cons (term_Arena_less_12d2_ok N n hT) (all_nil)))⟩
theorem E_term_Arena_Two_ok (N : Nat) : EntOK Try.prog 18 (E_term_Arena_Two N) := (G_term_Arena_Two_ok N N).1
theorem E_term_Arena_equal_ok (N : Nat) : EntOK Try.prog 61 (E_term_Arena_equal N) := (G_term_Arena_Two_ok N N).2.1
theorem E_term_Arena_with_ok (N : Nat) : EntOK Try.prog 57 (E_term_Arena_with N) := (G_term_Arena_Two_ok N N).2.2.1
theorem E_term_Arena_less_ok (N : Nat) : EntOK Try.prog 44 (E_term_Arena_less N) := (G_term_Arena_Two_ok N N).2.2.2
theorem term_Arena_quick_520c_ok (N : Nat) (n : Nat) (hT : TabOK Try.prog (E_term_Arena_quick_T N n)) : VarOK Try.prog (E_term_Arena_quick_T N n) Try.f46 (codeOf Try.f46) (term_Arena_quick_520c_W (@G_term_Arena_quick_Rec.term_Arena_quick_520c (G_term_Arena_quick_rec N (n + 1)))) :=
  VarOK.of hT (by kernel_rfl) ⟨[], [], [1, 4]⟩ (term_Arena_quick_520c_F) N (fun _ => LStep.none) (term_Arena_quick_520c_body N (@term_Value_7344 N) (@term_Arena_Width_43b4 N) (@G_term_Arena_quick_Rec.term_Arena_quick_520c (G_term_Arena_quick_rec N n)))
theorem G_term_Arena_quick_ok (N : Nat) : ∀ n : Nat, EntOK Try.prog 46 (E_term_Arena_quick_n N n)
  | 0 => EntOK.void Try.func46 (by kernel_rfl) (by kernel_rfl) (all_cons (fun _ _ _ _ => rfl) (all_nil))
  | n + 1 =>
    have ih := G_term_Arena_quick_ok N n
    (have hT : TabOK Try.prog (E_term_Arena_quick_T N n) := TabOK.cons (E_term_Value_ok N) (TabOK.cons (E_term_Arena_Width_ok N) (TabOK.cons (ih) (TabOK.nil)))
     EntOK.vars hT Try.func46 (by kernel_rfl) (by kernel_rfl) (all_cons (term_Arena_quick_520c_ok N n hT) (all_nil)))
theorem E_term_Arena_quick_ok (N : Nat) : EntOK Try.prog 46 (E_term_Arena_quick N) := (G_term_Arena_quick_ok N N)
theorem E_term_Arena_Eval_Tok (N : Nat) : TabOK Try.prog (E_term_Arena_Eval_T N) := TabOK.cons (E_term_Value_ok N) (TabOK.cons (E_term_Arena_Width_ok N) (TabOK.cons (E_term_Arena_Under_ok N) (TabOK.cons (E_term_Arena_quick_ok N) (TabOK.cons (E_term_Arena_there_ok N) (TabOK.nil)))))
theorem term_Arena_Eval_0112_v0_0_ok (N : Nat) : LV Try.prog (E_term_Arena_Eval_T N) ⟨5, Try.f20.ntmps, fun i => (term_Arena_Eval_0112_F (@term_Arena_Eval_0112_l0 N) i).at N, [1, 4]⟩ (bodyAt Try.f20 0) 0 (term_Arena_Eval_0112_F0 (@term_Arena_Eval_0112_l0 N)) (term_Arena_Eval_0112_v0_0 (@term_Arena_Eval_0112_l0 N)) := ⟨fun _ _ _ => rfl, term_Arena_Eval_0112_v0_0_round N (@term_Value_7344 N) (@term_Arena_Width_43b4 N) (@term_Arena_Under_2549 N) (@term_Arena_quick_520c N) (@term_Arena_there_2549 N) (@term_Arena_Eval_0112_l0 N)⟩
theorem term_Arena_Eval_0112_s0 (N : Nat) : LStep Try.prog (E_term_Arena_Eval_T N) ⟨5, Try.f20.ntmps, fun i => (term_Arena_Eval_0112_F (@term_Arena_Eval_0112_l0 N) i).at N, [1, 4]⟩ (bodyAt Try.f20 0) 0 (term_Arena_Eval_0112_F0 (@term_Arena_Eval_0112_l0 N)) := all_cons (term_Arena_Eval_0112_v0_0_ok N) (all_nil)
theorem term_Arena_Eval_0112_ok (N : Nat) : VarOK Try.prog (E_term_Arena_Eval_T N) Try.f20 (codeOf Try.f20) (term_Arena_Eval_0112_W (term_Arena_Eval_0112 N)) :=
  VarOK.of (E_term_Arena_Eval_Tok N) (by kernel_rfl) ⟨[], [], [1, 4]⟩ (term_Arena_Eval_0112_F (@term_Arena_Eval_0112_l0 N)) N (fun | 0 => term_Arena_Eval_0112_s0 N | _ + 1 => LStep.none) (term_Arena_Eval_0112_body N (@term_Value_7344 N) (@term_Arena_Width_43b4 N) (@term_Arena_Under_2549 N) (@term_Arena_quick_520c N) (@term_Arena_there_2549 N) (@term_Arena_Eval_0112_l0 N))
theorem E_term_Arena_Eval_ok (N : Nat) : EntOK Try.prog 20 (E_term_Arena_Eval N) := EntOK.vars (E_term_Arena_Eval_Tok N) Try.func20 (by kernel_rfl) (by kernel_rfl) (all_cons (term_Arena_Eval_0112_ok N) (all_nil))
theorem E_law2_awake_Tok (N : Nat) : TabOK Try.prog (E_law2_awake_T N) := TabOK.cons (E_term_Arena_Vars_ok N) (TabOK.cons (E_term_Arena_Width_ok N) (TabOK.cons (E_term_Arena_Eval_ok N) (TabOK.cons (E_term_Arena_Var_ok N) (TabOK.cons (E_term_Arena_Known_ok N) (TabOK.cons (E_term_Arena_Two_ok N) (TabOK.cons (E_term_Arena_Const_ok N) (TabOK.cons (E_term_New_ok N) (TabOK.nil))))))))
theorem law2_awake_ok (N : Nat) : VarOK Try.prog (E_law2_awake_T N) Try.f14 (codeOf Try.f14) (law2_awake_W (law2_awake N)) :=
  VarOK.of (E_law2_awake_Tok N) (by kernel_rfl) ⟨[], [], []⟩ (law2_awake_F) N (fun _ => LStep.none) (law2_awake_body N (@term_Arena_Vars_43b4 N) (@term_Arena_Width_43b4 N) (@term_Arena_Eval_0112 N) (@term_Arena_Var_99d8 N) (@term_Arena_Known_43b4 N) (@term_Arena_Two_12d2 N) (@term_Arena_Const_2c81 N) (@term_New N))
theorem E_law2_awake_ok (N : Nat) : EntOK Try.prog 14 (E_law2_awake N) := EntOK.vars (E_law2_awake_Tok N) Try.func14 (by kernel_rfl) (by kernel_rfl) (all_cons (law2_awake_ok N) (all_nil))
theorem E_law2_TermFolds_Tok (N : Nat) : TabOK Try.prog (E_law2_TermFolds_T N) := TabOK.cons (E_ref1_Do_ok N) (TabOK.cons (E_term_Arena_Known_ok N) (TabOK.cons (E_term_Arena_Not_ok N) (TabOK.cons (E_term_Arena_Two_ok N) (TabOK.cons (E_term_Arena_Const_ok N) (TabOK.cons (E_term_New_ok N) (TabOK.cons (E_ref1_May_ok N) (TabOK.cons (E_law2_awake_ok N) (TabOK.nil))))))))
theorem law2_TermFolds_ok (N : Nat) : VarOK Try.prog (E_law2_TermFolds_T N) Try.f4 (codeOf Try.f4) (law2_TermFolds_W (law2_TermFolds N)) :=
  VarOK.of (E_law2_TermFolds_Tok N) (by kernel_rfl) ⟨[], [], []⟩ (law2_TermFolds_F) N (fun _ => LStep.none) (law2_TermFolds_body N (@ref1_Do N) (@term_Arena_Known_43b4 N) (@term_Arena_Not_43b4 N) (@term_Arena_Two_12d2 N) (@term_Arena_Const_2c81 N) (@term_New N) (@ref1_May N) (@law2_awake N))
theorem E_law2_TermFolds_ok (N : Nat) : EntOK Try.prog 4 (E_law2_TermFolds N) := EntOK.vars (E_law2_TermFolds_Tok N) Try.func4 (by kernel_rfl) (by kernel_rfl) (all_cons (law2_TermFolds_ok N) (all_nil))
end Go.Proofs.Yteagdmkedffplaa
