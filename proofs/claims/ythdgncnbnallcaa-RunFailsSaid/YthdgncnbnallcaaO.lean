/-
  Each entry is borne out (printed by a program of this work).
-/
import Derived.Test.YthdgncnbnallcaaX
import Derived.Test.YthdgncnbnallcaaQ0
import Derived.Test.YthdgncnbnallcaaQ1
import Derived.Test.YthdgncnbnallcaaQ2
import Derived.Test.YthdgncnbnallcaaQ3
set_option linter.unusedVariables false
set_option maxRecDepth 100000
namespace Go.Proofs.Ythdgncnbnallcaa
open Go.Gx
theorem E_Z141_Tok (N : Nat) : TabOK Try.prog (E_Z141_T N) := TabOK.cons E_stringslite_IndexByte_ok (TabOK.nil)
theorem Z141_ok (N : Nat) : VarOK Try.prog (E_Z141_T N) Try.f91 (codeOf Try.f91) (Z141_W (Z141 N)) :=
  VarOK.of (E_Z141_Tok N) (by kernel_rfl) pn (Z141_F) N (fun _ => LStep.none) fun t u K => Z141_body N _ _ t u K
theorem E_Z141_ok (N : Nat) : EntOK Try.prog 91 (E_Z141 N) := EntOK.vars (E_Z141_Tok N) Try.func91 (by kernel_rfl) (by kernel_rfl) (all_cons (Z141_ok N) (all_nil))
theorem E_Z140_Tok (N : Nat) : TabOK Try.prog (E_Z140_T N) := TabOK.cons (E_Z141_ok N) (TabOK.nil)
theorem Z140_ok (N : Nat) : VarOK Try.prog (E_Z140_T N) Try.f79 (codeOf Try.f79) (Z140_W (Z140 N)) :=
  VarOK.of (E_Z140_Tok N) (by kernel_rfl) pn (Z140_F) N (fun _ => LStep.none) fun t u K => Z140_body N _ _ t u K
theorem E_Z140_ok (N : Nat) : EntOK Try.prog 79 (E_Z140 N) := EntOK.vars (E_Z140_Tok N) Try.func79 (by kernel_rfl) (by kernel_rfl) (all_cons (Z140_ok N) (all_nil))
theorem E_Z139_Tok (N : Nat) : TabOK Try.prog (E_Z139_T N) := TabOK.cons (E_Z140_ok N) (TabOK.nil)
theorem Z139_ok (N : Nat) : VarOK Try.prog (E_Z139_T N) Try.f56 (codeOf Try.f56) (Z139_W (Z139 N)) :=
  VarOK.of (E_Z139_Tok N) (by kernel_rfl) pn (Z139_F) N (fun _ => LStep.none) fun t u K => Z139_body N _ _ t u K
theorem E_Z139_ok (N : Nat) : EntOK Try.prog 56 (E_Z139 N) := EntOK.vars (E_Z139_Tok N) Try.func56 (by kernel_rfl) (by kernel_rfl) (all_cons (Z139_ok N) (all_nil))
theorem E_Z4_Tok (N : Nat) : TabOK Try.prog (E_Z4_T N) := TabOK.nil
theorem Z4_ok (N : Nat) : VarOK Try.prog (E_Z4_T N) Try.f80 (codeOf Try.f80) (Z4_W (Z4 N)) :=
  VarOK.of (E_Z4_Tok N) (by kernel_rfl) pn (Z4_F) N (fun _ => LStep.none) fun t u K => Z4_body N _ t u K
theorem E_Z4_ok (N : Nat) : EntOK Try.prog 80 (E_Z4 N) := EntOK.vars (E_Z4_Tok N) Try.func80 (by kernel_rfl) (by kernel_rfl) (all_cons (Z4_ok N) (all_nil))
theorem E_Z8_Tok (N : Nat) : TabOK Try.prog (E_Z8_T N) := TabOK.cons (E_Z4_ok N) (TabOK.nil)
theorem Z8_ok (N : Nat) : VarOK Try.prog (E_Z8_T N) Try.f57 (codeOf Try.f57) (Z8_W (Z8 N)) :=
  VarOK.of (E_Z8_Tok N) (by kernel_rfl) pn (Z8_F (@Z8_l0 N)) N (fun _ => LStep.pick (all_cons ⟨.inl fun _ _ _ => rfl, fun n t u K => Z8_v0_0_round N _ _ _ n t u K⟩ (all_nil)) (LStep.none)) fun t u K => Z8_body N _ _ _ t u K
theorem E_Z8_ok (N : Nat) : EntOK Try.prog 57 (E_Z8 N) := EntOK.vars (E_Z8_Tok N) Try.func57 (by kernel_rfl) (by kernel_rfl) (all_cons (Z8_ok N) (all_nil))
theorem E_Z0_Tok (N : Nat) : TabOK Try.prog (E_Z0_T N) := TabOK.cons (E_Z8_ok N) (TabOK.cons (E_Z139_ok N) (TabOK.nil))
theorem Z0_ok (N : Nat) : VarOK Try.prog (E_Z0_T N) Try.f25 (codeOf Try.f25) (Z0_W (Z0 N)) :=
  VarOK.of (E_Z0_Tok N) (by kernel_rfl) pn (Z0_F) N (fun _ => LStep.none) fun t u K => Z0_body N _ _ _ t u K
theorem E_Z0_ok (N : Nat) : EntOK Try.prog 25 (E_Z0 N) := EntOK.vars (E_Z0_Tok N) Try.func25 (by kernel_rfl) (by kernel_rfl) (all_cons (Z0_ok N) (all_nil))
theorem E_Z71_Tok (N : Nat) : TabOK Try.prog (E_Z71_T N) := TabOK.nil
theorem Z71_ok (N : Nat) : VarOK Try.prog (E_Z71_T N) Try.f33 (codeOf Try.f33) (Z71_W (Z71 N)) :=
  VarOK.of (E_Z71_Tok N) (by kernel_rfl) pn (Z71_F) N (fun _ => LStep.none) fun t u K => Z71_body N _ t u K
theorem E_Z71_ok (N : Nat) : EntOK Try.prog 33 (E_Z71 N) := EntOK.vars (E_Z71_Tok N) Try.func33 (by kernel_rfl) (by kernel_rfl) (all_cons (Z71_ok N) (all_nil))
theorem E_Z69_Tok (N : Nat) : TabOK Try.prog (E_Z69_T N) := TabOK.cons (E_Z71_ok N) (TabOK.nil)
theorem Z69_ok (N : Nat) : VarOK Try.prog (E_Z69_T N) Try.f58 (codeOf Try.f58) (Z69_W (Z69 N)) :=
  VarOK.of (E_Z69_Tok N) (by kernel_rfl) pn (Z69_F) N (fun _ => LStep.none) fun t u K => Z69_body N _ _ t u K
theorem E_Z69_ok (N : Nat) : EntOK Try.prog 58 (E_Z69 N) := EntOK.vars (E_Z69_Tok N) Try.func58 (by kernel_rfl) (by kernel_rfl) (all_cons (Z69_ok N) (all_nil))
theorem E_Z5_Tok (N : Nat) : TabOK Try.prog (E_Z5_T N) := TabOK.nil
theorem Z5_ok (N : Nat) : VarOK Try.prog (E_Z5_T N) Try.f59 (codeOf Try.f59) (Z5_W (Z5 N)) :=
  VarOK.of (E_Z5_Tok N) (by kernel_rfl) pn (Z5_F) N (fun _ => LStep.none) fun t u K => Z5_body N _ t u K
theorem E_Z5_ok (N : Nat) : EntOK Try.prog 59 (E_Z5 N) := EntOK.vars (E_Z5_Tok N) Try.func59 (by kernel_rfl) (by kernel_rfl) (all_cons (Z5_ok N) (all_nil))
theorem E_Z68_Tok (N : Nat) : TabOK Try.prog (E_Z68_T N) := TabOK.nil
theorem Z68_ok (N : Nat) : VarOK Try.prog (E_Z68_T N) Try.f60 (codeOf Try.f60) (Z68_W (Z68 N)) :=
  VarOK.of (E_Z68_Tok N) (by kernel_rfl) pn (Z68_F) N (fun _ => LStep.none) fun t u K => Z68_body N _ t u K
theorem E_Z68_ok (N : Nat) : EntOK Try.prog 60 (E_Z68 N) := EntOK.vars (E_Z68_Tok N) Try.func60 (by kernel_rfl) (by kernel_rfl) (all_cons (Z68_ok N) (all_nil))
theorem E_Z65_Tok (N : Nat) : TabOK Try.prog (E_Z65_T N) := TabOK.nil
theorem Z65_ok (N : Nat) : VarOK Try.prog (E_Z65_T N) Try.f61 (codeOf Try.f61) (Z65_W (Z65 N)) :=
  VarOK.of (E_Z65_Tok N) (by kernel_rfl) pn (Z65_F) N (fun _ => LStep.none) fun t u K => Z65_body N _ t u K
theorem E_Z65_ok (N : Nat) : EntOK Try.prog 61 (E_Z65 N) := EntOK.vars (E_Z65_Tok N) Try.func61 (by kernel_rfl) (by kernel_rfl) (all_cons (Z65_ok N) (all_nil))
theorem E_check_one_Tok (N : Nat) : TabOK Try.prog (E_check_one_T N) := TabOK.cons (E_Z65_ok N) (TabOK.cons (E_Z68_ok N) (TabOK.cons (E_Z5_ok N) (TabOK.cons (E_Z69_ok N) (TabOK.nil))))
theorem Z7_ok (N : Nat) : VarOK Try.prog (E_check_one_T N) Try.f26 (codeOf Try.f26) (Z7_W (Z7 N)) :=
  VarOK.of (E_check_one_Tok N) (by kernel_rfl) ⟨[], [], [0, 1]⟩ (Z7_F) N (fun _ => LStep.none) fun t u K => Z7_body N _ _ _ _ _ t u K
theorem E_check_one_ok (N : Nat) : EntOK Try.prog 26 (E_check_one N) := EntOK.vars (E_check_one_Tok N) Try.func26 (by kernel_rfl) (by kernel_rfl) (all_cons (Z7_ok N) (all_nil))
theorem E_Z70_Tok (N : Nat) : TabOK Try.prog (E_Z70_T N) := TabOK.cons (E_Z71_ok N) (TabOK.nil)
theorem Z70_ok (N : Nat) : VarOK Try.prog (E_Z70_T N) Try.f19 (codeOf Try.f19) (Z70_W (Z70 N)) :=
  VarOK.of (E_Z70_Tok N) (by kernel_rfl) pn (Z70_F) N (fun _ => LStep.none) fun t u K => Z70_body N _ _ t u K
theorem E_Z70_ok (N : Nat) : EntOK Try.prog 19 (E_Z70 N) := EntOK.vars (E_Z70_Tok N) Try.func19 (by kernel_rfl) (by kernel_rfl) (all_cons (Z70_ok N) (all_nil))
theorem E_Z67_Tok (N : Nat) : TabOK Try.prog (E_Z67_T N) := TabOK.cons (E_Z71_ok N) (TabOK.nil)
theorem Z67_ok (N : Nat) : VarOK Try.prog (E_Z67_T N) Try.f81 (codeOf Try.f81) (Z67_W (Z67 N)) :=
  VarOK.of (E_Z67_Tok N) (by kernel_rfl) pn (Z67_F) N (fun _ => LStep.none) fun t u K => Z67_body N _ _ t u K
theorem E_Z67_ok (N : Nat) : EntOK Try.prog 81 (E_Z67 N) := EntOK.vars (E_Z67_Tok N) Try.func81 (by kernel_rfl) (by kernel_rfl) (all_cons (Z67_ok N) (all_nil))
theorem E_Z2_Tok (N : Nat) : TabOK Try.prog (E_Z2_T N) := TabOK.cons (E_Z67_ok N) (TabOK.cons (E_Z70_ok N) (TabOK.nil))
theorem Z2_ok (N : Nat) : VarOK Try.prog (E_Z2_T N) Try.f62 (codeOf Try.f62) (Z2_W (Z2 N)) :=
  VarOK.of (E_Z2_Tok N) (by kernel_rfl) pn (Z2_F) N (fun _ => LStep.none) fun t u K => Z2_body N _ _ _ t u K
theorem E_Z2_ok (N : Nat) : EntOK Try.prog 62 (E_Z2 N) := EntOK.vars (E_Z2_Tok N) Try.func62 (by kernel_rfl) (by kernel_rfl) (all_cons (Z2_ok N) (all_nil))
theorem E_check_next_Tok (N : Nat) : TabOK Try.prog (E_check_next_T N) := TabOK.cons (E_Z68_ok N) (TabOK.cons (E_Z65_ok N) (TabOK.nil))
theorem Z6_ok (N : Nat) : VarOK Try.prog (E_check_next_T N) Try.f63 (codeOf Try.f63) (Z6_W (Z6 N)) :=
  VarOK.of (E_check_next_Tok N) (by kernel_rfl) ⟨[], [(0, false, (.int .i64))], [0, 1]⟩ (Z6_F) N (fun _ => LStep.none) fun t u K => Z6_body N _ _ _ t u K
theorem E_check_next_ok (N : Nat) : EntOK Try.prog 63 (E_check_next N) := EntOK.vars (E_check_next_Tok N) Try.func63 (by kernel_rfl) (by kernel_rfl) (all_cons (Z6_ok N) (all_nil))
theorem E_check_reach_Tok (N : Nat) : TabOK Try.prog (E_check_reach_T N) := TabOK.cons (E_check_next_ok N) (TabOK.cons (E_Z2_ok N) (TabOK.nil))
theorem Z9_ok (N : Nat) : VarOK Try.prog (E_check_reach_T N) Try.f27 (codeOf Try.f27) (Z9_W (Z9 N)) :=
  VarOK.of (E_check_reach_Tok N) (by kernel_rfl) ⟨[], [], [0, 1]⟩ (Z9_F (@Z9_l0 N) (@Z9_l1 N) (@Z9_l2 N) (@Z9_l3 N)) N (fun _ => LStep.pick (all_cons ⟨.inl fun _ _ _ => rfl, fun n t u K => Z9_v0_0_round N _ _ _ _ _ _ _ n t u K⟩ (all_nil)) (LStep.pick (all_cons ⟨.inl fun _ _ _ => rfl, fun n t u K => Z9_v1_0_round N _ _ _ _ _ _ _ n t u K⟩ (all_nil)) (LStep.pick (all_cons ⟨.inl fun _ _ _ => rfl, fun n t u K => Z9_v2_0_round N _ _ _ _ _ _ _ n t u K⟩ (all_nil)) (LStep.pick (all_cons ⟨.inl fun _ _ _ => rfl, fun n t u K => Z9_v3_0_round N _ _ _ _ _ _ _ n t u K⟩ (all_nil)) (LStep.none))))) fun t u K => Z9_body N _ _ _ _ _ _ _ t u K
theorem E_check_reach_ok (N : Nat) : EntOK Try.prog 27 (E_check_reach N) := EntOK.vars (E_check_reach_Tok N) Try.func27 (by kernel_rfl) (by kernel_rfl) (all_cons (Z9_ok N) (all_nil))
theorem E_check_height_Tok (N : Nat) : TabOK Try.prog (E_check_height_T N) := TabOK.cons (E_Z2_ok N) (TabOK.nil)
theorem Z3_ok (N : Nat) : VarOK Try.prog (E_check_height_T N) Try.f28 (codeOf Try.f28) (Z3_W (Z3 N)) :=
  VarOK.of (E_check_height_Tok N) (by kernel_rfl) ⟨[], [], [0, 1]⟩ (Z3_F (@Z3_l0 N)) N (fun _ => LStep.pick (all_cons ⟨.inl fun _ _ _ => rfl, fun n t u K => Z3_v0_0_round N _ _ _ n t u K⟩ (all_nil)) (LStep.none)) fun t u K => Z3_body N _ _ _ t u K
theorem E_check_height_ok (N : Nat) : EntOK Try.prog 28 (E_check_height N) := EntOK.vars (E_check_height_Tok N) Try.func28 (by kernel_rfl) (by kernel_rfl) (all_cons (Z3_ok N) (all_nil))
theorem E_check_Run_Tok (N : Nat) : TabOK Try.prog (E_check_Run_T N) := TabOK.cons (E_check_height_ok N) (TabOK.cons (E_check_reach_ok N) (TabOK.cons (E_check_one_ok N) (TabOK.cons (E_Z0_ok N) (TabOK.nil))))
theorem Z1_ok (N : Nat) : VarOK Try.prog (E_check_Run_T N) Try.f12 (codeOf Try.f12) (Z1_W (Z1 N)) :=
  VarOK.of (E_check_Run_Tok N) (by kernel_rfl) ⟨[], [], [0, 1]⟩ (Z1_F (@Z1_l0 N) (@Z1_l1 N) (@Z1_l2 N)) N (fun _ => LStep.pick (all_cons ⟨.inl fun _ _ _ => rfl, fun n t u K => Z1_v0_0_round N _ _ _ _ _ _ _ _ n t u K⟩ (all_nil)) (LStep.pick (all_cons ⟨.inl fun _ _ _ => rfl, fun n t u K => Z1_v1_0_round N _ _ _ _ _ _ _ _ n t u K⟩ (all_nil)) (LStep.pick (all_cons ⟨.inl fun _ _ _ => rfl, fun n t u K => Z1_v2_0_round N _ _ _ _ _ _ _ _ n t u K⟩ (all_nil)) (LStep.none)))) fun t u K => Z1_body N _ _ _ _ _ _ _ _ t u K
theorem E_check_Run_ok (N : Nat) : EntOK Try.prog 12 (E_check_Run N) := EntOK.vars (E_check_Run_Tok N) Try.func12 (by kernel_rfl) (by kernel_rfl) (all_cons (Z1_ok N) (all_nil))
theorem E_Z130_Tok (N : Nat) : TabOK Try.prog (E_Z130_T N) := TabOK.nil
theorem Z130_ok (N : Nat) : VarOK Try.prog (E_Z130_T N) Try.f15 (codeOf Try.f15) (Z130_W (Z130 N)) :=
  VarOK.of (E_Z130_Tok N) (by kernel_rfl) pn (Z130_F) N (fun _ => LStep.none) fun t u K => Z130_body N _ t u K
theorem E_Z130_ok (N : Nat) : EntOK Try.prog 15 (E_Z130 N) := EntOK.vars (E_Z130_Tok N) Try.func15 (by kernel_rfl) (by kernel_rfl) (all_cons (Z130_ok N) (all_nil))
theorem E_slices_IndexFunc___byte__byte_Tok (N : Nat) : TabOK Try.prog (E_slices_IndexFunc___byte__byte_T N) := TabOK.cons (E_Z130_ok N) (TabOK.nil)
theorem Z136_ok (N : Nat) : VarOK Try.prog (E_slices_IndexFunc___byte__byte_T N) Try.f31 (codeOf Try.f31) (Z136_W (Z136 N)) :=
  VarOK.of (E_slices_IndexFunc___byte__byte_Tok N) (by kernel_rfl) ⟨[], [], [0]⟩ (Z136_F (@Z136_l0 N)) N (fun _ => LStep.pick (all_cons ⟨.inl fun _ _ _ => rfl, fun n t u K => Z136_v0_0_round N _ _ _ n t u K⟩ (all_nil)) (LStep.none)) fun t u K => Z136_body N _ _ _ t u K
theorem E_slices_IndexFunc___byte__byte_ok (N : Nat) : EntOK Try.prog 31 (E_slices_IndexFunc___byte__byte N) := EntOK.vars (E_slices_IndexFunc___byte__byte_Tok N) Try.func31 (by kernel_rfl) (by kernel_rfl) (all_cons (Z136_ok N) (all_nil))
theorem E_slices_ContainsFunc___byte__byte_Tok (N : Nat) : TabOK Try.prog (E_slices_ContainsFunc___byte__byte_T N) := TabOK.cons (E_slices_IndexFunc___byte__byte_ok N) (TabOK.nil)
theorem Z135_ok (N : Nat) : VarOK Try.prog (E_slices_ContainsFunc___byte__byte_T N) Try.f14 (codeOf Try.f14) (Z135_W (Z135 N)) :=
  VarOK.of (E_slices_ContainsFunc___byte__byte_Tok N) (by kernel_rfl) ⟨[], [], [0]⟩ (Z135_F) N (fun _ => LStep.none) fun t u K => Z135_body N _ _ t u K
theorem E_slices_ContainsFunc___byte__byte_ok (N : Nat) : EntOK Try.prog 14 (E_slices_ContainsFunc___byte__byte N) := EntOK.vars (E_slices_ContainsFunc___byte__byte_Tok N) Try.func14 (by kernel_rfl) (by kernel_rfl) (all_cons (Z135_ok N) (all_nil))
theorem E_Z11_Tok (N : Nat) : TabOK Try.prog (E_Z11_T N) := TabOK.cons E_slices_Clone__bool_bool_ok (TabOK.nil)
theorem Z12_ok (N : Nat) : VarOK Try.prog (E_Z11_T N) Try.f16 (codeOf Try.f16) (Z12_W (Z12 N)) :=
  VarOK.of (E_Z11_Tok N) (by kernel_rfl) ⟨[], [], [0]⟩ (Z12_F) N (fun _ => LStep.none) fun t u K => Z12_body N _ _ _ t u K
theorem Z11_ok (N : Nat) : VarOK Try.prog (E_Z11_T N) Try.f16 (codeOf Try.f16) (Z11_W (Z11 N)) :=
  VarOK.of (E_Z11_Tok N) (by kernel_rfl) pn (Z11_F) N (fun _ => LStep.none) fun t u K => Z11_body N _ _ _ t u K
theorem E_Z11_ok (N : Nat) : EntOK Try.prog 16 (E_Z11 N) := EntOK.vars (E_Z11_Tok N) Try.func16 (by kernel_rfl) (by kernel_rfl) (all_cons (Z12_ok N) (all_cons (Z11_ok N) (all_nil)))
theorem E_run_machine_end_Tok (N : Nat) : TabOK Try.prog (E_run_machine_end_T N) := TabOK.nil
theorem Z96_ok (N : Nat) : VarOK Try.prog (E_run_machine_end_T N) Try.f10 (codeOf Try.f10) (Z96_W (Z96 N)) :=
  VarOK.of (E_run_machine_end_Tok N) (by kernel_rfl) ⟨[], [], [1, 2, 3, 5, 6, 7]⟩ (Z96_F) N (fun _ => LStep.none) fun t u K => Z96_body N _ t u K
theorem Z95_ok (N : Nat) : VarOK Try.prog (E_run_machine_end_T N) Try.f10 (codeOf Try.f10) (Z95_W (Z95 N)) :=
  VarOK.of (E_run_machine_end_Tok N) (by kernel_rfl) ⟨[], [], [1, 2, 3, 8, 10, 11, 12]⟩ (Z95_F) N (fun _ => LStep.none) fun t u K => Z95_body N _ t u K
theorem Z94_ok (N : Nat) : VarOK Try.prog (E_run_machine_end_T N) Try.f10 (codeOf Try.f10) (Z94_W (Z94 N)) :=
  VarOK.of (E_run_machine_end_Tok N) (by kernel_rfl) ⟨[], [], [1, 2, 3, 6, 8, 9, 10]⟩ (Z94_F) N (fun _ => LStep.none) fun t u K => Z94_body N _ t u K
theorem E_run_machine_end_ok (N : Nat) : EntOK Try.prog 10 (E_run_machine_end N) := EntOK.vars (E_run_machine_end_Tok N) Try.func10 (by kernel_rfl) (by kernel_rfl) (all_cons (Z96_ok N) (all_cons (Z95_ok N) (all_cons (Z94_ok N) (all_nil))))
theorem E_Z66_Tok (N : Nat) : TabOK Try.prog (E_Z66_T N) := TabOK.nil
theorem Z66_ok (N : Nat) : VarOK Try.prog (E_Z66_T N) Try.f17 (codeOf Try.f17) (Z66_W (Z66 N)) :=
  VarOK.of (E_Z66_Tok N) (by kernel_rfl) pn (Z66_F) N (fun _ => LStep.none) fun t u K => Z66_body N _ t u K
theorem E_Z66_ok (N : Nat) : EntOK Try.prog 17 (E_Z66 N) := EntOK.vars (E_Z66_Tok N) Try.func17 (by kernel_rfl) (by kernel_rfl) (all_cons (Z66_ok N) (all_nil))
theorem E_fails_Fails_Next_Tok (N : Nat) : TabOK Try.prog (E_fails_Fails_Next_T N) := TabOK.nil
theorem Z10_ok (N : Nat) : VarOK Try.prog (E_fails_Fails_Next_T N) Try.f18 (codeOf Try.f18) (Z10_W (Z10 N)) :=
  VarOK.of (E_fails_Fails_Next_Tok N) (by kernel_rfl) ⟨[], [], [1]⟩ (Z10_F) N (fun _ => LStep.none) fun t u K => Z10_body N _ t u K
theorem E_fails_Fails_Next_ok (N : Nat) : EntOK Try.prog 18 (E_fails_Fails_Next N) := EntOK.vars (E_fails_Fails_Next_Tok N) Try.func18 (by kernel_rfl) (by kernel_rfl) (all_cons (Z10_ok N) (all_nil))
theorem E_run_machine_push_Tok (N : Nat) : TabOK Try.prog (E_run_machine_push_T N) := TabOK.nil
theorem Z113_ok (N : Nat) : VarOK Try.prog (E_run_machine_push_T N) Try.f34 (codeOf Try.f34) (Z113_W (Z113 N)) :=
  VarOK.of (E_run_machine_push_Tok N) (by kernel_rfl) ⟨[], [], [1, 2, 5, 6, 7]⟩ (Z113_F) N (fun _ => LStep.none) fun t u K => Z113_body N _ t u K
theorem Z115_ok (N : Nat) : VarOK Try.prog (E_run_machine_push_T N) Try.f34 (codeOf Try.f34) (Z115_W (Z115 N)) :=
  VarOK.of (E_run_machine_push_Tok N) (by kernel_rfl) ⟨[], [], [1, 2, 3, 5, 6, 7]⟩ (Z115_F) N (fun _ => LStep.none) fun t u K => Z115_body N _ t u K
theorem Z116_ok (N : Nat) : VarOK Try.prog (E_run_machine_push_T N) Try.f34 (codeOf Try.f34) (Z116_W (Z116 N)) :=
  VarOK.of (E_run_machine_push_Tok N) (by kernel_rfl) ⟨[], [], [1, 2, 8, 10, 11, 12]⟩ (Z116_F) N (fun _ => LStep.none) fun t u K => Z116_body N _ t u K
theorem Z114_ok (N : Nat) : VarOK Try.prog (E_run_machine_push_T N) Try.f34 (codeOf Try.f34) (Z114_W (Z114 N)) :=
  VarOK.of (E_run_machine_push_Tok N) (by kernel_rfl) ⟨[], [], [1, 2, 3, 8, 10, 11, 12]⟩ (Z114_F) N (fun _ => LStep.none) fun t u K => Z114_body N _ t u K
theorem Z112_ok (N : Nat) : VarOK Try.prog (E_run_machine_push_T N) Try.f34 (codeOf Try.f34) (Z112_W (Z112 N)) :=
  VarOK.of (E_run_machine_push_Tok N) (by kernel_rfl) ⟨[], [], [1, 2, 6, 8, 9, 10]⟩ (Z112_F) N (fun _ => LStep.none) fun t u K => Z112_body N _ t u K
theorem Z117_ok (N : Nat) : VarOK Try.prog (E_run_machine_push_T N) Try.f34 (codeOf Try.f34) (Z117_W (Z117 N)) :=
  VarOK.of (E_run_machine_push_Tok N) (by kernel_rfl) ⟨[], [], [1, 2, 3, 6, 8, 9, 10]⟩ (Z117_F) N (fun _ => LStep.none) fun t u K => Z117_body N _ t u K
theorem E_run_machine_push_ok (N : Nat) : EntOK Try.prog 34 (E_run_machine_push N) := EntOK.vars (E_run_machine_push_Tok N) Try.func34 (by kernel_rfl) (by kernel_rfl) (all_cons (Z113_ok N) (all_cons (Z115_ok N) (all_cons (Z116_ok N) (all_cons (Z114_ok N) (all_cons (Z112_ok N) (all_cons (Z117_ok N) (all_nil)))))))
theorem E_run_machine_answer_Tok (N : Nat) : TabOK Try.prog (E_run_machine_answer_T N) := TabOK.cons (E_run_machine_push_ok N) (TabOK.nil)
theorem Z83_ok (N : Nat) : VarOK Try.prog (E_run_machine_answer_T N) Try.f20 (codeOf Try.f20) (Z83_W (Z83 N)) :=
  VarOK.of (E_run_machine_answer_Tok N) (by kernel_rfl) ⟨[], [], [1, 2, 5, 6, 7]⟩ (Z83_F) N (fun _ => LStep.none) fun t u K => Z83_body N _ _ _ _ _ _ _ t u K
theorem Z85_ok (N : Nat) : VarOK Try.prog (E_run_machine_answer_T N) Try.f20 (codeOf Try.f20) (Z85_W (Z85 N)) :=
  VarOK.of (E_run_machine_answer_Tok N) (by kernel_rfl) ⟨[], [], [1, 2, 3, 5, 6, 7]⟩ (Z85_F) N (fun _ => LStep.none) fun t u K => Z85_body N _ _ _ _ _ _ _ t u K
theorem Z86_ok (N : Nat) : VarOK Try.prog (E_run_machine_answer_T N) Try.f20 (codeOf Try.f20) (Z86_W (Z86 N)) :=
  VarOK.of (E_run_machine_answer_Tok N) (by kernel_rfl) ⟨[], [], [1, 2, 8, 10, 11, 12]⟩ (Z86_F) N (fun _ => LStep.none) fun t u K => Z86_body N _ _ _ _ _ _ _ t u K
theorem Z84_ok (N : Nat) : VarOK Try.prog (E_run_machine_answer_T N) Try.f20 (codeOf Try.f20) (Z84_W (Z84 N)) :=
  VarOK.of (E_run_machine_answer_Tok N) (by kernel_rfl) ⟨[], [], [1, 2, 3, 8, 10, 11, 12]⟩ (Z84_F) N (fun _ => LStep.none) fun t u K => Z84_body N _ _ _ _ _ _ _ t u K
theorem Z82_ok (N : Nat) : VarOK Try.prog (E_run_machine_answer_T N) Try.f20 (codeOf Try.f20) (Z82_W (Z82 N)) :=
  VarOK.of (E_run_machine_answer_Tok N) (by kernel_rfl) ⟨[], [], [1, 2, 6, 8, 9, 10]⟩ (Z82_F) N (fun _ => LStep.none) fun t u K => Z82_body N _ _ _ _ _ _ _ t u K
theorem Z87_ok (N : Nat) : VarOK Try.prog (E_run_machine_answer_T N) Try.f20 (codeOf Try.f20) (Z87_W (Z87 N)) :=
  VarOK.of (E_run_machine_answer_Tok N) (by kernel_rfl) ⟨[], [], [1, 2, 3, 6, 8, 9, 10]⟩ (Z87_F) N (fun _ => LStep.none) fun t u K => Z87_body N _ _ _ _ _ _ _ t u K
theorem E_run_machine_answer_ok (N : Nat) : EntOK Try.prog 20 (E_run_machine_answer N) := EntOK.vars (E_run_machine_answer_Tok N) Try.func20 (by kernel_rfl) (by kernel_rfl) (all_cons (Z83_ok N) (all_cons (Z85_ok N) (all_cons (Z86_ok N) (all_cons (Z84_ok N) (all_cons (Z82_ok N) (all_cons (Z87_ok N) (all_nil)))))))
theorem E_run_machine_pop_Tok (N : Nat) : TabOK Try.prog (E_run_machine_pop_T N) := TabOK.nil
theorem Z110_ok (N : Nat) : VarOK Try.prog (E_run_machine_pop_T N) Try.f35 (codeOf Try.f35) (Z110_W (Z110 N)) :=
  VarOK.of (E_run_machine_pop_Tok N) (by kernel_rfl) ⟨[], [], [1, 2, 3, 5, 6, 7]⟩ (Z110_F) N (fun _ => LStep.none) fun t u K => Z110_body N _ t u K
theorem Z109_ok (N : Nat) : VarOK Try.prog (E_run_machine_pop_T N) Try.f35 (codeOf Try.f35) (Z109_W (Z109 N)) :=
  VarOK.of (E_run_machine_pop_Tok N) (by kernel_rfl) ⟨[], [], [1, 2, 3, 8, 10, 11, 12]⟩ (Z109_F) N (fun _ => LStep.none) fun t u K => Z109_body N _ t u K
theorem Z111_ok (N : Nat) : VarOK Try.prog (E_run_machine_pop_T N) Try.f35 (codeOf Try.f35) (Z111_W (Z111 N)) :=
  VarOK.of (E_run_machine_pop_Tok N) (by kernel_rfl) ⟨[], [], [1, 2, 3, 6, 8, 9, 10]⟩ (Z111_F) N (fun _ => LStep.none) fun t u K => Z111_body N _ t u K
theorem E_run_machine_pop_ok (N : Nat) : EntOK Try.prog 35 (E_run_machine_pop N) := EntOK.vars (E_run_machine_pop_Tok N) Try.func35 (by kernel_rfl) (by kernel_rfl) (all_cons (Z110_ok N) (all_cons (Z109_ok N) (all_cons (Z111_ok N) (all_nil))))
theorem E_Z133_Tok (N : Nat) : TabOK Try.prog (E_Z133_T N) := TabOK.nil
theorem Z133_ok (N : Nat) : VarOK Try.prog (E_Z133_T N) Try.f68 (codeOf Try.f68) (Z133_W (Z133 N)) :=
  VarOK.of (E_Z133_Tok N) (by kernel_rfl) pn (Z133_F) N (fun _ => LStep.none) fun t u K => Z133_body N _ t u K
theorem E_Z133_ok (N : Nat) : EntOK Try.prog 68 (E_Z133 N) := EntOK.vars (E_Z133_Tok N) Try.func68 (by kernel_rfl) (by kernel_rfl) (all_cons (Z133_ok N) (all_nil))
theorem E_Z81_Tok (N : Nat) : TabOK Try.prog (E_Z81_T N) := TabOK.cons (E_Z133_ok N) (TabOK.nil)
theorem Z81_ok (N : Nat) : VarOK Try.prog (E_Z81_T N) Try.f37 (codeOf Try.f37) (Z81_W (Z81 N)) :=
  VarOK.of (E_Z81_Tok N) (by kernel_rfl) pn (Z81_F) N (fun _ => LStep.none) fun t u K => Z81_body N _ _ t u K
theorem E_Z81_ok (N : Nat) : EntOK Try.prog 37 (E_Z81 N) := EntOK.vars (E_Z81_Tok N) Try.func37 (by kernel_rfl) (by kernel_rfl) (all_cons (Z81_ok N) (all_nil))
theorem E_Z161_Tok (N : Nat) : TabOK Try.prog (E_Z161_T N) := TabOK.nil
theorem Z161_ok (N : Nat) : VarOK Try.prog (E_Z161_T N) Try.f66 (codeOf Try.f66) (Z161_W (Z161 N)) :=
  VarOK.of (E_Z161_Tok N) (by kernel_rfl) pn (Z161_F) N (fun _ => LStep.none) fun t u K => Z161_body N _ t u K
theorem E_Z161_ok (N : Nat) : EntOK Try.prog 66 (E_Z161 N) := EntOK.vars (E_Z161_Tok N) Try.func66 (by kernel_rfl) (by kernel_rfl) (all_cons (Z161_ok N) (all_nil))
theorem E_Z160_Tok (N : Nat) : TabOK Try.prog (E_Z160_T N) := TabOK.cons (E_Z161_ok N) (TabOK.nil)
theorem Z160_ok (N : Nat) : VarOK Try.prog (E_Z160_T N) Try.f40 (codeOf Try.f40) (Z160_W (Z160 N)) :=
  VarOK.of (E_Z160_Tok N) (by kernel_rfl) pn (Z160_F) N (fun _ => LStep.none) fun t u K => Z160_body N _ _ t u K
theorem E_Z160_ok (N : Nat) : EntOK Try.prog 40 (E_Z160 N) := EntOK.vars (E_Z160_Tok N) Try.func40 (by kernel_rfl) (by kernel_rfl) (all_cons (Z160_ok N) (all_nil))
theorem E_Z162_Tok (N : Nat) : TabOK Try.prog (E_Z162_T N) := TabOK.cons (E_Z160_ok N) (TabOK.nil)
theorem Z162_ok (N : Nat) : VarOK Try.prog (E_Z162_T N) Try.f84 (codeOf Try.f84) (Z162_W (Z162 N)) :=
  VarOK.of (E_Z162_Tok N) (by kernel_rfl) pn (Z162_F) N (fun _ => LStep.none) fun t u K => Z162_body N _ _ t u K
theorem E_Z162_ok (N : Nat) : EntOK Try.prog 84 (E_Z162 N) := EntOK.vars (E_Z162_Tok N) Try.func84 (by kernel_rfl) (by kernel_rfl) (all_cons (Z162_ok N) (all_nil))
theorem E_Z164_Tok (N : Nat) : TabOK Try.prog (E_Z164_T N) := TabOK.nil
theorem Z164_ok (N : Nat) : VarOK Try.prog (E_Z164_T N) Try.f85 (codeOf Try.f85) (Z164_W (Z164 N)) :=
  VarOK.of (E_Z164_Tok N) (by kernel_rfl) pn (Z164_F) N (fun _ => LStep.none) fun t u K => Z164_body N _ t u K
theorem E_Z164_ok (N : Nat) : EntOK Try.prog 85 (E_Z164 N) := EntOK.vars (E_Z164_Tok N) Try.func85 (by kernel_rfl) (by kernel_rfl) (all_cons (Z164_ok N) (all_nil))
theorem E_Z165_Tok (N : Nat) : TabOK Try.prog (E_Z165_T N) := TabOK.nil
theorem Z165_ok (N : Nat) : VarOK Try.prog (E_Z165_T N) Try.f86 (codeOf Try.f86) (Z165_W (Z165 N)) :=
  VarOK.of (E_Z165_Tok N) (by kernel_rfl) pn (Z165_F) N (fun _ => LStep.none) fun t u K => Z165_body N _ t u K
theorem E_Z165_ok (N : Nat) : EntOK Try.prog 86 (E_Z165 N) := EntOK.vars (E_Z165_Tok N) Try.func86 (by kernel_rfl) (by kernel_rfl) (all_cons (Z165_ok N) (all_nil))
theorem E_Z163_Tok (N : Nat) : TabOK Try.prog (E_Z163_T N) := TabOK.cons (E_Z165_ok N) (TabOK.cons (E_Z164_ok N) (TabOK.cons (E_Z162_ok N) (TabOK.nil)))
theorem Z163_ok (N : Nat) : VarOK Try.prog (E_Z163_T N) Try.f67 (codeOf Try.f67) (Z163_W (Z163 N)) :=
  VarOK.of (E_Z163_Tok N) (by kernel_rfl) pn (Z163_F) N (fun _ => LStep.none) fun t u K => Z163_body N _ _ _ _ t u K
theorem E_Z163_ok (N : Nat) : EntOK Try.prog 67 (E_Z163 N) := EntOK.vars (E_Z163_Tok N) Try.func67 (by kernel_rfl) (by kernel_rfl) (all_cons (Z163_ok N) (all_nil))
theorem E_Z159_Tok (N : Nat) : TabOK Try.prog (E_Z159_T N) := TabOK.cons (E_Z163_ok N) (TabOK.cons (E_Z160_ok N) (TabOK.cons (E_Z161_ok N) (TabOK.nil)))
theorem Z159_ok (N : Nat) : VarOK Try.prog (E_Z159_T N) Try.f36 (codeOf Try.f36) (Z159_W (Z159 N)) :=
  VarOK.of (E_Z159_Tok N) (by kernel_rfl) pn (Z159_F) N (fun _ => LStep.none) fun t u K => Z159_body N _ _ _ _ t u K
theorem E_Z159_ok (N : Nat) : EntOK Try.prog 36 (E_Z159 N) := EntOK.vars (E_Z159_Tok N) Try.func36 (by kernel_rfl) (by kernel_rfl) (all_cons (Z159_ok N) (all_nil))
theorem E_run_machine_reckon_Tok (N : Nat) : TabOK Try.prog (E_run_machine_reckon_T N) := TabOK.cons (E_run_machine_push_ok N) (TabOK.cons (E_Z159_ok N) (TabOK.cons (E_Z81_ok N) (TabOK.cons (E_run_machine_end_ok N) (TabOK.cons (E_run_machine_pop_ok N) (TabOK.nil)))))
theorem Z121_ok (N : Nat) : VarOK Try.prog (E_run_machine_reckon_T N) Try.f21 (codeOf Try.f21) (Z121_W (Z121 N)) :=
  VarOK.of (E_run_machine_reckon_Tok N) (by kernel_rfl) ⟨[], [], [1, 2, 3, 5, 6, 7]⟩ (Z121_F) N (fun _ => LStep.none) fun t u K => Z121_body N _ _ _ _ _ _ _ _ _ _ _ _ _ _ _ t u K
theorem Z123_ok (N : Nat) : VarOK Try.prog (E_run_machine_reckon_T N) Try.f21 (codeOf Try.f21) (Z123_W (Z123 N)) :=
  VarOK.of (E_run_machine_reckon_Tok N) (by kernel_rfl) ⟨[], [], [1, 2, 3, 8, 10, 11, 12]⟩ (Z123_F) N (fun _ => LStep.none) fun t u K => Z123_body N _ _ _ _ _ _ _ _ _ _ _ _ _ _ _ t u K
theorem Z122_ok (N : Nat) : VarOK Try.prog (E_run_machine_reckon_T N) Try.f21 (codeOf Try.f21) (Z122_W (Z122 N)) :=
  VarOK.of (E_run_machine_reckon_Tok N) (by kernel_rfl) ⟨[], [], [1, 2, 3, 6, 8, 9, 10]⟩ (Z122_F) N (fun _ => LStep.none) fun t u K => Z122_body N _ _ _ _ _ _ _ _ _ _ _ _ _ _ _ t u K
theorem E_run_machine_reckon_ok (N : Nat) : EntOK Try.prog 21 (E_run_machine_reckon N) := EntOK.vars (E_run_machine_reckon_Tok N) Try.func21 (by kernel_rfl) (by kernel_rfl) (all_cons (Z121_ok N) (all_cons (Z123_ok N) (all_cons (Z122_ok N) (all_nil))))
theorem E_Z134_Tok (N : Nat) : TabOK Try.prog (E_Z134_T N) := TabOK.nil
theorem Z134_ok (N : Nat) : VarOK Try.prog (E_Z134_T N) Try.f38 (codeOf Try.f38) (Z134_W (Z134 N)) :=
  VarOK.of (E_Z134_Tok N) (by kernel_rfl) pn (Z134_F) N (fun _ => LStep.none) fun t u K => Z134_body N _ t u K
theorem E_Z134_ok (N : Nat) : EntOK Try.prog 38 (E_Z134 N) := EntOK.vars (E_Z134_Tok N) Try.func38 (by kernel_rfl) (by kernel_rfl) (all_cons (Z134_ok N) (all_nil))
theorem E_run_machine_memory_Tok (N : Nat) : TabOK Try.prog (E_run_machine_memory_T N) := TabOK.cons (E_run_machine_push_ok N) (TabOK.cons (E_run_machine_end_ok N) (TabOK.cons (E_run_machine_pop_ok N) (TabOK.nil)))
theorem Z97_ok (N : Nat) : VarOK Try.prog (E_run_machine_memory_T N) Try.f39 (codeOf Try.f39) (Z97_W (Z97 N)) :=
  VarOK.of (E_run_machine_memory_Tok N) (by kernel_rfl) ⟨[], [], [1, 2, 3, 5, 6, 7]⟩ (Z97_F) N (fun _ => LStep.none) fun t u K => Z97_body N _ _ _ _ _ _ _ _ _ _ _ _ _ t u K
theorem Z99_ok (N : Nat) : VarOK Try.prog (E_run_machine_memory_T N) Try.f39 (codeOf Try.f39) (Z99_W (Z99 N)) :=
  VarOK.of (E_run_machine_memory_Tok N) (by kernel_rfl) ⟨[], [], [1, 2, 3, 8, 10, 11, 12]⟩ (Z99_F) N (fun _ => LStep.none) fun t u K => Z99_body N _ _ _ _ _ _ _ _ _ _ _ _ _ t u K
theorem Z98_ok (N : Nat) : VarOK Try.prog (E_run_machine_memory_T N) Try.f39 (codeOf Try.f39) (Z98_W (Z98 N)) :=
  VarOK.of (E_run_machine_memory_Tok N) (by kernel_rfl) ⟨[], [], [1, 2, 3, 6, 8, 9, 10]⟩ (Z98_F) N (fun _ => LStep.none) fun t u K => Z98_body N _ _ _ _ _ _ _ _ _ _ _ _ _ t u K
theorem E_run_machine_memory_ok (N : Nat) : EntOK Try.prog 39 (E_run_machine_memory N) := EntOK.vars (E_run_machine_memory_Tok N) Try.func39 (by kernel_rfl) (by kernel_rfl) (all_cons (Z97_ok N) (all_cons (Z99_ok N) (all_cons (Z98_ok N) (all_nil))))
theorem E_run_machine_plain_Tok (N : Nat) : TabOK Try.prog (E_run_machine_plain_T N) := TabOK.cons (E_run_machine_end_ok N) (TabOK.cons (E_Z160_ok N) (TabOK.cons (E_run_machine_memory_ok N) (TabOK.cons (E_Z134_ok N) (TabOK.cons (E_run_machine_pop_ok N) (TabOK.cons (E_run_machine_push_ok N) (TabOK.nil))))))
theorem Z108_ok (N : Nat) : VarOK Try.prog (E_run_machine_plain_T N) Try.f22 (codeOf Try.f22) (Z108_W (Z108 N)) :=
  VarOK.of (E_run_machine_plain_Tok N) (by kernel_rfl) ⟨[3, 7], [], [1, 2, 3, 5, 6, 7]⟩ (Z108_F) N (fun _ => LStep.none) fun t u K => Z108_body N _ _ _ _ _ _ _ _ _ _ _ _ _ _ _ _ _ _ t u K
theorem Z107_ok (N : Nat) : VarOK Try.prog (E_run_machine_plain_T N) Try.f22 (codeOf Try.f22) (Z107_W (Z107 N)) :=
  VarOK.of (E_run_machine_plain_Tok N) (by kernel_rfl) ⟨[3, 12], [], [1, 2, 3, 8, 10, 11, 12]⟩ (Z107_F) N (fun _ => LStep.none) fun t u K => Z107_body N _ _ _ _ _ _ _ _ _ _ _ _ _ _ _ _ _ _ t u K
theorem Z106_ok (N : Nat) : VarOK Try.prog (E_run_machine_plain_T N) Try.f22 (codeOf Try.f22) (Z106_W (Z106 N)) :=
  VarOK.of (E_run_machine_plain_Tok N) (by kernel_rfl) ⟨[3, 10], [], [1, 2, 3, 6, 8, 9, 10]⟩ (Z106_F) N (fun _ => LStep.none) fun t u K => Z106_body N _ _ _ _ _ _ _ _ _ _ _ _ _ _ _ _ _ _ t u K
theorem E_run_machine_plain_ok (N : Nat) : EntOK Try.prog 22 (E_run_machine_plain N) := EntOK.vars (E_run_machine_plain_Tok N) Try.func22 (by kernel_rfl) (by kernel_rfl) (all_cons (Z108_ok N) (all_cons (Z107_ok N) (all_cons (Z106_ok N) (all_nil))))
theorem E_run_machine_name_Tok (N : Nat) : TabOK Try.prog (E_run_machine_name_T N) := TabOK.nil
theorem Z100_ok (N : Nat) : VarOK Try.prog (E_run_machine_name_T N) Try.f42 (codeOf Try.f42) (Z100_W (Z100 N)) :=
  VarOK.of (E_run_machine_name_Tok N) (by kernel_rfl) ⟨[], [], [1, 2, 3, 5, 6, 7]⟩ (Z100_F) N (fun _ => LStep.none) fun t u K => Z100_body N _ t u K
theorem Z102_ok (N : Nat) : VarOK Try.prog (E_run_machine_name_T N) Try.f42 (codeOf Try.f42) (Z102_W (Z102 N)) :=
  VarOK.of (E_run_machine_name_Tok N) (by kernel_rfl) ⟨[], [], [1, 2, 3, 8, 10, 11, 12]⟩ (Z102_F) N (fun _ => LStep.none) fun t u K => Z102_body N _ t u K
theorem Z101_ok (N : Nat) : VarOK Try.prog (E_run_machine_name_T N) Try.f42 (codeOf Try.f42) (Z101_W (Z101 N)) :=
  VarOK.of (E_run_machine_name_Tok N) (by kernel_rfl) ⟨[], [], [1, 2, 3, 6, 8, 9, 10]⟩ (Z101_F) N (fun _ => LStep.none) fun t u K => Z101_body N _ t u K
theorem E_run_machine_name_ok (N : Nat) : EntOK Try.prog 42 (E_run_machine_name N) := EntOK.vars (E_run_machine_name_Tok N) Try.func42 (by kernel_rfl) (by kernel_rfl) (all_cons (Z100_ok N) (all_cons (Z102_ok N) (all_cons (Z101_ok N) (all_nil))))
theorem E_Z55_Tok (N : Nat) : TabOK Try.prog (E_Z55_T N) := TabOK.nil
theorem Z55_ok (N : Nat) : VarOK Try.prog (E_Z55_T N) Try.f75 (codeOf Try.f75) (Z55_W (Z55 N)) :=
  VarOK.of (E_Z55_Tok N) (by kernel_rfl) pn (Z55_F) N (fun _ => LStep.none) fun t u K => Z55_body N _ t u K
theorem Z56_ok (N : Nat) : VarOK Try.prog (E_Z55_T N) Try.f75 (codeOf Try.f75) (Z56_W (Z56 N)) :=
  VarOK.of (E_Z55_Tok N) (by kernel_rfl) ⟨[], [], [4]⟩ (Z56_F) N (fun _ => LStep.none) fun t u K => Z56_body N _ t u K
theorem Z57_ok (N : Nat) : VarOK Try.prog (E_Z55_T N) Try.f75 (codeOf Try.f75) (Z57_W (Z57 N)) :=
  VarOK.of (E_Z55_Tok N) (by kernel_rfl) ⟨[], [], [2]⟩ (Z57_F) N (fun _ => LStep.none) fun t u K => Z57_body N _ t u K
theorem E_Z55_ok (N : Nat) : EntOK Try.prog 75 (E_Z55 N) := EntOK.vars (E_Z55_Tok N) Try.func75 (by kernel_rfl) (by kernel_rfl) (all_cons (Z55_ok N) (all_cons (Z56_ok N) (all_cons (Z57_ok N) (all_nil))))
theorem E_Z13_Tok (N : Nat) : TabOK Try.prog (E_Z13_T N) := TabOK.cons (E_Z55_ok N) (TabOK.nil)
theorem Z13_ok (N : Nat) : VarOK Try.prog (E_Z13_T N) Try.f48 (codeOf Try.f48) (Z13_W (Z13 N)) :=
  VarOK.of (E_Z13_Tok N) (by kernel_rfl) pn (Z13_F) N (fun _ => LStep.none) fun t u K => Z13_body N _ _ _ _ t u K
theorem Z14_ok (N : Nat) : VarOK Try.prog (E_Z13_T N) Try.f48 (codeOf Try.f48) (Z14_W (Z14 N)) :=
  VarOK.of (E_Z13_Tok N) (by kernel_rfl) ⟨[], [], [4]⟩ (Z14_F) N (fun _ => LStep.none) fun t u K => Z14_body N _ _ _ _ t u K
theorem Z15_ok (N : Nat) : VarOK Try.prog (E_Z13_T N) Try.f48 (codeOf Try.f48) (Z15_W (Z15 N)) :=
  VarOK.of (E_Z13_Tok N) (by kernel_rfl) ⟨[], [], [2]⟩ (Z15_F) N (fun _ => LStep.none) fun t u K => Z15_body N _ _ _ _ t u K
theorem E_Z13_ok (N : Nat) : EntOK Try.prog 48 (E_Z13 N) := EntOK.vars (E_Z13_Tok N) Try.func48 (by kernel_rfl) (by kernel_rfl) (all_cons (Z13_ok N) (all_cons (Z14_ok N) (all_cons (Z15_ok N) (all_nil))))
theorem E_Z37_Tok (N : Nat) : TabOK Try.prog (E_Z37_T N) := TabOK.cons (E_Z55_ok N) (TabOK.nil)
theorem Z37_ok (N : Nat) : VarOK Try.prog (E_Z37_T N) Try.f49 (codeOf Try.f49) (Z37_W (Z37 N)) :=
  VarOK.of (E_Z37_Tok N) (by kernel_rfl) pn (Z37_F) N (fun _ => LStep.none) fun t u K => Z37_body N _ _ _ _ t u K
theorem Z38_ok (N : Nat) : VarOK Try.prog (E_Z37_T N) Try.f49 (codeOf Try.f49) (Z38_W (Z38 N)) :=
  VarOK.of (E_Z37_Tok N) (by kernel_rfl) ⟨[], [], [4]⟩ (Z38_F) N (fun _ => LStep.none) fun t u K => Z38_body N _ _ _ _ t u K
theorem Z39_ok (N : Nat) : VarOK Try.prog (E_Z37_T N) Try.f49 (codeOf Try.f49) (Z39_W (Z39 N)) :=
  VarOK.of (E_Z37_Tok N) (by kernel_rfl) ⟨[], [], [2]⟩ (Z39_F) N (fun _ => LStep.none) fun t u K => Z39_body N _ _ _ _ t u K
theorem E_Z37_ok (N : Nat) : EntOK Try.prog 49 (E_Z37 N) := EntOK.vars (E_Z37_Tok N) Try.func49 (by kernel_rfl) (by kernel_rfl) (all_cons (Z37_ok N) (all_cons (Z38_ok N) (all_cons (Z39_ok N) (all_nil))))
theorem E_Z34_Tok (N : Nat) : TabOK Try.prog (E_Z34_T N) := TabOK.cons (E_Z55_ok N) (TabOK.nil)
theorem Z34_ok (N : Nat) : VarOK Try.prog (E_Z34_T N) Try.f51 (codeOf Try.f51) (Z34_W (Z34 N)) :=
  VarOK.of (E_Z34_Tok N) (by kernel_rfl) pn (Z34_F) N (fun _ => LStep.none) fun t u K => Z34_body N _ _ _ _ t u K
theorem Z35_ok (N : Nat) : VarOK Try.prog (E_Z34_T N) Try.f51 (codeOf Try.f51) (Z35_W (Z35 N)) :=
  VarOK.of (E_Z34_Tok N) (by kernel_rfl) ⟨[], [], [4]⟩ (Z35_F) N (fun _ => LStep.none) fun t u K => Z35_body N _ _ _ _ t u K
theorem Z36_ok (N : Nat) : VarOK Try.prog (E_Z34_T N) Try.f51 (codeOf Try.f51) (Z36_W (Z36 N)) :=
  VarOK.of (E_Z34_Tok N) (by kernel_rfl) ⟨[], [], [2]⟩ (Z36_F) N (fun _ => LStep.none) fun t u K => Z36_body N _ _ _ _ t u K
theorem E_Z34_ok (N : Nat) : EntOK Try.prog 51 (E_Z34 N) := EntOK.vars (E_Z34_Tok N) Try.func51 (by kernel_rfl) (by kernel_rfl) (all_cons (Z34_ok N) (all_cons (Z35_ok N) (all_cons (Z36_ok N) (all_nil))))
theorem E_run_machine_argument_Tok (N : Nat) : TabOK Try.prog (E_run_machine_argument_T N) := TabOK.cons (E_run_machine_push_ok N) (TabOK.cons (E_run_machine_pop_ok N) (TabOK.nil))
theorem Z89_ok (N : Nat) : VarOK Try.prog (E_run_machine_argument_T N) Try.f55 (codeOf Try.f55) (Z89_W (Z89 N)) :=
  VarOK.of (E_run_machine_argument_Tok N) (by kernel_rfl) ⟨[], [], [1, 2, 3, 5, 6, 7]⟩ (Z89_F) N (fun _ => LStep.none) fun t u K => Z89_body N _ _ _ _ _ _ _ _ _ _ t u K
theorem Z88_ok (N : Nat) : VarOK Try.prog (E_run_machine_argument_T N) Try.f55 (codeOf Try.f55) (Z88_W (Z88 N)) :=
  VarOK.of (E_run_machine_argument_Tok N) (by kernel_rfl) ⟨[], [], [1, 2, 3, 8, 10, 11, 12]⟩ (Z88_F) N (fun _ => LStep.none) fun t u K => Z88_body N _ _ _ _ _ _ _ _ _ _ t u K
theorem Z90_ok (N : Nat) : VarOK Try.prog (E_run_machine_argument_T N) Try.f55 (codeOf Try.f55) (Z90_W (Z90 N)) :=
  VarOK.of (E_run_machine_argument_Tok N) (by kernel_rfl) ⟨[], [], [1, 2, 3, 6, 8, 9, 10]⟩ (Z90_F) N (fun _ => LStep.none) fun t u K => Z90_body N _ _ _ _ _ _ _ _ _ _ t u K
theorem E_run_machine_argument_ok (N : Nat) : EntOK Try.prog 55 (E_run_machine_argument N) := EntOK.vars (E_run_machine_argument_Tok N) Try.func55 (by kernel_rfl) (by kernel_rfl) (all_cons (Z89_ok N) (all_cons (Z88_ok N) (all_cons (Z90_ok N) (all_nil))))
theorem E_Z74_Tok (N : Nat) : TabOK Try.prog (E_Z74_T N) := TabOK.cons (E_Z0_ok N) (TabOK.nil)
theorem Z74_ok (N : Nat) : VarOK Try.prog (E_Z74_T N) Try.f64 (codeOf Try.f64) (Z74_W (Z74 N)) :=
  VarOK.of (E_Z74_Tok N) (by kernel_rfl) pn (Z74_F) N (fun _ => LStep.none) fun t u K => Z74_body N _ _ t u K
theorem E_Z74_ok (N : Nat) : EntOK Try.prog 64 (E_Z74 N) := EntOK.vars (E_Z74_Tok N) Try.func64 (by kernel_rfl) (by kernel_rfl) (all_cons (Z74_ok N) (all_nil))
theorem E_Z75_Tok (N : Nat) : TabOK Try.prog (E_Z75_T N) := TabOK.cons (E_Z139_ok N) (TabOK.cons (E_Z74_ok N) (TabOK.nil))
theorem Z75_ok (N : Nat) : VarOK Try.prog (E_Z75_T N) Try.f92 (codeOf Try.f92) (Z75_W (Z75 N)) :=
  VarOK.of (E_Z75_Tok N) (by kernel_rfl) pn (Z75_F) N (fun _ => LStep.none) fun t u K => Z75_body N _ _ _ t u K
theorem E_Z75_ok (N : Nat) : EntOK Try.prog 92 (E_Z75 N) := EntOK.vars (E_Z75_Tok N) Try.func92 (by kernel_rfl) (by kernel_rfl) (all_cons (Z75_ok N) (all_nil))
theorem E_Z158_Tok (N : Nat) : TabOK Try.prog (E_Z158_T N) := TabOK.cons (E_Z75_ok N) (TabOK.nil)
theorem Z158_ok (N : Nat) : VarOK Try.prog (E_Z158_T N) Try.f82 (codeOf Try.f82) (Z158_W (Z158 N)) :=
  VarOK.of (E_Z158_Tok N) (by kernel_rfl) pn (Z158_F) N (fun _ => LStep.none) fun t u K => Z158_body N _ _ t u K
theorem E_Z158_ok (N : Nat) : EntOK Try.prog 82 (E_Z158 N) := EntOK.vars (E_Z158_Tok N) Try.func82 (by kernel_rfl) (by kernel_rfl) (all_cons (Z158_ok N) (all_nil))
theorem E_tree_Tree_above_Tok (N : Nat) : TabOK Try.prog (E_tree_Tree_above_T N) := TabOK.nil
theorem Z156_ok (N : Nat) : VarOK Try.prog (E_tree_Tree_above_T N) Try.f83 (codeOf Try.f83) (Z156_W (Z156 N)) :=
  VarOK.of (E_tree_Tree_above_Tok N) (by kernel_rfl) pn (Z156_F) N (fun _ => LStep.none) fun t u K => Z156_body N _ t u K
theorem E_tree_Tree_above_ok (N : Nat) : EntOK Try.prog 83 (E_tree_Tree_above N) := EntOK.vars (E_tree_Tree_above_Tok N) Try.func83 (by kernel_rfl) (by kernel_rfl) (all_cons (Z156_ok N) (all_nil))
theorem E_tree_Tree_get_Tok (N : Nat) : TabOK Try.prog (E_tree_Tree_get_T N) := TabOK.cons (E_tree_Tree_above_ok N) (TabOK.cons (E_Z158_ok N) (TabOK.nil))
theorem Z157_ok (N : Nat) : VarOK Try.prog (E_tree_Tree_get_T N) Try.f87 (codeOf Try.f87) (Z157_W (Z157 N)) :=
  VarOK.of (E_tree_Tree_get_Tok N) (by kernel_rfl) pn (Z157_F) N (fun _ => LStep.none) fun t u K => Z157_body N _ _ _ t u K
theorem E_tree_Tree_get_ok (N : Nat) : EntOK Try.prog 87 (E_tree_Tree_get N) := EntOK.vars (E_tree_Tree_get_Tok N) Try.func87 (by kernel_rfl) (by kernel_rfl) (all_cons (Z157_ok N) (all_nil))
theorem E_Z148_Tok (N : Nat) : TabOK Try.prog (E_Z148_T N) := TabOK.cons (E_tree_Tree_get_ok N) (TabOK.nil)
theorem Z149_ok (N : Nat) : VarOK Try.prog (E_Z148_T N) Try.f69 (codeOf Try.f69) (Z149_W (Z149 N)) :=
  VarOK.of (E_Z148_Tok N) (by kernel_rfl) pn (Z149_F) N (fun _ => LStep.none) fun t u K => Z149_body N _ _ t u K
theorem Z148_ok (N : Nat) : VarOK Try.prog (E_Z148_T N) Try.f69 (codeOf Try.f69) (Z148_W (Z148 N)) :=
  VarOK.of (E_Z148_Tok N) (by kernel_rfl) pn (Z148_F) N (fun _ => LStep.none) fun t u K => Z148_body N _ _ t u K
theorem E_Z148_ok (N : Nat) : EntOK Try.prog 69 (E_Z148 N) := EntOK.vars (E_Z148_Tok N) Try.func69 (by kernel_rfl) (by kernel_rfl) (all_cons (Z149_ok N) (all_cons (Z148_ok N) (all_nil)))
theorem E_slices_Index__int_int_Tok (N : Nat) : TabOK Try.prog (E_slices_Index__int_int_T N) := TabOK.nil
theorem Z138_ok (N : Nat) : VarOK Try.prog (E_slices_Index__int_int_T N) Try.f88 (codeOf Try.f88) (Z138_W (Z138 N)) :=
  VarOK.of (E_slices_Index__int_int_Tok N) (by kernel_rfl) ⟨[], [], [4]⟩ (Z138_F (@Z138_l0 N)) N (fun _ => LStep.pick (all_cons ⟨.inl fun _ _ _ => rfl, fun n t u K => Z138_v0_0_round N _ _ n t u K⟩ (all_nil)) (LStep.none)) fun t u K => Z138_body N _ _ t u K
theorem Z137_ok (N : Nat) : VarOK Try.prog (E_slices_Index__int_int_T N) Try.f88 (codeOf Try.f88) (Z137_W (Z137 N)) :=
  VarOK.of (E_slices_Index__int_int_Tok N) (by kernel_rfl) ⟨[], [], [2]⟩ (Z137_F (@Z137_l0 N)) N (fun _ => LStep.pick (all_cons ⟨.inl fun _ _ _ => rfl, fun n t u K => Z137_v0_0_round N _ _ n t u K⟩ (all_nil)) (LStep.none)) fun t u K => Z137_body N _ _ t u K
theorem E_slices_Index__int_int_ok (N : Nat) : EntOK Try.prog 88 (E_slices_Index__int_int N) := EntOK.vars (E_slices_Index__int_int_Tok N) Try.func88 (by kernel_rfl) (by kernel_rfl) (all_cons (Z138_ok N) (all_cons (Z137_ok N) (all_nil)))
theorem E_files_Files_free_Tok (N : Nat) : TabOK Try.prog (E_files_Files_free_T N) := TabOK.cons (E_slices_Index__int_int_ok N) (TabOK.nil)
theorem Z58_ok (N : Nat) : VarOK Try.prog (E_files_Files_free_T N) Try.f70 (codeOf Try.f70) (Z58_W (Z58 N)) :=
  VarOK.of (E_files_Files_free_Tok N) (by kernel_rfl) ⟨[], [], [4]⟩ (Z58_F) N (fun _ => LStep.none) fun t u K => Z58_body N _ _ _ t u K
theorem Z59_ok (N : Nat) : VarOK Try.prog (E_files_Files_free_T N) Try.f70 (codeOf Try.f70) (Z59_W (Z59 N)) :=
  VarOK.of (E_files_Files_free_Tok N) (by kernel_rfl) ⟨[], [], [2]⟩ (Z59_F) N (fun _ => LStep.none) fun t u K => Z59_body N _ _ _ t u K
theorem E_files_Files_free_ok (N : Nat) : EntOK Try.prog 70 (E_files_Files_free N) := EntOK.vars (E_files_Files_free_Tok N) Try.func70 (by kernel_rfl) (by kernel_rfl) (all_cons (Z58_ok N) (all_cons (Z59_ok N) (all_nil)))
theorem E_Z43_Tok (N : Nat) : TabOK Try.prog (E_Z43_T N) := TabOK.cons (E_Z55_ok N) (TabOK.cons (E_files_Files_free_ok N) (TabOK.nil))
theorem Z43_ok (N : Nat) : VarOK Try.prog (E_Z43_T N) Try.f50 (codeOf Try.f50) (Z43_W (Z43 N)) :=
  VarOK.of (E_Z43_Tok N) (by kernel_rfl) pn (Z43_F) N (fun _ => LStep.none) fun t u K => Z43_body N _ _ _ _ _ _ t u K
theorem Z44_ok (N : Nat) : VarOK Try.prog (E_Z43_T N) Try.f50 (codeOf Try.f50) (Z44_W (Z44 N)) :=
  VarOK.of (E_Z43_Tok N) (by kernel_rfl) ⟨[], [], [4]⟩ (Z44_F) N (fun _ => LStep.none) fun t u K => Z44_body N _ _ _ _ _ _ t u K
theorem Z45_ok (N : Nat) : VarOK Try.prog (E_Z43_T N) Try.f50 (codeOf Try.f50) (Z45_W (Z45 N)) :=
  VarOK.of (E_Z43_Tok N) (by kernel_rfl) ⟨[], [], [2]⟩ (Z45_F) N (fun _ => LStep.none) fun t u K => Z45_body N _ _ _ _ _ _ t u K
theorem E_Z43_ok (N : Nat) : EntOK Try.prog 50 (E_Z43 N) := EntOK.vars (E_Z43_Tok N) Try.func50 (by kernel_rfl) (by kernel_rfl) (all_cons (Z43_ok N) (all_cons (Z44_ok N) (all_cons (Z45_ok N) (all_nil))))
theorem E_Z144_Tok (N : Nat) : TabOK Try.prog (E_Z144_T N) := TabOK.cons E_maps_Clone_map_tree_keytree_entry_tree_key_tree_entry_ok (TabOK.nil)
theorem Z145_ok (N : Nat) : VarOK Try.prog (E_Z144_T N) Try.f89 (codeOf Try.f89) (Z145_W (Z145 N)) :=
  VarOK.of (E_Z144_Tok N) (by kernel_rfl) pn (Z145_F) N (fun _ => LStep.none) fun t u K => Z145_body N _ _ t u K
theorem Z144_ok (N : Nat) : VarOK Try.prog (E_Z144_T N) Try.f89 (codeOf Try.f89) (Z144_W (Z144 N)) :=
  VarOK.of (E_Z144_Tok N) (by kernel_rfl) pn (Z144_F) N (fun _ => LStep.none) fun t u K => Z144_body N _ _ t u K
theorem E_Z144_ok (N : Nat) : EntOK Try.prog 89 (E_Z144 N) := EntOK.vars (E_Z144_Tok N) Try.func89 (by kernel_rfl) (by kernel_rfl) (all_cons (Z145_ok N) (all_cons (Z144_ok N) (all_nil)))
theorem E_Z150_Tok (N : Nat) : TabOK Try.prog (E_Z150_T N) := TabOK.cons (E_tree_Tree_above_ok N) (TabOK.cons (E_Z158_ok N) (TabOK.nil))
theorem Z151_ok (N : Nat) : VarOK Try.prog (E_Z150_T N) Try.f65 (codeOf Try.f65) (Z151_W (Z151 N)) :=
  VarOK.of (E_Z150_Tok N) (by kernel_rfl) pn (Z151_F) N (fun _ => LStep.none) fun t u K => Z151_body N _ _ _ t u K
theorem Z150_ok (N : Nat) : VarOK Try.prog (E_Z150_T N) Try.f65 (codeOf Try.f65) (Z150_W (Z150 N)) :=
  VarOK.of (E_Z150_Tok N) (by kernel_rfl) pn (Z150_F) N (fun _ => LStep.none) fun t u K => Z150_body N _ _ _ t u K
theorem E_Z150_ok (N : Nat) : EntOK Try.prog 65 (E_Z150 N) := EntOK.vars (E_Z150_Tok N) Try.func65 (by kernel_rfl) (by kernel_rfl) (all_cons (Z151_ok N) (all_cons (Z150_ok N) (all_nil)))
theorem E_tree_New_Tok (N : Nat) : TabOK Try.prog (E_tree_New_T N) := TabOK.cons (E_Z150_ok N) (TabOK.cons (E_Z74_ok N) (TabOK.nil))
theorem Z142_ok (N : Nat) : VarOK Try.prog (E_tree_New_T N) Try.f29 (codeOf Try.f29) (Z142_W (Z142 N)) :=
  VarOK.of (E_tree_New_Tok N) (by kernel_rfl) pn (Z142_F (@Z142_l0 N)) N (fun _ => LStep.pick (all_cons ⟨.inl fun _ _ _ => rfl, fun n t u K => Z142_v0_0_round N _ _ _ _ _ n t u K⟩ (all_nil)) (LStep.none)) fun t u K => Z142_body N _ _ _ _ _ t u K
theorem Z143_ok (N : Nat) : VarOK Try.prog (E_tree_New_T N) Try.f29 (codeOf Try.f29) (Z143_W (Z143 N)) :=
  VarOK.of (E_tree_New_Tok N) (by kernel_rfl) ⟨[], [], [0]⟩ (Z143_F (@Z143_l0 N)) N (fun _ => LStep.pick (all_cons ⟨.inl fun _ _ _ => rfl, fun n t u K => Z143_v0_0_round N _ _ _ _ _ n t u K⟩ (all_nil)) (LStep.none)) fun t u K => Z143_body N _ _ _ _ _ t u K
theorem E_tree_New_ok (N : Nat) : EntOK Try.prog 29 (E_tree_New N) := EntOK.vars (E_tree_New_Tok N) Try.func29 (by kernel_rfl) (by kernel_rfl) (all_cons (Z142_ok N) (all_cons (Z143_ok N) (all_nil)))
theorem E_Z19_Tok (N : Nat) : TabOK Try.prog (E_Z19_T N) := TabOK.cons (E_Z150_ok N) (TabOK.nil)
theorem Z19_ok (N : Nat) : VarOK Try.prog (E_Z19_T N) Try.f45 (codeOf Try.f45) (Z19_W (Z19 N)) :=
  VarOK.of (E_Z19_Tok N) (by kernel_rfl) pn (Z19_F) N (fun _ => LStep.none) fun t u K => Z19_body N _ _ _ t u K
theorem Z21_ok (N : Nat) : VarOK Try.prog (E_Z19_T N) Try.f45 (codeOf Try.f45) (Z21_W (Z21 N)) :=
  VarOK.of (E_Z19_Tok N) (by kernel_rfl) ⟨[], [], [4]⟩ (Z21_F) N (fun _ => LStep.none) fun t u K => Z21_body N _ _ _ t u K
theorem Z20_ok (N : Nat) : VarOK Try.prog (E_Z19_T N) Try.f45 (codeOf Try.f45) (Z20_W (Z20 N)) :=
  VarOK.of (E_Z19_Tok N) (by kernel_rfl) ⟨[], [], [2]⟩ (Z20_F) N (fun _ => LStep.none) fun t u K => Z20_body N _ _ _ t u K
theorem E_Z19_ok (N : Nat) : EntOK Try.prog 45 (E_Z19 N) := EntOK.vars (E_Z19_Tok N) Try.func45 (by kernel_rfl) (by kernel_rfl) (all_cons (Z19_ok N) (all_cons (Z21_ok N) (all_cons (Z20_ok N) (all_nil))))
theorem E_files_Files_may_Tok (N : Nat) : TabOK Try.prog (E_files_Files_may_T N) := TabOK.cons (E_Z150_ok N) (TabOK.cons (E_Z144_ok N) (TabOK.nil))
theorem Z61_ok (N : Nat) : VarOK Try.prog (E_files_Files_may_T N) Try.f71 (codeOf Try.f71) (Z61_W (Z61 N)) :=
  VarOK.of (E_files_Files_may_Tok N) (by kernel_rfl) ⟨[], [], [4]⟩ (Z61_F) N (fun _ => LStep.none) fun t u K => Z61_body N _ _ _ _ _ t u K
theorem Z60_ok (N : Nat) : VarOK Try.prog (E_files_Files_may_T N) Try.f71 (codeOf Try.f71) (Z60_W (Z60 N)) :=
  VarOK.of (E_files_Files_may_Tok N) (by kernel_rfl) ⟨[], [], [2]⟩ (Z60_F) N (fun _ => LStep.none) fun t u K => Z60_body N _ _ _ _ _ t u K
theorem E_files_Files_may_ok (N : Nat) : EntOK Try.prog 71 (E_files_Files_may N) := EntOK.vars (E_files_Files_may_Tok N) Try.func71 (by kernel_rfl) (by kernel_rfl) (all_cons (Z61_ok N) (all_cons (Z60_ok N) (all_nil)))
theorem E_Z22_Tok (N : Nat) : TabOK Try.prog (E_Z22_T N) := TabOK.cons (E_Z150_ok N) (TabOK.cons (E_files_Files_may_ok N) (TabOK.cons (E_files_Files_free_ok N) (TabOK.cons (E_Z148_ok N) (TabOK.nil))))
theorem Z22_ok (N : Nat) : VarOK Try.prog (E_Z22_T N) Try.f41 (codeOf Try.f41) (Z22_W (Z22 N)) :=
  VarOK.of (E_Z22_Tok N) (by kernel_rfl) pn (Z22_F) N (fun _ => LStep.none) fun t u K => Z22_body N _ _ _ _ _ _ _ _ _ t u K
theorem Z24_ok (N : Nat) : VarOK Try.prog (E_Z22_T N) Try.f41 (codeOf Try.f41) (Z24_W (Z24 N)) :=
  VarOK.of (E_Z22_Tok N) (by kernel_rfl) ⟨[4], [], [4]⟩ (Z24_F) N (fun _ => LStep.none) fun t u K => Z24_body N _ _ _ _ _ _ _ _ _ t u K
theorem Z23_ok (N : Nat) : VarOK Try.prog (E_Z22_T N) Try.f41 (codeOf Try.f41) (Z23_W (Z23 N)) :=
  VarOK.of (E_Z22_Tok N) (by kernel_rfl) ⟨[2], [], [2]⟩ (Z23_F) N (fun _ => LStep.none) fun t u K => Z23_body N _ _ _ _ _ _ _ _ _ t u K
theorem E_Z22_ok (N : Nat) : EntOK Try.prog 41 (E_Z22 N) := EntOK.vars (E_Z22_Tok N) Try.func41 (by kernel_rfl) (by kernel_rfl) (all_cons (Z22_ok N) (all_cons (Z24_ok N) (all_cons (Z23_ok N) (all_nil))))
theorem E_Z146_Tok (N : Nat) : TabOK Try.prog (E_Z146_T N) := TabOK.cons (E_Z158_ok N) (TabOK.cons E_tree_Tree_many_ok (TabOK.cons (E_tree_Tree_get_ok N) (TabOK.nil)))
theorem Z147_ok (N : Nat) : VarOK Try.prog (E_Z146_T N) Try.f72 (codeOf Try.f72) (Z147_W (Z147 N)) :=
  VarOK.of (E_Z146_Tok N) (by kernel_rfl) pn (Z147_F) N (fun _ => LStep.none) fun t u K => Z147_body N _ _ _ _ t u K
theorem Z146_ok (N : Nat) : VarOK Try.prog (E_Z146_T N) Try.f72 (codeOf Try.f72) (Z146_W (Z146 N)) :=
  VarOK.of (E_Z146_Tok N) (by kernel_rfl) pn (Z146_F) N (fun _ => LStep.none) fun t u K => Z146_body N _ _ _ _ t u K
theorem E_Z146_ok (N : Nat) : EntOK Try.prog 72 (E_Z146 N) := EntOK.vars (E_Z146_Tok N) Try.func72 (by kernel_rfl) (by kernel_rfl) (all_cons (Z147_ok N) (all_cons (Z146_ok N) (all_nil)))
theorem E_Z46_Tok (N : Nat) : TabOK Try.prog (E_Z46_T N) := TabOK.cons (E_Z146_ok N) (TabOK.nil)
theorem Z46_ok (N : Nat) : VarOK Try.prog (E_Z46_T N) Try.f43 (codeOf Try.f43) (Z46_W (Z46 N)) :=
  VarOK.of (E_Z46_Tok N) (by kernel_rfl) pn (Z46_F) N (fun _ => LStep.none) fun t u K => Z46_body N _ _ _ t u K
theorem Z48_ok (N : Nat) : VarOK Try.prog (E_Z46_T N) Try.f43 (codeOf Try.f43) (Z48_W (Z48 N)) :=
  VarOK.of (E_Z46_Tok N) (by kernel_rfl) ⟨[], [], [4]⟩ (Z48_F) N (fun _ => LStep.none) fun t u K => Z48_body N _ _ _ t u K
theorem Z47_ok (N : Nat) : VarOK Try.prog (E_Z46_T N) Try.f43 (codeOf Try.f43) (Z47_W (Z47 N)) :=
  VarOK.of (E_Z46_Tok N) (by kernel_rfl) ⟨[], [], [2]⟩ (Z47_F) N (fun _ => LStep.none) fun t u K => Z47_body N _ _ _ t u K
theorem E_Z46_ok (N : Nat) : EntOK Try.prog 43 (E_Z46 N) := EntOK.vars (E_Z46_Tok N) Try.func43 (by kernel_rfl) (by kernel_rfl) (all_cons (Z46_ok N) (all_cons (Z48_ok N) (all_cons (Z47_ok N) (all_nil))))
theorem E_Z31_Tok (N : Nat) : TabOK Try.prog (E_Z31_T N) := TabOK.cons (E_Z146_ok N) (TabOK.nil)
theorem Z31_ok (N : Nat) : VarOK Try.prog (E_Z31_T N) Try.f46 (codeOf Try.f46) (Z31_W (Z31 N)) :=
  VarOK.of (E_Z31_Tok N) (by kernel_rfl) pn (Z31_F) N (fun _ => LStep.none) fun t u K => Z31_body N _ _ _ t u K
theorem Z33_ok (N : Nat) : VarOK Try.prog (E_Z31_T N) Try.f46 (codeOf Try.f46) (Z33_W (Z33 N)) :=
  VarOK.of (E_Z31_Tok N) (by kernel_rfl) ⟨[], [], [4]⟩ (Z33_F) N (fun _ => LStep.none) fun t u K => Z33_body N _ _ _ t u K
theorem Z32_ok (N : Nat) : VarOK Try.prog (E_Z31_T N) Try.f46 (codeOf Try.f46) (Z32_W (Z32 N)) :=
  VarOK.of (E_Z31_Tok N) (by kernel_rfl) ⟨[], [], [2]⟩ (Z32_F) N (fun _ => LStep.none) fun t u K => Z32_body N _ _ _ t u K
theorem E_Z31_ok (N : Nat) : EntOK Try.prog 46 (E_Z31 N) := EntOK.vars (E_Z31_Tok N) Try.func46 (by kernel_rfl) (by kernel_rfl) (all_cons (Z31_ok N) (all_cons (Z33_ok N) (all_cons (Z32_ok N) (all_nil))))
theorem E_Z154_Tok (N : Nat) : TabOK Try.prog (E_Z154_T N) := TabOK.cons (E_tree_Tree_above_ok N) (TabOK.cons (E_Z158_ok N) (TabOK.cons (E_tree_Tree_get_ok N) (TabOK.nil)))
theorem Z155_ok (N : Nat) : VarOK Try.prog (E_Z154_T N) Try.f73 (codeOf Try.f73) (Z155_W (Z155 N)) :=
  VarOK.of (E_Z154_Tok N) (by kernel_rfl) pn (Z155_F) N (fun _ => LStep.none) fun t u K => Z155_body N _ _ _ _ t u K
theorem Z154_ok (N : Nat) : VarOK Try.prog (E_Z154_T N) Try.f73 (codeOf Try.f73) (Z154_W (Z154 N)) :=
  VarOK.of (E_Z154_Tok N) (by kernel_rfl) pn (Z154_F) N (fun _ => LStep.none) fun t u K => Z154_body N _ _ _ _ t u K
theorem E_Z154_ok (N : Nat) : EntOK Try.prog 73 (E_Z154 N) := EntOK.vars (E_Z154_Tok N) Try.func73 (by kernel_rfl) (by kernel_rfl) (all_cons (Z155_ok N) (all_cons (Z154_ok N) (all_nil)))
theorem E_Z28_Tok (N : Nat) : TabOK Try.prog (E_Z28_T N) := TabOK.cons (E_Z154_ok N) (TabOK.nil)
theorem Z28_ok (N : Nat) : VarOK Try.prog (E_Z28_T N) Try.f44 (codeOf Try.f44) (Z28_W (Z28 N)) :=
  VarOK.of (E_Z28_Tok N) (by kernel_rfl) pn (Z28_F) N (fun _ => LStep.none) fun t u K => Z28_body N _ _ _ t u K
theorem Z30_ok (N : Nat) : VarOK Try.prog (E_Z28_T N) Try.f44 (codeOf Try.f44) (Z30_W (Z30 N)) :=
  VarOK.of (E_Z28_Tok N) (by kernel_rfl) ⟨[], [], [4]⟩ (Z30_F) N (fun _ => LStep.none) fun t u K => Z30_body N _ _ _ t u K
theorem Z29_ok (N : Nat) : VarOK Try.prog (E_Z28_T N) Try.f44 (codeOf Try.f44) (Z29_W (Z29 N)) :=
  VarOK.of (E_Z28_Tok N) (by kernel_rfl) ⟨[], [], [2]⟩ (Z29_F) N (fun _ => LStep.none) fun t u K => Z29_body N _ _ _ t u K
theorem E_Z28_ok (N : Nat) : EntOK Try.prog 44 (E_Z28 N) := EntOK.vars (E_Z28_Tok N) Try.func44 (by kernel_rfl) (by kernel_rfl) (all_cons (Z28_ok N) (all_cons (Z30_ok N) (all_cons (Z29_ok N) (all_nil))))
theorem E_Z152_Tok (N : Nat) : TabOK Try.prog (E_Z152_T N) := TabOK.cons E_tree_Tree_many_ok (TabOK.cons (E_tree_Tree_get_ok N) (TabOK.nil))
theorem Z153_ok (N : Nat) : VarOK Try.prog (E_Z152_T N) Try.f74 (codeOf Try.f74) (Z153_W (Z153 N)) :=
  VarOK.of (E_Z152_Tok N) (by kernel_rfl) pn (Z153_F) N (fun _ => LStep.none) fun t u K => Z153_body N _ _ _ t u K
theorem Z152_ok (N : Nat) : VarOK Try.prog (E_Z152_T N) Try.f74 (codeOf Try.f74) (Z152_W (Z152 N)) :=
  VarOK.of (E_Z152_Tok N) (by kernel_rfl) pn (Z152_F) N (fun _ => LStep.none) fun t u K => Z152_body N _ _ _ t u K
theorem E_Z152_ok (N : Nat) : EntOK Try.prog 74 (E_Z152 N) := EntOK.vars (E_Z152_Tok N) Try.func74 (by kernel_rfl) (by kernel_rfl) (all_cons (Z153_ok N) (all_cons (Z152_ok N) (all_nil)))
theorem E_Z16_Tok (N : Nat) : TabOK Try.prog (E_Z16_T N) := TabOK.cons (E_Z152_ok N) (TabOK.nil)
theorem Z16_ok (N : Nat) : VarOK Try.prog (E_Z16_T N) Try.f47 (codeOf Try.f47) (Z16_W (Z16 N)) :=
  VarOK.of (E_Z16_Tok N) (by kernel_rfl) pn (Z16_F) N (fun _ => LStep.none) fun t u K => Z16_body N _ _ _ t u K
theorem Z18_ok (N : Nat) : VarOK Try.prog (E_Z16_T N) Try.f47 (codeOf Try.f47) (Z18_W (Z18 N)) :=
  VarOK.of (E_Z16_Tok N) (by kernel_rfl) ⟨[], [], [4]⟩ (Z18_F) N (fun _ => LStep.none) fun t u K => Z18_body N _ _ _ t u K
theorem Z17_ok (N : Nat) : VarOK Try.prog (E_Z16_T N) Try.f47 (codeOf Try.f47) (Z17_W (Z17 N)) :=
  VarOK.of (E_Z16_Tok N) (by kernel_rfl) ⟨[], [], [2]⟩ (Z17_F) N (fun _ => LStep.none) fun t u K => Z17_body N _ _ _ t u K
theorem E_Z16_ok (N : Nat) : EntOK Try.prog 47 (E_Z16 N) := EntOK.vars (E_Z16_Tok N) Try.func47 (by kernel_rfl) (by kernel_rfl) (all_cons (Z16_ok N) (all_cons (Z18_ok N) (all_cons (Z17_ok N) (all_nil))))
theorem E_run_machine_named_Tok (N : Nat) : TabOK Try.prog (E_run_machine_named_T N) := TabOK.cons (E_Z16_ok N) (TabOK.cons (E_Z31_ok N) (TabOK.cons (E_Z19_ok N) (TabOK.cons (E_Z28_ok N) (TabOK.cons (E_Z46_ok N) (TabOK.cons (E_run_machine_answer_ok N) (TabOK.cons (E_Z22_ok N) (TabOK.cons (E_run_machine_name_ok N) (TabOK.nil))))))))
theorem Z105_ok (N : Nat) : VarOK Try.prog (E_run_machine_named_T N) Try.f23 (codeOf Try.f23) (Z105_W (Z105 N)) :=
  VarOK.of (E_run_machine_named_Tok N) (by kernel_rfl) ⟨[3, 7], [], [1, 2, 3, 5, 6, 7]⟩ (Z105_F) N (fun _ => LStep.none) fun t u K => Z105_body N _ _ _ _ _ _ _ _ _ _ _ _ _ _ _ _ _ _ _ _ _ _ _ _ _ _ _ _ t u K
theorem Z104_ok (N : Nat) : VarOK Try.prog (E_run_machine_named_T N) Try.f23 (codeOf Try.f23) (Z104_W (Z104 N)) :=
  VarOK.of (E_run_machine_named_Tok N) (by kernel_rfl) ⟨[8, 3, 12], [], [1, 2, 3, 8, 10, 11, 12]⟩ (Z104_F) N (fun _ => LStep.none) fun t u K => Z104_body N _ _ _ _ _ _ _ _ _ _ _ _ _ _ _ _ _ _ _ _ _ _ _ _ _ _ _ _ t u K
theorem Z103_ok (N : Nat) : VarOK Try.prog (E_run_machine_named_T N) Try.f23 (codeOf Try.f23) (Z103_W (Z103 N)) :=
  VarOK.of (E_run_machine_named_Tok N) (by kernel_rfl) ⟨[6, 3, 10], [], [1, 2, 3, 6, 8, 9, 10]⟩ (Z103_F) N (fun _ => LStep.none) fun t u K => Z103_body N _ _ _ _ _ _ _ _ _ _ _ _ _ _ _ _ _ _ _ _ _ _ _ _ _ _ _ _ t u K
theorem E_run_machine_named_ok (N : Nat) : EntOK Try.prog 23 (E_run_machine_named N) := EntOK.vars (E_run_machine_named_Tok N) Try.func23 (by kernel_rfl) (by kernel_rfl) (all_cons (Z105_ok N) (all_cons (Z104_ok N) (all_cons (Z103_ok N) (all_nil))))
theorem E_files_New_Tok (N : Nat) : TabOK Try.prog (E_files_New_T N) := TabOK.cons (E_tree_New_ok N) (TabOK.cons E_slices_Clone__byte_byte_ok (TabOK.nil))
theorem Z62_ok (N : Nat) : VarOK Try.prog (E_files_New_T N) Try.f13 (codeOf Try.f13) (Z62_W (Z62 N)) :=
  VarOK.of (E_files_New_Tok N) (by kernel_rfl) ⟨[], [], [0]⟩ (Z62_F (@Z62_l0 N)) N (fun _ => LStep.pick (all_cons ⟨.inl fun _ _ _ => rfl, fun n t u K => Z62_v0_0_round N _ _ _ _ _ n t u K⟩ (all_nil)) (LStep.none)) fun t u K => Z62_body N _ _ _ _ _ t u K
theorem Z63_ok (N : Nat) : VarOK Try.prog (E_files_New_T N) Try.f13 (codeOf Try.f13) (Z63_W (Z63 N)) :=
  VarOK.of (E_files_New_Tok N) (by kernel_rfl) ⟨[], [], [0, 1]⟩ (Z63_F (@Z63_l0 N)) N (fun _ => LStep.pick (all_cons ⟨.inl fun _ _ _ => rfl, fun n t u K => Z63_v0_0_round N _ _ _ _ _ n t u K⟩ (all_cons ⟨.inl fun _ _ _ => rfl, fun n t u K => Z63_v0_1_round N _ _ _ _ _ n t u K⟩ (all_cons ⟨.inl fun _ _ _ => rfl, fun n t u K => Z63_v0_2_round N _ _ _ _ _ n t u K⟩ (all_cons ⟨.inl fun _ _ _ => rfl, fun n t u K => Z63_v0_3_round N _ _ _ _ _ n t u K⟩ (all_nil))))) (LStep.none)) fun t u K => Z63_body N _ _ _ _ _ t u K
theorem E_files_New_ok (N : Nat) : EntOK Try.prog 13 (E_files_New N) := EntOK.vars (E_files_New_Tok N) Try.func13 (by kernel_rfl) (by kernel_rfl) (all_cons (Z62_ok N) (all_cons (Z63_ok N) (all_nil)))
theorem E_run_made_Tok (N : Nat) : TabOK Try.prog (E_run_made_T N) := TabOK.cons (E_Z11_ok N) (TabOK.cons (E_slices_ContainsFunc___byte__byte_ok N) (TabOK.cons (E_files_New_ok N) (TabOK.cons (E_check_Run_ok N) (TabOK.nil))))
theorem Z131_ok (N : Nat) : VarOK Try.prog (E_run_made_T N) Try.f9 (codeOf Try.f9) (Z131_W (Z131 N)) :=
  VarOK.of (E_run_made_Tok N) (by kernel_rfl) ⟨[], [], [0, 1, 2, 3, 4]⟩ (Z131_F) N (fun _ => LStep.none) fun t u K => Z131_body N _ _ _ _ _ _ _ t u K
theorem Z132_ok (N : Nat) : VarOK Try.prog (E_run_made_T N) Try.f9 (codeOf Try.f9) (Z132_W (Z132 N)) :=
  VarOK.of (E_run_made_Tok N) (by kernel_rfl) ⟨[], [], [0, 1, 2, 3, 4]⟩ (Z132_F) N (fun _ => LStep.none) fun t u K => Z132_body N _ _ _ _ _ _ _ t u K
theorem E_run_made_ok (N : Nat) : EntOK Try.prog 9 (E_run_made N) := EntOK.vars (E_run_made_Tok N) Try.func9 (by kernel_rfl) (by kernel_rfl) (all_cons (Z131_ok N) (all_cons (Z132_ok N) (all_nil)))
theorem E_Z25_Tok (N : Nat) : TabOK Try.prog (E_Z25_T N) := TabOK.cons (E_Z55_ok N) (TabOK.cons E_slices_Clone__byte_byte_ok (TabOK.nil))
theorem Z25_ok (N : Nat) : VarOK Try.prog (E_Z25_T N) Try.f77 (codeOf Try.f77) (Z25_W (Z25 N)) :=
  VarOK.of (E_Z25_Tok N) (by kernel_rfl) pn (Z25_F) N (fun _ => LStep.none) fun t u K => Z25_body N _ _ _ _ _ t u K
theorem Z26_ok (N : Nat) : VarOK Try.prog (E_Z25_T N) Try.f77 (codeOf Try.f77) (Z26_W (Z26 N)) :=
  VarOK.of (E_Z25_Tok N) (by kernel_rfl) ⟨[], [(0, false, (.int .u8))], [4]⟩ (Z26_F) N (fun _ => LStep.none) fun t u K => Z26_body N _ _ _ _ _ t u K
theorem Z27_ok (N : Nat) : VarOK Try.prog (E_Z25_T N) Try.f77 (codeOf Try.f77) (Z27_W (Z27 N)) :=
  VarOK.of (E_Z25_Tok N) (by kernel_rfl) ⟨[], [(0, false, (.int .u8))], [2]⟩ (Z27_F) N (fun _ => LStep.none) fun t u K => Z27_body N _ _ _ _ _ t u K
theorem E_Z25_ok (N : Nat) : EntOK Try.prog 77 (E_Z25 N) := EntOK.vars (E_Z25_Tok N) Try.func77 (by kernel_rfl) (by kernel_rfl) (all_cons (Z25_ok N) (all_cons (Z26_ok N) (all_cons (Z27_ok N) (all_nil))))
theorem E_run_machine_read_Tok (N : Nat) : TabOK Try.prog (E_run_machine_read_T N) := TabOK.cons (E_run_machine_answer_ok N) (TabOK.cons (E_Z25_ok N) (TabOK.cons (E_run_machine_pop_ok N) (TabOK.cons (E_run_machine_end_ok N) (TabOK.nil))))
theorem Z119_ok (N : Nat) : VarOK Try.prog (E_run_machine_read_T N) Try.f53 (codeOf Try.f53) (Z119_W (Z119 N)) :=
  VarOK.of (E_run_machine_read_Tok N) (by kernel_rfl) ⟨[], [], [1, 2, 3, 5, 6, 7]⟩ (Z119_F) N (fun _ => LStep.none) fun t u K => Z119_body N _ _ _ _ _ _ _ _ _ _ _ _ _ _ _ _ t u K
theorem Z118_ok (N : Nat) : VarOK Try.prog (E_run_machine_read_T N) Try.f53 (codeOf Try.f53) (Z118_W (Z118 N)) :=
  VarOK.of (E_run_machine_read_Tok N) (by kernel_rfl) ⟨[12], [], [1, 2, 3, 8, 10, 11, 12]⟩ (Z118_F) N (fun _ => LStep.none) fun t u K => Z118_body N _ _ _ _ _ _ _ _ _ _ _ _ _ _ _ _ t u K
theorem Z120_ok (N : Nat) : VarOK Try.prog (E_run_machine_read_T N) Try.f53 (codeOf Try.f53) (Z120_W (Z120 N)) :=
  VarOK.of (E_run_machine_read_Tok N) (by kernel_rfl) ⟨[10], [], [1, 2, 3, 6, 8, 9, 10]⟩ (Z120_F) N (fun _ => LStep.none) fun t u K => Z120_body N _ _ _ _ _ _ _ _ _ _ _ _ _ _ _ _ t u K
theorem E_run_machine_read_ok (N : Nat) : EntOK Try.prog 53 (E_run_machine_read N) := EntOK.vars (E_run_machine_read_Tok N) Try.func53 (by kernel_rfl) (by kernel_rfl) (all_cons (Z119_ok N) (all_cons (Z118_ok N) (all_cons (Z120_ok N) (all_nil))))
theorem E_Z64_Tok (N : Nat) : TabOK Try.prog (E_Z64_T N) := TabOK.cons E_slices_Clone__byte_byte_ok (TabOK.nil)
theorem Z64_ok (N : Nat) : VarOK Try.prog (E_Z64_T N) Try.f76 (codeOf Try.f76) (Z64_W (Z64 N)) :=
  VarOK.of (E_Z64_Tok N) (by kernel_rfl) pn (Z64_F (@Z64_l0 N)) N (fun _ => LStep.pick (all_cons ⟨.inl fun _ _ _ => rfl, fun n t u K => Z64_v0_0_round N _ _ _ n t u K⟩ (all_nil)) (LStep.none)) fun t u K => Z64_body N _ _ _ t u K
theorem E_Z64_ok (N : Nat) : EntOK Try.prog 76 (E_Z64 N) := EntOK.vars (E_Z64_Tok N) Try.func76 (by kernel_rfl) (by kernel_rfl) (all_cons (Z64_ok N) (all_nil))
theorem E_Z40_Tok (N : Nat) : TabOK Try.prog (E_Z40_T N) := TabOK.cons (E_Z55_ok N) (TabOK.cons (E_Z64_ok N) (TabOK.nil))
theorem Z40_ok (N : Nat) : VarOK Try.prog (E_Z40_T N) Try.f52 (codeOf Try.f52) (Z40_W (Z40 N)) :=
  VarOK.of (E_Z40_Tok N) (by kernel_rfl) pn (Z40_F) N (fun _ => LStep.none) fun t u K => Z40_body N _ _ _ _ _ t u K
theorem Z41_ok (N : Nat) : VarOK Try.prog (E_Z40_T N) Try.f52 (codeOf Try.f52) (Z41_W (Z41 N)) :=
  VarOK.of (E_Z40_Tok N) (by kernel_rfl) ⟨[], [], [4]⟩ (Z41_F) N (fun _ => LStep.none) fun t u K => Z41_body N _ _ _ _ _ t u K
theorem Z42_ok (N : Nat) : VarOK Try.prog (E_Z40_T N) Try.f52 (codeOf Try.f52) (Z42_W (Z42 N)) :=
  VarOK.of (E_Z40_Tok N) (by kernel_rfl) ⟨[], [], [2]⟩ (Z42_F) N (fun _ => LStep.none) fun t u K => Z42_body N _ _ _ _ _ t u K
theorem E_Z40_ok (N : Nat) : EntOK Try.prog 52 (E_Z40 N) := EntOK.vars (E_Z40_Tok N) Try.func52 (by kernel_rfl) (by kernel_rfl) (all_cons (Z40_ok N) (all_cons (Z41_ok N) (all_cons (Z42_ok N) (all_nil))))
theorem E_files_Files_Write_Tok (N : Nat) : TabOK Try.prog (E_files_Files_Write_T N) := TabOK.cons (E_Z55_ok N) (TabOK.cons (E_Z64_ok N) (TabOK.nil))
theorem Z54_ok (N : Nat) : VarOK Try.prog (E_files_Files_Write_T N) Try.f78 (codeOf Try.f78) (Z54_W (Z54 N)) :=
  VarOK.of (E_files_Files_Write_Tok N) (by kernel_rfl) ⟨[], [], [1, 2, 3, 5, 6, 7]⟩ (Z54_F) N (fun _ => LStep.none) fun t u K => Z54_body N _ _ _ _ _ t u K
theorem Z49_ok (N : Nat) : VarOK Try.prog (E_files_Files_Write_T N) Try.f78 (codeOf Try.f78) (Z49_W (Z49 N)) :=
  VarOK.of (E_files_Files_Write_Tok N) (by kernel_rfl) pn (Z49_F) N (fun _ => LStep.none) fun t u K => Z49_body N _ _ _ _ _ t u K
theorem Z51_ok (N : Nat) : VarOK Try.prog (E_files_Files_Write_T N) Try.f78 (codeOf Try.f78) (Z51_W (Z51 N)) :=
  VarOK.of (E_files_Files_Write_Tok N) (by kernel_rfl) ⟨[], [], [4, 6, 7, 8, 10, 11, 12]⟩ (Z51_F) N (fun _ => LStep.none) fun t u K => Z51_body N _ _ _ _ _ t u K
theorem Z53_ok (N : Nat) : VarOK Try.prog (E_files_Files_Write_T N) Try.f78 (codeOf Try.f78) (Z53_W (Z53 N)) :=
  VarOK.of (E_files_Files_Write_Tok N) (by kernel_rfl) ⟨[], [], [4]⟩ (Z53_F) N (fun _ => LStep.none) fun t u K => Z53_body N _ _ _ _ _ t u K
theorem Z50_ok (N : Nat) : VarOK Try.prog (E_files_Files_Write_T N) Try.f78 (codeOf Try.f78) (Z50_W (Z50 N)) :=
  VarOK.of (E_files_Files_Write_Tok N) (by kernel_rfl) ⟨[], [], [2, 4, 5, 6, 8, 9, 10]⟩ (Z50_F) N (fun _ => LStep.none) fun t u K => Z50_body N _ _ _ _ _ t u K
theorem Z52_ok (N : Nat) : VarOK Try.prog (E_files_Files_Write_T N) Try.f78 (codeOf Try.f78) (Z52_W (Z52 N)) :=
  VarOK.of (E_files_Files_Write_Tok N) (by kernel_rfl) ⟨[], [], [2]⟩ (Z52_F) N (fun _ => LStep.none) fun t u K => Z52_body N _ _ _ _ _ t u K
theorem E_files_Files_Write_ok (N : Nat) : EntOK Try.prog 78 (E_files_Files_Write N) := EntOK.vars (E_files_Files_Write_Tok N) Try.func78 (by kernel_rfl) (by kernel_rfl) (all_cons (Z54_ok N) (all_cons (Z49_ok N) (all_cons (Z51_ok N) (all_cons (Z53_ok N) (all_cons (Z50_ok N) (all_cons (Z52_ok N) (all_nil)))))))
theorem E_run_machine_write_Tok (N : Nat) : TabOK Try.prog (E_run_machine_write_T N) := TabOK.cons (E_files_Files_Write_ok N) (TabOK.cons (E_run_machine_answer_ok N) (TabOK.cons (E_run_machine_end_ok N) (TabOK.cons (E_run_machine_pop_ok N) (TabOK.nil))))
theorem Z128_ok (N : Nat) : VarOK Try.prog (E_run_machine_write_T N) Try.f54 (codeOf Try.f54) (Z128_W (Z128 N)) :=
  VarOK.of (E_run_machine_write_Tok N) (by kernel_rfl) ⟨[7], [], [1, 2, 3, 5, 6, 7]⟩ (Z128_F) N (fun _ => LStep.none) fun t u K => Z128_body N _ _ _ _ _ _ _ _ _ _ _ _ _ _ _ _ _ _ _ t u K
theorem Z127_ok (N : Nat) : VarOK Try.prog (E_run_machine_write_T N) Try.f54 (codeOf Try.f54) (Z127_W (Z127 N)) :=
  VarOK.of (E_run_machine_write_Tok N) (by kernel_rfl) ⟨[12], [], [1, 2, 3, 8, 10, 11, 12]⟩ (Z127_F) N (fun _ => LStep.none) fun t u K => Z127_body N _ _ _ _ _ _ _ _ _ _ _ _ _ _ _ _ _ _ _ t u K
theorem Z129_ok (N : Nat) : VarOK Try.prog (E_run_machine_write_T N) Try.f54 (codeOf Try.f54) (Z129_W (Z129 N)) :=
  VarOK.of (E_run_machine_write_Tok N) (by kernel_rfl) ⟨[10], [], [1, 2, 3, 6, 8, 9, 10]⟩ (Z129_F) N (fun _ => LStep.none) fun t u K => Z129_body N _ _ _ _ _ _ _ _ _ _ _ _ _ _ _ _ _ _ _ t u K
theorem E_run_machine_write_ok (N : Nat) : EntOK Try.prog 54 (E_run_machine_write N) := EntOK.vars (E_run_machine_write_Tok N) Try.func54 (by kernel_rfl) (by kernel_rfl) (all_cons (Z128_ok N) (all_cons (Z127_ok N) (all_cons (Z129_ok N) (all_nil))))
theorem E_run_machine_call_Tok (N : Nat) : TabOK Try.prog (E_run_machine_call_T N) := TabOK.cons (E_run_machine_argument_ok N) (TabOK.cons (E_run_machine_push_ok N) (TabOK.cons (E_run_machine_write_ok N) (TabOK.cons (E_run_machine_read_ok N) (TabOK.cons (E_Z40_ok N) (TabOK.cons (E_Z34_ok N) (TabOK.cons (E_Z43_ok N) (TabOK.cons (E_Z37_ok N) (TabOK.cons (E_run_machine_answer_ok N) (TabOK.cons (E_Z13_ok N) (TabOK.cons (E_run_machine_pop_ok N) (TabOK.nil)))))))))))
theorem Z91_ok (N : Nat) : VarOK Try.prog (E_run_machine_call_T N) Try.f24 (codeOf Try.f24) (Z91_W (Z91 N)) :=
  VarOK.of (E_run_machine_call_Tok N) (by kernel_rfl) ⟨[7, 3], [], [1, 2, 3, 5, 6, 7]⟩ (Z91_F) N (fun _ => LStep.none) fun t u K => Z91_body N _ _ _ _ _ _ _ _ _ _ _ _ _ _ _ _ _ _ _ _ _ _ _ _ _ _ _ _ _ _ _ _ _ _ _ _ _ _ _ _ t u K
theorem Z93_ok (N : Nat) : VarOK Try.prog (E_run_machine_call_T N) Try.f24 (codeOf Try.f24) (Z93_W (Z93 N)) :=
  VarOK.of (E_run_machine_call_Tok N) (by kernel_rfl) ⟨[12, 3], [], [1, 2, 3, 8, 10, 11, 12]⟩ (Z93_F) N (fun _ => LStep.none) fun t u K => Z93_body N _ _ _ _ _ _ _ _ _ _ _ _ _ _ _ _ _ _ _ _ _ _ _ _ _ _ _ _ _ _ _ _ _ _ _ _ _ _ _ _ t u K
theorem Z92_ok (N : Nat) : VarOK Try.prog (E_run_machine_call_T N) Try.f24 (codeOf Try.f24) (Z92_W (Z92 N)) :=
  VarOK.of (E_run_machine_call_Tok N) (by kernel_rfl) ⟨[10, 3], [], [1, 2, 3, 6, 8, 9, 10]⟩ (Z92_F) N (fun _ => LStep.none) fun t u K => Z92_body N _ _ _ _ _ _ _ _ _ _ _ _ _ _ _ _ _ _ _ _ _ _ _ _ _ _ _ _ _ _ _ _ _ _ _ _ _ _ _ _ t u K
theorem E_run_machine_call_ok (N : Nat) : EntOK Try.prog 24 (E_run_machine_call N) := EntOK.vars (E_run_machine_call_Tok N) Try.func24 (by kernel_rfl) (by kernel_rfl) (all_cons (Z91_ok N) (all_cons (Z93_ok N) (all_cons (Z92_ok N) (all_nil))))
theorem E_run_machine_step_Tok (N : Nat) : TabOK Try.prog (E_run_machine_step_T N) := TabOK.cons (E_run_machine_call_ok N) (TabOK.cons (E_run_machine_named_ok N) (TabOK.cons (E_run_machine_plain_ok N) (TabOK.cons (E_run_machine_reckon_ok N) (TabOK.cons (E_run_machine_answer_ok N) (TabOK.cons (E_Z70_ok N) (TabOK.cons (E_fails_Fails_Next_ok N) (TabOK.cons (E_Z66_ok N) (TabOK.nil))))))))
theorem Z125_ok (N : Nat) : VarOK Try.prog (E_run_machine_step_T N) Try.f11 (codeOf Try.f11) (Z125_W (Z125 N)) :=
  VarOK.of (E_run_machine_step_Tok N) (by kernel_rfl) ⟨[7], [], [1, 2, 3, 5, 6, 7]⟩ (Z125_F) N (fun _ => LStep.none) fun t u K => Z125_body N _ _ _ _ _ _ _ _ _ _ _ _ _ _ _ _ _ _ _ _ _ _ t u K
theorem Z124_ok (N : Nat) : VarOK Try.prog (E_run_machine_step_T N) Try.f11 (codeOf Try.f11) (Z124_W (Z124 N)) :=
  VarOK.of (E_run_machine_step_Tok N) (by kernel_rfl) ⟨[12, 8], [], [1, 2, 3, 8, 10, 11, 12]⟩ (Z124_F) N (fun _ => LStep.none) fun t u K => Z124_body N _ _ _ _ _ _ _ _ _ _ _ _ _ _ _ _ _ _ _ _ _ _ t u K
theorem Z126_ok (N : Nat) : VarOK Try.prog (E_run_machine_step_T N) Try.f11 (codeOf Try.f11) (Z126_W (Z126 N)) :=
  VarOK.of (E_run_machine_step_Tok N) (by kernel_rfl) ⟨[10, 6], [], [1, 2, 3, 6, 8, 9, 10]⟩ (Z126_F) N (fun _ => LStep.none) fun t u K => Z126_body N _ _ _ _ _ _ _ _ _ _ _ _ _ _ _ _ _ _ _ _ _ _ t u K
theorem E_run_machine_step_ok (N : Nat) : EntOK Try.prog 11 (E_run_machine_step N) := EntOK.vars (E_run_machine_step_Tok N) Try.func11 (by kernel_rfl) (by kernel_rfl) (all_cons (Z125_ok N) (all_cons (Z124_ok N) (all_cons (Z126_ok N) (all_nil))))
theorem E_run_all_Tok (N : Nat) : TabOK Try.prog (E_run_all_T N) := TabOK.cons (E_run_machine_step_ok N) (TabOK.cons (E_run_machine_end_ok N) (TabOK.cons (E_run_made_ok N) (TabOK.nil)))
theorem Z79_ok (N : Nat) : VarOK Try.prog (E_run_all_T N) Try.f8 (codeOf Try.f8) (Z79_W (Z79 N)) :=
  VarOK.of (E_run_all_Tok N) (by kernel_rfl) ⟨[], [], [0, 1, 2, 3, 4]⟩ (Z79_F (@Z79_l0 N)) N (fun _ => LStep.pick (all_cons ⟨.inl fun _ _ _ => rfl, fun n t u K => Z79_v0_0_round N _ _ _ _ _ _ _ _ _ _ n t u K⟩ (all_cons ⟨.inl fun _ _ _ => rfl, fun n t u K => Z79_v0_1_round N _ _ _ _ _ _ _ _ _ _ n t u K⟩ (all_cons ⟨.inl fun _ _ _ => rfl, fun n t u K => Z79_v0_2_round N _ _ _ _ _ _ _ _ _ _ n t u K⟩ (all_nil)))) (LStep.none)) fun t u K => Z79_body N _ _ _ _ _ _ _ _ _ _ t u K
theorem Z80_ok (N : Nat) : VarOK Try.prog (E_run_all_T N) Try.f8 (codeOf Try.f8) (Z80_W (Z80 N)) :=
  VarOK.of (E_run_all_Tok N) (by kernel_rfl) ⟨[], [], [0, 1, 2, 3, 4]⟩ (Z80_F (@Z80_l0 N)) N (fun _ => LStep.pick (all_cons ⟨.inl fun _ _ _ => rfl, fun n t u K => Z80_v0_0_round N _ _ _ _ _ _ _ _ _ _ n t u K⟩ (all_cons ⟨.inl fun _ _ _ => rfl, fun n t u K => Z80_v0_1_round N _ _ _ _ _ _ _ _ _ _ n t u K⟩ (all_cons ⟨.inl fun _ _ _ => rfl, fun n t u K => Z80_v0_2_round N _ _ _ _ _ _ _ _ _ _ n t u K⟩ (all_cons ⟨.inl fun _ _ _ => rfl, fun n t u K => Z80_v0_3_round N _ _ _ _ _ _ _ _ _ _ n t u K⟩ (all_nil))))) (LStep.none)) fun t u K => Z80_body N _ _ _ _ _ _ _ _ _ _ t u K
theorem E_run_all_ok (N : Nat) : EntOK Try.prog 8 (E_run_all N) := EntOK.vars (E_run_all_Tok N) Try.func8 (by kernel_rfl) (by kernel_rfl) (all_cons (Z79_ok N) (all_cons (Z80_ok N) (all_nil)))
theorem E_run_Run_Tok (N : Nat) : TabOK Try.prog (E_run_Run_T N) := TabOK.cons (E_run_all_ok N) (TabOK.nil)
theorem Z76_ok (N : Nat) : VarOK Try.prog (E_run_Run_T N) Try.f6 (codeOf Try.f6) (Z76_W (Z76 N)) :=
  VarOK.of (E_run_Run_Tok N) (by kernel_rfl) ⟨[], [], [0]⟩ (Z76_F) N (fun _ => LStep.none) fun t u K => Z76_body N _ _ _ t u K
theorem Z77_ok (N : Nat) : VarOK Try.prog (E_run_Run_T N) Try.f6 (codeOf Try.f6) (Z77_W (Z77 N)) :=
  VarOK.of (E_run_Run_Tok N) (by kernel_rfl) ⟨[], [], [0, 1, 2, 3]⟩ (Z77_F) N (fun _ => LStep.none) fun t u K => Z77_body N _ _ _ t u K
theorem E_run_Run_ok (N : Nat) : EntOK Try.prog 6 (E_run_Run N) := EntOK.vars (E_run_Run_Tok N) Try.func6 (by kernel_rfl) (by kernel_rfl) (all_cons (Z76_ok N) (all_cons (Z77_ok N) (all_nil)))
theorem E_run_Steps_Tok (N : Nat) : TabOK Try.prog (E_run_Steps_T N) := TabOK.cons (E_run_all_ok N) (TabOK.nil)
theorem Z78_ok (N : Nat) : VarOK Try.prog (E_run_Steps_T N) Try.f7 (codeOf Try.f7) (Z78_W (Z78 N)) :=
  VarOK.of (E_run_Steps_Tok N) (by kernel_rfl) ⟨[], [], [0]⟩ (Z78_F) N (fun _ => LStep.none) fun t u K => Z78_body N _ _ _ t u K
theorem E_run_Steps_ok (N : Nat) : EntOK Try.prog 7 (E_run_Steps N) := EntOK.vars (E_run_Steps_Tok N) Try.func7 (by kernel_rfl) (by kernel_rfl) (all_cons (Z78_ok N) (all_nil))
theorem E_Z73_Tok (N : Nat) : TabOK Try.prog (E_Z73_T N) := TabOK.cons (E_run_Steps_ok N) (TabOK.cons (E_run_Run_ok N) (TabOK.nil))
theorem Z73_ok (N : Nat) : VarOK Try.prog (E_Z73_T N) Try.f5 (codeOf Try.f5) (Z73_W (Z73 N)) :=
  VarOK.of (E_Z73_Tok N) (by kernel_rfl) pn (Z73_F) N (fun _ => LStep.none) fun t u K => Z73_body N _ _ _ _ t u K
theorem E_Z73_ok (N : Nat) : EntOK Try.prog 5 (E_Z73 N) := EntOK.vars (E_Z73_Tok N) Try.func5 (by kernel_rfl) (by kernel_rfl) (all_cons (Z73_ok N) (all_nil))
theorem E_Z72_Tok (N : Nat) : TabOK Try.prog (E_Z72_T N) := TabOK.cons (E_run_Run_ok N) (TabOK.cons (E_Z73_ok N) (TabOK.nil))
theorem Z72_ok (N : Nat) : VarOK Try.prog (E_Z72_T N) Try.f3 (codeOf Try.f3) (Z72_W (Z72 N)) :=
  VarOK.of (E_Z72_Tok N) (by kernel_rfl) pn (Z72_F (@Z72_l0 N) (@Z72_l1 N)) N (fun _ => LStep.pick (all_cons ⟨.inl fun _ _ _ => rfl, fun n t u K => Z72_v0_0_round N _ _ _ _ _ _ n t u K⟩ (all_nil)) (LStep.pick (all_cons ⟨.inl fun _ _ _ => rfl, fun n t u K => Z72_v1_0_round N _ _ _ _ _ _ n t u K⟩ (all_nil)) (LStep.none))) fun t u K => Z72_body N _ _ _ _ _ _ t u K
theorem E_Z72_ok (N : Nat) : EntOK Try.prog 3 (E_Z72 N) := EntOK.vars (E_Z72_Tok N) Try.func3 (by kernel_rfl) (by kernel_rfl) (all_cons (Z72_ok N) (all_nil))
end Go.Proofs.Ythdgncnbnallcaa
