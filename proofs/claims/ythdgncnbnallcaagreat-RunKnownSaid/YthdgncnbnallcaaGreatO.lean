/-
  Each entry is borne out (printed by a program of this work).
-/
import Derived.Test.YthdgncnbnallcaaGreatX
import Derived.Test.YthdgncnbnallcaaGreatQ0
import Derived.Test.YthdgncnbnallcaaGreatQ1
import Derived.Test.YthdgncnbnallcaaGreatQ2
import Derived.Test.YthdgncnbnallcaaGreatQ3
set_option linter.unusedVariables false
set_option maxRecDepth 100000
namespace Go.Proofs.YthdgncnbnallcaaGreat
open Go.Gx
theorem E_Z109_Tok (N : Nat) : TabOK Tryz.prog (E_Z109_T N) := TabOK.cons E_stringslite_IndexByte_ok (TabOK.nil)
theorem Z109_ok (N : Nat) : VarOK Tryz.prog (E_Z109_T N) Tryz.f143 (codeOf Tryz.f143) (Z109_W (Z109 N)) :=
  VarOK.of (E_Z109_Tok N) (by kernel_rfl) pn (Z109_F) N (fun _ => LStep.none) fun t u K => Z109_body N _ _ t u K
theorem E_Z109_ok (N : Nat) : EntOK Tryz.prog 143 (E_Z109 N) := EntOK.vars (E_Z109_Tok N) Tryz.func143 (by kernel_rfl) (by kernel_rfl) (all_cons (Z109_ok N) (all_nil))
theorem E_Z108_Tok (N : Nat) : TabOK Tryz.prog (E_Z108_T N) := TabOK.cons (E_Z109_ok N) (TabOK.nil)
theorem Z108_ok (N : Nat) : VarOK Tryz.prog (E_Z108_T N) Tryz.f131 (codeOf Tryz.f131) (Z108_W (Z108 N)) :=
  VarOK.of (E_Z108_Tok N) (by kernel_rfl) pn (Z108_F) N (fun _ => LStep.none) fun t u K => Z108_body N _ _ t u K
theorem E_Z108_ok (N : Nat) : EntOK Tryz.prog 131 (E_Z108 N) := EntOK.vars (E_Z108_Tok N) Tryz.func131 (by kernel_rfl) (by kernel_rfl) (all_cons (Z108_ok N) (all_nil))
theorem E_Z107_Tok (N : Nat) : TabOK Tryz.prog (E_Z107_T N) := TabOK.cons (E_Z108_ok N) (TabOK.nil)
theorem Z107_ok (N : Nat) : VarOK Tryz.prog (E_Z107_T N) Tryz.f106 (codeOf Tryz.f106) (Z107_W (Z107 N)) :=
  VarOK.of (E_Z107_Tok N) (by kernel_rfl) pn (Z107_F) N (fun _ => LStep.none) fun t u K => Z107_body N _ _ t u K
theorem E_Z107_ok (N : Nat) : EntOK Tryz.prog 106 (E_Z107 N) := EntOK.vars (E_Z107_Tok N) Tryz.func106 (by kernel_rfl) (by kernel_rfl) (all_cons (Z107_ok N) (all_nil))
theorem E_Z6_Tok (N : Nat) : TabOK Tryz.prog (E_Z6_T N) := TabOK.nil
theorem Z6_ok (N : Nat) : VarOK Tryz.prog (E_Z6_T N) Tryz.f132 (codeOf Tryz.f132) (Z6_W (Z6 N)) :=
  VarOK.of (E_Z6_Tok N) (by kernel_rfl) pn (Z6_F) N (fun _ => LStep.none) fun t u K => Z6_body N _ t u K
theorem E_Z6_ok (N : Nat) : EntOK Tryz.prog 132 (E_Z6 N) := EntOK.vars (E_Z6_Tok N) Tryz.func132 (by kernel_rfl) (by kernel_rfl) (all_cons (Z6_ok N) (all_nil))
theorem E_Z12_Tok (N : Nat) : TabOK Tryz.prog (E_Z12_T N) := TabOK.cons (E_Z6_ok N) (TabOK.nil)
theorem Z12_ok (N : Nat) : VarOK Tryz.prog (E_Z12_T N) Tryz.f107 (codeOf Tryz.f107) (Z12_W (Z12 N)) :=
  VarOK.of (E_Z12_Tok N) (by kernel_rfl) pn (Z12_F (@Z12_l0 N)) N (fun _ => LStep.pick (all_cons ⟨.inl fun _ _ _ => rfl, fun n t u K => Z12_v0_0_round N _ _ _ n t u K⟩ (all_nil)) (LStep.none)) fun t u K => Z12_body N _ _ _ t u K
theorem E_Z12_ok (N : Nat) : EntOK Tryz.prog 107 (E_Z12 N) := EntOK.vars (E_Z12_Tok N) Tryz.func107 (by kernel_rfl) (by kernel_rfl) (all_cons (Z12_ok N) (all_nil))
theorem E_Z0_Tok (N : Nat) : TabOK Tryz.prog (E_Z0_T N) := TabOK.cons (E_Z12_ok N) (TabOK.cons (E_Z107_ok N) (TabOK.nil))
theorem Z0_ok (N : Nat) : VarOK Tryz.prog (E_Z0_T N) Tryz.f67 (codeOf Tryz.f67) (Z0_W (Z0 N)) :=
  VarOK.of (E_Z0_Tok N) (by kernel_rfl) pn (Z0_F) N (fun _ => LStep.none) fun t u K => Z0_body N _ _ _ t u K
theorem E_Z0_ok (N : Nat) : EntOK Tryz.prog 67 (E_Z0 N) := EntOK.vars (E_Z0_Tok N) Tryz.func67 (by kernel_rfl) (by kernel_rfl) (all_cons (Z0_ok N) (all_nil))
theorem E_Z44_Tok (N : Nat) : TabOK Tryz.prog (E_Z44_T N) := TabOK.nil
theorem Z44_ok (N : Nat) : VarOK Tryz.prog (E_Z44_T N) Tryz.f75 (codeOf Tryz.f75) (Z44_W (Z44 N)) :=
  VarOK.of (E_Z44_Tok N) (by kernel_rfl) pn (Z44_F) N (fun _ => LStep.none) fun t u K => Z44_body N _ t u K
theorem E_Z44_ok (N : Nat) : EntOK Tryz.prog 75 (E_Z44 N) := EntOK.vars (E_Z44_Tok N) Tryz.func75 (by kernel_rfl) (by kernel_rfl) (all_cons (Z44_ok N) (all_nil))
theorem E_Z42_Tok (N : Nat) : TabOK Tryz.prog (E_Z42_T N) := TabOK.cons (E_Z44_ok N) (TabOK.nil)
theorem Z42_ok (N : Nat) : VarOK Tryz.prog (E_Z42_T N) Tryz.f108 (codeOf Tryz.f108) (Z42_W (Z42 N)) :=
  VarOK.of (E_Z42_Tok N) (by kernel_rfl) pn (Z42_F) N (fun _ => LStep.none) fun t u K => Z42_body N _ _ t u K
theorem E_Z42_ok (N : Nat) : EntOK Tryz.prog 108 (E_Z42 N) := EntOK.vars (E_Z42_Tok N) Tryz.func108 (by kernel_rfl) (by kernel_rfl) (all_cons (Z42_ok N) (all_nil))
theorem E_Z7_Tok (N : Nat) : TabOK Tryz.prog (E_Z7_T N) := TabOK.nil
theorem Z7_ok (N : Nat) : VarOK Tryz.prog (E_Z7_T N) Tryz.f109 (codeOf Tryz.f109) (Z7_W (Z7 N)) :=
  VarOK.of (E_Z7_Tok N) (by kernel_rfl) pn (Z7_F) N (fun _ => LStep.none) fun t u K => Z7_body N _ t u K
theorem E_Z7_ok (N : Nat) : EntOK Tryz.prog 109 (E_Z7 N) := EntOK.vars (E_Z7_Tok N) Tryz.func109 (by kernel_rfl) (by kernel_rfl) (all_cons (Z7_ok N) (all_nil))
theorem E_Z41_Tok (N : Nat) : TabOK Tryz.prog (E_Z41_T N) := TabOK.nil
theorem Z41_ok (N : Nat) : VarOK Tryz.prog (E_Z41_T N) Tryz.f110 (codeOf Tryz.f110) (Z41_W (Z41 N)) :=
  VarOK.of (E_Z41_Tok N) (by kernel_rfl) pn (Z41_F) N (fun _ => LStep.none) fun t u K => Z41_body N _ t u K
theorem E_Z41_ok (N : Nat) : EntOK Tryz.prog 110 (E_Z41 N) := EntOK.vars (E_Z41_Tok N) Tryz.func110 (by kernel_rfl) (by kernel_rfl) (all_cons (Z41_ok N) (all_nil))
theorem E_Z38_Tok (N : Nat) : TabOK Tryz.prog (E_Z38_T N) := TabOK.nil
theorem Z38_ok (N : Nat) : VarOK Tryz.prog (E_Z38_T N) Tryz.f111 (codeOf Tryz.f111) (Z38_W (Z38 N)) :=
  VarOK.of (E_Z38_Tok N) (by kernel_rfl) pn (Z38_F) N (fun _ => LStep.none) fun t u K => Z38_body N _ t u K
theorem E_Z38_ok (N : Nat) : EntOK Tryz.prog 111 (E_Z38 N) := EntOK.vars (E_Z38_Tok N) Tryz.func111 (by kernel_rfl) (by kernel_rfl) (all_cons (Z38_ok N) (all_nil))
theorem E_Z10_Tok (N : Nat) : TabOK Tryz.prog (E_Z10_T N) := TabOK.cons (E_Z38_ok N) (TabOK.cons (E_Z41_ok N) (TabOK.cons (E_Z7_ok N) (TabOK.cons (E_Z42_ok N) (TabOK.nil))))
theorem Z11_ok (N : Nat) : VarOK Tryz.prog (E_Z10_T N) Tryz.f68 (codeOf Tryz.f68) (Z11_W (Z11 N)) :=
  VarOK.of (E_Z10_Tok N) (by kernel_rfl) ⟨[], [], [0, 1]⟩ (Z11_F) N (fun _ => LStep.none) fun t u K => Z11_body N _ _ _ _ _ t u K
theorem Z10_ok (N : Nat) : VarOK Tryz.prog (E_Z10_T N) Tryz.f68 (codeOf Tryz.f68) (Z10_W (Z10 N)) :=
  VarOK.of (E_Z10_Tok N) (by kernel_rfl) pn (Z10_F) N (fun _ => LStep.none) fun t u K => Z10_body N _ _ _ _ _ t u K
theorem E_Z10_ok (N : Nat) : EntOK Tryz.prog 68 (E_Z10 N) := EntOK.vars (E_Z10_Tok N) Tryz.func68 (by kernel_rfl) (by kernel_rfl) (all_cons (Z11_ok N) (all_cons (Z10_ok N) (all_nil)))
theorem E_Z43_Tok (N : Nat) : TabOK Tryz.prog (E_Z43_T N) := TabOK.cons (E_Z44_ok N) (TabOK.nil)
theorem Z43_ok (N : Nat) : VarOK Tryz.prog (E_Z43_T N) Tryz.f46 (codeOf Tryz.f46) (Z43_W (Z43 N)) :=
  VarOK.of (E_Z43_Tok N) (by kernel_rfl) pn (Z43_F) N (fun _ => LStep.none) fun t u K => Z43_body N _ _ t u K
theorem E_Z43_ok (N : Nat) : EntOK Tryz.prog 46 (E_Z43 N) := EntOK.vars (E_Z43_Tok N) Tryz.func46 (by kernel_rfl) (by kernel_rfl) (all_cons (Z43_ok N) (all_nil))
theorem E_Z40_Tok (N : Nat) : TabOK Tryz.prog (E_Z40_T N) := TabOK.cons (E_Z44_ok N) (TabOK.nil)
theorem Z40_ok (N : Nat) : VarOK Tryz.prog (E_Z40_T N) Tryz.f133 (codeOf Tryz.f133) (Z40_W (Z40 N)) :=
  VarOK.of (E_Z40_Tok N) (by kernel_rfl) pn (Z40_F) N (fun _ => LStep.none) fun t u K => Z40_body N _ _ t u K
theorem E_Z40_ok (N : Nat) : EntOK Tryz.prog 133 (E_Z40 N) := EntOK.vars (E_Z40_Tok N) Tryz.func133 (by kernel_rfl) (by kernel_rfl) (all_cons (Z40_ok N) (all_nil))
theorem E_Z3_Tok (N : Nat) : TabOK Tryz.prog (E_Z3_T N) := TabOK.cons (E_Z40_ok N) (TabOK.cons (E_Z43_ok N) (TabOK.nil))
theorem Z3_ok (N : Nat) : VarOK Tryz.prog (E_Z3_T N) Tryz.f112 (codeOf Tryz.f112) (Z3_W (Z3 N)) :=
  VarOK.of (E_Z3_Tok N) (by kernel_rfl) pn (Z3_F) N (fun _ => LStep.none) fun t u K => Z3_body N _ _ _ t u K
theorem E_Z3_ok (N : Nat) : EntOK Tryz.prog 112 (E_Z3 N) := EntOK.vars (E_Z3_Tok N) Tryz.func112 (by kernel_rfl) (by kernel_rfl) (all_cons (Z3_ok N) (all_nil))
theorem E_Z8_Tok (N : Nat) : TabOK Tryz.prog (E_Z8_T N) := TabOK.cons (E_Z41_ok N) (TabOK.cons (E_Z38_ok N) (TabOK.nil))
theorem Z9_ok (N : Nat) : VarOK Tryz.prog (E_Z8_T N) Tryz.f113 (codeOf Tryz.f113) (Z9_W (Z9 N)) :=
  VarOK.of (E_Z8_Tok N) (by kernel_rfl) ⟨[], [(0, false, (.int .i64))], [0, 1]⟩ (Z9_F) N (fun _ => LStep.none) fun t u K => Z9_body N _ _ _ t u K
theorem Z8_ok (N : Nat) : VarOK Tryz.prog (E_Z8_T N) Tryz.f113 (codeOf Tryz.f113) (Z8_W (Z8 N)) :=
  VarOK.of (E_Z8_Tok N) (by kernel_rfl) ⟨[], [(0, false, (.int .i64))], []⟩ (Z8_F) N (fun _ => LStep.none) fun t u K => Z8_body N _ _ _ t u K
theorem E_Z8_ok (N : Nat) : EntOK Tryz.prog 113 (E_Z8 N) := EntOK.vars (E_Z8_Tok N) Tryz.func113 (by kernel_rfl) (by kernel_rfl) (all_cons (Z9_ok N) (all_cons (Z8_ok N) (all_nil)))
theorem E_Z13_Tok (N : Nat) : TabOK Tryz.prog (E_Z13_T N) := TabOK.cons (E_Z8_ok N) (TabOK.cons (E_Z3_ok N) (TabOK.nil))
theorem Z14_ok (N : Nat) : VarOK Tryz.prog (E_Z13_T N) Tryz.f69 (codeOf Tryz.f69) (Z14_W (Z14 N)) :=
  VarOK.of (E_Z13_Tok N) (by kernel_rfl) ⟨[], [], [0, 1]⟩ (Z14_F (@Z14_l0 N) (@Z14_l1 N) (@Z14_l2 N) (@Z14_l3 N)) N (fun _ => LStep.pick (all_cons ⟨.inl fun _ _ _ => rfl, fun n t u K => Z14_v0_0_round N _ _ _ _ _ _ _ _ n t u K⟩ (all_nil)) (LStep.pick (all_cons ⟨.inl fun _ _ _ => rfl, fun n t u K => Z14_v1_0_round N _ _ _ _ _ _ _ _ n t u K⟩ (all_nil)) (LStep.pick (all_cons ⟨.inl fun _ _ _ => rfl, fun n t u K => Z14_v2_0_round N _ _ _ _ _ _ _ _ n t u K⟩ (all_nil)) (LStep.pick (all_cons ⟨.inl fun _ _ _ => rfl, fun n t u K => Z14_v3_0_round N _ _ _ _ _ _ _ _ n t u K⟩ (all_nil)) (LStep.none))))) fun t u K => Z14_body N _ _ _ _ _ _ _ _ t u K
theorem Z13_ok (N : Nat) : VarOK Tryz.prog (E_Z13_T N) Tryz.f69 (codeOf Tryz.f69) (Z13_W (Z13 N)) :=
  VarOK.of (E_Z13_Tok N) (by kernel_rfl) pn (Z13_F (@Z13_l0 N) (@Z13_l1 N) (@Z13_l2 N) (@Z13_l3 N)) N (fun _ => LStep.pick (all_cons ⟨.inl fun _ _ _ => rfl, fun n t u K => Z13_v0_0_round N _ _ _ _ _ _ _ _ n t u K⟩ (all_nil)) (LStep.pick (all_cons ⟨.inl fun _ _ _ => rfl, fun n t u K => Z13_v1_0_round N _ _ _ _ _ _ _ _ n t u K⟩ (all_nil)) (LStep.pick (all_cons ⟨.inl fun _ _ _ => rfl, fun n t u K => Z13_v2_0_round N _ _ _ _ _ _ _ _ n t u K⟩ (all_nil)) (LStep.pick (all_cons ⟨.inl fun _ _ _ => rfl, fun n t u K => Z13_v3_0_round N _ _ _ _ _ _ _ _ n t u K⟩ (all_nil)) (LStep.none))))) fun t u K => Z13_body N _ _ _ _ _ _ _ _ t u K
theorem E_Z13_ok (N : Nat) : EntOK Tryz.prog 69 (E_Z13 N) := EntOK.vars (E_Z13_Tok N) Tryz.func69 (by kernel_rfl) (by kernel_rfl) (all_cons (Z14_ok N) (all_cons (Z13_ok N) (all_nil)))
theorem E_check_height_Tok (N : Nat) : TabOK Tryz.prog (E_check_height_T N) := TabOK.cons (E_Z3_ok N) (TabOK.nil)
theorem Z4_ok (N : Nat) : VarOK Tryz.prog (E_check_height_T N) Tryz.f70 (codeOf Tryz.f70) (Z4_W (Z4 N)) :=
  VarOK.of (E_check_height_Tok N) (by kernel_rfl) ⟨[], [], [0, 1]⟩ (Z4_F (@Z4_l0 N)) N (fun _ => LStep.pick (all_cons ⟨.inl fun _ _ _ => rfl, fun n t u K => Z4_v0_0_round N _ _ _ n t u K⟩ (all_nil)) (LStep.none)) fun t u K => Z4_body N _ _ _ t u K
theorem Z5_ok (N : Nat) : VarOK Tryz.prog (E_check_height_T N) Tryz.f70 (codeOf Tryz.f70) (Z5_W (Z5 N)) :=
  VarOK.of (E_check_height_Tok N) (by kernel_rfl) pn (Z5_F (@Z5_l0 N)) N (fun _ => LStep.pick (all_cons ⟨.inl fun _ _ _ => rfl, fun n t u K => Z5_v0_0_round N _ _ _ n t u K⟩ (all_nil)) (LStep.none)) fun t u K => Z5_body N _ _ _ t u K
theorem E_check_height_ok (N : Nat) : EntOK Tryz.prog 70 (E_check_height N) := EntOK.vars (E_check_height_Tok N) Tryz.func70 (by kernel_rfl) (by kernel_rfl) (all_cons (Z4_ok N) (all_cons (Z5_ok N) (all_nil)))
theorem E_Z1_Tok (N : Nat) : TabOK Tryz.prog (E_Z1_T N) := TabOK.cons (E_check_height_ok N) (TabOK.cons (E_Z13_ok N) (TabOK.cons (E_Z10_ok N) (TabOK.cons (E_Z0_ok N) (TabOK.nil))))
theorem Z2_ok (N : Nat) : VarOK Tryz.prog (E_Z1_T N) Tryz.f39 (codeOf Tryz.f39) (Z2_W (Z2 N)) :=
  VarOK.of (E_Z1_Tok N) (by kernel_rfl) ⟨[], [], [0, 1]⟩ (Z2_F (@Z2_l0 N) (@Z2_l1 N) (@Z2_l2 N)) N (fun _ => LStep.pick (all_cons ⟨.inl fun _ _ _ => rfl, fun n t u K => Z2_v0_0_round N _ _ _ _ _ _ _ _ _ _ _ n t u K⟩ (all_nil)) (LStep.pick (all_cons ⟨.inl fun _ _ _ => rfl, fun n t u K => Z2_v1_0_round N _ _ _ _ _ _ _ _ _ _ _ n t u K⟩ (all_nil)) (LStep.pick (all_cons ⟨.inl fun _ _ _ => rfl, fun n t u K => Z2_v2_0_round N _ _ _ _ _ _ _ _ _ _ _ n t u K⟩ (all_nil)) (LStep.none)))) fun t u K => Z2_body N _ _ _ _ _ _ _ _ _ _ _ t u K
theorem Z1_ok (N : Nat) : VarOK Tryz.prog (E_Z1_T N) Tryz.f39 (codeOf Tryz.f39) (Z1_W (Z1 N)) :=
  VarOK.of (E_Z1_Tok N) (by kernel_rfl) pn (Z1_F (@Z1_l0 N) (@Z1_l1 N) (@Z1_l2 N)) N (fun _ => LStep.pick (all_cons ⟨.inl fun _ _ _ => rfl, fun n t u K => Z1_v0_0_round N _ _ _ _ _ _ _ _ _ _ _ n t u K⟩ (all_nil)) (LStep.pick (all_cons ⟨.inl fun _ _ _ => rfl, fun n t u K => Z1_v1_0_round N _ _ _ _ _ _ _ _ _ _ _ n t u K⟩ (all_nil)) (LStep.pick (all_cons ⟨.inl fun _ _ _ => rfl, fun n t u K => Z1_v2_0_round N _ _ _ _ _ _ _ _ _ _ _ n t u K⟩ (all_nil)) (LStep.none)))) fun t u K => Z1_body N _ _ _ _ _ _ _ _ _ _ _ t u K
theorem E_Z1_ok (N : Nat) : EntOK Tryz.prog 39 (E_Z1 N) := EntOK.vars (E_Z1_Tok N) Tryz.func39 (by kernel_rfl) (by kernel_rfl) (all_cons (Z2_ok N) (all_cons (Z1_ok N) (all_nil)))
theorem E_Z97_Tok (N : Nat) : TabOK Tryz.prog (E_Z97_T N) := TabOK.nil
theorem Z97_ok (N : Nat) : VarOK Tryz.prog (E_Z97_T N) Tryz.f42 (codeOf Tryz.f42) (Z97_W (Z97 N)) :=
  VarOK.of (E_Z97_Tok N) (by kernel_rfl) pn (Z97_F) N (fun _ => LStep.none) fun t u K => Z97_body N _ t u K
theorem E_Z97_ok (N : Nat) : EntOK Tryz.prog 42 (E_Z97 N) := EntOK.vars (E_Z97_Tok N) Tryz.func42 (by kernel_rfl) (by kernel_rfl) (all_cons (Z97_ok N) (all_nil))
theorem E_slices_IndexFunc___byte__byte_Tok (N : Nat) : TabOK Tryz.prog (E_slices_IndexFunc___byte__byte_T N) := TabOK.cons (E_Z97_ok N) (TabOK.nil)
theorem Z105_ok (N : Nat) : VarOK Tryz.prog (E_slices_IndexFunc___byte__byte_T N) Tryz.f73 (codeOf Tryz.f73) (Z105_W (Z105 N)) :=
  VarOK.of (E_slices_IndexFunc___byte__byte_Tok N) (by kernel_rfl) ⟨[], [], [0]⟩ (Z105_F (@Z105_l0 N)) N (fun _ => LStep.pick (all_cons ⟨.inl fun _ _ _ => rfl, fun n t u K => Z105_v0_0_round N _ _ _ n t u K⟩ (all_nil)) (LStep.none)) fun t u K => Z105_body N _ _ _ t u K
theorem E_slices_IndexFunc___byte__byte_ok (N : Nat) : EntOK Tryz.prog 73 (E_slices_IndexFunc___byte__byte N) := EntOK.vars (E_slices_IndexFunc___byte__byte_Tok N) Tryz.func73 (by kernel_rfl) (by kernel_rfl) (all_cons (Z105_ok N) (all_nil))
theorem E_slices_ContainsFunc___byte__byte_Tok (N : Nat) : TabOK Tryz.prog (E_slices_ContainsFunc___byte__byte_T N) := TabOK.cons (E_slices_IndexFunc___byte__byte_ok N) (TabOK.nil)
theorem Z104_ok (N : Nat) : VarOK Tryz.prog (E_slices_ContainsFunc___byte__byte_T N) Tryz.f41 (codeOf Tryz.f41) (Z104_W (Z104 N)) :=
  VarOK.of (E_slices_ContainsFunc___byte__byte_Tok N) (by kernel_rfl) ⟨[], [], [0]⟩ (Z104_F) N (fun _ => LStep.none) fun t u K => Z104_body N _ _ t u K
theorem E_slices_ContainsFunc___byte__byte_ok (N : Nat) : EntOK Tryz.prog 41 (E_slices_ContainsFunc___byte__byte N) := EntOK.vars (E_slices_ContainsFunc___byte__byte_Tok N) Tryz.func41 (by kernel_rfl) (by kernel_rfl) (all_cons (Z104_ok N) (all_nil))
theorem E_fails_New_Tok (N : Nat) : TabOK Tryz.prog (E_fails_New_T N) := TabOK.cons E_slices_Clone__bool_bool_ok (TabOK.nil)
theorem Z16_ok (N : Nat) : VarOK Tryz.prog (E_fails_New_T N) Tryz.f43 (codeOf Tryz.f43) (Z16_W (Z16 N)) :=
  VarOK.of (E_fails_New_Tok N) (by kernel_rfl) ⟨[], [], [0]⟩ (Z16_F) N (fun _ => LStep.none) fun t u K => Z16_body N _ _ t u K
theorem E_fails_New_ok (N : Nat) : EntOK Tryz.prog 43 (E_fails_New N) := EntOK.vars (E_fails_New_Tok N) Tryz.func43 (by kernel_rfl) (by kernel_rfl) (all_cons (Z16_ok N) (all_nil))
theorem E_run_machine_end_Tok (N : Nat) : TabOK Tryz.prog (E_run_machine_end_T N) := TabOK.nil
theorem Z73_ok (N : Nat) : VarOK Tryz.prog (E_run_machine_end_T N) Tryz.f29 (codeOf Tryz.f29) (Z73_W (Z73 N)) :=
  VarOK.of (E_run_machine_end_Tok N) (by kernel_rfl) ⟨[], [], [1, 2, 3, 8, 10, 11, 12]⟩ (Z73_F) N (fun _ => LStep.none) fun t u K => Z73_body N _ t u K
theorem Z74_ok (N : Nat) : VarOK Tryz.prog (E_run_machine_end_T N) Tryz.f29 (codeOf Tryz.f29) (Z74_W (Z74 N)) :=
  VarOK.of (E_run_machine_end_Tok N) (by kernel_rfl) ⟨[], [], [1, 6, 8, 9, 10]⟩ (Z74_F) N (fun _ => LStep.none) fun t u K => Z74_body N _ t u K
theorem E_run_machine_end_ok (N : Nat) : EntOK Tryz.prog 29 (E_run_machine_end N) := EntOK.vars (E_run_machine_end_Tok N) Tryz.func29 (by kernel_rfl) (by kernel_rfl) (all_cons (Z73_ok N) (all_cons (Z74_ok N) (all_nil)))
theorem E_Z39_Tok (N : Nat) : TabOK Tryz.prog (E_Z39_T N) := TabOK.nil
theorem Z39_ok (N : Nat) : VarOK Tryz.prog (E_Z39_T N) Tryz.f44 (codeOf Tryz.f44) (Z39_W (Z39 N)) :=
  VarOK.of (E_Z39_Tok N) (by kernel_rfl) pn (Z39_F) N (fun _ => LStep.none) fun t u K => Z39_body N _ t u K
theorem E_Z39_ok (N : Nat) : EntOK Tryz.prog 44 (E_Z39 N) := EntOK.vars (E_Z39_Tok N) Tryz.func44 (by kernel_rfl) (by kernel_rfl) (all_cons (Z39_ok N) (all_nil))
theorem E_fails_Fails_Next_Tok (N : Nat) : TabOK Tryz.prog (E_fails_Fails_Next_T N) := TabOK.nil
theorem Z15_ok (N : Nat) : VarOK Tryz.prog (E_fails_Fails_Next_T N) Tryz.f45 (codeOf Tryz.f45) (Z15_W (Z15 N)) :=
  VarOK.of (E_fails_Fails_Next_Tok N) (by kernel_rfl) ⟨[], [], [1]⟩ (Z15_F) N (fun _ => LStep.none) fun t u K => Z15_body N _ t u K
theorem E_fails_Fails_Next_ok (N : Nat) : EntOK Tryz.prog 45 (E_fails_Fails_Next N) := EntOK.vars (E_fails_Fails_Next_Tok N) Tryz.func45 (by kernel_rfl) (by kernel_rfl) (all_cons (Z15_ok N) (all_nil))
theorem E_run_machine_push_Tok (N : Nat) : TabOK Tryz.prog (E_run_machine_push_T N) := TabOK.nil
theorem Z87_ok (N : Nat) : VarOK Tryz.prog (E_run_machine_push_T N) Tryz.f76 (codeOf Tryz.f76) (Z87_W (Z87 N)) :=
  VarOK.of (E_run_machine_push_Tok N) (by kernel_rfl) ⟨[], [], [1, 2, 8, 10, 11, 12]⟩ (Z87_F) N (fun _ => LStep.none) fun t u K => Z87_body N _ t u K
theorem Z85_ok (N : Nat) : VarOK Tryz.prog (E_run_machine_push_T N) Tryz.f76 (codeOf Tryz.f76) (Z85_W (Z85 N)) :=
  VarOK.of (E_run_machine_push_Tok N) (by kernel_rfl) ⟨[], [], [1, 2, 3, 8, 10, 11, 12]⟩ (Z85_F) N (fun _ => LStep.none) fun t u K => Z85_body N _ t u K
theorem Z86_ok (N : Nat) : VarOK Tryz.prog (E_run_machine_push_T N) Tryz.f76 (codeOf Tryz.f76) (Z86_W (Z86 N)) :=
  VarOK.of (E_run_machine_push_Tok N) (by kernel_rfl) ⟨[], [], [6, 8, 9, 10]⟩ (Z86_F) N (fun _ => LStep.none) fun t u K => Z86_body N _ t u K
theorem Z88_ok (N : Nat) : VarOK Tryz.prog (E_run_machine_push_T N) Tryz.f76 (codeOf Tryz.f76) (Z88_W (Z88 N)) :=
  VarOK.of (E_run_machine_push_Tok N) (by kernel_rfl) ⟨[], [], [1, 6, 8, 9, 10]⟩ (Z88_F) N (fun _ => LStep.none) fun t u K => Z88_body N _ t u K
theorem E_run_machine_push_ok (N : Nat) : EntOK Tryz.prog 76 (E_run_machine_push N) := EntOK.vars (E_run_machine_push_Tok N) Tryz.func76 (by kernel_rfl) (by kernel_rfl) (all_cons (Z87_ok N) (all_cons (Z85_ok N) (all_cons (Z86_ok N) (all_cons (Z88_ok N) (all_nil)))))
theorem E_run_machine_answer_Tok (N : Nat) : TabOK Tryz.prog (E_run_machine_answer_T N) := TabOK.cons (E_run_machine_push_ok N) (TabOK.nil)
theorem Z67_ok (N : Nat) : VarOK Tryz.prog (E_run_machine_answer_T N) Tryz.f47 (codeOf Tryz.f47) (Z67_W (Z67 N)) :=
  VarOK.of (E_run_machine_answer_Tok N) (by kernel_rfl) ⟨[], [], [1, 2, 8, 10, 11, 12]⟩ (Z67_F) N (fun _ => LStep.none) fun t u K => Z67_body N _ _ _ _ _ t u K
theorem Z65_ok (N : Nat) : VarOK Tryz.prog (E_run_machine_answer_T N) Tryz.f47 (codeOf Tryz.f47) (Z65_W (Z65 N)) :=
  VarOK.of (E_run_machine_answer_Tok N) (by kernel_rfl) ⟨[], [], [1, 2, 3, 8, 10, 11, 12]⟩ (Z65_F) N (fun _ => LStep.none) fun t u K => Z65_body N _ _ _ _ _ t u K
theorem Z66_ok (N : Nat) : VarOK Tryz.prog (E_run_machine_answer_T N) Tryz.f47 (codeOf Tryz.f47) (Z66_W (Z66 N)) :=
  VarOK.of (E_run_machine_answer_Tok N) (by kernel_rfl) ⟨[], [], [6, 8, 9, 10]⟩ (Z66_F) N (fun _ => LStep.none) fun t u K => Z66_body N _ _ _ _ _ t u K
theorem Z68_ok (N : Nat) : VarOK Tryz.prog (E_run_machine_answer_T N) Tryz.f47 (codeOf Tryz.f47) (Z68_W (Z68 N)) :=
  VarOK.of (E_run_machine_answer_Tok N) (by kernel_rfl) ⟨[], [], [1, 6, 8, 9, 10]⟩ (Z68_F) N (fun _ => LStep.none) fun t u K => Z68_body N _ _ _ _ _ t u K
theorem E_run_machine_answer_ok (N : Nat) : EntOK Tryz.prog 47 (E_run_machine_answer N) := EntOK.vars (E_run_machine_answer_Tok N) Tryz.func47 (by kernel_rfl) (by kernel_rfl) (all_cons (Z67_ok N) (all_cons (Z65_ok N) (all_cons (Z66_ok N) (all_cons (Z68_ok N) (all_nil)))))
theorem E_run_machine_pop_Tok (N : Nat) : TabOK Tryz.prog (E_run_machine_pop_T N) := TabOK.nil
theorem Z84_ok (N : Nat) : VarOK Tryz.prog (E_run_machine_pop_T N) Tryz.f77 (codeOf Tryz.f77) (Z84_W (Z84 N)) :=
  VarOK.of (E_run_machine_pop_Tok N) (by kernel_rfl) ⟨[], [], [1, 2, 3, 8, 10, 11, 12]⟩ (Z84_F) N (fun _ => LStep.none) fun t u K => Z84_body N _ t u K
theorem Z83_ok (N : Nat) : VarOK Tryz.prog (E_run_machine_pop_T N) Tryz.f77 (codeOf Tryz.f77) (Z83_W (Z83 N)) :=
  VarOK.of (E_run_machine_pop_Tok N) (by kernel_rfl) ⟨[], [], [1, 6, 8, 9, 10]⟩ (Z83_F) N (fun _ => LStep.none) fun t u K => Z83_body N _ t u K
theorem E_run_machine_pop_ok (N : Nat) : EntOK Tryz.prog 77 (E_run_machine_pop N) := EntOK.vars (E_run_machine_pop_Tok N) Tryz.func77 (by kernel_rfl) (by kernel_rfl) (all_cons (Z84_ok N) (all_cons (Z83_ok N) (all_nil)))
theorem E_Z102_Tok (N : Nat) : TabOK Tryz.prog (E_Z102_T N) := TabOK.nil
theorem Z102_ok (N : Nat) : VarOK Tryz.prog (E_Z102_T N) Tryz.f118 (codeOf Tryz.f118) (Z102_W (Z102 N)) :=
  VarOK.of (E_Z102_Tok N) (by kernel_rfl) pn (Z102_F) N (fun _ => LStep.none) fun t u K => Z102_body N _ t u K
theorem E_Z102_ok (N : Nat) : EntOK Tryz.prog 118 (E_Z102 N) := EntOK.vars (E_Z102_Tok N) Tryz.func118 (by kernel_rfl) (by kernel_rfl) (all_cons (Z102_ok N) (all_nil))
theorem E_Z64_Tok (N : Nat) : TabOK Tryz.prog (E_Z64_T N) := TabOK.cons (E_Z102_ok N) (TabOK.nil)
theorem Z64_ok (N : Nat) : VarOK Tryz.prog (E_Z64_T N) Tryz.f79 (codeOf Tryz.f79) (Z64_W (Z64 N)) :=
  VarOK.of (E_Z64_Tok N) (by kernel_rfl) pn (Z64_F) N (fun _ => LStep.none) fun t u K => Z64_body N _ _ t u K
theorem E_Z64_ok (N : Nat) : EntOK Tryz.prog 79 (E_Z64 N) := EntOK.vars (E_Z64_Tok N) Tryz.func79 (by kernel_rfl) (by kernel_rfl) (all_cons (Z64_ok N) (all_nil))
theorem E_Z123_Tok (N : Nat) : TabOK Tryz.prog (E_Z123_T N) := TabOK.nil
theorem Z123_ok (N : Nat) : VarOK Tryz.prog (E_Z123_T N) Tryz.f116 (codeOf Tryz.f116) (Z123_W (Z123 N)) :=
  VarOK.of (E_Z123_Tok N) (by kernel_rfl) pn (Z123_F) N (fun _ => LStep.none) fun t u K => Z123_body N _ t u K
theorem E_Z123_ok (N : Nat) : EntOK Tryz.prog 116 (E_Z123 N) := EntOK.vars (E_Z123_Tok N) Tryz.func116 (by kernel_rfl) (by kernel_rfl) (all_cons (Z123_ok N) (all_nil))
theorem E_Z122_Tok (N : Nat) : TabOK Tryz.prog (E_Z122_T N) := TabOK.cons (E_Z123_ok N) (TabOK.nil)
theorem Z122_ok (N : Nat) : VarOK Tryz.prog (E_Z122_T N) Tryz.f82 (codeOf Tryz.f82) (Z122_W (Z122 N)) :=
  VarOK.of (E_Z122_Tok N) (by kernel_rfl) pn (Z122_F) N (fun _ => LStep.none) fun t u K => Z122_body N _ _ t u K
theorem E_Z122_ok (N : Nat) : EntOK Tryz.prog 82 (E_Z122 N) := EntOK.vars (E_Z122_Tok N) Tryz.func82 (by kernel_rfl) (by kernel_rfl) (all_cons (Z122_ok N) (all_nil))
theorem E_Z124_Tok (N : Nat) : TabOK Tryz.prog (E_Z124_T N) := TabOK.cons (E_Z122_ok N) (TabOK.nil)
theorem Z124_ok (N : Nat) : VarOK Tryz.prog (E_Z124_T N) Tryz.f136 (codeOf Tryz.f136) (Z124_W (Z124 N)) :=
  VarOK.of (E_Z124_Tok N) (by kernel_rfl) pn (Z124_F) N (fun _ => LStep.none) fun t u K => Z124_body N _ _ t u K
theorem E_Z124_ok (N : Nat) : EntOK Tryz.prog 136 (E_Z124 N) := EntOK.vars (E_Z124_Tok N) Tryz.func136 (by kernel_rfl) (by kernel_rfl) (all_cons (Z124_ok N) (all_nil))
theorem E_Z126_Tok (N : Nat) : TabOK Tryz.prog (E_Z126_T N) := TabOK.nil
theorem Z126_ok (N : Nat) : VarOK Tryz.prog (E_Z126_T N) Tryz.f137 (codeOf Tryz.f137) (Z126_W (Z126 N)) :=
  VarOK.of (E_Z126_Tok N) (by kernel_rfl) pn (Z126_F) N (fun _ => LStep.none) fun t u K => Z126_body N _ t u K
theorem E_Z126_ok (N : Nat) : EntOK Tryz.prog 137 (E_Z126 N) := EntOK.vars (E_Z126_Tok N) Tryz.func137 (by kernel_rfl) (by kernel_rfl) (all_cons (Z126_ok N) (all_nil))
theorem E_Z127_Tok (N : Nat) : TabOK Tryz.prog (E_Z127_T N) := TabOK.nil
theorem Z127_ok (N : Nat) : VarOK Tryz.prog (E_Z127_T N) Tryz.f138 (codeOf Tryz.f138) (Z127_W (Z127 N)) :=
  VarOK.of (E_Z127_Tok N) (by kernel_rfl) pn (Z127_F) N (fun _ => LStep.none) fun t u K => Z127_body N _ t u K
theorem E_Z127_ok (N : Nat) : EntOK Tryz.prog 138 (E_Z127 N) := EntOK.vars (E_Z127_Tok N) Tryz.func138 (by kernel_rfl) (by kernel_rfl) (all_cons (Z127_ok N) (all_nil))
theorem E_Z125_Tok (N : Nat) : TabOK Tryz.prog (E_Z125_T N) := TabOK.cons (E_Z127_ok N) (TabOK.cons (E_Z126_ok N) (TabOK.cons (E_Z124_ok N) (TabOK.nil)))
theorem Z125_ok (N : Nat) : VarOK Tryz.prog (E_Z125_T N) Tryz.f117 (codeOf Tryz.f117) (Z125_W (Z125 N)) :=
  VarOK.of (E_Z125_Tok N) (by kernel_rfl) pn (Z125_F) N (fun _ => LStep.none) fun t u K => Z125_body N _ _ _ _ t u K
theorem E_Z125_ok (N : Nat) : EntOK Tryz.prog 117 (E_Z125 N) := EntOK.vars (E_Z125_Tok N) Tryz.func117 (by kernel_rfl) (by kernel_rfl) (all_cons (Z125_ok N) (all_nil))
theorem E_Z121_Tok (N : Nat) : TabOK Tryz.prog (E_Z121_T N) := TabOK.cons (E_Z125_ok N) (TabOK.cons (E_Z122_ok N) (TabOK.cons (E_Z123_ok N) (TabOK.nil)))
theorem Z121_ok (N : Nat) : VarOK Tryz.prog (E_Z121_T N) Tryz.f78 (codeOf Tryz.f78) (Z121_W (Z121 N)) :=
  VarOK.of (E_Z121_Tok N) (by kernel_rfl) pn (Z121_F) N (fun _ => LStep.none) fun t u K => Z121_body N _ _ _ _ t u K
theorem E_Z121_ok (N : Nat) : EntOK Tryz.prog 78 (E_Z121 N) := EntOK.vars (E_Z121_Tok N) Tryz.func78 (by kernel_rfl) (by kernel_rfl) (all_cons (Z121_ok N) (all_nil))
theorem E_run_machine_reckon_Tok (N : Nat) : TabOK Tryz.prog (E_run_machine_reckon_T N) := TabOK.cons (E_run_machine_push_ok N) (TabOK.cons (E_Z121_ok N) (TabOK.cons (E_Z64_ok N) (TabOK.cons (E_run_machine_end_ok N) (TabOK.cons (E_run_machine_pop_ok N) (TabOK.nil)))))
theorem Z91_ok (N : Nat) : VarOK Tryz.prog (E_run_machine_reckon_T N) Tryz.f48 (codeOf Tryz.f48) (Z91_W (Z91 N)) :=
  VarOK.of (E_run_machine_reckon_Tok N) (by kernel_rfl) ⟨[], [], [1, 2, 3, 8, 10, 11, 12]⟩ (Z91_F) N (fun _ => LStep.none) fun t u K => Z91_body N _ _ _ _ _ _ _ _ _ _ _ t u K
theorem Z92_ok (N : Nat) : VarOK Tryz.prog (E_run_machine_reckon_T N) Tryz.f48 (codeOf Tryz.f48) (Z92_W (Z92 N)) :=
  VarOK.of (E_run_machine_reckon_Tok N) (by kernel_rfl) ⟨[], [], [1, 6, 8, 9, 10]⟩ (Z92_F) N (fun _ => LStep.none) fun t u K => Z92_body N _ _ _ _ _ _ _ _ _ _ _ t u K
theorem E_run_machine_reckon_ok (N : Nat) : EntOK Tryz.prog 48 (E_run_machine_reckon N) := EntOK.vars (E_run_machine_reckon_Tok N) Tryz.func48 (by kernel_rfl) (by kernel_rfl) (all_cons (Z91_ok N) (all_cons (Z92_ok N) (all_nil)))
theorem E_Z103_Tok (N : Nat) : TabOK Tryz.prog (E_Z103_T N) := TabOK.nil
theorem Z103_ok (N : Nat) : VarOK Tryz.prog (E_Z103_T N) Tryz.f80 (codeOf Tryz.f80) (Z103_W (Z103 N)) :=
  VarOK.of (E_Z103_Tok N) (by kernel_rfl) pn (Z103_F) N (fun _ => LStep.none) fun t u K => Z103_body N _ t u K
theorem E_Z103_ok (N : Nat) : EntOK Tryz.prog 80 (E_Z103 N) := EntOK.vars (E_Z103_Tok N) Tryz.func80 (by kernel_rfl) (by kernel_rfl) (all_cons (Z103_ok N) (all_nil))
theorem E_run_machine_memory_Tok (N : Nat) : TabOK Tryz.prog (E_run_machine_memory_T N) := TabOK.cons (E_run_machine_push_ok N) (TabOK.cons (E_run_machine_end_ok N) (TabOK.cons (E_run_machine_pop_ok N) (TabOK.nil)))
theorem Z75_ok (N : Nat) : VarOK Tryz.prog (E_run_machine_memory_T N) Tryz.f81 (codeOf Tryz.f81) (Z75_W (Z75 N)) :=
  VarOK.of (E_run_machine_memory_Tok N) (by kernel_rfl) ⟨[], [], [1, 2, 3, 8, 10, 11, 12]⟩ (Z75_F) N (fun _ => LStep.none) fun t u K => Z75_body N _ _ _ _ _ _ _ _ _ t u K
theorem Z76_ok (N : Nat) : VarOK Tryz.prog (E_run_machine_memory_T N) Tryz.f81 (codeOf Tryz.f81) (Z76_W (Z76 N)) :=
  VarOK.of (E_run_machine_memory_Tok N) (by kernel_rfl) ⟨[], [], [1, 6, 8, 9, 10]⟩ (Z76_F) N (fun _ => LStep.none) fun t u K => Z76_body N _ _ _ _ _ _ _ _ _ t u K
theorem E_run_machine_memory_ok (N : Nat) : EntOK Tryz.prog 81 (E_run_machine_memory N) := EntOK.vars (E_run_machine_memory_Tok N) Tryz.func81 (by kernel_rfl) (by kernel_rfl) (all_cons (Z75_ok N) (all_cons (Z76_ok N) (all_nil)))
theorem E_run_machine_plain_Tok (N : Nat) : TabOK Tryz.prog (E_run_machine_plain_T N) := TabOK.cons (E_run_machine_end_ok N) (TabOK.cons (E_Z122_ok N) (TabOK.cons (E_run_machine_memory_ok N) (TabOK.cons (E_Z103_ok N) (TabOK.cons (E_run_machine_pop_ok N) (TabOK.cons (E_run_machine_push_ok N) (TabOK.nil))))))
theorem Z82_ok (N : Nat) : VarOK Tryz.prog (E_run_machine_plain_T N) Tryz.f49 (codeOf Tryz.f49) (Z82_W (Z82 N)) :=
  VarOK.of (E_run_machine_plain_Tok N) (by kernel_rfl) ⟨[3, 12], [], [1, 2, 3, 8, 10, 11, 12]⟩ (Z82_F) N (fun _ => LStep.none) fun t u K => Z82_body N _ _ _ _ _ _ _ _ _ _ _ _ _ t u K
theorem Z81_ok (N : Nat) : VarOK Tryz.prog (E_run_machine_plain_T N) Tryz.f49 (codeOf Tryz.f49) (Z81_W (Z81 N)) :=
  VarOK.of (E_run_machine_plain_Tok N) (by kernel_rfl) ⟨[1, 10], [], [1, 6, 8, 9, 10]⟩ (Z81_F) N (fun _ => LStep.none) fun t u K => Z81_body N _ _ _ _ _ _ _ _ _ _ _ _ _ t u K
theorem E_run_machine_plain_ok (N : Nat) : EntOK Tryz.prog 49 (E_run_machine_plain N) := EntOK.vars (E_run_machine_plain_Tok N) Tryz.func49 (by kernel_rfl) (by kernel_rfl) (all_cons (Z82_ok N) (all_cons (Z81_ok N) (all_nil)))
theorem E_run_machine_name_Tok (N : Nat) : TabOK Tryz.prog (E_run_machine_name_T N) := TabOK.nil
theorem Z77_ok (N : Nat) : VarOK Tryz.prog (E_run_machine_name_T N) Tryz.f84 (codeOf Tryz.f84) (Z77_W (Z77 N)) :=
  VarOK.of (E_run_machine_name_Tok N) (by kernel_rfl) ⟨[], [], [1, 2, 3, 8, 10, 11, 12]⟩ (Z77_F) N (fun _ => LStep.none) fun t u K => Z77_body N _ t u K
theorem Z78_ok (N : Nat) : VarOK Tryz.prog (E_run_machine_name_T N) Tryz.f84 (codeOf Tryz.f84) (Z78_W (Z78 N)) :=
  VarOK.of (E_run_machine_name_Tok N) (by kernel_rfl) ⟨[], [], [1, 6, 8, 9, 10]⟩ (Z78_F) N (fun _ => LStep.none) fun t u K => Z78_body N _ t u K
theorem E_run_machine_name_ok (N : Nat) : EntOK Tryz.prog 84 (E_run_machine_name N) := EntOK.vars (E_run_machine_name_Tok N) Tryz.func84 (by kernel_rfl) (by kernel_rfl) (all_cons (Z77_ok N) (all_cons (Z78_ok N) (all_nil)))
theorem E_Z50_Tok (N : Nat) : TabOK Tryz.prog (E_Z50_T N) := TabOK.cons (E_Z0_ok N) (TabOK.nil)
theorem Z50_ok (N : Nat) : VarOK Tryz.prog (E_Z50_T N) Tryz.f114 (codeOf Tryz.f114) (Z50_W (Z50 N)) :=
  VarOK.of (E_Z50_Tok N) (by kernel_rfl) pn (Z50_F) N (fun _ => LStep.none) fun t u K => Z50_body N _ _ t u K
theorem E_Z50_ok (N : Nat) : EntOK Tryz.prog 114 (E_Z50 N) := EntOK.vars (E_Z50_Tok N) Tryz.func114 (by kernel_rfl) (by kernel_rfl) (all_cons (Z50_ok N) (all_nil))
theorem E_Z51_Tok (N : Nat) : TabOK Tryz.prog (E_Z51_T N) := TabOK.cons (E_Z107_ok N) (TabOK.cons (E_Z50_ok N) (TabOK.nil))
theorem Z51_ok (N : Nat) : VarOK Tryz.prog (E_Z51_T N) Tryz.f144 (codeOf Tryz.f144) (Z51_W (Z51 N)) :=
  VarOK.of (E_Z51_Tok N) (by kernel_rfl) pn (Z51_F) N (fun _ => LStep.none) fun t u K => Z51_body N _ _ _ t u K
theorem E_Z51_ok (N : Nat) : EntOK Tryz.prog 144 (E_Z51 N) := EntOK.vars (E_Z51_Tok N) Tryz.func144 (by kernel_rfl) (by kernel_rfl) (all_cons (Z51_ok N) (all_nil))
theorem E_Z120_Tok (N : Nat) : TabOK Tryz.prog (E_Z120_T N) := TabOK.cons (E_Z51_ok N) (TabOK.nil)
theorem Z120_ok (N : Nat) : VarOK Tryz.prog (E_Z120_T N) Tryz.f134 (codeOf Tryz.f134) (Z120_W (Z120 N)) :=
  VarOK.of (E_Z120_Tok N) (by kernel_rfl) pn (Z120_F) N (fun _ => LStep.none) fun t u K => Z120_body N _ _ t u K
theorem E_Z120_ok (N : Nat) : EntOK Tryz.prog 134 (E_Z120 N) := EntOK.vars (E_Z120_Tok N) Tryz.func134 (by kernel_rfl) (by kernel_rfl) (all_cons (Z120_ok N) (all_nil))
theorem E_tree_Tree_above_Tok (N : Nat) : TabOK Tryz.prog (E_tree_Tree_above_T N) := TabOK.nil
theorem Z118_ok (N : Nat) : VarOK Tryz.prog (E_tree_Tree_above_T N) Tryz.f135 (codeOf Tryz.f135) (Z118_W (Z118 N)) :=
  VarOK.of (E_tree_Tree_above_Tok N) (by kernel_rfl) pn (Z118_F) N (fun _ => LStep.none) fun t u K => Z118_body N _ t u K
theorem E_tree_Tree_above_ok (N : Nat) : EntOK Tryz.prog 135 (E_tree_Tree_above N) := EntOK.vars (E_tree_Tree_above_Tok N) Tryz.func135 (by kernel_rfl) (by kernel_rfl) (all_cons (Z118_ok N) (all_nil))
theorem E_tree_Tree_get_Tok (N : Nat) : TabOK Tryz.prog (E_tree_Tree_get_T N) := TabOK.cons (E_tree_Tree_above_ok N) (TabOK.cons (E_Z120_ok N) (TabOK.nil))
theorem Z119_ok (N : Nat) : VarOK Tryz.prog (E_tree_Tree_get_T N) Tryz.f139 (codeOf Tryz.f139) (Z119_W (Z119 N)) :=
  VarOK.of (E_tree_Tree_get_Tok N) (by kernel_rfl) pn (Z119_F) N (fun _ => LStep.none) fun t u K => Z119_body N _ _ _ t u K
theorem E_tree_Tree_get_ok (N : Nat) : EntOK Tryz.prog 139 (E_tree_Tree_get N) := EntOK.vars (E_tree_Tree_get_Tok N) Tryz.func139 (by kernel_rfl) (by kernel_rfl) (all_cons (Z119_ok N) (all_nil))
theorem E_tree_Tree_Find_Tok (N : Nat) : TabOK Tryz.prog (E_tree_Tree_Find_T N) := TabOK.cons (E_tree_Tree_get_ok N) (TabOK.nil)
theorem Z114_ok (N : Nat) : VarOK Tryz.prog (E_tree_Tree_Find_T N) Tryz.f119 (codeOf Tryz.f119) (Z114_W (Z114 N)) :=
  VarOK.of (E_tree_Tree_Find_Tok N) (by kernel_rfl) pn (Z114_F) N (fun _ => LStep.none) fun t u K => Z114_body N _ _ t u K
theorem E_tree_Tree_Find_ok (N : Nat) : EntOK Tryz.prog 119 (E_tree_Tree_Find N) := EntOK.vars (E_tree_Tree_Find_Tok N) Tryz.func119 (by kernel_rfl) (by kernel_rfl) (all_cons (Z114_ok N) (all_nil))
theorem E_slices_Index__int_int_Tok (N : Nat) : TabOK Tryz.prog (E_slices_Index__int_int_T N) := TabOK.nil
theorem Z106_ok (N : Nat) : VarOK Tryz.prog (E_slices_Index__int_int_T N) Tryz.f140 (codeOf Tryz.f140) (Z106_W (Z106 N)) :=
  VarOK.of (E_slices_Index__int_int_Tok N) (by kernel_rfl) ⟨[], [], [4]⟩ (Z106_F (@Z106_l0 N)) N (fun _ => LStep.pick (all_cons ⟨.inl fun _ _ _ => rfl, fun n t u K => Z106_v0_0_round N _ _ n t u K⟩ (all_nil)) (LStep.none)) fun t u K => Z106_body N _ _ t u K
theorem E_slices_Index__int_int_ok (N : Nat) : EntOK Tryz.prog 140 (E_slices_Index__int_int N) := EntOK.vars (E_slices_Index__int_int_Tok N) Tryz.func140 (by kernel_rfl) (by kernel_rfl) (all_cons (Z106_ok N) (all_nil))
theorem E_files_Files_free_Tok (N : Nat) : TabOK Tryz.prog (E_files_Files_free_T N) := TabOK.cons (E_slices_Index__int_int_ok N) (TabOK.nil)
theorem Z33_ok (N : Nat) : VarOK Tryz.prog (E_files_Files_free_T N) Tryz.f120 (codeOf Tryz.f120) (Z33_W (Z33 N)) :=
  VarOK.of (E_files_Files_free_Tok N) (by kernel_rfl) ⟨[], [], [4]⟩ (Z33_F) N (fun _ => LStep.none) fun t u K => Z33_body N _ _ t u K
theorem E_files_Files_free_ok (N : Nat) : EntOK Tryz.prog 120 (E_files_Files_free N) := EntOK.vars (E_files_Files_free_Tok N) Tryz.func120 (by kernel_rfl) (by kernel_rfl) (all_cons (Z33_ok N) (all_nil))
theorem E_tree_Tree_Copy_Tok (N : Nat) : TabOK Tryz.prog (E_tree_Tree_Copy_T N) := TabOK.cons E_maps_Clone_map_tree_keytree_entry_tree_key_tree_entry_ok (TabOK.nil)
theorem Z112_ok (N : Nat) : VarOK Tryz.prog (E_tree_Tree_Copy_T N) Tryz.f141 (codeOf Tryz.f141) (Z112_W (Z112 N)) :=
  VarOK.of (E_tree_Tree_Copy_Tok N) (by kernel_rfl) pn (Z112_F) N (fun _ => LStep.none) fun t u K => Z112_body N _ _ t u K
theorem E_tree_Tree_Copy_ok (N : Nat) : EntOK Tryz.prog 141 (E_tree_Tree_Copy N) := EntOK.vars (E_tree_Tree_Copy_Tok N) Tryz.func141 (by kernel_rfl) (by kernel_rfl) (all_cons (Z112_ok N) (all_nil))
theorem E_tree_Tree_Make_Tok (N : Nat) : TabOK Tryz.prog (E_tree_Tree_Make_T N) := TabOK.cons (E_tree_Tree_above_ok N) (TabOK.cons (E_Z120_ok N) (TabOK.nil))
theorem Z115_ok (N : Nat) : VarOK Tryz.prog (E_tree_Tree_Make_T N) Tryz.f115 (codeOf Tryz.f115) (Z115_W (Z115 N)) :=
  VarOK.of (E_tree_Tree_Make_Tok N) (by kernel_rfl) pn (Z115_F) N (fun _ => LStep.none) fun t u K => Z115_body N _ _ _ t u K
theorem E_tree_Tree_Make_ok (N : Nat) : EntOK Tryz.prog 115 (E_tree_Tree_Make N) := EntOK.vars (E_tree_Tree_Make_Tok N) Tryz.func115 (by kernel_rfl) (by kernel_rfl) (all_cons (Z115_ok N) (all_nil))
theorem E_tree_New_Tok (N : Nat) : TabOK Tryz.prog (E_tree_New_T N) := TabOK.cons (E_tree_Tree_Make_ok N) (TabOK.cons (E_Z50_ok N) (TabOK.nil))
theorem Z110_ok (N : Nat) : VarOK Tryz.prog (E_tree_New_T N) Tryz.f71 (codeOf Tryz.f71) (Z110_W (Z110 N)) :=
  VarOK.of (E_tree_New_Tok N) (by kernel_rfl) pn (Z110_F (@Z110_l0 N)) N (fun _ => LStep.pick (all_cons ⟨.inl fun _ _ _ => rfl, fun n t u K => Z110_v0_0_round N _ _ _ _ n t u K⟩ (all_nil)) (LStep.none)) fun t u K => Z110_body N _ _ _ _ t u K
theorem Z111_ok (N : Nat) : VarOK Tryz.prog (E_tree_New_T N) Tryz.f71 (codeOf Tryz.f71) (Z111_W (Z111 N)) :=
  VarOK.of (E_tree_New_Tok N) (by kernel_rfl) ⟨[], [], [0]⟩ (Z111_F (@Z111_l0 N)) N (fun _ => LStep.pick (all_cons ⟨.inl fun _ _ _ => rfl, fun n t u K => Z111_v0_0_round N _ _ _ _ n t u K⟩ (all_nil)) (LStep.none)) fun t u K => Z111_body N _ _ _ _ t u K
theorem E_tree_New_ok (N : Nat) : EntOK Tryz.prog 71 (E_tree_New N) := EntOK.vars (E_tree_New_Tok N) Tryz.func71 (by kernel_rfl) (by kernel_rfl) (all_cons (Z110_ok N) (all_cons (Z111_ok N) (all_nil)))
theorem E_files_Files_may_Tok (N : Nat) : TabOK Tryz.prog (E_files_Files_may_T N) := TabOK.cons (E_tree_Tree_Make_ok N) (TabOK.cons (E_tree_Tree_Copy_ok N) (TabOK.nil))
theorem Z34_ok (N : Nat) : VarOK Tryz.prog (E_files_Files_may_T N) Tryz.f121 (codeOf Tryz.f121) (Z34_W (Z34 N)) :=
  VarOK.of (E_files_Files_may_Tok N) (by kernel_rfl) ⟨[], [], [4]⟩ (Z34_F) N (fun _ => LStep.none) fun t u K => Z34_body N _ _ _ t u K
theorem E_files_Files_may_ok (N : Nat) : EntOK Tryz.prog 121 (E_files_Files_may N) := EntOK.vars (E_files_Files_may_Tok N) Tryz.func121 (by kernel_rfl) (by kernel_rfl) (all_cons (Z34_ok N) (all_nil))
theorem E_files_Files_Open_Tok (N : Nat) : TabOK Tryz.prog (E_files_Files_Open_T N) := TabOK.cons (E_tree_Tree_Make_ok N) (TabOK.cons (E_files_Files_may_ok N) (TabOK.cons (E_files_Files_free_ok N) (TabOK.cons (E_tree_Tree_Find_ok N) (TabOK.nil))))
theorem Z20_ok (N : Nat) : VarOK Tryz.prog (E_files_Files_Open_T N) Tryz.f83 (codeOf Tryz.f83) (Z20_W (Z20 N)) :=
  VarOK.of (E_files_Files_Open_Tok N) (by kernel_rfl) ⟨[4], [], [4]⟩ (Z20_F) N (fun _ => LStep.none) fun t u K => Z20_body N _ _ _ _ _ t u K
theorem E_files_Files_Open_ok (N : Nat) : EntOK Tryz.prog 83 (E_files_Files_Open N) := EntOK.vars (E_files_Files_Open_Tok N) Tryz.func83 (by kernel_rfl) (by kernel_rfl) (all_cons (Z20_ok N) (all_nil))
theorem E_tree_Tree_Drop_Tok (N : Nat) : TabOK Tryz.prog (E_tree_Tree_Drop_T N) := TabOK.cons (E_Z120_ok N) (TabOK.cons E_tree_Tree_many_ok (TabOK.cons (E_tree_Tree_get_ok N) (TabOK.nil)))
theorem Z113_ok (N : Nat) : VarOK Tryz.prog (E_tree_Tree_Drop_T N) Tryz.f122 (codeOf Tryz.f122) (Z113_W (Z113 N)) :=
  VarOK.of (E_tree_Tree_Drop_Tok N) (by kernel_rfl) pn (Z113_F) N (fun _ => LStep.none) fun t u K => Z113_body N _ _ _ _ t u K
theorem E_tree_Tree_Drop_ok (N : Nat) : EntOK Tryz.prog 122 (E_tree_Tree_Drop N) := EntOK.vars (E_tree_Tree_Drop_Tok N) Tryz.func122 (by kernel_rfl) (by kernel_rfl) (all_cons (Z113_ok N) (all_nil))
theorem E_files_Files_Unlink_Tok (N : Nat) : TabOK Tryz.prog (E_files_Files_Unlink_T N) := TabOK.cons (E_tree_Tree_Drop_ok N) (TabOK.nil)
theorem Z28_ok (N : Nat) : VarOK Tryz.prog (E_files_Files_Unlink_T N) Tryz.f85 (codeOf Tryz.f85) (Z28_W (Z28 N)) :=
  VarOK.of (E_files_Files_Unlink_Tok N) (by kernel_rfl) ⟨[], [], [4]⟩ (Z28_F) N (fun _ => LStep.none) fun t u K => Z28_body N _ _ t u K
theorem E_files_Files_Unlink_ok (N : Nat) : EntOK Tryz.prog 85 (E_files_Files_Unlink N) := EntOK.vars (E_files_Files_Unlink_Tok N) Tryz.func85 (by kernel_rfl) (by kernel_rfl) (all_cons (Z28_ok N) (all_nil))
theorem E_tree_Tree_Move_Tok (N : Nat) : TabOK Tryz.prog (E_tree_Tree_Move_T N) := TabOK.cons (E_tree_Tree_above_ok N) (TabOK.cons (E_Z120_ok N) (TabOK.cons (E_tree_Tree_get_ok N) (TabOK.nil)))
theorem Z117_ok (N : Nat) : VarOK Tryz.prog (E_tree_Tree_Move_T N) Tryz.f123 (codeOf Tryz.f123) (Z117_W (Z117 N)) :=
  VarOK.of (E_tree_Tree_Move_Tok N) (by kernel_rfl) pn (Z117_F) N (fun _ => LStep.none) fun t u K => Z117_body N _ _ _ _ t u K
theorem E_tree_Tree_Move_ok (N : Nat) : EntOK Tryz.prog 123 (E_tree_Tree_Move N) := EntOK.vars (E_tree_Tree_Move_Tok N) Tryz.func123 (by kernel_rfl) (by kernel_rfl) (all_cons (Z117_ok N) (all_nil))
theorem E_files_Files_Rename_Tok (N : Nat) : TabOK Tryz.prog (E_files_Files_Rename_T N) := TabOK.cons (E_tree_Tree_Move_ok N) (TabOK.nil)
theorem Z22_ok (N : Nat) : VarOK Tryz.prog (E_files_Files_Rename_T N) Tryz.f86 (codeOf Tryz.f86) (Z22_W (Z22 N)) :=
  VarOK.of (E_files_Files_Rename_Tok N) (by kernel_rfl) ⟨[], [], [4]⟩ (Z22_F) N (fun _ => LStep.none) fun t u K => Z22_body N _ _ t u K
theorem E_files_Files_Rename_ok (N : Nat) : EntOK Tryz.prog 86 (E_files_Files_Rename N) := EntOK.vars (E_files_Files_Rename_Tok N) Tryz.func86 (by kernel_rfl) (by kernel_rfl) (all_cons (Z22_ok N) (all_nil))
theorem E_files_Files_Mkdir_Tok (N : Nat) : TabOK Tryz.prog (E_files_Files_Mkdir_T N) := TabOK.cons (E_tree_Tree_Make_ok N) (TabOK.nil)
theorem Z19_ok (N : Nat) : VarOK Tryz.prog (E_files_Files_Mkdir_T N) Tryz.f87 (codeOf Tryz.f87) (Z19_W (Z19 N)) :=
  VarOK.of (E_files_Files_Mkdir_Tok N) (by kernel_rfl) ⟨[], [], [4]⟩ (Z19_F) N (fun _ => LStep.none) fun t u K => Z19_body N _ _ t u K
theorem E_files_Files_Mkdir_ok (N : Nat) : EntOK Tryz.prog 87 (E_files_Files_Mkdir N) := EntOK.vars (E_files_Files_Mkdir_Tok N) Tryz.func87 (by kernel_rfl) (by kernel_rfl) (all_cons (Z19_ok N) (all_nil))
theorem E_files_Files_Rmdir_Tok (N : Nat) : TabOK Tryz.prog (E_files_Files_Rmdir_T N) := TabOK.cons (E_tree_Tree_Drop_ok N) (TabOK.nil)
theorem Z23_ok (N : Nat) : VarOK Tryz.prog (E_files_Files_Rmdir_T N) Tryz.f88 (codeOf Tryz.f88) (Z23_W (Z23 N)) :=
  VarOK.of (E_files_Files_Rmdir_Tok N) (by kernel_rfl) ⟨[], [], [4]⟩ (Z23_F) N (fun _ => LStep.none) fun t u K => Z23_body N _ _ t u K
theorem E_files_Files_Rmdir_ok (N : Nat) : EntOK Tryz.prog 88 (E_files_Files_Rmdir N) := EntOK.vars (E_files_Files_Rmdir_Tok N) Tryz.func88 (by kernel_rfl) (by kernel_rfl) (all_cons (Z23_ok N) (all_nil))
theorem E_tree_Tree_Many_Tok (N : Nat) : TabOK Tryz.prog (E_tree_Tree_Many_T N) := TabOK.cons E_tree_Tree_many_ok (TabOK.cons (E_tree_Tree_get_ok N) (TabOK.nil))
theorem Z116_ok (N : Nat) : VarOK Tryz.prog (E_tree_Tree_Many_T N) Tryz.f124 (codeOf Tryz.f124) (Z116_W (Z116 N)) :=
  VarOK.of (E_tree_Tree_Many_Tok N) (by kernel_rfl) pn (Z116_F) N (fun _ => LStep.none) fun t u K => Z116_body N _ _ _ t u K
theorem E_tree_Tree_Many_ok (N : Nat) : EntOK Tryz.prog 124 (E_tree_Tree_Many N) := EntOK.vars (E_tree_Tree_Many_Tok N) Tryz.func124 (by kernel_rfl) (by kernel_rfl) (all_cons (Z116_ok N) (all_nil))
theorem E_files_Files_List_Tok (N : Nat) : TabOK Tryz.prog (E_files_Files_List_T N) := TabOK.cons (E_tree_Tree_Many_ok N) (TabOK.nil)
theorem Z18_ok (N : Nat) : VarOK Tryz.prog (E_files_Files_List_T N) Tryz.f89 (codeOf Tryz.f89) (Z18_W (Z18 N)) :=
  VarOK.of (E_files_Files_List_Tok N) (by kernel_rfl) ⟨[], [], [4]⟩ (Z18_F) N (fun _ => LStep.none) fun t u K => Z18_body N _ _ t u K
theorem E_files_Files_List_ok (N : Nat) : EntOK Tryz.prog 89 (E_files_Files_List N) := EntOK.vars (E_files_Files_List_Tok N) Tryz.func89 (by kernel_rfl) (by kernel_rfl) (all_cons (Z18_ok N) (all_nil))
theorem E_run_machine_named_Tok (N : Nat) : TabOK Tryz.prog (E_run_machine_named_T N) := TabOK.cons (E_files_Files_List_ok N) (TabOK.cons (E_files_Files_Rmdir_ok N) (TabOK.cons (E_files_Files_Mkdir_ok N) (TabOK.cons (E_files_Files_Rename_ok N) (TabOK.cons (E_files_Files_Unlink_ok N) (TabOK.cons (E_run_machine_answer_ok N) (TabOK.cons (E_files_Files_Open_ok N) (TabOK.cons (E_run_machine_name_ok N) (TabOK.nil))))))))
theorem Z80_ok (N : Nat) : VarOK Tryz.prog (E_run_machine_named_T N) Tryz.f50 (codeOf Tryz.f50) (Z80_W (Z80 N)) :=
  VarOK.of (E_run_machine_named_Tok N) (by kernel_rfl) ⟨[8, 3, 12], [], [1, 2, 3, 8, 10, 11, 12]⟩ (Z80_F) N (fun _ => LStep.none) fun t u K => Z80_body N _ _ _ _ _ _ _ _ _ _ _ _ _ t u K
theorem Z79_ok (N : Nat) : VarOK Tryz.prog (E_run_machine_named_T N) Tryz.f50 (codeOf Tryz.f50) (Z79_W (Z79 N)) :=
  VarOK.of (E_run_machine_named_Tok N) (by kernel_rfl) ⟨[6, 1, 10], [], [1, 6, 8, 9, 10]⟩ (Z79_F) N (fun _ => LStep.none) fun t u K => Z79_body N _ _ _ _ _ _ _ _ _ _ _ _ _ t u K
theorem E_run_machine_named_ok (N : Nat) : EntOK Tryz.prog 50 (E_run_machine_named N) := EntOK.vars (E_run_machine_named_Tok N) Tryz.func50 (by kernel_rfl) (by kernel_rfl) (all_cons (Z80_ok N) (all_cons (Z79_ok N) (all_nil)))
theorem E_files_Files_file_Tok (N : Nat) : TabOK Tryz.prog (E_files_Files_file_T N) := TabOK.nil
theorem Z32_ok (N : Nat) : VarOK Tryz.prog (E_files_Files_file_T N) Tryz.f125 (codeOf Tryz.f125) (Z32_W (Z32 N)) :=
  VarOK.of (E_files_Files_file_Tok N) (by kernel_rfl) ⟨[], [], [4]⟩ (Z32_F) N (fun _ => LStep.none) fun t u K => Z32_body N _ t u K
theorem E_files_Files_file_ok (N : Nat) : EntOK Tryz.prog 125 (E_files_Files_file N) := EntOK.vars (E_files_Files_file_Tok N) Tryz.func125 (by kernel_rfl) (by kernel_rfl) (all_cons (Z32_ok N) (all_nil))
theorem E_files_Files_Close_Tok (N : Nat) : TabOK Tryz.prog (E_files_Files_Close_T N) := TabOK.cons (E_files_Files_file_ok N) (TabOK.nil)
theorem Z17_ok (N : Nat) : VarOK Tryz.prog (E_files_Files_Close_T N) Tryz.f90 (codeOf Tryz.f90) (Z17_W (Z17 N)) :=
  VarOK.of (E_files_Files_Close_Tok N) (by kernel_rfl) ⟨[], [], [4]⟩ (Z17_F) N (fun _ => LStep.none) fun t u K => Z17_body N _ _ t u K
theorem E_files_Files_Close_ok (N : Nat) : EntOK Tryz.prog 90 (E_files_Files_Close N) := EntOK.vars (E_files_Files_Close_Tok N) Tryz.func90 (by kernel_rfl) (by kernel_rfl) (all_cons (Z17_ok N) (all_nil))
theorem E_files_Files_Size_Tok (N : Nat) : TabOK Tryz.prog (E_files_Files_Size_T N) := TabOK.cons (E_files_Files_file_ok N) (TabOK.nil)
theorem Z25_ok (N : Nat) : VarOK Tryz.prog (E_files_Files_Size_T N) Tryz.f91 (codeOf Tryz.f91) (Z25_W (Z25 N)) :=
  VarOK.of (E_files_Files_Size_Tok N) (by kernel_rfl) ⟨[], [], [4]⟩ (Z25_F) N (fun _ => LStep.none) fun t u K => Z25_body N _ _ t u K
theorem E_files_Files_Size_ok (N : Nat) : EntOK Tryz.prog 91 (E_files_Files_Size N) := EntOK.vars (E_files_Files_Size_Tok N) Tryz.func91 (by kernel_rfl) (by kernel_rfl) (all_cons (Z25_ok N) (all_nil))
theorem E_files_Files_Twin_Tok (N : Nat) : TabOK Tryz.prog (E_files_Files_Twin_T N) := TabOK.cons (E_files_Files_free_ok N) (TabOK.cons (E_files_Files_file_ok N) (TabOK.nil))
theorem Z27_ok (N : Nat) : VarOK Tryz.prog (E_files_Files_Twin_T N) Tryz.f92 (codeOf Tryz.f92) (Z27_W (Z27 N)) :=
  VarOK.of (E_files_Files_Twin_Tok N) (by kernel_rfl) ⟨[], [], [4]⟩ (Z27_F) N (fun _ => LStep.none) fun t u K => Z27_body N _ _ _ t u K
theorem E_files_Files_Twin_ok (N : Nat) : EntOK Tryz.prog 92 (E_files_Files_Twin N) := EntOK.vars (E_files_Files_Twin_Tok N) Tryz.func92 (by kernel_rfl) (by kernel_rfl) (all_cons (Z27_ok N) (all_nil))
theorem E_files_Files_Seek_Tok (N : Nat) : TabOK Tryz.prog (E_files_Files_Seek_T N) := TabOK.cons (E_files_Files_file_ok N) (TabOK.nil)
theorem Z24_ok (N : Nat) : VarOK Tryz.prog (E_files_Files_Seek_T N) Tryz.f93 (codeOf Tryz.f93) (Z24_W (Z24 N)) :=
  VarOK.of (E_files_Files_Seek_Tok N) (by kernel_rfl) ⟨[], [], [4]⟩ (Z24_F) N (fun _ => LStep.none) fun t u K => Z24_body N _ _ t u K
theorem E_files_Files_Seek_ok (N : Nat) : EntOK Tryz.prog 93 (E_files_Files_Seek N) := EntOK.vars (E_files_Files_Seek_Tok N) Tryz.func93 (by kernel_rfl) (by kernel_rfl) (all_cons (Z24_ok N) (all_nil))
theorem E_files_New_Tok (N : Nat) : TabOK Tryz.prog (E_files_New_T N) := TabOK.cons (E_tree_New_ok N) (TabOK.cons E_slices_Clone__byte_byte_ok (TabOK.nil))
theorem Z35_ok (N : Nat) : VarOK Tryz.prog (E_files_New_T N) Tryz.f40 (codeOf Tryz.f40) (Z35_W (Z35 N)) :=
  VarOK.of (E_files_New_Tok N) (by kernel_rfl) ⟨[], [], [0]⟩ (Z35_F (@Z35_l0 N)) N (fun _ => LStep.pick (all_cons ⟨.inl fun _ _ _ => rfl, fun n t u K => Z35_v0_0_round N _ _ _ _ _ n t u K⟩ (all_nil)) (LStep.none)) fun t u K => Z35_body N _ _ _ _ _ t u K
theorem Z36_ok (N : Nat) : VarOK Tryz.prog (E_files_New_T N) Tryz.f40 (codeOf Tryz.f40) (Z36_W (Z36 N)) :=
  VarOK.of (E_files_New_Tok N) (by kernel_rfl) ⟨[], [], [0, 1]⟩ (Z36_F (@Z36_l0 N)) N (fun _ => LStep.pick (all_cons ⟨.inl fun _ _ _ => rfl, fun n t u K => Z36_v0_0_round N _ _ _ _ _ n t u K⟩ (all_cons ⟨.inl fun _ _ _ => rfl, fun n t u K => Z36_v0_1_round N _ _ _ _ _ n t u K⟩ (all_nil))) (LStep.none)) fun t u K => Z36_body N _ _ _ _ _ t u K
theorem E_files_New_ok (N : Nat) : EntOK Tryz.prog 40 (E_files_New N) := EntOK.vars (E_files_New_Tok N) Tryz.func40 (by kernel_rfl) (by kernel_rfl) (all_cons (Z35_ok N) (all_cons (Z36_ok N) (all_nil)))
theorem E_run_made_Tok (N : Nat) : TabOK Tryz.prog (E_run_made_T N) := TabOK.cons (E_fails_New_ok N) (TabOK.cons (E_slices_ContainsFunc___byte__byte_ok N) (TabOK.cons (E_files_New_ok N) (TabOK.cons (E_Z1_ok N) (TabOK.nil))))
theorem Z99_ok (N : Nat) : VarOK Tryz.prog (E_run_made_T N) Tryz.f28 (codeOf Tryz.f28) (Z99_W (Z99 N)) :=
  VarOK.of (E_run_made_Tok N) (by kernel_rfl) ⟨[], [], [0, 1, 2, 3, 4]⟩ (Z99_F) N (fun _ => LStep.none) fun t u K => Z99_body N _ _ _ _ _ _ _ t u K
theorem Z101_ok (N : Nat) : VarOK Tryz.prog (E_run_made_T N) Tryz.f28 (codeOf Tryz.f28) (Z101_W (Z101 N)) :=
  VarOK.of (E_run_made_Tok N) (by kernel_rfl) ⟨[], [], [0, 1, 2, 3]⟩ (Z101_F) N (fun _ => LStep.none) fun t u K => Z101_body N _ _ _ _ _ _ _ t u K
theorem Z98_ok (N : Nat) : VarOK Tryz.prog (E_run_made_T N) Tryz.f28 (codeOf Tryz.f28) (Z98_W (Z98 N)) :=
  VarOK.of (E_run_made_Tok N) (by kernel_rfl) ⟨[], [], [0, 1, 2]⟩ (Z98_F) N (fun _ => LStep.none) fun t u K => Z98_body N _ _ _ _ _ _ _ t u K
theorem Z100_ok (N : Nat) : VarOK Tryz.prog (E_run_made_T N) Tryz.f28 (codeOf Tryz.f28) (Z100_W (Z100 N)) :=
  VarOK.of (E_run_made_Tok N) (by kernel_rfl) ⟨[], [], [0, 1, 2, 3, 4, 5]⟩ (Z100_F) N (fun _ => LStep.none) fun t u K => Z100_body N _ _ _ _ _ _ _ t u K
theorem E_run_made_ok (N : Nat) : EntOK Tryz.prog 28 (E_run_made N) := EntOK.vars (E_run_made_Tok N) Tryz.func28 (by kernel_rfl) (by kernel_rfl) (all_cons (Z99_ok N) (all_cons (Z101_ok N) (all_cons (Z98_ok N) (all_cons (Z100_ok N) (all_nil)))))
theorem E_Z37_Tok (N : Nat) : TabOK Tryz.prog (E_Z37_T N) := TabOK.cons E_slices_Clone__byte_byte_ok (TabOK.nil)
theorem Z37_ok (N : Nat) : VarOK Tryz.prog (E_Z37_T N) Tryz.f126 (codeOf Tryz.f126) (Z37_W (Z37 N)) :=
  VarOK.of (E_Z37_Tok N) (by kernel_rfl) pn (Z37_F (@Z37_l0 N)) N (fun _ => LStep.pick (all_cons ⟨.inl fun _ _ _ => rfl, fun n t u K => Z37_v0_0_round N _ _ _ n t u K⟩ (all_nil)) (LStep.none)) fun t u K => Z37_body N _ _ _ t u K
theorem E_Z37_ok (N : Nat) : EntOK Tryz.prog 126 (E_Z37 N) := EntOK.vars (E_Z37_Tok N) Tryz.func126 (by kernel_rfl) (by kernel_rfl) (all_cons (Z37_ok N) (all_nil))
theorem E_files_Files_Trunc_Tok (N : Nat) : TabOK Tryz.prog (E_files_Files_Trunc_T N) := TabOK.cons (E_Z37_ok N) (TabOK.cons (E_files_Files_file_ok N) (TabOK.nil))
theorem Z26_ok (N : Nat) : VarOK Tryz.prog (E_files_Files_Trunc_T N) Tryz.f94 (codeOf Tryz.f94) (Z26_W (Z26 N)) :=
  VarOK.of (E_files_Files_Trunc_Tok N) (by kernel_rfl) ⟨[], [], [4]⟩ (Z26_F) N (fun _ => LStep.none) fun t u K => Z26_body N _ _ _ t u K
theorem E_files_Files_Trunc_ok (N : Nat) : EntOK Tryz.prog 94 (E_files_Files_Trunc N) := EntOK.vars (E_files_Files_Trunc_Tok N) Tryz.func94 (by kernel_rfl) (by kernel_rfl) (all_cons (Z26_ok N) (all_nil))
theorem E_files_Files_Read_Tok (N : Nat) : TabOK Tryz.prog (E_files_Files_Read_T N) := TabOK.cons E_slices_Clone__byte_byte_ok (TabOK.cons (E_files_Files_file_ok N) (TabOK.nil))
theorem Z21_ok (N : Nat) : VarOK Tryz.prog (E_files_Files_Read_T N) Tryz.f127 (codeOf Tryz.f127) (Z21_W (Z21 N)) :=
  VarOK.of (E_files_Files_Read_Tok N) (by kernel_rfl) ⟨[], [(0, false, (.int .u8))], [4]⟩ (Z21_F) N (fun _ => LStep.none) fun t u K => Z21_body N _ _ _ t u K
theorem E_files_Files_Read_ok (N : Nat) : EntOK Tryz.prog 127 (E_files_Files_Read N) := EntOK.vars (E_files_Files_Read_Tok N) Tryz.func127 (by kernel_rfl) (by kernel_rfl) (all_cons (Z21_ok N) (all_nil))
theorem E_run_machine_read_Tok (N : Nat) : TabOK Tryz.prog (E_run_machine_read_T N) := TabOK.cons (E_run_machine_answer_ok N) (TabOK.cons (E_run_machine_end_ok N) (TabOK.cons (E_files_Files_Read_ok N) (TabOK.cons (E_run_machine_pop_ok N) (TabOK.nil))))
theorem Z90_ok (N : Nat) : VarOK Tryz.prog (E_run_machine_read_T N) Tryz.f95 (codeOf Tryz.f95) (Z90_W (Z90 N)) :=
  VarOK.of (E_run_machine_read_Tok N) (by kernel_rfl) ⟨[12], [], [1, 2, 3, 8, 10, 11, 12]⟩ (Z90_F) N (fun _ => LStep.none) fun t u K => Z90_body N _ _ _ _ _ _ _ _ _ _ t u K
theorem Z89_ok (N : Nat) : VarOK Tryz.prog (E_run_machine_read_T N) Tryz.f95 (codeOf Tryz.f95) (Z89_W (Z89 N)) :=
  VarOK.of (E_run_machine_read_Tok N) (by kernel_rfl) ⟨[10], [], [1, 6, 8, 9, 10]⟩ (Z89_F) N (fun _ => LStep.none) fun t u K => Z89_body N _ _ _ _ _ _ _ _ _ _ t u K
theorem E_run_machine_read_ok (N : Nat) : EntOK Tryz.prog 95 (E_run_machine_read N) := EntOK.vars (E_run_machine_read_Tok N) Tryz.func95 (by kernel_rfl) (by kernel_rfl) (all_cons (Z90_ok N) (all_cons (Z89_ok N) (all_nil)))
theorem E_files_Files_Write_Tok (N : Nat) : TabOK Tryz.prog (E_files_Files_Write_T N) := TabOK.cons (E_Z37_ok N) (TabOK.cons (E_files_Files_file_ok N) (TabOK.nil))
theorem Z29_ok (N : Nat) : VarOK Tryz.prog (E_files_Files_Write_T N) Tryz.f128 (codeOf Tryz.f128) (Z29_W (Z29 N)) :=
  VarOK.of (E_files_Files_Write_Tok N) (by kernel_rfl) ⟨[], [], [4, 6, 7, 8, 10, 11, 12]⟩ (Z29_F) N (fun _ => LStep.none) fun t u K => Z29_body N _ _ _ t u K
theorem Z30_ok (N : Nat) : VarOK Tryz.prog (E_files_Files_Write_T N) Tryz.f128 (codeOf Tryz.f128) (Z30_W (Z30 N)) :=
  VarOK.of (E_files_Files_Write_Tok N) (by kernel_rfl) ⟨[], [], [4]⟩ (Z30_F) N (fun _ => LStep.none) fun t u K => Z30_body N _ _ _ t u K
theorem Z31_ok (N : Nat) : VarOK Tryz.prog (E_files_Files_Write_T N) Tryz.f128 (codeOf Tryz.f128) (Z31_W (Z31 N)) :=
  VarOK.of (E_files_Files_Write_Tok N) (by kernel_rfl) ⟨[], [], [4, 6, 8, 9, 10]⟩ (Z31_F) N (fun _ => LStep.none) fun t u K => Z31_body N _ _ _ t u K
theorem E_files_Files_Write_ok (N : Nat) : EntOK Tryz.prog 128 (E_files_Files_Write N) := EntOK.vars (E_files_Files_Write_Tok N) Tryz.func128 (by kernel_rfl) (by kernel_rfl) (all_cons (Z29_ok N) (all_cons (Z30_ok N) (all_cons (Z31_ok N) (all_nil))))
theorem E_run_machine_write_Tok (N : Nat) : TabOK Tryz.prog (E_run_machine_write_T N) := TabOK.cons (E_files_Files_Write_ok N) (TabOK.cons (E_run_machine_answer_ok N) (TabOK.cons (E_run_machine_end_ok N) (TabOK.cons (E_run_machine_pop_ok N) (TabOK.nil))))
theorem Z96_ok (N : Nat) : VarOK Tryz.prog (E_run_machine_write_T N) Tryz.f96 (codeOf Tryz.f96) (Z96_W (Z96 N)) :=
  VarOK.of (E_run_machine_write_Tok N) (by kernel_rfl) ⟨[12], [], [1, 2, 3, 8, 10, 11, 12]⟩ (Z96_F) N (fun _ => LStep.none) fun t u K => Z96_body N _ _ _ _ _ _ _ _ _ _ _ _ t u K
theorem Z95_ok (N : Nat) : VarOK Tryz.prog (E_run_machine_write_T N) Tryz.f96 (codeOf Tryz.f96) (Z95_W (Z95 N)) :=
  VarOK.of (E_run_machine_write_Tok N) (by kernel_rfl) ⟨[10], [], [1, 6, 8, 9, 10]⟩ (Z95_F) N (fun _ => LStep.none) fun t u K => Z95_body N _ _ _ _ _ _ _ _ _ _ _ _ t u K
theorem E_run_machine_write_ok (N : Nat) : EntOK Tryz.prog 96 (E_run_machine_write N) := EntOK.vars (E_run_machine_write_Tok N) Tryz.func96 (by kernel_rfl) (by kernel_rfl) (all_cons (Z96_ok N) (all_cons (Z95_ok N) (all_nil)))
theorem E_run_machine_argument_Tok (N : Nat) : TabOK Tryz.prog (E_run_machine_argument_T N) := TabOK.cons (E_run_machine_push_ok N) (TabOK.cons (E_run_machine_pop_ok N) (TabOK.nil))
theorem Z70_ok (N : Nat) : VarOK Tryz.prog (E_run_machine_argument_T N) Tryz.f97 (codeOf Tryz.f97) (Z70_W (Z70 N)) :=
  VarOK.of (E_run_machine_argument_Tok N) (by kernel_rfl) ⟨[], [], [1, 2, 3, 8, 10, 11, 12]⟩ (Z70_F) N (fun _ => LStep.none) fun t u K => Z70_body N _ _ _ _ _ _ _ t u K
theorem Z69_ok (N : Nat) : VarOK Tryz.prog (E_run_machine_argument_T N) Tryz.f97 (codeOf Tryz.f97) (Z69_W (Z69 N)) :=
  VarOK.of (E_run_machine_argument_Tok N) (by kernel_rfl) ⟨[], [], [1, 6, 8, 9, 10]⟩ (Z69_F) N (fun _ => LStep.none) fun t u K => Z69_body N _ _ _ _ _ _ _ t u K
theorem E_run_machine_argument_ok (N : Nat) : EntOK Tryz.prog 97 (E_run_machine_argument N) := EntOK.vars (E_run_machine_argument_Tok N) Tryz.func97 (by kernel_rfl) (by kernel_rfl) (all_cons (Z70_ok N) (all_cons (Z69_ok N) (all_nil)))
theorem E_run_machine_call_Tok (N : Nat) : TabOK Tryz.prog (E_run_machine_call_T N) := TabOK.cons (E_run_machine_argument_ok N) (TabOK.cons (E_run_machine_push_ok N) (TabOK.cons (E_run_machine_write_ok N) (TabOK.cons (E_run_machine_read_ok N) (TabOK.cons (E_files_Files_Trunc_ok N) (TabOK.cons (E_files_Files_Seek_ok N) (TabOK.cons (E_files_Files_Twin_ok N) (TabOK.cons (E_files_Files_Size_ok N) (TabOK.cons (E_run_machine_answer_ok N) (TabOK.cons (E_files_Files_Close_ok N) (TabOK.cons (E_run_machine_pop_ok N) (TabOK.nil)))))))))))
theorem Z71_ok (N : Nat) : VarOK Tryz.prog (E_run_machine_call_T N) Tryz.f51 (codeOf Tryz.f51) (Z71_W (Z71 N)) :=
  VarOK.of (E_run_machine_call_Tok N) (by kernel_rfl) ⟨[12, 3], [], [1, 2, 3, 8, 10, 11, 12]⟩ (Z71_F) N (fun _ => LStep.none) fun t u K => Z71_body N _ _ _ _ _ _ _ _ _ _ _ _ _ _ _ _ _ _ _ _ _ _ t u K
theorem Z72_ok (N : Nat) : VarOK Tryz.prog (E_run_machine_call_T N) Tryz.f51 (codeOf Tryz.f51) (Z72_W (Z72 N)) :=
  VarOK.of (E_run_machine_call_Tok N) (by kernel_rfl) ⟨[10, 1], [], [1, 6, 8, 9, 10]⟩ (Z72_F) N (fun _ => LStep.none) fun t u K => Z72_body N _ _ _ _ _ _ _ _ _ _ _ _ _ _ _ _ _ _ _ _ _ _ t u K
theorem E_run_machine_call_ok (N : Nat) : EntOK Tryz.prog 51 (E_run_machine_call N) := EntOK.vars (E_run_machine_call_Tok N) Tryz.func51 (by kernel_rfl) (by kernel_rfl) (all_cons (Z71_ok N) (all_cons (Z72_ok N) (all_nil)))
theorem E_run_machine_step_Tok (N : Nat) : TabOK Tryz.prog (E_run_machine_step_T N) := TabOK.cons (E_run_machine_call_ok N) (TabOK.cons (E_run_machine_named_ok N) (TabOK.cons (E_run_machine_plain_ok N) (TabOK.cons (E_run_machine_reckon_ok N) (TabOK.cons (E_run_machine_answer_ok N) (TabOK.cons (E_Z43_ok N) (TabOK.cons (E_fails_Fails_Next_ok N) (TabOK.cons (E_Z39_ok N) (TabOK.nil))))))))
theorem Z94_ok (N : Nat) : VarOK Tryz.prog (E_run_machine_step_T N) Tryz.f30 (codeOf Tryz.f30) (Z94_W (Z94 N)) :=
  VarOK.of (E_run_machine_step_Tok N) (by kernel_rfl) ⟨[12, 8], [], [1, 2, 3, 8, 10, 11, 12]⟩ (Z94_F) N (fun _ => LStep.none) fun t u K => Z94_body N _ _ _ _ _ _ _ _ _ _ _ _ _ _ _ _ t u K
theorem Z93_ok (N : Nat) : VarOK Tryz.prog (E_run_machine_step_T N) Tryz.f30 (codeOf Tryz.f30) (Z93_W (Z93 N)) :=
  VarOK.of (E_run_machine_step_Tok N) (by kernel_rfl) ⟨[10, 6], [], [1, 6, 8, 9, 10]⟩ (Z93_F) N (fun _ => LStep.none) fun t u K => Z93_body N _ _ _ _ _ _ _ _ _ _ _ _ _ _ _ _ t u K
theorem E_run_machine_step_ok (N : Nat) : EntOK Tryz.prog 30 (E_run_machine_step N) := EntOK.vars (E_run_machine_step_Tok N) Tryz.func30 (by kernel_rfl) (by kernel_rfl) (all_cons (Z94_ok N) (all_cons (Z93_ok N) (all_nil)))
theorem E_run_all_Tok (N : Nat) : TabOK Tryz.prog (E_run_all_T N) := TabOK.cons (E_run_machine_step_ok N) (TabOK.cons (E_run_machine_end_ok N) (TabOK.cons (E_run_made_ok N) (TabOK.nil)))
theorem Z61_ok (N : Nat) : VarOK Tryz.prog (E_run_all_T N) Tryz.f20 (codeOf Tryz.f20) (Z61_W (Z61 N)) :=
  VarOK.of (E_run_all_Tok N) (by kernel_rfl) ⟨[], [], [0, 1, 2, 3, 4]⟩ (Z61_F (@Z61_l0 N)) N (fun _ => LStep.pick (all_cons ⟨.inl fun _ _ _ => rfl, fun n t u K => Z61_v0_0_round N _ _ _ _ _ _ _ _ _ _ n t u K⟩ (all_cons ⟨.inl fun _ _ _ => rfl, fun n t u K => Z61_v0_1_round N _ _ _ _ _ _ _ _ _ _ n t u K⟩ (all_nil))) (LStep.none)) fun t u K => Z61_body N _ _ _ _ _ _ _ _ _ _ t u K
theorem Z63_ok (N : Nat) : VarOK Tryz.prog (E_run_all_T N) Tryz.f20 (codeOf Tryz.f20) (Z63_W (Z63 N)) :=
  VarOK.of (E_run_all_Tok N) (by kernel_rfl) ⟨[], [], [0, 1, 2, 3]⟩ (Z63_F (@Z63_l0 N)) N (fun _ => LStep.pick (all_cons ⟨.inl fun _ _ _ => rfl, fun n t u K => Z63_v0_0_round N _ _ _ _ _ _ _ _ _ _ n t u K⟩ (all_cons ⟨.inl fun _ _ _ => rfl, fun n t u K => Z63_v0_1_round N _ _ _ _ _ _ _ _ _ _ n t u K⟩ (all_nil))) (LStep.none)) fun t u K => Z63_body N _ _ _ _ _ _ _ _ _ _ t u K
theorem Z60_ok (N : Nat) : VarOK Tryz.prog (E_run_all_T N) Tryz.f20 (codeOf Tryz.f20) (Z60_W (Z60 N)) :=
  VarOK.of (E_run_all_Tok N) (by kernel_rfl) ⟨[], [], [0, 1, 2]⟩ (Z60_F (@Z60_l0 N)) N (fun _ => LStep.pick (all_cons ⟨.inl fun _ _ _ => rfl, fun n t u K => Z60_v0_0_round N _ _ _ _ _ _ _ _ _ _ n t u K⟩ (all_cons ⟨.inl fun _ _ _ => rfl, fun n t u K => Z60_v0_1_round N _ _ _ _ _ _ _ _ _ _ n t u K⟩ (all_nil))) (LStep.none)) fun t u K => Z60_body N _ _ _ _ _ _ _ _ _ _ t u K
theorem Z62_ok (N : Nat) : VarOK Tryz.prog (E_run_all_T N) Tryz.f20 (codeOf Tryz.f20) (Z62_W (Z62 N)) :=
  VarOK.of (E_run_all_Tok N) (by kernel_rfl) ⟨[], [], [0, 1, 2, 3, 4, 5]⟩ (Z62_F (@Z62_l0 N)) N (fun _ => LStep.pick (all_cons ⟨.inl fun _ _ _ => rfl, fun n t u K => Z62_v0_0_round N _ _ _ _ _ _ _ _ _ _ n t u K⟩ (all_cons ⟨.inl fun _ _ _ => rfl, fun n t u K => Z62_v0_1_round N _ _ _ _ _ _ _ _ _ _ n t u K⟩ (all_nil))) (LStep.none)) fun t u K => Z62_body N _ _ _ _ _ _ _ _ _ _ t u K
theorem E_run_all_ok (N : Nat) : EntOK Tryz.prog 20 (E_run_all N) := EntOK.vars (E_run_all_Tok N) Tryz.func20 (by kernel_rfl) (by kernel_rfl) (all_cons (Z61_ok N) (all_cons (Z63_ok N) (all_cons (Z60_ok N) (all_cons (Z62_ok N) (all_nil)))))
theorem E_run_Run_Tok (N : Nat) : TabOK Tryz.prog (E_run_Run_T N) := TabOK.cons (E_run_all_ok N) (TabOK.nil)
theorem Z56_ok (N : Nat) : VarOK Tryz.prog (E_run_Run_T N) Tryz.f12 (codeOf Tryz.f12) (Z56_W (Z56 N)) :=
  VarOK.of (E_run_Run_Tok N) (by kernel_rfl) ⟨[], [], [0]⟩ (Z56_F) N (fun _ => LStep.none) fun t u K => Z56_body N _ _ _ _ _ t u K
theorem Z54_ok (N : Nat) : VarOK Tryz.prog (E_run_Run_T N) Tryz.f12 (codeOf Tryz.f12) (Z54_W (Z54 N)) :=
  VarOK.of (E_run_Run_Tok N) (by kernel_rfl) ⟨[], [], [0, 1, 2, 3]⟩ (Z54_F) N (fun _ => LStep.none) fun t u K => Z54_body N _ _ _ _ _ t u K
theorem Z53_ok (N : Nat) : VarOK Tryz.prog (E_run_Run_T N) Tryz.f12 (codeOf Tryz.f12) (Z53_W (Z53 N)) :=
  VarOK.of (E_run_Run_Tok N) (by kernel_rfl) ⟨[], [], [0, 1, 2]⟩ (Z53_F) N (fun _ => LStep.none) fun t u K => Z53_body N _ _ _ _ _ t u K
theorem Z55_ok (N : Nat) : VarOK Tryz.prog (E_run_Run_T N) Tryz.f12 (codeOf Tryz.f12) (Z55_W (Z55 N)) :=
  VarOK.of (E_run_Run_Tok N) (by kernel_rfl) ⟨[], [], [0, 1, 2]⟩ (Z55_F) N (fun _ => LStep.none) fun t u K => Z55_body N _ _ _ _ _ t u K
theorem Z57_ok (N : Nat) : VarOK Tryz.prog (E_run_Run_T N) Tryz.f12 (codeOf Tryz.f12) (Z57_W (Z57 N)) :=
  VarOK.of (E_run_Run_Tok N) (by kernel_rfl) ⟨[], [], [0, 1, 2, 3]⟩ (Z57_F) N (fun _ => LStep.none) fun t u K => Z57_body N _ _ _ _ _ t u K
theorem E_run_Run_ok (N : Nat) : EntOK Tryz.prog 12 (E_run_Run N) := EntOK.vars (E_run_Run_Tok N) Tryz.func12 (by kernel_rfl) (by kernel_rfl) (all_cons (Z56_ok N) (all_cons (Z54_ok N) (all_cons (Z53_ok N) (all_cons (Z55_ok N) (all_cons (Z57_ok N) (all_nil))))))
theorem E_run_Steps_Tok (N : Nat) : TabOK Tryz.prog (E_run_Steps_T N) := TabOK.cons (E_run_all_ok N) (TabOK.nil)
theorem Z59_ok (N : Nat) : VarOK Tryz.prog (E_run_Steps_T N) Tryz.f15 (codeOf Tryz.f15) (Z59_W (Z59 N)) :=
  VarOK.of (E_run_Steps_Tok N) (by kernel_rfl) ⟨[], [], [0]⟩ (Z59_F) N (fun _ => LStep.none) fun t u K => Z59_body N _ _ _ _ _ t u K
theorem Z58_ok (N : Nat) : VarOK Tryz.prog (E_run_Steps_T N) Tryz.f15 (codeOf Tryz.f15) (Z58_W (Z58 N)) :=
  VarOK.of (E_run_Steps_Tok N) (by kernel_rfl) ⟨[], [], [0, 1, 2, 3]⟩ (Z58_F) N (fun _ => LStep.none) fun t u K => Z58_body N _ _ _ _ _ t u K
theorem E_run_Steps_ok (N : Nat) : EntOK Tryz.prog 15 (E_run_Steps N) := EntOK.vars (E_run_Steps_Tok N) Tryz.func15 (by kernel_rfl) (by kernel_rfl) (all_cons (Z59_ok N) (all_cons (Z58_ok N) (all_nil)))
theorem E_Z49_Tok (N : Nat) : TabOK Tryz.prog (E_Z49_T N) := TabOK.cons (E_run_Steps_ok N) (TabOK.cons (E_run_Run_ok N) (TabOK.nil))
theorem Z49_ok (N : Nat) : VarOK Tryz.prog (E_Z49_T N) Tryz.f8 (codeOf Tryz.f8) (Z49_W (Z49 N)) :=
  VarOK.of (E_Z49_Tok N) (by kernel_rfl) pn (Z49_F) N (fun _ => LStep.none) fun t u K => Z49_body N _ _ _ _ _ _ _ _ t u K
theorem E_Z49_ok (N : Nat) : EntOK Tryz.prog 8 (E_Z49 N) := EntOK.vars (E_Z49_Tok N) Tryz.func8 (by kernel_rfl) (by kernel_rfl) (all_cons (Z49_ok N) (all_nil))
theorem E_Z48_Tok (N : Nat) : TabOK Tryz.prog (E_Z48_T N) := TabOK.nil
theorem Z48_ok (N : Nat) : VarOK Tryz.prog (E_Z48_T N) Tryz.f18 (codeOf Tryz.f18) (Z48_W (Z48 N)) :=
  VarOK.of (E_Z48_Tok N) (by kernel_rfl) pn (Z48_F) N (fun _ => LStep.none) fun t u K => Z48_body N _ t u K
theorem E_Z48_ok (N : Nat) : EntOK Tryz.prog 18 (E_Z48 N) := EntOK.vars (E_Z48_Tok N) Tryz.func18 (by kernel_rfl) (by kernel_rfl) (all_cons (Z48_ok N) (all_nil))
theorem E_Z47_Tok (N : Nat) : TabOK Tryz.prog (E_Z47_T N) := TabOK.nil
theorem Z47_ok (N : Nat) : VarOK Tryz.prog (E_Z47_T N) Tryz.f17 (codeOf Tryz.f17) (Z47_W (Z47 N)) :=
  VarOK.of (E_Z47_Tok N) (by kernel_rfl) pn (Z47_F) N (fun _ => LStep.none) fun t u K => Z47_body N _ t u K
theorem E_Z47_ok (N : Nat) : EntOK Tryz.prog 17 (E_Z47 N) := EntOK.vars (E_Z47_Tok N) Tryz.func17 (by kernel_rfl) (by kernel_rfl) (all_cons (Z47_ok N) (all_nil))
theorem E_Z45_1_Tok (N : Nat) : TabOK Tryz.prog (E_Z45_1_T N) := TabOK.nil
theorem Z46_ok (N : Nat) : VarOK Tryz.prog (E_Z45_1_T N) Tryz.f16 (codeOf Tryz.f16) (Z46_W (Z46 N)) :=
  VarOK.of (E_Z45_1_Tok N) (by kernel_rfl) ⟨[], [], [0]⟩ (Z46_F) N (fun _ => LStep.none) fun t u K => Z46_body N _ t u K
theorem E_Z45_1_ok (N : Nat) : EntOK Tryz.prog 16 (E_Z45_1 N) := EntOK.vars (E_Z45_1_Tok N) Tryz.func16 (by kernel_rfl) (by kernel_rfl) (all_cons (Z46_ok N) (all_nil))
theorem E_ref12_SameTrace_Tok (N : Nat) : TabOK Tryz.prog (E_ref12_SameTrace_T N) := TabOK.nil
theorem Z52_ok (N : Nat) : VarOK Tryz.prog (E_ref12_SameTrace_T N) Tryz.f14 (codeOf Tryz.f14) (Z52_W (Z52 N)) :=
  VarOK.of (E_ref12_SameTrace_Tok N) (by kernel_rfl) ⟨[], [], [0]⟩ (Z52_F (@Z52_l0 N)) N (fun _ => LStep.pick (all_cons ⟨.inl fun _ _ _ => rfl, fun n t u K => Z52_v0_0_round N _ _ n t u K⟩ (all_nil)) (LStep.none)) fun t u K => Z52_body N _ _ t u K
theorem E_ref12_SameTrace_ok (N : Nat) : EntOK Tryz.prog 14 (E_ref12_SameTrace N) := EntOK.vars (E_ref12_SameTrace_Tok N) Tryz.func14 (by kernel_rfl) (by kernel_rfl) (all_cons (Z52_ok N) (all_nil))
theorem E_Z45_Tok (N : Nat) : TabOK Tryz.prog (E_Z45_T N) := TabOK.cons (E_run_Steps_ok N) (TabOK.cons (E_run_Run_ok N) (TabOK.cons (E_ref12_SameTrace_ok N) (TabOK.cons (E_Z45_1_ok N) (TabOK.cons (E_Z47_ok N) (TabOK.cons (E_Z48_ok N) (TabOK.cons (E_Z49_ok N) (TabOK.nil)))))))
theorem Z45_vj0_0_ok (N : Nat) : LV Tryz.prog (E_Z45_T N) ⟨0, Tryz.f5.ntmps, fun i => (Z45_F (@Z45_lj0 N) (@Z45_lj1 N) (@Z45_lj2 N) (@Z45_lj3 N) (@Z45_lj4 N) (@Z45_lj5 N) (@Z45_lj6 N) (@Z45_l0 N) (@Z45_lj7 N) (@Z45_lj8 N) (@Z45_lj9 N) (@Z45_lj10 N) (@Z45_lj11 N) (@Z45_lj12 N) (@Z45_lj13 N) (@Z45_lj14 N) (@Z45_lj15 N) (@Z45_lj16 N) i).at N, []⟩ (bodyAt Tryz.f5 1) (Z45_Fj0 (@Z45_lj0 N)) (Z45_vj0_0 (@Z45_lj0 N)) := ⟨.inr ⟨by kernel_rfl, fun _ _ _ _ => rfl⟩, Z45_vj0_0_round N (@Z59 N) (@Z58 N) (@Z56 N) (@Z54 N) (@Z53 N) (@Z55 N) (@Z57 N) (@Z52 N) (@Z46 N) (@Z47 N) (@Z48 N) (@Z49 N) (@Z45_lj0 N) (@Z45_lj1 N) (@Z45_lj2 N) (@Z45_lj3 N) (@Z45_lj4 N) (@Z45_lj5 N) (@Z45_lj6 N) (@Z45_l0 N) (@Z45_lj7 N) (@Z45_lj8 N) (@Z45_lj9 N) (@Z45_lj10 N) (@Z45_lj11 N) (@Z45_lj12 N) (@Z45_lj13 N) (@Z45_lj14 N) (@Z45_lj15 N) (@Z45_lj16 N)⟩
theorem Z45_sj0 (N : Nat) : LStep Tryz.prog (E_Z45_T N) ⟨0, Tryz.f5.ntmps, fun i => (Z45_F (@Z45_lj0 N) (@Z45_lj1 N) (@Z45_lj2 N) (@Z45_lj3 N) (@Z45_lj4 N) (@Z45_lj5 N) (@Z45_lj6 N) (@Z45_l0 N) (@Z45_lj7 N) (@Z45_lj8 N) (@Z45_lj9 N) (@Z45_lj10 N) (@Z45_lj11 N) (@Z45_lj12 N) (@Z45_lj13 N) (@Z45_lj14 N) (@Z45_lj15 N) (@Z45_lj16 N) i).at N, []⟩ (bodyAt Tryz.f5 1) (Z45_Fj0 (@Z45_lj0 N)) := all_cons (Z45_vj0_0_ok N) (all_nil)
theorem Z45_vj1_0_ok (N : Nat) : LV Tryz.prog (E_Z45_T N) ⟨0, Tryz.f5.ntmps, fun i => (Z45_F (@Z45_lj0 N) (@Z45_lj1 N) (@Z45_lj2 N) (@Z45_lj3 N) (@Z45_lj4 N) (@Z45_lj5 N) (@Z45_lj6 N) (@Z45_l0 N) (@Z45_lj7 N) (@Z45_lj8 N) (@Z45_lj9 N) (@Z45_lj10 N) (@Z45_lj11 N) (@Z45_lj12 N) (@Z45_lj13 N) (@Z45_lj14 N) (@Z45_lj15 N) (@Z45_lj16 N) i).at N, []⟩ (bodyAt Tryz.f5 2) (Z45_Fj1 (@Z45_lj1 N)) (Z45_vj1_0 (@Z45_lj1 N)) := ⟨.inr ⟨by kernel_rfl, fun _ _ _ _ => rfl⟩, Z45_vj1_0_round N (@Z59 N) (@Z58 N) (@Z56 N) (@Z54 N) (@Z53 N) (@Z55 N) (@Z57 N) (@Z52 N) (@Z46 N) (@Z47 N) (@Z48 N) (@Z49 N) (@Z45_lj0 N) (@Z45_lj1 N) (@Z45_lj2 N) (@Z45_lj3 N) (@Z45_lj4 N) (@Z45_lj5 N) (@Z45_lj6 N) (@Z45_l0 N) (@Z45_lj7 N) (@Z45_lj8 N) (@Z45_lj9 N) (@Z45_lj10 N) (@Z45_lj11 N) (@Z45_lj12 N) (@Z45_lj13 N) (@Z45_lj14 N) (@Z45_lj15 N) (@Z45_lj16 N)⟩
theorem Z45_sj1 (N : Nat) : LStep Tryz.prog (E_Z45_T N) ⟨0, Tryz.f5.ntmps, fun i => (Z45_F (@Z45_lj0 N) (@Z45_lj1 N) (@Z45_lj2 N) (@Z45_lj3 N) (@Z45_lj4 N) (@Z45_lj5 N) (@Z45_lj6 N) (@Z45_l0 N) (@Z45_lj7 N) (@Z45_lj8 N) (@Z45_lj9 N) (@Z45_lj10 N) (@Z45_lj11 N) (@Z45_lj12 N) (@Z45_lj13 N) (@Z45_lj14 N) (@Z45_lj15 N) (@Z45_lj16 N) i).at N, []⟩ (bodyAt Tryz.f5 2) (Z45_Fj1 (@Z45_lj1 N)) := all_cons (Z45_vj1_0_ok N) (all_nil)
theorem Z45_vj2_0_ok (N : Nat) : LV Tryz.prog (E_Z45_T N) ⟨0, Tryz.f5.ntmps, fun i => (Z45_F (@Z45_lj0 N) (@Z45_lj1 N) (@Z45_lj2 N) (@Z45_lj3 N) (@Z45_lj4 N) (@Z45_lj5 N) (@Z45_lj6 N) (@Z45_l0 N) (@Z45_lj7 N) (@Z45_lj8 N) (@Z45_lj9 N) (@Z45_lj10 N) (@Z45_lj11 N) (@Z45_lj12 N) (@Z45_lj13 N) (@Z45_lj14 N) (@Z45_lj15 N) (@Z45_lj16 N) i).at N, []⟩ (bodyAt Tryz.f5 7) (Z45_Fj2 (@Z45_lj2 N)) (Z45_vj2_0 (@Z45_lj2 N)) := ⟨.inr ⟨by kernel_rfl, fun _ _ _ _ => rfl⟩, Z45_vj2_0_round N (@Z59 N) (@Z58 N) (@Z56 N) (@Z54 N) (@Z53 N) (@Z55 N) (@Z57 N) (@Z52 N) (@Z46 N) (@Z47 N) (@Z48 N) (@Z49 N) (@Z45_lj0 N) (@Z45_lj1 N) (@Z45_lj2 N) (@Z45_lj3 N) (@Z45_lj4 N) (@Z45_lj5 N) (@Z45_lj6 N) (@Z45_l0 N) (@Z45_lj7 N) (@Z45_lj8 N) (@Z45_lj9 N) (@Z45_lj10 N) (@Z45_lj11 N) (@Z45_lj12 N) (@Z45_lj13 N) (@Z45_lj14 N) (@Z45_lj15 N) (@Z45_lj16 N)⟩
theorem Z45_sj2 (N : Nat) : LStep Tryz.prog (E_Z45_T N) ⟨0, Tryz.f5.ntmps, fun i => (Z45_F (@Z45_lj0 N) (@Z45_lj1 N) (@Z45_lj2 N) (@Z45_lj3 N) (@Z45_lj4 N) (@Z45_lj5 N) (@Z45_lj6 N) (@Z45_l0 N) (@Z45_lj7 N) (@Z45_lj8 N) (@Z45_lj9 N) (@Z45_lj10 N) (@Z45_lj11 N) (@Z45_lj12 N) (@Z45_lj13 N) (@Z45_lj14 N) (@Z45_lj15 N) (@Z45_lj16 N) i).at N, []⟩ (bodyAt Tryz.f5 7) (Z45_Fj2 (@Z45_lj2 N)) := all_cons (Z45_vj2_0_ok N) (all_nil)
theorem Z45_vj3_0_ok (N : Nat) : LV Tryz.prog (E_Z45_T N) ⟨0, Tryz.f5.ntmps, fun i => (Z45_F (@Z45_lj0 N) (@Z45_lj1 N) (@Z45_lj2 N) (@Z45_lj3 N) (@Z45_lj4 N) (@Z45_lj5 N) (@Z45_lj6 N) (@Z45_l0 N) (@Z45_lj7 N) (@Z45_lj8 N) (@Z45_lj9 N) (@Z45_lj10 N) (@Z45_lj11 N) (@Z45_lj12 N) (@Z45_lj13 N) (@Z45_lj14 N) (@Z45_lj15 N) (@Z45_lj16 N) i).at N, []⟩ (bodyAt Tryz.f5 9) (Z45_Fj3 (@Z45_lj3 N)) (Z45_vj3_0 (@Z45_lj3 N)) := ⟨.inr ⟨by kernel_rfl, fun _ _ _ _ => rfl⟩, Z45_vj3_0_round N (@Z59 N) (@Z58 N) (@Z56 N) (@Z54 N) (@Z53 N) (@Z55 N) (@Z57 N) (@Z52 N) (@Z46 N) (@Z47 N) (@Z48 N) (@Z49 N) (@Z45_lj0 N) (@Z45_lj1 N) (@Z45_lj2 N) (@Z45_lj3 N) (@Z45_lj4 N) (@Z45_lj5 N) (@Z45_lj6 N) (@Z45_l0 N) (@Z45_lj7 N) (@Z45_lj8 N) (@Z45_lj9 N) (@Z45_lj10 N) (@Z45_lj11 N) (@Z45_lj12 N) (@Z45_lj13 N) (@Z45_lj14 N) (@Z45_lj15 N) (@Z45_lj16 N)⟩
theorem Z45_sj3 (N : Nat) : LStep Tryz.prog (E_Z45_T N) ⟨0, Tryz.f5.ntmps, fun i => (Z45_F (@Z45_lj0 N) (@Z45_lj1 N) (@Z45_lj2 N) (@Z45_lj3 N) (@Z45_lj4 N) (@Z45_lj5 N) (@Z45_lj6 N) (@Z45_l0 N) (@Z45_lj7 N) (@Z45_lj8 N) (@Z45_lj9 N) (@Z45_lj10 N) (@Z45_lj11 N) (@Z45_lj12 N) (@Z45_lj13 N) (@Z45_lj14 N) (@Z45_lj15 N) (@Z45_lj16 N) i).at N, []⟩ (bodyAt Tryz.f5 9) (Z45_Fj3 (@Z45_lj3 N)) := all_cons (Z45_vj3_0_ok N) (all_nil)
theorem Z45_vj4_0_ok (N : Nat) : LV Tryz.prog (E_Z45_T N) ⟨0, Tryz.f5.ntmps, fun i => (Z45_F (@Z45_lj0 N) (@Z45_lj1 N) (@Z45_lj2 N) (@Z45_lj3 N) (@Z45_lj4 N) (@Z45_lj5 N) (@Z45_lj6 N) (@Z45_l0 N) (@Z45_lj7 N) (@Z45_lj8 N) (@Z45_lj9 N) (@Z45_lj10 N) (@Z45_lj11 N) (@Z45_lj12 N) (@Z45_lj13 N) (@Z45_lj14 N) (@Z45_lj15 N) (@Z45_lj16 N) i).at N, []⟩ (bodyAt Tryz.f5 10) (Z45_Fj4 (@Z45_lj4 N)) (Z45_vj4_0 (@Z45_lj4 N)) := ⟨.inr ⟨by kernel_rfl, fun _ _ _ _ => rfl⟩, Z45_vj4_0_round N (@Z59 N) (@Z58 N) (@Z56 N) (@Z54 N) (@Z53 N) (@Z55 N) (@Z57 N) (@Z52 N) (@Z46 N) (@Z47 N) (@Z48 N) (@Z49 N) (@Z45_lj0 N) (@Z45_lj1 N) (@Z45_lj2 N) (@Z45_lj3 N) (@Z45_lj4 N) (@Z45_lj5 N) (@Z45_lj6 N) (@Z45_l0 N) (@Z45_lj7 N) (@Z45_lj8 N) (@Z45_lj9 N) (@Z45_lj10 N) (@Z45_lj11 N) (@Z45_lj12 N) (@Z45_lj13 N) (@Z45_lj14 N) (@Z45_lj15 N) (@Z45_lj16 N)⟩
theorem Z45_sj4 (N : Nat) : LStep Tryz.prog (E_Z45_T N) ⟨0, Tryz.f5.ntmps, fun i => (Z45_F (@Z45_lj0 N) (@Z45_lj1 N) (@Z45_lj2 N) (@Z45_lj3 N) (@Z45_lj4 N) (@Z45_lj5 N) (@Z45_lj6 N) (@Z45_l0 N) (@Z45_lj7 N) (@Z45_lj8 N) (@Z45_lj9 N) (@Z45_lj10 N) (@Z45_lj11 N) (@Z45_lj12 N) (@Z45_lj13 N) (@Z45_lj14 N) (@Z45_lj15 N) (@Z45_lj16 N) i).at N, []⟩ (bodyAt Tryz.f5 10) (Z45_Fj4 (@Z45_lj4 N)) := all_cons (Z45_vj4_0_ok N) (all_nil)
theorem Z45_vj5_0_ok (N : Nat) : LV Tryz.prog (E_Z45_T N) ⟨0, Tryz.f5.ntmps, fun i => (Z45_F (@Z45_lj0 N) (@Z45_lj1 N) (@Z45_lj2 N) (@Z45_lj3 N) (@Z45_lj4 N) (@Z45_lj5 N) (@Z45_lj6 N) (@Z45_l0 N) (@Z45_lj7 N) (@Z45_lj8 N) (@Z45_lj9 N) (@Z45_lj10 N) (@Z45_lj11 N) (@Z45_lj12 N) (@Z45_lj13 N) (@Z45_lj14 N) (@Z45_lj15 N) (@Z45_lj16 N) i).at N, []⟩ (bodyAt Tryz.f5 11) (Z45_Fj5 (@Z45_lj5 N)) (Z45_vj5_0 (@Z45_lj5 N)) := ⟨.inr ⟨by kernel_rfl, fun _ _ _ _ => rfl⟩, Z45_vj5_0_round N (@Z59 N) (@Z58 N) (@Z56 N) (@Z54 N) (@Z53 N) (@Z55 N) (@Z57 N) (@Z52 N) (@Z46 N) (@Z47 N) (@Z48 N) (@Z49 N) (@Z45_lj0 N) (@Z45_lj1 N) (@Z45_lj2 N) (@Z45_lj3 N) (@Z45_lj4 N) (@Z45_lj5 N) (@Z45_lj6 N) (@Z45_l0 N) (@Z45_lj7 N) (@Z45_lj8 N) (@Z45_lj9 N) (@Z45_lj10 N) (@Z45_lj11 N) (@Z45_lj12 N) (@Z45_lj13 N) (@Z45_lj14 N) (@Z45_lj15 N) (@Z45_lj16 N)⟩
theorem Z45_sj5 (N : Nat) : LStep Tryz.prog (E_Z45_T N) ⟨0, Tryz.f5.ntmps, fun i => (Z45_F (@Z45_lj0 N) (@Z45_lj1 N) (@Z45_lj2 N) (@Z45_lj3 N) (@Z45_lj4 N) (@Z45_lj5 N) (@Z45_lj6 N) (@Z45_l0 N) (@Z45_lj7 N) (@Z45_lj8 N) (@Z45_lj9 N) (@Z45_lj10 N) (@Z45_lj11 N) (@Z45_lj12 N) (@Z45_lj13 N) (@Z45_lj14 N) (@Z45_lj15 N) (@Z45_lj16 N) i).at N, []⟩ (bodyAt Tryz.f5 11) (Z45_Fj5 (@Z45_lj5 N)) := all_cons (Z45_vj5_0_ok N) (all_nil)
theorem Z45_vj6_0_ok (N : Nat) : LV Tryz.prog (E_Z45_T N) ⟨0, Tryz.f5.ntmps, fun i => (Z45_F (@Z45_lj0 N) (@Z45_lj1 N) (@Z45_lj2 N) (@Z45_lj3 N) (@Z45_lj4 N) (@Z45_lj5 N) (@Z45_lj6 N) (@Z45_l0 N) (@Z45_lj7 N) (@Z45_lj8 N) (@Z45_lj9 N) (@Z45_lj10 N) (@Z45_lj11 N) (@Z45_lj12 N) (@Z45_lj13 N) (@Z45_lj14 N) (@Z45_lj15 N) (@Z45_lj16 N) i).at N, []⟩ (bodyAt Tryz.f5 12) (Z45_Fj6 (@Z45_lj6 N)) (Z45_vj6_0 (@Z45_lj6 N)) := ⟨.inr ⟨by kernel_rfl, fun _ _ _ _ => rfl⟩, Z45_vj6_0_round N (@Z59 N) (@Z58 N) (@Z56 N) (@Z54 N) (@Z53 N) (@Z55 N) (@Z57 N) (@Z52 N) (@Z46 N) (@Z47 N) (@Z48 N) (@Z49 N) (@Z45_lj0 N) (@Z45_lj1 N) (@Z45_lj2 N) (@Z45_lj3 N) (@Z45_lj4 N) (@Z45_lj5 N) (@Z45_lj6 N) (@Z45_l0 N) (@Z45_lj7 N) (@Z45_lj8 N) (@Z45_lj9 N) (@Z45_lj10 N) (@Z45_lj11 N) (@Z45_lj12 N) (@Z45_lj13 N) (@Z45_lj14 N) (@Z45_lj15 N) (@Z45_lj16 N)⟩
theorem Z45_sj6 (N : Nat) : LStep Tryz.prog (E_Z45_T N) ⟨0, Tryz.f5.ntmps, fun i => (Z45_F (@Z45_lj0 N) (@Z45_lj1 N) (@Z45_lj2 N) (@Z45_lj3 N) (@Z45_lj4 N) (@Z45_lj5 N) (@Z45_lj6 N) (@Z45_l0 N) (@Z45_lj7 N) (@Z45_lj8 N) (@Z45_lj9 N) (@Z45_lj10 N) (@Z45_lj11 N) (@Z45_lj12 N) (@Z45_lj13 N) (@Z45_lj14 N) (@Z45_lj15 N) (@Z45_lj16 N) i).at N, []⟩ (bodyAt Tryz.f5 12) (Z45_Fj6 (@Z45_lj6 N)) := all_cons (Z45_vj6_0_ok N) (all_nil)
theorem Z45_vj7_0_ok (N : Nat) : LV Tryz.prog (E_Z45_T N) ⟨0, Tryz.f5.ntmps, fun i => (Z45_F (@Z45_lj0 N) (@Z45_lj1 N) (@Z45_lj2 N) (@Z45_lj3 N) (@Z45_lj4 N) (@Z45_lj5 N) (@Z45_lj6 N) (@Z45_l0 N) (@Z45_lj7 N) (@Z45_lj8 N) (@Z45_lj9 N) (@Z45_lj10 N) (@Z45_lj11 N) (@Z45_lj12 N) (@Z45_lj13 N) (@Z45_lj14 N) (@Z45_lj15 N) (@Z45_lj16 N) i).at N, []⟩ (bodyAt Tryz.f5 15) (Z45_Fj7 (@Z45_lj7 N)) (Z45_vj7_0 (@Z45_lj7 N)) := ⟨.inr ⟨by kernel_rfl, fun _ _ _ _ => rfl⟩, Z45_vj7_0_round N (@Z59 N) (@Z58 N) (@Z56 N) (@Z54 N) (@Z53 N) (@Z55 N) (@Z57 N) (@Z52 N) (@Z46 N) (@Z47 N) (@Z48 N) (@Z49 N) (@Z45_lj0 N) (@Z45_lj1 N) (@Z45_lj2 N) (@Z45_lj3 N) (@Z45_lj4 N) (@Z45_lj5 N) (@Z45_lj6 N) (@Z45_l0 N) (@Z45_lj7 N) (@Z45_lj8 N) (@Z45_lj9 N) (@Z45_lj10 N) (@Z45_lj11 N) (@Z45_lj12 N) (@Z45_lj13 N) (@Z45_lj14 N) (@Z45_lj15 N) (@Z45_lj16 N)⟩
theorem Z45_sj7 (N : Nat) : LStep Tryz.prog (E_Z45_T N) ⟨0, Tryz.f5.ntmps, fun i => (Z45_F (@Z45_lj0 N) (@Z45_lj1 N) (@Z45_lj2 N) (@Z45_lj3 N) (@Z45_lj4 N) (@Z45_lj5 N) (@Z45_lj6 N) (@Z45_l0 N) (@Z45_lj7 N) (@Z45_lj8 N) (@Z45_lj9 N) (@Z45_lj10 N) (@Z45_lj11 N) (@Z45_lj12 N) (@Z45_lj13 N) (@Z45_lj14 N) (@Z45_lj15 N) (@Z45_lj16 N) i).at N, []⟩ (bodyAt Tryz.f5 15) (Z45_Fj7 (@Z45_lj7 N)) := all_cons (Z45_vj7_0_ok N) (all_nil)
theorem Z45_vj8_0_ok (N : Nat) : LV Tryz.prog (E_Z45_T N) ⟨0, Tryz.f5.ntmps, fun i => (Z45_F (@Z45_lj0 N) (@Z45_lj1 N) (@Z45_lj2 N) (@Z45_lj3 N) (@Z45_lj4 N) (@Z45_lj5 N) (@Z45_lj6 N) (@Z45_l0 N) (@Z45_lj7 N) (@Z45_lj8 N) (@Z45_lj9 N) (@Z45_lj10 N) (@Z45_lj11 N) (@Z45_lj12 N) (@Z45_lj13 N) (@Z45_lj14 N) (@Z45_lj15 N) (@Z45_lj16 N) i).at N, []⟩ (bodyAt Tryz.f5 17) (Z45_Fj8 (@Z45_lj8 N)) (Z45_vj8_0 (@Z45_lj8 N)) := ⟨.inr ⟨by kernel_rfl, fun _ _ _ _ => rfl⟩, Z45_vj8_0_round N (@Z59 N) (@Z58 N) (@Z56 N) (@Z54 N) (@Z53 N) (@Z55 N) (@Z57 N) (@Z52 N) (@Z46 N) (@Z47 N) (@Z48 N) (@Z49 N) (@Z45_lj0 N) (@Z45_lj1 N) (@Z45_lj2 N) (@Z45_lj3 N) (@Z45_lj4 N) (@Z45_lj5 N) (@Z45_lj6 N) (@Z45_l0 N) (@Z45_lj7 N) (@Z45_lj8 N) (@Z45_lj9 N) (@Z45_lj10 N) (@Z45_lj11 N) (@Z45_lj12 N) (@Z45_lj13 N) (@Z45_lj14 N) (@Z45_lj15 N) (@Z45_lj16 N)⟩
theorem Z45_sj8 (N : Nat) : LStep Tryz.prog (E_Z45_T N) ⟨0, Tryz.f5.ntmps, fun i => (Z45_F (@Z45_lj0 N) (@Z45_lj1 N) (@Z45_lj2 N) (@Z45_lj3 N) (@Z45_lj4 N) (@Z45_lj5 N) (@Z45_lj6 N) (@Z45_l0 N) (@Z45_lj7 N) (@Z45_lj8 N) (@Z45_lj9 N) (@Z45_lj10 N) (@Z45_lj11 N) (@Z45_lj12 N) (@Z45_lj13 N) (@Z45_lj14 N) (@Z45_lj15 N) (@Z45_lj16 N) i).at N, []⟩ (bodyAt Tryz.f5 17) (Z45_Fj8 (@Z45_lj8 N)) := all_cons (Z45_vj8_0_ok N) (all_nil)
theorem Z45_vj9_0_ok (N : Nat) : LV Tryz.prog (E_Z45_T N) ⟨0, Tryz.f5.ntmps, fun i => (Z45_F (@Z45_lj0 N) (@Z45_lj1 N) (@Z45_lj2 N) (@Z45_lj3 N) (@Z45_lj4 N) (@Z45_lj5 N) (@Z45_lj6 N) (@Z45_l0 N) (@Z45_lj7 N) (@Z45_lj8 N) (@Z45_lj9 N) (@Z45_lj10 N) (@Z45_lj11 N) (@Z45_lj12 N) (@Z45_lj13 N) (@Z45_lj14 N) (@Z45_lj15 N) (@Z45_lj16 N) i).at N, []⟩ (bodyAt Tryz.f5 18) (Z45_Fj9 (@Z45_lj9 N)) (Z45_vj9_0 (@Z45_lj9 N)) := ⟨.inr ⟨by kernel_rfl, fun _ _ _ _ => rfl⟩, Z45_vj9_0_round N (@Z59 N) (@Z58 N) (@Z56 N) (@Z54 N) (@Z53 N) (@Z55 N) (@Z57 N) (@Z52 N) (@Z46 N) (@Z47 N) (@Z48 N) (@Z49 N) (@Z45_lj0 N) (@Z45_lj1 N) (@Z45_lj2 N) (@Z45_lj3 N) (@Z45_lj4 N) (@Z45_lj5 N) (@Z45_lj6 N) (@Z45_l0 N) (@Z45_lj7 N) (@Z45_lj8 N) (@Z45_lj9 N) (@Z45_lj10 N) (@Z45_lj11 N) (@Z45_lj12 N) (@Z45_lj13 N) (@Z45_lj14 N) (@Z45_lj15 N) (@Z45_lj16 N)⟩
theorem Z45_sj9 (N : Nat) : LStep Tryz.prog (E_Z45_T N) ⟨0, Tryz.f5.ntmps, fun i => (Z45_F (@Z45_lj0 N) (@Z45_lj1 N) (@Z45_lj2 N) (@Z45_lj3 N) (@Z45_lj4 N) (@Z45_lj5 N) (@Z45_lj6 N) (@Z45_l0 N) (@Z45_lj7 N) (@Z45_lj8 N) (@Z45_lj9 N) (@Z45_lj10 N) (@Z45_lj11 N) (@Z45_lj12 N) (@Z45_lj13 N) (@Z45_lj14 N) (@Z45_lj15 N) (@Z45_lj16 N) i).at N, []⟩ (bodyAt Tryz.f5 18) (Z45_Fj9 (@Z45_lj9 N)) := all_cons (Z45_vj9_0_ok N) (all_nil)
theorem Z45_vj10_0_ok (N : Nat) : LV Tryz.prog (E_Z45_T N) ⟨0, Tryz.f5.ntmps, fun i => (Z45_F (@Z45_lj0 N) (@Z45_lj1 N) (@Z45_lj2 N) (@Z45_lj3 N) (@Z45_lj4 N) (@Z45_lj5 N) (@Z45_lj6 N) (@Z45_l0 N) (@Z45_lj7 N) (@Z45_lj8 N) (@Z45_lj9 N) (@Z45_lj10 N) (@Z45_lj11 N) (@Z45_lj12 N) (@Z45_lj13 N) (@Z45_lj14 N) (@Z45_lj15 N) (@Z45_lj16 N) i).at N, []⟩ (bodyAt Tryz.f5 19) (Z45_Fj10 (@Z45_lj10 N)) (Z45_vj10_0 (@Z45_lj10 N)) := ⟨.inr ⟨by kernel_rfl, fun _ _ _ _ => rfl⟩, Z45_vj10_0_round N (@Z59 N) (@Z58 N) (@Z56 N) (@Z54 N) (@Z53 N) (@Z55 N) (@Z57 N) (@Z52 N) (@Z46 N) (@Z47 N) (@Z48 N) (@Z49 N) (@Z45_lj0 N) (@Z45_lj1 N) (@Z45_lj2 N) (@Z45_lj3 N) (@Z45_lj4 N) (@Z45_lj5 N) (@Z45_lj6 N) (@Z45_l0 N) (@Z45_lj7 N) (@Z45_lj8 N) (@Z45_lj9 N) (@Z45_lj10 N) (@Z45_lj11 N) (@Z45_lj12 N) (@Z45_lj13 N) (@Z45_lj14 N) (@Z45_lj15 N) (@Z45_lj16 N)⟩
theorem Z45_sj10 (N : Nat) : LStep Tryz.prog (E_Z45_T N) ⟨0, Tryz.f5.ntmps, fun i => (Z45_F (@Z45_lj0 N) (@Z45_lj1 N) (@Z45_lj2 N) (@Z45_lj3 N) (@Z45_lj4 N) (@Z45_lj5 N) (@Z45_lj6 N) (@Z45_l0 N) (@Z45_lj7 N) (@Z45_lj8 N) (@Z45_lj9 N) (@Z45_lj10 N) (@Z45_lj11 N) (@Z45_lj12 N) (@Z45_lj13 N) (@Z45_lj14 N) (@Z45_lj15 N) (@Z45_lj16 N) i).at N, []⟩ (bodyAt Tryz.f5 19) (Z45_Fj10 (@Z45_lj10 N)) := all_cons (Z45_vj10_0_ok N) (all_nil)
theorem Z45_vj11_0_ok (N : Nat) : LV Tryz.prog (E_Z45_T N) ⟨0, Tryz.f5.ntmps, fun i => (Z45_F (@Z45_lj0 N) (@Z45_lj1 N) (@Z45_lj2 N) (@Z45_lj3 N) (@Z45_lj4 N) (@Z45_lj5 N) (@Z45_lj6 N) (@Z45_l0 N) (@Z45_lj7 N) (@Z45_lj8 N) (@Z45_lj9 N) (@Z45_lj10 N) (@Z45_lj11 N) (@Z45_lj12 N) (@Z45_lj13 N) (@Z45_lj14 N) (@Z45_lj15 N) (@Z45_lj16 N) i).at N, []⟩ (bodyAt Tryz.f5 21) (Z45_Fj11 (@Z45_lj11 N)) (Z45_vj11_0 (@Z45_lj11 N)) := ⟨.inr ⟨by kernel_rfl, fun _ _ _ _ => rfl⟩, Z45_vj11_0_round N (@Z59 N) (@Z58 N) (@Z56 N) (@Z54 N) (@Z53 N) (@Z55 N) (@Z57 N) (@Z52 N) (@Z46 N) (@Z47 N) (@Z48 N) (@Z49 N) (@Z45_lj0 N) (@Z45_lj1 N) (@Z45_lj2 N) (@Z45_lj3 N) (@Z45_lj4 N) (@Z45_lj5 N) (@Z45_lj6 N) (@Z45_l0 N) (@Z45_lj7 N) (@Z45_lj8 N) (@Z45_lj9 N) (@Z45_lj10 N) (@Z45_lj11 N) (@Z45_lj12 N) (@Z45_lj13 N) (@Z45_lj14 N) (@Z45_lj15 N) (@Z45_lj16 N)⟩
theorem Z45_sj11 (N : Nat) : LStep Tryz.prog (E_Z45_T N) ⟨0, Tryz.f5.ntmps, fun i => (Z45_F (@Z45_lj0 N) (@Z45_lj1 N) (@Z45_lj2 N) (@Z45_lj3 N) (@Z45_lj4 N) (@Z45_lj5 N) (@Z45_lj6 N) (@Z45_l0 N) (@Z45_lj7 N) (@Z45_lj8 N) (@Z45_lj9 N) (@Z45_lj10 N) (@Z45_lj11 N) (@Z45_lj12 N) (@Z45_lj13 N) (@Z45_lj14 N) (@Z45_lj15 N) (@Z45_lj16 N) i).at N, []⟩ (bodyAt Tryz.f5 21) (Z45_Fj11 (@Z45_lj11 N)) := all_cons (Z45_vj11_0_ok N) (all_nil)
theorem Z45_vj12_0_ok (N : Nat) : LV Tryz.prog (E_Z45_T N) ⟨0, Tryz.f5.ntmps, fun i => (Z45_F (@Z45_lj0 N) (@Z45_lj1 N) (@Z45_lj2 N) (@Z45_lj3 N) (@Z45_lj4 N) (@Z45_lj5 N) (@Z45_lj6 N) (@Z45_l0 N) (@Z45_lj7 N) (@Z45_lj8 N) (@Z45_lj9 N) (@Z45_lj10 N) (@Z45_lj11 N) (@Z45_lj12 N) (@Z45_lj13 N) (@Z45_lj14 N) (@Z45_lj15 N) (@Z45_lj16 N) i).at N, []⟩ (bodyAt Tryz.f5 22) (Z45_Fj12 (@Z45_lj12 N)) (Z45_vj12_0 (@Z45_lj12 N)) := ⟨.inr ⟨by kernel_rfl, fun _ _ _ _ => rfl⟩, Z45_vj12_0_round N (@Z59 N) (@Z58 N) (@Z56 N) (@Z54 N) (@Z53 N) (@Z55 N) (@Z57 N) (@Z52 N) (@Z46 N) (@Z47 N) (@Z48 N) (@Z49 N) (@Z45_lj0 N) (@Z45_lj1 N) (@Z45_lj2 N) (@Z45_lj3 N) (@Z45_lj4 N) (@Z45_lj5 N) (@Z45_lj6 N) (@Z45_l0 N) (@Z45_lj7 N) (@Z45_lj8 N) (@Z45_lj9 N) (@Z45_lj10 N) (@Z45_lj11 N) (@Z45_lj12 N) (@Z45_lj13 N) (@Z45_lj14 N) (@Z45_lj15 N) (@Z45_lj16 N)⟩
theorem Z45_sj12 (N : Nat) : LStep Tryz.prog (E_Z45_T N) ⟨0, Tryz.f5.ntmps, fun i => (Z45_F (@Z45_lj0 N) (@Z45_lj1 N) (@Z45_lj2 N) (@Z45_lj3 N) (@Z45_lj4 N) (@Z45_lj5 N) (@Z45_lj6 N) (@Z45_l0 N) (@Z45_lj7 N) (@Z45_lj8 N) (@Z45_lj9 N) (@Z45_lj10 N) (@Z45_lj11 N) (@Z45_lj12 N) (@Z45_lj13 N) (@Z45_lj14 N) (@Z45_lj15 N) (@Z45_lj16 N) i).at N, []⟩ (bodyAt Tryz.f5 22) (Z45_Fj12 (@Z45_lj12 N)) := all_cons (Z45_vj12_0_ok N) (all_nil)
theorem Z45_vj13_0_ok (N : Nat) : LV Tryz.prog (E_Z45_T N) ⟨0, Tryz.f5.ntmps, fun i => (Z45_F (@Z45_lj0 N) (@Z45_lj1 N) (@Z45_lj2 N) (@Z45_lj3 N) (@Z45_lj4 N) (@Z45_lj5 N) (@Z45_lj6 N) (@Z45_l0 N) (@Z45_lj7 N) (@Z45_lj8 N) (@Z45_lj9 N) (@Z45_lj10 N) (@Z45_lj11 N) (@Z45_lj12 N) (@Z45_lj13 N) (@Z45_lj14 N) (@Z45_lj15 N) (@Z45_lj16 N) i).at N, []⟩ (bodyAt Tryz.f5 23) (Z45_Fj13 (@Z45_lj13 N)) (Z45_vj13_0 (@Z45_lj13 N)) := ⟨.inr ⟨by kernel_rfl, fun _ _ _ _ => rfl⟩, Z45_vj13_0_round N (@Z59 N) (@Z58 N) (@Z56 N) (@Z54 N) (@Z53 N) (@Z55 N) (@Z57 N) (@Z52 N) (@Z46 N) (@Z47 N) (@Z48 N) (@Z49 N) (@Z45_lj0 N) (@Z45_lj1 N) (@Z45_lj2 N) (@Z45_lj3 N) (@Z45_lj4 N) (@Z45_lj5 N) (@Z45_lj6 N) (@Z45_l0 N) (@Z45_lj7 N) (@Z45_lj8 N) (@Z45_lj9 N) (@Z45_lj10 N) (@Z45_lj11 N) (@Z45_lj12 N) (@Z45_lj13 N) (@Z45_lj14 N) (@Z45_lj15 N) (@Z45_lj16 N)⟩
theorem Z45_sj13 (N : Nat) : LStep Tryz.prog (E_Z45_T N) ⟨0, Tryz.f5.ntmps, fun i => (Z45_F (@Z45_lj0 N) (@Z45_lj1 N) (@Z45_lj2 N) (@Z45_lj3 N) (@Z45_lj4 N) (@Z45_lj5 N) (@Z45_lj6 N) (@Z45_l0 N) (@Z45_lj7 N) (@Z45_lj8 N) (@Z45_lj9 N) (@Z45_lj10 N) (@Z45_lj11 N) (@Z45_lj12 N) (@Z45_lj13 N) (@Z45_lj14 N) (@Z45_lj15 N) (@Z45_lj16 N) i).at N, []⟩ (bodyAt Tryz.f5 23) (Z45_Fj13 (@Z45_lj13 N)) := all_cons (Z45_vj13_0_ok N) (all_nil)
theorem Z45_vj14_0_ok (N : Nat) : LV Tryz.prog (E_Z45_T N) ⟨0, Tryz.f5.ntmps, fun i => (Z45_F (@Z45_lj0 N) (@Z45_lj1 N) (@Z45_lj2 N) (@Z45_lj3 N) (@Z45_lj4 N) (@Z45_lj5 N) (@Z45_lj6 N) (@Z45_l0 N) (@Z45_lj7 N) (@Z45_lj8 N) (@Z45_lj9 N) (@Z45_lj10 N) (@Z45_lj11 N) (@Z45_lj12 N) (@Z45_lj13 N) (@Z45_lj14 N) (@Z45_lj15 N) (@Z45_lj16 N) i).at N, []⟩ (bodyAt Tryz.f5 24) (Z45_Fj14 (@Z45_lj14 N)) (Z45_vj14_0 (@Z45_lj14 N)) := ⟨.inr ⟨by kernel_rfl, fun _ _ _ _ => rfl⟩, Z45_vj14_0_round N (@Z59 N) (@Z58 N) (@Z56 N) (@Z54 N) (@Z53 N) (@Z55 N) (@Z57 N) (@Z52 N) (@Z46 N) (@Z47 N) (@Z48 N) (@Z49 N) (@Z45_lj0 N) (@Z45_lj1 N) (@Z45_lj2 N) (@Z45_lj3 N) (@Z45_lj4 N) (@Z45_lj5 N) (@Z45_lj6 N) (@Z45_l0 N) (@Z45_lj7 N) (@Z45_lj8 N) (@Z45_lj9 N) (@Z45_lj10 N) (@Z45_lj11 N) (@Z45_lj12 N) (@Z45_lj13 N) (@Z45_lj14 N) (@Z45_lj15 N) (@Z45_lj16 N)⟩
theorem Z45_sj14 (N : Nat) : LStep Tryz.prog (E_Z45_T N) ⟨0, Tryz.f5.ntmps, fun i => (Z45_F (@Z45_lj0 N) (@Z45_lj1 N) (@Z45_lj2 N) (@Z45_lj3 N) (@Z45_lj4 N) (@Z45_lj5 N) (@Z45_lj6 N) (@Z45_l0 N) (@Z45_lj7 N) (@Z45_lj8 N) (@Z45_lj9 N) (@Z45_lj10 N) (@Z45_lj11 N) (@Z45_lj12 N) (@Z45_lj13 N) (@Z45_lj14 N) (@Z45_lj15 N) (@Z45_lj16 N) i).at N, []⟩ (bodyAt Tryz.f5 24) (Z45_Fj14 (@Z45_lj14 N)) := all_cons (Z45_vj14_0_ok N) (all_nil)
theorem Z45_vj15_0_ok (N : Nat) : LV Tryz.prog (E_Z45_T N) ⟨0, Tryz.f5.ntmps, fun i => (Z45_F (@Z45_lj0 N) (@Z45_lj1 N) (@Z45_lj2 N) (@Z45_lj3 N) (@Z45_lj4 N) (@Z45_lj5 N) (@Z45_lj6 N) (@Z45_l0 N) (@Z45_lj7 N) (@Z45_lj8 N) (@Z45_lj9 N) (@Z45_lj10 N) (@Z45_lj11 N) (@Z45_lj12 N) (@Z45_lj13 N) (@Z45_lj14 N) (@Z45_lj15 N) (@Z45_lj16 N) i).at N, []⟩ (bodyAt Tryz.f5 25) (Z45_Fj15 (@Z45_lj15 N)) (Z45_vj15_0 (@Z45_lj15 N)) := ⟨.inr ⟨by kernel_rfl, fun _ _ _ _ => rfl⟩, Z45_vj15_0_round N (@Z59 N) (@Z58 N) (@Z56 N) (@Z54 N) (@Z53 N) (@Z55 N) (@Z57 N) (@Z52 N) (@Z46 N) (@Z47 N) (@Z48 N) (@Z49 N) (@Z45_lj0 N) (@Z45_lj1 N) (@Z45_lj2 N) (@Z45_lj3 N) (@Z45_lj4 N) (@Z45_lj5 N) (@Z45_lj6 N) (@Z45_l0 N) (@Z45_lj7 N) (@Z45_lj8 N) (@Z45_lj9 N) (@Z45_lj10 N) (@Z45_lj11 N) (@Z45_lj12 N) (@Z45_lj13 N) (@Z45_lj14 N) (@Z45_lj15 N) (@Z45_lj16 N)⟩
theorem Z45_sj15 (N : Nat) : LStep Tryz.prog (E_Z45_T N) ⟨0, Tryz.f5.ntmps, fun i => (Z45_F (@Z45_lj0 N) (@Z45_lj1 N) (@Z45_lj2 N) (@Z45_lj3 N) (@Z45_lj4 N) (@Z45_lj5 N) (@Z45_lj6 N) (@Z45_l0 N) (@Z45_lj7 N) (@Z45_lj8 N) (@Z45_lj9 N) (@Z45_lj10 N) (@Z45_lj11 N) (@Z45_lj12 N) (@Z45_lj13 N) (@Z45_lj14 N) (@Z45_lj15 N) (@Z45_lj16 N) i).at N, []⟩ (bodyAt Tryz.f5 25) (Z45_Fj15 (@Z45_lj15 N)) := all_cons (Z45_vj15_0_ok N) (all_nil)
theorem Z45_vj16_0_ok (N : Nat) : LV Tryz.prog (E_Z45_T N) ⟨0, Tryz.f5.ntmps, fun i => (Z45_F (@Z45_lj0 N) (@Z45_lj1 N) (@Z45_lj2 N) (@Z45_lj3 N) (@Z45_lj4 N) (@Z45_lj5 N) (@Z45_lj6 N) (@Z45_l0 N) (@Z45_lj7 N) (@Z45_lj8 N) (@Z45_lj9 N) (@Z45_lj10 N) (@Z45_lj11 N) (@Z45_lj12 N) (@Z45_lj13 N) (@Z45_lj14 N) (@Z45_lj15 N) (@Z45_lj16 N) i).at N, []⟩ (bodyAt Tryz.f5 26) (Z45_Fj16 (@Z45_lj16 N)) (Z45_vj16_0 (@Z45_lj16 N)) := ⟨.inr ⟨by kernel_rfl, fun _ _ _ _ => rfl⟩, Z45_vj16_0_round N (@Z59 N) (@Z58 N) (@Z56 N) (@Z54 N) (@Z53 N) (@Z55 N) (@Z57 N) (@Z52 N) (@Z46 N) (@Z47 N) (@Z48 N) (@Z49 N) (@Z45_lj0 N) (@Z45_lj1 N) (@Z45_lj2 N) (@Z45_lj3 N) (@Z45_lj4 N) (@Z45_lj5 N) (@Z45_lj6 N) (@Z45_l0 N) (@Z45_lj7 N) (@Z45_lj8 N) (@Z45_lj9 N) (@Z45_lj10 N) (@Z45_lj11 N) (@Z45_lj12 N) (@Z45_lj13 N) (@Z45_lj14 N) (@Z45_lj15 N) (@Z45_lj16 N)⟩
theorem Z45_sj16 (N : Nat) : LStep Tryz.prog (E_Z45_T N) ⟨0, Tryz.f5.ntmps, fun i => (Z45_F (@Z45_lj0 N) (@Z45_lj1 N) (@Z45_lj2 N) (@Z45_lj3 N) (@Z45_lj4 N) (@Z45_lj5 N) (@Z45_lj6 N) (@Z45_l0 N) (@Z45_lj7 N) (@Z45_lj8 N) (@Z45_lj9 N) (@Z45_lj10 N) (@Z45_lj11 N) (@Z45_lj12 N) (@Z45_lj13 N) (@Z45_lj14 N) (@Z45_lj15 N) (@Z45_lj16 N) i).at N, []⟩ (bodyAt Tryz.f5 26) (Z45_Fj16 (@Z45_lj16 N)) := all_cons (Z45_vj16_0_ok N) (all_nil)
theorem Z45_ok (N : Nat) : VarOK Tryz.prog (E_Z45_T N) Tryz.f5 (codeOf Tryz.f5) (Z45_W (Z45 N)) :=
  VarOK.of (E_Z45_Tok N) (by kernel_rfl) pn (Z45_F (@Z45_lj0 N) (@Z45_lj1 N) (@Z45_lj2 N) (@Z45_lj3 N) (@Z45_lj4 N) (@Z45_lj5 N) (@Z45_lj6 N) (@Z45_l0 N) (@Z45_lj7 N) (@Z45_lj8 N) (@Z45_lj9 N) (@Z45_lj10 N) (@Z45_lj11 N) (@Z45_lj12 N) (@Z45_lj13 N) (@Z45_lj14 N) (@Z45_lj15 N) (@Z45_lj16 N)) N (fun _ => LStep.pick (Z45_sj0 N) (LStep.pick (Z45_sj1 N) (LStep.pick (Z45_sj2 N) (LStep.pick (Z45_sj3 N) (LStep.pick (Z45_sj4 N) (LStep.pick (Z45_sj5 N) (LStep.pick (Z45_sj6 N) (LStep.pick (all_cons ⟨.inl fun _ _ _ => rfl, fun n t u K => Z45_v0_0_round N _ _ _ _ _ _ _ _ _ _ _ _ _ _ _ _ _ _ _ _ _ _ _ _ _ _ _ _ _ _ _ n t u K⟩ (all_nil)) (LStep.pick (Z45_sj7 N) (LStep.pick (Z45_sj8 N) (LStep.pick (Z45_sj9 N) (LStep.pick (Z45_sj10 N) (LStep.pick (Z45_sj11 N) (LStep.pick (Z45_sj12 N) (LStep.pick (Z45_sj13 N) (LStep.pick (Z45_sj14 N) (LStep.pick (Z45_sj15 N) (LStep.pick (Z45_sj16 N) (LStep.none))))))))))))))))))) fun t u K => Z45_body N _ _ _ _ _ _ _ _ _ _ _ _ _ _ _ _ _ _ _ _ _ _ _ _ _ _ _ _ _ _ _ t u K
theorem E_Z45_ok (N : Nat) : EntOK Tryz.prog 5 (E_Z45 N) := EntOK.vars (E_Z45_Tok N) Tryz.func5 (by kernel_rfl) (by kernel_rfl) (all_cons (Z45_ok N) (all_nil))
end Go.Proofs.YthdgncnbnallcaaGreat
