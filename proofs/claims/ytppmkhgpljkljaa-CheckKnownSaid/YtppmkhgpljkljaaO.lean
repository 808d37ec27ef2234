/-
  Each entry is borne out (printed by a program of this work).
-/
import Derived.Test.YtppmkhgpljkljaaX
import Derived.Test.YtppmkhgpljkljaaQ0
import Derived.Test.YtppmkhgpljkljaaQ1
import Derived.Test.YtppmkhgpljkljaaQ2
import Derived.Test.YtppmkhgpljkljaaQ3
set_option linter.unusedVariables false
set_option maxRecDepth 100000
namespace Go.Proofs.Ytppmkhgpljkljaa
open Go.Gx
theorem E_Z30_Tok (N : Nat) : TabOK Try.prog (E_Z30_T N) := TabOK.cons E_stringslite_IndexByte_ok (TabOK.nil)
theorem Z30_ok (N : Nat) : VarOK Try.prog (E_Z30_T N) Try.f52 (codeOf Try.f52) (Z30_W (Z30 N)) :=
  VarOK.of (E_Z30_Tok N) (by kernel_rfl) pn (Z30_F) N (fun _ => LStep.none) fun t u K => Z30_body N _ _ t u K
theorem E_Z30_ok (N : Nat) : EntOK Try.prog 52 (E_Z30 N) := EntOK.vars (E_Z30_Tok N) Try.func52 (by kernel_rfl) (by kernel_rfl) (all_cons (Z30_ok N) (all_nil))
theorem E_Z29_Tok (N : Nat) : TabOK Try.prog (E_Z29_T N) := TabOK.cons (E_Z30_ok N) (TabOK.nil)
theorem Z29_ok (N : Nat) : VarOK Try.prog (E_Z29_T N) Try.f47 (codeOf Try.f47) (Z29_W (Z29 N)) :=
  VarOK.of (E_Z29_Tok N) (by kernel_rfl) pn (Z29_F) N (fun _ => LStep.none) fun t u K => Z29_body N _ _ t u K
theorem E_Z29_ok (N : Nat) : EntOK Try.prog 47 (E_Z29 N) := EntOK.vars (E_Z29_Tok N) Try.func47 (by kernel_rfl) (by kernel_rfl) (all_cons (Z29_ok N) (all_nil))
theorem E_Z28_Tok (N : Nat) : TabOK Try.prog (E_Z28_T N) := TabOK.cons (E_Z29_ok N) (TabOK.nil)
theorem Z28_ok (N : Nat) : VarOK Try.prog (E_Z28_T N) Try.f39 (codeOf Try.f39) (Z28_W (Z28 N)) :=
  VarOK.of (E_Z28_Tok N) (by kernel_rfl) pn (Z28_F) N (fun _ => LStep.none) fun t u K => Z28_body N _ _ t u K
theorem E_Z28_ok (N : Nat) : EntOK Try.prog 39 (E_Z28 N) := EntOK.vars (E_Z28_Tok N) Try.func39 (by kernel_rfl) (by kernel_rfl) (all_cons (Z28_ok N) (all_nil))
theorem E_Z9_Tok (N : Nat) : TabOK Try.prog (E_Z9_T N) := TabOK.nil
theorem Z9_ok (N : Nat) : VarOK Try.prog (E_Z9_T N) Try.f48 (codeOf Try.f48) (Z9_W (Z9 N)) :=
  VarOK.of (E_Z9_Tok N) (by kernel_rfl) pn (Z9_F) N (fun _ => LStep.none) fun t u K => Z9_body N _ t u K
theorem E_Z9_ok (N : Nat) : EntOK Try.prog 48 (E_Z9 N) := EntOK.vars (E_Z9_Tok N) Try.func48 (by kernel_rfl) (by kernel_rfl) (all_cons (Z9_ok N) (all_nil))
theorem E_Z15_Tok (N : Nat) : TabOK Try.prog (E_Z15_T N) := TabOK.cons (E_Z9_ok N) (TabOK.nil)
theorem Z15_ok (N : Nat) : VarOK Try.prog (E_Z15_T N) Try.f40 (codeOf Try.f40) (Z15_W (Z15 N)) :=
  VarOK.of (E_Z15_Tok N) (by kernel_rfl) pn (Z15_F (@Z15_l0 N)) N (fun _ => LStep.pick (all_cons ⟨.inl fun _ _ _ => rfl, fun n t u K => Z15_v0_0_round N _ _ _ n t u K⟩ (all_nil)) (LStep.none)) fun t u K => Z15_body N _ _ _ t u K
theorem E_Z15_ok (N : Nat) : EntOK Try.prog 40 (E_Z15 N) := EntOK.vars (E_Z15_Tok N) Try.func40 (by kernel_rfl) (by kernel_rfl) (all_cons (Z15_ok N) (all_nil))
theorem E_Z2_Tok (N : Nat) : TabOK Try.prog (E_Z2_T N) := TabOK.cons (E_Z15_ok N) (TabOK.cons (E_Z28_ok N) (TabOK.nil))
theorem Z2_ok (N : Nat) : VarOK Try.prog (E_Z2_T N) Try.f30 (codeOf Try.f30) (Z2_W (Z2 N)) :=
  VarOK.of (E_Z2_Tok N) (by kernel_rfl) pn (Z2_F) N (fun _ => LStep.none) fun t u K => Z2_body N _ _ _ t u K
theorem E_Z2_ok (N : Nat) : EntOK Try.prog 30 (E_Z2 N) := EntOK.vars (E_Z2_Tok N) Try.func30 (by kernel_rfl) (by kernel_rfl) (all_cons (Z2_ok N) (all_nil))
theorem E_Z23_Tok (N : Nat) : TabOK Try.prog (E_Z23_T N) := TabOK.nil
theorem Z23_ok (N : Nat) : VarOK Try.prog (E_Z23_T N) Try.f49 (codeOf Try.f49) (Z23_W (Z23 N)) :=
  VarOK.of (E_Z23_Tok N) (by kernel_rfl) pn (Z23_F) N (fun _ => LStep.none) fun t u K => Z23_body N _ t u K
theorem E_Z23_ok (N : Nat) : EntOK Try.prog 49 (E_Z23 N) := EntOK.vars (E_Z23_Tok N) Try.func49 (by kernel_rfl) (by kernel_rfl) (all_cons (Z23_ok N) (all_nil))
theorem E_Z21_Tok (N : Nat) : TabOK Try.prog (E_Z21_T N) := TabOK.cons (E_Z23_ok N) (TabOK.nil)
theorem Z21_ok (N : Nat) : VarOK Try.prog (E_Z21_T N) Try.f41 (codeOf Try.f41) (Z21_W (Z21 N)) :=
  VarOK.of (E_Z21_Tok N) (by kernel_rfl) pn (Z21_F) N (fun _ => LStep.none) fun t u K => Z21_body N _ _ t u K
theorem E_Z21_ok (N : Nat) : EntOK Try.prog 41 (E_Z21 N) := EntOK.vars (E_Z21_Tok N) Try.func41 (by kernel_rfl) (by kernel_rfl) (all_cons (Z21_ok N) (all_nil))
theorem E_Z10_Tok (N : Nat) : TabOK Try.prog (E_Z10_T N) := TabOK.nil
theorem Z10_ok (N : Nat) : VarOK Try.prog (E_Z10_T N) Try.f42 (codeOf Try.f42) (Z10_W (Z10 N)) :=
  VarOK.of (E_Z10_Tok N) (by kernel_rfl) pn (Z10_F) N (fun _ => LStep.none) fun t u K => Z10_body N _ t u K
theorem E_Z10_ok (N : Nat) : EntOK Try.prog 42 (E_Z10 N) := EntOK.vars (E_Z10_Tok N) Try.func42 (by kernel_rfl) (by kernel_rfl) (all_cons (Z10_ok N) (all_nil))
theorem E_Z20_Tok (N : Nat) : TabOK Try.prog (E_Z20_T N) := TabOK.nil
theorem Z20_ok (N : Nat) : VarOK Try.prog (E_Z20_T N) Try.f43 (codeOf Try.f43) (Z20_W (Z20 N)) :=
  VarOK.of (E_Z20_Tok N) (by kernel_rfl) pn (Z20_F) N (fun _ => LStep.none) fun t u K => Z20_body N _ t u K
theorem E_Z20_ok (N : Nat) : EntOK Try.prog 43 (E_Z20 N) := EntOK.vars (E_Z20_Tok N) Try.func43 (by kernel_rfl) (by kernel_rfl) (all_cons (Z20_ok N) (all_nil))
theorem E_Z18_Tok (N : Nat) : TabOK Try.prog (E_Z18_T N) := TabOK.nil
theorem Z18_ok (N : Nat) : VarOK Try.prog (E_Z18_T N) Try.f44 (codeOf Try.f44) (Z18_W (Z18 N)) :=
  VarOK.of (E_Z18_Tok N) (by kernel_rfl) pn (Z18_F) N (fun _ => LStep.none) fun t u K => Z18_body N _ t u K
theorem E_Z18_ok (N : Nat) : EntOK Try.prog 44 (E_Z18 N) := EntOK.vars (E_Z18_Tok N) Try.func44 (by kernel_rfl) (by kernel_rfl) (all_cons (Z18_ok N) (all_nil))
theorem E_Z13_Tok (N : Nat) : TabOK Try.prog (E_Z13_T N) := TabOK.cons (E_Z18_ok N) (TabOK.cons (E_Z20_ok N) (TabOK.cons (E_Z10_ok N) (TabOK.cons (E_Z21_ok N) (TabOK.nil))))
theorem Z14_ok (N : Nat) : VarOK Try.prog (E_Z13_T N) Try.f31 (codeOf Try.f31) (Z14_W (Z14 N)) :=
  VarOK.of (E_Z13_Tok N) (by kernel_rfl) ⟨[], [], [0, 1]⟩ (Z14_F) N (fun _ => LStep.none) fun t u K => Z14_body N _ _ _ _ _ t u K
theorem Z13_ok (N : Nat) : VarOK Try.prog (E_Z13_T N) Try.f31 (codeOf Try.f31) (Z13_W (Z13 N)) :=
  VarOK.of (E_Z13_Tok N) (by kernel_rfl) pn (Z13_F) N (fun _ => LStep.none) fun t u K => Z13_body N _ _ _ _ _ t u K
theorem E_Z13_ok (N : Nat) : EntOK Try.prog 31 (E_Z13 N) := EntOK.vars (E_Z13_Tok N) Try.func31 (by kernel_rfl) (by kernel_rfl) (all_cons (Z14_ok N) (all_cons (Z13_ok N) (all_nil)))
theorem E_Z22_Tok (N : Nat) : TabOK Try.prog (E_Z22_T N) := TabOK.cons (E_Z23_ok N) (TabOK.nil)
theorem Z22_ok (N : Nat) : VarOK Try.prog (E_Z22_T N) Try.f50 (codeOf Try.f50) (Z22_W (Z22 N)) :=
  VarOK.of (E_Z22_Tok N) (by kernel_rfl) pn (Z22_F) N (fun _ => LStep.none) fun t u K => Z22_body N _ _ t u K
theorem E_Z22_ok (N : Nat) : EntOK Try.prog 50 (E_Z22 N) := EntOK.vars (E_Z22_Tok N) Try.func50 (by kernel_rfl) (by kernel_rfl) (all_cons (Z22_ok N) (all_nil))
theorem E_Z19_Tok (N : Nat) : TabOK Try.prog (E_Z19_T N) := TabOK.cons (E_Z23_ok N) (TabOK.nil)
theorem Z19_ok (N : Nat) : VarOK Try.prog (E_Z19_T N) Try.f51 (codeOf Try.f51) (Z19_W (Z19 N)) :=
  VarOK.of (E_Z19_Tok N) (by kernel_rfl) pn (Z19_F) N (fun _ => LStep.none) fun t u K => Z19_body N _ _ t u K
theorem E_Z19_ok (N : Nat) : EntOK Try.prog 51 (E_Z19 N) := EntOK.vars (E_Z19_Tok N) Try.func51 (by kernel_rfl) (by kernel_rfl) (all_cons (Z19_ok N) (all_nil))
theorem E_Z6_Tok (N : Nat) : TabOK Try.prog (E_Z6_T N) := TabOK.cons (E_Z19_ok N) (TabOK.cons (E_Z22_ok N) (TabOK.nil))
theorem Z6_ok (N : Nat) : VarOK Try.prog (E_Z6_T N) Try.f45 (codeOf Try.f45) (Z6_W (Z6 N)) :=
  VarOK.of (E_Z6_Tok N) (by kernel_rfl) pn (Z6_F) N (fun _ => LStep.none) fun t u K => Z6_body N _ _ _ t u K
theorem E_Z6_ok (N : Nat) : EntOK Try.prog 45 (E_Z6 N) := EntOK.vars (E_Z6_Tok N) Try.func45 (by kernel_rfl) (by kernel_rfl) (all_cons (Z6_ok N) (all_nil))
theorem E_Z11_Tok (N : Nat) : TabOK Try.prog (E_Z11_T N) := TabOK.cons (E_Z20_ok N) (TabOK.cons (E_Z18_ok N) (TabOK.nil))
theorem Z12_ok (N : Nat) : VarOK Try.prog (E_Z11_T N) Try.f46 (codeOf Try.f46) (Z12_W (Z12 N)) :=
  VarOK.of (E_Z11_Tok N) (by kernel_rfl) ⟨[], [(0, false, (.int .i64))], [0, 1]⟩ (Z12_F) N (fun _ => LStep.none) fun t u K => Z12_body N _ _ _ t u K
theorem Z11_ok (N : Nat) : VarOK Try.prog (E_Z11_T N) Try.f46 (codeOf Try.f46) (Z11_W (Z11 N)) :=
  VarOK.of (E_Z11_Tok N) (by kernel_rfl) ⟨[], [(0, false, (.int .i64))], []⟩ (Z11_F) N (fun _ => LStep.none) fun t u K => Z11_body N _ _ _ t u K
theorem E_Z11_ok (N : Nat) : EntOK Try.prog 46 (E_Z11 N) := EntOK.vars (E_Z11_Tok N) Try.func46 (by kernel_rfl) (by kernel_rfl) (all_cons (Z12_ok N) (all_cons (Z11_ok N) (all_nil)))
theorem E_Z16_Tok (N : Nat) : TabOK Try.prog (E_Z16_T N) := TabOK.cons (E_Z11_ok N) (TabOK.cons (E_Z6_ok N) (TabOK.nil))
theorem Z17_ok (N : Nat) : VarOK Try.prog (E_Z16_T N) Try.f32 (codeOf Try.f32) (Z17_W (Z17 N)) :=
  VarOK.of (E_Z16_Tok N) (by kernel_rfl) ⟨[], [], [0, 1]⟩ (Z17_F (@Z17_l0 N) (@Z17_l1 N) (@Z17_l2 N) (@Z17_l3 N)) N (fun _ => LStep.pick (all_cons ⟨.inl fun _ _ _ => rfl, fun n t u K => Z17_v0_0_round N _ _ _ _ _ _ _ _ n t u K⟩ (all_nil)) (LStep.pick (all_cons ⟨.inl fun _ _ _ => rfl, fun n t u K => Z17_v1_0_round N _ _ _ _ _ _ _ _ n t u K⟩ (all_nil)) (LStep.pick (all_cons ⟨.inl fun _ _ _ => rfl, fun n t u K => Z17_v2_0_round N _ _ _ _ _ _ _ _ n t u K⟩ (all_nil)) (LStep.pick (all_cons ⟨.inl fun _ _ _ => rfl, fun n t u K => Z17_v3_0_round N _ _ _ _ _ _ _ _ n t u K⟩ (all_nil)) (LStep.none))))) fun t u K => Z17_body N _ _ _ _ _ _ _ _ t u K
theorem Z16_ok (N : Nat) : VarOK Try.prog (E_Z16_T N) Try.f32 (codeOf Try.f32) (Z16_W (Z16 N)) :=
  VarOK.of (E_Z16_Tok N) (by kernel_rfl) pn (Z16_F (@Z16_l0 N) (@Z16_l1 N) (@Z16_l2 N) (@Z16_l3 N)) N (fun _ => LStep.pick (all_cons ⟨.inl fun _ _ _ => rfl, fun n t u K => Z16_v0_0_round N _ _ _ _ _ _ _ _ n t u K⟩ (all_nil)) (LStep.pick (all_cons ⟨.inl fun _ _ _ => rfl, fun n t u K => Z16_v1_0_round N _ _ _ _ _ _ _ _ n t u K⟩ (all_nil)) (LStep.pick (all_cons ⟨.inl fun _ _ _ => rfl, fun n t u K => Z16_v2_0_round N _ _ _ _ _ _ _ _ n t u K⟩ (all_nil)) (LStep.pick (all_cons ⟨.inl fun _ _ _ => rfl, fun n t u K => Z16_v3_0_round N _ _ _ _ _ _ _ _ n t u K⟩ (all_nil)) (LStep.none))))) fun t u K => Z16_body N _ _ _ _ _ _ _ _ t u K
theorem E_Z16_ok (N : Nat) : EntOK Try.prog 32 (E_Z16 N) := EntOK.vars (E_Z16_Tok N) Try.func32 (by kernel_rfl) (by kernel_rfl) (all_cons (Z17_ok N) (all_cons (Z16_ok N) (all_nil)))
theorem E_check_height_Tok (N : Nat) : TabOK Try.prog (E_check_height_T N) := TabOK.cons (E_Z6_ok N) (TabOK.nil)
theorem Z7_ok (N : Nat) : VarOK Try.prog (E_check_height_T N) Try.f33 (codeOf Try.f33) (Z7_W (Z7 N)) :=
  VarOK.of (E_check_height_Tok N) (by kernel_rfl) ⟨[], [], [0, 1]⟩ (Z7_F (@Z7_l0 N)) N (fun _ => LStep.pick (all_cons ⟨.inl fun _ _ _ => rfl, fun n t u K => Z7_v0_0_round N _ _ _ n t u K⟩ (all_nil)) (LStep.none)) fun t u K => Z7_body N _ _ _ t u K
theorem Z8_ok (N : Nat) : VarOK Try.prog (E_check_height_T N) Try.f33 (codeOf Try.f33) (Z8_W (Z8 N)) :=
  VarOK.of (E_check_height_Tok N) (by kernel_rfl) pn (Z8_F (@Z8_l0 N)) N (fun _ => LStep.pick (all_cons ⟨.inl fun _ _ _ => rfl, fun n t u K => Z8_v0_0_round N _ _ _ n t u K⟩ (all_nil)) (LStep.none)) fun t u K => Z8_body N _ _ _ t u K
theorem E_check_height_ok (N : Nat) : EntOK Try.prog 33 (E_check_height N) := EntOK.vars (E_check_height_Tok N) Try.func33 (by kernel_rfl) (by kernel_rfl) (all_cons (Z7_ok N) (all_cons (Z8_ok N) (all_nil)))
theorem E_Z3_Tok (N : Nat) : TabOK Try.prog (E_Z3_T N) := TabOK.cons (E_check_height_ok N) (TabOK.cons (E_Z16_ok N) (TabOK.cons (E_Z13_ok N) (TabOK.cons (E_Z2_ok N) (TabOK.nil))))
theorem Z4_ok (N : Nat) : VarOK Try.prog (E_Z3_T N) Try.f18 (codeOf Try.f18) (Z4_W (Z4 N)) :=
  VarOK.of (E_Z3_Tok N) (by kernel_rfl) ⟨[], [], [0]⟩ (Z4_F (@Z4_l0 N) (@Z4_l1 N) (@Z4_l2 N)) N (fun _ => LStep.pick (all_cons ⟨.inl fun _ _ _ => rfl, fun n t u K => Z4_v0_0_round N _ _ _ _ _ _ _ _ _ _ _ n t u K⟩ (all_nil)) (LStep.pick (all_cons ⟨.inl fun _ _ _ => rfl, fun n t u K => Z4_v1_0_round N _ _ _ _ _ _ _ _ _ _ _ n t u K⟩ (all_nil)) (LStep.pick (all_cons ⟨.inl fun _ _ _ => rfl, fun n t u K => Z4_v2_0_round N _ _ _ _ _ _ _ _ _ _ _ n t u K⟩ (all_nil)) (LStep.none)))) fun t u K => Z4_body N _ _ _ _ _ _ _ _ _ _ _ t u K
theorem Z5_ok (N : Nat) : VarOK Try.prog (E_Z3_T N) Try.f18 (codeOf Try.f18) (Z5_W (Z5 N)) :=
  VarOK.of (E_Z3_Tok N) (by kernel_rfl) ⟨[], [], [0, 1]⟩ (Z5_F (@Z5_l0 N) (@Z5_l1 N) (@Z5_l2 N)) N (fun _ => LStep.pick (all_cons ⟨.inl fun _ _ _ => rfl, fun n t u K => Z5_v0_0_round N _ _ _ _ _ _ _ _ _ _ _ n t u K⟩ (all_nil)) (LStep.pick (all_cons ⟨.inl fun _ _ _ => rfl, fun n t u K => Z5_v1_0_round N _ _ _ _ _ _ _ _ _ _ _ n t u K⟩ (all_nil)) (LStep.pick (all_cons ⟨.inl fun _ _ _ => rfl, fun n t u K => Z5_v2_0_round N _ _ _ _ _ _ _ _ _ _ _ n t u K⟩ (all_nil)) (LStep.none)))) fun t u K => Z5_body N _ _ _ _ _ _ _ _ _ _ _ t u K
theorem Z3_ok (N : Nat) : VarOK Try.prog (E_Z3_T N) Try.f18 (codeOf Try.f18) (Z3_W (Z3 N)) :=
  VarOK.of (E_Z3_Tok N) (by kernel_rfl) pn (Z3_F (@Z3_l0 N) (@Z3_l1 N) (@Z3_l2 N)) N (fun _ => LStep.pick (all_cons ⟨.inl fun _ _ _ => rfl, fun n t u K => Z3_v0_0_round N _ _ _ _ _ _ _ _ _ _ _ n t u K⟩ (all_nil)) (LStep.pick (all_cons ⟨.inl fun _ _ _ => rfl, fun n t u K => Z3_v1_0_round N _ _ _ _ _ _ _ _ _ _ _ n t u K⟩ (all_nil)) (LStep.pick (all_cons ⟨.inl fun _ _ _ => rfl, fun n t u K => Z3_v2_0_round N _ _ _ _ _ _ _ _ _ _ _ n t u K⟩ (all_nil)) (LStep.none)))) fun t u K => Z3_body N _ _ _ _ _ _ _ _ _ _ _ t u K
theorem E_Z3_ok (N : Nat) : EntOK Try.prog 18 (E_Z3 N) := EntOK.vars (E_Z3_Tok N) Try.func18 (by kernel_rfl) (by kernel_rfl) (all_cons (Z4_ok N) (all_cons (Z5_ok N) (all_cons (Z3_ok N) (all_nil))))
theorem E_Z0_Tok (N : Nat) : TabOK Try.prog (E_Z0_T N) := TabOK.cons (E_check_height_ok N) (TabOK.cons (E_Z16_ok N) (TabOK.cons (E_Z3_ok N) (TabOK.nil)))
theorem Z1_ok (N : Nat) : VarOK Try.prog (E_Z0_T N) Try.f21 (codeOf Try.f21) (Z1_W (Z1 N)) :=
  VarOK.of (E_Z0_Tok N) (by kernel_rfl) ⟨[], [(0, false, (.int .i64))], [0]⟩ (Z1_F (@Z1_l0 N)) N (fun _ => LStep.pick (all_cons ⟨.inl fun _ _ _ => rfl, fun n t u K => Z1_v0_0_round N _ _ _ _ _ _ _ _ _ n t u K⟩ (all_nil)) (LStep.none)) fun t u K => Z1_body N _ _ _ _ _ _ _ _ _ t u K
theorem Z0_ok (N : Nat) : VarOK Try.prog (E_Z0_T N) Try.f21 (codeOf Try.f21) (Z0_W (Z0 N)) :=
  VarOK.of (E_Z0_Tok N) (by kernel_rfl) ⟨[], [(0, false, (.int .i64))], []⟩ (Z0_F (@Z0_l0 N)) N (fun _ => LStep.pick (all_cons ⟨.inl fun _ _ _ => rfl, fun n t u K => Z0_v0_0_round N _ _ _ _ _ _ _ _ _ n t u K⟩ (all_nil)) (LStep.none)) fun t u K => Z0_body N _ _ _ _ _ _ _ _ _ t u K
theorem E_Z0_ok (N : Nat) : EntOK Try.prog 21 (E_Z0 N) := EntOK.vars (E_Z0_Tok N) Try.func21 (by kernel_rfl) (by kernel_rfl) (all_cons (Z1_ok N) (all_cons (Z0_ok N) (all_nil)))
theorem E_law11_same_Tok (N : Nat) : TabOK Try.prog (E_law11_same_T N) := TabOK.nil
theorem Z27_ok (N : Nat) : VarOK Try.prog (E_law11_same_T N) Try.f20 (codeOf Try.f20) (Z27_W (Z27 N)) :=
  VarOK.of (E_law11_same_Tok N) (by kernel_rfl) ⟨[], [], [0, 1]⟩ (Z27_F (@Z27_l0 N)) N (fun _ => LStep.pick (all_cons ⟨.inl fun _ _ _ => rfl, fun n t u K => Z27_v0_0_round N _ _ n t u K⟩ (all_nil)) (LStep.none)) fun t u K => Z27_body N _ _ t u K
theorem E_law11_same_ok (N : Nat) : EntOK Try.prog 20 (E_law11_same N) := EntOK.vars (E_law11_same_Tok N) Try.func20 (by kernel_rfl) (by kernel_rfl) (all_cons (Z27_ok N) (all_nil))
theorem E_Z26_Tok (N : Nat) : TabOK Try.prog (E_Z26_T N) := TabOK.cons (E_law11_same_ok N) (TabOK.cons (E_Z0_ok N) (TabOK.cons (E_Z3_ok N) (TabOK.nil)))
theorem Z26_ok (N : Nat) : VarOK Try.prog (E_Z26_T N) Try.f16 (codeOf Try.f16) (Z26_W (Z26 N)) :=
  VarOK.of (E_Z26_Tok N) (by kernel_rfl) pn (Z26_F) N (fun _ => LStep.none) fun t u K => Z26_body N _ _ _ _ _ _ _ t u K
theorem E_Z26_ok (N : Nat) : EntOK Try.prog 16 (E_Z26 N) := EntOK.vars (E_Z26_Tok N) Try.func16 (by kernel_rfl) (by kernel_rfl) (all_cons (Z26_ok N) (all_nil))
theorem E_Z24_1_Tok (N : Nat) : TabOK Try.prog (E_Z24_1_T N) := TabOK.nil
theorem Z25_ok (N : Nat) : VarOK Try.prog (E_Z24_1_T N) Try.f22 (codeOf Try.f22) (Z25_W (Z25 N)) :=
  VarOK.of (E_Z24_1_Tok N) (by kernel_rfl) ⟨[], [], [0]⟩ (Z25_F) N (fun _ => LStep.none) fun t u K => Z25_body N _ t u K
theorem E_Z24_1_ok (N : Nat) : EntOK Try.prog 22 (E_Z24_1 N) := EntOK.vars (E_Z24_1_Tok N) Try.func22 (by kernel_rfl) (by kernel_rfl) (all_cons (Z25_ok N) (all_nil))
theorem E_Z24_Tok (N : Nat) : TabOK Try.prog (E_Z24_T N) := TabOK.cons (E_law11_same_ok N) (TabOK.cons (E_Z3_ok N) (TabOK.cons (E_Z0_ok N) (TabOK.cons (E_Z24_1_ok N) (TabOK.cons (E_Z26_ok N) (TabOK.nil)))))
theorem Z24_ok (N : Nat) : VarOK Try.prog (E_Z24_T N) Try.f6 (codeOf Try.f6) (Z24_W (Z24 N)) :=
  VarOK.of (E_Z24_Tok N) (by kernel_rfl) pn (Z24_F (@Z24_l0 N) (@Z24_l1 N)) N (fun _ => LStep.pick (all_cons ⟨.inl fun _ _ _ => rfl, fun n t u K => Z24_v0_0_round N _ _ _ _ _ _ _ _ _ _ _ n t u K⟩ (all_nil)) (LStep.pick (all_cons ⟨.inl fun _ _ _ => rfl, fun n t u K => Z24_v1_0_round N _ _ _ _ _ _ _ _ _ _ _ n t u K⟩ (all_nil)) (LStep.none))) fun t u K => Z24_body N _ _ _ _ _ _ _ _ _ _ _ t u K
theorem E_Z24_ok (N : Nat) : EntOK Try.prog 6 (E_Z24 N) := EntOK.vars (E_Z24_Tok N) Try.func6 (by kernel_rfl) (by kernel_rfl) (all_cons (Z24_ok N) (all_nil))
end Go.Proofs.Ytppmkhgpljkljaa
