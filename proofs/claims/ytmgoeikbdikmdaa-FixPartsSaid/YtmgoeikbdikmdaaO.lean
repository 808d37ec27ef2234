/-
  Each entry is borne out (printed by a program of this work).
-/
import Derived.Test.YtmgoeikbdikmdaaX
import Derived.Test.YtmgoeikbdikmdaaQ0
import Derived.Test.YtmgoeikbdikmdaaQ1
import Derived.Test.YtmgoeikbdikmdaaQ2
import Derived.Test.YtmgoeikbdikmdaaQ3
set_option linter.unusedVariables false
set_option maxRecDepth 100000
namespace Go.Proofs.Ytmgoeikbdikmdaa
open Go.Gx
noncomputable section
theorem E_Z32_Tok (N : Nat) : TabOK Try.prog (E_Z32_T N) := TabOK.nil
theorem Z32_ok (N : Nat) : VarOK Try.prog (E_Z32_T N) Try.f5 (codeOf Try.f5) (Z32_W (Z32 N)) :=
  VarOK.of (E_Z32_Tok N) (by kernel_rfl) pn (Z32_F) N (fun _ => LStep.none) fun t u K => Z32_body N _ t u K
theorem E_Z32_ok (N : Nat) : EntOK Try.prog 5 (E_Z32 N) := EntOK.vars (E_Z32_Tok N) Try.func5 (by kernel_rfl) (by kernel_rfl) (all_cons (Z32_ok N) (all_nil))
theorem E_Z38_Tok (N : Nat) : TabOK Try.prog (E_Z38_T N) := TabOK.nil
theorem Z38_ok (N : Nat) : VarOK Try.prog (E_Z38_T N) Try.f28 (codeOf Try.f28) (Z38_W (Z38 N)) :=
  VarOK.of (E_Z38_Tok N) (by kernel_rfl) pn (Z38_F) N (fun _ => LStep.none) fun t u K => Z38_body N _ t u K
theorem E_Z38_ok (N : Nat) : EntOK Try.prog 28 (E_Z38 N) := EntOK.vars (E_Z38_Tok N) Try.func28 (by kernel_rfl) (by kernel_rfl) (all_cons (Z38_ok N) (all_nil))
theorem E_Y21_Tok (N : Nat) : TabOK Try.prog (E_Y21_T N) := TabOK.nil
theorem Z27_ok (N : Nat) : VarOK Try.prog (E_Y21_T N) Try.f29 (codeOf Try.f29) (Z27_W (Z27 N)) :=
  VarOK.of (E_Y21_Tok N) (by kernel_rfl) ⟨[1], [], [1]⟩ (Z27_F) N (fun _ => LStep.none) fun t u K => Z27_body N _ t u K
theorem E_Y21_ok (N : Nat) : EntOK Try.prog 29 (E_Y21 N) := EntOK.vars (E_Y21_Tok N) Try.func29 (by kernel_rfl) (by kernel_rfl) (all_cons (Z27_ok N) (all_nil))
theorem E_Y17_Tok (N : Nat) : TabOK Try.prog (E_Y17_T N) := TabOK.cons (E_Y21_ok N) (TabOK.cons (E_Z38_ok N) (TabOK.nil))
theorem Z23_ok (N : Nat) : VarOK Try.prog (E_Y17_T N) Try.f10 (codeOf Try.f10) (Z23_W (Z23 N)) :=
  VarOK.of (E_Y17_Tok N) (by kernel_rfl) ⟨[1], [], [1]⟩ (Z23_F) N (fun _ => LStep.none) fun t u K => Z23_body N _ _ _ t u K
theorem E_Y17_ok (N : Nat) : EntOK Try.prog 10 (E_Y17 N) := EntOK.vars (E_Y17_Tok N) Try.func10 (by kernel_rfl) (by kernel_rfl) (all_cons (Z23_ok N) (all_nil))
theorem E_Z37_Tok (N : Nat) : TabOK Try.prog (E_Z37_T N) := TabOK.cons (E_Z38_ok N) (TabOK.nil)
theorem Z37_ok (N : Nat) : VarOK Try.prog (E_Z37_T N) Try.f30 (codeOf Try.f30) (Z37_W (Z37 N)) :=
  VarOK.of (E_Z37_Tok N) (by kernel_rfl) pn (Z37_F) N (fun _ => LStep.none) fun t u K => Z37_body N _ _ t u K
theorem E_Z37_ok (N : Nat) : EntOK Try.prog 30 (E_Z37 N) := EntOK.vars (E_Z37_Tok N) Try.func30 (by kernel_rfl) (by kernel_rfl) (all_cons (Z37_ok N) (all_nil))
theorem E_Y7_Tok (N : Nat) : TabOK Try.prog (E_Y7_T N) := TabOK.cons (E_Y21_ok N) (TabOK.cons (E_Z37_ok N) (TabOK.cons (E_Z38_ok N) (TabOK.nil)))
theorem Z13_ok (N : Nat) : VarOK Try.prog (E_Y7_T N) Try.f11 (codeOf Try.f11) (Z13_W (Z13 N)) :=
  VarOK.of (E_Y7_Tok N) (by kernel_rfl) ⟨[1], [], [1]⟩ (Z13_F) N (fun _ => LStep.none) fun t u K => Z13_body N _ _ _ _ t u K
theorem E_Y7_ok (N : Nat) : EntOK Try.prog 11 (E_Y7 N) := EntOK.vars (E_Y7_Tok N) Try.func11 (by kernel_rfl) (by kernel_rfl) (all_cons (Z13_ok N) (all_nil))
theorem E_Z35_Tok (N : Nat) : TabOK Try.prog (E_Z35_T N) := TabOK.nil
theorem Z35_ok (N : Nat) : VarOK Try.prog (E_Z35_T N) Try.f31 (codeOf Try.f31) (Z35_W (Z35 N)) :=
  VarOK.of (E_Z35_Tok N) (by kernel_rfl) pn (Z35_F) N (fun _ => LStep.none) fun t u K => Z35_body N _ t u K
theorem E_Z35_ok (N : Nat) : EntOK Try.prog 31 (E_Z35 N) := EntOK.vars (E_Z35_Tok N) Try.func31 (by kernel_rfl) (by kernel_rfl) (all_cons (Z35_ok N) (all_nil))
theorem E_Y13_Tok (N : Nat) : TabOK Try.prog (E_Y13_T N) := TabOK.nil
theorem Z19_ok (N : Nat) : VarOK Try.prog (E_Y13_T N) Try.f21 (codeOf Try.f21) (Z19_W (Z19 N)) :=
  VarOK.of (E_Y13_Tok N) (by kernel_rfl) ⟨[], [], [1]⟩ (Z19_F) N (fun _ => LStep.none) fun t u K => Z19_body N _ t u K
theorem E_Y13_ok (N : Nat) : EntOK Try.prog 21 (E_Y13 N) := EntOK.vars (E_Y13_Tok N) Try.func21 (by kernel_rfl) (by kernel_rfl) (all_cons (Z19_ok N) (all_nil))
theorem E_Y24_Tok (N : Nat) : TabOK Try.prog (E_Y24_T N) := TabOK.cons (E_Y13_ok N) (TabOK.nil)
theorem Z30_ok (N : Nat) : VarOK Try.prog (E_Y24_T N) Try.f25 (codeOf Try.f25) (Z30_W (Z30 N)) :=
  VarOK.of (E_Y24_Tok N) (by kernel_rfl) ⟨[], [], [1, 4]⟩ (Z30_F (@Z30_l0 N)) N (fun _ => LStep.pick (all_cons ⟨.inl fun _ _ _ => rfl, fun n t u K => Z30_v0_0_round N _ _ _ n t u K⟩ (all_nil)) (LStep.none)) fun t u K => Z30_body N _ _ _ t u K
theorem E_Y24_ok (N : Nat) : EntOK Try.prog 25 (E_Y24 N) := EntOK.vars (E_Y24_Tok N) Try.func25 (by kernel_rfl) (by kernel_rfl) (all_cons (Z30_ok N) (all_nil))
theorem E_Y18_Tok (N : Nat) : TabOK Try.prog (E_Y18_T N) := TabOK.cons (E_Y13_ok N) (TabOK.nil)
theorem Z24_ok (N : Nat) : VarOK Try.prog (E_Y18_T N) Try.f20 (codeOf Try.f20) (Z24_W (Z24 N)) :=
  VarOK.of (E_Y18_Tok N) (by kernel_rfl) ⟨[], [], [1]⟩ (Z24_F) N (fun _ => LStep.none) fun t u K => Z24_body N _ _ t u K
theorem E_Y18_ok (N : Nat) : EntOK Try.prog 20 (E_Y18 N) := EntOK.vars (E_Y18_Tok N) Try.func20 (by kernel_rfl) (by kernel_rfl) (all_cons (Z24_ok N) (all_nil))
theorem E_Y12_Tok (N : Nat) : TabOK Try.prog (E_Y12_T N) := TabOK.cons (E_Y13_ok N) (TabOK.nil)
theorem Z18_ok (N : Nat) : VarOK Try.prog (E_Y12_T N) Try.f13 (codeOf Try.f13) (Z18_W (Z18 N)) :=
  VarOK.of (E_Y12_Tok N) (by kernel_rfl) ⟨[], [], [1]⟩ (Z18_F) N (fun _ => LStep.none) fun t u K => Z18_body N _ _ t u K
theorem E_Y12_ok (N : Nat) : EntOK Try.prog 13 (E_Y12 N) := EntOK.vars (E_Y12_Tok N) Try.func13 (by kernel_rfl) (by kernel_rfl) (all_cons (Z18_ok N) (all_nil))
theorem E_Z40_Tok (N : Nat) : TabOK Try.prog (E_Z40_T N) := TabOK.cons (E_Z37_ok N) (TabOK.nil)
theorem Z40_ok (N : Nat) : VarOK Try.prog (E_Z40_T N) Try.f40 (codeOf Try.f40) (Z40_W (Z40 N)) :=
  VarOK.of (E_Z40_Tok N) (by kernel_rfl) pn (Z40_F) N (fun _ => LStep.none) fun t u K => Z40_body N _ _ t u K
theorem E_Z40_ok (N : Nat) : EntOK Try.prog 40 (E_Z40 N) := EntOK.vars (E_Z40_Tok N) Try.func40 (by kernel_rfl) (by kernel_rfl) (all_cons (Z40_ok N) (all_nil))
theorem E_Z42_Tok (N : Nat) : TabOK Try.prog (E_Z42_T N) := TabOK.nil
theorem Z42_ok (N : Nat) : VarOK Try.prog (E_Z42_T N) Try.f41 (codeOf Try.f41) (Z42_W (Z42 N)) :=
  VarOK.of (E_Z42_Tok N) (by kernel_rfl) pn (Z42_F) N (fun _ => LStep.none) fun t u K => Z42_body N _ t u K
theorem E_Z42_ok (N : Nat) : EntOK Try.prog 41 (E_Z42 N) := EntOK.vars (E_Z42_Tok N) Try.func41 (by kernel_rfl) (by kernel_rfl) (all_cons (Z42_ok N) (all_nil))
theorem E_Z43_Tok (N : Nat) : TabOK Try.prog (E_Z43_T N) := TabOK.nil
theorem Z43_ok (N : Nat) : VarOK Try.prog (E_Z43_T N) Try.f42 (codeOf Try.f42) (Z43_W (Z43 N)) :=
  VarOK.of (E_Z43_Tok N) (by kernel_rfl) pn (Z43_F) N (fun _ => LStep.none) fun t u K => Z43_body N _ t u K
theorem E_Z43_ok (N : Nat) : EntOK Try.prog 42 (E_Z43 N) := EntOK.vars (E_Z43_Tok N) Try.func42 (by kernel_rfl) (by kernel_rfl) (all_cons (Z43_ok N) (all_nil))
theorem E_Z41_Tok (N : Nat) : TabOK Try.prog (E_Z41_T N) := TabOK.cons (E_Z43_ok N) (TabOK.cons (E_Z42_ok N) (TabOK.cons (E_Z40_ok N) (TabOK.nil)))
theorem Z41_ok (N : Nat) : VarOK Try.prog (E_Z41_T N) Try.f37 (codeOf Try.f37) (Z41_W (Z41 N)) :=
  VarOK.of (E_Z41_Tok N) (by kernel_rfl) pn (Z41_F) N (fun _ => LStep.none) fun t u K => Z41_body N _ _ _ _ t u K
theorem E_Z41_ok (N : Nat) : EntOK Try.prog 37 (E_Z41 N) := EntOK.vars (E_Z41_Tok N) Try.func37 (by kernel_rfl) (by kernel_rfl) (all_cons (Z41_ok N) (all_nil))
theorem E_Z36_Tok (N : Nat) : TabOK Try.prog (E_Z36_T N) := TabOK.cons (E_Z41_ok N) (TabOK.cons (E_Z37_ok N) (TabOK.cons (E_Z38_ok N) (TabOK.nil)))
theorem Z36_ok (N : Nat) : VarOK Try.prog (E_Z36_T N) Try.f32 (codeOf Try.f32) (Z36_W (Z36 N)) :=
  VarOK.of (E_Z36_Tok N) (by kernel_rfl) pn (Z36_F) N (fun _ => LStep.none) fun t u K => Z36_body N _ _ _ _ t u K
theorem E_Z36_ok (N : Nat) : EntOK Try.prog 32 (E_Z36 N) := EntOK.vars (E_Z36_Tok N) Try.func32 (by kernel_rfl) (by kernel_rfl) (all_cons (Z36_ok N) (all_nil))
theorem E_Z39_Tok (N : Nat) : TabOK Try.prog (E_Z39_T N) := TabOK.cons (E_Z36_ok N) (TabOK.nil)
theorem Z39_ok (N : Nat) : VarOK Try.prog (E_Z39_T N) Try.f33 (codeOf Try.f33) (Z39_W (Z39 N)) :=
  VarOK.of (E_Z39_Tok N) (by kernel_rfl) pn (Z39_F) N (fun _ => LStep.none) fun t u K => Z39_body N _ _ t u K
theorem E_Z39_ok (N : Nat) : EntOK Try.prog 33 (E_Z39 N) := EntOK.vars (E_Z39_Tok N) Try.func33 (by kernel_rfl) (by kernel_rfl) (all_cons (Z39_ok N) (all_nil))
theorem E_Z34_Tok (N : Nat) : TabOK Try.prog (E_Z34_T N) := TabOK.nil
theorem Z34_ok (N : Nat) : VarOK Try.prog (E_Z34_T N) Try.f34 (codeOf Try.f34) (Z34_W (Z34 N)) :=
  VarOK.of (E_Z34_Tok N) (by kernel_rfl) pn (Z34_F) N (fun _ => LStep.none) fun t u K => Z34_body N _ t u K
theorem E_Z34_ok (N : Nat) : EntOK Try.prog 34 (E_Z34 N) := EntOK.vars (E_Z34_Tok N) Try.func34 (by kernel_rfl) (by kernel_rfl) (all_cons (Z34_ok N) (all_nil))
theorem E_Y19_Tok (N : Nat) : TabOK Try.prog (E_Y19_T N) := TabOK.cons (E_Z36_ok N) (TabOK.cons (E_Y7_ok N) (TabOK.cons (E_Y18_ok N) (TabOK.nil)))
theorem Z25_ok (N : Nat) : VarOK Try.prog (E_Y19_T N) Try.f38 (codeOf Try.f38) (Z25_W (Z25 N)) :=
  VarOK.of (E_Y19_Tok N) (by kernel_rfl) ⟨[1], [], [1]⟩ (Z25_F) N (fun _ => LStep.none) fun t u K => Z25_body N _ _ _ _ t u K
theorem E_Y19_ok (N : Nat) : EntOK Try.prog 38 (E_Y19 N) := EntOK.vars (E_Y19_Tok N) Try.func38 (by kernel_rfl) (by kernel_rfl) (all_cons (Z25_ok N) (all_nil))
theorem E_Y14_Tok (N : Nat) : TabOK Try.prog (E_Y14_T N) := TabOK.cons (E_Y21_ok N) (TabOK.cons (E_Y7_ok N) (TabOK.cons (E_Y13_ok N) (TabOK.cons (E_Y24_ok N) (TabOK.nil))))
theorem Z20_ok (N : Nat) : VarOK Try.prog (E_Y14_T N) Try.f16 (codeOf Try.f16) (Z20_W (Z20 N)) :=
  VarOK.of (E_Y14_Tok N) (by kernel_rfl) ⟨[1], [], [1]⟩ (Z20_F) N (fun _ => LStep.none) fun t u K => Z20_body N _ _ _ _ _ t u K
theorem E_Y14_ok (N : Nat) : EntOK Try.prog 16 (E_Y14 N) := EntOK.vars (E_Y14_Tok N) Try.func16 (by kernel_rfl) (by kernel_rfl) (all_cons (Z20_ok N) (all_nil))
theorem E_Y16_Tok (N : Nat) : TabOK Try.prog (E_Y16_T N) := TabOK.cons (E_Y24_ok N) (TabOK.nil)
theorem Z22_ok (N : Nat) : VarOK Try.prog (E_Y16_T N) Try.f22 (codeOf Try.f22) (Z22_W (Z22 N)) :=
  VarOK.of (E_Y16_Tok N) (by kernel_rfl) ⟨[], [], [1, 4]⟩ (Z22_F (@Z22_l0 N) (@Z22_l1 N) (@Z22_l2 N) (@Z22_l3 N)) N (fun _ => LStep.pick (all_cons ⟨.inl fun _ _ _ => rfl, fun n t u K => Z22_v0_0_round N _ _ _ _ _ _ n t u K⟩ (all_nil)) (LStep.pick (all_cons ⟨.inl fun _ _ _ => rfl, fun n t u K => Z22_v1_0_round N _ _ _ _ _ _ n t u K⟩ (all_nil)) (LStep.pick (all_cons ⟨.inl fun _ _ _ => rfl, fun n t u K => Z22_v2_0_round N _ _ _ _ _ _ n t u K⟩ (all_nil)) (LStep.pick (all_cons ⟨.inl fun _ _ _ => rfl, fun n t u K => Z22_v3_0_round N _ _ _ _ _ _ n t u K⟩ (all_nil)) (LStep.none))))) fun t u K => Z22_body N _ _ _ _ _ _ t u K
theorem E_Y16_ok (N : Nat) : EntOK Try.prog 22 (E_Y16 N) := EntOK.vars (E_Y16_Tok N) Try.func22 (by kernel_rfl) (by kernel_rfl) (all_cons (Z22_ok N) (all_nil))
theorem E_Y11_Tok (N : Nat) : TabOK Try.prog (E_Y11_T N) := TabOK.cons (E_Y21_ok N) (TabOK.cons (E_Y12_ok N) (TabOK.cons (E_Y18_ok N) (TabOK.cons (E_Y24_ok N) (TabOK.nil))))
theorem Z17_ok (N : Nat) : VarOK Try.prog (E_Y11_T N) Try.f17 (codeOf Try.f17) (Z17_W (Z17 N)) :=
  VarOK.of (E_Y11_Tok N) (by kernel_rfl) ⟨[1], [], [1]⟩ (Z17_F) N (fun _ => LStep.none) fun t u K => Z17_body N _ _ _ _ _ t u K
theorem E_Y11_ok (N : Nat) : EntOK Try.prog 17 (E_Y11 N) := EntOK.vars (E_Y11_Tok N) Try.func17 (by kernel_rfl) (by kernel_rfl) (all_cons (Z17_ok N) (all_nil))
theorem E_Y6_Tok (N : Nat) : TabOK Try.prog (E_Y6_T N) := TabOK.nil
theorem Z11_ok (N : Nat) : VarOK Try.prog (E_Y6_T N) Try.f24 (codeOf Try.f24) (Z11_W (Z11 N)) :=
  VarOK.of (E_Y6_Tok N) (by kernel_rfl) ⟨[], [], [0]⟩ (Z11_F (@Z11_l0 N)) N (fun _ => LStep.pick (all_cons ⟨.inl fun _ _ _ => rfl, fun n t u K => Z11_v0_0_round N _ _ n t u K⟩ (all_nil)) (LStep.none)) fun t u K => Z11_body N _ _ t u K
theorem Z12_ok (N : Nat) : VarOK Try.prog (E_Y6_T N) Try.f24 (codeOf Try.f24) (Z12_W (Z12 N)) :=
  VarOK.of (E_Y6_Tok N) (by kernel_rfl) pn (Z12_F (@Z12_l0 N)) N (fun _ => LStep.pick (all_cons ⟨.inl fun _ _ _ => rfl, fun n t u K => Z12_v0_0_round N _ _ n t u K⟩ (all_nil)) (LStep.none)) fun t u K => Z12_body N _ _ t u K
theorem E_Y6_ok (N : Nat) : EntOK Try.prog 24 (E_Y6 N) := EntOK.vars (E_Y6_Tok N) Try.func24 (by kernel_rfl) (by kernel_rfl) (all_cons (Z11_ok N) (all_cons (Z12_ok N) (all_nil)))
theorem E_Y4_Tok (N : Nat) : TabOK Try.prog (E_Y4_T N) := TabOK.cons (E_Y7_ok N) (TabOK.nil)
theorem Z6_ok (N : Nat) : VarOK Try.prog (E_Y4_T N) Try.f36 (codeOf Try.f36) (Z6_W (Z6 N)) :=
  VarOK.of (E_Y4_Tok N) (by kernel_rfl) ⟨[], [], [1]⟩ (Z6_F (@Z6_l0 N) (@Z6_l1 N) (@Z6_l2 N)) N (fun _ => LStep.pick (all_cons ⟨.inl fun _ _ _ => rfl, fun n t u K => Z6_v0_0_round N _ _ _ _ _ n t u K⟩ (all_nil)) (LStep.pick (all_cons ⟨.inl fun _ _ _ => rfl, fun n t u K => Z6_v1_0_round N _ _ _ _ _ n t u K⟩ (all_nil)) (LStep.pick (all_cons ⟨.inl fun _ _ _ => rfl, fun n t u K => Z6_v2_0_round N _ _ _ _ _ n t u K⟩ (all_nil)) (LStep.none)))) fun t u K => Z6_body N _ _ _ _ _ t u K
theorem E_Y4_ok (N : Nat) : EntOK Try.prog 36 (E_Y4 N) := EntOK.vars (E_Y4_Tok N) Try.func36 (by kernel_rfl) (by kernel_rfl) (all_cons (Z6_ok N) (all_nil))
theorem E_Y0_Tok (N : Nat) : TabOK Try.prog (E_Y0_T N) := TabOK.cons (E_Y4_ok N) (TabOK.nil)
theorem Z0_ok (N : Nat) : VarOK Try.prog (E_Y0_T N) Try.f14 (codeOf Try.f14) (Z0_W (Z0 N)) :=
  VarOK.of (E_Y0_Tok N) (by kernel_rfl) ⟨[], [], [1]⟩ (Z0_F) N (fun _ => LStep.none) fun t u K => Z0_body N _ _ t u K
theorem E_Y0_ok (N : Nat) : EntOK Try.prog 14 (E_Y0 N) := EntOK.vars (E_Y0_Tok N) Try.func14 (by kernel_rfl) (by kernel_rfl) (all_cons (Z0_ok N) (all_nil))
theorem E_Y1_Tok (N : Nat) : TabOK Try.prog (E_Y1_T N) := TabOK.cons (E_Y16_ok N) (TabOK.cons (E_Y13_ok N) (TabOK.nil))
theorem Z1_ok (N : Nat) : VarOK Try.prog (E_Y1_T N) Try.f9 (codeOf Try.f9) (Z1_W (Z1 N)) :=
  VarOK.of (E_Y1_Tok N) (by kernel_rfl) ⟨[], [], [1]⟩ (Z1_F) N (fun _ => LStep.none) fun t u K => Z1_body N _ _ _ t u K
theorem E_Y1_ok (N : Nat) : EntOK Try.prog 9 (E_Y1 N) := EntOK.vars (E_Y1_Tok N) Try.func9 (by kernel_rfl) (by kernel_rfl) (all_cons (Z1_ok N) (all_nil))
theorem E_Z10_Tok (N : Nat) : TabOK Try.prog (E_Z10_T N) := TabOK.nil
theorem Z10_ok (N : Nat) : VarOK Try.prog (E_Z10_T N) Try.f15 (codeOf Try.f15) (Z10_W (Z10 N)) :=
  VarOK.of (E_Z10_Tok N) (by kernel_rfl) pn (Z10_F) N (fun _ => LStep.none) fun t u K => Z10_body N _ t u K
theorem E_Z10_ok (N : Nat) : EntOK Try.prog 15 (E_Z10 N) := EntOK.vars (E_Z10_Tok N) Try.func15 (by kernel_rfl) (by kernel_rfl) (all_cons (Z10_ok N) (all_nil))
theorem E_Y26_Tok (N : Nat) : TabOK Try.prog (E_Y26_T N) := TabOK.cons (E_Z36_ok N) (TabOK.cons (E_Z37_ok N) (TabOK.nil))
theorem Z33_ok (N : Nat) : VarOK Try.prog (E_Y26_T N) Try.f27 (codeOf Try.f27) (Z33_W (Z33 N)) :=
  VarOK.of (E_Y26_Tok N) (by kernel_rfl) ⟨[], [], [0]⟩ (Z33_F) N (fun _ => LStep.none) fun t u K => Z33_body N _ _ _ t u K
theorem E_Y26_ok (N : Nat) : EntOK Try.prog 27 (E_Y26 N) := EntOK.vars (E_Y26_Tok N) Try.func27 (by kernel_rfl) (by kernel_rfl) (all_cons (Z33_ok N) (all_nil))
theorem Z21_ok (N : Nat) (n : Nat) (hT : TabOK Try.prog (E_Y15_T N n)) : VarOK Try.prog (E_Y15_T N n) Try.f12 (codeOf Try.f12) (Z21_W (@G_term_Arena_Two_Rec.Z21 (G_term_Arena_Two_rec N (n + 1)))) :=
  VarOK.of hT (by kernel_rfl) ⟨[1], [], [1]⟩ (Z21_F) N (fun _ => LStep.none) fun t u K => Z21_body N _ _ _ _ _ _ _ _ _ _ _ t u K
theorem Z26_ok (N : Nat) (n : Nat) (hT : TabOK Try.prog (E_Y20_T N n)) : VarOK Try.prog (E_Y20_T N n) Try.f43 (codeOf Try.f43) (Z26_W (@G_term_Arena_Two_Rec.Z26 (G_term_Arena_Two_rec N (n + 1)))) :=
  VarOK.of hT (by kernel_rfl) ⟨[1], [], [1]⟩ (Z26_F) N (fun _ => LStep.none) fun t u K => Z26_body N _ _ _ _ _ _ _ t u K
theorem Z31_ok (N : Nat) (n : Nat) (hT : TabOK Try.prog (E_Y25_T N n)) : VarOK Try.prog (E_Y25_T N n) Try.f39 (codeOf Try.f39) (Z31_W (@G_term_Arena_Two_Rec.Z31 (G_term_Arena_Two_rec N (n + 1)))) :=
  VarOK.of hT (by kernel_rfl) ⟨[1], [], [1]⟩ (Z31_F) N (fun _ => LStep.none) fun t u K => Z31_body N _ _ _ _ _ _ t u K
theorem Z28_ok (N : Nat) (n : Nat) (hT : TabOK Try.prog (E_Y22_T N n)) : VarOK Try.prog (E_Y22_T N n) Try.f35 (codeOf Try.f35) (Z28_W (@G_term_Arena_Two_Rec.Z28 (G_term_Arena_Two_rec N (n + 1)))) :=
  VarOK.of hT (by kernel_rfl) ⟨[1], [], [1]⟩ (Z28_F) N (fun _ => LStep.none) fun t u K => Z28_body N _ _ _ _ _ t u K
theorem G_term_Arena_Two_ok (N : Nat) : ∀ n : Nat, EntOK Try.prog 12 (E_Y15_n N n) ∧ EntOK Try.prog 43 (E_Y20_n N n) ∧ EntOK Try.prog 39 (E_Y25_n N n) ∧ EntOK Try.prog 35 (E_Y22_n N n)
  | 0 => ⟨EntOK.void Try.func12 (by kernel_rfl) (by kernel_rfl) (all_cons (fun _ _ _ _ => rfl) (all_nil)),
    EntOK.void Try.func43 (by kernel_rfl) (by kernel_rfl) (all_cons (fun _ _ _ _ => rfl) (all_nil)),
    EntOK.void Try.func39 (by kernel_rfl) (by kernel_rfl) (all_cons (fun _ _ _ _ => rfl) (all_nil)),
    EntOK.void Try.func35 (by kernel_rfl) (by kernel_rfl) (all_cons (fun _ _ _ _ => rfl) (all_nil))⟩
  | n + 1 =>
    have ih := G_term_Arena_Two_ok N n
    ⟨(have hT : TabOK Try.prog (E_Y15_T N n) := TabOK.cons (E_Y21_ok N) (TabOK.cons (ih.2.2.2) (TabOK.cons (E_Z34_ok N) (TabOK.cons (E_Y7_ok N) (TabOK.cons (E_Z39_ok N) (TabOK.cons (E_Z36_ok N) (TabOK.cons (E_Y12_ok N) (TabOK.cons (E_Y18_ok N) (TabOK.cons (E_Y24_ok N) (TabOK.cons (E_Z35_ok N) (TabOK.nil))))))))))
     EntOK.vars hT Try.func12 (by kernel_rfl) (by kernel_rfl) (all_cons (Z21_ok N n hT) (all_nil))),
    (have hT : TabOK Try.prog (E_Y20_T N n) := TabOK.cons (ih.1) (TabOK.cons (E_Y7_ok N) (TabOK.cons (E_Z37_ok N) (TabOK.cons (E_Y18_ok N) (TabOK.cons (E_Y14_ok N) (TabOK.cons (E_Y13_ok N) (TabOK.nil))))))
     EntOK.vars hT Try.func43 (by kernel_rfl) (by kernel_rfl) (all_cons (Z26_ok N n hT) (all_nil))),
    (have hT : TabOK Try.prog (E_Y25_T N n) := TabOK.cons (ih.2.1) (TabOK.cons (E_Z37_ok N) (TabOK.cons (E_Y7_ok N) (TabOK.cons (E_Z39_ok N) (TabOK.cons (E_Y18_ok N) (TabOK.nil)))))
     EntOK.vars hT Try.func39 (by kernel_rfl) (by kernel_rfl) (all_cons (Z31_ok N n hT) (all_nil))),
    (have hT : TabOK Try.prog (E_Y22_T N n) := TabOK.cons (ih.2.2.1) (TabOK.cons (E_Z34_ok N) (TabOK.cons (E_Y12_ok N) (TabOK.cons (E_Y19_ok N) (TabOK.nil))))
     EntOK.vars hT Try.func35 (by kernel_rfl) (by kernel_rfl) (all_cons (Z28_ok N n hT) (all_nil)))⟩
theorem E_Y15_ok (N : Nat) : EntOK Try.prog 12 (E_Y15 N) := (G_term_Arena_Two_ok N N).1
theorem E_Y20_ok (N : Nat) : EntOK Try.prog 43 (E_Y20 N) := (G_term_Arena_Two_ok N N).2.1
theorem E_Y25_ok (N : Nat) : EntOK Try.prog 39 (E_Y25 N) := (G_term_Arena_Two_ok N N).2.2.1
theorem E_Y22_ok (N : Nat) : EntOK Try.prog 35 (E_Y22 N) := (G_term_Arena_Two_ok N N).2.2.2
theorem Z16_ok (N : Nat) (n : Nat) (hT : TabOK Try.prog (E_Y10_T N n)) : VarOK Try.prog (E_Y10_T N n) Try.f18 (codeOf Try.f18) (Z16_W (@G_term_Arena_Ext_Rec.Z16 (G_term_Arena_Ext_rec N (n + 1)))) :=
  VarOK.of hT (by kernel_rfl) ⟨[1], [], [1]⟩ (Z16_F) N (fun _ => LStep.none) fun t u K => Z16_body N _ _ _ _ _ _ t u K
theorem G_term_Arena_Ext_ok (N : Nat) : ∀ n : Nat, EntOK Try.prog 18 (E_Y10_n N n)
  | 0 => EntOK.void Try.func18 (by kernel_rfl) (by kernel_rfl) (all_cons (fun _ _ _ _ => rfl) (all_nil))
  | n + 1 =>
    have ih := G_term_Arena_Ext_ok N n
    (have hT : TabOK Try.prog (E_Y10_T N n) := TabOK.cons (E_Y21_ok N) (TabOK.cons (ih) (TabOK.cons (E_Y7_ok N) (TabOK.cons (E_Z38_ok N) (TabOK.cons (E_Y13_ok N) (TabOK.nil)))))
     EntOK.vars hT Try.func18 (by kernel_rfl) (by kernel_rfl) (all_cons (Z16_ok N n hT) (all_nil)))
theorem E_Y10_ok (N : Nat) : EntOK Try.prog 18 (E_Y10 N) := (G_term_Arena_Ext_ok N N)
theorem Z14_ok (N : Nat) (n : Nat) (hT : TabOK Try.prog (E_Y8_T N n)) : VarOK Try.prog (E_Y8_T N n) Try.f19 (codeOf Try.f19) (Z14_W (@G_term_Arena_Cut_Rec.Z14 (G_term_Arena_Cut_rec N (n + 1)))) :=
  VarOK.of hT (by kernel_rfl) ⟨[1], [], [1]⟩ (Z14_F) N (fun _ => LStep.none) fun t u K => Z14_body N _ _ _ _ _ _ _ _ t u K
theorem G_term_Arena_Cut_ok (N : Nat) : ∀ n : Nat, EntOK Try.prog 19 (E_Y8_n N n)
  | 0 => EntOK.void Try.func19 (by kernel_rfl) (by kernel_rfl) (all_cons (fun _ _ _ _ => rfl) (all_nil))
  | n + 1 =>
    have ih := G_term_Arena_Cut_ok N n
    (have hT : TabOK Try.prog (E_Y8_T N n) := TabOK.cons (E_Y21_ok N) (TabOK.cons (E_Y10_ok N) (TabOK.cons (E_Y18_ok N) (TabOK.cons (ih) (TabOK.cons (E_Y7_ok N) (TabOK.cons (E_Z38_ok N) (TabOK.cons (E_Y13_ok N) (TabOK.nil)))))))
     EntOK.vars hT Try.func19 (by kernel_rfl) (by kernel_rfl) (all_cons (Z14_ok N n hT) (all_nil)))
theorem E_Y8_ok (N : Nat) : EntOK Try.prog 19 (E_Y8 N) := (G_term_Arena_Cut_ok N N)
theorem E_Y3_Tok (N : Nat) : TabOK Try.prog (E_Y3_T N) := TabOK.cons (E_Y15_ok N) (TabOK.cons (E_Y8_ok N) (TabOK.cons (E_Y10_ok N) (TabOK.cons (E_Y11_ok N) (TabOK.cons (E_Y14_ok N) (TabOK.nil)))))
theorem Z5_ok (N : Nat) : VarOK Try.prog (E_Y3_T N) Try.f23 (codeOf Try.f23) (Z5_W (Z5 N)) :=
  VarOK.of (E_Y3_Tok N) (by kernel_rfl) ⟨[1], [], [1]⟩ (Z5_F) N (fun _ => LStep.none) fun t u K => Z5_body N _ _ _ _ _ _ t u K
theorem E_Y3_ok (N : Nat) : EntOK Try.prog 23 (E_Y3 N) := EntOK.vars (E_Y3_Tok N) Try.func23 (by kernel_rfl) (by kernel_rfl) (all_cons (Z5_ok N) (all_nil))
theorem E_Y2_Tok (N : Nat) : TabOK Try.prog (E_Y2_T N) := TabOK.cons (E_Y7_ok N) (TabOK.cons (E_Y6_ok N) (TabOK.cons (E_Y3_ok N) (TabOK.cons (E_Y16_ok N) (TabOK.cons (E_Y13_ok N) (TabOK.nil)))))
theorem Z3_ok (N : Nat) : VarOK Try.prog (E_Y2_T N) Try.f7 (codeOf Try.f7) (Z3_W (Z3 N)) :=
  VarOK.of (E_Y2_Tok N) (by kernel_rfl) ⟨[1], [], [1, 4, 5]⟩ (Z3_F (@Z3_l0 N)) N (fun _ => LStep.pick (all_cons ⟨.inl fun _ _ _ => rfl, fun n t u K => Z3_v0_0_round N _ _ _ _ _ _ _ _ n t u K⟩ (all_nil)) (LStep.none)) fun t u K => Z3_body N _ _ _ _ _ _ _ _ t u K
theorem Z2_ok (N : Nat) : VarOK Try.prog (E_Y2_T N) Try.f7 (codeOf Try.f7) (Z2_W (Z2 N)) :=
  VarOK.of (E_Y2_Tok N) (by kernel_rfl) ⟨[1], [], [1, 4]⟩ (Z2_F (@Z2_l0 N)) N (fun _ => LStep.pick (all_cons ⟨.inl fun _ _ _ => rfl, fun n t u K => Z2_v0_0_round N _ _ _ _ _ _ _ _ n t u K⟩ (all_nil)) (LStep.none)) fun t u K => Z2_body N _ _ _ _ _ _ _ _ t u K
theorem Z4_ok (N : Nat) : VarOK Try.prog (E_Y2_T N) Try.f7 (codeOf Try.f7) (Z4_W (Z4 N)) :=
  VarOK.of (E_Y2_Tok N) (by kernel_rfl) ⟨[1], [], [1]⟩ (Z4_F (@Z4_l0 N)) N (fun _ => LStep.pick (all_cons ⟨.inl fun _ _ _ => rfl, fun n t u K => Z4_v0_0_round N _ _ _ _ _ _ _ _ n t u K⟩ (all_nil)) (LStep.none)) fun t u K => Z4_body N _ _ _ _ _ _ _ _ t u K
theorem E_Y2_ok (N : Nat) : EntOK Try.prog 7 (E_Y2 N) := EntOK.vars (E_Y2_Tok N) Try.func7 (by kernel_rfl) (by kernel_rfl) (all_cons (Z3_ok N) (all_cons (Z2_ok N) (all_cons (Z4_ok N) (all_nil))))
theorem E_Z9_Tok (N : Nat) : TabOK Try.prog (E_Z9_T N) := TabOK.cons (E_Y1_ok N) (TabOK.cons (E_Y0_ok N) (TabOK.cons (E_Y12_ok N) (TabOK.cons (E_Y2_ok N) (TabOK.cons (E_Y15_ok N) (TabOK.cons (E_Y7_ok N) (TabOK.cons (E_Y17_ok N) (TabOK.cons (E_Z32_ok N) (TabOK.nil))))))))
theorem Z9_ok (N : Nat) : VarOK Try.prog (E_Z9_T N) Try.f4 (codeOf Try.f4) (Z9_W (Z9 N)) :=
  VarOK.of (E_Z9_Tok N) (by kernel_rfl) pn (Z9_F) N (fun _ => LStep.none) fun t u K => Z9_body N _ _ _ _ _ _ _ _ _ _ _ t u K
theorem E_Z9_ok (N : Nat) : EntOK Try.prog 4 (E_Z9 N) := EntOK.vars (E_Z9_Tok N) Try.func4 (by kernel_rfl) (by kernel_rfl) (all_cons (Z9_ok N) (all_nil))
theorem E_Y5_Tok (N : Nat) : TabOK Try.prog (E_Y5_T N) := TabOK.cons (E_Y8_ok N) (TabOK.cons (E_Y10_ok N) (TabOK.cons (E_Y11_ok N) (TabOK.cons (E_Y15_ok N) (TabOK.cons (E_Y14_ok N) (TabOK.cons (E_Y17_ok N) (TabOK.cons (E_Y18_ok N) (TabOK.cons (E_Z10_ok N) (TabOK.cons (E_Y7_ok N) (TabOK.nil)))))))))
theorem Z7_vj0_0_ok (N : Nat) : LV Try.prog (E_Y5_T N) ⟨4, Try.f6.ntmps, fun i => (Z7_F (@Z7_l0 N) (@Z7_lj0 N) (@Z7_lj1 N) (@Z7_lj2 N) (@Z7_lj3 N) i).at N, [1]⟩ (bodyAt Try.f6 11) (Z7_Fj0 (@Z7_lj0 N)) (Z7_vj0_0 (@Z7_lj0 N)) := ⟨.inr ⟨by kernel_rfl, fun _ _ _ _ => rfl⟩, Z7_vj0_0_round N (@Z14 N) (@Z16 N) (@Z17 N) (@Z21 N) (@Z20 N) (@Z23 N) (@Z24 N) (@Z10 N) (@Z13 N) (@Z7_l0 N) (@Z7_lj0 N) (@Z7_lj1 N) (@Z7_lj2 N) (@Z7_lj3 N)⟩
theorem Z7_sj0 (N : Nat) : LStep Try.prog (E_Y5_T N) ⟨4, Try.f6.ntmps, fun i => (Z7_F (@Z7_l0 N) (@Z7_lj0 N) (@Z7_lj1 N) (@Z7_lj2 N) (@Z7_lj3 N) i).at N, [1]⟩ (bodyAt Try.f6 11) (Z7_Fj0 (@Z7_lj0 N)) := all_cons (Z7_vj0_0_ok N) (all_nil)
theorem Z7_vj1_0_ok (N : Nat) : LV Try.prog (E_Y5_T N) ⟨4, Try.f6.ntmps, fun i => (Z7_F (@Z7_l0 N) (@Z7_lj0 N) (@Z7_lj1 N) (@Z7_lj2 N) (@Z7_lj3 N) i).at N, [1]⟩ (bodyAt Try.f6 17) (Z7_Fj1 (@Z7_lj1 N)) (Z7_vj1_0 (@Z7_lj1 N)) := ⟨.inr ⟨by kernel_rfl, fun _ _ _ _ => rfl⟩, Z7_vj1_0_round N (@Z14 N) (@Z16 N) (@Z17 N) (@Z21 N) (@Z20 N) (@Z23 N) (@Z24 N) (@Z10 N) (@Z13 N) (@Z7_l0 N) (@Z7_lj0 N) (@Z7_lj1 N) (@Z7_lj2 N) (@Z7_lj3 N)⟩
theorem Z7_sj1 (N : Nat) : LStep Try.prog (E_Y5_T N) ⟨4, Try.f6.ntmps, fun i => (Z7_F (@Z7_l0 N) (@Z7_lj0 N) (@Z7_lj1 N) (@Z7_lj2 N) (@Z7_lj3 N) i).at N, [1]⟩ (bodyAt Try.f6 17) (Z7_Fj1 (@Z7_lj1 N)) := all_cons (Z7_vj1_0_ok N) (all_nil)
theorem Z7_vj2_0_ok (N : Nat) : LV Try.prog (E_Y5_T N) ⟨4, Try.f6.ntmps, fun i => (Z7_F (@Z7_l0 N) (@Z7_lj0 N) (@Z7_lj1 N) (@Z7_lj2 N) (@Z7_lj3 N) i).at N, [1]⟩ (bodyAt Try.f6 22) (Z7_Fj2 (@Z7_lj2 N)) (Z7_vj2_0 (@Z7_lj2 N)) := ⟨.inr ⟨by kernel_rfl, fun _ _ _ _ => rfl⟩, Z7_vj2_0_round N (@Z14 N) (@Z16 N) (@Z17 N) (@Z21 N) (@Z20 N) (@Z23 N) (@Z24 N) (@Z10 N) (@Z13 N) (@Z7_l0 N) (@Z7_lj0 N) (@Z7_lj1 N) (@Z7_lj2 N) (@Z7_lj3 N)⟩
theorem Z7_sj2 (N : Nat) : LStep Try.prog (E_Y5_T N) ⟨4, Try.f6.ntmps, fun i => (Z7_F (@Z7_l0 N) (@Z7_lj0 N) (@Z7_lj1 N) (@Z7_lj2 N) (@Z7_lj3 N) i).at N, [1]⟩ (bodyAt Try.f6 22) (Z7_Fj2 (@Z7_lj2 N)) := all_cons (Z7_vj2_0_ok N) (all_nil)
theorem Z7_vj3_0_ok (N : Nat) : LV Try.prog (E_Y5_T N) ⟨4, Try.f6.ntmps, fun i => (Z7_F (@Z7_l0 N) (@Z7_lj0 N) (@Z7_lj1 N) (@Z7_lj2 N) (@Z7_lj3 N) i).at N, [1]⟩ (bodyAt Try.f6 51) (Z7_Fj3 (@Z7_lj3 N)) (Z7_vj3_0 (@Z7_lj3 N)) := ⟨.inr ⟨by kernel_rfl, fun _ _ _ _ => rfl⟩, Z7_vj3_0_round N (@Z14 N) (@Z16 N) (@Z17 N) (@Z21 N) (@Z20 N) (@Z23 N) (@Z24 N) (@Z10 N) (@Z13 N) (@Z7_l0 N) (@Z7_lj0 N) (@Z7_lj1 N) (@Z7_lj2 N) (@Z7_lj3 N)⟩
theorem Z7_sj3 (N : Nat) : LStep Try.prog (E_Y5_T N) ⟨4, Try.f6.ntmps, fun i => (Z7_F (@Z7_l0 N) (@Z7_lj0 N) (@Z7_lj1 N) (@Z7_lj2 N) (@Z7_lj3 N) i).at N, [1]⟩ (bodyAt Try.f6 51) (Z7_Fj3 (@Z7_lj3 N)) := all_cons (Z7_vj3_0_ok N) (all_nil)
theorem Z7_ok (N : Nat) : VarOK Try.prog (E_Y5_T N) Try.f6 (codeOf Try.f6) (Z7_W (Z7 N)) :=
  VarOK.of (E_Y5_Tok N) (by kernel_rfl) ⟨[], [(0, false, (.pair (.int .i64) (.pair (.pair (.int .i64) (.pair (.int .i64) (.pair (.int .u16) (.pair (.int .u8) (.pair (.int .u8) (.int .u8)))))) (.pair (.int .i64) (.pair (.int .i64) (.pair (.int .i64) (.int .i64)))))))], [1]⟩ (Z7_F (@Z7_l0 N) (@Z7_lj0 N) (@Z7_lj1 N) (@Z7_lj2 N) (@Z7_lj3 N)) N (fun _ => LStep.pick (all_cons ⟨.inl fun _ _ _ => rfl, fun n t u K => Z7_v0_0_round N _ _ _ _ _ _ _ _ _ _ _ _ _ _ _ n t u K⟩ (all_nil)) (LStep.pick (Z7_sj0 N) (LStep.pick (Z7_sj1 N) (LStep.pick (Z7_sj2 N) (LStep.pick (Z7_sj3 N) (LStep.none)))))) fun t u K => Z7_body N _ _ _ _ _ _ _ _ _ _ _ _ _ _ _ t u K
theorem E_Y5_ok (N : Nat) : EntOK Try.prog 6 (E_Y5 N) := EntOK.vars (E_Y5_Tok N) Try.func6 (by kernel_rfl) (by kernel_rfl) (all_cons (Z7_ok N) (all_nil))
theorem Z29_ok (N : Nat) (n : Nat) (hT : TabOK Try.prog (E_Y23_T N n)) : VarOK Try.prog (E_Y23_T N n) Try.f26 (codeOf Try.f26) (Z29_W (@G_term_Arena_quick_Rec.Z29 (G_term_Arena_quick_rec N (n + 1)))) :=
  VarOK.of hT (by kernel_rfl) ⟨[], [], [1, 4]⟩ (Z29_F) N (fun _ => LStep.none) fun t u K => Z29_body N _ _ _ _ t u K
theorem G_term_Arena_quick_ok (N : Nat) : ∀ n : Nat, EntOK Try.prog 26 (E_Y23_n N n)
  | 0 => EntOK.void Try.func26 (by kernel_rfl) (by kernel_rfl) (all_cons (fun _ _ _ _ => rfl) (all_nil))
  | n + 1 =>
    have ih := G_term_Arena_quick_ok N n
    (have hT : TabOK Try.prog (E_Y23_T N n) := TabOK.cons (E_Y26_ok N) (TabOK.cons (E_Y18_ok N) (TabOK.cons (ih) (TabOK.nil)))
     EntOK.vars hT Try.func26 (by kernel_rfl) (by kernel_rfl) (all_cons (Z29_ok N n hT) (all_nil)))
theorem E_Y23_ok (N : Nat) : EntOK Try.prog 26 (E_Y23 N) := (G_term_Arena_quick_ok N N)
theorem E_Y9_Tok (N : Nat) : TabOK Try.prog (E_Y9_T N) := TabOK.cons (E_Y26_ok N) (TabOK.cons (E_Y18_ok N) (TabOK.cons (E_Y16_ok N) (TabOK.cons (E_Y23_ok N) (TabOK.cons (E_Y24_ok N) (TabOK.nil)))))
theorem Z15_ok (N : Nat) : VarOK Try.prog (E_Y9_T N) Try.f8 (codeOf Try.f8) (Z15_W (Z15 N)) :=
  VarOK.of (E_Y9_Tok N) (by kernel_rfl) ⟨[], [], [1, 4]⟩ (Z15_F (@Z15_l0 N)) N (fun _ => LStep.pick (all_cons ⟨.inl fun _ _ _ => rfl, fun n t u K => Z15_v0_0_round N _ _ _ _ _ _ _ n t u K⟩ (all_nil)) (LStep.none)) fun t u K => Z15_body N _ _ _ _ _ _ _ t u K
theorem E_Y9_ok (N : Nat) : EntOK Try.prog 8 (E_Y9 N) := EntOK.vars (E_Y9_Tok N) Try.func8 (by kernel_rfl) (by kernel_rfl) (all_cons (Z15_ok N) (all_nil))
theorem E_Z8_Tok (N : Nat) : TabOK Try.prog (E_Z8_T N) := TabOK.cons (E_Y1_ok N) (TabOK.cons (E_Y9_ok N) (TabOK.cons (E_Y2_ok N) (TabOK.cons (E_Y5_ok N) (TabOK.cons (E_Z32_ok N) (TabOK.cons (E_Z9_ok N) (TabOK.nil))))))
theorem Z8_ok (N : Nat) : VarOK Try.prog (E_Z8_T N) Try.f3 (codeOf Try.f3) (Z8_W (Z8 N)) :=
  VarOK.of (E_Z8_Tok N) (by kernel_rfl) pn (Z8_F (@Z8_l0 N) (@Z8_l1 N) (@Z8_l2 N) (@Z8_l3 N)) N (fun _ => LStep.pick (all_cons ⟨.inl fun _ _ _ => rfl, fun n t u K => Z8_v0_0_round N _ _ _ _ _ _ _ _ _ _ _ _ _ n t u K⟩ (all_nil)) (LStep.pick (all_cons ⟨.inl fun _ _ _ => rfl, fun n t u K => Z8_v1_0_round N _ _ _ _ _ _ _ _ _ _ _ _ _ n t u K⟩ (all_nil)) (LStep.pick (all_cons ⟨.inl fun _ _ _ => rfl, fun n t u K => Z8_v2_0_round N _ _ _ _ _ _ _ _ _ _ _ _ _ n t u K⟩ (all_nil)) (LStep.pick (all_cons ⟨.inl fun _ _ _ => rfl, fun n t u K => Z8_v3_0_round N _ _ _ _ _ _ _ _ _ _ _ _ _ n t u K⟩ (all_nil)) (LStep.none))))) fun t u K => Z8_body N _ _ _ _ _ _ _ _ _ _ _ _ _ t u K
theorem E_Z8_ok (N : Nat) : EntOK Try.prog 3 (E_Z8 N) := EntOK.vars (E_Z8_Tok N) Try.func3 (by kernel_rfl) (by kernel_rfl) (all_cons (Z8_ok N) (all_nil))
end
end Go.Proofs.Ytmgoeikbdikmdaa
