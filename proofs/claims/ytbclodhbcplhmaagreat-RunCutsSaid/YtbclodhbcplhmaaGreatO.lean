/-
  Each entry is borne out (printed by a program of this work).
-/
import Derived.Test.YtbclodhbcplhmaaGreatX
import Derived.Test.YtbclodhbcplhmaaGreatQ0
import Derived.Test.YtbclodhbcplhmaaGreatQ1
import Derived.Test.YtbclodhbcplhmaaGreatQ2
import Derived.Test.YtbclodhbcplhmaaGreatQ3
set_option linter.unusedVariables false
set_option maxRecDepth 100000
namespace Go.Proofs.YtbclodhbcplhmaaGreat
open Go.Gx
noncomputable section
theorem E_Z106_Tok (N : Nat) : TabOK Tryz.prog (E_Z106_T N) := TabOK.cons E_stringslite_IndexByte_ok (TabOK.nil)
theorem Z106_ok (N : Nat) : VarOK Tryz.prog (E_Z106_T N) Tryz.f138 (codeOf Tryz.f138) (Z106_W (Z106 N)) :=
  VarOK.of (E_Z106_Tok N) (by kernel_rfl) pn (Z106_F) N (fun _ => LStep.none) fun t u K => Z106_body N _ _ t u K
theorem E_Z106_ok (N : Nat) : EntOK Tryz.prog 138 (E_Z106 N) := EntOK.vars (E_Z106_Tok N) Tryz.func138 (by kernel_rfl) (by kernel_rfl) (all_cons (Z106_ok N) (all_nil))
theorem E_Z105_Tok (N : Nat) : TabOK Tryz.prog (E_Z105_T N) := TabOK.cons (E_Z106_ok N) (TabOK.nil)
theorem Z105_ok (N : Nat) : VarOK Tryz.prog (E_Z105_T N) Tryz.f126 (codeOf Tryz.f126) (Z105_W (Z105 N)) :=
  VarOK.of (E_Z105_Tok N) (by kernel_rfl) pn (Z105_F) N (fun _ => LStep.none) fun t u K => Z105_body N _ _ t u K
theorem E_Z105_ok (N : Nat) : EntOK Tryz.prog 126 (E_Z105 N) := EntOK.vars (E_Z105_Tok N) Tryz.func126 (by kernel_rfl) (by kernel_rfl) (all_cons (Z105_ok N) (all_nil))
theorem E_Z104_Tok (N : Nat) : TabOK Tryz.prog (E_Z104_T N) := TabOK.cons (E_Z105_ok N) (TabOK.nil)
theorem Z104_ok (N : Nat) : VarOK Tryz.prog (E_Z104_T N) Tryz.f101 (codeOf Tryz.f101) (Z104_W (Z104 N)) :=
  VarOK.of (E_Z104_Tok N) (by kernel_rfl) pn (Z104_F) N (fun _ => LStep.none) fun t u K => Z104_body N _ _ t u K
theorem E_Z104_ok (N : Nat) : EntOK Tryz.prog 101 (E_Z104 N) := EntOK.vars (E_Z104_Tok N) Tryz.func101 (by kernel_rfl) (by kernel_rfl) (all_cons (Z104_ok N) (all_nil))
theorem E_Z6_Tok (N : Nat) : TabOK Tryz.prog (E_Z6_T N) := TabOK.nil
theorem Z6_ok (N : Nat) : VarOK Tryz.prog (E_Z6_T N) Tryz.f127 (codeOf Tryz.f127) (Z6_W (Z6 N)) :=
  VarOK.of (E_Z6_Tok N) (by kernel_rfl) pn (Z6_F) N (fun _ => LStep.none) fun t u K => Z6_body N _ t u K
theorem E_Z6_ok (N : Nat) : EntOK Tryz.prog 127 (E_Z6 N) := EntOK.vars (E_Z6_Tok N) Tryz.func127 (by kernel_rfl) (by kernel_rfl) (all_cons (Z6_ok N) (all_nil))
theorem E_Z12_Tok (N : Nat) : TabOK Tryz.prog (E_Z12_T N) := TabOK.cons (E_Z6_ok N) (TabOK.nil)
theorem Z12_ok (N : Nat) : VarOK Tryz.prog (E_Z12_T N) Tryz.f102 (codeOf Tryz.f102) (Z12_W (Z12 N)) :=
  VarOK.of (E_Z12_Tok N) (by kernel_rfl) pn (Z12_F (@Z12_l0 N)) N (fun _ => LStep.pick (all_cons ⟨.inl fun _ _ _ => rfl, fun n t u K => Z12_v0_0_round N _ _ _ n t u K⟩ (all_nil)) (LStep.none)) fun t u K => Z12_body N _ _ _ t u K
theorem E_Z12_ok (N : Nat) : EntOK Tryz.prog 102 (E_Z12 N) := EntOK.vars (E_Z12_Tok N) Tryz.func102 (by kernel_rfl) (by kernel_rfl) (all_cons (Z12_ok N) (all_nil))
theorem E_Z0_Tok (N : Nat) : TabOK Tryz.prog (E_Z0_T N) := TabOK.cons (E_Z12_ok N) (TabOK.cons (E_Z104_ok N) (TabOK.nil))
theorem Z0_ok (N : Nat) : VarOK Tryz.prog (E_Z0_T N) Tryz.f62 (codeOf Tryz.f62) (Z0_W (Z0 N)) :=
  VarOK.of (E_Z0_Tok N) (by kernel_rfl) pn (Z0_F) N (fun _ => LStep.none) fun t u K => Z0_body N _ _ _ t u K
theorem E_Z0_ok (N : Nat) : EntOK Tryz.prog 62 (E_Z0 N) := EntOK.vars (E_Z0_Tok N) Tryz.func62 (by kernel_rfl) (by kernel_rfl) (all_cons (Z0_ok N) (all_nil))
theorem E_Z45_Tok (N : Nat) : TabOK Tryz.prog (E_Z45_T N) := TabOK.nil
theorem Z45_ok (N : Nat) : VarOK Tryz.prog (E_Z45_T N) Tryz.f70 (codeOf Tryz.f70) (Z45_W (Z45 N)) :=
  VarOK.of (E_Z45_Tok N) (by kernel_rfl) pn (Z45_F) N (fun _ => LStep.none) fun t u K => Z45_body N _ t u K
theorem E_Z45_ok (N : Nat) : EntOK Tryz.prog 70 (E_Z45 N) := EntOK.vars (E_Z45_Tok N) Tryz.func70 (by kernel_rfl) (by kernel_rfl) (all_cons (Z45_ok N) (all_nil))
theorem E_Z43_Tok (N : Nat) : TabOK Tryz.prog (E_Z43_T N) := TabOK.cons (E_Z45_ok N) (TabOK.nil)
theorem Z43_ok (N : Nat) : VarOK Tryz.prog (E_Z43_T N) Tryz.f103 (codeOf Tryz.f103) (Z43_W (Z43 N)) :=
  VarOK.of (E_Z43_Tok N) (by kernel_rfl) pn (Z43_F) N (fun _ => LStep.none) fun t u K => Z43_body N _ _ t u K
theorem E_Z43_ok (N : Nat) : EntOK Tryz.prog 103 (E_Z43 N) := EntOK.vars (E_Z43_Tok N) Tryz.func103 (by kernel_rfl) (by kernel_rfl) (all_cons (Z43_ok N) (all_nil))
theorem E_Z7_Tok (N : Nat) : TabOK Tryz.prog (E_Z7_T N) := TabOK.nil
theorem Z7_ok (N : Nat) : VarOK Tryz.prog (E_Z7_T N) Tryz.f104 (codeOf Tryz.f104) (Z7_W (Z7 N)) :=
  VarOK.of (E_Z7_Tok N) (by kernel_rfl) pn (Z7_F) N (fun _ => LStep.none) fun t u K => Z7_body N _ t u K
theorem E_Z7_ok (N : Nat) : EntOK Tryz.prog 104 (E_Z7 N) := EntOK.vars (E_Z7_Tok N) Tryz.func104 (by kernel_rfl) (by kernel_rfl) (all_cons (Z7_ok N) (all_nil))
theorem E_Z42_Tok (N : Nat) : TabOK Tryz.prog (E_Z42_T N) := TabOK.nil
theorem Z42_ok (N : Nat) : VarOK Tryz.prog (E_Z42_T N) Tryz.f105 (codeOf Tryz.f105) (Z42_W (Z42 N)) :=
  VarOK.of (E_Z42_Tok N) (by kernel_rfl) pn (Z42_F) N (fun _ => LStep.none) fun t u K => Z42_body N _ t u K
theorem E_Z42_ok (N : Nat) : EntOK Tryz.prog 105 (E_Z42 N) := EntOK.vars (E_Z42_Tok N) Tryz.func105 (by kernel_rfl) (by kernel_rfl) (all_cons (Z42_ok N) (all_nil))
theorem E_Z39_Tok (N : Nat) : TabOK Tryz.prog (E_Z39_T N) := TabOK.nil
theorem Z39_ok (N : Nat) : VarOK Tryz.prog (E_Z39_T N) Tryz.f106 (codeOf Tryz.f106) (Z39_W (Z39 N)) :=
  VarOK.of (E_Z39_Tok N) (by kernel_rfl) pn (Z39_F) N (fun _ => LStep.none) fun t u K => Z39_body N _ t u K
theorem E_Z39_ok (N : Nat) : EntOK Tryz.prog 106 (E_Z39 N) := EntOK.vars (E_Z39_Tok N) Tryz.func106 (by kernel_rfl) (by kernel_rfl) (all_cons (Z39_ok N) (all_nil))
theorem E_Z10_Tok (N : Nat) : TabOK Tryz.prog (E_Z10_T N) := TabOK.cons (E_Z39_ok N) (TabOK.cons (E_Z42_ok N) (TabOK.cons (E_Z7_ok N) (TabOK.cons (E_Z43_ok N) (TabOK.nil))))
theorem Z11_ok (N : Nat) : VarOK Tryz.prog (E_Z10_T N) Tryz.f63 (codeOf Tryz.f63) (Z11_W (Z11 N)) :=
  VarOK.of (E_Z10_Tok N) (by kernel_rfl) ⟨[], [], [0, 1]⟩ (Z11_F) N (fun _ => LStep.none) fun t u K => Z11_body N _ _ _ _ _ t u K
theorem Z10_ok (N : Nat) : VarOK Tryz.prog (E_Z10_T N) Tryz.f63 (codeOf Tryz.f63) (Z10_W (Z10 N)) :=
  VarOK.of (E_Z10_Tok N) (by kernel_rfl) pn (Z10_F) N (fun _ => LStep.none) fun t u K => Z10_body N _ _ _ _ _ t u K
theorem E_Z10_ok (N : Nat) : EntOK Tryz.prog 63 (E_Z10 N) := EntOK.vars (E_Z10_Tok N) Tryz.func63 (by kernel_rfl) (by kernel_rfl) (all_cons (Z11_ok N) (all_cons (Z10_ok N) (all_nil)))
theorem E_Z44_Tok (N : Nat) : TabOK Tryz.prog (E_Z44_T N) := TabOK.cons (E_Z45_ok N) (TabOK.nil)
theorem Z44_ok (N : Nat) : VarOK Tryz.prog (E_Z44_T N) Tryz.f38 (codeOf Tryz.f38) (Z44_W (Z44 N)) :=
  VarOK.of (E_Z44_Tok N) (by kernel_rfl) pn (Z44_F) N (fun _ => LStep.none) fun t u K => Z44_body N _ _ t u K
theorem E_Z44_ok (N : Nat) : EntOK Tryz.prog 38 (E_Z44 N) := EntOK.vars (E_Z44_Tok N) Tryz.func38 (by kernel_rfl) (by kernel_rfl) (all_cons (Z44_ok N) (all_nil))
theorem E_Z41_Tok (N : Nat) : TabOK Tryz.prog (E_Z41_T N) := TabOK.cons (E_Z45_ok N) (TabOK.nil)
theorem Z41_ok (N : Nat) : VarOK Tryz.prog (E_Z41_T N) Tryz.f128 (codeOf Tryz.f128) (Z41_W (Z41 N)) :=
  VarOK.of (E_Z41_Tok N) (by kernel_rfl) pn (Z41_F) N (fun _ => LStep.none) fun t u K => Z41_body N _ _ t u K
theorem E_Z41_ok (N : Nat) : EntOK Tryz.prog 128 (E_Z41 N) := EntOK.vars (E_Z41_Tok N) Tryz.func128 (by kernel_rfl) (by kernel_rfl) (all_cons (Z41_ok N) (all_nil))
theorem E_Z3_Tok (N : Nat) : TabOK Tryz.prog (E_Z3_T N) := TabOK.cons (E_Z41_ok N) (TabOK.cons (E_Z44_ok N) (TabOK.nil))
theorem Z3_ok (N : Nat) : VarOK Tryz.prog (E_Z3_T N) Tryz.f107 (codeOf Tryz.f107) (Z3_W (Z3 N)) :=
  VarOK.of (E_Z3_Tok N) (by kernel_rfl) pn (Z3_F) N (fun _ => LStep.none) fun t u K => Z3_body N _ _ _ t u K
theorem E_Z3_ok (N : Nat) : EntOK Tryz.prog 107 (E_Z3 N) := EntOK.vars (E_Z3_Tok N) Tryz.func107 (by kernel_rfl) (by kernel_rfl) (all_cons (Z3_ok N) (all_nil))
theorem E_Z8_Tok (N : Nat) : TabOK Tryz.prog (E_Z8_T N) := TabOK.cons (E_Z42_ok N) (TabOK.cons (E_Z39_ok N) (TabOK.nil))
theorem Z9_ok (N : Nat) : VarOK Tryz.prog (E_Z8_T N) Tryz.f108 (codeOf Tryz.f108) (Z9_W (Z9 N)) :=
  VarOK.of (E_Z8_Tok N) (by kernel_rfl) ⟨[], [(0, false, (.int .i64))], [0, 1]⟩ (Z9_F) N (fun _ => LStep.none) fun t u K => Z9_body N _ _ _ t u K
theorem Z8_ok (N : Nat) : VarOK Tryz.prog (E_Z8_T N) Tryz.f108 (codeOf Tryz.f108) (Z8_W (Z8 N)) :=
  VarOK.of (E_Z8_Tok N) (by kernel_rfl) ⟨[], [(0, false, (.int .i64))], []⟩ (Z8_F) N (fun _ => LStep.none) fun t u K => Z8_body N _ _ _ t u K
theorem E_Z8_ok (N : Nat) : EntOK Tryz.prog 108 (E_Z8 N) := EntOK.vars (E_Z8_Tok N) Tryz.func108 (by kernel_rfl) (by kernel_rfl) (all_cons (Z9_ok N) (all_cons (Z8_ok N) (all_nil)))
theorem E_Z13_Tok (N : Nat) : TabOK Tryz.prog (E_Z13_T N) := TabOK.cons (E_Z8_ok N) (TabOK.cons (E_Z3_ok N) (TabOK.nil))
theorem Z14_ok (N : Nat) : VarOK Tryz.prog (E_Z13_T N) Tryz.f64 (codeOf Tryz.f64) (Z14_W (Z14 N)) :=
  VarOK.of (E_Z13_Tok N) (by kernel_rfl) ⟨[], [], [0, 1]⟩ (Z14_F (@Z14_l0 N) (@Z14_l1 N) (@Z14_l2 N) (@Z14_l3 N)) N (fun _ => LStep.pick (all_cons ⟨.inl fun _ _ _ => rfl, fun n t u K => Z14_v0_0_round N _ _ _ _ _ _ _ _ n t u K⟩ (all_nil)) (LStep.pick (all_cons ⟨.inl fun _ _ _ => rfl, fun n t u K => Z14_v1_0_round N _ _ _ _ _ _ _ _ n t u K⟩ (all_nil)) (LStep.pick (all_cons ⟨.inl fun _ _ _ => rfl, fun n t u K => Z14_v2_0_round N _ _ _ _ _ _ _ _ n t u K⟩ (all_nil)) (LStep.pick (all_cons ⟨.inl fun _ _ _ => rfl, fun n t u K => Z14_v3_0_round N _ _ _ _ _ _ _ _ n t u K⟩ (all_nil)) (LStep.none))))) fun t u K => Z14_body N _ _ _ _ _ _ _ _ t u K
theorem Z13_ok (N : Nat) : VarOK Tryz.prog (E_Z13_T N) Tryz.f64 (codeOf Tryz.f64) (Z13_W (Z13 N)) :=
  VarOK.of (E_Z13_Tok N) (by kernel_rfl) pn (Z13_F (@Z13_l0 N) (@Z13_l1 N) (@Z13_l2 N) (@Z13_l3 N)) N (fun _ => LStep.pick (all_cons ⟨.inl fun _ _ _ => rfl, fun n t u K => Z13_v0_0_round N _ _ _ _ _ _ _ _ n t u K⟩ (all_nil)) (LStep.pick (all_cons ⟨.inl fun _ _ _ => rfl, fun n t u K => Z13_v1_0_round N _ _ _ _ _ _ _ _ n t u K⟩ (all_nil)) (LStep.pick (all_cons ⟨.inl fun _ _ _ => rfl, fun n t u K => Z13_v2_0_round N _ _ _ _ _ _ _ _ n t u K⟩ (all_nil)) (LStep.pick (all_cons ⟨.inl fun _ _ _ => rfl, fun n t u K => Z13_v3_0_round N _ _ _ _ _ _ _ _ n t u K⟩ (all_nil)) (LStep.none))))) fun t u K => Z13_body N _ _ _ _ _ _ _ _ t u K
theorem E_Z13_ok (N : Nat) : EntOK Tryz.prog 64 (E_Z13 N) := EntOK.vars (E_Z13_Tok N) Tryz.func64 (by kernel_rfl) (by kernel_rfl) (all_cons (Z14_ok N) (all_cons (Z13_ok N) (all_nil)))
theorem E_Y0_Tok (N : Nat) : TabOK Tryz.prog (E_Y0_T N) := TabOK.cons (E_Z3_ok N) (TabOK.nil)
theorem Z4_ok (N : Nat) : VarOK Tryz.prog (E_Y0_T N) Tryz.f65 (codeOf Tryz.f65) (Z4_W (Z4 N)) :=
  VarOK.of (E_Y0_Tok N) (by kernel_rfl) ⟨[], [], [0, 1]⟩ (Z4_F (@Z4_l0 N)) N (fun _ => LStep.pick (all_cons ⟨.inl fun _ _ _ => rfl, fun n t u K => Z4_v0_0_round N _ _ _ n t u K⟩ (all_nil)) (LStep.none)) fun t u K => Z4_body N _ _ _ t u K
theorem Z5_ok (N : Nat) : VarOK Tryz.prog (E_Y0_T N) Tryz.f65 (codeOf Tryz.f65) (Z5_W (Z5 N)) :=
  VarOK.of (E_Y0_Tok N) (by kernel_rfl) pn (Z5_F (@Z5_l0 N)) N (fun _ => LStep.pick (all_cons ⟨.inl fun _ _ _ => rfl, fun n t u K => Z5_v0_0_round N _ _ _ n t u K⟩ (all_nil)) (LStep.none)) fun t u K => Z5_body N _ _ _ t u K
theorem E_Y0_ok (N : Nat) : EntOK Tryz.prog 65 (E_Y0 N) := EntOK.vars (E_Y0_Tok N) Tryz.func65 (by kernel_rfl) (by kernel_rfl) (all_cons (Z4_ok N) (all_cons (Z5_ok N) (all_nil)))
theorem E_Z1_Tok (N : Nat) : TabOK Tryz.prog (E_Z1_T N) := TabOK.cons (E_Y0_ok N) (TabOK.cons (E_Z13_ok N) (TabOK.cons (E_Z10_ok N) (TabOK.cons (E_Z0_ok N) (TabOK.nil))))
theorem Z2_ok (N : Nat) : VarOK Tryz.prog (E_Z1_T N) Tryz.f31 (codeOf Tryz.f31) (Z2_W (Z2 N)) :=
  VarOK.of (E_Z1_Tok N) (by kernel_rfl) ⟨[], [], [0, 1]⟩ (Z2_F (@Z2_l0 N) (@Z2_l1 N) (@Z2_l2 N)) N (fun _ => LStep.pick (all_cons ⟨.inl fun _ _ _ => rfl, fun n t u K => Z2_v0_0_round N _ _ _ _ _ _ _ _ _ _ _ n t u K⟩ (all_nil)) (LStep.pick (all_cons ⟨.inl fun _ _ _ => rfl, fun n t u K => Z2_v1_0_round N _ _ _ _ _ _ _ _ _ _ _ n t u K⟩ (all_nil)) (LStep.pick (all_cons ⟨.inl fun _ _ _ => rfl, fun n t u K => Z2_v2_0_round N _ _ _ _ _ _ _ _ _ _ _ n t u K⟩ (all_nil)) (LStep.none)))) fun t u K => Z2_body N _ _ _ _ _ _ _ _ _ _ _ t u K
theorem Z1_ok (N : Nat) : VarOK Tryz.prog (E_Z1_T N) Tryz.f31 (codeOf Tryz.f31) (Z1_W (Z1 N)) :=
  VarOK.of (E_Z1_Tok N) (by kernel_rfl) pn (Z1_F (@Z1_l0 N) (@Z1_l1 N) (@Z1_l2 N)) N (fun _ => LStep.pick (all_cons ⟨.inl fun _ _ _ => rfl, fun n t u K => Z1_v0_0_round N _ _ _ _ _ _ _ _ _ _ _ n t u K⟩ (all_nil)) (LStep.pick (all_cons ⟨.inl fun _ _ _ => rfl, fun n t u K => Z1_v1_0_round N _ _ _ _ _ _ _ _ _ _ _ n t u K⟩ (all_nil)) (LStep.pick (all_cons ⟨.inl fun _ _ _ => rfl, fun n t u K => Z1_v2_0_round N _ _ _ _ _ _ _ _ _ _ _ n t u K⟩ (all_nil)) (LStep.none)))) fun t u K => Z1_body N _ _ _ _ _ _ _ _ _ _ _ t u K
theorem E_Z1_ok (N : Nat) : EntOK Tryz.prog 31 (E_Z1 N) := EntOK.vars (E_Z1_Tok N) Tryz.func31 (by kernel_rfl) (by kernel_rfl) (all_cons (Z2_ok N) (all_cons (Z1_ok N) (all_nil)))
theorem E_Z95_Tok (N : Nat) : TabOK Tryz.prog (E_Z95_T N) := TabOK.nil
theorem Z95_ok (N : Nat) : VarOK Tryz.prog (E_Z95_T N) Tryz.f34 (codeOf Tryz.f34) (Z95_W (Z95 N)) :=
  VarOK.of (E_Z95_Tok N) (by kernel_rfl) pn (Z95_F) N (fun _ => LStep.none) fun t u K => Z95_body N _ t u K
theorem E_Z95_ok (N : Nat) : EntOK Tryz.prog 34 (E_Z95 N) := EntOK.vars (E_Z95_Tok N) Tryz.func34 (by kernel_rfl) (by kernel_rfl) (all_cons (Z95_ok N) (all_nil))
theorem E_Z101_Tok (N : Nat) : TabOK Tryz.prog (E_Z101_T N) := TabOK.cons (E_Z95_ok N) (TabOK.nil)
theorem Z102_ok (N : Nat) : VarOK Tryz.prog (E_Z101_T N) Tryz.f68 (codeOf Tryz.f68) (Z102_W (Z102 N)) :=
  VarOK.of (E_Z101_Tok N) (by kernel_rfl) ⟨[], [], [0]⟩ (Z102_F (@Z102_l0 N)) N (fun _ => LStep.pick (all_cons ⟨.inl fun _ _ _ => rfl, fun n t u K => Z102_v0_0_round N _ _ _ n t u K⟩ (all_nil)) (LStep.none)) fun t u K => Z102_body N _ _ _ t u K
theorem Z101_ok (N : Nat) : VarOK Tryz.prog (E_Z101_T N) Tryz.f68 (codeOf Tryz.f68) (Z101_W (Z101 N)) :=
  VarOK.of (E_Z101_Tok N) (by kernel_rfl) pn (Z101_F (@Z101_l0 N)) N (fun _ => LStep.pick (all_cons ⟨.inl fun _ _ _ => rfl, fun n t u K => Z101_v0_0_round N _ _ _ n t u K⟩ (all_nil)) (LStep.none)) fun t u K => Z101_body N _ _ _ t u K
theorem E_Z101_ok (N : Nat) : EntOK Tryz.prog 68 (E_Z101 N) := EntOK.vars (E_Z101_Tok N) Tryz.func68 (by kernel_rfl) (by kernel_rfl) (all_cons (Z102_ok N) (all_cons (Z101_ok N) (all_nil)))
theorem E_Z99_Tok (N : Nat) : TabOK Tryz.prog (E_Z99_T N) := TabOK.cons (E_Z101_ok N) (TabOK.nil)
theorem Z100_ok (N : Nat) : VarOK Tryz.prog (E_Z99_T N) Tryz.f33 (codeOf Tryz.f33) (Z100_W (Z100 N)) :=
  VarOK.of (E_Z99_Tok N) (by kernel_rfl) ⟨[], [], [0]⟩ (Z100_F) N (fun _ => LStep.none) fun t u K => Z100_body N _ _ _ t u K
theorem Z99_ok (N : Nat) : VarOK Tryz.prog (E_Z99_T N) Tryz.f33 (codeOf Tryz.f33) (Z99_W (Z99 N)) :=
  VarOK.of (E_Z99_Tok N) (by kernel_rfl) pn (Z99_F) N (fun _ => LStep.none) fun t u K => Z99_body N _ _ _ t u K
theorem E_Z99_ok (N : Nat) : EntOK Tryz.prog 33 (E_Z99 N) := EntOK.vars (E_Z99_Tok N) Tryz.func33 (by kernel_rfl) (by kernel_rfl) (all_cons (Z100_ok N) (all_cons (Z99_ok N) (all_nil)))
theorem E_Z16_Tok (N : Nat) : TabOK Tryz.prog (E_Z16_T N) := TabOK.cons E_slices_Clone__bool_bool_ok (TabOK.nil)
theorem Z17_ok (N : Nat) : VarOK Tryz.prog (E_Z16_T N) Tryz.f35 (codeOf Tryz.f35) (Z17_W (Z17 N)) :=
  VarOK.of (E_Z16_Tok N) (by kernel_rfl) ⟨[], [], [0]⟩ (Z17_F) N (fun _ => LStep.none) fun t u K => Z17_body N _ _ _ t u K
theorem Z16_ok (N : Nat) : VarOK Tryz.prog (E_Z16_T N) Tryz.f35 (codeOf Tryz.f35) (Z16_W (Z16 N)) :=
  VarOK.of (E_Z16_Tok N) (by kernel_rfl) pn (Z16_F) N (fun _ => LStep.none) fun t u K => Z16_body N _ _ _ t u K
theorem E_Z16_ok (N : Nat) : EntOK Tryz.prog 35 (E_Z16 N) := EntOK.vars (E_Z16_Tok N) Tryz.func35 (by kernel_rfl) (by kernel_rfl) (all_cons (Z17_ok N) (all_cons (Z16_ok N) (all_nil)))
theorem E_Y23_Tok (N : Nat) : TabOK Tryz.prog (E_Y23_T N) := TabOK.nil
theorem Z70_ok (N : Nat) : VarOK Tryz.prog (E_Y23_T N) Tryz.f20 (codeOf Tryz.f20) (Z70_W (Z70 N)) :=
  VarOK.of (E_Y23_Tok N) (by kernel_rfl) ⟨[], [], [1, 2, 3, 8, 10, 11, 12]⟩ (Z70_F) N (fun _ => LStep.none) fun t u K => Z70_body N _ t u K
theorem Z71_ok (N : Nat) : VarOK Tryz.prog (E_Y23_T N) Tryz.f20 (codeOf Tryz.f20) (Z71_W (Z71 N)) :=
  VarOK.of (E_Y23_Tok N) (by kernel_rfl) ⟨[], [], [1, 6, 8, 9]⟩ (Z71_F) N (fun _ => LStep.none) fun t u K => Z71_body N _ t u K
theorem E_Y23_ok (N : Nat) : EntOK Tryz.prog 20 (E_Y23 N) := EntOK.vars (E_Y23_Tok N) Tryz.func20 (by kernel_rfl) (by kernel_rfl) (all_cons (Z70_ok N) (all_cons (Z71_ok N) (all_nil)))
theorem E_Z40_Tok (N : Nat) : TabOK Tryz.prog (E_Z40_T N) := TabOK.nil
theorem Z40_ok (N : Nat) : VarOK Tryz.prog (E_Z40_T N) Tryz.f36 (codeOf Tryz.f36) (Z40_W (Z40 N)) :=
  VarOK.of (E_Z40_Tok N) (by kernel_rfl) pn (Z40_F) N (fun _ => LStep.none) fun t u K => Z40_body N _ t u K
theorem E_Z40_ok (N : Nat) : EntOK Tryz.prog 36 (E_Z40 N) := EntOK.vars (E_Z40_Tok N) Tryz.func36 (by kernel_rfl) (by kernel_rfl) (all_cons (Z40_ok N) (all_nil))
theorem E_Y1_Tok (N : Nat) : TabOK Tryz.prog (E_Y1_T N) := TabOK.nil
theorem Z15_ok (N : Nat) : VarOK Tryz.prog (E_Y1_T N) Tryz.f37 (codeOf Tryz.f37) (Z15_W (Z15 N)) :=
  VarOK.of (E_Y1_Tok N) (by kernel_rfl) ⟨[], [], [1]⟩ (Z15_F) N (fun _ => LStep.none) fun t u K => Z15_body N _ t u K
theorem E_Y1_ok (N : Nat) : EntOK Tryz.prog 37 (E_Y1 N) := EntOK.vars (E_Y1_Tok N) Tryz.func37 (by kernel_rfl) (by kernel_rfl) (all_cons (Z15_ok N) (all_nil))
theorem E_Y29_Tok (N : Nat) : TabOK Tryz.prog (E_Y29_T N) := TabOK.nil
theorem Z84_ok (N : Nat) : VarOK Tryz.prog (E_Y29_T N) Tryz.f71 (codeOf Tryz.f71) (Z84_W (Z84 N)) :=
  VarOK.of (E_Y29_Tok N) (by kernel_rfl) ⟨[], [], [1, 2, 8, 10, 11, 12]⟩ (Z84_F) N (fun _ => LStep.none) fun t u K => Z84_body N _ t u K
theorem Z82_ok (N : Nat) : VarOK Tryz.prog (E_Y29_T N) Tryz.f71 (codeOf Tryz.f71) (Z82_W (Z82 N)) :=
  VarOK.of (E_Y29_Tok N) (by kernel_rfl) ⟨[], [], [1, 2, 3, 8, 10, 11, 12]⟩ (Z82_F) N (fun _ => LStep.none) fun t u K => Z82_body N _ t u K
theorem Z85_ok (N : Nat) : VarOK Tryz.prog (E_Y29_T N) Tryz.f71 (codeOf Tryz.f71) (Z85_W (Z85 N)) :=
  VarOK.of (E_Y29_Tok N) (by kernel_rfl) ⟨[], [], [6, 8, 9]⟩ (Z85_F) N (fun _ => LStep.none) fun t u K => Z85_body N _ t u K
theorem Z83_ok (N : Nat) : VarOK Tryz.prog (E_Y29_T N) Tryz.f71 (codeOf Tryz.f71) (Z83_W (Z83 N)) :=
  VarOK.of (E_Y29_Tok N) (by kernel_rfl) ⟨[], [], [1, 6, 8, 9]⟩ (Z83_F) N (fun _ => LStep.none) fun t u K => Z83_body N _ t u K
theorem E_Y29_ok (N : Nat) : EntOK Tryz.prog 71 (E_Y29 N) := EntOK.vars (E_Y29_Tok N) Tryz.func71 (by kernel_rfl) (by kernel_rfl) (all_cons (Z84_ok N) (all_cons (Z82_ok N) (all_cons (Z85_ok N) (all_cons (Z83_ok N) (all_nil)))))
theorem E_Y20_Tok (N : Nat) : TabOK Tryz.prog (E_Y20_T N) := TabOK.cons (E_Y29_ok N) (TabOK.nil)
theorem Z64_ok (N : Nat) : VarOK Tryz.prog (E_Y20_T N) Tryz.f39 (codeOf Tryz.f39) (Z64_W (Z64 N)) :=
  VarOK.of (E_Y20_Tok N) (by kernel_rfl) ⟨[], [], [1, 2, 8, 10, 11, 12]⟩ (Z64_F) N (fun _ => LStep.none) fun t u K => Z64_body N _ _ _ _ _ t u K
theorem Z62_ok (N : Nat) : VarOK Tryz.prog (E_Y20_T N) Tryz.f39 (codeOf Tryz.f39) (Z62_W (Z62 N)) :=
  VarOK.of (E_Y20_Tok N) (by kernel_rfl) ⟨[], [], [1, 2, 3, 8, 10, 11, 12]⟩ (Z62_F) N (fun _ => LStep.none) fun t u K => Z62_body N _ _ _ _ _ t u K
theorem Z65_ok (N : Nat) : VarOK Tryz.prog (E_Y20_T N) Tryz.f39 (codeOf Tryz.f39) (Z65_W (Z65 N)) :=
  VarOK.of (E_Y20_Tok N) (by kernel_rfl) ⟨[], [], [6, 8, 9]⟩ (Z65_F) N (fun _ => LStep.none) fun t u K => Z65_body N _ _ _ _ _ t u K
theorem Z63_ok (N : Nat) : VarOK Tryz.prog (E_Y20_T N) Tryz.f39 (codeOf Tryz.f39) (Z63_W (Z63 N)) :=
  VarOK.of (E_Y20_Tok N) (by kernel_rfl) ⟨[], [], [1, 6, 8, 9]⟩ (Z63_F) N (fun _ => LStep.none) fun t u K => Z63_body N _ _ _ _ _ t u K
theorem E_Y20_ok (N : Nat) : EntOK Tryz.prog 39 (E_Y20 N) := EntOK.vars (E_Y20_Tok N) Tryz.func39 (by kernel_rfl) (by kernel_rfl) (all_cons (Z64_ok N) (all_cons (Z62_ok N) (all_cons (Z65_ok N) (all_cons (Z63_ok N) (all_nil)))))
theorem E_Y28_Tok (N : Nat) : TabOK Tryz.prog (E_Y28_T N) := TabOK.nil
theorem Z80_ok (N : Nat) : VarOK Tryz.prog (E_Y28_T N) Tryz.f72 (codeOf Tryz.f72) (Z80_W (Z80 N)) :=
  VarOK.of (E_Y28_Tok N) (by kernel_rfl) ⟨[], [], [1, 2, 3, 8, 10, 11, 12]⟩ (Z80_F) N (fun _ => LStep.none) fun t u K => Z80_body N _ t u K
theorem Z81_ok (N : Nat) : VarOK Tryz.prog (E_Y28_T N) Tryz.f72 (codeOf Tryz.f72) (Z81_W (Z81 N)) :=
  VarOK.of (E_Y28_Tok N) (by kernel_rfl) ⟨[], [], [1, 6, 8, 9]⟩ (Z81_F) N (fun _ => LStep.none) fun t u K => Z81_body N _ t u K
theorem E_Y28_ok (N : Nat) : EntOK Tryz.prog 72 (E_Y28 N) := EntOK.vars (E_Y28_Tok N) Tryz.func72 (by kernel_rfl) (by kernel_rfl) (all_cons (Z80_ok N) (all_cons (Z81_ok N) (all_nil)))
theorem E_Z97_Tok (N : Nat) : TabOK Tryz.prog (E_Z97_T N) := TabOK.nil
theorem Z97_ok (N : Nat) : VarOK Tryz.prog (E_Z97_T N) Tryz.f113 (codeOf Tryz.f113) (Z97_W (Z97 N)) :=
  VarOK.of (E_Z97_Tok N) (by kernel_rfl) pn (Z97_F) N (fun _ => LStep.none) fun t u K => Z97_body N _ t u K
theorem E_Z97_ok (N : Nat) : EntOK Tryz.prog 113 (E_Z97 N) := EntOK.vars (E_Z97_Tok N) Tryz.func113 (by kernel_rfl) (by kernel_rfl) (all_cons (Z97_ok N) (all_nil))
theorem E_Z61_Tok (N : Nat) : TabOK Tryz.prog (E_Z61_T N) := TabOK.cons (E_Z97_ok N) (TabOK.nil)
theorem Z61_ok (N : Nat) : VarOK Tryz.prog (E_Z61_T N) Tryz.f74 (codeOf Tryz.f74) (Z61_W (Z61 N)) :=
  VarOK.of (E_Z61_Tok N) (by kernel_rfl) pn (Z61_F) N (fun _ => LStep.none) fun t u K => Z61_body N _ _ t u K
theorem E_Z61_ok (N : Nat) : EntOK Tryz.prog 74 (E_Z61 N) := EntOK.vars (E_Z61_Tok N) Tryz.func74 (by kernel_rfl) (by kernel_rfl) (all_cons (Z61_ok N) (all_nil))
theorem E_Z120_Tok (N : Nat) : TabOK Tryz.prog (E_Z120_T N) := TabOK.nil
theorem Z120_ok (N : Nat) : VarOK Tryz.prog (E_Z120_T N) Tryz.f111 (codeOf Tryz.f111) (Z120_W (Z120 N)) :=
  VarOK.of (E_Z120_Tok N) (by kernel_rfl) pn (Z120_F) N (fun _ => LStep.none) fun t u K => Z120_body N _ t u K
theorem E_Z120_ok (N : Nat) : EntOK Tryz.prog 111 (E_Z120 N) := EntOK.vars (E_Z120_Tok N) Tryz.func111 (by kernel_rfl) (by kernel_rfl) (all_cons (Z120_ok N) (all_nil))
theorem E_Z119_Tok (N : Nat) : TabOK Tryz.prog (E_Z119_T N) := TabOK.cons (E_Z120_ok N) (TabOK.nil)
theorem Z119_ok (N : Nat) : VarOK Tryz.prog (E_Z119_T N) Tryz.f77 (codeOf Tryz.f77) (Z119_W (Z119 N)) :=
  VarOK.of (E_Z119_Tok N) (by kernel_rfl) pn (Z119_F) N (fun _ => LStep.none) fun t u K => Z119_body N _ _ t u K
theorem E_Z119_ok (N : Nat) : EntOK Tryz.prog 77 (E_Z119 N) := EntOK.vars (E_Z119_Tok N) Tryz.func77 (by kernel_rfl) (by kernel_rfl) (all_cons (Z119_ok N) (all_nil))
theorem E_Z121_Tok (N : Nat) : TabOK Tryz.prog (E_Z121_T N) := TabOK.cons (E_Z119_ok N) (TabOK.nil)
theorem Z121_ok (N : Nat) : VarOK Tryz.prog (E_Z121_T N) Tryz.f131 (codeOf Tryz.f131) (Z121_W (Z121 N)) :=
  VarOK.of (E_Z121_Tok N) (by kernel_rfl) pn (Z121_F) N (fun _ => LStep.none) fun t u K => Z121_body N _ _ t u K
theorem E_Z121_ok (N : Nat) : EntOK Tryz.prog 131 (E_Z121 N) := EntOK.vars (E_Z121_Tok N) Tryz.func131 (by kernel_rfl) (by kernel_rfl) (all_cons (Z121_ok N) (all_nil))
theorem E_Z123_Tok (N : Nat) : TabOK Tryz.prog (E_Z123_T N) := TabOK.nil
theorem Z123_ok (N : Nat) : VarOK Tryz.prog (E_Z123_T N) Tryz.f132 (codeOf Tryz.f132) (Z123_W (Z123 N)) :=
  VarOK.of (E_Z123_Tok N) (by kernel_rfl) pn (Z123_F) N (fun _ => LStep.none) fun t u K => Z123_body N _ t u K
theorem E_Z123_ok (N : Nat) : EntOK Tryz.prog 132 (E_Z123 N) := EntOK.vars (E_Z123_Tok N) Tryz.func132 (by kernel_rfl) (by kernel_rfl) (all_cons (Z123_ok N) (all_nil))
theorem E_Z124_Tok (N : Nat) : TabOK Tryz.prog (E_Z124_T N) := TabOK.nil
theorem Z124_ok (N : Nat) : VarOK Tryz.prog (E_Z124_T N) Tryz.f133 (codeOf Tryz.f133) (Z124_W (Z124 N)) :=
  VarOK.of (E_Z124_Tok N) (by kernel_rfl) pn (Z124_F) N (fun _ => LStep.none) fun t u K => Z124_body N _ t u K
theorem E_Z124_ok (N : Nat) : EntOK Tryz.prog 133 (E_Z124 N) := EntOK.vars (E_Z124_Tok N) Tryz.func133 (by kernel_rfl) (by kernel_rfl) (all_cons (Z124_ok N) (all_nil))
theorem E_Z122_Tok (N : Nat) : TabOK Tryz.prog (E_Z122_T N) := TabOK.cons (E_Z124_ok N) (TabOK.cons (E_Z123_ok N) (TabOK.cons (E_Z121_ok N) (TabOK.nil)))
theorem Z122_ok (N : Nat) : VarOK Tryz.prog (E_Z122_T N) Tryz.f112 (codeOf Tryz.f112) (Z122_W (Z122 N)) :=
  VarOK.of (E_Z122_Tok N) (by kernel_rfl) pn (Z122_F) N (fun _ => LStep.none) fun t u K => Z122_body N _ _ _ _ t u K
theorem E_Z122_ok (N : Nat) : EntOK Tryz.prog 112 (E_Z122 N) := EntOK.vars (E_Z122_Tok N) Tryz.func112 (by kernel_rfl) (by kernel_rfl) (all_cons (Z122_ok N) (all_nil))
theorem E_Z118_Tok (N : Nat) : TabOK Tryz.prog (E_Z118_T N) := TabOK.cons (E_Z122_ok N) (TabOK.cons (E_Z119_ok N) (TabOK.cons (E_Z120_ok N) (TabOK.nil)))
theorem Z118_ok (N : Nat) : VarOK Tryz.prog (E_Z118_T N) Tryz.f73 (codeOf Tryz.f73) (Z118_W (Z118 N)) :=
  VarOK.of (E_Z118_Tok N) (by kernel_rfl) pn (Z118_F) N (fun _ => LStep.none) fun t u K => Z118_body N _ _ _ _ t u K
theorem E_Z118_ok (N : Nat) : EntOK Tryz.prog 73 (E_Z118 N) := EntOK.vars (E_Z118_Tok N) Tryz.func73 (by kernel_rfl) (by kernel_rfl) (all_cons (Z118_ok N) (all_nil))
theorem E_Y31_Tok (N : Nat) : TabOK Tryz.prog (E_Y31_T N) := TabOK.cons (E_Y29_ok N) (TabOK.cons (E_Z118_ok N) (TabOK.cons (E_Z61_ok N) (TabOK.cons (E_Y23_ok N) (TabOK.cons (E_Y28_ok N) (TabOK.nil)))))
theorem Z88_ok (N : Nat) : VarOK Tryz.prog (E_Y31_T N) Tryz.f40 (codeOf Tryz.f40) (Z88_W (Z88 N)) :=
  VarOK.of (E_Y31_Tok N) (by kernel_rfl) ⟨[], [], [1, 2, 3, 8, 10, 11, 12]⟩ (Z88_F) N (fun _ => LStep.none) fun t u K => Z88_body N _ _ _ _ _ _ _ _ _ _ _ t u K
theorem Z89_ok (N : Nat) : VarOK Tryz.prog (E_Y31_T N) Tryz.f40 (codeOf Tryz.f40) (Z89_W (Z89 N)) :=
  VarOK.of (E_Y31_Tok N) (by kernel_rfl) ⟨[], [], [1, 6, 8, 9]⟩ (Z89_F) N (fun _ => LStep.none) fun t u K => Z89_body N _ _ _ _ _ _ _ _ _ _ _ t u K
theorem E_Y31_ok (N : Nat) : EntOK Tryz.prog 40 (E_Y31 N) := EntOK.vars (E_Y31_Tok N) Tryz.func40 (by kernel_rfl) (by kernel_rfl) (all_cons (Z88_ok N) (all_cons (Z89_ok N) (all_nil)))
theorem E_Z98_Tok (N : Nat) : TabOK Tryz.prog (E_Z98_T N) := TabOK.nil
theorem Z98_ok (N : Nat) : VarOK Tryz.prog (E_Z98_T N) Tryz.f75 (codeOf Tryz.f75) (Z98_W (Z98 N)) :=
  VarOK.of (E_Z98_Tok N) (by kernel_rfl) pn (Z98_F) N (fun _ => LStep.none) fun t u K => Z98_body N _ t u K
theorem E_Z98_ok (N : Nat) : EntOK Tryz.prog 75 (E_Z98 N) := EntOK.vars (E_Z98_Tok N) Tryz.func75 (by kernel_rfl) (by kernel_rfl) (all_cons (Z98_ok N) (all_nil))
theorem E_Y24_Tok (N : Nat) : TabOK Tryz.prog (E_Y24_T N) := TabOK.cons (E_Y29_ok N) (TabOK.cons (E_Y23_ok N) (TabOK.cons (E_Y28_ok N) (TabOK.nil)))
theorem Z72_ok (N : Nat) : VarOK Tryz.prog (E_Y24_T N) Tryz.f76 (codeOf Tryz.f76) (Z72_W (Z72 N)) :=
  VarOK.of (E_Y24_Tok N) (by kernel_rfl) ⟨[], [], [1, 2, 3, 8, 10, 11, 12]⟩ (Z72_F) N (fun _ => LStep.none) fun t u K => Z72_body N _ _ _ _ _ _ _ _ _ t u K
theorem Z73_ok (N : Nat) : VarOK Tryz.prog (E_Y24_T N) Tryz.f76 (codeOf Tryz.f76) (Z73_W (Z73 N)) :=
  VarOK.of (E_Y24_Tok N) (by kernel_rfl) ⟨[], [], [1, 6, 8, 9]⟩ (Z73_F) N (fun _ => LStep.none) fun t u K => Z73_body N _ _ _ _ _ _ _ _ _ t u K
theorem E_Y24_ok (N : Nat) : EntOK Tryz.prog 76 (E_Y24 N) := EntOK.vars (E_Y24_Tok N) Tryz.func76 (by kernel_rfl) (by kernel_rfl) (all_cons (Z72_ok N) (all_cons (Z73_ok N) (all_nil)))
theorem E_Y27_Tok (N : Nat) : TabOK Tryz.prog (E_Y27_T N) := TabOK.cons (E_Y23_ok N) (TabOK.cons (E_Z119_ok N) (TabOK.cons (E_Y24_ok N) (TabOK.cons (E_Z98_ok N) (TabOK.cons (E_Y28_ok N) (TabOK.cons (E_Y29_ok N) (TabOK.nil))))))
theorem Z79_ok (N : Nat) : VarOK Tryz.prog (E_Y27_T N) Tryz.f41 (codeOf Tryz.f41) (Z79_W (Z79 N)) :=
  VarOK.of (E_Y27_Tok N) (by kernel_rfl) ⟨[3, 12], [], [1, 2, 3, 8, 10, 11, 12]⟩ (Z79_F) N (fun _ => LStep.none) fun t u K => Z79_body N _ _ _ _ _ _ _ _ _ _ _ _ _ t u K
theorem Z78_ok (N : Nat) : VarOK Tryz.prog (E_Y27_T N) Tryz.f41 (codeOf Tryz.f41) (Z78_W (Z78 N)) :=
  VarOK.of (E_Y27_Tok N) (by kernel_rfl) ⟨[1, 9], [], [1, 6, 8, 9]⟩ (Z78_F) N (fun _ => LStep.none) fun t u K => Z78_body N _ _ _ _ _ _ _ _ _ _ _ _ _ t u K
theorem E_Y27_ok (N : Nat) : EntOK Tryz.prog 41 (E_Y27 N) := EntOK.vars (E_Y27_Tok N) Tryz.func41 (by kernel_rfl) (by kernel_rfl) (all_cons (Z79_ok N) (all_cons (Z78_ok N) (all_nil)))
theorem E_Y25_Tok (N : Nat) : TabOK Tryz.prog (E_Y25_T N) := TabOK.nil
theorem Z74_ok (N : Nat) : VarOK Tryz.prog (E_Y25_T N) Tryz.f79 (codeOf Tryz.f79) (Z74_W (Z74 N)) :=
  VarOK.of (E_Y25_Tok N) (by kernel_rfl) ⟨[], [], [1, 2, 3, 8, 10, 11, 12]⟩ (Z74_F) N (fun _ => LStep.none) fun t u K => Z74_body N _ t u K
theorem Z75_ok (N : Nat) : VarOK Tryz.prog (E_Y25_T N) Tryz.f79 (codeOf Tryz.f79) (Z75_W (Z75 N)) :=
  VarOK.of (E_Y25_Tok N) (by kernel_rfl) ⟨[], [], [1, 6, 8, 9]⟩ (Z75_F) N (fun _ => LStep.none) fun t u K => Z75_body N _ t u K
theorem E_Y25_ok (N : Nat) : EntOK Tryz.prog 79 (E_Y25 N) := EntOK.vars (E_Y25_Tok N) Tryz.func79 (by kernel_rfl) (by kernel_rfl) (all_cons (Z74_ok N) (all_cons (Z75_ok N) (all_nil)))
theorem E_Z52_Tok (N : Nat) : TabOK Tryz.prog (E_Z52_T N) := TabOK.cons (E_Z0_ok N) (TabOK.nil)
theorem Z52_ok (N : Nat) : VarOK Tryz.prog (E_Z52_T N) Tryz.f109 (codeOf Tryz.f109) (Z52_W (Z52 N)) :=
  VarOK.of (E_Z52_Tok N) (by kernel_rfl) pn (Z52_F) N (fun _ => LStep.none) fun t u K => Z52_body N _ _ t u K
theorem E_Z52_ok (N : Nat) : EntOK Tryz.prog 109 (E_Z52 N) := EntOK.vars (E_Z52_Tok N) Tryz.func109 (by kernel_rfl) (by kernel_rfl) (all_cons (Z52_ok N) (all_nil))
theorem E_Z53_Tok (N : Nat) : TabOK Tryz.prog (E_Z53_T N) := TabOK.cons (E_Z104_ok N) (TabOK.cons (E_Z52_ok N) (TabOK.nil))
theorem Z53_ok (N : Nat) : VarOK Tryz.prog (E_Z53_T N) Tryz.f139 (codeOf Tryz.f139) (Z53_W (Z53 N)) :=
  VarOK.of (E_Z53_Tok N) (by kernel_rfl) pn (Z53_F) N (fun _ => LStep.none) fun t u K => Z53_body N _ _ _ t u K
theorem E_Z53_ok (N : Nat) : EntOK Tryz.prog 139 (E_Z53 N) := EntOK.vars (E_Z53_Tok N) Tryz.func139 (by kernel_rfl) (by kernel_rfl) (all_cons (Z53_ok N) (all_nil))
theorem E_Z117_Tok (N : Nat) : TabOK Tryz.prog (E_Z117_T N) := TabOK.cons (E_Z53_ok N) (TabOK.nil)
theorem Z117_ok (N : Nat) : VarOK Tryz.prog (E_Z117_T N) Tryz.f129 (codeOf Tryz.f129) (Z117_W (Z117 N)) :=
  VarOK.of (E_Z117_Tok N) (by kernel_rfl) pn (Z117_F) N (fun _ => LStep.none) fun t u K => Z117_body N _ _ t u K
theorem E_Z117_ok (N : Nat) : EntOK Tryz.prog 129 (E_Z117 N) := EntOK.vars (E_Z117_Tok N) Tryz.func129 (by kernel_rfl) (by kernel_rfl) (all_cons (Z117_ok N) (all_nil))
theorem E_Y41_Tok (N : Nat) : TabOK Tryz.prog (E_Y41_T N) := TabOK.nil
theorem Z115_ok (N : Nat) : VarOK Tryz.prog (E_Y41_T N) Tryz.f130 (codeOf Tryz.f130) (Z115_W (Z115 N)) :=
  VarOK.of (E_Y41_Tok N) (by kernel_rfl) pn (Z115_F) N (fun _ => LStep.none) fun t u K => Z115_body N _ t u K
theorem E_Y41_ok (N : Nat) : EntOK Tryz.prog 130 (E_Y41 N) := EntOK.vars (E_Y41_Tok N) Tryz.func130 (by kernel_rfl) (by kernel_rfl) (all_cons (Z115_ok N) (all_nil))
theorem E_Y42_Tok (N : Nat) : TabOK Tryz.prog (E_Y42_T N) := TabOK.cons (E_Y41_ok N) (TabOK.cons (E_Z117_ok N) (TabOK.nil))
theorem Z116_ok (N : Nat) : VarOK Tryz.prog (E_Y42_T N) Tryz.f134 (codeOf Tryz.f134) (Z116_W (Z116 N)) :=
  VarOK.of (E_Y42_Tok N) (by kernel_rfl) pn (Z116_F) N (fun _ => LStep.none) fun t u K => Z116_body N _ _ _ t u K
theorem E_Y42_ok (N : Nat) : EntOK Tryz.prog 134 (E_Y42 N) := EntOK.vars (E_Y42_Tok N) Tryz.func134 (by kernel_rfl) (by kernel_rfl) (all_cons (Z116_ok N) (all_nil))
theorem E_Y37_Tok (N : Nat) : TabOK Tryz.prog (E_Y37_T N) := TabOK.cons (E_Y42_ok N) (TabOK.nil)
theorem Z111_ok (N : Nat) : VarOK Tryz.prog (E_Y37_T N) Tryz.f114 (codeOf Tryz.f114) (Z111_W (Z111 N)) :=
  VarOK.of (E_Y37_Tok N) (by kernel_rfl) pn (Z111_F) N (fun _ => LStep.none) fun t u K => Z111_body N _ _ t u K
theorem E_Y37_ok (N : Nat) : EntOK Tryz.prog 114 (E_Y37 N) := EntOK.vars (E_Y37_Tok N) Tryz.func114 (by kernel_rfl) (by kernel_rfl) (all_cons (Z111_ok N) (all_nil))
theorem E_Y34_Tok (N : Nat) : TabOK Tryz.prog (E_Y34_T N) := TabOK.nil
theorem Z103_ok (N : Nat) : VarOK Tryz.prog (E_Y34_T N) Tryz.f135 (codeOf Tryz.f135) (Z103_W (Z103 N)) :=
  VarOK.of (E_Y34_Tok N) (by kernel_rfl) ⟨[], [], [4]⟩ (Z103_F (@Z103_l0 N)) N (fun _ => LStep.pick (all_cons ⟨.inl fun _ _ _ => rfl, fun n t u K => Z103_v0_0_round N _ _ n t u K⟩ (all_nil)) (LStep.none)) fun t u K => Z103_body N _ _ t u K
theorem E_Y34_ok (N : Nat) : EntOK Tryz.prog 135 (E_Y34 N) := EntOK.vars (E_Y34_Tok N) Tryz.func135 (by kernel_rfl) (by kernel_rfl) (all_cons (Z103_ok N) (all_nil))
theorem E_Y16_Tok (N : Nat) : TabOK Tryz.prog (E_Y16_T N) := TabOK.cons (E_Y34_ok N) (TabOK.nil)
theorem Z34_ok (N : Nat) : VarOK Tryz.prog (E_Y16_T N) Tryz.f115 (codeOf Tryz.f115) (Z34_W (Z34 N)) :=
  VarOK.of (E_Y16_Tok N) (by kernel_rfl) ⟨[], [], [4]⟩ (Z34_F) N (fun _ => LStep.none) fun t u K => Z34_body N _ _ t u K
theorem E_Y16_ok (N : Nat) : EntOK Tryz.prog 115 (E_Y16 N) := EntOK.vars (E_Y16_Tok N) Tryz.func115 (by kernel_rfl) (by kernel_rfl) (all_cons (Z34_ok N) (all_nil))
theorem E_Y35_Tok (N : Nat) : TabOK Tryz.prog (E_Y35_T N) := TabOK.cons E_maps_Clone_map_tree_keytree_entry_tree_key_tree_entry_ok (TabOK.nil)
theorem Z109_ok (N : Nat) : VarOK Tryz.prog (E_Y35_T N) Tryz.f136 (codeOf Tryz.f136) (Z109_W (Z109 N)) :=
  VarOK.of (E_Y35_Tok N) (by kernel_rfl) pn (Z109_F) N (fun _ => LStep.none) fun t u K => Z109_body N _ _ t u K
theorem E_Y35_ok (N : Nat) : EntOK Tryz.prog 136 (E_Y35 N) := EntOK.vars (E_Y35_Tok N) Tryz.func136 (by kernel_rfl) (by kernel_rfl) (all_cons (Z109_ok N) (all_nil))
theorem E_Y38_Tok (N : Nat) : TabOK Tryz.prog (E_Y38_T N) := TabOK.cons (E_Y41_ok N) (TabOK.cons (E_Z117_ok N) (TabOK.nil))
theorem Z112_ok (N : Nat) : VarOK Tryz.prog (E_Y38_T N) Tryz.f110 (codeOf Tryz.f110) (Z112_W (Z112 N)) :=
  VarOK.of (E_Y38_Tok N) (by kernel_rfl) pn (Z112_F) N (fun _ => LStep.none) fun t u K => Z112_body N _ _ _ t u K
theorem E_Y38_ok (N : Nat) : EntOK Tryz.prog 110 (E_Y38 N) := EntOK.vars (E_Y38_Tok N) Tryz.func110 (by kernel_rfl) (by kernel_rfl) (all_cons (Z112_ok N) (all_nil))
theorem E_Z107_Tok (N : Nat) : TabOK Tryz.prog (E_Z107_T N) := TabOK.cons (E_Y38_ok N) (TabOK.cons (E_Z52_ok N) (TabOK.nil))
theorem Z108_ok (N : Nat) : VarOK Tryz.prog (E_Z107_T N) Tryz.f66 (codeOf Tryz.f66) (Z108_W (Z108 N)) :=
  VarOK.of (E_Z107_Tok N) (by kernel_rfl) pn (Z108_F (@Z108_l0 N)) N (fun _ => LStep.pick (all_cons ⟨.inl fun _ _ _ => rfl, fun n t u K => Z108_v0_0_round N _ _ _ _ n t u K⟩ (all_nil)) (LStep.none)) fun t u K => Z108_body N _ _ _ _ t u K
theorem Z107_ok (N : Nat) : VarOK Tryz.prog (E_Z107_T N) Tryz.f66 (codeOf Tryz.f66) (Z107_W (Z107 N)) :=
  VarOK.of (E_Z107_Tok N) (by kernel_rfl) pn (Z107_F (@Z107_l0 N)) N (fun _ => LStep.pick (all_cons ⟨.inl fun _ _ _ => rfl, fun n t u K => Z107_v0_0_round N _ _ _ _ n t u K⟩ (all_nil)) (LStep.none)) fun t u K => Z107_body N _ _ _ _ t u K
theorem E_Z107_ok (N : Nat) : EntOK Tryz.prog 66 (E_Z107 N) := EntOK.vars (E_Z107_Tok N) Tryz.func66 (by kernel_rfl) (by kernel_rfl) (all_cons (Z108_ok N) (all_cons (Z107_ok N) (all_nil)))
theorem E_Y17_Tok (N : Nat) : TabOK Tryz.prog (E_Y17_T N) := TabOK.cons (E_Y38_ok N) (TabOK.cons (E_Y35_ok N) (TabOK.nil))
theorem Z35_ok (N : Nat) : VarOK Tryz.prog (E_Y17_T N) Tryz.f116 (codeOf Tryz.f116) (Z35_W (Z35 N)) :=
  VarOK.of (E_Y17_Tok N) (by kernel_rfl) ⟨[], [], [4]⟩ (Z35_F) N (fun _ => LStep.none) fun t u K => Z35_body N _ _ _ t u K
theorem E_Y17_ok (N : Nat) : EntOK Tryz.prog 116 (E_Y17 N) := EntOK.vars (E_Y17_Tok N) Tryz.func116 (by kernel_rfl) (by kernel_rfl) (all_cons (Z35_ok N) (all_nil))
theorem E_Y5_Tok (N : Nat) : TabOK Tryz.prog (E_Y5_T N) := TabOK.cons (E_Y38_ok N) (TabOK.cons (E_Y17_ok N) (TabOK.cons (E_Y16_ok N) (TabOK.cons (E_Y37_ok N) (TabOK.nil))))
theorem Z21_ok (N : Nat) : VarOK Tryz.prog (E_Y5_T N) Tryz.f78 (codeOf Tryz.f78) (Z21_W (Z21 N)) :=
  VarOK.of (E_Y5_Tok N) (by kernel_rfl) ⟨[4], [], [4]⟩ (Z21_F) N (fun _ => LStep.none) fun t u K => Z21_body N _ _ _ _ _ t u K
theorem E_Y5_ok (N : Nat) : EntOK Tryz.prog 78 (E_Y5 N) := EntOK.vars (E_Y5_Tok N) Tryz.func78 (by kernel_rfl) (by kernel_rfl) (all_cons (Z21_ok N) (all_nil))
theorem E_Y36_Tok (N : Nat) : TabOK Tryz.prog (E_Y36_T N) := TabOK.cons (E_Z117_ok N) (TabOK.cons E_tree_Tree_many_ok (TabOK.cons (E_Y42_ok N) (TabOK.nil)))
theorem Z110_ok (N : Nat) : VarOK Tryz.prog (E_Y36_T N) Tryz.f117 (codeOf Tryz.f117) (Z110_W (Z110 N)) :=
  VarOK.of (E_Y36_Tok N) (by kernel_rfl) pn (Z110_F) N (fun _ => LStep.none) fun t u K => Z110_body N _ _ _ _ t u K
theorem E_Y36_ok (N : Nat) : EntOK Tryz.prog 117 (E_Y36 N) := EntOK.vars (E_Y36_Tok N) Tryz.func117 (by kernel_rfl) (by kernel_rfl) (all_cons (Z110_ok N) (all_nil))
theorem E_Y13_Tok (N : Nat) : TabOK Tryz.prog (E_Y13_T N) := TabOK.cons (E_Y36_ok N) (TabOK.nil)
theorem Z29_ok (N : Nat) : VarOK Tryz.prog (E_Y13_T N) Tryz.f80 (codeOf Tryz.f80) (Z29_W (Z29 N)) :=
  VarOK.of (E_Y13_Tok N) (by kernel_rfl) ⟨[], [], [4]⟩ (Z29_F) N (fun _ => LStep.none) fun t u K => Z29_body N _ _ t u K
theorem E_Y13_ok (N : Nat) : EntOK Tryz.prog 80 (E_Y13 N) := EntOK.vars (E_Y13_Tok N) Tryz.func80 (by kernel_rfl) (by kernel_rfl) (all_cons (Z29_ok N) (all_nil))
theorem E_Y40_Tok (N : Nat) : TabOK Tryz.prog (E_Y40_T N) := TabOK.cons (E_Y41_ok N) (TabOK.cons (E_Z117_ok N) (TabOK.cons (E_Y42_ok N) (TabOK.nil)))
theorem Z114_ok (N : Nat) : VarOK Tryz.prog (E_Y40_T N) Tryz.f118 (codeOf Tryz.f118) (Z114_W (Z114 N)) :=
  VarOK.of (E_Y40_Tok N) (by kernel_rfl) pn (Z114_F) N (fun _ => LStep.none) fun t u K => Z114_body N _ _ _ _ t u K
theorem E_Y40_ok (N : Nat) : EntOK Tryz.prog 118 (E_Y40 N) := EntOK.vars (E_Y40_Tok N) Tryz.func118 (by kernel_rfl) (by kernel_rfl) (all_cons (Z114_ok N) (all_nil))
theorem E_Y7_Tok (N : Nat) : TabOK Tryz.prog (E_Y7_T N) := TabOK.cons (E_Y40_ok N) (TabOK.nil)
theorem Z23_ok (N : Nat) : VarOK Tryz.prog (E_Y7_T N) Tryz.f81 (codeOf Tryz.f81) (Z23_W (Z23 N)) :=
  VarOK.of (E_Y7_Tok N) (by kernel_rfl) ⟨[], [], [4]⟩ (Z23_F) N (fun _ => LStep.none) fun t u K => Z23_body N _ _ t u K
theorem E_Y7_ok (N : Nat) : EntOK Tryz.prog 81 (E_Y7 N) := EntOK.vars (E_Y7_Tok N) Tryz.func81 (by kernel_rfl) (by kernel_rfl) (all_cons (Z23_ok N) (all_nil))
theorem E_Y4_Tok (N : Nat) : TabOK Tryz.prog (E_Y4_T N) := TabOK.cons (E_Y38_ok N) (TabOK.nil)
theorem Z20_ok (N : Nat) : VarOK Tryz.prog (E_Y4_T N) Tryz.f82 (codeOf Tryz.f82) (Z20_W (Z20 N)) :=
  VarOK.of (E_Y4_Tok N) (by kernel_rfl) ⟨[], [], [4]⟩ (Z20_F) N (fun _ => LStep.none) fun t u K => Z20_body N _ _ t u K
theorem E_Y4_ok (N : Nat) : EntOK Tryz.prog 82 (E_Y4 N) := EntOK.vars (E_Y4_Tok N) Tryz.func82 (by kernel_rfl) (by kernel_rfl) (all_cons (Z20_ok N) (all_nil))
theorem E_Y8_Tok (N : Nat) : TabOK Tryz.prog (E_Y8_T N) := TabOK.cons (E_Y36_ok N) (TabOK.nil)
theorem Z24_ok (N : Nat) : VarOK Tryz.prog (E_Y8_T N) Tryz.f83 (codeOf Tryz.f83) (Z24_W (Z24 N)) :=
  VarOK.of (E_Y8_Tok N) (by kernel_rfl) ⟨[], [], [4]⟩ (Z24_F) N (fun _ => LStep.none) fun t u K => Z24_body N _ _ t u K
theorem E_Y8_ok (N : Nat) : EntOK Tryz.prog 83 (E_Y8 N) := EntOK.vars (E_Y8_Tok N) Tryz.func83 (by kernel_rfl) (by kernel_rfl) (all_cons (Z24_ok N) (all_nil))
theorem E_Y39_Tok (N : Nat) : TabOK Tryz.prog (E_Y39_T N) := TabOK.cons E_tree_Tree_many_ok (TabOK.cons (E_Y42_ok N) (TabOK.nil))
theorem Z113_ok (N : Nat) : VarOK Tryz.prog (E_Y39_T N) Tryz.f119 (codeOf Tryz.f119) (Z113_W (Z113 N)) :=
  VarOK.of (E_Y39_Tok N) (by kernel_rfl) pn (Z113_F) N (fun _ => LStep.none) fun t u K => Z113_body N _ _ _ t u K
theorem E_Y39_ok (N : Nat) : EntOK Tryz.prog 119 (E_Y39 N) := EntOK.vars (E_Y39_Tok N) Tryz.func119 (by kernel_rfl) (by kernel_rfl) (all_cons (Z113_ok N) (all_nil))
theorem E_Y3_Tok (N : Nat) : TabOK Tryz.prog (E_Y3_T N) := TabOK.cons (E_Y39_ok N) (TabOK.nil)
theorem Z19_ok (N : Nat) : VarOK Tryz.prog (E_Y3_T N) Tryz.f84 (codeOf Tryz.f84) (Z19_W (Z19 N)) :=
  VarOK.of (E_Y3_Tok N) (by kernel_rfl) ⟨[], [], [4]⟩ (Z19_F) N (fun _ => LStep.none) fun t u K => Z19_body N _ _ t u K
theorem E_Y3_ok (N : Nat) : EntOK Tryz.prog 84 (E_Y3 N) := EntOK.vars (E_Y3_Tok N) Tryz.func84 (by kernel_rfl) (by kernel_rfl) (all_cons (Z19_ok N) (all_nil))
theorem E_Y26_Tok (N : Nat) : TabOK Tryz.prog (E_Y26_T N) := TabOK.cons (E_Y3_ok N) (TabOK.cons (E_Y8_ok N) (TabOK.cons (E_Y4_ok N) (TabOK.cons (E_Y7_ok N) (TabOK.cons (E_Y13_ok N) (TabOK.cons (E_Y20_ok N) (TabOK.cons (E_Y5_ok N) (TabOK.cons (E_Y25_ok N) (TabOK.nil))))))))
theorem Z77_ok (N : Nat) : VarOK Tryz.prog (E_Y26_T N) Tryz.f42 (codeOf Tryz.f42) (Z77_W (Z77 N)) :=
  VarOK.of (E_Y26_Tok N) (by kernel_rfl) ⟨[8, 3, 12], [], [1, 2, 3, 8, 10, 11, 12]⟩ (Z77_F) N (fun _ => LStep.none) fun t u K => Z77_body N _ _ _ _ _ _ _ _ _ _ _ _ _ t u K
theorem Z76_ok (N : Nat) : VarOK Tryz.prog (E_Y26_T N) Tryz.f42 (codeOf Tryz.f42) (Z76_W (Z76 N)) :=
  VarOK.of (E_Y26_Tok N) (by kernel_rfl) ⟨[6, 1, 9], [], [1, 6, 8, 9]⟩ (Z76_F) N (fun _ => LStep.none) fun t u K => Z76_body N _ _ _ _ _ _ _ _ _ _ _ _ _ t u K
theorem E_Y26_ok (N : Nat) : EntOK Tryz.prog 42 (E_Y26 N) := EntOK.vars (E_Y26_Tok N) Tryz.func42 (by kernel_rfl) (by kernel_rfl) (all_cons (Z77_ok N) (all_cons (Z76_ok N) (all_nil)))
theorem E_Y15_Tok (N : Nat) : TabOK Tryz.prog (E_Y15_T N) := TabOK.nil
theorem Z33_ok (N : Nat) : VarOK Tryz.prog (E_Y15_T N) Tryz.f120 (codeOf Tryz.f120) (Z33_W (Z33 N)) :=
  VarOK.of (E_Y15_Tok N) (by kernel_rfl) ⟨[], [], [4]⟩ (Z33_F) N (fun _ => LStep.none) fun t u K => Z33_body N _ t u K
theorem E_Y15_ok (N : Nat) : EntOK Tryz.prog 120 (E_Y15 N) := EntOK.vars (E_Y15_Tok N) Tryz.func120 (by kernel_rfl) (by kernel_rfl) (all_cons (Z33_ok N) (all_nil))
theorem E_Y2_Tok (N : Nat) : TabOK Tryz.prog (E_Y2_T N) := TabOK.cons (E_Y15_ok N) (TabOK.nil)
theorem Z18_ok (N : Nat) : VarOK Tryz.prog (E_Y2_T N) Tryz.f85 (codeOf Tryz.f85) (Z18_W (Z18 N)) :=
  VarOK.of (E_Y2_Tok N) (by kernel_rfl) ⟨[], [], [4]⟩ (Z18_F) N (fun _ => LStep.none) fun t u K => Z18_body N _ _ t u K
theorem E_Y2_ok (N : Nat) : EntOK Tryz.prog 85 (E_Y2 N) := EntOK.vars (E_Y2_Tok N) Tryz.func85 (by kernel_rfl) (by kernel_rfl) (all_cons (Z18_ok N) (all_nil))
theorem E_Y10_Tok (N : Nat) : TabOK Tryz.prog (E_Y10_T N) := TabOK.cons (E_Y15_ok N) (TabOK.nil)
theorem Z26_ok (N : Nat) : VarOK Tryz.prog (E_Y10_T N) Tryz.f86 (codeOf Tryz.f86) (Z26_W (Z26 N)) :=
  VarOK.of (E_Y10_Tok N) (by kernel_rfl) ⟨[], [], [4]⟩ (Z26_F) N (fun _ => LStep.none) fun t u K => Z26_body N _ _ t u K
theorem E_Y10_ok (N : Nat) : EntOK Tryz.prog 86 (E_Y10 N) := EntOK.vars (E_Y10_Tok N) Tryz.func86 (by kernel_rfl) (by kernel_rfl) (all_cons (Z26_ok N) (all_nil))
theorem E_Y12_Tok (N : Nat) : TabOK Tryz.prog (E_Y12_T N) := TabOK.cons (E_Y16_ok N) (TabOK.cons (E_Y15_ok N) (TabOK.nil))
theorem Z28_ok (N : Nat) : VarOK Tryz.prog (E_Y12_T N) Tryz.f87 (codeOf Tryz.f87) (Z28_W (Z28 N)) :=
  VarOK.of (E_Y12_Tok N) (by kernel_rfl) ⟨[], [], [4]⟩ (Z28_F) N (fun _ => LStep.none) fun t u K => Z28_body N _ _ _ t u K
theorem E_Y12_ok (N : Nat) : EntOK Tryz.prog 87 (E_Y12 N) := EntOK.vars (E_Y12_Tok N) Tryz.func87 (by kernel_rfl) (by kernel_rfl) (all_cons (Z28_ok N) (all_nil))
theorem E_Y9_Tok (N : Nat) : TabOK Tryz.prog (E_Y9_T N) := TabOK.cons (E_Y15_ok N) (TabOK.nil)
theorem Z25_ok (N : Nat) : VarOK Tryz.prog (E_Y9_T N) Tryz.f88 (codeOf Tryz.f88) (Z25_W (Z25 N)) :=
  VarOK.of (E_Y9_Tok N) (by kernel_rfl) ⟨[], [], [4]⟩ (Z25_F) N (fun _ => LStep.none) fun t u K => Z25_body N _ _ t u K
theorem E_Y9_ok (N : Nat) : EntOK Tryz.prog 88 (E_Y9 N) := EntOK.vars (E_Y9_Tok N) Tryz.func88 (by kernel_rfl) (by kernel_rfl) (all_cons (Z25_ok N) (all_nil))
theorem E_Z36_Tok (N : Nat) : TabOK Tryz.prog (E_Z36_T N) := TabOK.cons (E_Z107_ok N) (TabOK.cons E_slices_Clone__byte_byte_ok (TabOK.nil))
theorem Z37_ok (N : Nat) : VarOK Tryz.prog (E_Z36_T N) Tryz.f32 (codeOf Tryz.f32) (Z37_W (Z37 N)) :=
  VarOK.of (E_Z36_Tok N) (by kernel_rfl) ⟨[], [], [0]⟩ (Z37_F (@Z37_l0 N)) N (fun _ => LStep.pick (all_cons ⟨.inl fun _ _ _ => rfl, fun n t u K => Z37_v0_0_round N _ _ _ _ _ n t u K⟩ (all_nil)) (LStep.none)) fun t u K => Z37_body N _ _ _ _ _ t u K
theorem Z36_ok (N : Nat) : VarOK Tryz.prog (E_Z36_T N) Tryz.f32 (codeOf Tryz.f32) (Z36_W (Z36 N)) :=
  VarOK.of (E_Z36_Tok N) (by kernel_rfl) pn (Z36_F (@Z36_l0 N)) N (fun _ => LStep.pick (all_cons ⟨.inl fun _ _ _ => rfl, fun n t u K => Z36_v0_0_round N _ _ _ _ _ n t u K⟩ (all_nil)) (LStep.none)) fun t u K => Z36_body N _ _ _ _ _ t u K
theorem E_Z36_ok (N : Nat) : EntOK Tryz.prog 32 (E_Z36 N) := EntOK.vars (E_Z36_Tok N) Tryz.func32 (by kernel_rfl) (by kernel_rfl) (all_cons (Z37_ok N) (all_cons (Z36_ok N) (all_nil)))
theorem E_Z94_Tok (N : Nat) : TabOK Tryz.prog (E_Z94_T N) := TabOK.cons (E_Z16_ok N) (TabOK.cons (E_Z99_ok N) (TabOK.cons (E_Z36_ok N) (TabOK.cons (E_Z1_ok N) (TabOK.nil))))
theorem Z96_ok (N : Nat) : VarOK Tryz.prog (E_Z94_T N) Tryz.f19 (codeOf Tryz.f19) (Z96_W (Z96 N)) :=
  VarOK.of (E_Z94_Tok N) (by kernel_rfl) ⟨[], [], [0, 1, 2, 3, 4]⟩ (Z96_F) N (fun _ => LStep.none) fun t u K => Z96_body N _ _ _ _ _ _ _ _ _ t u K
theorem Z94_ok (N : Nat) : VarOK Tryz.prog (E_Z94_T N) Tryz.f19 (codeOf Tryz.f19) (Z94_W (Z94 N)) :=
  VarOK.of (E_Z94_Tok N) (by kernel_rfl) pn (Z94_F) N (fun _ => LStep.none) fun t u K => Z94_body N _ _ _ _ _ _ _ _ _ t u K
theorem E_Z94_ok (N : Nat) : EntOK Tryz.prog 19 (E_Z94 N) := EntOK.vars (E_Z94_Tok N) Tryz.func19 (by kernel_rfl) (by kernel_rfl) (all_cons (Z96_ok N) (all_cons (Z94_ok N) (all_nil)))
theorem E_Z38_Tok (N : Nat) : TabOK Tryz.prog (E_Z38_T N) := TabOK.cons E_slices_Clone__byte_byte_ok (TabOK.nil)
theorem Z38_ok (N : Nat) : VarOK Tryz.prog (E_Z38_T N) Tryz.f121 (codeOf Tryz.f121) (Z38_W (Z38 N)) :=
  VarOK.of (E_Z38_Tok N) (by kernel_rfl) pn (Z38_F (@Z38_l0 N)) N (fun _ => LStep.pick (all_cons ⟨.inl fun _ _ _ => rfl, fun n t u K => Z38_v0_0_round N _ _ _ n t u K⟩ (all_nil)) (LStep.none)) fun t u K => Z38_body N _ _ _ t u K
theorem E_Z38_ok (N : Nat) : EntOK Tryz.prog 121 (E_Z38 N) := EntOK.vars (E_Z38_Tok N) Tryz.func121 (by kernel_rfl) (by kernel_rfl) (all_cons (Z38_ok N) (all_nil))
theorem E_Y11_Tok (N : Nat) : TabOK Tryz.prog (E_Y11_T N) := TabOK.cons (E_Z38_ok N) (TabOK.cons (E_Y15_ok N) (TabOK.nil))
theorem Z27_ok (N : Nat) : VarOK Tryz.prog (E_Y11_T N) Tryz.f89 (codeOf Tryz.f89) (Z27_W (Z27 N)) :=
  VarOK.of (E_Y11_Tok N) (by kernel_rfl) ⟨[], [], [4]⟩ (Z27_F) N (fun _ => LStep.none) fun t u K => Z27_body N _ _ _ t u K
theorem E_Y11_ok (N : Nat) : EntOK Tryz.prog 89 (E_Y11 N) := EntOK.vars (E_Y11_Tok N) Tryz.func89 (by kernel_rfl) (by kernel_rfl) (all_cons (Z27_ok N) (all_nil))
theorem E_Y6_Tok (N : Nat) : TabOK Tryz.prog (E_Y6_T N) := TabOK.cons E_slices_Clone__byte_byte_ok (TabOK.cons (E_Y15_ok N) (TabOK.nil))
theorem Z22_ok (N : Nat) : VarOK Tryz.prog (E_Y6_T N) Tryz.f122 (codeOf Tryz.f122) (Z22_W (Z22 N)) :=
  VarOK.of (E_Y6_Tok N) (by kernel_rfl) ⟨[], [(0, false, (.int .u8))], [4]⟩ (Z22_F) N (fun _ => LStep.none) fun t u K => Z22_body N _ _ _ t u K
theorem E_Y6_ok (N : Nat) : EntOK Tryz.prog 122 (E_Y6 N) := EntOK.vars (E_Y6_Tok N) Tryz.func122 (by kernel_rfl) (by kernel_rfl) (all_cons (Z22_ok N) (all_nil))
theorem E_Y30_Tok (N : Nat) : TabOK Tryz.prog (E_Y30_T N) := TabOK.cons (E_Y20_ok N) (TabOK.cons (E_Y23_ok N) (TabOK.cons (E_Y6_ok N) (TabOK.cons (E_Y28_ok N) (TabOK.nil))))
theorem Z86_ok (N : Nat) : VarOK Tryz.prog (E_Y30_T N) Tryz.f90 (codeOf Tryz.f90) (Z86_W (Z86 N)) :=
  VarOK.of (E_Y30_Tok N) (by kernel_rfl) ⟨[12], [], [1, 2, 3, 8, 10, 11, 12]⟩ (Z86_F) N (fun _ => LStep.none) fun t u K => Z86_body N _ _ _ _ _ _ _ _ _ _ t u K
theorem Z87_ok (N : Nat) : VarOK Tryz.prog (E_Y30_T N) Tryz.f90 (codeOf Tryz.f90) (Z87_W (Z87 N)) :=
  VarOK.of (E_Y30_Tok N) (by kernel_rfl) ⟨[9], [], [1, 6, 8, 9]⟩ (Z87_F) N (fun _ => LStep.none) fun t u K => Z87_body N _ _ _ _ _ _ _ _ _ _ t u K
theorem E_Y30_ok (N : Nat) : EntOK Tryz.prog 90 (E_Y30 N) := EntOK.vars (E_Y30_Tok N) Tryz.func90 (by kernel_rfl) (by kernel_rfl) (all_cons (Z86_ok N) (all_cons (Z87_ok N) (all_nil)))
theorem E_Y14_Tok (N : Nat) : TabOK Tryz.prog (E_Y14_T N) := TabOK.cons (E_Z38_ok N) (TabOK.cons (E_Y15_ok N) (TabOK.nil))
theorem Z31_ok (N : Nat) : VarOK Tryz.prog (E_Y14_T N) Tryz.f123 (codeOf Tryz.f123) (Z31_W (Z31 N)) :=
  VarOK.of (E_Y14_Tok N) (by kernel_rfl) ⟨[], [], [4, 6, 7, 8, 10, 11, 12]⟩ (Z31_F) N (fun _ => LStep.none) fun t u K => Z31_body N _ _ _ t u K
theorem Z32_ok (N : Nat) : VarOK Tryz.prog (E_Y14_T N) Tryz.f123 (codeOf Tryz.f123) (Z32_W (Z32 N)) :=
  VarOK.of (E_Y14_Tok N) (by kernel_rfl) ⟨[], [], [4]⟩ (Z32_F) N (fun _ => LStep.none) fun t u K => Z32_body N _ _ _ t u K
theorem Z30_ok (N : Nat) : VarOK Tryz.prog (E_Y14_T N) Tryz.f123 (codeOf Tryz.f123) (Z30_W (Z30 N)) :=
  VarOK.of (E_Y14_Tok N) (by kernel_rfl) ⟨[], [], [4, 6, 8, 9]⟩ (Z30_F) N (fun _ => LStep.none) fun t u K => Z30_body N _ _ _ t u K
theorem E_Y14_ok (N : Nat) : EntOK Tryz.prog 123 (E_Y14 N) := EntOK.vars (E_Y14_Tok N) Tryz.func123 (by kernel_rfl) (by kernel_rfl) (all_cons (Z31_ok N) (all_cons (Z32_ok N) (all_cons (Z30_ok N) (all_nil))))
theorem E_Y33_Tok (N : Nat) : TabOK Tryz.prog (E_Y33_T N) := TabOK.cons (E_Y14_ok N) (TabOK.cons (E_Y20_ok N) (TabOK.cons (E_Y23_ok N) (TabOK.cons (E_Y28_ok N) (TabOK.nil))))
theorem Z92_ok (N : Nat) : VarOK Tryz.prog (E_Y33_T N) Tryz.f91 (codeOf Tryz.f91) (Z92_W (Z92 N)) :=
  VarOK.of (E_Y33_Tok N) (by kernel_rfl) ⟨[12], [], [1, 2, 3, 8, 10, 11, 12]⟩ (Z92_F) N (fun _ => LStep.none) fun t u K => Z92_body N _ _ _ _ _ _ _ _ _ _ _ _ t u K
theorem Z93_ok (N : Nat) : VarOK Tryz.prog (E_Y33_T N) Tryz.f91 (codeOf Tryz.f91) (Z93_W (Z93 N)) :=
  VarOK.of (E_Y33_Tok N) (by kernel_rfl) ⟨[9], [], [1, 6, 8, 9]⟩ (Z93_F) N (fun _ => LStep.none) fun t u K => Z93_body N _ _ _ _ _ _ _ _ _ _ _ _ t u K
theorem E_Y33_ok (N : Nat) : EntOK Tryz.prog 91 (E_Y33 N) := EntOK.vars (E_Y33_Tok N) Tryz.func91 (by kernel_rfl) (by kernel_rfl) (all_cons (Z92_ok N) (all_cons (Z93_ok N) (all_nil)))
theorem E_Y21_Tok (N : Nat) : TabOK Tryz.prog (E_Y21_T N) := TabOK.cons (E_Y29_ok N) (TabOK.cons (E_Y28_ok N) (TabOK.nil))
theorem Z66_ok (N : Nat) : VarOK Tryz.prog (E_Y21_T N) Tryz.f92 (codeOf Tryz.f92) (Z66_W (Z66 N)) :=
  VarOK.of (E_Y21_Tok N) (by kernel_rfl) ⟨[], [], [1, 2, 3, 8, 10, 11, 12]⟩ (Z66_F) N (fun _ => LStep.none) fun t u K => Z66_body N _ _ _ _ _ _ _ t u K
theorem Z67_ok (N : Nat) : VarOK Tryz.prog (E_Y21_T N) Tryz.f92 (codeOf Tryz.f92) (Z67_W (Z67 N)) :=
  VarOK.of (E_Y21_Tok N) (by kernel_rfl) ⟨[], [], [1, 6, 8, 9]⟩ (Z67_F) N (fun _ => LStep.none) fun t u K => Z67_body N _ _ _ _ _ _ _ t u K
theorem E_Y21_ok (N : Nat) : EntOK Tryz.prog 92 (E_Y21 N) := EntOK.vars (E_Y21_Tok N) Tryz.func92 (by kernel_rfl) (by kernel_rfl) (all_cons (Z66_ok N) (all_cons (Z67_ok N) (all_nil)))
theorem E_Y22_Tok (N : Nat) : TabOK Tryz.prog (E_Y22_T N) := TabOK.cons (E_Y21_ok N) (TabOK.cons (E_Y29_ok N) (TabOK.cons (E_Y33_ok N) (TabOK.cons (E_Y30_ok N) (TabOK.cons (E_Y11_ok N) (TabOK.cons (E_Y9_ok N) (TabOK.cons (E_Y12_ok N) (TabOK.cons (E_Y10_ok N) (TabOK.cons (E_Y20_ok N) (TabOK.cons (E_Y2_ok N) (TabOK.cons (E_Y28_ok N) (TabOK.nil)))))))))))
theorem Z68_ok (N : Nat) : VarOK Tryz.prog (E_Y22_T N) Tryz.f43 (codeOf Tryz.f43) (Z68_W (Z68 N)) :=
  VarOK.of (E_Y22_Tok N) (by kernel_rfl) ⟨[12, 3], [], [1, 2, 3, 8, 10, 11, 12]⟩ (Z68_F) N (fun _ => LStep.none) fun t u K => Z68_body N _ _ _ _ _ _ _ _ _ _ _ _ _ _ _ _ _ _ _ _ _ _ t u K
theorem Z69_ok (N : Nat) : VarOK Tryz.prog (E_Y22_T N) Tryz.f43 (codeOf Tryz.f43) (Z69_W (Z69 N)) :=
  VarOK.of (E_Y22_Tok N) (by kernel_rfl) ⟨[9, 1], [], [1, 6, 8, 9]⟩ (Z69_F) N (fun _ => LStep.none) fun t u K => Z69_body N _ _ _ _ _ _ _ _ _ _ _ _ _ _ _ _ _ _ _ _ _ _ t u K
theorem E_Y22_ok (N : Nat) : EntOK Tryz.prog 43 (E_Y22 N) := EntOK.vars (E_Y22_Tok N) Tryz.func43 (by kernel_rfl) (by kernel_rfl) (all_cons (Z68_ok N) (all_cons (Z69_ok N) (all_nil)))
theorem E_Y32_Tok (N : Nat) : TabOK Tryz.prog (E_Y32_T N) := TabOK.cons (E_Y22_ok N) (TabOK.cons (E_Y26_ok N) (TabOK.cons (E_Y27_ok N) (TabOK.cons (E_Y31_ok N) (TabOK.cons (E_Y20_ok N) (TabOK.cons (E_Z44_ok N) (TabOK.cons (E_Y1_ok N) (TabOK.cons (E_Z40_ok N) (TabOK.nil))))))))
theorem Z90_ok (N : Nat) : VarOK Tryz.prog (E_Y32_T N) Tryz.f21 (codeOf Tryz.f21) (Z90_W (Z90 N)) :=
  VarOK.of (E_Y32_Tok N) (by kernel_rfl) ⟨[12, 8], [], [1, 2, 3, 8, 10, 11, 12]⟩ (Z90_F) N (fun _ => LStep.none) fun t u K => Z90_body N _ _ _ _ _ _ _ _ _ _ _ _ _ _ _ _ t u K
theorem Z91_ok (N : Nat) : VarOK Tryz.prog (E_Y32_T N) Tryz.f21 (codeOf Tryz.f21) (Z91_W (Z91 N)) :=
  VarOK.of (E_Y32_Tok N) (by kernel_rfl) ⟨[9, 6], [], [1, 6, 8, 9]⟩ (Z91_F) N (fun _ => LStep.none) fun t u K => Z91_body N _ _ _ _ _ _ _ _ _ _ _ _ _ _ _ _ t u K
theorem E_Y32_ok (N : Nat) : EntOK Tryz.prog 21 (E_Y32 N) := EntOK.vars (E_Y32_Tok N) Tryz.func21 (by kernel_rfl) (by kernel_rfl) (all_cons (Z90_ok N) (all_cons (Z91_ok N) (all_nil)))
theorem E_Z59_Tok (N : Nat) : TabOK Tryz.prog (E_Z59_T N) := TabOK.cons (E_Y32_ok N) (TabOK.cons (E_Y23_ok N) (TabOK.cons (E_Z94_ok N) (TabOK.nil)))
theorem Z60_ok (N : Nat) : VarOK Tryz.prog (E_Z59_T N) Tryz.f14 (codeOf Tryz.f14) (Z60_W (Z60 N)) :=
  VarOK.of (E_Z59_Tok N) (by kernel_rfl) ⟨[], [], [0, 1, 2, 3, 4]⟩ (Z60_F (@Z60_l0 N)) N (fun _ => LStep.pick (all_cons ⟨.inl fun _ _ _ => rfl, fun n t u K => Z60_v0_0_round N _ _ _ _ _ _ _ _ n t u K⟩ (all_cons ⟨.inl fun _ _ _ => rfl, fun n t u K => Z60_v0_1_round N _ _ _ _ _ _ _ _ n t u K⟩ (all_nil))) (LStep.none)) fun t u K => Z60_body N _ _ _ _ _ _ _ _ t u K
theorem Z59_ok (N : Nat) : VarOK Tryz.prog (E_Z59_T N) Tryz.f14 (codeOf Tryz.f14) (Z59_W (Z59 N)) :=
  VarOK.of (E_Z59_Tok N) (by kernel_rfl) pn (Z59_F (@Z59_l0 N)) N (fun _ => LStep.pick (all_cons ⟨.inl fun _ _ _ => rfl, fun n t u K => Z59_v0_0_round N _ _ _ _ _ _ _ _ n t u K⟩ (all_cons ⟨.inl fun _ _ _ => rfl, fun n t u K => Z59_v0_1_round N _ _ _ _ _ _ _ _ n t u K⟩ (all_nil))) (LStep.none)) fun t u K => Z59_body N _ _ _ _ _ _ _ _ t u K
theorem E_Z59_ok (N : Nat) : EntOK Tryz.prog 14 (E_Z59 N) := EntOK.vars (E_Z59_Tok N) Tryz.func14 (by kernel_rfl) (by kernel_rfl) (all_cons (Z60_ok N) (all_cons (Z59_ok N) (all_nil)))
theorem E_Z55_Tok (N : Nat) : TabOK Tryz.prog (E_Z55_T N) := TabOK.cons (E_Z59_ok N) (TabOK.nil)
theorem Z56_ok (N : Nat) : VarOK Tryz.prog (E_Z55_T N) Tryz.f10 (codeOf Tryz.f10) (Z56_W (Z56 N)) :=
  VarOK.of (E_Z55_Tok N) (by kernel_rfl) ⟨[], [], [0]⟩ (Z56_F) N (fun _ => LStep.none) fun t u K => Z56_body N _ _ _ t u K
theorem Z55_ok (N : Nat) : VarOK Tryz.prog (E_Z55_T N) Tryz.f10 (codeOf Tryz.f10) (Z55_W (Z55 N)) :=
  VarOK.of (E_Z55_Tok N) (by kernel_rfl) pn (Z55_F) N (fun _ => LStep.none) fun t u K => Z55_body N _ _ _ t u K
theorem E_Z55_ok (N : Nat) : EntOK Tryz.prog 10 (E_Z55 N) := EntOK.vars (E_Z55_Tok N) Tryz.func10 (by kernel_rfl) (by kernel_rfl) (all_cons (Z56_ok N) (all_cons (Z55_ok N) (all_nil)))
theorem E_Z57_Tok (N : Nat) : TabOK Tryz.prog (E_Z57_T N) := TabOK.cons (E_Z59_ok N) (TabOK.nil)
theorem Z58_ok (N : Nat) : VarOK Tryz.prog (E_Z57_T N) Tryz.f13 (codeOf Tryz.f13) (Z58_W (Z58 N)) :=
  VarOK.of (E_Z57_Tok N) (by kernel_rfl) ⟨[], [], [0]⟩ (Z58_F) N (fun _ => LStep.none) fun t u K => Z58_body N _ _ _ t u K
theorem Z57_ok (N : Nat) : VarOK Tryz.prog (E_Z57_T N) Tryz.f13 (codeOf Tryz.f13) (Z57_W (Z57 N)) :=
  VarOK.of (E_Z57_Tok N) (by kernel_rfl) pn (Z57_F) N (fun _ => LStep.none) fun t u K => Z57_body N _ _ _ t u K
theorem E_Z57_ok (N : Nat) : EntOK Tryz.prog 13 (E_Z57 N) := EntOK.vars (E_Z57_Tok N) Tryz.func13 (by kernel_rfl) (by kernel_rfl) (all_cons (Z58_ok N) (all_cons (Z57_ok N) (all_nil)))
theorem E_Z51_Tok (N : Nat) : TabOK Tryz.prog (E_Z51_T N) := TabOK.cons (E_Z57_ok N) (TabOK.cons (E_Z55_ok N) (TabOK.nil))
theorem Z51_ok (N : Nat) : VarOK Tryz.prog (E_Z51_T N) Tryz.f6 (codeOf Tryz.f6) (Z51_W (Z51 N)) :=
  VarOK.of (E_Z51_Tok N) (by kernel_rfl) pn (Z51_F) N (fun _ => LStep.none) fun t u K => Z51_body N _ _ _ _ _ t u K
theorem E_Z51_ok (N : Nat) : EntOK Tryz.prog 6 (E_Z51 N) := EntOK.vars (E_Z51_Tok N) Tryz.func6 (by kernel_rfl) (by kernel_rfl) (all_cons (Z51_ok N) (all_nil))
theorem E_Z46_Tok (N : Nat) : TabOK Tryz.prog (E_Z46_T N) := TabOK.nil
theorem Z46_ok (N : Nat) : VarOK Tryz.prog (E_Z46_T N) Tryz.f7 (codeOf Tryz.f7) (Z46_W (Z46 N)) :=
  VarOK.of (E_Z46_Tok N) (by kernel_rfl) pn (Z46_F (@Z46_l0 N)) N (fun _ => LStep.pick (all_cons ⟨.inl fun _ _ _ => rfl, fun n t u K => Z46_v0_0_round N _ _ n t u K⟩ (all_nil)) (LStep.none)) fun t u K => Z46_body N _ _ t u K
theorem E_Z46_ok (N : Nat) : EntOK Tryz.prog 7 (E_Z46 N) := EntOK.vars (E_Z46_Tok N) Tryz.func7 (by kernel_rfl) (by kernel_rfl) (all_cons (Z46_ok N) (all_nil))
theorem E_Y18_Tok (N : Nat) : TabOK Tryz.prog (E_Y18_T N) := TabOK.nil
theorem Z47_ok (N : Nat) : VarOK Tryz.prog (E_Y18_T N) Tryz.f8 (codeOf Tryz.f8) (Z47_W (Z47 N)) :=
  VarOK.of (E_Y18_Tok N) (by kernel_rfl) pn (Z47_F (@Z47_l0 N) (@Z47_l1 N) (@Z47_l2 N)) N (fun _ => LStep.pick (all_cons ⟨.inl fun _ _ _ => rfl, fun n t u K => Z47_v0_0_round N _ _ _ _ n t u K⟩ (all_nil)) (LStep.pick (all_cons ⟨.inl fun _ _ _ => rfl, fun n t u K => Z47_v1_0_round N _ _ _ _ n t u K⟩ (all_nil)) (LStep.pick (all_cons ⟨.inl fun _ _ _ => rfl, fun n t u K => Z47_v2_0_round N _ _ _ _ n t u K⟩ (all_nil)) (LStep.none)))) fun t u K => Z47_body N _ _ _ _ t u K
theorem Z48_ok (N : Nat) : VarOK Tryz.prog (E_Y18_T N) Tryz.f8 (codeOf Tryz.f8) (Z48_W (Z48 N)) :=
  VarOK.of (E_Y18_Tok N) (by kernel_rfl) pn (Z48_F (@Z48_l0 N) (@Z48_l1 N) (@Z48_l2 N)) N (fun _ => LStep.pick (all_cons ⟨.inl fun _ _ _ => rfl, fun n t u K => Z48_v0_0_round N _ _ _ _ n t u K⟩ (all_nil)) (LStep.pick (all_cons ⟨.inl fun _ _ _ => rfl, fun n t u K => Z48_v1_0_round N _ _ _ _ n t u K⟩ (all_nil)) (LStep.pick (all_cons ⟨.inl fun _ _ _ => rfl, fun n t u K => Z48_v2_0_round N _ _ _ _ n t u K⟩ (all_nil)) (LStep.none)))) fun t u K => Z48_body N _ _ _ _ t u K
theorem E_Y18_ok (N : Nat) : EntOK Tryz.prog 8 (E_Y18 N) := EntOK.vars (E_Y18_Tok N) Tryz.func8 (by kernel_rfl) (by kernel_rfl) (all_cons (Z47_ok N) (all_cons (Z48_ok N) (all_nil)))
theorem E_Z50_Tok (N : Nat) : TabOK Tryz.prog (E_Z50_T N) := TabOK.cons (E_Y18_ok N) (TabOK.nil)
theorem Z50_ok (N : Nat) : VarOK Tryz.prog (E_Z50_T N) Tryz.f9 (codeOf Tryz.f9) (Z50_W (Z50 N)) :=
  VarOK.of (E_Z50_Tok N) (by kernel_rfl) pn (Z50_F (@Z50_l0 N)) N (fun _ => LStep.pick (all_cons ⟨.inl fun _ _ _ => rfl, fun n t u K => Z50_v0_0_round N _ _ _ _ n t u K⟩ (all_nil)) (LStep.none)) fun t u K => Z50_body N _ _ _ _ t u K
theorem E_Z50_ok (N : Nat) : EntOK Tryz.prog 9 (E_Z50 N) := EntOK.vars (E_Z50_Tok N) Tryz.func9 (by kernel_rfl) (by kernel_rfl) (all_cons (Z50_ok N) (all_nil))
theorem E_Y19_Tok (N : Nat) : TabOK Tryz.prog (E_Y19_T N) := TabOK.nil
theorem Z54_ok (N : Nat) : VarOK Tryz.prog (E_Y19_T N) Tryz.f12 (codeOf Tryz.f12) (Z54_W (Z54 N)) :=
  VarOK.of (E_Y19_Tok N) (by kernel_rfl) ⟨[], [], [0, 1]⟩ (Z54_F (@Z54_l0 N)) N (fun _ => LStep.pick (all_cons ⟨.inl fun _ _ _ => rfl, fun n t u K => Z54_v0_0_round N _ _ n t u K⟩ (all_nil)) (LStep.none)) fun t u K => Z54_body N _ _ t u K
theorem E_Y19_ok (N : Nat) : EntOK Tryz.prog 12 (E_Y19 N) := EntOK.vars (E_Y19_Tok N) Tryz.func12 (by kernel_rfl) (by kernel_rfl) (all_cons (Z54_ok N) (all_nil))
theorem E_Z49_Tok (N : Nat) : TabOK Tryz.prog (E_Z49_T N) := TabOK.cons (E_Y19_ok N) (TabOK.cons (E_Z57_ok N) (TabOK.cons (E_Z55_ok N) (TabOK.cons (E_Z50_ok N) (TabOK.cons (E_Y18_ok N) (TabOK.cons (E_Z46_ok N) (TabOK.cons (E_Z51_ok N) (TabOK.nil)))))))
theorem Z49_ok (N : Nat) : VarOK Tryz.prog (E_Z49_T N) Tryz.f4 (codeOf Tryz.f4) (Z49_W (Z49 N)) :=
  VarOK.of (E_Z49_Tok N) (by kernel_rfl) pn (Z49_F (@Z49_l0 N)) N (fun _ => LStep.pick (all_cons ⟨.inl fun _ _ _ => rfl, fun n t u K => Z49_v0_0_round N _ _ _ _ _ _ _ _ _ _ _ _ n t u K⟩ (all_nil)) (LStep.none)) fun t u K => Z49_body N _ _ _ _ _ _ _ _ _ _ _ _ t u K
theorem E_Z49_ok (N : Nat) : EntOK Tryz.prog 4 (E_Z49 N) := EntOK.vars (E_Z49_Tok N) Tryz.func4 (by kernel_rfl) (by kernel_rfl) (all_cons (Z49_ok N) (all_nil))
end
end Go.Proofs.YtbclodhbcplhmaaGreat
