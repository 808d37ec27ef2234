/-
  Each entry is borne out (printed by a program of this work).
-/
import Derived.Test.YtdopealphpmaeaaX
import Derived.Test.YtdopealphpmaeaaQ0
import Derived.Test.YtdopealphpmaeaaQ1
import Derived.Test.YtdopealphpmaeaaQ2
import Derived.Test.YtdopealphpmaeaaQ3
set_option linter.unusedVariables false
set_option maxRecDepth 100000
namespace Go.Proofs.Ytdopealphpmaeaa
open Go.Gx
noncomputable section
theorem E_Z107_Tok (N : Nat) : TabOK Try.prog (E_Z107_T N) := TabOK.pools
theorem Z107_ok (N : Nat) : VarOK Try.prog (E_Z107_T N) Try.f13 (codeOf Try.f13) (Z107_W (Z107 N)) :=
  VarOK.of (E_Z107_Tok N) (by kernel_rfl) pn (Z107_F) N (fun _ => LStep.none) fun t u K => Z107_body N _ t u K
theorem E_Z107_ok (N : Nat) : EntOK Try.prog 13 (E_Z107 N) := EntOK.vars (E_Z107_Tok N) Try.func13 (by kernel_rfl) (by kernel_rfl) (all_cons (Z107_ok N) (all_nil))
theorem E_Z120_Tok (N : Nat) : TabOK Try.prog (E_Z120_T N) := TabOK.pools
theorem Z120_ok (N : Nat) : VarOK Try.prog (E_Z120_T N) Try.f75 (codeOf Try.f75) (Z120_W (Z120 N)) :=
  VarOK.of (E_Z120_Tok N) (by kernel_rfl) pn (Z120_F) N (fun _ => LStep.none) fun t u K => Z120_body N _ t u K
theorem E_Z120_ok (N : Nat) : EntOK Try.prog 75 (E_Z120 N) := EntOK.vars (E_Z120_Tok N) Try.func75 (by kernel_rfl) (by kernel_rfl) (all_cons (Z120_ok N) (all_nil))
theorem E_Z119_Tok (N : Nat) : TabOK Try.prog (E_Z119_T N) := TabOK.cons (E_Z120_ok N) (TabOK.pools)
theorem Z119_ok (N : Nat) : VarOK Try.prog (E_Z119_T N) Try.f77 (codeOf Try.f77) (Z119_W (Z119 N)) :=
  VarOK.of (E_Z119_Tok N) (by kernel_rfl) pn (Z119_F) N (fun _ => LStep.none) fun t u K => Z119_body N _ _ t u K
theorem E_Z119_ok (N : Nat) : EntOK Try.prog 77 (E_Z119 N) := EntOK.vars (E_Z119_Tok N) Try.func77 (by kernel_rfl) (by kernel_rfl) (all_cons (Z119_ok N) (all_nil))
theorem E_Y25_Tok (N : Nat) : TabOK Try.prog (E_Y25_T N) := TabOK.pools
theorem Z106_ok (N : Nat) : VarOK Try.prog (E_Y25_T N) Try.f76 (codeOf Try.f76) (Z106_W (Z106 N)) :=
  VarOK.of (E_Y25_Tok N) (by kernel_rfl) ⟨[1], [], [1]⟩ (Z106_F) N (fun _ => LStep.none) fun t u K => Z106_body N _ t u K
theorem E_Y25_ok (N : Nat) : EntOK Try.prog 76 (E_Y25 N) := EntOK.vars (E_Y25_Tok N) Try.func76 (by kernel_rfl) (by kernel_rfl) (all_cons (Z106_ok N) (all_nil))
theorem E_Y20_Tok (N : Nat) : TabOK Try.prog (E_Y20_T N) := TabOK.cons (E_Y25_ok N) (TabOK.cons (E_Z119_ok N) (TabOK.cons (E_Z120_ok N) (TabOK.pools)))
theorem Z101_ok (N : Nat) : VarOK Try.prog (E_Y20_T N) Try.f27 (codeOf Try.f27) (Z101_W (Z101 N)) :=
  VarOK.of (E_Y20_Tok N) (by kernel_rfl) ⟨[1], [], [1]⟩ (Z101_F) N (fun _ => LStep.none) fun t u K => Z101_body N _ _ _ _ t u K
theorem E_Y20_ok (N : Nat) : EntOK Try.prog 27 (E_Y20 N) := EntOK.vars (E_Y20_Tok N) Try.func27 (by kernel_rfl) (by kernel_rfl) (all_cons (Z101_ok N) (all_nil))
theorem E_Y23_Tok (N : Nat) : TabOK Try.prog (E_Y23_T N) := TabOK.cons (E_Y25_ok N) (TabOK.cons (E_Z120_ok N) (TabOK.pools))
theorem Z104_ok (N : Nat) : VarOK Try.prog (E_Y23_T N) Try.f29 (codeOf Try.f29) (Z104_W (Z104 N)) :=
  VarOK.of (E_Y23_Tok N) (by kernel_rfl) ⟨[1], [], [1]⟩ (Z104_F) N (fun _ => LStep.none) fun t u K => Z104_body N _ _ _ t u K
theorem E_Y23_ok (N : Nat) : EntOK Try.prog 29 (E_Y23 N) := EntOK.vars (E_Y23_Tok N) Try.func29 (by kernel_rfl) (by kernel_rfl) (all_cons (Z104_ok N) (all_nil))
theorem E_Z100_Tok (N : Nat) : TabOK Try.prog (E_Z100_T N) := TabOK.cons E_stringslite_IndexByte_ok (TabOK.pools)
theorem Z100_ok (N : Nat) : VarOK Try.prog (E_Z100_T N) Try.f121 (codeOf Try.f121) (Z100_W (Z100 N)) :=
  VarOK.of (E_Z100_Tok N) (by kernel_rfl) pn (Z100_F) N (fun _ => LStep.none) fun t u K => Z100_body N _ _ t u K
theorem E_Z100_ok (N : Nat) : EntOK Try.prog 121 (E_Z100 N) := EntOK.vars (E_Z100_Tok N) Try.func121 (by kernel_rfl) (by kernel_rfl) (all_cons (Z100_ok N) (all_nil))
theorem E_Z99_Tok (N : Nat) : TabOK Try.prog (E_Z99_T N) := TabOK.cons (E_Z100_ok N) (TabOK.pools)
theorem Z99_ok (N : Nat) : VarOK Try.prog (E_Z99_T N) Try.f116 (codeOf Try.f116) (Z99_W (Z99 N)) :=
  VarOK.of (E_Z99_Tok N) (by kernel_rfl) pn (Z99_F) N (fun _ => LStep.none) fun t u K => Z99_body N _ _ t u K
theorem E_Z99_ok (N : Nat) : EntOK Try.prog 116 (E_Z99 N) := EntOK.vars (E_Z99_Tok N) Try.func116 (by kernel_rfl) (by kernel_rfl) (all_cons (Z99_ok N) (all_nil))
theorem E_Z98_Tok (N : Nat) : TabOK Try.prog (E_Z98_T N) := TabOK.cons (E_Z99_ok N) (TabOK.pools)
theorem Z98_ok (N : Nat) : VarOK Try.prog (E_Z98_T N) Try.f113 (codeOf Try.f113) (Z98_W (Z98 N)) :=
  VarOK.of (E_Z98_Tok N) (by kernel_rfl) pn (Z98_F) N (fun _ => LStep.none) fun t u K => Z98_body N _ _ t u K
theorem E_Z98_ok (N : Nat) : EntOK Try.prog 113 (E_Z98 N) := EntOK.vars (E_Z98_Tok N) Try.func113 (by kernel_rfl) (by kernel_rfl) (all_cons (Z98_ok N) (all_nil))
theorem E_Z1_Tok (N : Nat) : TabOK Try.prog (E_Z1_T N) := TabOK.pools
theorem Z1_ok (N : Nat) : VarOK Try.prog (E_Z1_T N) Try.f117 (codeOf Try.f117) (Z1_W (Z1 N)) :=
  VarOK.of (E_Z1_Tok N) (by kernel_rfl) pn (Z1_F) N (fun _ => LStep.none) fun t u K => Z1_body N _ t u K
theorem E_Z1_ok (N : Nat) : EntOK Try.prog 117 (E_Z1 N) := EntOK.vars (E_Z1_Tok N) Try.func117 (by kernel_rfl) (by kernel_rfl) (all_cons (Z1_ok N) (all_nil))
theorem E_Z2_Tok (N : Nat) : TabOK Try.prog (E_Z2_T N) := TabOK.cons (E_Z1_ok N) (TabOK.pools)
theorem Z2_ok (N : Nat) : VarOK Try.prog (E_Z2_T N) Try.f114 (codeOf Try.f114) (Z2_W (Z2 N)) :=
  VarOK.of (E_Z2_Tok N) (by kernel_rfl) pn (Z2_F (@Z2_l0 N)) N (fun _ => LStep.pick (all_cons ⟨.inl fun _ _ _ => rfl, fun n t u K => Z2_v0_0_round N _ _ _ n t u K⟩ (all_nil)) (LStep.none)) fun t u K => Z2_body N _ _ _ t u K
theorem E_Z2_ok (N : Nat) : EntOK Try.prog 114 (E_Z2 N) := EntOK.vars (E_Z2_Tok N) Try.func114 (by kernel_rfl) (by kernel_rfl) (all_cons (Z2_ok N) (all_nil))
theorem E_Z0_Tok (N : Nat) : TabOK Try.prog (E_Z0_T N) := TabOK.cons (E_Z2_ok N) (TabOK.cons (E_Z98_ok N) (TabOK.pools))
theorem Z0_ok (N : Nat) : VarOK Try.prog (E_Z0_T N) Try.f108 (codeOf Try.f108) (Z0_W (Z0 N)) :=
  VarOK.of (E_Z0_Tok N) (by kernel_rfl) pn (Z0_F) N (fun _ => LStep.none) fun t u K => Z0_body N _ _ _ t u K
theorem E_Z0_ok (N : Nat) : EntOK Try.prog 108 (E_Z0 N) := EntOK.vars (E_Z0_Tok N) Try.func108 (by kernel_rfl) (by kernel_rfl) (all_cons (Z0_ok N) (all_nil))
theorem E_Z44_Tok (N : Nat) : TabOK Try.prog (E_Z44_T N) := TabOK.cons (E_Z0_ok N) (TabOK.pools)
theorem Z44_ok (N : Nat) : VarOK Try.prog (E_Z44_T N) Try.f85 (codeOf Try.f85) (Z44_W (Z44 N)) :=
  VarOK.of (E_Z44_Tok N) (by kernel_rfl) pn (Z44_F) N (fun _ => LStep.none) fun t u K => Z44_body N _ _ t u K
theorem E_Z44_ok (N : Nat) : EntOK Try.prog 85 (E_Z44 N) := EntOK.vars (E_Z44_Tok N) Try.func85 (by kernel_rfl) (by kernel_rfl) (all_cons (Z44_ok N) (all_nil))
theorem E_Z45_Tok (N : Nat) : TabOK Try.prog (E_Z45_T N) := TabOK.cons (E_Z98_ok N) (TabOK.cons (E_Z44_ok N) (TabOK.pools))
theorem Z45_ok (N : Nat) : VarOK Try.prog (E_Z45_T N) Try.f111 (codeOf Try.f111) (Z45_W (Z45 N)) :=
  VarOK.of (E_Z45_Tok N) (by kernel_rfl) pn (Z45_F) N (fun _ => LStep.none) fun t u K => Z45_body N _ _ _ t u K
theorem E_Z45_ok (N : Nat) : EntOK Try.prog 111 (E_Z45 N) := EntOK.vars (E_Z45_Tok N) Try.func111 (by kernel_rfl) (by kernel_rfl) (all_cons (Z45_ok N) (all_nil))
theorem E_Z118_Tok (N : Nat) : TabOK Try.prog (E_Z118_T N) := TabOK.cons (E_Z45_ok N) (TabOK.pools)
theorem Z118_ok (N : Nat) : VarOK Try.prog (E_Z118_T N) Try.f100 (codeOf Try.f100) (Z118_W (Z118 N)) :=
  VarOK.of (E_Z118_Tok N) (by kernel_rfl) pn (Z118_F) N (fun _ => LStep.none) fun t u K => Z118_body N _ _ t u K
theorem E_Z118_ok (N : Nat) : EntOK Try.prog 100 (E_Z118 N) := EntOK.vars (E_Z118_Tok N) Try.func100 (by kernel_rfl) (by kernel_rfl) (all_cons (Z118_ok N) (all_nil))
theorem E_Y32_Tok (N : Nat) : TabOK Try.prog (E_Y32_T N) := TabOK.pools
theorem Z116_ok (N : Nat) : VarOK Try.prog (E_Y32_T N) Try.f101 (codeOf Try.f101) (Z116_W (Z116 N)) :=
  VarOK.of (E_Y32_Tok N) (by kernel_rfl) pn (Z116_F) N (fun _ => LStep.none) fun t u K => Z116_body N _ t u K
theorem E_Y32_ok (N : Nat) : EntOK Try.prog 101 (E_Y32 N) := EntOK.vars (E_Y32_Tok N) Try.func101 (by kernel_rfl) (by kernel_rfl) (all_cons (Z116_ok N) (all_nil))
theorem E_Y29_Tok (N : Nat) : TabOK Try.prog (E_Y29_T N) := TabOK.cons (E_Y32_ok N) (TabOK.cons (E_Z118_ok N) (TabOK.pools))
theorem Z113_ok (N : Nat) : VarOK Try.prog (E_Y29_T N) Try.f67 (codeOf Try.f67) (Z113_W (Z113 N)) :=
  VarOK.of (E_Y29_Tok N) (by kernel_rfl) pn (Z113_F) N (fun _ => LStep.none) fun t u K => Z113_body N _ _ _ t u K
theorem E_Y29_ok (N : Nat) : EntOK Try.prog 67 (E_Y29 N) := EntOK.vars (E_Y29_Tok N) Try.func67 (by kernel_rfl) (by kernel_rfl) (all_cons (Z113_ok N) (all_nil))
theorem E_Z108_Tok (N : Nat) : TabOK Try.prog (E_Z108_T N) := TabOK.cons (E_Y29_ok N) (TabOK.cons (E_Z44_ok N) (TabOK.pools))
theorem Z109_ok (N : Nat) : VarOK Try.prog (E_Z108_T N) Try.f41 (codeOf Try.f41) (Z109_W (Z109 N)) :=
  VarOK.of (E_Z108_Tok N) (by kernel_rfl) ⟨[], [], [0]⟩ (Z109_F (@Z109_l0 N)) N (fun _ => LStep.pick (all_cons ⟨.inl fun _ _ _ => rfl, fun n t u K => Z109_v0_0_round N _ _ _ _ n t u K⟩ (all_nil)) (LStep.none)) fun t u K => Z109_body N _ _ _ _ t u K
theorem Z108_ok (N : Nat) : VarOK Try.prog (E_Z108_T N) Try.f41 (codeOf Try.f41) (Z108_W (Z108 N)) :=
  VarOK.of (E_Z108_Tok N) (by kernel_rfl) pn (Z108_F (@Z108_l0 N)) N (fun _ => LStep.pick (all_cons ⟨.inl fun _ _ _ => rfl, fun n t u K => Z108_v0_0_round N _ _ _ _ n t u K⟩ (all_nil)) (LStep.none)) fun t u K => Z108_body N _ _ _ _ t u K
theorem E_Z108_ok (N : Nat) : EntOK Try.prog 41 (E_Z108 N) := EntOK.vars (E_Z108_Tok N) Try.func41 (by kernel_rfl) (by kernel_rfl) (all_cons (Z109_ok N) (all_cons (Z108_ok N) (all_nil)))
theorem E_Y4_Tok (N : Nat) : TabOK Try.prog (E_Y4_T N) := TabOK.cons E_slices_Clone__term_T_term_T_ok (TabOK.cons (E_Z108_ok N) (TabOK.pools))
theorem Z28_ok (N : Nat) : VarOK Try.prog (E_Y4_T N) Try.f30 (codeOf Try.f30) (Z28_W (Z28 N)) :=
  VarOK.of (E_Y4_Tok N) (by kernel_rfl) ⟨[], [], [0, 1]⟩ (Z28_F (@Z28_l0 N)) N (fun _ => LStep.pick (all_cons ⟨.inl fun _ _ _ => rfl, fun n t u K => Z28_v0_0_round N _ _ _ _ _ n t u K⟩ (all_cons ⟨.inl fun _ _ _ => rfl, fun n t u K => Z28_v0_1_round N _ _ _ _ _ n t u K⟩ (all_nil))) (LStep.none)) fun t u K => Z28_body N _ _ _ _ _ t u K
theorem Z29_ok (N : Nat) : VarOK Try.prog (E_Y4_T N) Try.f30 (codeOf Try.f30) (Z29_W (Z29 N)) :=
  VarOK.of (E_Y4_Tok N) (by kernel_rfl) ⟨[], [], [0]⟩ (Z29_F (@Z29_l0 N)) N (fun _ => LStep.pick (all_cons ⟨.inl fun _ _ _ => rfl, fun n t u K => Z29_v0_0_round N _ _ _ _ _ n t u K⟩ (all_cons ⟨.inl fun _ _ _ => rfl, fun n t u K => Z29_v0_1_round N _ _ _ _ _ n t u K⟩ (all_nil))) (LStep.none)) fun t u K => Z29_body N _ _ _ _ _ t u K
theorem E_Y4_ok (N : Nat) : EntOK Try.prog 30 (E_Y4 N) := EntOK.vars (E_Y4_Tok N) Try.func30 (by kernel_rfl) (by kernel_rfl) (all_cons (Z28_ok N) (all_cons (Z29_ok N) (all_nil)))
theorem E_Y33_Tok (N : Nat) : TabOK Try.prog (E_Y33_T N) := TabOK.cons (E_Y32_ok N) (TabOK.cons (E_Z118_ok N) (TabOK.pools))
theorem Z117_ok (N : Nat) : VarOK Try.prog (E_Y33_T N) Try.f98 (codeOf Try.f98) (Z117_W (Z117 N)) :=
  VarOK.of (E_Y33_Tok N) (by kernel_rfl) pn (Z117_F) N (fun _ => LStep.none) fun t u K => Z117_body N _ _ _ t u K
theorem E_Y33_ok (N : Nat) : EntOK Try.prog 98 (E_Y33 N) := EntOK.vars (E_Y33_Tok N) Try.func98 (by kernel_rfl) (by kernel_rfl) (all_cons (Z117_ok N) (all_nil))
theorem E_Y28_Tok (N : Nat) : TabOK Try.prog (E_Y28_T N) := TabOK.cons (E_Y33_ok N) (TabOK.pools)
theorem Z112_ok (N : Nat) : VarOK Try.prog (E_Y28_T N) Try.f64 (codeOf Try.f64) (Z112_W (Z112 N)) :=
  VarOK.of (E_Y28_Tok N) (by kernel_rfl) pn (Z112_F) N (fun _ => LStep.none) fun t u K => Z112_body N _ _ t u K
theorem E_Y28_ok (N : Nat) : EntOK Try.prog 64 (E_Y28 N) := EntOK.vars (E_Y28_Tok N) Try.func64 (by kernel_rfl) (by kernel_rfl) (all_cons (Z112_ok N) (all_nil))
theorem E_Y19_Tok (N : Nat) : TabOK Try.prog (E_Y19_T N) := TabOK.pools
theorem Z97_ok (N : Nat) : VarOK Try.prog (E_Y19_T N) Try.f99 (codeOf Try.f99) (Z97_W (Z97 N)) :=
  VarOK.of (E_Y19_Tok N) (by kernel_rfl) ⟨[], [], [4]⟩ (Z97_F (@Z97_l0 N)) N (fun _ => LStep.pick (all_cons ⟨.inl fun _ _ _ => rfl, fun n t u K => Z97_v0_0_round N _ _ n t u K⟩ (all_nil)) (LStep.none)) fun t u K => Z97_body N _ _ t u K
theorem E_Y19_ok (N : Nat) : EntOK Try.prog 99 (E_Y19 N) := EntOK.vars (E_Y19_Tok N) Try.func99 (by kernel_rfl) (by kernel_rfl) (all_cons (Z97_ok N) (all_nil))
theorem E_Y1_Tok (N : Nat) : TabOK Try.prog (E_Y1_T N) := TabOK.cons (E_Y19_ok N) (TabOK.pools)
theorem Z25_ok (N : Nat) : VarOK Try.prog (E_Y1_T N) Try.f65 (codeOf Try.f65) (Z25_W (Z25 N)) :=
  VarOK.of (E_Y1_Tok N) (by kernel_rfl) ⟨[], [], [4]⟩ (Z25_F) N (fun _ => LStep.none) fun t u K => Z25_body N _ _ t u K
theorem E_Y1_ok (N : Nat) : EntOK Try.prog 65 (E_Y1 N) := EntOK.vars (E_Y1_Tok N) Try.func65 (by kernel_rfl) (by kernel_rfl) (all_cons (Z25_ok N) (all_nil))
theorem E_Y26_Tok (N : Nat) : TabOK Try.prog (E_Y26_T N) := TabOK.cons E_maps_Clone_map_tree_keytree_entry_tree_key_tree_entry_ok (TabOK.pools)
theorem Z110_ok (N : Nat) : VarOK Try.prog (E_Y26_T N) Try.f61 (codeOf Try.f61) (Z110_W (Z110 N)) :=
  VarOK.of (E_Y26_Tok N) (by kernel_rfl) pn (Z110_F) N (fun _ => LStep.none) fun t u K => Z110_body N _ _ t u K
theorem E_Y26_ok (N : Nat) : EntOK Try.prog 61 (E_Y26 N) := EntOK.vars (E_Y26_Tok N) Try.func61 (by kernel_rfl) (by kernel_rfl) (all_cons (Z110_ok N) (all_nil))
theorem E_Y2_Tok (N : Nat) : TabOK Try.prog (E_Y2_T N) := TabOK.cons (E_Y29_ok N) (TabOK.cons (E_Y26_ok N) (TabOK.pools))
theorem Z26_ok (N : Nat) : VarOK Try.prog (E_Y2_T N) Try.f66 (codeOf Try.f66) (Z26_W (Z26 N)) :=
  VarOK.of (E_Y2_Tok N) (by kernel_rfl) ⟨[], [], [4]⟩ (Z26_F) N (fun _ => LStep.none) fun t u K => Z26_body N _ _ _ t u K
theorem E_Y2_ok (N : Nat) : EntOK Try.prog 66 (E_Y2 N) := EntOK.vars (E_Y2_Tok N) Try.func66 (by kernel_rfl) (by kernel_rfl) (all_cons (Z26_ok N) (all_nil))
theorem E_Z9_Tok (N : Nat) : TabOK Try.prog (E_Z9_T N) := TabOK.cons (E_Y29_ok N) (TabOK.cons (E_Y2_ok N) (TabOK.cons (E_Y1_ok N) (TabOK.cons (E_Y28_ok N) (TabOK.pools))))
theorem Z10_ok (N : Nat) : VarOK Try.prog (E_Z9_T N) Try.f17 (codeOf Try.f17) (Z10_W (Z10 N)) :=
  VarOK.of (E_Z9_Tok N) (by kernel_rfl) ⟨[4], [], [4]⟩ (Z10_F) N (fun _ => LStep.none) fun t u K => Z10_body N _ _ _ _ _ t u K
theorem Z9_ok (N : Nat) : VarOK Try.prog (E_Z9_T N) Try.f17 (codeOf Try.f17) (Z9_W (Z9 N)) :=
  VarOK.of (E_Z9_Tok N) (by kernel_rfl) pn (Z9_F) N (fun _ => LStep.none) fun t u K => Z9_body N _ _ _ _ _ t u K
theorem E_Z9_ok (N : Nat) : EntOK Try.prog 17 (E_Z9 N) := EntOK.vars (E_Z9_Tok N) Try.func17 (by kernel_rfl) (by kernel_rfl) (all_cons (Z10_ok N) (all_cons (Z9_ok N) (all_nil)))
theorem E_Z23_Tok (N : Nat) : TabOK Try.prog (E_Z23_T N) := TabOK.pools
theorem Z24_ok (N : Nat) : VarOK Try.prog (E_Z23_T N) Try.f68 (codeOf Try.f68) (Z24_W (Z24 N)) :=
  VarOK.of (E_Z23_Tok N) (by kernel_rfl) ⟨[], [], [4]⟩ (Z24_F) N (fun _ => LStep.none) fun t u K => Z24_body N _ t u K
theorem Z23_ok (N : Nat) : VarOK Try.prog (E_Z23_T N) Try.f68 (codeOf Try.f68) (Z23_W (Z23 N)) :=
  VarOK.of (E_Z23_Tok N) (by kernel_rfl) pn (Z23_F) N (fun _ => LStep.none) fun t u K => Z23_body N _ t u K
theorem E_Z23_ok (N : Nat) : EntOK Try.prog 68 (E_Z23 N) := EntOK.vars (E_Z23_Tok N) Try.func68 (by kernel_rfl) (by kernel_rfl) (all_cons (Z24_ok N) (all_cons (Z23_ok N) (all_nil)))
theorem E_Z11_Tok (N : Nat) : TabOK Try.prog (E_Z11_T N) := TabOK.cons E_slices_Clone__term_T_term_T_ok (TabOK.cons (E_Z23_ok N) (TabOK.pools))
theorem Z12_ok (N : Nat) : VarOK Try.prog (E_Z11_T N) Try.f19 (codeOf Try.f19) (Z12_W (Z12 N)) :=
  VarOK.of (E_Z11_Tok N) (by kernel_rfl) ⟨[], [(0, false, (.int .i64))], [4]⟩ (Z12_F) N (fun _ => LStep.none) fun t u K => Z12_body N _ _ _ _ t u K
theorem Z11_ok (N : Nat) : VarOK Try.prog (E_Z11_T N) Try.f19 (codeOf Try.f19) (Z11_W (Z11 N)) :=
  VarOK.of (E_Z11_Tok N) (by kernel_rfl) pn (Z11_F) N (fun _ => LStep.none) fun t u K => Z11_body N _ _ _ _ t u K
theorem E_Z11_ok (N : Nat) : EntOK Try.prog 19 (E_Z11 N) := EntOK.vars (E_Z11_Tok N) Try.func19 (by kernel_rfl) (by kernel_rfl) (all_cons (Z12_ok N) (all_cons (Z11_ok N) (all_nil)))
theorem E_Z15_Tok (N : Nat) : TabOK Try.prog (E_Z15_T N) := TabOK.cons (E_Z23_ok N) (TabOK.pools)
theorem Z16_ok (N : Nat) : VarOK Try.prog (E_Z15_T N) Try.f25 (codeOf Try.f25) (Z16_W (Z16 N)) :=
  VarOK.of (E_Z15_Tok N) (by kernel_rfl) ⟨[], [], [4]⟩ (Z16_F) N (fun _ => LStep.none) fun t u K => Z16_body N _ _ _ t u K
theorem Z15_ok (N : Nat) : VarOK Try.prog (E_Z15_T N) Try.f25 (codeOf Try.f25) (Z15_W (Z15 N)) :=
  VarOK.of (E_Z15_Tok N) (by kernel_rfl) pn (Z15_F) N (fun _ => LStep.none) fun t u K => Z15_body N _ _ _ t u K
theorem E_Z15_ok (N : Nat) : EntOK Try.prog 25 (E_Z15 N) := EntOK.vars (E_Z15_Tok N) Try.func25 (by kernel_rfl) (by kernel_rfl) (all_cons (Z16_ok N) (all_cons (Z15_ok N) (all_nil)))
theorem E_Z32_Tok (N : Nat) : TabOK Try.prog (E_Z32_T N) := TabOK.cons (E_Z15_ok N) (TabOK.cons (E_Z11_ok N) (TabOK.cons (E_Z9_ok N) (TabOK.cons (E_Y4_ok N) (TabOK.cons (E_Y23_ok N) (TabOK.cons (E_Y20_ok N) (TabOK.cons (E_Z107_ok N) (TabOK.pools)))))))
theorem Z32_ok (N : Nat) : VarOK Try.prog (E_Z32_T N) Try.f12 (codeOf Try.f12) (Z32_W (Z32 N)) :=
  VarOK.of (E_Z32_Tok N) (by kernel_rfl) pn (Z32_F) N (fun _ => LStep.none) fun t u K => Z32_body N _ _ _ _ _ _ _ _ _ _ _ _ t u K
theorem E_Z32_ok (N : Nat) : EntOK Try.prog 12 (E_Z32 N) := EntOK.vars (E_Z32_Tok N) Try.func12 (by kernel_rfl) (by kernel_rfl) (all_cons (Z32_ok N) (all_nil))
theorem E_Z30_Tok (N : Nat) : TabOK Try.prog (E_Z30_T N) := TabOK.pools
theorem Z30_ok (N : Nat) : VarOK Try.prog (E_Z30_T N) Try.f8 (codeOf Try.f8) (Z30_W (Z30 N)) :=
  VarOK.of (E_Z30_Tok N) (by kernel_rfl) pn (Z30_F (@Z30_l0 N) (@Z30_l1 N) (@Z30_l2 N)) N (fun _ => LStep.pick (all_cons ⟨.inl fun _ _ _ => rfl, fun n t u K => Z30_v0_0_round N _ _ _ _ n t u K⟩ (all_nil)) (LStep.pick (all_cons ⟨.inl fun _ _ _ => rfl, fun n t u K => Z30_v1_0_round N _ _ _ _ n t u K⟩ (all_nil)) (LStep.pick (all_cons ⟨.inl fun _ _ _ => rfl, fun n t u K => Z30_v2_0_round N _ _ _ _ n t u K⟩ (all_nil)) (LStep.none)))) fun t u K => Z30_body N _ _ _ _ t u K
theorem E_Z30_ok (N : Nat) : EntOK Try.prog 8 (E_Z30 N) := EntOK.vars (E_Z30_Tok N) Try.func8 (by kernel_rfl) (by kernel_rfl) (all_cons (Z30_ok N) (all_nil))
theorem E_Y8_Tok (N : Nat) : TabOK Try.prog (E_Y8_T N) := TabOK.cons (E_Y20_ok N) (TabOK.pools)
theorem Z43_ok (N : Nat) : VarOK Try.prog (E_Y8_T N) Try.f21 (codeOf Try.f21) (Z43_W (Z43 N)) :=
  VarOK.of (E_Y8_Tok N) (by kernel_rfl) ⟨[], [], [1]⟩ (Z43_F (@Z43_l0 N)) N (fun _ => LStep.pick (all_cons ⟨.inl fun _ _ _ => rfl, fun n t u K => Z43_v0_0_round N _ _ _ n t u K⟩ (all_nil)) (LStep.none)) fun t u K => Z43_body N _ _ _ t u K
theorem Z42_ok (N : Nat) : VarOK Try.prog (E_Y8_T N) Try.f21 (codeOf Try.f21) (Z42_W (Z42 N)) :=
  VarOK.of (E_Y8_Tok N) (by kernel_rfl) ⟨[], [], [1, 4]⟩ (Z42_F (@Z42_l0 N)) N (fun _ => LStep.pick (all_cons ⟨.inl fun _ _ _ => rfl, fun n t u K => Z42_v0_0_round N _ _ _ n t u K⟩ (all_nil)) (LStep.none)) fun t u K => Z42_body N _ _ _ t u K
theorem E_Y8_ok (N : Nat) : EntOK Try.prog 21 (E_Y8 N) := EntOK.vars (E_Y8_Tok N) Try.func21 (by kernel_rfl) (by kernel_rfl) (all_cons (Z43_ok N) (all_cons (Z42_ok N) (all_nil)))
theorem E_Z84_Tok (N : Nat) : TabOK Try.prog (E_Z84_T N) := TabOK.pools
theorem Z84_ok (N : Nat) : VarOK Try.prog (E_Z84_T N) Try.f86 (codeOf Try.f86) (Z84_W (Z84 N)) :=
  VarOK.of (E_Z84_Tok N) (by kernel_rfl) pn (Z84_F (@Z84_l0 N) (@Z84_l1 N)) N (fun _ => LStep.pick (all_cons ⟨.inl fun _ _ _ => rfl, fun n t u K => Z84_v0_0_round N _ _ _ n t u K⟩ (all_nil)) (LStep.pick (all_cons ⟨.inl fun _ _ _ => rfl, fun n t u K => Z84_v1_0_round N _ _ _ n t u K⟩ (all_nil)) (LStep.none))) fun t u K => Z84_body N _ _ _ t u K
theorem E_Z84_ok (N : Nat) : EntOK Try.prog 86 (E_Z84 N) := EntOK.vars (E_Z84_Tok N) Try.func86 (by kernel_rfl) (by kernel_rfl) (all_cons (Z84_ok N) (all_nil))
theorem E_Y16_Tok (N : Nat) : TabOK Try.prog (E_Y16_T N) := TabOK.pools
theorem Z94_ok (N : Nat) : VarOK Try.prog (E_Y16_T N) Try.f87 (codeOf Try.f87) (Z94_W (Z94 N)) :=
  VarOK.of (E_Y16_Tok N) (by kernel_rfl) ⟨[], [], [1]⟩ (Z94_F (@Z94_l0 N)) N (fun _ => LStep.pick (all_cons ⟨.inl fun _ _ _ => rfl, fun n t u K => Z94_v0_0_round N _ _ n t u K⟩ (all_nil)) (LStep.none)) fun t u K => Z94_body N _ _ t u K
theorem E_Y16_ok (N : Nat) : EntOK Try.prog 87 (E_Y16 N) := EntOK.vars (E_Y16_Tok N) Try.func87 (by kernel_rfl) (by kernel_rfl) (all_cons (Z94_ok N) (all_nil))
theorem E_Z87_Tok (N : Nat) : TabOK Try.prog (E_Z87_T N) := TabOK.cons (E_Z84_ok N) (TabOK.pools)
theorem Z87_ok (N : Nat) : VarOK Try.prog (E_Z87_T N) Try.f88 (codeOf Try.f88) (Z87_W (Z87 N)) :=
  VarOK.of (E_Z87_Tok N) (by kernel_rfl) pn (Z87_F (@Z87_l0 N)) N (fun _ => LStep.pick (all_cons ⟨.inl fun _ _ _ => rfl, fun n t u K => Z87_v0_0_round N _ _ _ n t u K⟩ (all_nil)) (LStep.none)) fun t u K => Z87_body N _ _ _ t u K
theorem E_Z87_ok (N : Nat) : EntOK Try.prog 88 (E_Z87 N) := EntOK.vars (E_Z87_Tok N) Try.func88 (by kernel_rfl) (by kernel_rfl) (all_cons (Z87_ok N) (all_nil))
theorem E_Z86_Tok (N : Nat) : TabOK Try.prog (E_Z86_T N) := TabOK.cons (E_Z87_ok N) (TabOK.cons (E_Y16_ok N) (TabOK.cons (E_Z84_ok N) (TabOK.pools)))
theorem Z86_ok (N : Nat) : VarOK Try.prog (E_Z86_T N) Try.f43 (codeOf Try.f43) (Z86_W (Z86 N)) :=
  VarOK.of (E_Z86_Tok N) (by kernel_rfl) pn (Z86_F (@Z86_l0 N)) N (fun _ => LStep.pick (all_cons ⟨.inl fun _ _ _ => rfl, fun n t u K => Z86_v0_0_round N _ _ _ _ _ n t u K⟩ (all_nil)) (LStep.none)) fun t u K => Z86_body N _ _ _ _ _ t u K
theorem E_Z86_ok (N : Nat) : EntOK Try.prog 43 (E_Z86 N) := EntOK.vars (E_Z86_Tok N) Try.func43 (by kernel_rfl) (by kernel_rfl) (all_cons (Z86_ok N) (all_nil))
theorem E_Z85_Tok (N : Nat) : TabOK Try.prog (E_Z85_T N) := TabOK.cons (E_Z86_ok N) (TabOK.pools)
theorem Z85_ok (N : Nat) : VarOK Try.prog (E_Z85_T N) Try.f10 (codeOf Try.f10) (Z85_W (Z85 N)) :=
  VarOK.of (E_Z85_Tok N) (by kernel_rfl) pn (Z85_F (@Z85_l0 N) (@Z85_l1 N)) N (fun _ => LStep.pick (all_cons ⟨.inl fun _ _ _ => rfl, fun n t u K => Z85_v0_0_round N _ _ _ _ n t u K⟩ (all_nil)) (LStep.pick (all_cons ⟨.inl fun _ _ _ => rfl, fun n t u K => Z85_v1_0_round N _ _ _ _ n t u K⟩ (all_nil)) (LStep.none))) fun t u K => Z85_body N _ _ _ _ t u K
theorem E_Z85_ok (N : Nat) : EntOK Try.prog 10 (E_Z85 N) := EntOK.vars (E_Z85_Tok N) Try.func10 (by kernel_rfl) (by kernel_rfl) (all_cons (Z85_ok N) (all_nil))
theorem E_Y7_Tok (N : Nat) : TabOK Try.prog (E_Y7_T N) := TabOK.cons (E_Z85_ok N) (TabOK.cons (E_Y4_ok N) (TabOK.cons (E_Y8_ok N) (TabOK.cons (E_Y20_ok N) (TabOK.pools))))
theorem Z41_ok (N : Nat) : VarOK Try.prog (E_Y7_T N) Try.f14 (codeOf Try.f14) (Z41_W (Z41 N)) :=
  VarOK.of (E_Y7_Tok N) (by kernel_rfl) ⟨[], [], [1]⟩ (Z41_F (@Z41_l0 N)) N (fun _ => LStep.pick (all_cons ⟨.inl fun _ _ _ => rfl, fun n t u K => Z41_v0_0_round N _ _ _ _ _ _ _ _ n t u K⟩ (all_nil)) (LStep.none)) fun t u K => Z41_body N _ _ _ _ _ _ _ _ t u K
theorem E_Y7_ok (N : Nat) : EntOK Try.prog 14 (E_Y7 N) := EntOK.vars (E_Y7_Tok N) Try.func14 (by kernel_rfl) (by kernel_rfl) (all_cons (Z41_ok N) (all_nil))
theorem E_Z3_Tok (N : Nat) : TabOK Try.prog (E_Z3_T N) := TabOK.cons (E_Z23_ok N) (TabOK.pools)
theorem Z3_ok (N : Nat) : VarOK Try.prog (E_Z3_T N) Try.f18 (codeOf Try.f18) (Z3_W (Z3 N)) :=
  VarOK.of (E_Z3_Tok N) (by kernel_rfl) pn (Z3_F) N (fun _ => LStep.none) fun t u K => Z3_body N _ _ _ t u K
theorem Z4_ok (N : Nat) : VarOK Try.prog (E_Z3_T N) Try.f18 (codeOf Try.f18) (Z4_W (Z4 N)) :=
  VarOK.of (E_Z3_Tok N) (by kernel_rfl) ⟨[], [], [4]⟩ (Z4_F) N (fun _ => LStep.none) fun t u K => Z4_body N _ _ _ t u K
theorem E_Z3_ok (N : Nat) : EntOK Try.prog 18 (E_Z3 N) := EntOK.vars (E_Z3_Tok N) Try.func18 (by kernel_rfl) (by kernel_rfl) (all_cons (Z3_ok N) (all_cons (Z4_ok N) (all_nil)))
theorem E_Z81_Tok (N : Nat) : TabOK Try.prog (E_Z81_T N) := TabOK.pools
theorem Z81_ok (N : Nat) : VarOK Try.prog (E_Z81_T N) Try.f74 (codeOf Try.f74) (Z81_W (Z81 N)) :=
  VarOK.of (E_Z81_Tok N) (by kernel_rfl) pn (Z81_F) N (fun _ => LStep.none) fun t u K => Z81_body N _ t u K
theorem Z82_ok (N : Nat) : VarOK Try.prog (E_Z81_T N) Try.f74 (codeOf Try.f74) (Z82_W (Z82 N)) :=
  VarOK.of (E_Z81_Tok N) (by kernel_rfl) ⟨[], [], [2, 3, 4]⟩ (Z82_F) N (fun _ => LStep.none) fun t u K => Z82_body N _ t u K
theorem Z83_ok (N : Nat) : VarOK Try.prog (E_Z81_T N) Try.f74 (codeOf Try.f74) (Z83_W (Z83 N)) :=
  VarOK.of (E_Z81_Tok N) (by kernel_rfl) ⟨[], [], [2, 3, 4]⟩ (Z83_F) N (fun _ => LStep.none) fun t u K => Z83_body N _ t u K
theorem E_Z81_ok (N : Nat) : EntOK Try.prog 74 (E_Z81 N) := EntOK.vars (E_Z81_Tok N) Try.func74 (by kernel_rfl) (by kernel_rfl) (all_cons (Z81_ok N) (all_cons (Z82_ok N) (all_cons (Z83_ok N) (all_nil))))
theorem E_Z49_Tok (N : Nat) : TabOK Try.prog (E_Z49_T N) := TabOK.cons (E_Z81_ok N) (TabOK.pools)
theorem Z49_ok (N : Nat) : VarOK Try.prog (E_Z49_T N) Try.f46 (codeOf Try.f46) (Z49_W (Z49 N)) :=
  VarOK.of (E_Z49_Tok N) (by kernel_rfl) pn (Z49_F) N (fun _ => LStep.none) fun t u K => Z49_body N _ _ _ _ t u K
theorem Z50_ok (N : Nat) : VarOK Try.prog (E_Z49_T N) Try.f46 (codeOf Try.f46) (Z50_W (Z50 N)) :=
  VarOK.of (E_Z49_Tok N) (by kernel_rfl) ⟨[], [], [2, 3, 4]⟩ (Z50_F) N (fun _ => LStep.none) fun t u K => Z50_body N _ _ _ _ t u K
theorem Z51_ok (N : Nat) : VarOK Try.prog (E_Z49_T N) Try.f46 (codeOf Try.f46) (Z51_W (Z51 N)) :=
  VarOK.of (E_Z49_Tok N) (by kernel_rfl) ⟨[], [], [2, 3, 4]⟩ (Z51_F) N (fun _ => LStep.none) fun t u K => Z51_body N _ _ _ _ t u K
theorem E_Z49_ok (N : Nat) : EntOK Try.prog 46 (E_Z49 N) := EntOK.vars (E_Z49_Tok N) Try.func46 (by kernel_rfl) (by kernel_rfl) (all_cons (Z49_ok N) (all_cons (Z50_ok N) (all_cons (Z51_ok N) (all_nil))))
theorem E_Z58_Tok (N : Nat) : TabOK Try.prog (E_Z58_T N) := TabOK.cons (E_Z81_ok N) (TabOK.pools)
theorem Z58_ok (N : Nat) : VarOK Try.prog (E_Z58_T N) Try.f32 (codeOf Try.f32) (Z58_W (Z58 N)) :=
  VarOK.of (E_Z58_Tok N) (by kernel_rfl) pn (Z58_F) N (fun _ => LStep.none) fun t u K => Z58_body N _ _ _ _ t u K
theorem Z59_ok (N : Nat) : VarOK Try.prog (E_Z58_T N) Try.f32 (codeOf Try.f32) (Z59_W (Z59 N)) :=
  VarOK.of (E_Z58_Tok N) (by kernel_rfl) ⟨[], [], [2, 3, 4]⟩ (Z59_F) N (fun _ => LStep.none) fun t u K => Z59_body N _ _ _ _ t u K
theorem Z60_ok (N : Nat) : VarOK Try.prog (E_Z58_T N) Try.f32 (codeOf Try.f32) (Z60_W (Z60 N)) :=
  VarOK.of (E_Z58_Tok N) (by kernel_rfl) ⟨[], [(0, false, (.int .u8))], [2, 3, 4]⟩ (Z60_F) N (fun _ => LStep.none) fun t u K => Z60_body N _ _ _ _ t u K
theorem E_Z58_ok (N : Nat) : EntOK Try.prog 32 (E_Z58 N) := EntOK.vars (E_Z58_Tok N) Try.func32 (by kernel_rfl) (by kernel_rfl) (all_cons (Z58_ok N) (all_cons (Z59_ok N) (all_cons (Z60_ok N) (all_nil))))
theorem E_Z73_Tok (N : Nat) : TabOK Try.prog (E_Z73_T N) := TabOK.cons (E_Z81_ok N) (TabOK.pools)
theorem Z73_ok (N : Nat) : VarOK Try.prog (E_Z73_T N) Try.f31 (codeOf Try.f31) (Z73_W (Z73 N)) :=
  VarOK.of (E_Z73_Tok N) (by kernel_rfl) pn (Z73_F) N (fun _ => LStep.none) fun t u K => Z73_body N _ _ _ _ t u K
theorem Z77_ok (N : Nat) : VarOK Try.prog (E_Z73_T N) Try.f31 (codeOf Try.f31) (Z77_W (Z77 N)) :=
  VarOK.of (E_Z73_Tok N) (by kernel_rfl) ⟨[], [], [0]⟩ (Z77_F) N (fun _ => LStep.none) fun t u K => Z77_body N _ _ _ _ t u K
theorem Z76_ok (N : Nat) : VarOK Try.prog (E_Z73_T N) Try.f31 (codeOf Try.f31) (Z76_W (Z76 N)) :=
  VarOK.of (E_Z73_Tok N) (by kernel_rfl) ⟨[], [], [2, 3, 4]⟩ (Z76_F) N (fun _ => LStep.none) fun t u K => Z76_body N _ _ _ _ t u K
theorem Z75_ok (N : Nat) : VarOK Try.prog (E_Z73_T N) Try.f31 (codeOf Try.f31) (Z75_W (Z75 N)) :=
  VarOK.of (E_Z73_Tok N) (by kernel_rfl) ⟨[], [], [2, 3, 4, 5]⟩ (Z75_F) N (fun _ => LStep.none) fun t u K => Z75_body N _ _ _ _ t u K
theorem Z78_ok (N : Nat) : VarOK Try.prog (E_Z73_T N) Try.f31 (codeOf Try.f31) (Z78_W (Z78 N)) :=
  VarOK.of (E_Z73_Tok N) (by kernel_rfl) ⟨[], [], [2, 3, 4, 6]⟩ (Z78_F (@Z78_l0 N)) N (fun _ => LStep.pick (all_cons ⟨.inl fun _ _ _ => rfl, fun n t u K => Z78_v0_0_round N _ _ _ _ _ n t u K⟩ (all_nil)) (LStep.none)) fun t u K => Z78_body N _ _ _ _ _ t u K
theorem Z74_ok (N : Nat) : VarOK Try.prog (E_Z73_T N) Try.f31 (codeOf Try.f31) (Z74_W (Z74 N)) :=
  VarOK.of (E_Z73_Tok N) (by kernel_rfl) ⟨[], [], [2, 3, 4]⟩ (Z74_F (@Z74_l0 N)) N (fun _ => LStep.pick (all_cons ⟨.inl fun _ _ _ => rfl, fun n t u K => Z74_v0_0_round N _ _ _ _ _ n t u K⟩ (all_nil)) (LStep.none)) fun t u K => Z74_body N _ _ _ _ _ t u K
theorem E_Z73_ok (N : Nat) : EntOK Try.prog 31 (E_Z73 N) := EntOK.vars (E_Z73_Tok N) Try.func31 (by kernel_rfl) (by kernel_rfl) (all_cons (Z73_ok N) (all_cons (Z77_ok N) (all_cons (Z76_ok N) (all_cons (Z75_ok N) (all_cons (Z78_ok N) (all_cons (Z74_ok N) (all_nil)))))))
theorem E_Z13_Tok (N : Nat) : TabOK Try.prog (E_Z13_T N) := TabOK.cons (E_Z23_ok N) (TabOK.pools)
theorem Z13_ok (N : Nat) : VarOK Try.prog (E_Z13_T N) Try.f22 (codeOf Try.f22) (Z13_W (Z13 N)) :=
  VarOK.of (E_Z13_Tok N) (by kernel_rfl) pn (Z13_F) N (fun _ => LStep.none) fun t u K => Z13_body N _ _ _ t u K
theorem Z14_ok (N : Nat) : VarOK Try.prog (E_Z13_T N) Try.f22 (codeOf Try.f22) (Z14_W (Z14 N)) :=
  VarOK.of (E_Z13_Tok N) (by kernel_rfl) ⟨[], [], [4]⟩ (Z14_F) N (fun _ => LStep.none) fun t u K => Z14_body N _ _ _ t u K
theorem E_Z13_ok (N : Nat) : EntOK Try.prog 22 (E_Z13 N) := EntOK.vars (E_Z13_Tok N) Try.func22 (by kernel_rfl) (by kernel_rfl) (all_cons (Z13_ok N) (all_cons (Z14_ok N) (all_nil)))
theorem E_Z61_Tok (N : Nat) : TabOK Try.prog (E_Z61_T N) := TabOK.cons (E_Z81_ok N) (TabOK.pools)
theorem Z61_ok (N : Nat) : VarOK Try.prog (E_Z61_T N) Try.f47 (codeOf Try.f47) (Z61_W (Z61 N)) :=
  VarOK.of (E_Z61_Tok N) (by kernel_rfl) pn (Z61_F) N (fun _ => LStep.none) fun t u K => Z61_body N _ _ _ _ t u K
theorem Z62_ok (N : Nat) : VarOK Try.prog (E_Z61_T N) Try.f47 (codeOf Try.f47) (Z62_W (Z62 N)) :=
  VarOK.of (E_Z61_Tok N) (by kernel_rfl) ⟨[], [], [2, 3, 4]⟩ (Z62_F) N (fun _ => LStep.none) fun t u K => Z62_body N _ _ _ _ t u K
theorem Z63_ok (N : Nat) : VarOK Try.prog (E_Z61_T N) Try.f47 (codeOf Try.f47) (Z63_W (Z63 N)) :=
  VarOK.of (E_Z61_Tok N) (by kernel_rfl) ⟨[], [], [2, 3, 4]⟩ (Z63_F) N (fun _ => LStep.none) fun t u K => Z63_body N _ _ _ _ t u K
theorem E_Z61_ok (N : Nat) : EntOK Try.prog 47 (E_Z61 N) := EntOK.vars (E_Z61_Tok N) Try.func47 (by kernel_rfl) (by kernel_rfl) (all_cons (Z61_ok N) (all_cons (Z62_ok N) (all_cons (Z63_ok N) (all_nil))))
theorem E_Z64_Tok (N : Nat) : TabOK Try.prog (E_Z64_T N) := TabOK.cons (E_Z81_ok N) (TabOK.pools)
theorem Z64_ok (N : Nat) : VarOK Try.prog (E_Z64_T N) Try.f26 (codeOf Try.f26) (Z64_W (Z64 N)) :=
  VarOK.of (E_Z64_Tok N) (by kernel_rfl) pn (Z64_F) N (fun _ => LStep.none) fun t u K => Z64_body N _ _ _ _ t u K
theorem Z65_ok (N : Nat) : VarOK Try.prog (E_Z64_T N) Try.f26 (codeOf Try.f26) (Z65_W (Z65 N)) :=
  VarOK.of (E_Z64_Tok N) (by kernel_rfl) ⟨[], [], [2, 3, 4]⟩ (Z65_F) N (fun _ => LStep.none) fun t u K => Z65_body N _ _ _ _ t u K
theorem Z66_ok (N : Nat) : VarOK Try.prog (E_Z64_T N) Try.f26 (codeOf Try.f26) (Z66_W (Z66 N)) :=
  VarOK.of (E_Z64_Tok N) (by kernel_rfl) ⟨[], [], [2, 3, 4]⟩ (Z66_F) N (fun _ => LStep.none) fun t u K => Z66_body N _ _ _ _ t u K
theorem E_Z64_ok (N : Nat) : EntOK Try.prog 26 (E_Z64 N) := EntOK.vars (E_Z64_Tok N) Try.func26 (by kernel_rfl) (by kernel_rfl) (all_cons (Z64_ok N) (all_cons (Z65_ok N) (all_cons (Z66_ok N) (all_nil))))
theorem E_Z67_Tok (N : Nat) : TabOK Try.prog (E_Z67_T N) := TabOK.cons (E_Z81_ok N) (TabOK.pools)
theorem Z67_ok (N : Nat) : VarOK Try.prog (E_Z67_T N) Try.f49 (codeOf Try.f49) (Z67_W (Z67 N)) :=
  VarOK.of (E_Z67_Tok N) (by kernel_rfl) pn (Z67_F) N (fun _ => LStep.none) fun t u K => Z67_body N _ _ _ _ t u K
theorem Z68_ok (N : Nat) : VarOK Try.prog (E_Z67_T N) Try.f49 (codeOf Try.f49) (Z68_W (Z68 N)) :=
  VarOK.of (E_Z67_Tok N) (by kernel_rfl) ⟨[], [], [2, 3, 4]⟩ (Z68_F) N (fun _ => LStep.none) fun t u K => Z68_body N _ _ _ _ t u K
theorem Z69_ok (N : Nat) : VarOK Try.prog (E_Z67_T N) Try.f49 (codeOf Try.f49) (Z69_W (Z69 N)) :=
  VarOK.of (E_Z67_Tok N) (by kernel_rfl) ⟨[], [], [2, 3, 4]⟩ (Z69_F) N (fun _ => LStep.none) fun t u K => Z69_body N _ _ _ _ t u K
theorem E_Z67_ok (N : Nat) : EntOK Try.prog 49 (E_Z67 N) := EntOK.vars (E_Z67_Tok N) Try.func49 (by kernel_rfl) (by kernel_rfl) (all_cons (Z67_ok N) (all_cons (Z68_ok N) (all_cons (Z69_ok N) (all_nil))))
theorem E_Z19_Tok (N : Nat) : TabOK Try.prog (E_Z19_T N) := TabOK.cons (E_Z23_ok N) (TabOK.cons (E_Y1_ok N) (TabOK.pools))
theorem Z19_ok (N : Nat) : VarOK Try.prog (E_Z19_T N) Try.f60 (codeOf Try.f60) (Z19_W (Z19 N)) :=
  VarOK.of (E_Z19_Tok N) (by kernel_rfl) pn (Z19_F) N (fun _ => LStep.none) fun t u K => Z19_body N _ _ _ _ t u K
theorem Z20_ok (N : Nat) : VarOK Try.prog (E_Z19_T N) Try.f60 (codeOf Try.f60) (Z20_W (Z20 N)) :=
  VarOK.of (E_Z19_Tok N) (by kernel_rfl) ⟨[], [], [4]⟩ (Z20_F) N (fun _ => LStep.none) fun t u K => Z20_body N _ _ _ _ t u K
theorem E_Z19_ok (N : Nat) : EntOK Try.prog 60 (E_Z19 N) := EntOK.vars (E_Z19_Tok N) Try.func60 (by kernel_rfl) (by kernel_rfl) (all_cons (Z19_ok N) (all_cons (Z20_ok N) (all_nil)))
theorem E_Z5_Tok (N : Nat) : TabOK Try.prog (E_Z5_T N) := TabOK.cons E_slices_Clone__term_T_term_T_ok (TabOK.cons (E_Y28_ok N) (TabOK.pools))
theorem Z5_ok (N : Nat) : VarOK Try.prog (E_Z5_T N) Try.f34 (codeOf Try.f34) (Z5_W (Z5 N)) :=
  VarOK.of (E_Z5_Tok N) (by kernel_rfl) pn (Z5_F) N (fun _ => LStep.none) fun t u K => Z5_body N _ _ _ t u K
theorem Z6_ok (N : Nat) : VarOK Try.prog (E_Z5_T N) Try.f34 (codeOf Try.f34) (Z6_W (Z6 N)) :=
  VarOK.of (E_Z5_Tok N) (by kernel_rfl) ⟨[], [(0, false, (.int .i64))], [4]⟩ (Z6_F) N (fun _ => LStep.none) fun t u K => Z6_body N _ _ _ t u K
theorem E_Z5_ok (N : Nat) : EntOK Try.prog 34 (E_Z5 N) := EntOK.vars (E_Z5_Tok N) Try.func34 (by kernel_rfl) (by kernel_rfl) (all_cons (Z5_ok N) (all_cons (Z6_ok N) (all_nil)))
theorem E_Y15_Tok (N : Nat) : TabOK Try.prog (E_Y15_T N) := TabOK.cons (E_Y16_ok N) (TabOK.cons (E_Z87_ok N) (TabOK.pools))
theorem Z93_ok (N : Nat) : VarOK Try.prog (E_Y15_T N) Try.f89 (codeOf Try.f89) (Z93_W (Z93 N)) :=
  VarOK.of (E_Y15_Tok N) (by kernel_rfl) ⟨[], [], [1]⟩ (Z93_F) N (fun _ => LStep.none) fun t u K => Z93_body N _ _ _ t u K
theorem E_Y15_ok (N : Nat) : EntOK Try.prog 89 (E_Y15 N) := EntOK.vars (E_Y15_Tok N) Try.func89 (by kernel_rfl) (by kernel_rfl) (all_cons (Z93_ok N) (all_nil))
theorem E_Y11_Tok (N : Nat) : TabOK Try.prog (E_Y11_T N) := TabOK.cons (E_Y16_ok N) (TabOK.cons (E_Y15_ok N) (TabOK.cons (E_Z84_ok N) (TabOK.pools)))
theorem Z89_ok (N : Nat) : VarOK Try.prog (E_Y11_T N) Try.f80 (codeOf Try.f80) (Z89_W (Z89 N)) :=
  VarOK.of (E_Y11_Tok N) (by kernel_rfl) ⟨[], [], [1]⟩ (Z89_F) N (fun _ => LStep.none) fun t u K => Z89_body N _ _ _ _ t u K
theorem E_Y11_ok (N : Nat) : EntOK Try.prog 80 (E_Y11 N) := EntOK.vars (E_Y11_Tok N) Try.func80 (by kernel_rfl) (by kernel_rfl) (all_cons (Z89_ok N) (all_nil))
theorem E_Z46_Tok (N : Nat) : TabOK Try.prog (E_Z46_T N) := TabOK.cons (E_Y11_ok N) (TabOK.pools)
theorem Z46_ok (N : Nat) : VarOK Try.prog (E_Z46_T N) Try.f35 (codeOf Try.f35) (Z46_W (Z46 N)) :=
  VarOK.of (E_Z46_Tok N) (by kernel_rfl) pn (Z46_F) N (fun _ => LStep.none) fun t u K => Z46_body N _ _ t u K
theorem Z47_ok (N : Nat) : VarOK Try.prog (E_Z46_T N) Try.f35 (codeOf Try.f35) (Z47_W (Z47 N)) :=
  VarOK.of (E_Z46_Tok N) (by kernel_rfl) ⟨[], [(0, true, (.int .u8))], [2, 3, 4]⟩ (Z47_F) N (fun _ => LStep.none) fun t u K => Z47_body N _ _ t u K
theorem Z48_ok (N : Nat) : VarOK Try.prog (E_Z46_T N) Try.f35 (codeOf Try.f35) (Z48_W (Z48 N)) :=
  VarOK.of (E_Z46_Tok N) (by kernel_rfl) ⟨[], [(0, true, (.int .u8))], [2, 3, 4]⟩ (Z48_F) N (fun _ => LStep.none) fun t u K => Z48_body N _ _ t u K
theorem E_Z46_ok (N : Nat) : EntOK Try.prog 35 (E_Z46 N) := EntOK.vars (E_Z46_Tok N) Try.func35 (by kernel_rfl) (by kernel_rfl) (all_cons (Z46_ok N) (all_cons (Z47_ok N) (all_cons (Z48_ok N) (all_nil))))
theorem E_Y9_Tok (N : Nat) : TabOK Try.prog (E_Y9_T N) := TabOK.pools
theorem Z80_ok (N : Nat) : VarOK Try.prog (E_Y9_T N) Try.f90 (codeOf Try.f90) (Z80_W (Z80 N)) :=
  VarOK.of (E_Y9_Tok N) (by kernel_rfl) ⟨[], [], [2, 3, 4]⟩ (Z80_F (@Z80_l0 N)) N (fun _ => LStep.pick (all_cons ⟨.inl fun _ _ _ => rfl, fun n t u K => Z80_v0_0_round N _ _ n t u K⟩ (all_nil)) (LStep.none)) fun t u K => Z80_body N _ _ t u K
theorem Z79_ok (N : Nat) : VarOK Try.prog (E_Y9_T N) Try.f90 (codeOf Try.f90) (Z79_W (Z79 N)) :=
  VarOK.of (E_Y9_Tok N) (by kernel_rfl) ⟨[], [], [2, 3, 4]⟩ (Z79_F (@Z79_l0 N)) N (fun _ => LStep.pick (all_cons ⟨.inl fun _ _ _ => rfl, fun n t u K => Z79_v0_0_round N _ _ n t u K⟩ (all_nil)) (LStep.none)) fun t u K => Z79_body N _ _ t u K
theorem E_Y9_ok (N : Nat) : EntOK Try.prog 90 (E_Y9 N) := EntOK.vars (E_Y9_Tok N) Try.func90 (by kernel_rfl) (by kernel_rfl) (all_cons (Z80_ok N) (all_cons (Z79_ok N) (all_nil)))
theorem E_Z70_Tok (N : Nat) : TabOK Try.prog (E_Z70_T N) := TabOK.cons (E_Z81_ok N) (TabOK.cons (E_Y9_ok N) (TabOK.pools))
theorem Z70_ok (N : Nat) : VarOK Try.prog (E_Z70_T N) Try.f51 (codeOf Try.f51) (Z70_W (Z70 N)) :=
  VarOK.of (E_Z70_Tok N) (by kernel_rfl) pn (Z70_F) N (fun _ => LStep.none) fun t u K => Z70_body N _ _ _ _ _ _ t u K
theorem Z71_ok (N : Nat) : VarOK Try.prog (E_Z70_T N) Try.f51 (codeOf Try.f51) (Z71_W (Z71 N)) :=
  VarOK.of (E_Z70_Tok N) (by kernel_rfl) ⟨[], [], [2, 3, 4]⟩ (Z71_F) N (fun _ => LStep.none) fun t u K => Z71_body N _ _ _ _ _ _ t u K
theorem Z72_ok (N : Nat) : VarOK Try.prog (E_Z70_T N) Try.f51 (codeOf Try.f51) (Z72_W (Z72 N)) :=
  VarOK.of (E_Z70_Tok N) (by kernel_rfl) ⟨[], [], [2, 3, 4]⟩ (Z72_F) N (fun _ => LStep.none) fun t u K => Z72_body N _ _ _ _ _ _ t u K
theorem E_Z70_ok (N : Nat) : EntOK Try.prog 51 (E_Z70 N) := EntOK.vars (E_Z70_Tok N) Try.func51 (by kernel_rfl) (by kernel_rfl) (all_cons (Z70_ok N) (all_cons (Z71_ok N) (all_cons (Z72_ok N) (all_nil))))
theorem E_Y12_Tok (N : Nat) : TabOK Try.prog (E_Y12_T N) := TabOK.cons (E_Y16_ok N) (TabOK.cons (E_Z87_ok N) (TabOK.cons (E_Y15_ok N) (TabOK.cons (E_Z84_ok N) (TabOK.pools))))
theorem Z90_ok (N : Nat) : VarOK Try.prog (E_Y12_T N) Try.f91 (codeOf Try.f91) (Z90_W (Z90 N)) :=
  VarOK.of (E_Y12_Tok N) (by kernel_rfl) ⟨[1], [], [1]⟩ (Z90_F) N (fun _ => LStep.none) fun t u K => Z90_body N _ _ _ _ _ t u K
theorem E_Y12_ok (N : Nat) : EntOK Try.prog 91 (E_Y12 N) := EntOK.vars (E_Y12_Tok N) Try.func91 (by kernel_rfl) (by kernel_rfl) (all_cons (Z90_ok N) (all_nil))
theorem E_Z55_Tok (N : Nat) : TabOK Try.prog (E_Z55_T N) := TabOK.cons (E_Z84_ok N) (TabOK.cons (E_Y12_ok N) (TabOK.cons (E_Y9_ok N) (TabOK.cons (E_Y15_ok N) (TabOK.cons (E_Y11_ok N) (TabOK.pools)))))
theorem Z55_ok (N : Nat) : VarOK Try.prog (E_Z55_T N) Try.f44 (codeOf Try.f44) (Z55_W (Z55 N)) :=
  VarOK.of (E_Z55_Tok N) (by kernel_rfl) pn (Z55_F) N (fun _ => LStep.none) fun t u K => Z55_body N _ _ _ _ _ _ _ t u K
theorem Z56_ok (N : Nat) : VarOK Try.prog (E_Z55_T N) Try.f44 (codeOf Try.f44) (Z56_W (Z56 N)) :=
  VarOK.of (E_Z55_Tok N) (by kernel_rfl) ⟨[2, 3, 4], [], [2, 3, 4]⟩ (Z56_F (@Z56_l0 N)) N (fun _ => LStep.pick (all_cons ⟨.inl fun _ _ _ => rfl, fun n t u K => Z56_v0_0_round N _ _ _ _ _ _ _ _ n t u K⟩ (all_nil)) (LStep.none)) fun t u K => Z56_body N _ _ _ _ _ _ _ _ t u K
theorem Z57_ok (N : Nat) : VarOK Try.prog (E_Z55_T N) Try.f44 (codeOf Try.f44) (Z57_W (Z57 N)) :=
  VarOK.of (E_Z55_Tok N) (by kernel_rfl) ⟨[2, 3, 4], [], [2, 3, 4]⟩ (Z57_F (@Z57_l0 N)) N (fun _ => LStep.pick (all_cons ⟨.inl fun _ _ _ => rfl, fun n t u K => Z57_v0_0_round N _ _ _ _ _ _ _ _ n t u K⟩ (all_nil)) (LStep.none)) fun t u K => Z57_body N _ _ _ _ _ _ _ _ t u K
theorem E_Z55_ok (N : Nat) : EntOK Try.prog 44 (E_Z55 N) := EntOK.vars (E_Z55_Tok N) Try.func44 (by kernel_rfl) (by kernel_rfl) (all_cons (Z55_ok N) (all_cons (Z56_ok N) (all_cons (Z57_ok N) (all_nil))))
theorem E_Y22_Tok (N : Nat) : TabOK Try.prog (E_Y22_T N) := TabOK.pools
theorem Z103_ok (N : Nat) : VarOK Try.prog (E_Y22_T N) Try.f103 (codeOf Try.f103) (Z103_W (Z103 N)) :=
  VarOK.of (E_Y22_Tok N) (by kernel_rfl) ⟨[], [], [1]⟩ (Z103_F) N (fun _ => LStep.none) fun t u K => Z103_body N _ t u K
theorem E_Y22_ok (N : Nat) : EntOK Try.prog 103 (E_Y22 N) := EntOK.vars (E_Y22_Tok N) Try.func103 (by kernel_rfl) (by kernel_rfl) (all_cons (Z103_ok N) (all_nil))
theorem E_Y21_Tok (N : Nat) : TabOK Try.prog (E_Y21_T N) := TabOK.cons (E_Y22_ok N) (TabOK.pools)
theorem Z102_ok (N : Nat) : VarOK Try.prog (E_Y21_T N) Try.f95 (codeOf Try.f95) (Z102_W (Z102 N)) :=
  VarOK.of (E_Y21_Tok N) (by kernel_rfl) ⟨[], [], [1]⟩ (Z102_F) N (fun _ => LStep.none) fun t u K => Z102_body N _ _ t u K
theorem E_Y21_ok (N : Nat) : EntOK Try.prog 95 (E_Y21 N) := EntOK.vars (E_Y21_Tok N) Try.func95 (by kernel_rfl) (by kernel_rfl) (all_cons (Z102_ok N) (all_nil))
theorem E_Y24_Tok (N : Nat) : TabOK Try.prog (E_Y24_T N) := TabOK.cons (E_Y22_ok N) (TabOK.pools)
theorem Z105_ok (N : Nat) : VarOK Try.prog (E_Y24_T N) Try.f78 (codeOf Try.f78) (Z105_W (Z105 N)) :=
  VarOK.of (E_Y24_Tok N) (by kernel_rfl) ⟨[], [], [1]⟩ (Z105_F) N (fun _ => LStep.none) fun t u K => Z105_body N _ _ t u K
theorem E_Y24_ok (N : Nat) : EntOK Try.prog 78 (E_Y24 N) := EntOK.vars (E_Y24_Tok N) Try.func78 (by kernel_rfl) (by kernel_rfl) (all_cons (Z105_ok N) (all_nil))
theorem E_Y5_Tok (N : Nat) : TabOK Try.prog (E_Y5_T N) := TabOK.cons (E_Y24_ok N) (TabOK.cons (E_Y21_ok N) (TabOK.pools))
theorem Z34_ok (N : Nat) : VarOK Try.prog (E_Y5_T N) Try.f59 (codeOf Try.f59) (Z34_W (Z34 N)) :=
  VarOK.of (E_Y5_Tok N) (by kernel_rfl) ⟨[], [], [1]⟩ (Z34_F (@Z34_l0 N)) N (fun _ => LStep.pick (all_cons ⟨.inl fun _ _ _ => rfl, fun n t u K => Z34_v0_0_round N _ _ _ _ n t u K⟩ (all_nil)) (LStep.none)) fun t u K => Z34_body N _ _ _ _ t u K
theorem Z33_ok (N : Nat) : VarOK Try.prog (E_Y5_T N) Try.f59 (codeOf Try.f59) (Z33_W (Z33 N)) :=
  VarOK.of (E_Y5_Tok N) (by kernel_rfl) ⟨[], [], [1, 4]⟩ (Z33_F (@Z33_l0 N)) N (fun _ => LStep.pick (all_cons ⟨.inl fun _ _ _ => rfl, fun n t u K => Z33_v0_0_round N _ _ _ _ n t u K⟩ (all_nil)) (LStep.none)) fun t u K => Z33_body N _ _ _ _ t u K
theorem E_Y5_ok (N : Nat) : EntOK Try.prog 59 (E_Y5 N) := EntOK.vars (E_Y5_Tok N) Try.func59 (by kernel_rfl) (by kernel_rfl) (all_cons (Z34_ok N) (all_cons (Z33_ok N) (all_nil)))
theorem E_Y3_Tok (N : Nat) : TabOK Try.prog (E_Y3_T N) := TabOK.cons E_slices_Clone__term_T_term_T_ok (TabOK.pools)
theorem Z27_ok (N : Nat) : VarOK Try.prog (E_Y3_T N) Try.f70 (codeOf Try.f70) (Z27_W (Z27 N)) :=
  VarOK.of (E_Y3_Tok N) (by kernel_rfl) ⟨[], [], [4]⟩ (Z27_F (@Z27_l0 N)) N (fun _ => LStep.pick (all_cons ⟨.inl fun _ _ _ => rfl, fun n t u K => Z27_v0_0_round N _ _ _ n t u K⟩ (all_nil)) (LStep.none)) fun t u K => Z27_body N _ _ _ t u K
theorem E_Y3_ok (N : Nat) : EntOK Try.prog 70 (E_Y3 N) := EntOK.vars (E_Y3_Tok N) Try.func70 (by kernel_rfl) (by kernel_rfl) (all_cons (Z27_ok N) (all_nil))
theorem E_Y0_Tok (N : Nat) : TabOK Try.prog (E_Y0_T N) := TabOK.cons (E_Z23_ok N) (TabOK.cons (E_Y3_ok N) (TabOK.pools))
theorem Z21_ok (N : Nat) : VarOK Try.prog (E_Y0_T N) Try.f20 (codeOf Try.f20) (Z21_W (Z21 N)) :=
  VarOK.of (E_Y0_Tok N) (by kernel_rfl) ⟨[], [], [0]⟩ (Z21_F) N (fun _ => LStep.none) fun t u K => Z21_body N _ _ _ _ t u K
theorem Z22_ok (N : Nat) : VarOK Try.prog (E_Y0_T N) Try.f20 (codeOf Try.f20) (Z22_W (Z22 N)) :=
  VarOK.of (E_Y0_Tok N) (by kernel_rfl) ⟨[], [], [4, 5]⟩ (Z22_F) N (fun _ => LStep.none) fun t u K => Z22_body N _ _ _ _ t u K
theorem E_Y0_ok (N : Nat) : EntOK Try.prog 20 (E_Y0 N) := EntOK.vars (E_Y0_Tok N) Try.func20 (by kernel_rfl) (by kernel_rfl) (all_cons (Z21_ok N) (all_cons (Z22_ok N) (all_nil)))
theorem E_Z17_Tok (N : Nat) : TabOK Try.prog (E_Z17_T N) := TabOK.cons (E_Z23_ok N) (TabOK.cons (E_Y3_ok N) (TabOK.pools))
theorem Z17_ok (N : Nat) : VarOK Try.prog (E_Z17_T N) Try.f23 (codeOf Try.f23) (Z17_W (Z17 N)) :=
  VarOK.of (E_Z17_Tok N) (by kernel_rfl) pn (Z17_F) N (fun _ => LStep.none) fun t u K => Z17_body N _ _ _ _ t u K
theorem Z18_ok (N : Nat) : VarOK Try.prog (E_Z17_T N) Try.f23 (codeOf Try.f23) (Z18_W (Z18 N)) :=
  VarOK.of (E_Z17_Tok N) (by kernel_rfl) ⟨[], [], [4]⟩ (Z18_F) N (fun _ => LStep.none) fun t u K => Z18_body N _ _ _ _ t u K
theorem E_Z17_ok (N : Nat) : EntOK Try.prog 23 (E_Z17 N) := EntOK.vars (E_Z17_Tok N) Try.func23 (by kernel_rfl) (by kernel_rfl) (all_cons (Z17_ok N) (all_cons (Z18_ok N) (all_nil)))
theorem E_Y27_Tok (N : Nat) : TabOK Try.prog (E_Y27_T N) := TabOK.cons (E_Z118_ok N) (TabOK.cons E_tree_Tree_many_ok (TabOK.cons (E_Y33_ok N) (TabOK.pools)))
theorem Z111_ok (N : Nat) : VarOK Try.prog (E_Y27_T N) Try.f71 (codeOf Try.f71) (Z111_W (Z111 N)) :=
  VarOK.of (E_Y27_Tok N) (by kernel_rfl) pn (Z111_F) N (fun _ => LStep.none) fun t u K => Z111_body N _ _ _ _ t u K
theorem E_Y27_ok (N : Nat) : EntOK Try.prog 71 (E_Y27 N) := EntOK.vars (E_Y27_Tok N) Try.func71 (by kernel_rfl) (by kernel_rfl) (all_cons (Z111_ok N) (all_nil))
theorem E_Y31_Tok (N : Nat) : TabOK Try.prog (E_Y31_T N) := TabOK.cons (E_Y32_ok N) (TabOK.cons (E_Z118_ok N) (TabOK.cons (E_Y33_ok N) (TabOK.pools)))
theorem Z115_ok (N : Nat) : VarOK Try.prog (E_Y31_T N) Try.f72 (codeOf Try.f72) (Z115_W (Z115 N)) :=
  VarOK.of (E_Y31_Tok N) (by kernel_rfl) pn (Z115_F) N (fun _ => LStep.none) fun t u K => Z115_body N _ _ _ _ t u K
theorem E_Y31_ok (N : Nat) : EntOK Try.prog 72 (E_Y31 N) := EntOK.vars (E_Y31_Tok N) Try.func72 (by kernel_rfl) (by kernel_rfl) (all_cons (Z115_ok N) (all_nil))
theorem E_Y30_Tok (N : Nat) : TabOK Try.prog (E_Y30_T N) := TabOK.cons E_tree_Tree_many_ok (TabOK.cons (E_Y33_ok N) (TabOK.pools))
theorem Z114_ok (N : Nat) : VarOK Try.prog (E_Y30_T N) Try.f73 (codeOf Try.f73) (Z114_W (Z114 N)) :=
  VarOK.of (E_Y30_Tok N) (by kernel_rfl) pn (Z114_F) N (fun _ => LStep.none) fun t u K => Z114_body N _ _ _ t u K
theorem E_Y30_ok (N : Nat) : EntOK Try.prog 73 (E_Y30 N) := EntOK.vars (E_Y30_Tok N) Try.func73 (by kernel_rfl) (by kernel_rfl) (all_cons (Z114_ok N) (all_nil))
theorem E_Z7_Tok (N : Nat) : TabOK Try.prog (E_Z7_T N) := TabOK.cons (E_Y30_ok N) (TabOK.cons (E_Y29_ok N) (TabOK.cons (E_Y31_ok N) (TabOK.cons (E_Y27_ok N) (TabOK.pools))))
theorem Z7_ok (N : Nat) : VarOK Try.prog (E_Z7_T N) Try.f24 (codeOf Try.f24) (Z7_W (Z7 N)) :=
  VarOK.of (E_Z7_Tok N) (by kernel_rfl) pn (Z7_F) N (fun _ => LStep.none) fun t u K => Z7_body N _ _ _ _ _ t u K
theorem Z8_ok (N : Nat) : VarOK Try.prog (E_Z7_T N) Try.f24 (codeOf Try.f24) (Z8_W (Z8 N)) :=
  VarOK.of (E_Z7_Tok N) (by kernel_rfl) ⟨[], [], [4]⟩ (Z8_F) N (fun _ => LStep.none) fun t u K => Z8_body N _ _ _ _ _ t u K
theorem E_Z7_ok (N : Nat) : EntOK Try.prog 24 (E_Z7 N) := EntOK.vars (E_Z7_Tok N) Try.func24 (by kernel_rfl) (by kernel_rfl) (all_cons (Z7_ok N) (all_cons (Z8_ok N) (all_nil)))
theorem E_Y17_Tok (N : Nat) : TabOK Try.prog (E_Y17_T N) := TabOK.cons (E_Z87_ok N) (TabOK.pools)
theorem Z95_ok (N : Nat) : VarOK Try.prog (E_Y17_T N) Try.f109 (codeOf Try.f109) (Z95_W (Z95 N)) :=
  VarOK.of (E_Y17_Tok N) (by kernel_rfl) ⟨[], [], [1]⟩ (Z95_F (@Z95_l0 N)) N (fun _ => LStep.pick (all_cons ⟨.inl fun _ _ _ => rfl, fun n t u K => Z95_v0_0_round N _ _ _ n t u K⟩ (all_nil)) (LStep.none)) fun t u K => Z95_body N _ _ _ t u K
theorem E_Y17_ok (N : Nat) : EntOK Try.prog 109 (E_Y17 N) := EntOK.vars (E_Y17_Tok N) Try.func109 (by kernel_rfl) (by kernel_rfl) (all_cons (Z95_ok N) (all_nil))
theorem E_Y18_Tok (N : Nat) : TabOK Try.prog (E_Y18_T N) := TabOK.pools
theorem Z96_ok (N : Nat) : VarOK Try.prog (E_Y18_T N) Try.f110 (codeOf Try.f110) (Z96_W (Z96 N)) :=
  VarOK.of (E_Y18_Tok N) (by kernel_rfl) ⟨[], [], [1]⟩ (Z96_F) N (fun _ => LStep.none) fun t u K => Z96_body N _ t u K
theorem E_Y18_ok (N : Nat) : EntOK Try.prog 110 (E_Y18 N) := EntOK.vars (E_Y18_Tok N) Try.func110 (by kernel_rfl) (by kernel_rfl) (all_cons (Z96_ok N) (all_nil))
theorem E_Y10_Tok (N : Nat) : TabOK Try.prog (E_Y10_T N) := TabOK.cons (E_Y18_ok N) (TabOK.cons (E_Y16_ok N) (TabOK.cons (E_Y17_ok N) (TabOK.cons (E_Y11_ok N) (TabOK.pools))))
theorem Z88_ok (N : Nat) : VarOK Try.prog (E_Y10_T N) Try.f92 (codeOf Try.f92) (Z88_W (Z88 N)) :=
  VarOK.of (E_Y10_Tok N) (by kernel_rfl) ⟨[], [], [1]⟩ (Z88_F) N (fun _ => LStep.none) fun t u K => Z88_body N _ _ _ _ _ t u K
theorem E_Y10_ok (N : Nat) : EntOK Try.prog 92 (E_Y10 N) := EntOK.vars (E_Y10_Tok N) Try.func92 (by kernel_rfl) (by kernel_rfl) (all_cons (Z88_ok N) (all_nil))
theorem E_Y14_Tok (N : Nat) : TabOK Try.prog (E_Y14_T N) := TabOK.cons (E_Y18_ok N) (TabOK.cons (E_Y16_ok N) (TabOK.cons (E_Y15_ok N) (TabOK.cons (E_Z84_ok N) (TabOK.cons (E_Y11_ok N) (TabOK.pools)))))
theorem Z92_ok (N : Nat) : VarOK Try.prog (E_Y14_T N) Try.f93 (codeOf Try.f93) (Z92_W (Z92 N)) :=
  VarOK.of (E_Y14_Tok N) (by kernel_rfl) ⟨[], [], [1]⟩ (Z92_F) N (fun _ => LStep.none) fun t u K => Z92_body N _ _ _ _ _ _ t u K
theorem E_Y14_ok (N : Nat) : EntOK Try.prog 93 (E_Y14 N) := EntOK.vars (E_Y14_Tok N) Try.func93 (by kernel_rfl) (by kernel_rfl) (all_cons (Z92_ok N) (all_nil))
theorem E_Y13_Tok (N : Nat) : TabOK Try.prog (E_Y13_T N) := TabOK.cons (E_Y17_ok N) (TabOK.cons (E_Y11_ok N) (TabOK.pools))
theorem Z91_ok (N : Nat) : VarOK Try.prog (E_Y13_T N) Try.f94 (codeOf Try.f94) (Z91_W (Z91 N)) :=
  VarOK.of (E_Y13_Tok N) (by kernel_rfl) ⟨[], [], [1]⟩ (Z91_F) N (fun _ => LStep.none) fun t u K => Z91_body N _ _ _ t u K
theorem E_Y13_ok (N : Nat) : EntOK Try.prog 94 (E_Y13 N) := EntOK.vars (E_Y13_Tok N) Try.func94 (by kernel_rfl) (by kernel_rfl) (all_cons (Z91_ok N) (all_nil))
theorem E_Z52_Tok (N : Nat) : TabOK Try.prog (E_Z52_T N) := TabOK.cons (E_Y13_ok N) (TabOK.cons (E_Y12_ok N) (TabOK.cons (E_Y14_ok N) (TabOK.cons (E_Y10_ok N) (TabOK.pools))))
theorem Z52_ok (N : Nat) : VarOK Try.prog (E_Z52_T N) Try.f53 (codeOf Try.f53) (Z52_W (Z52 N)) :=
  VarOK.of (E_Z52_Tok N) (by kernel_rfl) pn (Z52_F) N (fun _ => LStep.none) fun t u K => Z52_body N _ _ _ _ _ t u K
theorem Z54_ok (N : Nat) : VarOK Try.prog (E_Z52_T N) Try.f53 (codeOf Try.f53) (Z54_W (Z54 N)) :=
  VarOK.of (E_Z52_Tok N) (by kernel_rfl) ⟨[2, 3], [], [2, 3, 4]⟩ (Z54_F (@Z54_l0 N)) N (fun _ => LStep.pick (all_cons ⟨.inl fun _ _ _ => rfl, fun n t u K => Z54_v0_0_round N _ _ _ _ _ _ n t u K⟩ (all_nil)) (LStep.none)) fun t u K => Z54_body N _ _ _ _ _ _ t u K
theorem Z53_ok (N : Nat) : VarOK Try.prog (E_Z52_T N) Try.f53 (codeOf Try.f53) (Z53_W (Z53 N)) :=
  VarOK.of (E_Z52_Tok N) (by kernel_rfl) ⟨[2, 3], [], [2, 3, 4]⟩ (Z53_F (@Z53_l0 N)) N (fun _ => LStep.pick (all_cons ⟨.inl fun _ _ _ => rfl, fun n t u K => Z53_v0_0_round N _ _ _ _ _ _ n t u K⟩ (all_nil)) (LStep.none)) fun t u K => Z53_body N _ _ _ _ _ _ t u K
theorem E_Z52_ok (N : Nat) : EntOK Try.prog 53 (E_Z52 N) := EntOK.vars (E_Z52_Tok N) Try.func53 (by kernel_rfl) (by kernel_rfl) (all_cons (Z52_ok N) (all_cons (Z54_ok N) (all_cons (Z53_ok N) (all_nil))))
theorem E_Y6_Tok (N : Nat) : TabOK Try.prog (E_Y6_T N) := TabOK.cons (E_Z46_ok N) (TabOK.cons (E_Z5_ok N) (TabOK.cons (E_Z52_ok N) (TabOK.cons (E_Z7_ok N) (TabOK.cons (E_Z70_ok N) (TabOK.cons (E_Z19_ok N) (TabOK.cons (E_Z67_ok N) (TabOK.cons (E_Z17_ok N) (TabOK.cons (E_Z64_ok N) (TabOK.cons (E_Z15_ok N) (TabOK.cons (E_Z61_ok N) (TabOK.cons (E_Z13_ok N) (TabOK.cons (E_Z73_ok N) (TabOK.cons (E_Y0_ok N) (TabOK.cons (E_Y8_ok N) (TabOK.cons (E_Y5_ok N) (TabOK.cons (E_Z58_ok N) (TabOK.cons (E_Z11_ok N) (TabOK.cons (E_Z49_ok N) (TabOK.cons (E_Z3_ok N) (TabOK.cons (E_Z55_ok N) (TabOK.cons (E_Z9_ok N) (TabOK.pools))))))))))))))))))))))
theorem Z36_ok (N : Nat) : VarOK Try.prog (E_Y6_T N) Try.f15 (codeOf Try.f15) (Z36_W (Z36 N)) :=
  VarOK.of (E_Y6_Tok N) (by kernel_rfl) ⟨[1], [], [1]⟩ (Z36_F) N (fun _ => LStep.none) fun t u K => Z36_body N _ _ _ _ _ _ _ _ _ _ _ _ _ _ _ _ _ _ _ _ _ _ _ _ _ _ _ _ _ _ _ _ _ _ _ _ _ _ _ _ _ _ _ _ _ _ _ _ _ _ _ _ _ _ _ _ _ _ t u K
theorem Z38_ok (N : Nat) : VarOK Try.prog (E_Y6_T N) Try.f15 (codeOf Try.f15) (Z38_W (Z38 N)) :=
  VarOK.of (E_Y6_Tok N) (by kernel_rfl) ⟨[1], [], [1]⟩ (Z38_F) N (fun _ => LStep.none) fun t u K => Z38_body N _ _ _ _ _ _ _ _ _ _ _ _ _ _ _ _ _ _ _ _ _ _ _ _ _ _ _ _ _ _ _ _ _ _ _ _ _ _ _ _ _ _ _ _ _ _ _ _ _ _ _ _ _ _ _ _ _ _ t u K
theorem Z40_ok (N : Nat) : VarOK Try.prog (E_Y6_T N) Try.f15 (codeOf Try.f15) (Z40_W (Z40 N)) :=
  VarOK.of (E_Y6_Tok N) (by kernel_rfl) ⟨[8, 11, 12, 13, 1], [], [1, 8, 11, 12, 13]⟩ (Z40_F) N (fun _ => LStep.none) fun t u K => Z40_body N _ _ _ _ _ _ _ _ _ _ _ _ _ _ _ _ _ _ _ _ _ _ _ _ _ _ _ _ _ _ _ _ _ _ _ _ _ _ _ _ _ _ _ _ _ _ _ _ _ _ _ _ _ _ _ _ _ _ t u K
theorem Z37_ok (N : Nat) : VarOK Try.prog (E_Y6_T N) Try.f15 (codeOf Try.f15) (Z37_W (Z37 N)) :=
  VarOK.of (E_Y6_Tok N) (by kernel_rfl) ⟨[8, 11, 12, 13, 1], [], [1, 8, 11, 12, 13]⟩ (Z37_F) N (fun _ => LStep.none) fun t u K => Z37_body N _ _ _ _ _ _ _ _ _ _ _ _ _ _ _ _ _ _ _ _ _ _ _ _ _ _ _ _ _ _ _ _ _ _ _ _ _ _ _ _ _ _ _ _ _ _ _ _ _ _ _ _ _ _ _ _ _ _ t u K
theorem Z35_ok (N : Nat) : VarOK Try.prog (E_Y6_T N) Try.f15 (codeOf Try.f15) (Z35_W (Z35 N)) :=
  VarOK.of (E_Y6_Tok N) (by kernel_rfl) ⟨[8, 11, 12, 13, 1], [], [1, 8, 11, 12, 13]⟩ (Z35_F) N (fun _ => LStep.none) fun t u K => Z35_body N _ _ _ _ _ _ _ _ _ _ _ _ _ _ _ _ _ _ _ _ _ _ _ _ _ _ _ _ _ _ _ _ _ _ _ _ _ _ _ _ _ _ _ _ _ _ _ _ _ _ _ _ _ _ _ _ _ _ t u K
theorem Z39_ok (N : Nat) : VarOK Try.prog (E_Y6_T N) Try.f15 (codeOf Try.f15) (Z39_W (Z39 N)) :=
  VarOK.of (E_Y6_Tok N) (by kernel_rfl) ⟨[8, 11, 12, 13, 1], [], [1, 8, 11, 12, 13]⟩ (Z39_F) N (fun _ => LStep.none) fun t u K => Z39_body N _ _ _ _ _ _ _ _ _ _ _ _ _ _ _ _ _ _ _ _ _ _ _ _ _ _ _ _ _ _ _ _ _ _ _ _ _ _ _ _ _ _ _ _ _ _ _ _ _ _ _ _ _ _ _ _ _ _ t u K
theorem E_Y6_ok (N : Nat) : EntOK Try.prog 15 (E_Y6 N) := EntOK.vars (E_Y6_Tok N) Try.func15 (by kernel_rfl) (by kernel_rfl) (all_cons (Z36_ok N) (all_cons (Z38_ok N) (all_cons (Z40_ok N) (all_cons (Z37_ok N) (all_cons (Z35_ok N) (all_cons (Z39_ok N) (all_nil)))))))
theorem E_Z31_Tok (N : Nat) : TabOK Try.prog (E_Z31_T N) := TabOK.cons (E_Y6_ok N) (TabOK.cons (E_Y7_ok N) (TabOK.cons (E_Z107_ok N) (TabOK.cons (E_Z30_ok N) (TabOK.cons (E_Z32_ok N) (TabOK.pools)))))
theorem Z31_ok (N : Nat) : VarOK Try.prog (E_Z31_T N) Try.f4 (codeOf Try.f4) (Z31_W (Z31 N)) :=
  VarOK.of (E_Z31_Tok N) (by kernel_rfl) pn (Z31_F (@Z31_l0 N)) N (fun _ => LStep.pick (all_cons ⟨.inl fun _ _ _ => rfl, fun n t u K => Z31_v0_0_round N _ _ _ _ _ _ _ _ _ _ _ _ n t u K⟩ (all_cons ⟨.inl fun _ _ _ => rfl, fun n t u K => Z31_v0_1_round N _ _ _ _ _ _ _ _ _ _ _ _ n t u K⟩ (all_cons ⟨.inl fun _ _ _ => rfl, fun n t u K => Z31_v0_2_round N _ _ _ _ _ _ _ _ _ _ _ _ n t u K⟩ (all_nil)))) (LStep.none)) fun t u K => Z31_body N _ _ _ _ _ _ _ _ _ _ _ _ t u K
theorem E_Z31_ok (N : Nat) : EntOK Try.prog 4 (E_Z31 N) := EntOK.vars (E_Z31_Tok N) Try.func4 (by kernel_rfl) (by kernel_rfl) (all_cons (Z31_ok N) (all_nil))
end
end Go.Proofs.Ytdopealphpmaeaa
