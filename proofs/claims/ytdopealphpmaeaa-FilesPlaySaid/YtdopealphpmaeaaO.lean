/-
  Each entry is borne out (printed by a program of this work).
-/
import Derived.Test.YtdopealphpmaeaaX
import Derived.Test.YtdopealphpmaeaaQ0
import Derived.Test.YtdopealphpmaeaaQ1
import Derived.Test.YtdopealphpmaeaaQ2
import Derived.Test.YtdopealphpmaeaaQ3
set_option linter.unusedVariables false
set_option maxRecDepth 100000
namespace Go.Proofs.Ytdopealphpmaeaa
open Go.Gx
theorem E_Z75_Tok (N : Nat) : TabOK Try.prog (E_Z75_T N) := TabOK.cons E_stringslite_IndexByte_ok (TabOK.pools)
theorem Z75_ok (N : Nat) : VarOK Try.prog (E_Z75_T N) Try.f121 (codeOf Try.f121) (Z75_W (Z75 N)) :=
  VarOK.of (E_Z75_Tok N) (by kernel_rfl) pn (Z75_F) N (fun _ => LStep.none) fun t u K => Z75_body N _ _ t u K
theorem E_Z75_ok (N : Nat) : EntOK Try.prog 121 (E_Z75 N) := EntOK.vars (E_Z75_Tok N) Try.func121 (by kernel_rfl) (by kernel_rfl) (all_cons (Z75_ok N) (all_nil))
theorem E_Z74_Tok (N : Nat) : TabOK Try.prog (E_Z74_T N) := TabOK.cons (E_Z75_ok N) (TabOK.pools)
theorem Z74_ok (N : Nat) : VarOK Try.prog (E_Z74_T N) Try.f116 (codeOf Try.f116) (Z74_W (Z74 N)) :=
  VarOK.of (E_Z74_Tok N) (by kernel_rfl) pn (Z74_F) N (fun _ => LStep.none) fun t u K => Z74_body N _ _ t u K
theorem E_Z74_ok (N : Nat) : EntOK Try.prog 116 (E_Z74 N) := EntOK.vars (E_Z74_Tok N) Try.func116 (by kernel_rfl) (by kernel_rfl) (all_cons (Z74_ok N) (all_nil))
theorem E_Z73_Tok (N : Nat) : TabOK Try.prog (E_Z73_T N) := TabOK.cons (E_Z74_ok N) (TabOK.pools)
theorem Z73_ok (N : Nat) : VarOK Try.prog (E_Z73_T N) Try.f113 (codeOf Try.f113) (Z73_W (Z73 N)) :=
  VarOK.of (E_Z73_Tok N) (by kernel_rfl) pn (Z73_F) N (fun _ => LStep.none) fun t u K => Z73_body N _ _ t u K
theorem E_Z73_ok (N : Nat) : EntOK Try.prog 113 (E_Z73 N) := EntOK.vars (E_Z73_Tok N) Try.func113 (by kernel_rfl) (by kernel_rfl) (all_cons (Z73_ok N) (all_nil))
theorem E_Z1_Tok (N : Nat) : TabOK Try.prog (E_Z1_T N) := TabOK.pools
theorem Z1_ok (N : Nat) : VarOK Try.prog (E_Z1_T N) Try.f117 (codeOf Try.f117) (Z1_W (Z1 N)) :=
  VarOK.of (E_Z1_Tok N) (by kernel_rfl) pn (Z1_F) N (fun _ => LStep.none) fun t u K => Z1_body N _ t u K
theorem E_Z1_ok (N : Nat) : EntOK Try.prog 117 (E_Z1 N) := EntOK.vars (E_Z1_Tok N) Try.func117 (by kernel_rfl) (by kernel_rfl) (all_cons (Z1_ok N) (all_nil))
theorem E_Z2_Tok (N : Nat) : TabOK Try.prog (E_Z2_T N) := TabOK.cons (E_Z1_ok N) (TabOK.pools)
theorem Z2_ok (N : Nat) : VarOK Try.prog (E_Z2_T N) Try.f114 (codeOf Try.f114) (Z2_W (Z2 N)) :=
  VarOK.of (E_Z2_Tok N) (by kernel_rfl) pn (Z2_F (@Z2_l0 N)) N (fun _ => LStep.pick (all_cons ⟨.inl fun _ _ _ => rfl, fun n t u K => Z2_v0_0_round N _ _ _ n t u K⟩ (all_nil)) (LStep.none)) fun t u K => Z2_body N _ _ _ t u K
theorem E_Z2_ok (N : Nat) : EntOK Try.prog 114 (E_Z2 N) := EntOK.vars (E_Z2_Tok N) Try.func114 (by kernel_rfl) (by kernel_rfl) (all_cons (Z2_ok N) (all_nil))
theorem E_Z0_Tok (N : Nat) : TabOK Try.prog (E_Z0_T N) := TabOK.cons (E_Z2_ok N) (TabOK.cons (E_Z73_ok N) (TabOK.pools))
theorem Z0_ok (N : Nat) : VarOK Try.prog (E_Z0_T N) Try.f108 (codeOf Try.f108) (Z0_W (Z0 N)) :=
  VarOK.of (E_Z0_Tok N) (by kernel_rfl) pn (Z0_F) N (fun _ => LStep.none) fun t u K => Z0_body N _ _ _ t u K
theorem E_Z0_ok (N : Nat) : EntOK Try.prog 108 (E_Z0 N) := EntOK.vars (E_Z0_Tok N) Try.func108 (by kernel_rfl) (by kernel_rfl) (all_cons (Z0_ok N) (all_nil))
theorem E_Z31_Tok (N : Nat) : TabOK Try.prog (E_Z31_T N) := TabOK.cons (E_Z0_ok N) (TabOK.pools)
theorem Z31_ok (N : Nat) : VarOK Try.prog (E_Z31_T N) Try.f85 (codeOf Try.f85) (Z31_W (Z31 N)) :=
  VarOK.of (E_Z31_Tok N) (by kernel_rfl) pn (Z31_F) N (fun _ => LStep.none) fun t u K => Z31_body N _ _ t u K
theorem E_Z31_ok (N : Nat) : EntOK Try.prog 85 (E_Z31 N) := EntOK.vars (E_Z31_Tok N) Try.func85 (by kernel_rfl) (by kernel_rfl) (all_cons (Z31_ok N) (all_nil))
theorem E_Z32_Tok (N : Nat) : TabOK Try.prog (E_Z32_T N) := TabOK.cons (E_Z73_ok N) (TabOK.cons (E_Z31_ok N) (TabOK.pools))
theorem Z32_ok (N : Nat) : VarOK Try.prog (E_Z32_T N) Try.f111 (codeOf Try.f111) (Z32_W (Z32 N)) :=
  VarOK.of (E_Z32_Tok N) (by kernel_rfl) pn (Z32_F) N (fun _ => LStep.none) fun t u K => Z32_body N _ _ _ t u K
theorem E_Z32_ok (N : Nat) : EntOK Try.prog 111 (E_Z32 N) := EntOK.vars (E_Z32_Tok N) Try.func111 (by kernel_rfl) (by kernel_rfl) (all_cons (Z32_ok N) (all_nil))
theorem E_Z86_Tok (N : Nat) : TabOK Try.prog (E_Z86_T N) := TabOK.cons (E_Z32_ok N) (TabOK.pools)
theorem Z86_ok (N : Nat) : VarOK Try.prog (E_Z86_T N) Try.f100 (codeOf Try.f100) (Z86_W (Z86 N)) :=
  VarOK.of (E_Z86_Tok N) (by kernel_rfl) pn (Z86_F) N (fun _ => LStep.none) fun t u K => Z86_body N _ _ t u K
theorem E_Z86_ok (N : Nat) : EntOK Try.prog 100 (E_Z86 N) := EntOK.vars (E_Z86_Tok N) Try.func100 (by kernel_rfl) (by kernel_rfl) (all_cons (Z86_ok N) (all_nil))
theorem E_tree_Tree_above_Tok (N : Nat) : TabOK Try.prog (E_tree_Tree_above_T N) := TabOK.pools
theorem Z84_ok (N : Nat) : VarOK Try.prog (E_tree_Tree_above_T N) Try.f101 (codeOf Try.f101) (Z84_W (Z84 N)) :=
  VarOK.of (E_tree_Tree_above_Tok N) (by kernel_rfl) pn (Z84_F) N (fun _ => LStep.none) fun t u K => Z84_body N _ t u K
theorem E_tree_Tree_above_ok (N : Nat) : EntOK Try.prog 101 (E_tree_Tree_above N) := EntOK.vars (E_tree_Tree_above_Tok N) Try.func101 (by kernel_rfl) (by kernel_rfl) (all_cons (Z84_ok N) (all_nil))
theorem E_tree_Tree_get_Tok (N : Nat) : TabOK Try.prog (E_tree_Tree_get_T N) := TabOK.cons (E_tree_Tree_above_ok N) (TabOK.cons (E_Z86_ok N) (TabOK.pools))
theorem Z85_ok (N : Nat) : VarOK Try.prog (E_tree_Tree_get_T N) Try.f98 (codeOf Try.f98) (Z85_W (Z85 N)) :=
  VarOK.of (E_tree_Tree_get_Tok N) (by kernel_rfl) pn (Z85_F) N (fun _ => LStep.none) fun t u K => Z85_body N _ _ _ t u K
theorem E_tree_Tree_get_ok (N : Nat) : EntOK Try.prog 98 (E_tree_Tree_get N) := EntOK.vars (E_tree_Tree_get_Tok N) Try.func98 (by kernel_rfl) (by kernel_rfl) (all_cons (Z85_ok N) (all_nil))
theorem E_tree_Tree_Find_Tok (N : Nat) : TabOK Try.prog (E_tree_Tree_Find_T N) := TabOK.cons (E_tree_Tree_get_ok N) (TabOK.pools)
theorem Z80_ok (N : Nat) : VarOK Try.prog (E_tree_Tree_Find_T N) Try.f64 (codeOf Try.f64) (Z80_W (Z80 N)) :=
  VarOK.of (E_tree_Tree_Find_Tok N) (by kernel_rfl) pn (Z80_F) N (fun _ => LStep.none) fun t u K => Z80_body N _ _ t u K
theorem E_tree_Tree_Find_ok (N : Nat) : EntOK Try.prog 64 (E_tree_Tree_Find N) := EntOK.vars (E_tree_Tree_Find_Tok N) Try.func64 (by kernel_rfl) (by kernel_rfl) (all_cons (Z80_ok N) (all_nil))
theorem E_slices_Index__int_int_Tok (N : Nat) : TabOK Try.prog (E_slices_Index__int_int_T N) := TabOK.pools
theorem Z72_ok (N : Nat) : VarOK Try.prog (E_slices_Index__int_int_T N) Try.f99 (codeOf Try.f99) (Z72_W (Z72 N)) :=
  VarOK.of (E_slices_Index__int_int_Tok N) (by kernel_rfl) ⟨[], [], [4]⟩ (Z72_F (@Z72_l0 N)) N (fun _ => LStep.pick (all_cons ⟨.inl fun _ _ _ => rfl, fun n t u K => Z72_v0_0_round N _ _ n t u K⟩ (all_nil)) (LStep.none)) fun t u K => Z72_body N _ _ t u K
theorem E_slices_Index__int_int_ok (N : Nat) : EntOK Try.prog 99 (E_slices_Index__int_int N) := EntOK.vars (E_slices_Index__int_int_Tok N) Try.func99 (by kernel_rfl) (by kernel_rfl) (all_cons (Z72_ok N) (all_nil))
theorem E_files_Files_free_Tok (N : Nat) : TabOK Try.prog (E_files_Files_free_T N) := TabOK.cons (E_slices_Index__int_int_ok N) (TabOK.pools)
theorem Z19_ok (N : Nat) : VarOK Try.prog (E_files_Files_free_T N) Try.f81 (codeOf Try.f81) (Z19_W (Z19 N)) :=
  VarOK.of (E_files_Files_free_Tok N) (by kernel_rfl) ⟨[], [], [4]⟩ (Z19_F) N (fun _ => LStep.none) fun t u K => Z19_body N _ _ t u K
theorem E_files_Files_free_ok (N : Nat) : EntOK Try.prog 81 (E_files_Files_free N) := EntOK.vars (E_files_Files_free_Tok N) Try.func81 (by kernel_rfl) (by kernel_rfl) (all_cons (Z19_ok N) (all_nil))
theorem E_tree_Tree_Copy_Tok (N : Nat) : TabOK Try.prog (E_tree_Tree_Copy_T N) := TabOK.cons E_maps_Clone_map_tree_keytree_entry_tree_key_tree_entry_ok (TabOK.pools)
theorem Z78_ok (N : Nat) : VarOK Try.prog (E_tree_Tree_Copy_T N) Try.f61 (codeOf Try.f61) (Z78_W (Z78 N)) :=
  VarOK.of (E_tree_Tree_Copy_Tok N) (by kernel_rfl) pn (Z78_F) N (fun _ => LStep.none) fun t u K => Z78_body N _ _ t u K
theorem E_tree_Tree_Copy_ok (N : Nat) : EntOK Try.prog 61 (E_tree_Tree_Copy N) := EntOK.vars (E_tree_Tree_Copy_Tok N) Try.func61 (by kernel_rfl) (by kernel_rfl) (all_cons (Z78_ok N) (all_nil))
theorem E_tree_Tree_Make_Tok (N : Nat) : TabOK Try.prog (E_tree_Tree_Make_T N) := TabOK.cons (E_tree_Tree_above_ok N) (TabOK.cons (E_Z86_ok N) (TabOK.pools))
theorem Z81_ok (N : Nat) : VarOK Try.prog (E_tree_Tree_Make_T N) Try.f67 (codeOf Try.f67) (Z81_W (Z81 N)) :=
  VarOK.of (E_tree_Tree_Make_Tok N) (by kernel_rfl) pn (Z81_F) N (fun _ => LStep.none) fun t u K => Z81_body N _ _ _ t u K
theorem E_tree_Tree_Make_ok (N : Nat) : EntOK Try.prog 67 (E_tree_Tree_Make N) := EntOK.vars (E_tree_Tree_Make_Tok N) Try.func67 (by kernel_rfl) (by kernel_rfl) (all_cons (Z81_ok N) (all_nil))
theorem E_Z76_Tok (N : Nat) : TabOK Try.prog (E_Z76_T N) := TabOK.cons (E_tree_Tree_Make_ok N) (TabOK.cons (E_Z31_ok N) (TabOK.pools))
theorem Z77_ok (N : Nat) : VarOK Try.prog (E_Z76_T N) Try.f41 (codeOf Try.f41) (Z77_W (Z77 N)) :=
  VarOK.of (E_Z76_Tok N) (by kernel_rfl) pn (Z77_F (@Z77_l0 N)) N (fun _ => LStep.pick (all_cons ⟨.inl fun _ _ _ => rfl, fun n t u K => Z77_v0_0_round N _ _ _ _ n t u K⟩ (all_nil)) (LStep.none)) fun t u K => Z77_body N _ _ _ _ t u K
theorem Z76_ok (N : Nat) : VarOK Try.prog (E_Z76_T N) Try.f41 (codeOf Try.f41) (Z76_W (Z76 N)) :=
  VarOK.of (E_Z76_Tok N) (by kernel_rfl) pn (Z76_F (@Z76_l0 N)) N (fun _ => LStep.pick (all_cons ⟨.inl fun _ _ _ => rfl, fun n t u K => Z76_v0_0_round N _ _ _ _ n t u K⟩ (all_nil)) (LStep.none)) fun t u K => Z76_body N _ _ _ _ t u K
theorem E_Z76_ok (N : Nat) : EntOK Try.prog 41 (E_Z76 N) := EntOK.vars (E_Z76_Tok N) Try.func41 (by kernel_rfl) (by kernel_rfl) (all_cons (Z77_ok N) (all_cons (Z76_ok N) (all_nil)))
theorem E_files_Files_may_Tok (N : Nat) : TabOK Try.prog (E_files_Files_may_T N) := TabOK.cons (E_tree_Tree_Make_ok N) (TabOK.cons (E_tree_Tree_Copy_ok N) (TabOK.pools))
theorem Z20_ok (N : Nat) : VarOK Try.prog (E_files_Files_may_T N) Try.f82 (codeOf Try.f82) (Z20_W (Z20 N)) :=
  VarOK.of (E_files_Files_may_Tok N) (by kernel_rfl) ⟨[], [], [4]⟩ (Z20_F) N (fun _ => LStep.none) fun t u K => Z20_body N _ _ _ t u K
theorem E_files_Files_may_ok (N : Nat) : EntOK Try.prog 82 (E_files_Files_may N) := EntOK.vars (E_files_Files_may_Tok N) Try.func82 (by kernel_rfl) (by kernel_rfl) (all_cons (Z20_ok N) (all_nil))
theorem E_files_Files_Open_Tok (N : Nat) : TabOK Try.prog (E_files_Files_Open_T N) := TabOK.cons (E_tree_Tree_Make_ok N) (TabOK.cons (E_files_Files_may_ok N) (TabOK.cons (E_files_Files_free_ok N) (TabOK.cons (E_tree_Tree_Find_ok N) (TabOK.pools))))
theorem Z7_ok (N : Nat) : VarOK Try.prog (E_files_Files_Open_T N) Try.f36 (codeOf Try.f36) (Z7_W (Z7 N)) :=
  VarOK.of (E_files_Files_Open_Tok N) (by kernel_rfl) ⟨[4], [], [4]⟩ (Z7_F) N (fun _ => LStep.none) fun t u K => Z7_body N _ _ _ _ _ t u K
theorem E_files_Files_Open_ok (N : Nat) : EntOK Try.prog 36 (E_files_Files_Open N) := EntOK.vars (E_files_Files_Open_Tok N) Try.func36 (by kernel_rfl) (by kernel_rfl) (all_cons (Z7_ok N) (all_nil))
theorem E_files_Files_file_Tok (N : Nat) : TabOK Try.prog (E_files_Files_file_T N) := TabOK.pools
theorem Z18_ok (N : Nat) : VarOK Try.prog (E_files_Files_file_T N) Try.f83 (codeOf Try.f83) (Z18_W (Z18 N)) :=
  VarOK.of (E_files_Files_file_Tok N) (by kernel_rfl) ⟨[], [], [4]⟩ (Z18_F) N (fun _ => LStep.none) fun t u K => Z18_body N _ t u K
theorem E_files_Files_file_ok (N : Nat) : EntOK Try.prog 83 (E_files_Files_file N) := EntOK.vars (E_files_Files_file_Tok N) Try.func83 (by kernel_rfl) (by kernel_rfl) (all_cons (Z18_ok N) (all_nil))
theorem E_Z21_Tok (N : Nat) : TabOK Try.prog (E_Z21_T N) := TabOK.cons (E_Z76_ok N) (TabOK.cons E_slices_Clone__byte_byte_ok (TabOK.pools))
theorem Z22_ok (N : Nat) : VarOK Try.prog (E_Z21_T N) Try.f9 (codeOf Try.f9) (Z22_W (Z22 N)) :=
  VarOK.of (E_Z21_Tok N) (by kernel_rfl) pn (Z22_F (@Z22_l0 N)) N (fun _ => LStep.pick (all_cons ⟨.inl fun _ _ _ => rfl, fun n t u K => Z22_v0_0_round N _ _ _ _ _ n t u K⟩ (all_nil)) (LStep.none)) fun t u K => Z22_body N _ _ _ _ _ t u K
theorem Z21_ok (N : Nat) : VarOK Try.prog (E_Z21_T N) Try.f9 (codeOf Try.f9) (Z21_W (Z21 N)) :=
  VarOK.of (E_Z21_Tok N) (by kernel_rfl) pn (Z21_F (@Z21_l0 N)) N (fun _ => LStep.pick (all_cons ⟨.inl fun _ _ _ => rfl, fun n t u K => Z21_v0_0_round N _ _ _ _ _ n t u K⟩ (all_nil)) (LStep.none)) fun t u K => Z21_body N _ _ _ _ _ t u K
theorem E_Z21_ok (N : Nat) : EntOK Try.prog 9 (E_Z21 N) := EntOK.vars (E_Z21_Tok N) Try.func9 (by kernel_rfl) (by kernel_rfl) (all_cons (Z22_ok N) (all_cons (Z21_ok N) (all_nil)))
theorem E_Z23_Tok (N : Nat) : TabOK Try.prog (E_Z23_T N) := TabOK.cons E_slices_Clone__byte_byte_ok (TabOK.pools)
theorem Z23_ok (N : Nat) : VarOK Try.prog (E_Z23_T N) Try.f84 (codeOf Try.f84) (Z23_W (Z23 N)) :=
  VarOK.of (E_Z23_Tok N) (by kernel_rfl) pn (Z23_F (@Z23_l0 N)) N (fun _ => LStep.pick (all_cons ⟨.inl fun _ _ _ => rfl, fun n t u K => Z23_v0_0_round N _ _ _ n t u K⟩ (all_nil)) (LStep.none)) fun t u K => Z23_body N _ _ _ t u K
theorem E_Z23_ok (N : Nat) : EntOK Try.prog 84 (E_Z23 N) := EntOK.vars (E_Z23_Tok N) Try.func84 (by kernel_rfl) (by kernel_rfl) (all_cons (Z23_ok N) (all_nil))
theorem E_files_Files_Write_Tok (N : Nat) : TabOK Try.prog (E_files_Files_Write_T N) := TabOK.cons (E_Z23_ok N) (TabOK.cons (E_files_Files_file_ok N) (TabOK.pools))
theorem Z16_ok (N : Nat) : VarOK Try.prog (E_files_Files_Write_T N) Try.f37 (codeOf Try.f37) (Z16_W (Z16 N)) :=
  VarOK.of (E_files_Files_Write_Tok N) (by kernel_rfl) ⟨[], [], [4, 5]⟩ (Z16_F) N (fun _ => LStep.none) fun t u K => Z16_body N _ _ _ t u K
theorem Z17_ok (N : Nat) : VarOK Try.prog (E_files_Files_Write_T N) Try.f37 (codeOf Try.f37) (Z17_W (Z17 N)) :=
  VarOK.of (E_files_Files_Write_Tok N) (by kernel_rfl) ⟨[], [], [4]⟩ (Z17_F) N (fun _ => LStep.none) fun t u K => Z17_body N _ _ _ t u K
theorem E_files_Files_Write_ok (N : Nat) : EntOK Try.prog 37 (E_files_Files_Write N) := EntOK.vars (E_files_Files_Write_Tok N) Try.func37 (by kernel_rfl) (by kernel_rfl) (all_cons (Z16_ok N) (all_cons (Z17_ok N) (all_nil)))
theorem E_files_Files_Seek_Tok (N : Nat) : TabOK Try.prog (E_files_Files_Seek_T N) := TabOK.cons (E_files_Files_file_ok N) (TabOK.pools)
theorem Z11_ok (N : Nat) : VarOK Try.prog (E_files_Files_Seek_T N) Try.f38 (codeOf Try.f38) (Z11_W (Z11 N)) :=
  VarOK.of (E_files_Files_Seek_Tok N) (by kernel_rfl) ⟨[], [], [4]⟩ (Z11_F) N (fun _ => LStep.none) fun t u K => Z11_body N _ _ t u K
theorem E_files_Files_Seek_ok (N : Nat) : EntOK Try.prog 38 (E_files_Files_Seek N) := EntOK.vars (E_files_Files_Seek_Tok N) Try.func38 (by kernel_rfl) (by kernel_rfl) (all_cons (Z11_ok N) (all_nil))
theorem E_files_Files_Read_Tok (N : Nat) : TabOK Try.prog (E_files_Files_Read_T N) := TabOK.cons E_slices_Clone__byte_byte_ok (TabOK.cons (E_files_Files_file_ok N) (TabOK.pools))
theorem Z8_ok (N : Nat) : VarOK Try.prog (E_files_Files_Read_T N) Try.f39 (codeOf Try.f39) (Z8_W (Z8 N)) :=
  VarOK.of (E_files_Files_Read_Tok N) (by kernel_rfl) ⟨[], [(0, false, (.int .u8))], [4]⟩ (Z8_F) N (fun _ => LStep.none) fun t u K => Z8_body N _ _ _ t u K
theorem E_files_Files_Read_ok (N : Nat) : EntOK Try.prog 39 (E_files_Files_Read N) := EntOK.vars (E_files_Files_Read_Tok N) Try.func39 (by kernel_rfl) (by kernel_rfl) (all_cons (Z8_ok N) (all_nil))
theorem E_files_Files_Size_Tok (N : Nat) : TabOK Try.prog (E_files_Files_Size_T N) := TabOK.cons (E_files_Files_file_ok N) (TabOK.pools)
theorem Z12_ok (N : Nat) : VarOK Try.prog (E_files_Files_Size_T N) Try.f40 (codeOf Try.f40) (Z12_W (Z12 N)) :=
  VarOK.of (E_files_Files_Size_Tok N) (by kernel_rfl) ⟨[], [], [4]⟩ (Z12_F) N (fun _ => LStep.none) fun t u K => Z12_body N _ _ t u K
theorem E_files_Files_Size_ok (N : Nat) : EntOK Try.prog 40 (E_files_Files_Size N) := EntOK.vars (E_files_Files_Size_Tok N) Try.func40 (by kernel_rfl) (by kernel_rfl) (all_cons (Z12_ok N) (all_nil))
theorem E_Z26_Tok (N : Nat) : TabOK Try.prog (E_Z26_T N) := TabOK.cons (E_files_Files_Size_ok N) (TabOK.cons (E_files_Files_Read_ok N) (TabOK.cons (E_files_Files_Seek_ok N) (TabOK.cons (E_files_Files_Write_ok N) (TabOK.cons (E_files_Files_Open_ok N) (TabOK.cons (E_Z21_ok N) (TabOK.pools))))))
theorem Z26_ok (N : Nat) : VarOK Try.prog (E_Z26_T N) Try.f7 (codeOf Try.f7) (Z26_W (Z26 N)) :=
  VarOK.of (E_Z26_Tok N) (by kernel_rfl) pn (Z26_F) N (fun _ => LStep.none) fun t u K => Z26_body N _ _ _ _ _ _ _ _ _ t u K
theorem E_Z26_ok (N : Nat) : EntOK Try.prog 7 (E_Z26 N) := EntOK.vars (E_Z26_Tok N) Try.func7 (by kernel_rfl) (by kernel_rfl) (all_cons (Z26_ok N) (all_nil))
theorem E_Z25_Tok (N : Nat) : TabOK Try.prog (E_Z25_T N) := TabOK.pools
theorem Z25_ok (N : Nat) : VarOK Try.prog (E_Z25_T N) Try.f8 (codeOf Try.f8) (Z25_W (Z25 N)) :=
  VarOK.of (E_Z25_Tok N) (by kernel_rfl) pn (Z25_F (@Z25_l0 N) (@Z25_l1 N) (@Z25_l2 N)) N (fun _ => LStep.pick (all_cons ⟨.inl fun _ _ _ => rfl, fun n t u K => Z25_v0_0_round N _ _ _ _ n t u K⟩ (all_nil)) (LStep.pick (all_cons ⟨.inl fun _ _ _ => rfl, fun n t u K => Z25_v1_0_round N _ _ _ _ n t u K⟩ (all_nil)) (LStep.pick (all_cons ⟨.inl fun _ _ _ => rfl, fun n t u K => Z25_v2_0_round N _ _ _ _ n t u K⟩ (all_nil)) (LStep.none)))) fun t u K => Z25_body N _ _ _ _ t u K
theorem E_Z25_ok (N : Nat) : EntOK Try.prog 8 (E_Z25 N) := EntOK.vars (E_Z25_Tok N) Try.func8 (by kernel_rfl) (by kernel_rfl) (all_cons (Z25_ok N) (all_nil))
theorem E_Z59_Tok (N : Nat) : TabOK Try.prog (E_Z59_T N) := TabOK.pools
theorem Z59_ok (N : Nat) : VarOK Try.prog (E_Z59_T N) Try.f86 (codeOf Try.f86) (Z59_W (Z59 N)) :=
  VarOK.of (E_Z59_Tok N) (by kernel_rfl) pn (Z59_F (@Z59_l0 N) (@Z59_l1 N)) N (fun _ => LStep.pick (all_cons ⟨.inl fun _ _ _ => rfl, fun n t u K => Z59_v0_0_round N _ _ _ n t u K⟩ (all_nil)) (LStep.pick (all_cons ⟨.inl fun _ _ _ => rfl, fun n t u K => Z59_v1_0_round N _ _ _ n t u K⟩ (all_nil)) (LStep.none))) fun t u K => Z59_body N _ _ _ t u K
theorem E_Z59_ok (N : Nat) : EntOK Try.prog 86 (E_Z59 N) := EntOK.vars (E_Z59_Tok N) Try.func86 (by kernel_rfl) (by kernel_rfl) (all_cons (Z59_ok N) (all_nil))
theorem E_ref12_Tree_at_Tok (N : Nat) : TabOK Try.prog (E_ref12_Tree_at_T N) := TabOK.pools
theorem Z69_ok (N : Nat) : VarOK Try.prog (E_ref12_Tree_at_T N) Try.f87 (codeOf Try.f87) (Z69_W (Z69 N)) :=
  VarOK.of (E_ref12_Tree_at_Tok N) (by kernel_rfl) ⟨[], [], [1]⟩ (Z69_F (@Z69_l0 N)) N (fun _ => LStep.pick (all_cons ⟨.inl fun _ _ _ => rfl, fun n t u K => Z69_v0_0_round N _ _ n t u K⟩ (all_nil)) (LStep.none)) fun t u K => Z69_body N _ _ t u K
theorem E_ref12_Tree_at_ok (N : Nat) : EntOK Try.prog 87 (E_ref12_Tree_at N) := EntOK.vars (E_ref12_Tree_at_Tok N) Try.func87 (by kernel_rfl) (by kernel_rfl) (all_cons (Z69_ok N) (all_nil))
theorem E_Z62_Tok (N : Nat) : TabOK Try.prog (E_Z62_T N) := TabOK.cons (E_Z59_ok N) (TabOK.pools)
theorem Z62_ok (N : Nat) : VarOK Try.prog (E_Z62_T N) Try.f88 (codeOf Try.f88) (Z62_W (Z62 N)) :=
  VarOK.of (E_Z62_Tok N) (by kernel_rfl) pn (Z62_F (@Z62_l0 N)) N (fun _ => LStep.pick (all_cons ⟨.inl fun _ _ _ => rfl, fun n t u K => Z62_v0_0_round N _ _ _ n t u K⟩ (all_nil)) (LStep.none)) fun t u K => Z62_body N _ _ _ t u K
theorem E_Z62_ok (N : Nat) : EntOK Try.prog 88 (E_Z62 N) := EntOK.vars (E_Z62_Tok N) Try.func88 (by kernel_rfl) (by kernel_rfl) (all_cons (Z62_ok N) (all_nil))
theorem E_Z61_Tok (N : Nat) : TabOK Try.prog (E_Z61_T N) := TabOK.cons (E_Z62_ok N) (TabOK.cons (E_ref12_Tree_at_ok N) (TabOK.cons (E_Z59_ok N) (TabOK.pools)))
theorem Z61_ok (N : Nat) : VarOK Try.prog (E_Z61_T N) Try.f43 (codeOf Try.f43) (Z61_W (Z61 N)) :=
  VarOK.of (E_Z61_Tok N) (by kernel_rfl) pn (Z61_F (@Z61_l0 N)) N (fun _ => LStep.pick (all_cons ⟨.inl fun _ _ _ => rfl, fun n t u K => Z61_v0_0_round N _ _ _ _ _ n t u K⟩ (all_nil)) (LStep.none)) fun t u K => Z61_body N _ _ _ _ _ t u K
theorem E_Z61_ok (N : Nat) : EntOK Try.prog 43 (E_Z61 N) := EntOK.vars (E_Z61_Tok N) Try.func43 (by kernel_rfl) (by kernel_rfl) (all_cons (Z61_ok N) (all_nil))
theorem E_Z60_Tok (N : Nat) : TabOK Try.prog (E_Z60_T N) := TabOK.cons (E_Z61_ok N) (TabOK.pools)
theorem Z60_ok (N : Nat) : VarOK Try.prog (E_Z60_T N) Try.f10 (codeOf Try.f10) (Z60_W (Z60 N)) :=
  VarOK.of (E_Z60_Tok N) (by kernel_rfl) pn (Z60_F (@Z60_l0 N) (@Z60_l1 N)) N (fun _ => LStep.pick (all_cons ⟨.inl fun _ _ _ => rfl, fun n t u K => Z60_v0_0_round N _ _ _ _ n t u K⟩ (all_nil)) (LStep.pick (all_cons ⟨.inl fun _ _ _ => rfl, fun n t u K => Z60_v1_0_round N _ _ _ _ n t u K⟩ (all_nil)) (LStep.none))) fun t u K => Z60_body N _ _ _ _ t u K
theorem E_Z60_ok (N : Nat) : EntOK Try.prog 10 (E_Z60 N) := EntOK.vars (E_Z60_Tok N) Try.func10 (by kernel_rfl) (by kernel_rfl) (all_cons (Z60_ok N) (all_nil))
theorem E_ref12_Tree_above_Tok (N : Nat) : TabOK Try.prog (E_ref12_Tree_above_T N) := TabOK.cons (E_ref12_Tree_at_ok N) (TabOK.cons (E_Z62_ok N) (TabOK.pools))
theorem Z68_ok (N : Nat) : VarOK Try.prog (E_ref12_Tree_above_T N) Try.f89 (codeOf Try.f89) (Z68_W (Z68 N)) :=
  VarOK.of (E_ref12_Tree_above_Tok N) (by kernel_rfl) ⟨[], [], [1]⟩ (Z68_F) N (fun _ => LStep.none) fun t u K => Z68_body N _ _ _ t u K
theorem E_ref12_Tree_above_ok (N : Nat) : EntOK Try.prog 89 (E_ref12_Tree_above N) := EntOK.vars (E_ref12_Tree_above_Tok N) Try.func89 (by kernel_rfl) (by kernel_rfl) (all_cons (Z68_ok N) (all_nil))
theorem E_ref12_Tree_Find_Tok (N : Nat) : TabOK Try.prog (E_ref12_Tree_Find_T N) := TabOK.cons (E_ref12_Tree_at_ok N) (TabOK.cons (E_ref12_Tree_above_ok N) (TabOK.cons (E_Z59_ok N) (TabOK.pools)))
theorem Z64_ok (N : Nat) : VarOK Try.prog (E_ref12_Tree_Find_T N) Try.f80 (codeOf Try.f80) (Z64_W (Z64 N)) :=
  VarOK.of (E_ref12_Tree_Find_Tok N) (by kernel_rfl) ⟨[], [], [1]⟩ (Z64_F) N (fun _ => LStep.none) fun t u K => Z64_body N _ _ _ _ t u K
theorem E_ref12_Tree_Find_ok (N : Nat) : EntOK Try.prog 80 (E_ref12_Tree_Find N) := EntOK.vars (E_ref12_Tree_Find_Tok N) Try.func80 (by kernel_rfl) (by kernel_rfl) (all_cons (Z64_ok N) (all_nil))
theorem E_ref12_Files_free_Tok (N : Nat) : TabOK Try.prog (E_ref12_Files_free_T N) := TabOK.pools
theorem Z56_ok (N : Nat) : VarOK Try.prog (E_ref12_Files_free_T N) Try.f90 (codeOf Try.f90) (Z56_W (Z56 N)) :=
  VarOK.of (E_ref12_Files_free_Tok N) (by kernel_rfl) ⟨[], [], [2, 3, 4]⟩ (Z56_F (@Z56_l0 N)) N (fun _ => LStep.pick (all_cons ⟨.inl fun _ _ _ => rfl, fun n t u K => Z56_v0_0_round N _ _ n t u K⟩ (all_nil)) (LStep.none)) fun t u K => Z56_body N _ _ t u K
theorem Z55_ok (N : Nat) : VarOK Try.prog (E_ref12_Files_free_T N) Try.f90 (codeOf Try.f90) (Z55_W (Z55 N)) :=
  VarOK.of (E_ref12_Files_free_Tok N) (by kernel_rfl) ⟨[], [], [2, 3, 4]⟩ (Z55_F (@Z55_l0 N)) N (fun _ => LStep.pick (all_cons ⟨.inl fun _ _ _ => rfl, fun n t u K => Z55_v0_0_round N _ _ n t u K⟩ (all_nil)) (LStep.none)) fun t u K => Z55_body N _ _ t u K
theorem E_ref12_Files_free_ok (N : Nat) : EntOK Try.prog 90 (E_ref12_Files_free N) := EntOK.vars (E_ref12_Files_free_Tok N) Try.func90 (by kernel_rfl) (by kernel_rfl) (all_cons (Z56_ok N) (all_cons (Z55_ok N) (all_nil)))
theorem E_ref12_Tree_Make_Tok (N : Nat) : TabOK Try.prog (E_ref12_Tree_Make_T N) := TabOK.cons (E_ref12_Tree_at_ok N) (TabOK.cons (E_Z62_ok N) (TabOK.cons (E_ref12_Tree_above_ok N) (TabOK.cons (E_Z59_ok N) (TabOK.pools))))
theorem Z65_ok (N : Nat) : VarOK Try.prog (E_ref12_Tree_Make_T N) Try.f91 (codeOf Try.f91) (Z65_W (Z65 N)) :=
  VarOK.of (E_ref12_Tree_Make_Tok N) (by kernel_rfl) ⟨[1], [], [1]⟩ (Z65_F) N (fun _ => LStep.none) fun t u K => Z65_body N _ _ _ _ _ t u K
theorem E_ref12_Tree_Make_ok (N : Nat) : EntOK Try.prog 91 (E_ref12_Tree_Make N) := EntOK.vars (E_ref12_Tree_Make_Tok N) Try.func91 (by kernel_rfl) (by kernel_rfl) (all_cons (Z65_ok N) (all_nil))
theorem E_ref12_Files_OpenPath_Tok (N : Nat) : TabOK Try.prog (E_ref12_Files_OpenPath_T N) := TabOK.cons (E_ref12_Tree_Make_ok N) (TabOK.cons (E_ref12_Files_free_ok N) (TabOK.cons (E_ref12_Tree_above_ok N) (TabOK.cons (E_ref12_Tree_Find_ok N) (TabOK.cons (E_Z59_ok N) (TabOK.pools)))))
theorem Z39_ok (N : Nat) : VarOK Try.prog (E_ref12_Files_OpenPath_T N) Try.f44 (codeOf Try.f44) (Z39_W (Z39 N)) :=
  VarOK.of (E_ref12_Files_OpenPath_Tok N) (by kernel_rfl) ⟨[2, 3, 4], [], [2, 3, 4]⟩ (Z39_F (@Z39_l0 N)) N (fun _ => LStep.pick (all_cons ⟨.inl fun _ _ _ => rfl, fun n t u K => Z39_v0_0_round N _ _ _ _ _ _ _ _ n t u K⟩ (all_nil)) (LStep.none)) fun t u K => Z39_body N _ _ _ _ _ _ _ _ t u K
theorem Z40_ok (N : Nat) : VarOK Try.prog (E_ref12_Files_OpenPath_T N) Try.f44 (codeOf Try.f44) (Z40_W (Z40 N)) :=
  VarOK.of (E_ref12_Files_OpenPath_Tok N) (by kernel_rfl) ⟨[2, 3, 4], [], [2, 3, 4]⟩ (Z40_F (@Z40_l0 N)) N (fun _ => LStep.pick (all_cons ⟨.inl fun _ _ _ => rfl, fun n t u K => Z40_v0_0_round N _ _ _ _ _ _ _ _ n t u K⟩ (all_nil)) (LStep.none)) fun t u K => Z40_body N _ _ _ _ _ _ _ _ t u K
theorem E_ref12_Files_OpenPath_ok (N : Nat) : EntOK Try.prog 44 (E_ref12_Files_OpenPath N) := EntOK.vars (E_ref12_Files_OpenPath_Tok N) Try.func44 (by kernel_rfl) (by kernel_rfl) (all_cons (Z39_ok N) (all_cons (Z40_ok N) (all_nil)))
theorem E_files_Files_Close_Tok (N : Nat) : TabOK Try.prog (E_files_Files_Close_T N) := TabOK.cons (E_files_Files_file_ok N) (TabOK.pools)
theorem Z3_ok (N : Nat) : VarOK Try.prog (E_files_Files_Close_T N) Try.f45 (codeOf Try.f45) (Z3_W (Z3 N)) :=
  VarOK.of (E_files_Files_Close_Tok N) (by kernel_rfl) ⟨[], [], [4]⟩ (Z3_F) N (fun _ => LStep.none) fun t u K => Z3_body N _ _ t u K
theorem E_files_Files_Close_ok (N : Nat) : EntOK Try.prog 45 (E_files_Files_Close N) := EntOK.vars (E_files_Files_Close_Tok N) Try.func45 (by kernel_rfl) (by kernel_rfl) (all_cons (Z3_ok N) (all_nil))
theorem E_ref12_Files_of_Tok (N : Nat) : TabOK Try.prog (E_ref12_Files_of_T N) := TabOK.pools
theorem Z57_ok (N : Nat) : VarOK Try.prog (E_ref12_Files_of_T N) Try.f74 (codeOf Try.f74) (Z57_W (Z57 N)) :=
  VarOK.of (E_ref12_Files_of_Tok N) (by kernel_rfl) ⟨[], [], [2, 3, 4]⟩ (Z57_F) N (fun _ => LStep.none) fun t u K => Z57_body N _ t u K
theorem Z58_ok (N : Nat) : VarOK Try.prog (E_ref12_Files_of_T N) Try.f74 (codeOf Try.f74) (Z58_W (Z58 N)) :=
  VarOK.of (E_ref12_Files_of_Tok N) (by kernel_rfl) ⟨[], [], [2, 3, 4]⟩ (Z58_F) N (fun _ => LStep.none) fun t u K => Z58_body N _ t u K
theorem E_ref12_Files_of_ok (N : Nat) : EntOK Try.prog 74 (E_ref12_Files_of N) := EntOK.vars (E_ref12_Files_of_Tok N) Try.func74 (by kernel_rfl) (by kernel_rfl) (all_cons (Z57_ok N) (all_cons (Z58_ok N) (all_nil)))
theorem E_ref12_Files_Close_Tok (N : Nat) : TabOK Try.prog (E_ref12_Files_Close_T N) := TabOK.cons (E_ref12_Files_of_ok N) (TabOK.pools)
theorem Z35_ok (N : Nat) : VarOK Try.prog (E_ref12_Files_Close_T N) Try.f46 (codeOf Try.f46) (Z35_W (Z35 N)) :=
  VarOK.of (E_ref12_Files_Close_Tok N) (by kernel_rfl) ⟨[], [], [2, 3, 4]⟩ (Z35_F) N (fun _ => LStep.none) fun t u K => Z35_body N _ _ _ t u K
theorem Z36_ok (N : Nat) : VarOK Try.prog (E_ref12_Files_Close_T N) Try.f46 (codeOf Try.f46) (Z36_W (Z36 N)) :=
  VarOK.of (E_ref12_Files_Close_Tok N) (by kernel_rfl) ⟨[], [], [2, 3, 4]⟩ (Z36_F) N (fun _ => LStep.none) fun t u K => Z36_body N _ _ _ t u K
theorem E_ref12_Files_Close_ok (N : Nat) : EntOK Try.prog 46 (E_ref12_Files_Close N) := EntOK.vars (E_ref12_Files_Close_Tok N) Try.func46 (by kernel_rfl) (by kernel_rfl) (all_cons (Z35_ok N) (all_cons (Z36_ok N) (all_nil)))
theorem E_ref12_Files_Read_Tok (N : Nat) : TabOK Try.prog (E_ref12_Files_Read_T N) := TabOK.cons (E_ref12_Files_of_ok N) (TabOK.pools)
theorem Z41_ok (N : Nat) : VarOK Try.prog (E_ref12_Files_Read_T N) Try.f32 (codeOf Try.f32) (Z41_W (Z41 N)) :=
  VarOK.of (E_ref12_Files_Read_Tok N) (by kernel_rfl) ⟨[], [], [2, 3, 4]⟩ (Z41_F) N (fun _ => LStep.none) fun t u K => Z41_body N _ _ _ t u K
theorem Z42_ok (N : Nat) : VarOK Try.prog (E_ref12_Files_Read_T N) Try.f32 (codeOf Try.f32) (Z42_W (Z42 N)) :=
  VarOK.of (E_ref12_Files_Read_Tok N) (by kernel_rfl) ⟨[], [(0, false, (.int .u8))], [2, 3, 4]⟩ (Z42_F) N (fun _ => LStep.none) fun t u K => Z42_body N _ _ _ t u K
theorem E_ref12_Files_Read_ok (N : Nat) : EntOK Try.prog 32 (E_ref12_Files_Read N) := EntOK.vars (E_ref12_Files_Read_Tok N) Try.func32 (by kernel_rfl) (by kernel_rfl) (all_cons (Z41_ok N) (all_cons (Z42_ok N) (all_nil)))
theorem E_ref12_Files_Write_Tok (N : Nat) : TabOK Try.prog (E_ref12_Files_Write_T N) := TabOK.cons (E_ref12_Files_of_ok N) (TabOK.pools)
theorem Z53_ok (N : Nat) : VarOK Try.prog (E_ref12_Files_Write_T N) Try.f31 (codeOf Try.f31) (Z53_W (Z53 N)) :=
  VarOK.of (E_ref12_Files_Write_Tok N) (by kernel_rfl) ⟨[], [], [2, 3, 4]⟩ (Z53_F) N (fun _ => LStep.none) fun t u K => Z53_body N _ _ _ t u K
theorem Z52_ok (N : Nat) : VarOK Try.prog (E_ref12_Files_Write_T N) Try.f31 (codeOf Try.f31) (Z52_W (Z52 N)) :=
  VarOK.of (E_ref12_Files_Write_Tok N) (by kernel_rfl) ⟨[], [], [2, 3, 4, 5]⟩ (Z52_F) N (fun _ => LStep.none) fun t u K => Z52_body N _ _ _ t u K
theorem Z54_ok (N : Nat) : VarOK Try.prog (E_ref12_Files_Write_T N) Try.f31 (codeOf Try.f31) (Z54_W (Z54 N)) :=
  VarOK.of (E_ref12_Files_Write_Tok N) (by kernel_rfl) ⟨[], [], [2, 3, 4, 6]⟩ (Z54_F (@Z54_l0 N)) N (fun _ => LStep.pick (all_cons ⟨.inl fun _ _ _ => rfl, fun n t u K => Z54_v0_0_round N _ _ _ _ n t u K⟩ (all_nil)) (LStep.none)) fun t u K => Z54_body N _ _ _ _ t u K
theorem Z51_ok (N : Nat) : VarOK Try.prog (E_ref12_Files_Write_T N) Try.f31 (codeOf Try.f31) (Z51_W (Z51 N)) :=
  VarOK.of (E_ref12_Files_Write_Tok N) (by kernel_rfl) ⟨[], [], [2, 3, 4]⟩ (Z51_F (@Z51_l0 N)) N (fun _ => LStep.pick (all_cons ⟨.inl fun _ _ _ => rfl, fun n t u K => Z51_v0_0_round N _ _ _ _ n t u K⟩ (all_nil)) (LStep.none)) fun t u K => Z51_body N _ _ _ _ t u K
theorem E_ref12_Files_Write_ok (N : Nat) : EntOK Try.prog 31 (E_ref12_Files_Write N) := EntOK.vars (E_ref12_Files_Write_Tok N) Try.func31 (by kernel_rfl) (by kernel_rfl) (all_cons (Z53_ok N) (all_cons (Z52_ok N) (all_cons (Z54_ok N) (all_cons (Z51_ok N) (all_nil)))))
theorem E_ref12_Files_Seek_Tok (N : Nat) : TabOK Try.prog (E_ref12_Files_Seek_T N) := TabOK.cons (E_ref12_Files_of_ok N) (TabOK.pools)
theorem Z43_ok (N : Nat) : VarOK Try.prog (E_ref12_Files_Seek_T N) Try.f47 (codeOf Try.f47) (Z43_W (Z43 N)) :=
  VarOK.of (E_ref12_Files_Seek_Tok N) (by kernel_rfl) ⟨[], [], [2, 3, 4]⟩ (Z43_F) N (fun _ => LStep.none) fun t u K => Z43_body N _ _ _ t u K
theorem Z44_ok (N : Nat) : VarOK Try.prog (E_ref12_Files_Seek_T N) Try.f47 (codeOf Try.f47) (Z44_W (Z44 N)) :=
  VarOK.of (E_ref12_Files_Seek_Tok N) (by kernel_rfl) ⟨[], [], [2, 3, 4]⟩ (Z44_F) N (fun _ => LStep.none) fun t u K => Z44_body N _ _ _ t u K
theorem E_ref12_Files_Seek_ok (N : Nat) : EntOK Try.prog 47 (E_ref12_Files_Seek N) := EntOK.vars (E_ref12_Files_Seek_Tok N) Try.func47 (by kernel_rfl) (by kernel_rfl) (all_cons (Z43_ok N) (all_cons (Z44_ok N) (all_nil)))
theorem E_ref12_Files_Size_Tok (N : Nat) : TabOK Try.prog (E_ref12_Files_Size_T N) := TabOK.cons (E_ref12_Files_of_ok N) (TabOK.pools)
theorem Z45_ok (N : Nat) : VarOK Try.prog (E_ref12_Files_Size_T N) Try.f26 (codeOf Try.f26) (Z45_W (Z45 N)) :=
  VarOK.of (E_ref12_Files_Size_Tok N) (by kernel_rfl) ⟨[], [], [2, 3, 4]⟩ (Z45_F) N (fun _ => LStep.none) fun t u K => Z45_body N _ _ _ t u K
theorem Z46_ok (N : Nat) : VarOK Try.prog (E_ref12_Files_Size_T N) Try.f26 (codeOf Try.f26) (Z46_W (Z46 N)) :=
  VarOK.of (E_ref12_Files_Size_Tok N) (by kernel_rfl) ⟨[], [], [2, 3, 4]⟩ (Z46_F) N (fun _ => LStep.none) fun t u K => Z46_body N _ _ _ t u K
theorem E_ref12_Files_Size_ok (N : Nat) : EntOK Try.prog 26 (E_ref12_Files_Size N) := EntOK.vars (E_ref12_Files_Size_Tok N) Try.func26 (by kernel_rfl) (by kernel_rfl) (all_cons (Z45_ok N) (all_cons (Z46_ok N) (all_nil)))
theorem E_files_Files_Trunc_Tok (N : Nat) : TabOK Try.prog (E_files_Files_Trunc_T N) := TabOK.cons (E_Z23_ok N) (TabOK.cons (E_files_Files_file_ok N) (TabOK.pools))
theorem Z13_ok (N : Nat) : VarOK Try.prog (E_files_Files_Trunc_T N) Try.f48 (codeOf Try.f48) (Z13_W (Z13 N)) :=
  VarOK.of (E_files_Files_Trunc_Tok N) (by kernel_rfl) ⟨[], [], [4]⟩ (Z13_F) N (fun _ => LStep.none) fun t u K => Z13_body N _ _ _ t u K
theorem E_files_Files_Trunc_ok (N : Nat) : EntOK Try.prog 48 (E_files_Files_Trunc N) := EntOK.vars (E_files_Files_Trunc_Tok N) Try.func48 (by kernel_rfl) (by kernel_rfl) (all_cons (Z13_ok N) (all_nil))
theorem E_ref12_Files_Trunc_Tok (N : Nat) : TabOK Try.prog (E_ref12_Files_Trunc_T N) := TabOK.cons (E_ref12_Files_of_ok N) (TabOK.pools)
theorem Z47_ok (N : Nat) : VarOK Try.prog (E_ref12_Files_Trunc_T N) Try.f49 (codeOf Try.f49) (Z47_W (Z47 N)) :=
  VarOK.of (E_ref12_Files_Trunc_Tok N) (by kernel_rfl) ⟨[], [], [2, 3, 4]⟩ (Z47_F) N (fun _ => LStep.none) fun t u K => Z47_body N _ _ _ t u K
theorem Z48_ok (N : Nat) : VarOK Try.prog (E_ref12_Files_Trunc_T N) Try.f49 (codeOf Try.f49) (Z48_W (Z48 N)) :=
  VarOK.of (E_ref12_Files_Trunc_Tok N) (by kernel_rfl) ⟨[], [], [2, 3, 4]⟩ (Z48_F) N (fun _ => LStep.none) fun t u K => Z48_body N _ _ _ t u K
theorem E_ref12_Files_Trunc_ok (N : Nat) : EntOK Try.prog 49 (E_ref12_Files_Trunc N) := EntOK.vars (E_ref12_Files_Trunc_Tok N) Try.func49 (by kernel_rfl) (by kernel_rfl) (all_cons (Z47_ok N) (all_cons (Z48_ok N) (all_nil)))
theorem E_files_Files_Twin_Tok (N : Nat) : TabOK Try.prog (E_files_Files_Twin_T N) := TabOK.cons (E_files_Files_free_ok N) (TabOK.cons (E_files_Files_file_ok N) (TabOK.pools))
theorem Z14_ok (N : Nat) : VarOK Try.prog (E_files_Files_Twin_T N) Try.f50 (codeOf Try.f50) (Z14_W (Z14 N)) :=
  VarOK.of (E_files_Files_Twin_Tok N) (by kernel_rfl) ⟨[], [], [4]⟩ (Z14_F) N (fun _ => LStep.none) fun t u K => Z14_body N _ _ _ t u K
theorem E_files_Files_Twin_ok (N : Nat) : EntOK Try.prog 50 (E_files_Files_Twin N) := EntOK.vars (E_files_Files_Twin_Tok N) Try.func50 (by kernel_rfl) (by kernel_rfl) (all_cons (Z14_ok N) (all_nil))
theorem E_ref12_Files_Twin_Tok (N : Nat) : TabOK Try.prog (E_ref12_Files_Twin_T N) := TabOK.cons (E_ref12_Files_free_ok N) (TabOK.cons (E_ref12_Files_of_ok N) (TabOK.pools))
theorem Z49_ok (N : Nat) : VarOK Try.prog (E_ref12_Files_Twin_T N) Try.f51 (codeOf Try.f51) (Z49_W (Z49 N)) :=
  VarOK.of (E_ref12_Files_Twin_Tok N) (by kernel_rfl) ⟨[], [], [2, 3, 4]⟩ (Z49_F) N (fun _ => LStep.none) fun t u K => Z49_body N _ _ _ _ _ t u K
theorem Z50_ok (N : Nat) : VarOK Try.prog (E_ref12_Files_Twin_T N) Try.f51 (codeOf Try.f51) (Z50_W (Z50 N)) :=
  VarOK.of (E_ref12_Files_Twin_Tok N) (by kernel_rfl) ⟨[], [], [2, 3, 4]⟩ (Z50_F) N (fun _ => LStep.none) fun t u K => Z50_body N _ _ _ _ _ t u K
theorem E_ref12_Files_Twin_ok (N : Nat) : EntOK Try.prog 51 (E_ref12_Files_Twin N) := EntOK.vars (E_ref12_Files_Twin_Tok N) Try.func51 (by kernel_rfl) (by kernel_rfl) (all_cons (Z49_ok N) (all_cons (Z50_ok N) (all_nil)))
theorem E_tree_Tree_Drop_Tok (N : Nat) : TabOK Try.prog (E_tree_Tree_Drop_T N) := TabOK.cons (E_Z86_ok N) (TabOK.cons E_tree_Tree_many_ok (TabOK.cons (E_tree_Tree_get_ok N) (TabOK.pools)))
theorem Z79_ok (N : Nat) : VarOK Try.prog (E_tree_Tree_Drop_T N) Try.f71 (codeOf Try.f71) (Z79_W (Z79 N)) :=
  VarOK.of (E_tree_Tree_Drop_Tok N) (by kernel_rfl) pn (Z79_F) N (fun _ => LStep.none) fun t u K => Z79_body N _ _ _ _ t u K
theorem E_tree_Tree_Drop_ok (N : Nat) : EntOK Try.prog 71 (E_tree_Tree_Drop N) := EntOK.vars (E_tree_Tree_Drop_Tok N) Try.func71 (by kernel_rfl) (by kernel_rfl) (all_cons (Z79_ok N) (all_nil))
theorem E_files_Files_Unlink_Tok (N : Nat) : TabOK Try.prog (E_files_Files_Unlink_T N) := TabOK.cons (E_tree_Tree_Drop_ok N) (TabOK.pools)
theorem Z15_ok (N : Nat) : VarOK Try.prog (E_files_Files_Unlink_T N) Try.f52 (codeOf Try.f52) (Z15_W (Z15 N)) :=
  VarOK.of (E_files_Files_Unlink_Tok N) (by kernel_rfl) ⟨[], [], [4]⟩ (Z15_F) N (fun _ => LStep.none) fun t u K => Z15_body N _ _ t u K
theorem E_files_Files_Unlink_ok (N : Nat) : EntOK Try.prog 52 (E_files_Files_Unlink N) := EntOK.vars (E_files_Files_Unlink_Tok N) Try.func52 (by kernel_rfl) (by kernel_rfl) (all_cons (Z15_ok N) (all_nil))
theorem E_ref12_Tree_many_Tok (N : Nat) : TabOK Try.prog (E_ref12_Tree_many_T N) := TabOK.cons (E_Z62_ok N) (TabOK.pools)
theorem Z70_ok (N : Nat) : VarOK Try.prog (E_ref12_Tree_many_T N) Try.f109 (codeOf Try.f109) (Z70_W (Z70 N)) :=
  VarOK.of (E_ref12_Tree_many_Tok N) (by kernel_rfl) ⟨[], [], [1]⟩ (Z70_F (@Z70_l0 N)) N (fun _ => LStep.pick (all_cons ⟨.inl fun _ _ _ => rfl, fun n t u K => Z70_v0_0_round N _ _ _ n t u K⟩ (all_nil)) (LStep.none)) fun t u K => Z70_body N _ _ _ t u K
theorem E_ref12_Tree_many_ok (N : Nat) : EntOK Try.prog 109 (E_ref12_Tree_many N) := EntOK.vars (E_ref12_Tree_many_Tok N) Try.func109 (by kernel_rfl) (by kernel_rfl) (all_cons (Z70_ok N) (all_nil))
theorem E_ref12_Tree_without_Tok (N : Nat) : TabOK Try.prog (E_ref12_Tree_without_T N) := TabOK.pools
theorem Z71_ok (N : Nat) : VarOK Try.prog (E_ref12_Tree_without_T N) Try.f110 (codeOf Try.f110) (Z71_W (Z71 N)) :=
  VarOK.of (E_ref12_Tree_without_Tok N) (by kernel_rfl) ⟨[], [], [1]⟩ (Z71_F) N (fun _ => LStep.none) fun t u K => Z71_body N _ t u K
theorem E_ref12_Tree_without_ok (N : Nat) : EntOK Try.prog 110 (E_ref12_Tree_without N) := EntOK.vars (E_ref12_Tree_without_Tok N) Try.func110 (by kernel_rfl) (by kernel_rfl) (all_cons (Z71_ok N) (all_nil))
theorem E_ref12_Tree_Drop_Tok (N : Nat) : TabOK Try.prog (E_ref12_Tree_Drop_T N) := TabOK.cons (E_ref12_Tree_without_ok N) (TabOK.cons (E_ref12_Tree_at_ok N) (TabOK.cons (E_ref12_Tree_many_ok N) (TabOK.cons (E_ref12_Tree_Find_ok N) (TabOK.pools))))
theorem Z63_ok (N : Nat) : VarOK Try.prog (E_ref12_Tree_Drop_T N) Try.f92 (codeOf Try.f92) (Z63_W (Z63 N)) :=
  VarOK.of (E_ref12_Tree_Drop_Tok N) (by kernel_rfl) ⟨[], [], [1]⟩ (Z63_F) N (fun _ => LStep.none) fun t u K => Z63_body N _ _ _ _ _ t u K
theorem E_ref12_Tree_Drop_ok (N : Nat) : EntOK Try.prog 92 (E_ref12_Tree_Drop N) := EntOK.vars (E_ref12_Tree_Drop_Tok N) Try.func92 (by kernel_rfl) (by kernel_rfl) (all_cons (Z63_ok N) (all_nil))
theorem E_ref12_Tree_Move_Tok (N : Nat) : TabOK Try.prog (E_ref12_Tree_Move_T N) := TabOK.cons (E_ref12_Tree_without_ok N) (TabOK.cons (E_ref12_Tree_at_ok N) (TabOK.cons (E_ref12_Tree_above_ok N) (TabOK.cons (E_Z59_ok N) (TabOK.cons (E_ref12_Tree_Find_ok N) (TabOK.pools)))))
theorem Z67_ok (N : Nat) : VarOK Try.prog (E_ref12_Tree_Move_T N) Try.f93 (codeOf Try.f93) (Z67_W (Z67 N)) :=
  VarOK.of (E_ref12_Tree_Move_Tok N) (by kernel_rfl) ⟨[], [], [1]⟩ (Z67_F) N (fun _ => LStep.none) fun t u K => Z67_body N _ _ _ _ _ _ t u K
theorem E_ref12_Tree_Move_ok (N : Nat) : EntOK Try.prog 93 (E_ref12_Tree_Move N) := EntOK.vars (E_ref12_Tree_Move_Tok N) Try.func93 (by kernel_rfl) (by kernel_rfl) (all_cons (Z67_ok N) (all_nil))
theorem E_ref12_Tree_Many_Tok (N : Nat) : TabOK Try.prog (E_ref12_Tree_Many_T N) := TabOK.cons (E_ref12_Tree_many_ok N) (TabOK.cons (E_ref12_Tree_Find_ok N) (TabOK.pools))
theorem Z66_ok (N : Nat) : VarOK Try.prog (E_ref12_Tree_Many_T N) Try.f94 (codeOf Try.f94) (Z66_W (Z66 N)) :=
  VarOK.of (E_ref12_Tree_Many_Tok N) (by kernel_rfl) ⟨[], [], [1]⟩ (Z66_F) N (fun _ => LStep.none) fun t u K => Z66_body N _ _ _ t u K
theorem E_ref12_Tree_Many_ok (N : Nat) : EntOK Try.prog 94 (E_ref12_Tree_Many N) := EntOK.vars (E_ref12_Tree_Many_Tok N) Try.func94 (by kernel_rfl) (by kernel_rfl) (all_cons (Z66_ok N) (all_nil))
theorem E_ref12_Files_Name_Tok (N : Nat) : TabOK Try.prog (E_ref12_Files_Name_T N) := TabOK.cons (E_ref12_Tree_Many_ok N) (TabOK.cons (E_ref12_Tree_Make_ok N) (TabOK.cons (E_ref12_Tree_Move_ok N) (TabOK.cons (E_ref12_Tree_Drop_ok N) (TabOK.pools))))
theorem Z38_ok (N : Nat) : VarOK Try.prog (E_ref12_Files_Name_T N) Try.f53 (codeOf Try.f53) (Z38_W (Z38 N)) :=
  VarOK.of (E_ref12_Files_Name_Tok N) (by kernel_rfl) ⟨[2, 3], [], [2, 3, 4]⟩ (Z38_F (@Z38_l0 N)) N (fun _ => LStep.pick (all_cons ⟨.inl fun _ _ _ => rfl, fun n t u K => Z38_v0_0_round N _ _ _ _ _ _ n t u K⟩ (all_nil)) (LStep.none)) fun t u K => Z38_body N _ _ _ _ _ _ t u K
theorem Z37_ok (N : Nat) : VarOK Try.prog (E_ref12_Files_Name_T N) Try.f53 (codeOf Try.f53) (Z37_W (Z37 N)) :=
  VarOK.of (E_ref12_Files_Name_Tok N) (by kernel_rfl) ⟨[2, 3], [], [2, 3, 4]⟩ (Z37_F (@Z37_l0 N)) N (fun _ => LStep.pick (all_cons ⟨.inl fun _ _ _ => rfl, fun n t u K => Z37_v0_0_round N _ _ _ _ _ _ n t u K⟩ (all_nil)) (LStep.none)) fun t u K => Z37_body N _ _ _ _ _ _ t u K
theorem E_ref12_Files_Name_ok (N : Nat) : EntOK Try.prog 53 (E_ref12_Files_Name N) := EntOK.vars (E_ref12_Files_Name_Tok N) Try.func53 (by kernel_rfl) (by kernel_rfl) (all_cons (Z38_ok N) (all_cons (Z37_ok N) (all_nil)))
theorem E_tree_Tree_Move_Tok (N : Nat) : TabOK Try.prog (E_tree_Tree_Move_T N) := TabOK.cons (E_tree_Tree_above_ok N) (TabOK.cons (E_Z86_ok N) (TabOK.cons (E_tree_Tree_get_ok N) (TabOK.pools)))
theorem Z83_ok (N : Nat) : VarOK Try.prog (E_tree_Tree_Move_T N) Try.f72 (codeOf Try.f72) (Z83_W (Z83 N)) :=
  VarOK.of (E_tree_Tree_Move_Tok N) (by kernel_rfl) pn (Z83_F) N (fun _ => LStep.none) fun t u K => Z83_body N _ _ _ _ t u K
theorem E_tree_Tree_Move_ok (N : Nat) : EntOK Try.prog 72 (E_tree_Tree_Move N) := EntOK.vars (E_tree_Tree_Move_Tok N) Try.func72 (by kernel_rfl) (by kernel_rfl) (all_cons (Z83_ok N) (all_nil))
theorem E_files_Files_Rename_Tok (N : Nat) : TabOK Try.prog (E_files_Files_Rename_T N) := TabOK.cons (E_tree_Tree_Move_ok N) (TabOK.pools)
theorem Z9_ok (N : Nat) : VarOK Try.prog (E_files_Files_Rename_T N) Try.f54 (codeOf Try.f54) (Z9_W (Z9 N)) :=
  VarOK.of (E_files_Files_Rename_Tok N) (by kernel_rfl) ⟨[], [], [4]⟩ (Z9_F) N (fun _ => LStep.none) fun t u K => Z9_body N _ _ t u K
theorem E_files_Files_Rename_ok (N : Nat) : EntOK Try.prog 54 (E_files_Files_Rename N) := EntOK.vars (E_files_Files_Rename_Tok N) Try.func54 (by kernel_rfl) (by kernel_rfl) (all_cons (Z9_ok N) (all_nil))
theorem E_files_Files_Mkdir_Tok (N : Nat) : TabOK Try.prog (E_files_Files_Mkdir_T N) := TabOK.cons (E_tree_Tree_Make_ok N) (TabOK.pools)
theorem Z6_ok (N : Nat) : VarOK Try.prog (E_files_Files_Mkdir_T N) Try.f55 (codeOf Try.f55) (Z6_W (Z6 N)) :=
  VarOK.of (E_files_Files_Mkdir_Tok N) (by kernel_rfl) ⟨[], [], [4]⟩ (Z6_F) N (fun _ => LStep.none) fun t u K => Z6_body N _ _ t u K
theorem E_files_Files_Mkdir_ok (N : Nat) : EntOK Try.prog 55 (E_files_Files_Mkdir N) := EntOK.vars (E_files_Files_Mkdir_Tok N) Try.func55 (by kernel_rfl) (by kernel_rfl) (all_cons (Z6_ok N) (all_nil))
theorem E_files_Files_Rmdir_Tok (N : Nat) : TabOK Try.prog (E_files_Files_Rmdir_T N) := TabOK.cons (E_tree_Tree_Drop_ok N) (TabOK.pools)
theorem Z10_ok (N : Nat) : VarOK Try.prog (E_files_Files_Rmdir_T N) Try.f56 (codeOf Try.f56) (Z10_W (Z10 N)) :=
  VarOK.of (E_files_Files_Rmdir_Tok N) (by kernel_rfl) ⟨[], [], [4]⟩ (Z10_F) N (fun _ => LStep.none) fun t u K => Z10_body N _ _ t u K
theorem E_files_Files_Rmdir_ok (N : Nat) : EntOK Try.prog 56 (E_files_Files_Rmdir N) := EntOK.vars (E_files_Files_Rmdir_Tok N) Try.func56 (by kernel_rfl) (by kernel_rfl) (all_cons (Z10_ok N) (all_nil))
theorem E_tree_Tree_Many_Tok (N : Nat) : TabOK Try.prog (E_tree_Tree_Many_T N) := TabOK.cons E_tree_Tree_many_ok (TabOK.cons (E_tree_Tree_get_ok N) (TabOK.pools))
theorem Z82_ok (N : Nat) : VarOK Try.prog (E_tree_Tree_Many_T N) Try.f73 (codeOf Try.f73) (Z82_W (Z82 N)) :=
  VarOK.of (E_tree_Tree_Many_Tok N) (by kernel_rfl) pn (Z82_F) N (fun _ => LStep.none) fun t u K => Z82_body N _ _ _ t u K
theorem E_tree_Tree_Many_ok (N : Nat) : EntOK Try.prog 73 (E_tree_Tree_Many N) := EntOK.vars (E_tree_Tree_Many_Tok N) Try.func73 (by kernel_rfl) (by kernel_rfl) (all_cons (Z82_ok N) (all_nil))
theorem E_files_Files_List_Tok (N : Nat) : TabOK Try.prog (E_files_Files_List_T N) := TabOK.cons (E_tree_Tree_Many_ok N) (TabOK.pools)
theorem Z5_ok (N : Nat) : VarOK Try.prog (E_files_Files_List_T N) Try.f57 (codeOf Try.f57) (Z5_W (Z5 N)) :=
  VarOK.of (E_files_Files_List_Tok N) (by kernel_rfl) ⟨[], [], [4]⟩ (Z5_F) N (fun _ => LStep.none) fun t u K => Z5_body N _ _ t u K
theorem E_files_Files_List_ok (N : Nat) : EntOK Try.prog 57 (E_files_Files_List N) := EntOK.vars (E_files_Files_List_Tok N) Try.func57 (by kernel_rfl) (by kernel_rfl) (all_cons (Z5_ok N) (all_nil))
theorem E_files_Files_Data_Tok (N : Nat) : TabOK Try.prog (E_files_Files_Data_T N) := TabOK.cons E_slices_Clone__byte_byte_ok (TabOK.cons (E_tree_Tree_Find_ok N) (TabOK.pools))
theorem Z4_ok (N : Nat) : VarOK Try.prog (E_files_Files_Data_T N) Try.f58 (codeOf Try.f58) (Z4_W (Z4 N)) :=
  VarOK.of (E_files_Files_Data_Tok N) (by kernel_rfl) ⟨[], [(0, false, (.int .u8))], [4]⟩ (Z4_F) N (fun _ => LStep.none) fun t u K => Z4_body N _ _ _ t u K
theorem E_files_Files_Data_ok (N : Nat) : EntOK Try.prog 58 (E_files_Files_Data N) := EntOK.vars (E_files_Files_Data_Tok N) Try.func58 (by kernel_rfl) (by kernel_rfl) (all_cons (Z4_ok N) (all_nil))
theorem E_ref12_Files_Bytes_Tok (N : Nat) : TabOK Try.prog (E_ref12_Files_Bytes_T N) := TabOK.cons (E_ref12_Tree_Find_ok N) (TabOK.pools)
theorem Z33_ok (N : Nat) : VarOK Try.prog (E_ref12_Files_Bytes_T N) Try.f35 (codeOf Try.f35) (Z33_W (Z33 N)) :=
  VarOK.of (E_ref12_Files_Bytes_Tok N) (by kernel_rfl) ⟨[], [(0, true, (.int .u8))], [2, 3, 4]⟩ (Z33_F) N (fun _ => LStep.none) fun t u K => Z33_body N _ _ t u K
theorem Z34_ok (N : Nat) : VarOK Try.prog (E_ref12_Files_Bytes_T N) Try.f35 (codeOf Try.f35) (Z34_W (Z34 N)) :=
  VarOK.of (E_ref12_Files_Bytes_Tok N) (by kernel_rfl) ⟨[], [(0, true, (.int .u8))], [2, 3, 4]⟩ (Z34_F) N (fun _ => LStep.none) fun t u K => Z34_body N _ _ t u K
theorem E_ref12_Files_Bytes_ok (N : Nat) : EntOK Try.prog 35 (E_ref12_Files_Bytes N) := EntOK.vars (E_ref12_Files_Bytes_Tok N) Try.func35 (by kernel_rfl) (by kernel_rfl) (all_cons (Z33_ok N) (all_cons (Z34_ok N) (all_nil)))
theorem E_law14_do_Tok (N : Nat) : TabOK Try.prog (E_law14_do_T N) := TabOK.cons (E_ref12_Files_Bytes_ok N) (TabOK.cons (E_files_Files_Data_ok N) (TabOK.cons (E_files_Files_List_ok N) (TabOK.cons (E_files_Files_Rmdir_ok N) (TabOK.cons (E_files_Files_Mkdir_ok N) (TabOK.cons (E_files_Files_Rename_ok N) (TabOK.cons (E_ref12_Files_Name_ok N) (TabOK.cons (E_files_Files_Unlink_ok N) (TabOK.cons (E_ref12_Files_Twin_ok N) (TabOK.cons (E_files_Files_Twin_ok N) (TabOK.cons (E_ref12_Files_Trunc_ok N) (TabOK.cons (E_files_Files_Trunc_ok N) (TabOK.cons (E_ref12_Files_Size_ok N) (TabOK.cons (E_files_Files_Size_ok N) (TabOK.cons (E_ref12_Files_Seek_ok N) (TabOK.cons (E_files_Files_Seek_ok N) (TabOK.cons (E_ref12_Files_Write_ok N) (TabOK.cons (E_files_Files_Write_ok N) (TabOK.cons (E_ref12_Files_Read_ok N) (TabOK.cons (E_files_Files_Read_ok N) (TabOK.cons (E_ref12_Files_Close_ok N) (TabOK.cons (E_files_Files_Close_ok N) (TabOK.cons (E_ref12_Files_OpenPath_ok N) (TabOK.cons (E_files_Files_Open_ok N) (TabOK.pools))))))))))))))))))))))))
theorem Z28_ok (N : Nat) : VarOK Try.prog (E_law14_do_T N) Try.f11 (codeOf Try.f11) (Z28_W (Z28 N)) :=
  VarOK.of (E_law14_do_Tok N) (by kernel_rfl) ⟨[4, 7, 8, 9], [], [4, 7, 8, 9]⟩ (Z28_F) N (fun _ => LStep.none) fun t u K => Z28_body N _ _ _ _ _ _ _ _ _ _ _ _ _ _ _ _ _ _ _ _ _ _ _ _ _ _ _ _ _ _ _ _ _ _ _ _ _ _ t u K
theorem Z30_ok (N : Nat) : VarOK Try.prog (E_law14_do_T N) Try.f11 (codeOf Try.f11) (Z30_W (Z30 N)) :=
  VarOK.of (E_law14_do_Tok N) (by kernel_rfl) ⟨[4, 7, 8, 9], [], [4, 7, 8, 9]⟩ (Z30_F) N (fun _ => LStep.none) fun t u K => Z30_body N _ _ _ _ _ _ _ _ _ _ _ _ _ _ _ _ _ _ _ _ _ _ _ _ _ _ _ _ _ _ _ _ _ _ _ _ _ _ t u K
theorem Z29_ok (N : Nat) : VarOK Try.prog (E_law14_do_T N) Try.f11 (codeOf Try.f11) (Z29_W (Z29 N)) :=
  VarOK.of (E_law14_do_Tok N) (by kernel_rfl) ⟨[4, 7, 8, 9], [], [4, 7, 8, 9]⟩ (Z29_F) N (fun _ => LStep.none) fun t u K => Z29_body N _ _ _ _ _ _ _ _ _ _ _ _ _ _ _ _ _ _ _ _ _ _ _ _ _ _ _ _ _ _ _ _ _ _ _ _ _ _ t u K
theorem Z27_ok (N : Nat) : VarOK Try.prog (E_law14_do_T N) Try.f11 (codeOf Try.f11) (Z27_W (Z27 N)) :=
  VarOK.of (E_law14_do_Tok N) (by kernel_rfl) ⟨[4, 7, 8, 9], [], [4, 7, 8, 9]⟩ (Z27_F) N (fun _ => LStep.none) fun t u K => Z27_body N _ _ _ _ _ _ _ _ _ _ _ _ _ _ _ _ _ _ _ _ _ _ _ _ _ _ _ _ _ _ _ _ _ _ _ _ _ _ t u K
theorem E_law14_do_ok (N : Nat) : EntOK Try.prog 11 (E_law14_do N) := EntOK.vars (E_law14_do_Tok N) Try.func11 (by kernel_rfl) (by kernel_rfl) (all_cons (Z28_ok N) (all_cons (Z30_ok N) (all_cons (Z29_ok N) (all_cons (Z27_ok N) (all_nil)))))
theorem E_Z24_Tok (N : Nat) : TabOK Try.prog (E_Z24_T N) := TabOK.cons (E_law14_do_ok N) (TabOK.cons (E_Z60_ok N) (TabOK.cons (E_Z21_ok N) (TabOK.cons (E_Z25_ok N) (TabOK.cons (E_Z26_ok N) (TabOK.pools)))))
theorem Z24_ok (N : Nat) : VarOK Try.prog (E_Z24_T N) Try.f3 (codeOf Try.f3) (Z24_W (Z24 N)) :=
  VarOK.of (E_Z24_Tok N) (by kernel_rfl) pn (Z24_F (@Z24_l0 N) (@Z24_l1 N)) N (fun _ => LStep.pick (all_cons ⟨.inl fun _ _ _ => rfl, fun n t u K => Z24_v0_0_round N _ _ _ _ _ _ _ _ _ _ _ _ n t u K⟩ (all_cons ⟨.inl fun _ _ _ => rfl, fun n t u K => Z24_v0_1_round N _ _ _ _ _ _ _ _ _ _ _ _ n t u K⟩ (all_nil))) (LStep.pick (all_cons ⟨.inl fun _ _ _ => rfl, fun n t u K => Z24_v1_0_round N _ _ _ _ _ _ _ _ _ _ _ _ n t u K⟩ (all_cons ⟨.inl fun _ _ _ => rfl, fun n t u K => Z24_v1_1_round N _ _ _ _ _ _ _ _ _ _ _ _ n t u K⟩ (all_nil))) (LStep.none))) fun t u K => Z24_body N _ _ _ _ _ _ _ _ _ _ _ _ t u K
theorem E_Z24_ok (N : Nat) : EntOK Try.prog 3 (E_Z24 N) := EntOK.vars (E_Z24_Tok N) Try.func3 (by kernel_rfl) (by kernel_rfl) (all_cons (Z24_ok N) (all_nil))
end Go.Proofs.Ytdopealphpmaeaa
