/-
  The functions that the statement reaches, each as a function of Lean (printed by a program of this work).
-/
import Derived.Test.YtfeacgamgdpojaaGx5
set_option linter.unusedVariables false
set_option maxRecDepth 100000
namespace Go.Proofs.Ytfeacgamgdpojaa
open Go.Gx
abbrev stringslite_IndexByte_Ty : Type 1 := {R : Type} → (ByteArray) → (Int) → ((Int) → Option R) → Option R
abbrev tree_New_1c12_l0_Ty : Type 1 := {R : Type} → ((Int) → (List (((ByteArray) × (ByteArray)) × ((Int) × (Bool)))) → Option R) → Nat → (Int) → (Int) → (Int) → (List (((ByteArray) × (ByteArray)) × ((Int) × (Bool)))) → Option R
abbrev tree_New_1c12_Ty : Type 1 := {R : Type} → ((Int) → (Int) → (List (((ByteArray) × (ByteArray)) × ((Int) × (Bool)))) → Option R) → Option R
noncomputable def tree_New_1c12_l0_T0 (N : Nat) {R : Type} (nx : (Int) → (Int) → (Int) → (List (((ByteArray) × (ByteArray)) × ((Int) × (Bool)))) → Option R) (k0 : (Int) → (List (((ByteArray) × (ByteArray)) × ((Int) × (Bool)))) → Option R) (x0 : Int) (x1 : Int) (x2 : Int) (x3 : List (((ByteArray) × (ByteArray)) × ((Int) × (Bool)))) : Option R :=
  br (decide (x1 < x0))
  (none)
  (k0 x2 x3)
noncomputable def tree_New_1c12_l0 (N : Nat) {R : Type} (k0 : (Int) → (List (((ByteArray) × (ByteArray)) × ((Int) × (Bool)))) → Option R) : Nat → (Int) → (Int) → (Int) → (List (((ByteArray) × (ByteArray)) × ((Int) × (Bool)))) → Option R
  | 0, _, _, _, _ => none
  | n + 1, x0, x1, x2, x3 => tree_New_1c12_l0_T0 N (fun x0 x1 x2 x3 => tree_New_1c12_l0 N k0 n x0 x1 x2 x3) k0 x0 x1 x2 x3
noncomputable def tree_New_1c12_T (N : Nat) (w0 : tree_New_1c12_l0_Ty) {R : Type} (k0 : (Int) → (Int) → (List (((ByteArray) × (ByteArray)) × ((Int) × (Bool)))) → Option R) : Option R :=
  w0
  (fun i0 l1 => k0 (0 : Int) i0 l1)
  N (0 : Int) (0 : Int) (0 : Int) ([] : List (((Sh.str.pair Sh.str).T) × (((Sh.int IntKind.i64).pair Sh.bool).T)))
noncomputable def tree_New_1c12 (N : Nat) {R : Type} (k0 : (Int) → (Int) → (List (((ByteArray) × (ByteArray)) × ((Int) × (Bool)))) → Option R) : Option R := tree_New_1c12_T N (@tree_New_1c12_l0 N) k0
abbrev files_New_38f2_l0_Ty : Type 1 := {R : Type} → ((List (Int)) → (Int) → (List (((ByteArray) × (ByteArray)) × ((Int) × (Bool)))) → (List ((Int) × (List (Int)))) → (List ((Int) × (Int))) → Option R) → Nat → (Int) → (Int) → (List (Int)) → (Int) → (List (((ByteArray) × (ByteArray)) × ((Int) × (Bool)))) → (List ((Int) × (List (Int)))) → (List ((Int) × (Int))) → Option R
abbrev files_New_38f2_Ty : Type 1 := {R : Type} → ((Int) → Option R) → ((Int) → (List (Int)) → (Int) → (List (((ByteArray) × (ByteArray)) × ((Int) × (Bool)))) → (List ((Int) × (List (Int)))) → (List ((Int) × (Int))) → Option R) → Option R
noncomputable def files_New_38f2_l0_T0 (N : Nat) (c0 : tree_New_1c12_Ty) {R : Type} (nx : (Int) → (Int) → (List (Int)) → (Int) → (List (((ByteArray) × (ByteArray)) × ((Int) × (Bool)))) → (List ((Int) × (List (Int)))) → (List ((Int) × (Int))) → Option R) (k0 : (List (Int)) → (Int) → (List (((ByteArray) × (ByteArray)) × ((Int) × (Bool)))) → (List ((Int) × (List (Int)))) → (List ((Int) × (Int))) → Option R) (x0 : Int) (x1 : Int) (x2 : List (Int)) (x3 : Int) (x4 : List (((ByteArray) × (ByteArray)) × ((Int) × (Bool)))) (x5 : List ((Int) × (List (Int)))) (x6 : List ((Int) × (Int))) : Option R :=
  br (decide (x1 < x0))
  (none)
  (k0 x2 x3 x4 x5 x6)
noncomputable def files_New_38f2_l0 (N : Nat) {R : Type} (k0 : (List (Int)) → (Int) → (List (((ByteArray) × (ByteArray)) × ((Int) × (Bool)))) → (List ((Int) × (List (Int)))) → (List ((Int) × (Int))) → Option R) : Nat → (Int) → (Int) → (List (Int)) → (Int) → (List (((ByteArray) × (ByteArray)) × ((Int) × (Bool)))) → (List ((Int) × (List (Int)))) → (List ((Int) × (Int))) → Option R
  | 0, _, _, _, _, _, _, _ => none
  | n + 1, x0, x1, x2, x3, x4, x5, x6 => files_New_38f2_l0_T0 N (@tree_New_1c12 N) (fun x0 x1 x2 x3 x4 x5 x6 => files_New_38f2_l0 N k0 n x0 x1 x2 x3 x4 x5 x6) k0 x0 x1 x2 x3 x4 x5 x6
noncomputable def files_New_38f2_T (N : Nat) (c0 : tree_New_1c12_Ty) (w0 : files_New_38f2_l0_Ty) {R : Type} (k0 : (Int) → Option R) (k1 : (Int) → (List (Int)) → (Int) → (List (((ByteArray) × (ByteArray)) × ((Int) × (Bool)))) → (List ((Int) × (List (Int)))) → (List ((Int) × (Int))) → Option R) : Option R :=
  c0
  (fun i2 i3 l4 => br (!(decide (i2 = (0 : Int))))
   (k0 i2)
   (w0
    (fun l5 i6 l7 l8 l9 => k1 (0 : Int) l5 i6 l7 l8 l9)
    N (0 : Int) (0 : Int) ((0 : Int) :: ((0 : Int) :: ((0 : Int) :: ((0 : Int) :: ([] : List ((Sh.int IntKind.i64).T)))))) i3 l4 ([] : List (((Sh.int IntKind.i64).T) × ((Sh.int IntKind.u8).isl.T))) ([] : List (((Sh.int IntKind.i64).pair (Sh.int IntKind.i64)).T))))
noncomputable def files_New_38f2 (N : Nat) {R : Type} (k0 : (Int) → Option R) (k1 : (Int) → (List (Int)) → (Int) → (List (((ByteArray) × (ByteArray)) × ((Int) × (Bool)))) → (List ((Int) × (List (Int)))) → (List ((Int) × (Int))) → Option R) : Option R := files_New_38f2_T N (@tree_New_1c12 N) (@files_New_38f2_l0 N) k0 k1
abbrev stringslite_Index_Ty : Type 1 := {R : Type} → (ByteArray) → (ByteArray) → ((Int) → Option R) → Option R
noncomputable def stringslite_Index_T (N : Nat) (c0 : stringslite_IndexByte_Ty) {R : Type} (x0 : ByteArray) (x1 : ByteArray) (k0 : (Int) → Option R) : Option R :=
  br (!(decide ((Nat.cast (ByteArray.size x1) : Int) = (0 : Int))))
  (br (decide (x1 = x0))
   (k0 (0 : Int))
   (br (decide ((Nat.cast (ByteArray.size x1) : Int) = (1 : Int)))
    (br (inB (0 : Int) (ByteArray.size x1))
     (c0 x0 (bt x1 (0 : Int))
      (fun i17 => k0 i17))
     (none))
    (br (decide ((Nat.cast (ByteArray.size x0) : Int) ≤ (Nat.cast (ByteArray.size x1) : Int)))
     (k0 (-1 : Int))
     (none))))
  (k0 (0 : Int))
noncomputable def stringslite_Index (N : Nat) {R : Type} (x0 : ByteArray) (x1 : ByteArray) (k0 : (Int) → Option R) : Option R := stringslite_Index_T N @stringslite_IndexByte x0 x1 k0
abbrev stringslite_Cut_Ty : Type 1 := {R : Type} → (ByteArray) → (ByteArray) → ((ByteArray) → (ByteArray) → (Bool) → Option R) → Option R
noncomputable def stringslite_Cut_T (N : Nat) (c0 : stringslite_Index_Ty) {R : Type} (x0 : ByteArray) (x1 : ByteArray) (k0 : (ByteArray) → (ByteArray) → (Bool) → Option R) : Option R :=
  c0 x0 x1
  (fun i18 => br (decide ((0 : Int) ≤ i18))
   (br (leB i18 (ByteArray.size x0))
    (br (leB (IntKind.wrap .i64 (i18 + (Nat.cast (ByteArray.size x1) : Int))) (ByteArray.size x0))
     (k0 (ByteArray.extract x0 (0 : Nat) (Int.toNat i18)) (ByteArray.extract x0 (Int.toNat (IntKind.wrap .i64 (i18 + (Nat.cast (ByteArray.size x1) : Int)))) (ByteArray.size x0)) true)
     (none))
    (none))
   (k0 x0 (bs []) false))
noncomputable def stringslite_Cut (N : Nat) {R : Type} (x0 : ByteArray) (x1 : ByteArray) (k0 : (ByteArray) → (ByteArray) → (Bool) → Option R) : Option R := stringslite_Cut_T N (@stringslite_Index N) x0 x1 k0
abbrev strings_Cut_Ty : Type 1 := {R : Type} → (ByteArray) → (ByteArray) → ((ByteArray) → (ByteArray) → (Bool) → Option R) → Option R
noncomputable def strings_Cut_T (N : Nat) (c0 : stringslite_Cut_Ty) {R : Type} (x0 : ByteArray) (x1 : ByteArray) (k0 : (ByteArray) → (ByteArray) → (Bool) → Option R) : Option R :=
  c0 x0 x1
  (fun s19 s20 b21 => k0 s19 s20 b21)
noncomputable def strings_Cut (N : Nat) {R : Type} (x0 : ByteArray) (x1 : ByteArray) (k0 : (ByteArray) → (ByteArray) → (Bool) → Option R) : Option R := strings_Cut_T N (@stringslite_Cut N) x0 x1 k0
abbrev check_letter_Ty : Type 1 := {R : Type} → (Int) → ((Bool) → Option R) → Option R
noncomputable def check_letter_T (N : Nat) {R : Type} (x0 : Int) (k0 : (Bool) → Option R) : Option R :=
  br (decide ((97 : Int) ≤ x0))
  (br (!(decide (x0 ≤ (122 : Int))))
   (br (decide ((48 : Int) ≤ x0))
    (br (!(decide (x0 ≤ (57 : Int))))
     (br (!(decide (x0 = (46 : Int))))
      (k0 (decide (x0 = (95 : Int))))
      (k0 true))
     (k0 true))
    (br (!(decide (x0 = (46 : Int))))
     (k0 (decide (x0 = (95 : Int))))
     (k0 true)))
   (k0 true))
  (br (decide ((48 : Int) ≤ x0))
   (br (!(decide (x0 ≤ (57 : Int))))
    (br (!(decide (x0 = (46 : Int))))
     (k0 (decide (x0 = (95 : Int))))
     (k0 true))
    (k0 true))
   (br (!(decide (x0 = (46 : Int))))
    (k0 (decide (x0 = (95 : Int))))
    (k0 true)))
noncomputable def check_letter (N : Nat) {R : Type} (x0 : Int) (k0 : (Bool) → Option R) : Option R := check_letter_T N x0 k0
abbrev check_part_l0_Ty : Type 1 := {R : Type} → ((ByteArray) → (Bool) → Option R) → ((ByteArray) → Option R) → Nat → (ByteArray) → (Int) → (Int) → Option R
abbrev check_part_Ty : Type 1 := {R : Type} → (ByteArray) → ((Bool) → Option R) → Option R
noncomputable def check_part_l0_T0 (N : Nat) (c0 : check_letter_Ty) {R : Type} (nx : (ByteArray) → (Int) → (Int) → Option R) (k0 : (ByteArray) → (Bool) → Option R) (k1 : (ByteArray) → Option R) (x0 : ByteArray) (x1 : Int) (x2 : Int) : Option R :=
  br (decide (x2 < x1))
  (br (inB x2 (ByteArray.size x0))
   (c0 (bt x0 x2)
    (fun b25 => br (!b25)
     (k0 x0 false)
     (nx x0 x1 (IntKind.wrap .i64 (x2 + (1 : Int))))))
   (none))
  (k1 x0)
noncomputable def check_part_l0 (N : Nat) {R : Type} (k0 : (ByteArray) → (Bool) → Option R) (k1 : (ByteArray) → Option R) : Nat → (ByteArray) → (Int) → (Int) → Option R
  | 0, _, _, _ => none
  | n + 1, x0, x1, x2 => check_part_l0_T0 N (@check_letter N) (fun x0 x1 x2 => check_part_l0 N k0 k1 n x0 x1 x2) k0 k1 x0 x1 x2
noncomputable def check_part_T (N : Nat) (c0 : check_letter_Ty) (w0 : check_part_l0_Ty) {R : Type} (x0 : ByteArray) (k0 : (Bool) → Option R) : Option R :=
  w0
  (fun s26 b27 => k0 b27)
  (fun s28 => br (!(decide (s28 = (bs []))))
   (br (!(decide (s28 = (bs [46]))))
    (k0 (!(decide (s28 = (bs [46, 46])))))
    (k0 false))
   (k0 false))
  N x0 (Nat.cast (ByteArray.size x0) : Int) (0 : Int)
noncomputable def check_part (N : Nat) {R : Type} (x0 : ByteArray) (k0 : (Bool) → Option R) : Option R := check_part_T N (@check_letter N) (@check_part_l0 N) x0 k0
abbrev check_Name_Ty : Type 1 := {R : Type} → (ByteArray) → ((Bool) → Option R) → Option R
noncomputable def check_Name_T (N : Nat) (c0 : check_part_Ty) (c1 : strings_Cut_Ty) {R : Type} (x0 : ByteArray) (k0 : (Bool) → Option R) : Option R :=
  br (decide ((8 : Int) < (Nat.cast (ByteArray.size x0) : Int)))
  (k0 false)
  (c1 x0 (bs [47])
   (fun s22 s23 b24 => c0 s22
    (fun b29 => br b29
     (br (!(!b24))
      (c0 s23
       (fun b30 => k0 b30))
      (k0 true))
     (k0 false))))
noncomputable def check_Name (N : Nat) {R : Type} (x0 : ByteArray) (k0 : (Bool) → Option R) : Option R := check_Name_T N (@check_part N) (@strings_Cut N) x0 k0
abbrev names_May_Ty : Type 1 := {R : Type} → (ByteArray) → ((Bool) → Option R) → Option R
noncomputable def names_May_T (N : Nat) (c0 : check_Name_Ty) {R : Type} (x0 : ByteArray) (k0 : (Bool) → Option R) : Option R :=
  c0 x0
  (fun b31 => k0 b31)
noncomputable def names_May (N : Nat) {R : Type} (x0 : ByteArray) (k0 : (Bool) → Option R) : Option R := names_May_T N (@check_Name N) x0 k0
abbrev names_Split_Ty : Type 1 := {R : Type} → (ByteArray) → ((ByteArray) → (ByteArray) → Option R) → Option R
noncomputable def names_Split_T (N : Nat) (c0 : strings_Cut_Ty) (c1 : names_May_Ty) {R : Type} (x0 : ByteArray) (k0 : (ByteArray) → (ByteArray) → Option R) : Option R :=
  c1 x0
  (fun b32 => br (!b32)
   (k0 (bs []) (bs []))
   (c0 x0 (bs [47])
    (fun s33 s34 b35 => br (!b35)
     (k0 (bs []) s33)
     (k0 s33 s34))))
noncomputable def names_Split (N : Nat) {R : Type} (x0 : ByteArray) (k0 : (ByteArray) → (ByteArray) → Option R) : Option R := names_Split_T N (@strings_Cut N) (@names_May N) x0 k0
abbrev tree_of_Ty : Type 1 := {R : Type} → (ByteArray) → ((ByteArray) → (ByteArray) → Option R) → Option R
noncomputable def tree_of_T (N : Nat) (c0 : names_Split_Ty) {R : Type} (x0 : ByteArray) (k0 : (ByteArray) → (ByteArray) → Option R) : Option R :=
  c0 x0
  (fun s36 s37 => k0 s36 s37)
noncomputable def tree_of (N : Nat) {R : Type} (x0 : ByteArray) (k0 : (ByteArray) → (ByteArray) → Option R) : Option R := tree_of_T N (@names_Split N) x0 k0
abbrev tree_Tree_above_2de7_Ty : Type 1 := {R : Type} → (ByteArray) → (ByteArray) → (Int) → (List (((ByteArray) × (ByteArray)) × ((Int) × (Bool)))) → ((Int) → (Int) → (List (((ByteArray) × (ByteArray)) × ((Int) × (Bool)))) → Option R) → Option R
noncomputable def tree_Tree_above_2de7_T (N : Nat) {R : Type} (x0 : ByteArray) (x1 : ByteArray) (x2 : Int) (x3 : List (((ByteArray) × (ByteArray)) × ((Int) × (Bool)))) (k0 : (Int) → (Int) → (List (((ByteArray) × (ByteArray)) × ((Int) × (Bool)))) → Option R) : Option R :=
  br (decide (x1 = (bs [])))
  (k0 (65282 : Int) x2 x3)
  (br (decide (x0 = (bs [])))
   (k0 (0 : Int) x2 x3)
   (br ((Option.isSome (mfind (.pair .str .str) (.pair (.int .i64) .bool) x3 ((bs []) , x0))) == (Option.isSome (mfind (.pair .str .str) (.pair (.int .i64) .bool) x3 ((bs []) , x0))))
    (br (!(Option.isSome (mfind (.pair .str .str) (.pair (.int .i64) .bool) x3 ((bs []) , x0))))
     (k0 (65282 : Int) x2 x3)
     (br (!(Option.getD (mfind (.pair .str .str) (.pair (.int .i64) .bool) x3 ((bs []) , x0)) ((0 : Int) , false)).2)
      (k0 (65300 : Int) x2 x3)
      (k0 (0 : Int) x2 x3)))
    (none)))
noncomputable def tree_Tree_above_2de7 (N : Nat) {R : Type} (x0 : ByteArray) (x1 : ByteArray) (x2 : Int) (x3 : List (((ByteArray) × (ByteArray)) × ((Int) × (Bool)))) (k0 : (Int) → (Int) → (List (((ByteArray) × (ByteArray)) × ((Int) × (Bool)))) → Option R) : Option R := tree_Tree_above_2de7_T N x0 x1 x2 x3 k0
abbrev tree_Tree_get_fb98_Ty : Type 1 := {R : Type} → (ByteArray) → (Int) → (List (((ByteArray) × (ByteArray)) × ((Int) × (Bool)))) → ((Int) → (Bool) → (Int) → (Int) → (List (((ByteArray) × (ByteArray)) × ((Int) × (Bool)))) → Option R) → Option R
noncomputable def tree_Tree_get_fb98_T (N : Nat) (c0 : tree_Tree_above_2de7_Ty) (c1 : tree_of_Ty) {R : Type} (x0 : ByteArray) (x1 : Int) (x2 : List (((ByteArray) × (ByteArray)) × ((Int) × (Bool)))) (k0 : (Int) → (Bool) → (Int) → (Int) → (List (((ByteArray) × (ByteArray)) × ((Int) × (Bool)))) → Option R) : Option R :=
  c1 x0
  (fun s38 s39 => c0 s38 s39 x1 x2
   (fun i40 i41 l42 => br (!(decide (i40 = (0 : Int))))
    (k0 (0 : Int) false i40 i41 l42)
    (br ((Option.isSome (mfind (.pair .str .str) (.pair (.int .i64) .bool) l42 (s38 , s39))) == (Option.isSome (mfind (.pair .str .str) (.pair (.int .i64) .bool) l42 (s38 , s39))))
     (br (!(Option.isSome (mfind (.pair .str .str) (.pair (.int .i64) .bool) l42 (s38 , s39))))
      (k0 (0 : Int) false (65282 : Int) i41 l42)
      (k0 (Option.getD (mfind (.pair .str .str) (.pair (.int .i64) .bool) l42 (s38 , s39)) ((0 : Int) , false)).1 (Option.getD (mfind (.pair .str .str) (.pair (.int .i64) .bool) l42 (s38 , s39)) ((0 : Int) , false)).2 (0 : Int) i41 l42))
     (none))))
noncomputable def tree_Tree_get_fb98 (N : Nat) {R : Type} (x0 : ByteArray) (x1 : Int) (x2 : List (((ByteArray) × (ByteArray)) × ((Int) × (Bool)))) (k0 : (Int) → (Bool) → (Int) → (Int) → (List (((ByteArray) × (ByteArray)) × ((Int) × (Bool)))) → Option R) : Option R := tree_Tree_get_fb98_T N (@tree_Tree_above_2de7 N) (@tree_of N) x0 x1 x2 k0
abbrev tree_Tree_Find_fb98_Ty : Type 1 := {R : Type} → (ByteArray) → (Int) → (List (((ByteArray) × (ByteArray)) × ((Int) × (Bool)))) → ((Int) → (Bool) → (Int) → (Int) → (List (((ByteArray) × (ByteArray)) × ((Int) × (Bool)))) → Option R) → Option R
noncomputable def tree_Tree_Find_fb98_T (N : Nat) (c0 : tree_Tree_get_fb98_Ty) {R : Type} (x0 : ByteArray) (x1 : Int) (x2 : List (((ByteArray) × (ByteArray)) × ((Int) × (Bool)))) (k0 : (Int) → (Bool) → (Int) → (Int) → (List (((ByteArray) × (ByteArray)) × ((Int) × (Bool)))) → Option R) : Option R :=
  c0 x0 x1 x2
  (fun i43 b44 i45 i46 l47 => br (!(decide (i45 = (0 : Int))))
   (k0 (-1 : Int) false i45 i46 l47)
   (k0 i43 b44 (0 : Int) i46 l47))
noncomputable def tree_Tree_Find_fb98 (N : Nat) {R : Type} (x0 : ByteArray) (x1 : Int) (x2 : List (((ByteArray) × (ByteArray)) × ((Int) × (Bool)))) (k0 : (Int) → (Bool) → (Int) → (Int) → (List (((ByteArray) × (ByteArray)) × ((Int) × (Bool)))) → Option R) : Option R := tree_Tree_Find_fb98_T N (@tree_Tree_get_fb98 N) x0 x1 x2 k0
abbrev slices_Index__int_int_9a75_l0_Ty : Type 1 := {R : Type} → ((Int) → (List (Int)) → (Int) → (List (((ByteArray) × (ByteArray)) × ((Int) × (Bool)))) → (List ((Int) × (List (Int)))) → (List ((Int) × (Int))) → Option R) → ((List (Int)) → (Int) → (List (((ByteArray) × (ByteArray)) × ((Int) × (Bool)))) → (List ((Int) × (List (Int)))) → (List ((Int) × (Int))) → Option R) → Nat → (Nat) → (Nat) → (Int) → (Int) → (Int) → (List (Int)) → (Int) → (List (((ByteArray) × (ByteArray)) × ((Int) × (Bool)))) → (List ((Int) × (List (Int)))) → (List ((Int) × (Int))) → Option R
abbrev slices_Index__int_int_9a75_Ty : Type 1 := {R : Type} → (Nat) → (Nat) → (Int) → (List (Int)) → (Int) → (List (((ByteArray) × (ByteArray)) × ((Int) × (Bool)))) → (List ((Int) × (List (Int)))) → (List ((Int) × (Int))) → ((Int) → (List (Int)) → (Int) → (List (((ByteArray) × (ByteArray)) × ((Int) × (Bool)))) → (List ((Int) × (List (Int)))) → (List ((Int) × (Int))) → Option R) → Option R
noncomputable def slices_Index__int_int_9a75_l0_T0 (N : Nat) {R : Type} (nx : (Nat) → (Nat) → (Int) → (Int) → (Int) → (List (Int)) → (Int) → (List (((ByteArray) × (ByteArray)) × ((Int) × (Bool)))) → (List ((Int) × (List (Int)))) → (List ((Int) × (Int))) → Option R) (k0 : (Int) → (List (Int)) → (Int) → (List (((ByteArray) × (ByteArray)) × ((Int) × (Bool)))) → (List ((Int) × (List (Int)))) → (List ((Int) × (Int))) → Option R) (k1 : (List (Int)) → (Int) → (List (((ByteArray) × (ByteArray)) × ((Int) × (Bool)))) → (List ((Int) × (List (Int)))) → (List ((Int) × (Int))) → Option R) (x0 : Nat) (x1 : Nat) (x2 : Int) (x3 : Int) (x4 : Int) (x5 : List (Int)) (x6 : Int) (x7 : List (((ByteArray) × (ByteArray)) × ((Int) × (Bool)))) (x8 : List ((Int) × (List (Int)))) (x9 : List ((Int) × (Int))) : Option R :=
  br (decide (x4 < x3))
  (br (inB x4 x0)
   (br (decide ((Int.toNat x4) < (4 : Nat)))
    (br (decide (x2 = (List.getD x5 (Int.toNat x4) (0 : Int))))
     (k0 x4 x5 x6 x7 x8 x9)
     (nx x0 x1 x2 x3 (IntKind.wrap .i64 (x4 + (1 : Int))) x5 x6 x7 x8 x9))
    (none))
   (none))
  (k1 x5 x6 x7 x8 x9)
noncomputable def slices_Index__int_int_9a75_l0 (N : Nat) {R : Type} (k0 : (Int) → (List (Int)) → (Int) → (List (((ByteArray) × (ByteArray)) × ((Int) × (Bool)))) → (List ((Int) × (List (Int)))) → (List ((Int) × (Int))) → Option R) (k1 : (List (Int)) → (Int) → (List (((ByteArray) × (ByteArray)) × ((Int) × (Bool)))) → (List ((Int) × (List (Int)))) → (List ((Int) × (Int))) → Option R) : Nat → (Nat) → (Nat) → (Int) → (Int) → (Int) → (List (Int)) → (Int) → (List (((ByteArray) × (ByteArray)) × ((Int) × (Bool)))) → (List ((Int) × (List (Int)))) → (List ((Int) × (Int))) → Option R
  | 0, _, _, _, _, _, _, _, _, _, _ => none
  | n + 1, x0, x1, x2, x3, x4, x5, x6, x7, x8, x9 => slices_Index__int_int_9a75_l0_T0 N (fun x0 x1 x2 x3 x4 x5 x6 x7 x8 x9 => slices_Index__int_int_9a75_l0 N k0 k1 n x0 x1 x2 x3 x4 x5 x6 x7 x8 x9) k0 k1 x0 x1 x2 x3 x4 x5 x6 x7 x8 x9
noncomputable def slices_Index__int_int_9a75_T (N : Nat) (w0 : slices_Index__int_int_9a75_l0_Ty) {R : Type} (x0 : Nat) (x1 : Nat) (x2 : Int) (x3 : List (Int)) (x4 : Int) (x5 : List (((ByteArray) × (ByteArray)) × ((Int) × (Bool)))) (x6 : List ((Int) × (List (Int)))) (x7 : List ((Int) × (Int))) (k0 : (Int) → (List (Int)) → (Int) → (List (((ByteArray) × (ByteArray)) × ((Int) × (Bool)))) → (List ((Int) × (List (Int)))) → (List ((Int) × (Int))) → Option R) : Option R :=
  w0
  (fun i53 l54 i55 l56 l57 l58 => k0 i53 l54 i55 l56 l57 l58)
  (fun l59 i60 l61 l62 l63 => k0 (-1 : Int) l59 i60 l61 l62 l63)
  N x0 x1 x2 (Nat.cast x0 : Int) (0 : Int) x3 x4 x5 x6 x7
noncomputable def slices_Index__int_int_9a75 (N : Nat) {R : Type} (x0 : Nat) (x1 : Nat) (x2 : Int) (x3 : List (Int)) (x4 : Int) (x5 : List (((ByteArray) × (ByteArray)) × ((Int) × (Bool)))) (x6 : List ((Int) × (List (Int)))) (x7 : List ((Int) × (Int))) (k0 : (Int) → (List (Int)) → (Int) → (List (((ByteArray) × (ByteArray)) × ((Int) × (Bool)))) → (List ((Int) × (List (Int)))) → (List ((Int) × (Int))) → Option R) : Option R := slices_Index__int_int_9a75_T N (@slices_Index__int_int_9a75_l0 N) x0 x1 x2 x3 x4 x5 x6 x7 k0
abbrev files_Files_free_18fa_Ty : Type 1 := {R : Type} → (List (Int)) → (Int) → (List (((ByteArray) × (ByteArray)) × ((Int) × (Bool)))) → (List ((Int) × (List (Int)))) → (List ((Int) × (Int))) → ((Int) → (Bool) → (List (Int)) → (Int) → (List (((ByteArray) × (ByteArray)) × ((Int) × (Bool)))) → (List ((Int) × (List (Int)))) → (List ((Int) × (Int))) → Option R) → Option R
noncomputable def files_Files_free_18fa_T (N : Nat) (c0 : slices_Index__int_int_9a75_Ty) {R : Type} (x0 : List (Int)) (x1 : Int) (x2 : List (((ByteArray) × (ByteArray)) × ((Int) × (Bool)))) (x3 : List ((Int) × (List (Int)))) (x4 : List ((Int) × (Int))) (k0 : (Int) → (Bool) → (List (Int)) → (Int) → (List (((ByteArray) × (ByteArray)) × ((Int) × (Bool)))) → (List ((Int) × (List (Int)))) → (List ((Int) × (Int))) → Option R) : Option R :=
  c0 (4 : Nat) (4 : Nat) (0 : Int) x0 x1 x2 x3 x4
  (fun i64 l65 i66 l67 l68 l69 => k0 i64 (decide ((0 : Int) ≤ i64)) l65 i66 l67 l68 l69)
noncomputable def files_Files_free_18fa (N : Nat) {R : Type} (x0 : List (Int)) (x1 : Int) (x2 : List (((ByteArray) × (ByteArray)) × ((Int) × (Bool)))) (x3 : List ((Int) × (List (Int)))) (x4 : List ((Int) × (Int))) (k0 : (Int) → (Bool) → (List (Int)) → (Int) → (List (((ByteArray) × (ByteArray)) × ((Int) × (Bool)))) → (List ((Int) × (List (Int)))) → (List ((Int) × (Int))) → Option R) : Option R := files_Files_free_18fa_T N (@slices_Index__int_int_9a75 N) x0 x1 x2 x3 x4 k0
abbrev maps_Clone_map_tree_keytree_entry_tree_key_tree_entry_df6b_Ty : Type 1 := {R : Type} → (List (((ByteArray) × (ByteArray)) × ((Int) × (Bool)))) → ((List (((ByteArray) × (ByteArray)) × ((Int) × (Bool)))) → (List (((ByteArray) × (ByteArray)) × ((Int) × (Bool)))) → Option R) → Option R
noncomputable def maps_Clone_map_tree_keytree_entry_tree_key_tree_entry_df6b {R : Type} (x0 : List (((ByteArray) × (ByteArray)) × ((Int) × (Bool)))) (k0 : (List (((ByteArray) × (ByteArray)) × ((Int) × (Bool)))) → (List (((ByteArray) × (ByteArray)) × ((Int) × (Bool)))) → Option R) : Option R := k0 x0 x0
abbrev tree_Tree_Copy_a28d_Ty : Type 1 := {R : Type} → (Int) → (List (((ByteArray) × (ByteArray)) × ((Int) × (Bool)))) → ((Int) → (List (((ByteArray) × (ByteArray)) × ((Int) × (Bool)))) → (Int) → (List (((ByteArray) × (ByteArray)) × ((Int) × (Bool)))) → Option R) → Option R
noncomputable def tree_Tree_Copy_a28d_T (N : Nat) (c0 : maps_Clone_map_tree_keytree_entry_tree_key_tree_entry_df6b_Ty) {R : Type} (x0 : Int) (x1 : List (((ByteArray) × (ByteArray)) × ((Int) × (Bool)))) (k0 : (Int) → (List (((ByteArray) × (ByteArray)) × ((Int) × (Bool)))) → (Int) → (List (((ByteArray) × (ByteArray)) × ((Int) × (Bool)))) → Option R) : Option R :=
  c0 x1
  (fun l77 l78 => br (decide (x0 = x0))
   (k0 x0 l77 x0 l78)
   (none))
noncomputable def tree_Tree_Copy_a28d (N : Nat) {R : Type} (x0 : Int) (x1 : List (((ByteArray) × (ByteArray)) × ((Int) × (Bool)))) (k0 : (Int) → (List (((ByteArray) × (ByteArray)) × ((Int) × (Bool)))) → (Int) → (List (((ByteArray) × (ByteArray)) × ((Int) × (Bool)))) → Option R) : Option R := tree_Tree_Copy_a28d_T N @maps_Clone_map_tree_keytree_entry_tree_key_tree_entry_df6b x0 x1 k0
abbrev tree_Tree_Make_c502_Ty : Type 1 := {R : Type} → (ByteArray) → (Bool) → (Int) → (List (((ByteArray) × (ByteArray)) × ((Int) × (Bool)))) → ((Int) → (Int) → (Int) → (List (((ByteArray) × (ByteArray)) × ((Int) × (Bool)))) → Option R) → Option R
noncomputable def tree_Tree_Make_c502_T (N : Nat) (c0 : tree_Tree_above_2de7_Ty) (c1 : tree_of_Ty) {R : Type} (x0 : ByteArray) (x1 : Bool) (x2 : Int) (x3 : List (((ByteArray) × (ByteArray)) × ((Int) × (Bool)))) (k0 : (Int) → (Int) → (Int) → (List (((ByteArray) × (ByteArray)) × ((Int) × (Bool)))) → Option R) : Option R :=
  c1 x0
  (fun s83 s84 => c0 s83 s84 x2 x3
   (fun i85 i86 l87 => br (!(decide (i85 = (0 : Int))))
    (k0 (-1 : Int) i85 i86 l87)
    (br ((Option.isSome (mfind (.pair .str .str) (.pair (.int .i64) .bool) l87 (s83 , s84))) == (Option.isSome (mfind (.pair .str .str) (.pair (.int .i64) .bool) l87 (s83 , s84))))
     (br (Option.isSome (mfind (.pair .str .str) (.pair (.int .i64) .bool) l87 (s83 , s84)))
      (k0 (-1 : Int) (65297 : Int) i86 l87)
      (br x1
       (br (!(decide (s83 = (bs []))))
        (k0 (-1 : Int) (65302 : Int) i86 l87)
        (br (decide ((8 : Int) ≤ (Nat.cast (List.length l87) : Int)))
         (k0 (-1 : Int) (65308 : Int) i86 l87)
         (k0 (IntKind.wrap .i64 ((IntKind.wrap .i64 (i86 + (1 : Int))) - (1 : Int))) (0 : Int) (IntKind.wrap .i64 (i86 + (1 : Int))) (mput (.pair .str .str) (.pair (.int .i64) .bool) l87 (s83 , s84) (i86 , x1)))))
       (br (decide ((8 : Int) ≤ (Nat.cast (List.length l87) : Int)))
        (k0 (-1 : Int) (65308 : Int) i86 l87)
        (k0 (IntKind.wrap .i64 ((IntKind.wrap .i64 (i86 + (1 : Int))) - (1 : Int))) (0 : Int) (IntKind.wrap .i64 (i86 + (1 : Int))) (mput (.pair .str .str) (.pair (.int .i64) .bool) l87 (s83 , s84) (i86 , x1))))))
     (none))))
noncomputable def tree_Tree_Make_c502 (N : Nat) {R : Type} (x0 : ByteArray) (x1 : Bool) (x2 : Int) (x3 : List (((ByteArray) × (ByteArray)) × ((Int) × (Bool)))) (k0 : (Int) → (Int) → (Int) → (List (((ByteArray) × (ByteArray)) × ((Int) × (Bool)))) → Option R) : Option R := tree_Tree_Make_c502_T N (@tree_Tree_above_2de7 N) (@tree_of N) x0 x1 x2 x3 k0
abbrev files_Files_may_f601_Ty : Type 1 := {R : Type} → (ByteArray) → (List (Int)) → (Int) → (List (((ByteArray) × (ByteArray)) × ((Int) × (Bool)))) → (List ((Int) × (List (Int)))) → (List ((Int) × (Int))) → ((Bool) → (List (Int)) → (Int) → (List (((ByteArray) × (ByteArray)) × ((Int) × (Bool)))) → (List ((Int) × (List (Int)))) → (List ((Int) × (Int))) → Option R) → Option R
noncomputable def files_Files_may_f601_T (N : Nat) (c0 : tree_Tree_Make_c502_Ty) (c1 : tree_Tree_Copy_a28d_Ty) {R : Type} (x0 : ByteArray) (x1 : List (Int)) (x2 : Int) (x3 : List (((ByteArray) × (ByteArray)) × ((Int) × (Bool)))) (x4 : List ((Int) × (List (Int)))) (x5 : List ((Int) × (Int))) (k0 : (Bool) → (List (Int)) → (Int) → (List (((ByteArray) × (ByteArray)) × ((Int) × (Bool)))) → (List ((Int) × (List (Int)))) → (List ((Int) × (Int))) → Option R) : Option R :=
  c1 x2 x3
  (fun i79 l80 i81 l82 => c0 x0 false i81 l82
   (fun i88 i89 i90 l91 => k0 (!(decide (i89 = (65282 : Int)))) x1 i79 l80 x4 x5))
noncomputable def files_Files_may_f601 (N : Nat) {R : Type} (x0 : ByteArray) (x1 : List (Int)) (x2 : Int) (x3 : List (((ByteArray) × (ByteArray)) × ((Int) × (Bool)))) (x4 : List ((Int) × (List (Int)))) (x5 : List ((Int) × (Int))) (k0 : (Bool) → (List (Int)) → (Int) → (List (((ByteArray) × (ByteArray)) × ((Int) × (Bool)))) → (List ((Int) × (List (Int)))) → (List ((Int) × (Int))) → Option R) : Option R := files_Files_may_f601_T N (@tree_Tree_Make_c502 N) (@tree_Tree_Copy_a28d N) x0 x1 x2 x3 x4 x5 k0
abbrev files_Files_Open_f601_Ty : Type 1 := {R : Type} → (ByteArray) → (List (Int)) → (Int) → (List (((ByteArray) × (ByteArray)) × ((Int) × (Bool)))) → (List ((Int) × (List (Int)))) → (List ((Int) × (Int))) → ((Int) → (List (Int)) → (Int) → (List (((ByteArray) × (ByteArray)) × ((Int) × (Bool)))) → (List ((Int) × (List (Int)))) → (List ((Int) × (Int))) → Option R) → Option R
noncomputable def files_Files_Open_f601_T (N : Nat) (c0 : tree_Tree_Make_c502_Ty) (c1 : files_Files_may_f601_Ty) (c2 : files_Files_free_18fa_Ty) (c3 : tree_Tree_Find_fb98_Ty) {R : Type} (x0 : ByteArray) (x1 : List (Int)) (x2 : Int) (x3 : List (((ByteArray) × (ByteArray)) × ((Int) × (Bool)))) (x4 : List ((Int) × (List (Int)))) (x5 : List ((Int) × (Int))) (k0 : (Int) → (List (Int)) → (Int) → (List (((ByteArray) × (ByteArray)) × ((Int) × (Bool)))) → (List ((Int) × (List (Int)))) → (List ((Int) × (Int))) → Option R) : Option R :=
  c3 x0 x2 x3
  (fun i102 b103 i104 i105 l106 => c2 x1 i105 l106 x4 x5
   (fun i107 b108 l109 i110 l111 l112 l113 => br (decide (i104 = (0 : Int)))
    (br b103
     (k0 (65301 : Int) l109 i110 l111 l112 l113)
     (br (decide (i104 = (65300 : Int)))
      (k0 i104 l109 i110 l111 l112 l113)
      (br (!(decide (i104 = (0 : Int))))
       (c1 x0 l109 i110 l111 l112 l113
        (fun b114 l115 i116 l117 l118 l119 => br (!b114)
         (k0 (65282 : Int) l115 i116 l117 l118 l119)
         (br (!b108)
          (k0 (65304 : Int) l115 i116 l117 l118 l119)
          (br (!(decide (i104 = (0 : Int))))
           (c0 x0 false i116 l117
            (fun i120 i121 i122 l123 => br (!(decide (i121 = (0 : Int))))
             (k0 i121 l115 i122 l123 l118 l119)
             (br (((fits (0 : Nat) (List.length l119) l119) && (decide ((((List.length l119) + (1 : Nat)) * (16 : Nat)) ≤ (70368744177664 : Nat)))) && true)
              (br (inB i107 (4 : Nat))
               (br (decide ((Int.toNat i107) < (4 : Nat)))
                (k0 (IntKind.wrap .u16 i107) (List.set l115 (Int.toNat i107) (Nat.cast ((List.length l119) + (1 : Nat)) : Int)) i122 l123 l118 ((sub l119 (0 : Nat) (List.length l119)) ++ ((i120 , (0 : Int)) :: ([] : List (((Sh.int IntKind.i64).pair (Sh.int IntKind.i64)).T)))))
                (none))
               (none))
              (none))))
           (br (((fits (0 : Nat) (List.length l119) l119) && (decide ((((List.length l119) + (1 : Nat)) * (16 : Nat)) ≤ (70368744177664 : Nat)))) && true)
            (br (inB i107 (4 : Nat))
             (br (decide ((Int.toNat i107) < (4 : Nat)))
              (k0 (IntKind.wrap .u16 i107) (List.set l115 (Int.toNat i107) (Nat.cast ((List.length l119) + (1 : Nat)) : Int)) i116 l117 l118 ((sub l119 (0 : Nat) (List.length l119)) ++ ((i102 , (0 : Int)) :: ([] : List (((Sh.int IntKind.i64).pair (Sh.int IntKind.i64)).T)))))
              (none))
             (none))
            (none))))))
       (br (!b108)
        (k0 (65304 : Int) l109 i110 l111 l112 l113)
        (br (!(decide (i104 = (0 : Int))))
         (c0 x0 false i110 l111
          (fun i124 i125 i126 l127 => br (!(decide (i125 = (0 : Int))))
           (k0 i125 l109 i126 l127 l112 l113)
           (br (((fits (0 : Nat) (List.length l113) l113) && (decide ((((List.length l113) + (1 : Nat)) * (16 : Nat)) ≤ (70368744177664 : Nat)))) && true)
            (br (inB i107 (4 : Nat))
             (br (decide ((Int.toNat i107) < (4 : Nat)))
              (k0 (IntKind.wrap .u16 i107) (List.set l109 (Int.toNat i107) (Nat.cast ((List.length l113) + (1 : Nat)) : Int)) i126 l127 l112 ((sub l113 (0 : Nat) (List.length l113)) ++ ((i124 , (0 : Int)) :: ([] : List (((Sh.int IntKind.i64).pair (Sh.int IntKind.i64)).T)))))
              (none))
             (none))
            (none))))
         (br (((fits (0 : Nat) (List.length l113) l113) && (decide ((((List.length l113) + (1 : Nat)) * (16 : Nat)) ≤ (70368744177664 : Nat)))) && true)
          (br (inB i107 (4 : Nat))
           (br (decide ((Int.toNat i107) < (4 : Nat)))
            (k0 (IntKind.wrap .u16 i107) (List.set l109 (Int.toNat i107) (Nat.cast ((List.length l113) + (1 : Nat)) : Int)) i110 l111 l112 ((sub l113 (0 : Nat) (List.length l113)) ++ ((i102 , (0 : Int)) :: ([] : List (((Sh.int IntKind.i64).pair (Sh.int IntKind.i64)).T)))))
            (none))
           (none))
          (none)))))))
    (br (decide (i104 = (65300 : Int)))
     (k0 i104 l109 i110 l111 l112 l113)
     (br (!(decide (i104 = (0 : Int))))
      (c1 x0 l109 i110 l111 l112 l113
       (fun b128 l129 i130 l131 l132 l133 => br (!b128)
        (k0 (65282 : Int) l129 i130 l131 l132 l133)
        (br (!b108)
         (k0 (65304 : Int) l129 i130 l131 l132 l133)
         (br (!(decide (i104 = (0 : Int))))
          (c0 x0 false i130 l131
           (fun i134 i135 i136 l137 => br (!(decide (i135 = (0 : Int))))
            (k0 i135 l129 i136 l137 l132 l133)
            (br (((fits (0 : Nat) (List.length l133) l133) && (decide ((((List.length l133) + (1 : Nat)) * (16 : Nat)) ≤ (70368744177664 : Nat)))) && true)
             (br (inB i107 (4 : Nat))
              (br (decide ((Int.toNat i107) < (4 : Nat)))
               (k0 (IntKind.wrap .u16 i107) (List.set l129 (Int.toNat i107) (Nat.cast ((List.length l133) + (1 : Nat)) : Int)) i136 l137 l132 ((sub l133 (0 : Nat) (List.length l133)) ++ ((i134 , (0 : Int)) :: ([] : List (((Sh.int IntKind.i64).pair (Sh.int IntKind.i64)).T)))))
               (none))
              (none))
             (none))))
          (br (((fits (0 : Nat) (List.length l133) l133) && (decide ((((List.length l133) + (1 : Nat)) * (16 : Nat)) ≤ (70368744177664 : Nat)))) && true)
           (br (inB i107 (4 : Nat))
            (br (decide ((Int.toNat i107) < (4 : Nat)))
             (k0 (IntKind.wrap .u16 i107) (List.set l129 (Int.toNat i107) (Nat.cast ((List.length l133) + (1 : Nat)) : Int)) i130 l131 l132 ((sub l133 (0 : Nat) (List.length l133)) ++ ((i102 , (0 : Int)) :: ([] : List (((Sh.int IntKind.i64).pair (Sh.int IntKind.i64)).T)))))
             (none))
            (none))
           (none))))))
      (br (!b108)
       (k0 (65304 : Int) l109 i110 l111 l112 l113)
       (br (!(decide (i104 = (0 : Int))))
        (c0 x0 false i110 l111
         (fun i138 i139 i140 l141 => br (!(decide (i139 = (0 : Int))))
          (k0 i139 l109 i140 l141 l112 l113)
          (br (((fits (0 : Nat) (List.length l113) l113) && (decide ((((List.length l113) + (1 : Nat)) * (16 : Nat)) ≤ (70368744177664 : Nat)))) && true)
           (br (inB i107 (4 : Nat))
            (br (decide ((Int.toNat i107) < (4 : Nat)))
             (k0 (IntKind.wrap .u16 i107) (List.set l109 (Int.toNat i107) (Nat.cast ((List.length l113) + (1 : Nat)) : Int)) i140 l141 l112 ((sub l113 (0 : Nat) (List.length l113)) ++ ((i138 , (0 : Int)) :: ([] : List (((Sh.int IntKind.i64).pair (Sh.int IntKind.i64)).T)))))
             (none))
            (none))
           (none))))
        (br (((fits (0 : Nat) (List.length l113) l113) && (decide ((((List.length l113) + (1 : Nat)) * (16 : Nat)) ≤ (70368744177664 : Nat)))) && true)
         (br (inB i107 (4 : Nat))
          (br (decide ((Int.toNat i107) < (4 : Nat)))
           (k0 (IntKind.wrap .u16 i107) (List.set l109 (Int.toNat i107) (Nat.cast ((List.length l113) + (1 : Nat)) : Int)) i110 l111 l112 ((sub l113 (0 : Nat) (List.length l113)) ++ ((i102 , (0 : Int)) :: ([] : List (((Sh.int IntKind.i64).pair (Sh.int IntKind.i64)).T)))))
           (none))
          (none))
         (none))))))))
noncomputable def files_Files_Open_f601 (N : Nat) {R : Type} (x0 : ByteArray) (x1 : List (Int)) (x2 : Int) (x3 : List (((ByteArray) × (ByteArray)) × ((Int) × (Bool)))) (x4 : List ((Int) × (List (Int)))) (x5 : List ((Int) × (Int))) (k0 : (Int) → (List (Int)) → (Int) → (List (((ByteArray) × (ByteArray)) × ((Int) × (Bool)))) → (List ((Int) × (List (Int)))) → (List ((Int) × (Int))) → Option R) : Option R := files_Files_Open_f601_T N (@tree_Tree_Make_c502 N) (@files_Files_may_f601 N) (@files_Files_free_18fa N) (@tree_Tree_Find_fb98 N) x0 x1 x2 x3 x4 x5 k0
abbrev files_Files_file_b447_Ty : Type 1 := {R : Type} → (Int) → (List (Int)) → (Int) → (List (((ByteArray) × (ByteArray)) × ((Int) × (Bool)))) → (List ((Int) × (List (Int)))) → (List ((Int) × (Int))) → ((List (Int)) → (Int) → (List (((ByteArray) × (ByteArray)) × ((Int) × (Bool)))) → (List ((Int) × (List (Int)))) → (List ((Int) × (Int))) → Option R) → ((Int) → (List (Int)) → (Int) → (List (((ByteArray) × (ByteArray)) × ((Int) × (Bool)))) → (List ((Int) × (List (Int)))) → (List ((Int) × (Int))) → Option R) → Option R
noncomputable def files_Files_file_b447_T (N : Nat) {R : Type} (x0 : Int) (x1 : List (Int)) (x2 : Int) (x3 : List (((ByteArray) × (ByteArray)) × ((Int) × (Bool)))) (x4 : List ((Int) × (List (Int)))) (x5 : List ((Int) × (Int))) (k0 : (List (Int)) → (Int) → (List (((ByteArray) × (ByteArray)) × ((Int) × (Bool)))) → (List ((Int) × (List (Int)))) → (List ((Int) × (Int))) → Option R) (k1 : (Int) → (List (Int)) → (Int) → (List (((ByteArray) × (ByteArray)) × ((Int) × (Bool)))) → (List ((Int) × (List (Int)))) → (List ((Int) × (Int))) → Option R) : Option R :=
  br (!(decide ((4 : Int) ≤ x0)))
  (br (inB x0 (4 : Nat))
   (br (decide ((Int.toNat x0) < (4 : Nat)))
    (br (decide ((List.getD x1 (Int.toNat x0) (0 : Int)) = (0 : Int)))
     (k0 x1 x2 x3 x4 x5)
     (br (inB x0 (4 : Nat))
      (br (decide ((Int.toNat x0) < (4 : Nat)))
       (br (inB (IntKind.wrap .i64 ((List.getD x1 (Int.toNat x0) (0 : Int)) - (1 : Int))) (List.length x5))
        (k1 (IntKind.wrap .i64 ((List.getD x1 (Int.toNat x0) (0 : Int)) - (1 : Int))) x1 x2 x3 x4 x5)
        (none))
       (none))
      (none)))
    (none))
   (none))
  (k0 x1 x2 x3 x4 x5)
noncomputable def files_Files_file_b447 (N : Nat) {R : Type} (x0 : Int) (x1 : List (Int)) (x2 : Int) (x3 : List (((ByteArray) × (ByteArray)) × ((Int) × (Bool)))) (x4 : List ((Int) × (List (Int)))) (x5 : List ((Int) × (Int))) (k0 : (List (Int)) → (Int) → (List (((ByteArray) × (ByteArray)) × ((Int) × (Bool)))) → (List ((Int) × (List (Int)))) → (List ((Int) × (Int))) → Option R) (k1 : (Int) → (List (Int)) → (Int) → (List (((ByteArray) × (ByteArray)) × ((Int) × (Bool)))) → (List ((Int) × (List (Int)))) → (List ((Int) × (Int))) → Option R) : Option R := files_Files_file_b447_T N x0 x1 x2 x3 x4 x5 k0 k1
abbrev slices_Clone__byte_byte_Ty : Type 1 := {R : Type} → (List (Int)) → ((List (Int)) → Option R) → Option R
noncomputable def slices_Clone__byte_byte {R : Type} (x0 : List (Int)) (k0 : (List (Int)) → Option R) : Option R := br ((decide (((0 : Nat) + (List.length x0)) * (1 : Nat) ≤ (70368744177664 : Nat))) && true) (k0 x0) (none)
abbrev files_sized_l0_Ty : Type 1 := {R : Type} → ((List (Int)) → Option R) → Nat → (Int) → (List (Int)) → Option R
abbrev files_sized_Ty : Type 1 := {R : Type} → (List (Int)) → (Int) → ((List (Int)) → Option R) → Option R
noncomputable def files_sized_l0_T0 (N : Nat) (c0 : slices_Clone__byte_byte_Ty) {R : Type} (nx : (Int) → (List (Int)) → Option R) (k0 : (List (Int)) → Option R) (x0 : Int) (x1 : List (Int)) : Option R :=
  br (decide ((Nat.cast (List.length x1) : Int) < x0))
  (br (((fits (0 : Nat) (List.length x1) x1) && (decide ((((List.length x1) + (1 : Nat)) * (1 : Nat)) ≤ (70368744177664 : Nat)))) && true)
   (nx x0 ((sub x1 (0 : Nat) (List.length x1)) ++ ((0 : Int) :: ([] : List ((Sh.int IntKind.u8).T)))))
   (none))
  (k0 x1)
noncomputable def files_sized_l0 (N : Nat) {R : Type} (k0 : (List (Int)) → Option R) : Nat → (Int) → (List (Int)) → Option R
  | 0, _, _ => none
  | n + 1, x0, x1 => files_sized_l0_T0 N @slices_Clone__byte_byte (fun x0 x1 => files_sized_l0 N k0 n x0 x1) k0 x0 x1
noncomputable def files_sized_T (N : Nat) (c0 : slices_Clone__byte_byte_Ty) (w0 : files_sized_l0_Ty) {R : Type} (x0 : List (Int)) (x1 : Int) (k0 : (List (Int)) → Option R) : Option R :=
  br (leB (if ((Nat.cast (List.length x0) : Int) < x1) then (Nat.cast (List.length x0) : Int) else x1) (List.length x0))
  (c0 (sub x0 (0 : Nat) ((Int.toNat (if ((Nat.cast (List.length x0) : Int) < x1) then (Nat.cast (List.length x0) : Int) else x1)) - (0 : Nat)))
   (fun l159 => w0
    (fun l160 => k0 l160)
    N x1 l159))
  (none)
noncomputable def files_sized (N : Nat) {R : Type} (x0 : List (Int)) (x1 : Int) (k0 : (List (Int)) → Option R) : Option R := files_sized_T N @slices_Clone__byte_byte (@files_sized_l0 N) x0 x1 k0
abbrev files_Files_Write_5dfd_Ty : Type 1 := {R : Type} → (Int) → (List (Int)) → (Int) → (List (((ByteArray) × (ByteArray)) × ((Int) × (Bool)))) → (List ((Int) × (List (Int)))) → (List ((Int) × (Int))) → (List (Int)) → ((Int) → (List (Int)) → (Int) → (List (((ByteArray) × (ByteArray)) × ((Int) × (Bool)))) → (List ((Int) × (List (Int)))) → (List ((Int) × (Int))) → (List (Int)) → Option R) → Option R
noncomputable def files_Files_Write_5dfd_T (N : Nat) (c0 : files_sized_Ty) (c1 : files_Files_file_b447_Ty) {R : Type} (x0 : Int) (x1 : List (Int)) (x2 : Int) (x3 : List (((ByteArray) × (ByteArray)) × ((Int) × (Bool)))) (x4 : List ((Int) × (List (Int)))) (x5 : List ((Int) × (Int))) (x6 : List (Int)) (k0 : (Int) → (List (Int)) → (Int) → (List (((ByteArray) × (ByteArray)) × ((Int) × (Bool)))) → (List ((Int) × (List (Int)))) → (List ((Int) × (Int))) → (List (Int)) → Option R) : Option R :=
  c1 x0 x1 x2 x3 x4 x5
  (fun l148 i149 l150 l151 l152 => k0 (65289 : Int) l148 i149 l150 l151 l152 x6)
  (fun i153 l154 i155 l156 l157 l158 => br (decide ((Nat.cast (List.length x6) : Int) = (0 : Int)))
   (k0 (0 : Int) l154 i155 l156 l157 l158 x6)
   (br (decide ((Int.toNat i153) < (List.length l158)))
    (br (decide ((8 : Int) ≤ (List.getD l158 (Int.toNat i153) ((0 : Int) , (0 : Int))).2))
     (k0 (65308 : Int) l154 i155 l156 l157 l158 x6)
     (br (decide ((Int.toNat i153) < (List.length l158)))
      (br (leB (if ((IntKind.wrap .i64 ((8 : Int) - (List.getD l158 (Int.toNat i153) ((0 : Int) , (0 : Int))).2)) < (Nat.cast (List.length x6) : Int)) then (IntKind.wrap .i64 ((8 : Int) - (List.getD l158 (Int.toNat i153) ((0 : Int) , (0 : Int))).2)) else (Nat.cast (List.length x6) : Int)) (List.length x6))
       (br (decide ((Int.toNat i153) < (List.length l158)))
        (br (decide ((Int.toNat i153) < (List.length l158)))
         (c0 (Option.getD (mfind (.int .i64) (.isl (.int .u8)) l157 (List.getD l158 (Int.toNat i153) ((0 : Int) , (0 : Int))).1) (Sh.zero (.isl (.int .u8)))) (if ((Nat.cast (List.length (Option.getD (mfind (.int .i64) (.isl (.int .u8)) l157 (List.getD l158 (Int.toNat i153) ((0 : Int) , (0 : Int))).1) (Sh.zero (.isl (.int .u8))))) : Int) < (IntKind.wrap .i64 ((List.getD l158 (Int.toNat i153) ((0 : Int) , (0 : Int))).2 + (Nat.cast ((Int.toNat (if ((IntKind.wrap .i64 ((8 : Int) - (List.getD l158 (Int.toNat i153) ((0 : Int) , (0 : Int))).2)) < (Nat.cast (List.length x6) : Int)) then (IntKind.wrap .i64 ((8 : Int) - (List.getD l158 (Int.toNat i153) ((0 : Int) , (0 : Int))).2)) else (Nat.cast (List.length x6) : Int))) - (0 : Nat)) : Int)))) then (IntKind.wrap .i64 ((List.getD l158 (Int.toNat i153) ((0 : Int) , (0 : Int))).2 + (Nat.cast ((Int.toNat (if ((IntKind.wrap .i64 ((8 : Int) - (List.getD l158 (Int.toNat i153) ((0 : Int) , (0 : Int))).2)) < (Nat.cast (List.length x6) : Int)) then (IntKind.wrap .i64 ((8 : Int) - (List.getD l158 (Int.toNat i153) ((0 : Int) , (0 : Int))).2)) else (Nat.cast (List.length x6) : Int))) - (0 : Nat)) : Int))) else (Nat.cast (List.length (Option.getD (mfind (.int .i64) (.isl (.int .u8)) l157 (List.getD l158 (Int.toNat i153) ((0 : Int) , (0 : Int))).1) (Sh.zero (.isl (.int .u8))))) : Int))
          (fun l161 => br (decide ((Int.toNat i153) < (List.length l158)))
           (br (leB (List.getD l158 (Int.toNat i153) ((0 : Int) , (0 : Int))).2 (List.length l161))
            (br (fits (0 : Nat) ((Int.toNat (if ((IntKind.wrap .i64 ((8 : Int) - (List.getD l158 (Int.toNat i153) ((0 : Int) , (0 : Int))).2)) < (Nat.cast (List.length x6) : Int)) then (IntKind.wrap .i64 ((8 : Int) - (List.getD l158 (Int.toNat i153) ((0 : Int) , (0 : Int))).2)) else (Nat.cast (List.length x6) : Int))) - (0 : Nat)) x6)
             (br (fits (Int.toNat (List.getD l158 (Int.toNat i153) ((0 : Int) , (0 : Int))).2) ((List.length l161) - (Int.toNat (List.getD l158 (Int.toNat i153) ((0 : Int) , (0 : Int))).2)) l161)
              (br (decide ((Int.toNat i153) < (List.length l158)))
               (br (fits (0 : Nat) (List.length l161) ((List.take (Int.toNat (List.getD l158 (Int.toNat i153) ((0 : Int) , (0 : Int))).2) l161) ++ ((List.take (Min.min (List.length (sub x6 (0 : Nat) ((Int.toNat (if ((IntKind.wrap .i64 ((8 : Int) - (List.getD l158 (Int.toNat i153) ((0 : Int) , (0 : Int))).2)) < (Nat.cast (List.length x6) : Int)) then (IntKind.wrap .i64 ((8 : Int) - (List.getD l158 (Int.toNat i153) ((0 : Int) , (0 : Int))).2)) else (Nat.cast (List.length x6) : Int))) - (0 : Nat)))) ((List.length l161) - (Int.toNat (List.getD l158 (Int.toNat i153) ((0 : Int) , (0 : Int))).2))) (sub x6 (0 : Nat) ((Int.toNat (if ((IntKind.wrap .i64 ((8 : Int) - (List.getD l158 (Int.toNat i153) ((0 : Int) , (0 : Int))).2)) < (Nat.cast (List.length x6) : Int)) then (IntKind.wrap .i64 ((8 : Int) - (List.getD l158 (Int.toNat i153) ((0 : Int) , (0 : Int))).2)) else (Nat.cast (List.length x6) : Int))) - (0 : Nat)))) ++ (List.drop ((Int.toNat (List.getD l158 (Int.toNat i153) ((0 : Int) , (0 : Int))).2) + (Min.min (List.length (sub x6 (0 : Nat) ((Int.toNat (if ((IntKind.wrap .i64 ((8 : Int) - (List.getD l158 (Int.toNat i153) ((0 : Int) , (0 : Int))).2)) < (Nat.cast (List.length x6) : Int)) then (IntKind.wrap .i64 ((8 : Int) - (List.getD l158 (Int.toNat i153) ((0 : Int) , (0 : Int))).2)) else (Nat.cast (List.length x6) : Int))) - (0 : Nat)))) ((List.length l161) - (Int.toNat (List.getD l158 (Int.toNat i153) ((0 : Int) , (0 : Int))).2)))) l161))))
                (br (decide ((Int.toNat i153) < (List.length l158)))
                 (br (decide ((Int.toNat i153) < (List.length l158)))
                  (k0 (IntKind.wrap .u16 (Nat.cast ((Int.toNat (if ((IntKind.wrap .i64 ((8 : Int) - (List.getD l158 (Int.toNat i153) ((0 : Int) , (0 : Int))).2)) < (Nat.cast (List.length x6) : Int)) then (IntKind.wrap .i64 ((8 : Int) - (List.getD l158 (Int.toNat i153) ((0 : Int) , (0 : Int))).2)) else (Nat.cast (List.length x6) : Int))) - (0 : Nat)) : Int)) l154 i155 l156 (mput (.int .i64) (.isl (.int .u8)) l157 (List.getD l158 (Int.toNat i153) ((0 : Int) , (0 : Int))).1 (sub ((List.take (Int.toNat (List.getD l158 (Int.toNat i153) ((0 : Int) , (0 : Int))).2) l161) ++ ((List.take (Min.min (List.length (sub x6 (0 : Nat) ((Int.toNat (if ((IntKind.wrap .i64 ((8 : Int) - (List.getD l158 (Int.toNat i153) ((0 : Int) , (0 : Int))).2)) < (Nat.cast (List.length x6) : Int)) then (IntKind.wrap .i64 ((8 : Int) - (List.getD l158 (Int.toNat i153) ((0 : Int) , (0 : Int))).2)) else (Nat.cast (List.length x6) : Int))) - (0 : Nat)))) ((List.length l161) - (Int.toNat (List.getD l158 (Int.toNat i153) ((0 : Int) , (0 : Int))).2))) (sub x6 (0 : Nat) ((Int.toNat (if ((IntKind.wrap .i64 ((8 : Int) - (List.getD l158 (Int.toNat i153) ((0 : Int) , (0 : Int))).2)) < (Nat.cast (List.length x6) : Int)) then (IntKind.wrap .i64 ((8 : Int) - (List.getD l158 (Int.toNat i153) ((0 : Int) , (0 : Int))).2)) else (Nat.cast (List.length x6) : Int))) - (0 : Nat)))) ++ (List.drop ((Int.toNat (List.getD l158 (Int.toNat i153) ((0 : Int) , (0 : Int))).2) + (Min.min (List.length (sub x6 (0 : Nat) ((Int.toNat (if ((IntKind.wrap .i64 ((8 : Int) - (List.getD l158 (Int.toNat i153) ((0 : Int) , (0 : Int))).2)) < (Nat.cast (List.length x6) : Int)) then (IntKind.wrap .i64 ((8 : Int) - (List.getD l158 (Int.toNat i153) ((0 : Int) , (0 : Int))).2)) else (Nat.cast (List.length x6) : Int))) - (0 : Nat)))) ((List.length l161) - (Int.toNat (List.getD l158 (Int.toNat i153) ((0 : Int) , (0 : Int))).2)))) l161))) (0 : Nat) (List.length l161))) (List.set l158 (Int.toNat i153) ((List.getD l158 (Int.toNat i153) ((0 : Int) , (0 : Int))).1 , (IntKind.wrap .i64 ((List.getD l158 (Int.toNat i153) ((0 : Int) , (0 : Int))).2 + (Nat.cast ((Int.toNat (if ((IntKind.wrap .i64 ((8 : Int) - (List.getD l158 (Int.toNat i153) ((0 : Int) , (0 : Int))).2)) < (Nat.cast (List.length x6) : Int)) then (IntKind.wrap .i64 ((8 : Int) - (List.getD l158 (Int.toNat i153) ((0 : Int) , (0 : Int))).2)) else (Nat.cast (List.length x6) : Int))) - (0 : Nat)) : Int))))) x6)
                  (none))
                 (none))
                (none))
               (none))
              (none))
             (none))
            (none))
           (none)))
         (none))
        (none))
       (none))
      (none)))
    (none)))
noncomputable def files_Files_Write_5dfd (N : Nat) {R : Type} (x0 : Int) (x1 : List (Int)) (x2 : Int) (x3 : List (((ByteArray) × (ByteArray)) × ((Int) × (Bool)))) (x4 : List ((Int) × (List (Int)))) (x5 : List ((Int) × (Int))) (x6 : List (Int)) (k0 : (Int) → (List (Int)) → (Int) → (List (((ByteArray) × (ByteArray)) × ((Int) × (Bool)))) → (List ((Int) × (List (Int)))) → (List ((Int) × (Int))) → (List (Int)) → Option R) : Option R := files_Files_Write_5dfd_T N (@files_sized N) (@files_Files_file_b447 N) x0 x1 x2 x3 x4 x5 x6 k0
abbrev files_Files_Seek_0442_Ty : Type 1 := {R : Type} → (Int) → (Int) → (List (Int)) → (Int) → (List (((ByteArray) × (ByteArray)) × ((Int) × (Bool)))) → (List ((Int) × (List (Int)))) → (List ((Int) × (Int))) → ((Int) → (List (Int)) → (Int) → (List (((ByteArray) × (ByteArray)) × ((Int) × (Bool)))) → (List ((Int) × (List (Int)))) → (List ((Int) × (Int))) → Option R) → Option R
noncomputable def files_Files_Seek_0442_T (N : Nat) (c0 : files_Files_file_b447_Ty) {R : Type} (x0 : Int) (x1 : Int) (x2 : List (Int)) (x3 : Int) (x4 : List (((ByteArray) × (ByteArray)) × ((Int) × (Bool)))) (x5 : List ((Int) × (List (Int)))) (x6 : List ((Int) × (Int))) (k0 : (Int) → (List (Int)) → (Int) → (List (((ByteArray) × (ByteArray)) × ((Int) × (Bool)))) → (List ((Int) × (List (Int)))) → (List ((Int) × (Int))) → Option R) : Option R :=
  c0 x0 x2 x3 x4 x5 x6
  (fun l169 i170 l171 l172 l173 => k0 (65289 : Int) l169 i170 l171 l172 l173)
  (fun i174 l175 i176 l177 l178 l179 => br (decide ((255 : Int) < x1))
   (k0 (65302 : Int) l175 i176 l177 l178 l179)
   (br (decide ((Int.toNat i174) < (List.length l179)))
    (k0 x1 l175 i176 l177 l178 (List.set l179 (Int.toNat i174) ((List.getD l179 (Int.toNat i174) ((0 : Int) , (0 : Int))).1 , (IntKind.wrap .i64 x1))))
    (none)))
noncomputable def files_Files_Seek_0442 (N : Nat) {R : Type} (x0 : Int) (x1 : Int) (x2 : List (Int)) (x3 : Int) (x4 : List (((ByteArray) × (ByteArray)) × ((Int) × (Bool)))) (x5 : List ((Int) × (List (Int)))) (x6 : List ((Int) × (Int))) (k0 : (Int) → (List (Int)) → (Int) → (List (((ByteArray) × (ByteArray)) × ((Int) × (Bool)))) → (List ((Int) × (List (Int)))) → (List ((Int) × (Int))) → Option R) : Option R := files_Files_Seek_0442_T N (@files_Files_file_b447 N) x0 x1 x2 x3 x4 x5 x6 k0
abbrev files_Files_Read_0442_Ty : Type 1 := {R : Type} → (Int) → (Int) → (List (Int)) → (Int) → (List (((ByteArray) × (ByteArray)) × ((Int) × (Bool)))) → (List ((Int) × (List (Int)))) → (List ((Int) × (Int))) → ((Int) → (List (Int)) → (Int) → (List (((ByteArray) × (ByteArray)) × ((Int) × (Bool)))) → (List ((Int) × (List (Int)))) → (List ((Int) × (Int))) → (List (Int)) → Option R) → Option R
noncomputable def files_Files_Read_0442_T (N : Nat) (c0 : slices_Clone__byte_byte_Ty) (c1 : files_Files_file_b447_Ty) {R : Type} (x0 : Int) (x1 : Int) (x2 : List (Int)) (x3 : Int) (x4 : List (((ByteArray) × (ByteArray)) × ((Int) × (Bool)))) (x5 : List ((Int) × (List (Int)))) (x6 : List ((Int) × (Int))) (k0 : (Int) → (List (Int)) → (Int) → (List (((ByteArray) × (ByteArray)) × ((Int) × (Bool)))) → (List ((Int) × (List (Int)))) → (List ((Int) × (Int))) → (List (Int)) → Option R) : Option R :=
  c1 x0 x2 x3 x4 x5 x6
  (fun l198 i199 l200 l201 l202 => k0 (65289 : Int) l198 i199 l200 l201 l202 ([] : List ((Sh.int IntKind.u8).T)))
  (fun i203 l204 i205 l206 l207 l208 => br (decide ((Int.toNat i203) < (List.length l208)))
   (br (decide ((Int.toNat i203) < (List.length l208)))
    (br (leB (if ((Nat.cast (List.length (Option.getD (mfind (.int .i64) (.isl (.int .u8)) l207 (List.getD l208 (Int.toNat i203) ((0 : Int) , (0 : Int))).1) (Sh.zero (.isl (.int .u8))))) : Int) < (List.getD l208 (Int.toNat i203) ((0 : Int) , (0 : Int))).2) then (Nat.cast (List.length (Option.getD (mfind (.int .i64) (.isl (.int .u8)) l207 (List.getD l208 (Int.toNat i203) ((0 : Int) , (0 : Int))).1) (Sh.zero (.isl (.int .u8))))) : Int) else (List.getD l208 (Int.toNat i203) ((0 : Int) , (0 : Int))).2) (List.length (Option.getD (mfind (.int .i64) (.isl (.int .u8)) l207 (List.getD l208 (Int.toNat i203) ((0 : Int) , (0 : Int))).1) (Sh.zero (.isl (.int .u8))))))
     (br (leB (if ((Nat.cast (List.length (sub (Option.getD (mfind (.int .i64) (.isl (.int .u8)) l207 (List.getD l208 (Int.toNat i203) ((0 : Int) , (0 : Int))).1) (Sh.zero (.isl (.int .u8)))) (Int.toNat (if ((Nat.cast (List.length (Option.getD (mfind (.int .i64) (.isl (.int .u8)) l207 (List.getD l208 (Int.toNat i203) ((0 : Int) , (0 : Int))).1) (Sh.zero (.isl (.int .u8))))) : Int) < (List.getD l208 (Int.toNat i203) ((0 : Int) , (0 : Int))).2) then (Nat.cast (List.length (Option.getD (mfind (.int .i64) (.isl (.int .u8)) l207 (List.getD l208 (Int.toNat i203) ((0 : Int) , (0 : Int))).1) (Sh.zero (.isl (.int .u8))))) : Int) else (List.getD l208 (Int.toNat i203) ((0 : Int) , (0 : Int))).2)) ((List.length (Option.getD (mfind (.int .i64) (.isl (.int .u8)) l207 (List.getD l208 (Int.toNat i203) ((0 : Int) , (0 : Int))).1) (Sh.zero (.isl (.int .u8))))) - (Int.toNat (if ((Nat.cast (List.length (Option.getD (mfind (.int .i64) (.isl (.int .u8)) l207 (List.getD l208 (Int.toNat i203) ((0 : Int) , (0 : Int))).1) (Sh.zero (.isl (.int .u8))))) : Int) < (List.getD l208 (Int.toNat i203) ((0 : Int) , (0 : Int))).2) then (Nat.cast (List.length (Option.getD (mfind (.int .i64) (.isl (.int .u8)) l207 (List.getD l208 (Int.toNat i203) ((0 : Int) , (0 : Int))).1) (Sh.zero (.isl (.int .u8))))) : Int) else (List.getD l208 (Int.toNat i203) ((0 : Int) , (0 : Int))).2))))) : Int) < (IntKind.wrap .i64 x1)) then (Nat.cast (List.length (sub (Option.getD (mfind (.int .i64) (.isl (.int .u8)) l207 (List.getD l208 (Int.toNat i203) ((0 : Int) , (0 : Int))).1) (Sh.zero (.isl (.int .u8)))) (Int.toNat (if ((Nat.cast (List.length (Option.getD (mfind (.int .i64) (.isl (.int .u8)) l207 (List.getD l208 (Int.toNat i203) ((0 : Int) , (0 : Int))).1) (Sh.zero (.isl (.int .u8))))) : Int) < (List.getD l208 (Int.toNat i203) ((0 : Int) , (0 : Int))).2) then (Nat.cast (List.length (Option.getD (mfind (.int .i64) (.isl (.int .u8)) l207 (List.getD l208 (Int.toNat i203) ((0 : Int) , (0 : Int))).1) (Sh.zero (.isl (.int .u8))))) : Int) else (List.getD l208 (Int.toNat i203) ((0 : Int) , (0 : Int))).2)) ((List.length (Option.getD (mfind (.int .i64) (.isl (.int .u8)) l207 (List.getD l208 (Int.toNat i203) ((0 : Int) , (0 : Int))).1) (Sh.zero (.isl (.int .u8))))) - (Int.toNat (if ((Nat.cast (List.length (Option.getD (mfind (.int .i64) (.isl (.int .u8)) l207 (List.getD l208 (Int.toNat i203) ((0 : Int) , (0 : Int))).1) (Sh.zero (.isl (.int .u8))))) : Int) < (List.getD l208 (Int.toNat i203) ((0 : Int) , (0 : Int))).2) then (Nat.cast (List.length (Option.getD (mfind (.int .i64) (.isl (.int .u8)) l207 (List.getD l208 (Int.toNat i203) ((0 : Int) , (0 : Int))).1) (Sh.zero (.isl (.int .u8))))) : Int) else (List.getD l208 (Int.toNat i203) ((0 : Int) , (0 : Int))).2))))) : Int) else (IntKind.wrap .i64 x1)) (List.length (sub (Option.getD (mfind (.int .i64) (.isl (.int .u8)) l207 (List.getD l208 (Int.toNat i203) ((0 : Int) , (0 : Int))).1) (Sh.zero (.isl (.int .u8)))) (Int.toNat (if ((Nat.cast (List.length (Option.getD (mfind (.int .i64) (.isl (.int .u8)) l207 (List.getD l208 (Int.toNat i203) ((0 : Int) , (0 : Int))).1) (Sh.zero (.isl (.int .u8))))) : Int) < (List.getD l208 (Int.toNat i203) ((0 : Int) , (0 : Int))).2) then (Nat.cast (List.length (Option.getD (mfind (.int .i64) (.isl (.int .u8)) l207 (List.getD l208 (Int.toNat i203) ((0 : Int) , (0 : Int))).1) (Sh.zero (.isl (.int .u8))))) : Int) else (List.getD l208 (Int.toNat i203) ((0 : Int) , (0 : Int))).2)) ((List.length (Option.getD (mfind (.int .i64) (.isl (.int .u8)) l207 (List.getD l208 (Int.toNat i203) ((0 : Int) , (0 : Int))).1) (Sh.zero (.isl (.int .u8))))) - (Int.toNat (if ((Nat.cast (List.length (Option.getD (mfind (.int .i64) (.isl (.int .u8)) l207 (List.getD l208 (Int.toNat i203) ((0 : Int) , (0 : Int))).1) (Sh.zero (.isl (.int .u8))))) : Int) < (List.getD l208 (Int.toNat i203) ((0 : Int) , (0 : Int))).2) then (Nat.cast (List.length (Option.getD (mfind (.int .i64) (.isl (.int .u8)) l207 (List.getD l208 (Int.toNat i203) ((0 : Int) , (0 : Int))).1) (Sh.zero (.isl (.int .u8))))) : Int) else (List.getD l208 (Int.toNat i203) ((0 : Int) , (0 : Int))).2))))))
      (c0 (sub (sub (Option.getD (mfind (.int .i64) (.isl (.int .u8)) l207 (List.getD l208 (Int.toNat i203) ((0 : Int) , (0 : Int))).1) (Sh.zero (.isl (.int .u8)))) (Int.toNat (if ((Nat.cast (List.length (Option.getD (mfind (.int .i64) (.isl (.int .u8)) l207 (List.getD l208 (Int.toNat i203) ((0 : Int) , (0 : Int))).1) (Sh.zero (.isl (.int .u8))))) : Int) < (List.getD l208 (Int.toNat i203) ((0 : Int) , (0 : Int))).2) then (Nat.cast (List.length (Option.getD (mfind (.int .i64) (.isl (.int .u8)) l207 (List.getD l208 (Int.toNat i203) ((0 : Int) , (0 : Int))).1) (Sh.zero (.isl (.int .u8))))) : Int) else (List.getD l208 (Int.toNat i203) ((0 : Int) , (0 : Int))).2)) ((List.length (Option.getD (mfind (.int .i64) (.isl (.int .u8)) l207 (List.getD l208 (Int.toNat i203) ((0 : Int) , (0 : Int))).1) (Sh.zero (.isl (.int .u8))))) - (Int.toNat (if ((Nat.cast (List.length (Option.getD (mfind (.int .i64) (.isl (.int .u8)) l207 (List.getD l208 (Int.toNat i203) ((0 : Int) , (0 : Int))).1) (Sh.zero (.isl (.int .u8))))) : Int) < (List.getD l208 (Int.toNat i203) ((0 : Int) , (0 : Int))).2) then (Nat.cast (List.length (Option.getD (mfind (.int .i64) (.isl (.int .u8)) l207 (List.getD l208 (Int.toNat i203) ((0 : Int) , (0 : Int))).1) (Sh.zero (.isl (.int .u8))))) : Int) else (List.getD l208 (Int.toNat i203) ((0 : Int) , (0 : Int))).2)))) (0 : Nat) ((Int.toNat (if ((Nat.cast (List.length (sub (Option.getD (mfind (.int .i64) (.isl (.int .u8)) l207 (List.getD l208 (Int.toNat i203) ((0 : Int) , (0 : Int))).1) (Sh.zero (.isl (.int .u8)))) (Int.toNat (if ((Nat.cast (List.length (Option.getD (mfind (.int .i64) (.isl (.int .u8)) l207 (List.getD l208 (Int.toNat i203) ((0 : Int) , (0 : Int))).1) (Sh.zero (.isl (.int .u8))))) : Int) < (List.getD l208 (Int.toNat i203) ((0 : Int) , (0 : Int))).2) then (Nat.cast (List.length (Option.getD (mfind (.int .i64) (.isl (.int .u8)) l207 (List.getD l208 (Int.toNat i203) ((0 : Int) , (0 : Int))).1) (Sh.zero (.isl (.int .u8))))) : Int) else (List.getD l208 (Int.toNat i203) ((0 : Int) , (0 : Int))).2)) ((List.length (Option.getD (mfind (.int .i64) (.isl (.int .u8)) l207 (List.getD l208 (Int.toNat i203) ((0 : Int) , (0 : Int))).1) (Sh.zero (.isl (.int .u8))))) - (Int.toNat (if ((Nat.cast (List.length (Option.getD (mfind (.int .i64) (.isl (.int .u8)) l207 (List.getD l208 (Int.toNat i203) ((0 : Int) , (0 : Int))).1) (Sh.zero (.isl (.int .u8))))) : Int) < (List.getD l208 (Int.toNat i203) ((0 : Int) , (0 : Int))).2) then (Nat.cast (List.length (Option.getD (mfind (.int .i64) (.isl (.int .u8)) l207 (List.getD l208 (Int.toNat i203) ((0 : Int) , (0 : Int))).1) (Sh.zero (.isl (.int .u8))))) : Int) else (List.getD l208 (Int.toNat i203) ((0 : Int) , (0 : Int))).2))))) : Int) < (IntKind.wrap .i64 x1)) then (Nat.cast (List.length (sub (Option.getD (mfind (.int .i64) (.isl (.int .u8)) l207 (List.getD l208 (Int.toNat i203) ((0 : Int) , (0 : Int))).1) (Sh.zero (.isl (.int .u8)))) (Int.toNat (if ((Nat.cast (List.length (Option.getD (mfind (.int .i64) (.isl (.int .u8)) l207 (List.getD l208 (Int.toNat i203) ((0 : Int) , (0 : Int))).1) (Sh.zero (.isl (.int .u8))))) : Int) < (List.getD l208 (Int.toNat i203) ((0 : Int) , (0 : Int))).2) then (Nat.cast (List.length (Option.getD (mfind (.int .i64) (.isl (.int .u8)) l207 (List.getD l208 (Int.toNat i203) ((0 : Int) , (0 : Int))).1) (Sh.zero (.isl (.int .u8))))) : Int) else (List.getD l208 (Int.toNat i203) ((0 : Int) , (0 : Int))).2)) ((List.length (Option.getD (mfind (.int .i64) (.isl (.int .u8)) l207 (List.getD l208 (Int.toNat i203) ((0 : Int) , (0 : Int))).1) (Sh.zero (.isl (.int .u8))))) - (Int.toNat (if ((Nat.cast (List.length (Option.getD (mfind (.int .i64) (.isl (.int .u8)) l207 (List.getD l208 (Int.toNat i203) ((0 : Int) , (0 : Int))).1) (Sh.zero (.isl (.int .u8))))) : Int) < (List.getD l208 (Int.toNat i203) ((0 : Int) , (0 : Int))).2) then (Nat.cast (List.length (Option.getD (mfind (.int .i64) (.isl (.int .u8)) l207 (List.getD l208 (Int.toNat i203) ((0 : Int) , (0 : Int))).1) (Sh.zero (.isl (.int .u8))))) : Int) else (List.getD l208 (Int.toNat i203) ((0 : Int) , (0 : Int))).2))))) : Int) else (IntKind.wrap .i64 x1))) - (0 : Nat)))
       (fun l209 => br (decide ((Int.toNat i203) < (List.length l208)))
        (br (decide ((Int.toNat i203) < (List.length l208)))
         (k0 (IntKind.wrap .u16 (Nat.cast (List.length l209) : Int)) l204 i205 l206 l207 (List.set l208 (Int.toNat i203) ((List.getD l208 (Int.toNat i203) ((0 : Int) , (0 : Int))).1 , (IntKind.wrap .i64 ((List.getD l208 (Int.toNat i203) ((0 : Int) , (0 : Int))).2 + (Nat.cast (List.length l209) : Int))))) l209)
         (none))
        (none)))
      (none))
     (none))
    (none))
   (none))
noncomputable def files_Files_Read_0442 (N : Nat) {R : Type} (x0 : Int) (x1 : Int) (x2 : List (Int)) (x3 : Int) (x4 : List (((ByteArray) × (ByteArray)) × ((Int) × (Bool)))) (x5 : List ((Int) × (List (Int)))) (x6 : List ((Int) × (Int))) (k0 : (Int) → (List (Int)) → (Int) → (List (((ByteArray) × (ByteArray)) × ((Int) × (Bool)))) → (List ((Int) × (List (Int)))) → (List ((Int) × (Int))) → (List (Int)) → Option R) : Option R := files_Files_Read_0442_T N @slices_Clone__byte_byte (@files_Files_file_b447 N) x0 x1 x2 x3 x4 x5 x6 k0
abbrev files_Files_Size_b447_Ty : Type 1 := {R : Type} → (Int) → (List (Int)) → (Int) → (List (((ByteArray) × (ByteArray)) × ((Int) × (Bool)))) → (List ((Int) × (List (Int)))) → (List ((Int) × (Int))) → ((Int) → (List (Int)) → (Int) → (List (((ByteArray) × (ByteArray)) × ((Int) × (Bool)))) → (List ((Int) × (List (Int)))) → (List ((Int) × (Int))) → Option R) → Option R
noncomputable def files_Files_Size_b447_T (N : Nat) (c0 : files_Files_file_b447_Ty) {R : Type} (x0 : Int) (x1 : List (Int)) (x2 : Int) (x3 : List (((ByteArray) × (ByteArray)) × ((Int) × (Bool)))) (x4 : List ((Int) × (List (Int)))) (x5 : List ((Int) × (Int))) (k0 : (Int) → (List (Int)) → (Int) → (List (((ByteArray) × (ByteArray)) × ((Int) × (Bool)))) → (List ((Int) × (List (Int)))) → (List ((Int) × (Int))) → Option R) : Option R :=
  c0 x0 x1 x2 x3 x4 x5
  (fun l217 i218 l219 l220 l221 => k0 (65289 : Int) l217 i218 l219 l220 l221)
  (fun i222 l223 i224 l225 l226 l227 => br (decide ((Int.toNat i222) < (List.length l227)))
   (k0 (IntKind.wrap .u16 (Nat.cast (List.length (Option.getD (mfind (.int .i64) (.isl (.int .u8)) l226 (List.getD l227 (Int.toNat i222) ((0 : Int) , (0 : Int))).1) (Sh.zero (.isl (.int .u8))))) : Int)) l223 i224 l225 l226 l227)
   (none))
noncomputable def files_Files_Size_b447 (N : Nat) {R : Type} (x0 : Int) (x1 : List (Int)) (x2 : Int) (x3 : List (((ByteArray) × (ByteArray)) × ((Int) × (Bool)))) (x4 : List ((Int) × (List (Int)))) (x5 : List ((Int) × (Int))) (k0 : (Int) → (List (Int)) → (Int) → (List (((ByteArray) × (ByteArray)) × ((Int) × (Bool)))) → (List ((Int) × (List (Int)))) → (List ((Int) × (Int))) → Option R) : Option R := files_Files_Size_b447_T N (@files_Files_file_b447 N) x0 x1 x2 x3 x4 x5 k0
abbrev law14_awake_Ty : Type 1 := {R : Type} → ((Bool) → Option R) → Option R
noncomputable def law14_awake_T (N : Nat) (c0 : files_Files_Size_b447_Ty) (c1 : files_Files_Read_0442_Ty) (c2 : files_Files_Seek_0442_Ty) (c3 : files_Files_Write_5dfd_Ty) (c4 : files_Files_Open_f601_Ty) (c5 : files_New_38f2_Ty) {R : Type} (k0 : (Bool) → Option R) : Option R :=
  c5
  (fun i10 => br (!(!(decide (i10 = (0 : Int)))))
   (k0 false)
   (k0 false))
  (fun i11 l12 i13 l14 l15 l16 => br (!(!(decide (i11 = (0 : Int)))))
   (c4 (bs [97]) l12 i13 l14 l15 l16
    (fun i142 l143 i144 l145 l146 l147 => c3 (0 : Int) l143 i144 l145 l146 l147 ((1 : Int) :: ((2 : Int) :: ((3 : Int) :: ([] : List ((Sh.int IntKind.u8).T)))))
     (fun i162 l163 i164 l165 l166 l167 l168 => c2 (0 : Int) (1 : Int) l163 i164 l165 l166 l167
      (fun i180 l181 i182 l183 l184 l185 => c1 (0 : Int) (9 : Int) l181 i182 l183 l184 l185
       (fun i210 l211 i212 l213 l214 l215 l216 => br (decide (i142 = (0 : Int)))
        (br (decide (i162 = (3 : Int)))
         (br (decide (i180 = (1 : Int)))
          (br (decide (i210 = (2 : Int)))
           (br (fits (0 : Nat) (List.length l216) l216)
            (br (decide ((mkStr (sub l216 (0 : Nat) (List.length l216))) = (bs [2, 3])))
             (c0 (7 : Int) l211 i212 l213 l214 l215
              (fun i228 l229 i230 l231 l232 l233 => k0 (decide (i228 = (65289 : Int)))))
             (k0 false))
            (none))
           (k0 false))
          (k0 false))
         (k0 false))
        (k0 false))))))
   (k0 false))
noncomputable def law14_awake (N : Nat) {R : Type} (k0 : (Bool) → Option R) : Option R := law14_awake_T N (@files_Files_Size_b447 N) (@files_Files_Read_0442 N) (@files_Files_Seek_0442 N) (@files_Files_Write_5dfd N) (@files_Files_Open_f601 N) (@files_New_38f2 N) k0
abbrev files_Files_Data_f601_Ty : Type 1 := {R : Type} → (ByteArray) → (List (Int)) → (Int) → (List (((ByteArray) × (ByteArray)) × ((Int) × (Bool)))) → (List ((Int) × (List (Int)))) → (List ((Int) × (Int))) → ((Int) → (List (Int)) → (Int) → (List (((ByteArray) × (ByteArray)) × ((Int) × (Bool)))) → (List ((Int) × (List (Int)))) → (List ((Int) × (Int))) → (List (Int)) → Option R) → Option R
noncomputable def files_Files_Data_f601_T (N : Nat) (c0 : slices_Clone__byte_byte_Ty) (c1 : tree_Tree_Find_fb98_Ty) {R : Type} (x0 : ByteArray) (x1 : List (Int)) (x2 : Int) (x3 : List (((ByteArray) × (ByteArray)) × ((Int) × (Bool)))) (x4 : List ((Int) × (List (Int)))) (x5 : List ((Int) × (Int))) (k0 : (Int) → (List (Int)) → (Int) → (List (((ByteArray) × (ByteArray)) × ((Int) × (Bool)))) → (List ((Int) × (List (Int)))) → (List ((Int) × (Int))) → (List (Int)) → Option R) : Option R :=
  c1 x0 x2 x3
  (fun i254 b255 i256 i257 l258 => br (!(decide (i256 = (0 : Int))))
   (k0 i256 x1 i257 l258 x4 x5 ([] : List ((Sh.int IntKind.u8).T)))
   (br b255
    (k0 (65301 : Int) x1 i257 l258 x4 x5 ([] : List ((Sh.int IntKind.u8).T)))
    (c0 (Option.getD (mfind (.int .i64) (.isl (.int .u8)) x4 i254) (Sh.zero (.isl (.int .u8))))
     (fun l259 => k0 (0 : Int) x1 i257 l258 x4 x5 l259))))
noncomputable def files_Files_Data_f601 (N : Nat) {R : Type} (x0 : ByteArray) (x1 : List (Int)) (x2 : Int) (x3 : List (((ByteArray) × (ByteArray)) × ((Int) × (Bool)))) (x4 : List ((Int) × (List (Int)))) (x5 : List ((Int) × (Int))) (k0 : (Int) → (List (Int)) → (Int) → (List (((ByteArray) × (ByteArray)) × ((Int) × (Bool)))) → (List ((Int) × (List (Int)))) → (List ((Int) × (Int))) → (List (Int)) → Option R) : Option R := files_Files_Data_f601_T N @slices_Clone__byte_byte (@tree_Tree_Find_fb98 N) x0 x1 x2 x3 x4 x5 k0
abbrev files_Files_Close_b447_Ty : Type 1 := {R : Type} → (Int) → (List (Int)) → (Int) → (List (((ByteArray) × (ByteArray)) × ((Int) × (Bool)))) → (List ((Int) × (List (Int)))) → (List ((Int) × (Int))) → ((Int) → (List (Int)) → (Int) → (List (((ByteArray) × (ByteArray)) × ((Int) × (Bool)))) → (List ((Int) × (List (Int)))) → (List ((Int) × (Int))) → Option R) → Option R
noncomputable def files_Files_Close_b447_T (N : Nat) (c0 : files_Files_file_b447_Ty) {R : Type} (x0 : Int) (x1 : List (Int)) (x2 : Int) (x3 : List (((ByteArray) × (ByteArray)) × ((Int) × (Bool)))) (x4 : List ((Int) × (List (Int)))) (x5 : List ((Int) × (Int))) (k0 : (Int) → (List (Int)) → (Int) → (List (((ByteArray) × (ByteArray)) × ((Int) × (Bool)))) → (List ((Int) × (List (Int)))) → (List ((Int) × (Int))) → Option R) : Option R :=
  c0 x0 x1 x2 x3 x4 x5
  (fun l267 i268 l269 l270 l271 => k0 (65289 : Int) l267 i268 l269 l270 l271)
  (fun i272 l273 i274 l275 l276 l277 => br (inB x0 (4 : Nat))
   (br (decide ((Int.toNat x0) < (4 : Nat)))
    (k0 (0 : Int) (List.set l273 (Int.toNat x0) (0 : Int)) i274 l275 l276 l277)
    (none))
   (none))
noncomputable def files_Files_Close_b447 (N : Nat) {R : Type} (x0 : Int) (x1 : List (Int)) (x2 : Int) (x3 : List (((ByteArray) × (ByteArray)) × ((Int) × (Bool)))) (x4 : List ((Int) × (List (Int)))) (x5 : List ((Int) × (Int))) (k0 : (Int) → (List (Int)) → (Int) → (List (((ByteArray) × (ByteArray)) × ((Int) × (Bool)))) → (List ((Int) × (List (Int)))) → (List ((Int) × (Int))) → Option R) : Option R := files_Files_Close_b447_T N (@files_Files_file_b447 N) x0 x1 x2 x3 x4 x5 k0
abbrev law14_FilesNew_l0_Ty : Type 1 := {R : Type} → ((Bool) → Option R) → (Option R) → Nat → (List (Int)) → (Int) → (Int) → (List (Int)) → (Int) → (List (((ByteArray) × (ByteArray)) × ((Int) × (Bool)))) → (List ((Int) × (List (Int)))) → (List ((Int) × (Int))) → (List (Bool)) → Option R
abbrev law14_FilesNew_lj0_Ty : Type 1 := {R : Type} → ((List (Int)) → (Bool) → (Int) → (Int) → (List (Int)) → (Int) → (List (((ByteArray) × (ByteArray)) × ((Int) × (Bool)))) → (List ((Int) × (List (Int)))) → (List ((Int) × (Int))) → (List (Bool)) → Option R) → ((List (Int)) → (Int) → (Int) → (List (Int)) → (Int) → (List (((ByteArray) × (ByteArray)) × ((Int) × (Bool)))) → (List ((Int) × (List (Int)))) → (List ((Int) × (Int))) → (List (Bool)) → Option R) → Nat → (List (Int)) → (Int) → (Int) → (Int) → (ByteArray) → (Int) → (List (Int)) → (Int) → (List (((ByteArray) × (ByteArray)) × ((Int) × (Bool)))) → (List ((Int) × (List (Int)))) → (List ((Int) × (Int))) → (List (Bool)) → Option R
abbrev law14_FilesNew_lj1_Ty : Type 1 := {R : Type} → ((List (Int)) → (Bool) → (Int) → (Int) → (List (Int)) → (Int) → (List (((ByteArray) × (ByteArray)) × ((Int) × (Bool)))) → (List ((Int) × (List (Int)))) → (List ((Int) × (Int))) → (List (Bool)) → Option R) → ((List (Int)) → (Int) → (Int) → (List (Int)) → (Int) → (List (((ByteArray) × (ByteArray)) × ((Int) × (Bool)))) → (List ((Int) × (List (Int)))) → (List ((Int) × (Int))) → (List (Bool)) → Option R) → Nat → (List (Int)) → (Int) → (Int) → (ByteArray) → (List (Int)) → (Int) → (List (((ByteArray) × (ByteArray)) × ((Int) × (Bool)))) → (List ((Int) × (List (Int)))) → (List ((Int) × (Int))) → (List (Bool)) → Option R
abbrev law14_FilesNew_Ty : Type 1 := {R : Type} → (List (Int)) → ((Bool) → Option R) → Option R
noncomputable def law14_FilesNew_l0_T0 (N : Nat) (c0 : files_Files_Close_b447_Ty) (c1 : files_Files_Data_f601_Ty) (c2 : files_Files_Open_f601_Ty) (c3 : files_New_38f2_Ty) (c4 : law14_awake_Ty) (wj0 : law14_FilesNew_lj0_Ty) (wj1 : law14_FilesNew_lj1_Ty) {R : Type} (nx : (List (Int)) → (Int) → (Int) → (List (Int)) → (Int) → (List (((ByteArray) × (ByteArray)) × ((Int) × (Bool)))) → (List ((Int) × (List (Int)))) → (List ((Int) × (Int))) → (List (Bool)) → Option R) (k0 : (Bool) → Option R) (k1 : Option R) (x0 : List (Int)) (x1 : Int) (x2 : Int) (x3 : List (Int)) (x4 : Int) (x5 : List (((ByteArray) × (ByteArray)) × ((Int) × (Bool)))) (x6 : List ((Int) × (List (Int)))) (x7 : List ((Int) × (Int))) (x8 : List (Bool)) : Option R :=
  br (decide (x2 < (Nat.cast (List.length x0) : Int)))
  (br (inB x2 (List.length x0))
   (c2 (mkStr ((IntKind.wrap .u8 ((97 : Int) + (IntKind.wrap .u8 (Int.tmod (IntKind.wrap .i64 (List.getD x0 (Int.toNat x2) (0 : Int))) (26 : Int))))) :: ([] : List ((Sh.int IntKind.u8).T)))) x3 x4 x5 x6 x7
    (fun i242 l243 i244 l245 l246 l247 => br (inB (Int.tmod (IntKind.wrap .i64 (List.getD x0 (Int.toNat x2) (0 : Int))) (26 : Int)) (26 : Nat))
     (br (decide ((Int.toNat (Int.tmod (IntKind.wrap .i64 (List.getD x0 (Int.toNat x2) (0 : Int))) (26 : Int))) < (26 : Nat)))
      (br (!(List.getD x8 (Int.toNat (Int.tmod (IntKind.wrap .i64 (List.getD x0 (Int.toNat x2) (0 : Int))) (26 : Int))) false))
       (br (decide (x1 = (8 : Int)))
        (c1 (mkStr ((IntKind.wrap .u8 ((97 : Int) + (IntKind.wrap .u8 (Int.tmod (IntKind.wrap .i64 (List.getD x0 (Int.toNat x2) (0 : Int))) (26 : Int))))) :: ([] : List ((Sh.int IntKind.u8).T)))) l243 i244 l245 l246 l247
         (fun i260 l261 i262 l263 l264 l265 l266 => br (!(!(decide (i242 = (65308 : Int)))))
          (br (!(decide (i260 = (65282 : Int))))
           (k0 false)
           (nx x0 x1 (IntKind.wrap .i64 (x2 + (1 : Int))) l261 i262 l263 l264 l265 x8))
          (k0 false)))
        (wj0
         (fun l329 b330 i331 i332 l333 i334 l335 l336 l337 l338 => k0 b330)
         (fun l339 i340 i341 l342 i343 l344 l345 l346 l347 => nx l339 i340 (IntKind.wrap .i64 (i341 + (1 : Int))) l342 i343 l344 l345 l346 l347)
         N x0 x1 x2 (Int.tmod (IntKind.wrap .i64 (List.getD x0 (Int.toNat x2) (0 : Int))) (26 : Int)) (mkStr ((IntKind.wrap .u8 ((97 : Int) + (IntKind.wrap .u8 (Int.tmod (IntKind.wrap .i64 (List.getD x0 (Int.toNat x2) (0 : Int))) (26 : Int))))) :: ([] : List ((Sh.int IntKind.u8).T)))) i242 l243 i244 l245 l246 l247 x8))
       (wj0
        (fun l348 b349 i350 i351 l352 i353 l354 l355 l356 l357 => k0 b349)
        (fun l358 i359 i360 l361 i362 l363 l364 l365 l366 => nx l358 i359 (IntKind.wrap .i64 (i360 + (1 : Int))) l361 i362 l363 l364 l365 l366)
        N x0 x1 x2 (Int.tmod (IntKind.wrap .i64 (List.getD x0 (Int.toNat x2) (0 : Int))) (26 : Int)) (mkStr ((IntKind.wrap .u8 ((97 : Int) + (IntKind.wrap .u8 (Int.tmod (IntKind.wrap .i64 (List.getD x0 (Int.toNat x2) (0 : Int))) (26 : Int))))) :: ([] : List ((Sh.int IntKind.u8).T)))) i242 l243 i244 l245 l246 l247 x8))
      (none))
     (none)))
   (none))
  (k1)
noncomputable def law14_FilesNew_lj0_T0 (N : Nat) (c0 : files_Files_Close_b447_Ty) (c1 : files_Files_Data_f601_Ty) (c2 : files_Files_Open_f601_Ty) (c3 : files_New_38f2_Ty) (c4 : law14_awake_Ty) (wj1 : law14_FilesNew_lj1_Ty) {R : Type} (k0 : (List (Int)) → (Bool) → (Int) → (Int) → (List (Int)) → (Int) → (List (((ByteArray) × (ByteArray)) × ((Int) × (Bool)))) → (List ((Int) × (List (Int)))) → (List ((Int) × (Int))) → (List (Bool)) → Option R) (k1 : (List (Int)) → (Int) → (Int) → (List (Int)) → (Int) → (List (((ByteArray) × (ByteArray)) × ((Int) × (Bool)))) → (List ((Int) × (List (Int)))) → (List ((Int) × (Int))) → (List (Bool)) → Option R) (x0 : List (Int)) (x1 : Int) (x2 : Int) (x3 : Int) (x4 : ByteArray) (x5 : Int) (x6 : List (Int)) (x7 : Int) (x8 : List (((ByteArray) × (ByteArray)) × ((Int) × (Bool)))) (x9 : List ((Int) × (List (Int)))) (x10 : List ((Int) × (Int))) (x11 : List (Bool)) : Option R :=
  br (!(!(decide (x5 = (0 : Int)))))
  (c0 (0 : Int) x6 x7 x8 x9 x10
   (fun i278 l279 i280 l281 l282 l283 => br (!(decide (i278 = (0 : Int))))
    (k0 x0 false x1 x2 l279 i280 l281 l282 l283 x11)
    (br (inB x3 (26 : Nat))
     (br (decide ((Int.toNat x3) < (26 : Nat)))
      (br (!(List.getD x11 (Int.toNat x3) false))
       (br (inB x3 (26 : Nat))
        (br (decide ((Int.toNat x3) < (26 : Nat)))
         (wj1
          (fun l291 b292 i293 i294 l295 i296 l297 l298 l299 l300 => k0 l291 b292 i293 i294 l295 i296 l297 l298 l299 l300)
          (fun l301 i302 i303 l304 i305 l306 l307 l308 l309 => k1 l301 i302 i303 l304 i305 l306 l307 l308 l309)
          N x0 (IntKind.wrap .i64 (x1 + (1 : Int))) x2 x4 l279 i280 l281 l282 l283 (List.set x11 (Int.toNat x3) true))
         (none))
        (none))
       (wj1
        (fun l310 b311 i312 i313 l314 i315 l316 l317 l318 l319 => k0 l310 b311 i312 i313 l314 i315 l316 l317 l318 l319)
        (fun l320 i321 i322 l323 i324 l325 l326 l327 l328 => k1 l320 i321 i322 l323 i324 l325 l326 l327 l328)
        N x0 x1 x2 x4 l279 i280 l281 l282 l283 x11))
      (none))
     (none))))
  (k0 x0 false x1 x2 x6 x7 x8 x9 x10 x11)
noncomputable def law14_FilesNew_lj1_T0 (N : Nat) (c0 : files_Files_Close_b447_Ty) (c1 : files_Files_Data_f601_Ty) (c2 : files_Files_Open_f601_Ty) (c3 : files_New_38f2_Ty) (c4 : law14_awake_Ty) {R : Type} (k0 : (List (Int)) → (Bool) → (Int) → (Int) → (List (Int)) → (Int) → (List (((ByteArray) × (ByteArray)) × ((Int) × (Bool)))) → (List ((Int) × (List (Int)))) → (List ((Int) × (Int))) → (List (Bool)) → Option R) (k1 : (List (Int)) → (Int) → (Int) → (List (Int)) → (Int) → (List (((ByteArray) × (ByteArray)) × ((Int) × (Bool)))) → (List ((Int) × (List (Int)))) → (List ((Int) × (Int))) → (List (Bool)) → Option R) (x0 : List (Int)) (x1 : Int) (x2 : Int) (x3 : ByteArray) (x4 : List (Int)) (x5 : Int) (x6 : List (((ByteArray) × (ByteArray)) × ((Int) × (Bool)))) (x7 : List ((Int) × (List (Int)))) (x8 : List ((Int) × (Int))) (x9 : List (Bool)) : Option R :=
  c1 x3 x4 x5 x6 x7 x8
  (fun i284 l285 i286 l287 l288 l289 l290 => br (!(!(decide (i284 = (0 : Int)))))
   (br (!(decide ((Nat.cast (List.length l290) : Int) = (0 : Int))))
    (k0 x0 false x1 x2 l285 i286 l287 l288 l289 x9)
    (k1 x0 x1 x2 l285 i286 l287 l288 l289 x9))
   (k0 x0 false x1 x2 l285 i286 l287 l288 l289 x9))
noncomputable def law14_FilesNew_lj1 (N : Nat) {R : Type} (k0 : (List (Int)) → (Bool) → (Int) → (Int) → (List (Int)) → (Int) → (List (((ByteArray) × (ByteArray)) × ((Int) × (Bool)))) → (List ((Int) × (List (Int)))) → (List ((Int) × (Int))) → (List (Bool)) → Option R) (k1 : (List (Int)) → (Int) → (Int) → (List (Int)) → (Int) → (List (((ByteArray) × (ByteArray)) × ((Int) × (Bool)))) → (List ((Int) × (List (Int)))) → (List ((Int) × (Int))) → (List (Bool)) → Option R) (_ : Nat) (x0 : List (Int)) (x1 : Int) (x2 : Int) (x3 : ByteArray) (x4 : List (Int)) (x5 : Int) (x6 : List (((ByteArray) × (ByteArray)) × ((Int) × (Bool)))) (x7 : List ((Int) × (List (Int)))) (x8 : List ((Int) × (Int))) (x9 : List (Bool)) : Option R := law14_FilesNew_lj1_T0 N (@files_Files_Close_b447 N) (@files_Files_Data_f601 N) (@files_Files_Open_f601 N) (@files_New_38f2 N) (@law14_awake N) k0 k1 x0 x1 x2 x3 x4 x5 x6 x7 x8 x9
noncomputable def law14_FilesNew_lj0 (N : Nat) {R : Type} (k0 : (List (Int)) → (Bool) → (Int) → (Int) → (List (Int)) → (Int) → (List (((ByteArray) × (ByteArray)) × ((Int) × (Bool)))) → (List ((Int) × (List (Int)))) → (List ((Int) × (Int))) → (List (Bool)) → Option R) (k1 : (List (Int)) → (Int) → (Int) → (List (Int)) → (Int) → (List (((ByteArray) × (ByteArray)) × ((Int) × (Bool)))) → (List ((Int) × (List (Int)))) → (List ((Int) × (Int))) → (List (Bool)) → Option R) (_ : Nat) (x0 : List (Int)) (x1 : Int) (x2 : Int) (x3 : Int) (x4 : ByteArray) (x5 : Int) (x6 : List (Int)) (x7 : Int) (x8 : List (((ByteArray) × (ByteArray)) × ((Int) × (Bool)))) (x9 : List ((Int) × (List (Int)))) (x10 : List ((Int) × (Int))) (x11 : List (Bool)) : Option R := law14_FilesNew_lj0_T0 N (@files_Files_Close_b447 N) (@files_Files_Data_f601 N) (@files_Files_Open_f601 N) (@files_New_38f2 N) (@law14_awake N) (@law14_FilesNew_lj1 N) k0 k1 x0 x1 x2 x3 x4 x5 x6 x7 x8 x9 x10 x11
noncomputable def law14_FilesNew_l0 (N : Nat) {R : Type} (k0 : (Bool) → Option R) (k1 : Option R) : Nat → (List (Int)) → (Int) → (Int) → (List (Int)) → (Int) → (List (((ByteArray) × (ByteArray)) × ((Int) × (Bool)))) → (List ((Int) × (List (Int)))) → (List ((Int) × (Int))) → (List (Bool)) → Option R
  | 0, _, _, _, _, _, _, _, _, _ => none
  | n + 1, x0, x1, x2, x3, x4, x5, x6, x7, x8 => law14_FilesNew_l0_T0 N (@files_Files_Close_b447 N) (@files_Files_Data_f601 N) (@files_Files_Open_f601 N) (@files_New_38f2 N) (@law14_awake N) (@law14_FilesNew_lj0 N) (@law14_FilesNew_lj1 N) (fun x0 x1 x2 x3 x4 x5 x6 x7 x8 => law14_FilesNew_l0 N k0 k1 n x0 x1 x2 x3 x4 x5 x6 x7 x8) k0 k1 x0 x1 x2 x3 x4 x5 x6 x7 x8
noncomputable def law14_FilesNew_T (N : Nat) (c0 : files_Files_Close_b447_Ty) (c1 : files_Files_Data_f601_Ty) (c2 : files_Files_Open_f601_Ty) (c3 : files_New_38f2_Ty) (c4 : law14_awake_Ty) (w0 : law14_FilesNew_l0_Ty) (wj0 : law14_FilesNew_lj0_Ty) (wj1 : law14_FilesNew_lj1_Ty) {R : Type} (x0 : List (Int)) (k0 : (Bool) → Option R) : Option R :=
  c4
  (fun b234 => br (!b234)
   (k0 false)
   (c3
    (fun i235 => br (!(!(decide (i235 = (0 : Int)))))
     (br (decide (i235 = (0 : Int)))
      (k0 false)
      (k0 false))
     (br (decide (i235 = (0 : Int)))
      (k0 false)
      (k0 false)))
    (fun i236 l237 i238 l239 l240 l241 => br (!(!(decide (i236 = (0 : Int)))))
     (br (decide ((100 : Int) < (Nat.cast (List.length x0) : Int)))
      (br (decide (i236 = (0 : Int)))
       (k0 true)
       (k0 false))
      (w0
       (fun b367 => k0 b367)
       (k0 true)
       N x0 (0 : Int) (0 : Int) l237 i238 l239 l240 l241 (List.replicate (26 : Nat) false)))
     (br (decide (i236 = (0 : Int)))
      (k0 true)
      (k0 false)))))
noncomputable def law14_FilesNew (N : Nat) {R : Type} (x0 : List (Int)) (k0 : (Bool) → Option R) : Option R := law14_FilesNew_T N (@files_Files_Close_b447 N) (@files_Files_Data_f601 N) (@files_Files_Open_f601 N) (@files_New_38f2 N) (@law14_awake N) (@law14_FilesNew_l0 N) (@law14_FilesNew_lj0 N) (@law14_FilesNew_lj1 N) x0 k0
end Go.Proofs.Ytfeacgamgdpojaa
