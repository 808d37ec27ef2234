/-
  The functions that the statement reaches, each as a function of Lean (printed by a program of this work).
-/
import Derived.Test.YtfeacgamgdpojaaGx5
set_option linter.unusedVariables false
set_option maxRecDepth 100000
namespace Go.Proofs.Ytfeacgamgdpojaa
open Go.Gx
abbrev stringslite_IndexByte_Ty : Type 1 := {R : Type} → (ByteArray) → (Int) → ((Int) → Option R) → Option R
abbrev stringslite_Index_Ty : Type 1 := {R : Type} → (ByteArray) → (ByteArray) → ((Int) → Option R) → Option R
noncomputable def stringslite_Index_T (N : Nat) (c0 : stringslite_IndexByte_Ty) {R : Type} (x0 : ByteArray) (x1 : ByteArray) (k0 : (Int) → Option R) : Option R :=
  br (!(decide ((Nat.cast (ByteArray.size x1) : Int) = (0 : Int))))
  (br (decide (x1 = x0))
   (k0 (0 : Int))
   (br (decide ((Nat.cast (ByteArray.size x1) : Int) = (1 : Int)))
    (br (inB (0 : Int) (ByteArray.size x1))
     (c0 x0 (bt x1 (0 : Int))
      (fun i17 => k0 i17))
     (none))
    (br (decide ((Nat.cast (ByteArray.size x0) : Int) ≤ (Nat.cast (ByteArray.size x1) : Int)))
     (k0 (-1 : Int))
     (none))))
  (k0 (0 : Int))
noncomputable def stringslite_Index (N : Nat) {R : Type} (x0 : ByteArray) (x1 : ByteArray) (k0 : (Int) → Option R) : Option R := stringslite_Index_T N @stringslite_IndexByte x0 x1 k0
abbrev stringslite_Cut_Ty : Type 1 := {R : Type} → (ByteArray) → (ByteArray) → ((ByteArray) → (ByteArray) → (Bool) → Option R) → Option R
noncomputable def stringslite_Cut_T (N : Nat) (c0 : stringslite_Index_Ty) {R : Type} (x0 : ByteArray) (x1 : ByteArray) (k0 : (ByteArray) → (ByteArray) → (Bool) → Option R) : Option R :=
  c0 x0 x1
  (fun i18 => br (decide ((0 : Int) ≤ i18))
   (br (leB i18 (ByteArray.size x0))
    (br (leB (IntKind.wrap .i64 (i18 + (Nat.cast (ByteArray.size x1) : Int))) (ByteArray.size x0))
     (k0 (ByteArray.extract x0 (0 : Nat) (Int.toNat i18)) (ByteArray.extract x0 (Int.toNat (IntKind.wrap .i64 (i18 + (Nat.cast (ByteArray.size x1) : Int)))) (ByteArray.size x0)) true)
     (none))
    (none))
   (k0 x0 (bs []) false))
noncomputable def stringslite_Cut (N : Nat) {R : Type} (x0 : ByteArray) (x1 : ByteArray) (k0 : (ByteArray) → (ByteArray) → (Bool) → Option R) : Option R := stringslite_Cut_T N (@stringslite_Index N) x0 x1 k0
abbrev strings_Cut_Ty : Type 1 := {R : Type} → (ByteArray) → (ByteArray) → ((ByteArray) → (ByteArray) → (Bool) → Option R) → Option R
noncomputable def strings_Cut_T (N : Nat) (c0 : stringslite_Cut_Ty) {R : Type} (x0 : ByteArray) (x1 : ByteArray) (k0 : (ByteArray) → (ByteArray) → (Bool) → Option R) : Option R :=
  c0 x0 x1
  (fun s19 s20 b21 => k0 s19 s20 b21)
noncomputable def strings_Cut (N : Nat) {R : Type} (x0 : ByteArray) (x1 : ByteArray) (k0 : (ByteArray) → (ByteArray) → (Bool) → Option R) : Option R := strings_Cut_T N (@stringslite_Cut N) x0 x1 k0
abbrev check_letter_Ty : Type 1 := {R : Type} → (Int) → ((Bool) → Option R) → Option R
noncomputable def check_letter_T (N : Nat) {R : Type} (x0 : Int) (k0 : (Bool) → Option R) : Option R :=
  br (decide ((97 : Int) ≤ x0))
  (br (!(decide (x0 ≤ (122 : Int))))
   (br (decide ((48 : Int) ≤ x0))
    (br (!(decide (x0 ≤ (57 : Int))))
     (br (!(decide (x0 = (46 : Int))))
      (k0 (decide (x0 = (95 : Int))))
      (k0 true))
     (k0 true))
    (br (!(decide (x0 = (46 : Int))))
     (k0 (decide (x0 = (95 : Int))))
     (k0 true)))
   (k0 true))
  (br (decide ((48 : Int) ≤ x0))
   (br (!(decide (x0 ≤ (57 : Int))))
    (br (!(decide (x0 = (46 : Int))))
     (k0 (decide (x0 = (95 : Int))))
     (k0 true))
    (k0 true))
   (br (!(decide (x0 = (46 : Int))))
    (k0 (decide (x0 = (95 : Int))))
    (k0 true)))
noncomputable def check_letter (N : Nat) {R : Type} (x0 : Int) (k0 : (Bool) → Option R) : Option R := check_letter_T N x0 k0
abbrev check_part_l0_Ty : Type 1 := {R : Type} → ((ByteArray) → (Bool) → Option R) → ((ByteArray) → Option R) → Nat → (ByteArray) → (Int) → (Int) → Option R
abbrev check_part_Ty : Type 1 := {R : Type} → (ByteArray) → ((Bool) → Option R) → Option R
noncomputable def check_part_l0_T0 (N : Nat) (c0 : check_letter_Ty) {R : Type} (nx : (ByteArray) → (Int) → (Int) → Option R) (k0 : (ByteArray) → (Bool) → Option R) (k1 : (ByteArray) → Option R) (x0 : ByteArray) (x1 : Int) (x2 : Int) : Option R :=
  br (decide (x2 < x1))
  (br (inB x2 (ByteArray.size x0))
   (c0 (bt x0 x2)
    (fun b25 => br (!b25)
     (k0 x0 false)
     (nx x0 x1 (IntKind.wrap .i64 (x2 + (1 : Int))))))
   (none))
  (k1 x0)
noncomputable def check_part_l0 (N : Nat) {R : Type} (k0 : (ByteArray) → (Bool) → Option R) (k1 : (ByteArray) → Option R) : Nat → (ByteArray) → (Int) → (Int) → Option R
  | 0, _, _, _ => none
  | n + 1, x0, x1, x2 => check_part_l0_T0 N (@check_letter N) (fun x0 x1 x2 => check_part_l0 N k0 k1 n x0 x1 x2) k0 k1 x0 x1 x2
noncomputable def check_part_T (N : Nat) (c0 : check_letter_Ty) (w0 : check_part_l0_Ty) {R : Type} (x0 : ByteArray) (k0 : (Bool) → Option R) : Option R :=
  w0
  (fun s26 b27 => k0 b27)
  (fun s28 => br (!(decide (s28 = (bs []))))
   (br (!(decide (s28 = (bs [46]))))
    (k0 (!(decide (s28 = (bs [46, 46])))))
    (k0 false))
   (k0 false))
  N x0 (Nat.cast (ByteArray.size x0) : Int) (0 : Int)
noncomputable def check_part (N : Nat) {R : Type} (x0 : ByteArray) (k0 : (Bool) → Option R) : Option R := check_part_T N (@check_letter N) (@check_part_l0 N) x0 k0
abbrev check_Name_Ty : Type 1 := {R : Type} → (ByteArray) → ((Bool) → Option R) → Option R
noncomputable def check_Name_T (N : Nat) (c0 : check_part_Ty) (c1 : strings_Cut_Ty) {R : Type} (x0 : ByteArray) (k0 : (Bool) → Option R) : Option R :=
  br (decide ((8 : Int) < (Nat.cast (ByteArray.size x0) : Int)))
  (k0 false)
  (c1 x0 (bs [47])
   (fun s22 s23 b24 => c0 s22
    (fun b29 => br b29
     (br (!(!b24))
      (c0 s23
       (fun b30 => k0 b30))
      (k0 true))
     (k0 false))))
noncomputable def check_Name (N : Nat) {R : Type} (x0 : ByteArray) (k0 : (Bool) → Option R) : Option R := check_Name_T N (@check_part N) (@strings_Cut N) x0 k0
abbrev names_May_Ty : Type 1 := {R : Type} → (ByteArray) → ((Bool) → Option R) → Option R
noncomputable def names_May_T (N : Nat) (c0 : check_Name_Ty) {R : Type} (x0 : ByteArray) (k0 : (Bool) → Option R) : Option R :=
  c0 x0
  (fun b31 => k0 b31)
noncomputable def names_May (N : Nat) {R : Type} (x0 : ByteArray) (k0 : (Bool) → Option R) : Option R := names_May_T N (@check_Name N) x0 k0
abbrev names_Split_Ty : Type 1 := {R : Type} → (ByteArray) → ((ByteArray) → (ByteArray) → Option R) → Option R
noncomputable def names_Split_T (N : Nat) (c0 : strings_Cut_Ty) (c1 : names_May_Ty) {R : Type} (x0 : ByteArray) (k0 : (ByteArray) → (ByteArray) → Option R) : Option R :=
  c1 x0
  (fun b32 => br (!b32)
   (k0 (bs []) (bs []))
   (c0 x0 (bs [47])
    (fun s33 s34 b35 => br (!b35)
     (k0 (bs []) s33)
     (k0 s33 s34))))
noncomputable def names_Split (N : Nat) {R : Type} (x0 : ByteArray) (k0 : (ByteArray) → (ByteArray) → Option R) : Option R := names_Split_T N (@strings_Cut N) (@names_May N) x0 k0
abbrev tree_of_Ty : Type 1 := {R : Type} → (ByteArray) → ((ByteArray) → (ByteArray) → Option R) → Option R
noncomputable def tree_of_T (N : Nat) (c0 : names_Split_Ty) {R : Type} (x0 : ByteArray) (k0 : (ByteArray) → (ByteArray) → Option R) : Option R :=
  c0 x0
  (fun s36 s37 => k0 s36 s37)
noncomputable def tree_of (N : Nat) {R : Type} (x0 : ByteArray) (k0 : (ByteArray) → (ByteArray) → Option R) : Option R := tree_of_T N (@names_Split N) x0 k0
abbrev tree_Tree_above_2de7_Ty : Type 1 := {R : Type} → (ByteArray) → (ByteArray) → (Int) → (List (((ByteArray) × (ByteArray)) × ((Int) × (Bool)))) → ((Int) → (Int) → (List (((ByteArray) × (ByteArray)) × ((Int) × (Bool)))) → Option R) → Option R
noncomputable def tree_Tree_above_2de7_T (N : Nat) {R : Type} (x0 : ByteArray) (x1 : ByteArray) (x2 : Int) (x3 : List (((ByteArray) × (ByteArray)) × ((Int) × (Bool)))) (k0 : (Int) → (Int) → (List (((ByteArray) × (ByteArray)) × ((Int) × (Bool)))) → Option R) : Option R :=
  br (decide (x1 = (bs [])))
  (k0 (65282 : Int) x2 x3)
  (br (decide (x0 = (bs [])))
   (k0 (0 : Int) x2 x3)
   (br ((Option.isSome (mfind (.pair .str .str) (.pair (.int .i64) .bool) x3 ((bs []) , x0))) == (Option.isSome (mfind (.pair .str .str) (.pair (.int .i64) .bool) x3 ((bs []) , x0))))
    (br (!(Option.isSome (mfind (.pair .str .str) (.pair (.int .i64) .bool) x3 ((bs []) , x0))))
     (k0 (65282 : Int) x2 x3)
     (br (!(Option.getD (mfind (.pair .str .str) (.pair (.int .i64) .bool) x3 ((bs []) , x0)) ((0 : Int) , false)).2)
      (k0 (65300 : Int) x2 x3)
      (k0 (0 : Int) x2 x3)))
    (none)))
noncomputable def tree_Tree_above_2de7 (N : Nat) {R : Type} (x0 : ByteArray) (x1 : ByteArray) (x2 : Int) (x3 : List (((ByteArray) × (ByteArray)) × ((Int) × (Bool)))) (k0 : (Int) → (Int) → (List (((ByteArray) × (ByteArray)) × ((Int) × (Bool)))) → Option R) : Option R := tree_Tree_above_2de7_T N x0 x1 x2 x3 k0
abbrev tree_Tree_get_fb98_Ty : Type 1 := {R : Type} → (ByteArray) → (Int) → (List (((ByteArray) × (ByteArray)) × ((Int) × (Bool)))) → ((Int) → (Bool) → (Int) → (Int) → (List (((ByteArray) × (ByteArray)) × ((Int) × (Bool)))) → Option R) → Option R
noncomputable def tree_Tree_get_fb98_T (N : Nat) (c0 : tree_Tree_above_2de7_Ty) (c1 : tree_of_Ty) {R : Type} (x0 : ByteArray) (x1 : Int) (x2 : List (((ByteArray) × (ByteArray)) × ((Int) × (Bool)))) (k0 : (Int) → (Bool) → (Int) → (Int) → (List (((ByteArray) × (ByteArray)) × ((Int) × (Bool)))) → Option R) : Option R :=
  c1 x0
  (fun s38 s39 => c0 s38 s39 x1 x2
   (fun i40 i41 l42 => br (!(decide (i40 = (0 : Int))))
    (k0 (0 : Int) false i40 i41 l42)
    (br ((Option.isSome (mfind (.pair .str .str) (.pair (.int .i64) .bool) l42 (s38 , s39))) == (Option.isSome (mfind (.pair .str .str) (.pair (.int .i64) .bool) l42 (s38 , s39))))
     (br (!(Option.isSome (mfind (.pair .str .str) (.pair (.int .i64) .bool) l42 (s38 , s39))))
      (k0 (0 : Int) false (65282 : Int) i41 l42)
      (k0 (Option.getD (mfind (.pair .str .str) (.pair (.int .i64) .bool) l42 (s38 , s39)) ((0 : Int) , false)).1 (Option.getD (mfind (.pair .str .str) (.pair (.int .i64) .bool) l42 (s38 , s39)) ((0 : Int) , false)).2 (0 : Int) i41 l42))
     (none))))
noncomputable def tree_Tree_get_fb98 (N : Nat) {R : Type} (x0 : ByteArray) (x1 : Int) (x2 : List (((ByteArray) × (ByteArray)) × ((Int) × (Bool)))) (k0 : (Int) → (Bool) → (Int) → (Int) → (List (((ByteArray) × (ByteArray)) × ((Int) × (Bool)))) → Option R) : Option R := tree_Tree_get_fb98_T N (@tree_Tree_above_2de7 N) (@tree_of N) x0 x1 x2 k0
abbrev tree_Tree_Find_fb98_Ty : Type 1 := {R : Type} → (ByteArray) → (Int) → (List (((ByteArray) × (ByteArray)) × ((Int) × (Bool)))) → ((Int) → (Bool) → (Int) → (Int) → (List (((ByteArray) × (ByteArray)) × ((Int) × (Bool)))) → Option R) → Option R
noncomputable def tree_Tree_Find_fb98_T (N : Nat) (c0 : tree_Tree_get_fb98_Ty) {R : Type} (x0 : ByteArray) (x1 : Int) (x2 : List (((ByteArray) × (ByteArray)) × ((Int) × (Bool)))) (k0 : (Int) → (Bool) → (Int) → (Int) → (List (((ByteArray) × (ByteArray)) × ((Int) × (Bool)))) → Option R) : Option R :=
  c0 x0 x1 x2
  (fun i43 b44 i45 i46 l47 => br (!(decide (i45 = (0 : Int))))
   (k0 (-1 : Int) false i45 i46 l47)
   (k0 i43 b44 (0 : Int) i46 l47))
noncomputable def tree_Tree_Find_fb98 (N : Nat) {R : Type} (x0 : ByteArray) (x1 : Int) (x2 : List (((ByteArray) × (ByteArray)) × ((Int) × (Bool)))) (k0 : (Int) → (Bool) → (Int) → (Int) → (List (((ByteArray) × (ByteArray)) × ((Int) × (Bool)))) → Option R) : Option R := tree_Tree_Find_fb98_T N (@tree_Tree_get_fb98 N) x0 x1 x2 k0
abbrev tree_Tree_Find_Ty : Type 1 := {R : Type} → (ByteArray) → ((Int) → (Bool) → (Int) → Option R) → Option R
noncomputable def tree_Tree_Find_T (N : Nat) (c0 : tree_Tree_get_fb98_Ty) {R : Type} (x0 : ByteArray) (k0 : (Int) → (Bool) → (Int) → Option R) : Option R :=
  k0 (0 : Int) false (0 : Int)
noncomputable def tree_Tree_Find (N : Nat) {R : Type} (x0 : ByteArray) (k0 : (Int) → (Bool) → (Int) → Option R) : Option R := tree_Tree_Find_T N (@tree_Tree_get_fb98 N) x0 k0
abbrev slices_Index__int_int_9a75_l0_Ty : Type 1 := {R : Type} → ((Int) → (List (Int)) → (Int) → (List (((ByteArray) × (ByteArray)) × ((Int) × (Bool)))) → (List ((Int) × (List (Int)))) → (List ((Int) × (Int))) → Option R) → ((List (Int)) → (Int) → (List (((ByteArray) × (ByteArray)) × ((Int) × (Bool)))) → (List ((Int) × (List (Int)))) → (List ((Int) × (Int))) → Option R) → Nat → (Nat) → (Nat) → (Int) → (Int) → (Int) → (List (Int)) → (Int) → (List (((ByteArray) × (ByteArray)) × ((Int) × (Bool)))) → (List ((Int) × (List (Int)))) → (List ((Int) × (Int))) → Option R
abbrev slices_Index__int_int_9a75_Ty : Type 1 := {R : Type} → (Nat) → (Nat) → (Int) → (List (Int)) → (Int) → (List (((ByteArray) × (ByteArray)) × ((Int) × (Bool)))) → (List ((Int) × (List (Int)))) → (List ((Int) × (Int))) → ((Int) → (List (Int)) → (Int) → (List (((ByteArray) × (ByteArray)) × ((Int) × (Bool)))) → (List ((Int) × (List (Int)))) → (List ((Int) × (Int))) → Option R) → Option R
noncomputable def slices_Index__int_int_9a75_l0_T0 (N : Nat) {R : Type} (nx : (Nat) → (Nat) → (Int) → (Int) → (Int) → (List (Int)) → (Int) → (List (((ByteArray) × (ByteArray)) × ((Int) × (Bool)))) → (List ((Int) × (List (Int)))) → (List ((Int) × (Int))) → Option R) (k0 : (Int) → (List (Int)) → (Int) → (List (((ByteArray) × (ByteArray)) × ((Int) × (Bool)))) → (List ((Int) × (List (Int)))) → (List ((Int) × (Int))) → Option R) (k1 : (List (Int)) → (Int) → (List (((ByteArray) × (ByteArray)) × ((Int) × (Bool)))) → (List ((Int) × (List (Int)))) → (List ((Int) × (Int))) → Option R) (x0 : Nat) (x1 : Nat) (x2 : Int) (x3 : Int) (x4 : Int) (x5 : List (Int)) (x6 : Int) (x7 : List (((ByteArray) × (ByteArray)) × ((Int) × (Bool)))) (x8 : List ((Int) × (List (Int)))) (x9 : List ((Int) × (Int))) : Option R :=
  br (decide (x4 < x3))
  (br (inB x4 x0)
   (br (decide ((Int.toNat x4) < (4 : Nat)))
    (br (decide (x2 = (List.getD x5 (Int.toNat x4) (0 : Int))))
     (k0 x4 x5 x6 x7 x8 x9)
     (nx x0 x1 x2 x3 (IntKind.wrap .i64 (x4 + (1 : Int))) x5 x6 x7 x8 x9))
    (none))
   (none))
  (k1 x5 x6 x7 x8 x9)
noncomputable def slices_Index__int_int_9a75_l0 (N : Nat) {R : Type} (k0 : (Int) → (List (Int)) → (Int) → (List (((ByteArray) × (ByteArray)) × ((Int) × (Bool)))) → (List ((Int) × (List (Int)))) → (List ((Int) × (Int))) → Option R) (k1 : (List (Int)) → (Int) → (List (((ByteArray) × (ByteArray)) × ((Int) × (Bool)))) → (List ((Int) × (List (Int)))) → (List ((Int) × (Int))) → Option R) : Nat → (Nat) → (Nat) → (Int) → (Int) → (Int) → (List (Int)) → (Int) → (List (((ByteArray) × (ByteArray)) × ((Int) × (Bool)))) → (List ((Int) × (List (Int)))) → (List ((Int) × (Int))) → Option R
  | 0, _, _, _, _, _, _, _, _, _, _ => none
  | n + 1, x0, x1, x2, x3, x4, x5, x6, x7, x8, x9 => slices_Index__int_int_9a75_l0_T0 N (fun x0 x1 x2 x3 x4 x5 x6 x7 x8 x9 => slices_Index__int_int_9a75_l0 N k0 k1 n x0 x1 x2 x3 x4 x5 x6 x7 x8 x9) k0 k1 x0 x1 x2 x3 x4 x5 x6 x7 x8 x9
noncomputable def slices_Index__int_int_9a75_T (N : Nat) (w0 : slices_Index__int_int_9a75_l0_Ty) {R : Type} (x0 : Nat) (x1 : Nat) (x2 : Int) (x3 : List (Int)) (x4 : Int) (x5 : List (((ByteArray) × (ByteArray)) × ((Int) × (Bool)))) (x6 : List ((Int) × (List (Int)))) (x7 : List ((Int) × (Int))) (k0 : (Int) → (List (Int)) → (Int) → (List (((ByteArray) × (ByteArray)) × ((Int) × (Bool)))) → (List ((Int) × (List (Int)))) → (List ((Int) × (Int))) → Option R) : Option R :=
  w0
  (fun i53 l54 i55 l56 l57 l58 => k0 i53 l54 i55 l56 l57 l58)
  (fun l59 i60 l61 l62 l63 => k0 (-1 : Int) l59 i60 l61 l62 l63)
  N x0 x1 x2 (Nat.cast x0 : Int) (0 : Int) x3 x4 x5 x6 x7
noncomputable def slices_Index__int_int_9a75 (N : Nat) {R : Type} (x0 : Nat) (x1 : Nat) (x2 : Int) (x3 : List (Int)) (x4 : Int) (x5 : List (((ByteArray) × (ByteArray)) × ((Int) × (Bool)))) (x6 : List ((Int) × (List (Int)))) (x7 : List ((Int) × (Int))) (k0 : (Int) → (List (Int)) → (Int) → (List (((ByteArray) × (ByteArray)) × ((Int) × (Bool)))) → (List ((Int) × (List (Int)))) → (List ((Int) × (Int))) → Option R) : Option R := slices_Index__int_int_9a75_T N (@slices_Index__int_int_9a75_l0 N) x0 x1 x2 x3 x4 x5 x6 x7 k0
abbrev slices_Index__int_int_3801_l0_Ty : Type 1 := {R : Type} → ((Int) → (List (Int)) → (List ((Int) × (List (Int)))) → (List ((Int) × (Int))) → Option R) → ((List (Int)) → (List ((Int) × (List (Int)))) → (List ((Int) × (Int))) → Option R) → Nat → (Nat) → (Nat) → (Int) → (Int) → (Int) → (List (Int)) → (List ((Int) × (List (Int)))) → (List ((Int) × (Int))) → Option R
abbrev slices_Index__int_int_3801_Ty : Type 1 := {R : Type} → (Nat) → (Nat) → (Int) → (List (Int)) → (List ((Int) × (List (Int)))) → (List ((Int) × (Int))) → ((Int) → (List (Int)) → (List ((Int) × (List (Int)))) → (List ((Int) × (Int))) → Option R) → Option R
noncomputable def slices_Index__int_int_3801_l0_T0 (N : Nat) {R : Type} (nx : (Nat) → (Nat) → (Int) → (Int) → (Int) → (List (Int)) → (List ((Int) × (List (Int)))) → (List ((Int) × (Int))) → Option R) (k0 : (Int) → (List (Int)) → (List ((Int) × (List (Int)))) → (List ((Int) × (Int))) → Option R) (k1 : (List (Int)) → (List ((Int) × (List (Int)))) → (List ((Int) × (Int))) → Option R) (x0 : Nat) (x1 : Nat) (x2 : Int) (x3 : Int) (x4 : Int) (x5 : List (Int)) (x6 : List ((Int) × (List (Int)))) (x7 : List ((Int) × (Int))) : Option R :=
  br (decide (x4 < x3))
  (br (inB x4 x0)
   (br (decide ((Int.toNat x4) < (4 : Nat)))
    (br (decide (x2 = (List.getD x5 (Int.toNat x4) (0 : Int))))
     (k0 x4 x5 x6 x7)
     (nx x0 x1 x2 x3 (IntKind.wrap .i64 (x4 + (1 : Int))) x5 x6 x7))
    (none))
   (none))
  (k1 x5 x6 x7)
noncomputable def slices_Index__int_int_3801_l0 (N : Nat) {R : Type} (k0 : (Int) → (List (Int)) → (List ((Int) × (List (Int)))) → (List ((Int) × (Int))) → Option R) (k1 : (List (Int)) → (List ((Int) × (List (Int)))) → (List ((Int) × (Int))) → Option R) : Nat → (Nat) → (Nat) → (Int) → (Int) → (Int) → (List (Int)) → (List ((Int) × (List (Int)))) → (List ((Int) × (Int))) → Option R
  | 0, _, _, _, _, _, _, _, _ => none
  | n + 1, x0, x1, x2, x3, x4, x5, x6, x7 => slices_Index__int_int_3801_l0_T0 N (fun x0 x1 x2 x3 x4 x5 x6 x7 => slices_Index__int_int_3801_l0 N k0 k1 n x0 x1 x2 x3 x4 x5 x6 x7) k0 k1 x0 x1 x2 x3 x4 x5 x6 x7
noncomputable def slices_Index__int_int_3801_T (N : Nat) (w0 : slices_Index__int_int_3801_l0_Ty) {R : Type} (x0 : Nat) (x1 : Nat) (x2 : Int) (x3 : List (Int)) (x4 : List ((Int) × (List (Int)))) (x5 : List ((Int) × (Int))) (k0 : (Int) → (List (Int)) → (List ((Int) × (List (Int)))) → (List ((Int) × (Int))) → Option R) : Option R :=
  w0
  (fun i493 l494 l495 l496 => k0 i493 l494 l495 l496)
  (fun l497 l498 l499 => k0 (-1 : Int) l497 l498 l499)
  N x0 x1 x2 (Nat.cast x0 : Int) (0 : Int) x3 x4 x5
noncomputable def slices_Index__int_int_3801 (N : Nat) {R : Type} (x0 : Nat) (x1 : Nat) (x2 : Int) (x3 : List (Int)) (x4 : List ((Int) × (List (Int)))) (x5 : List ((Int) × (Int))) (k0 : (Int) → (List (Int)) → (List ((Int) × (List (Int)))) → (List ((Int) × (Int))) → Option R) : Option R := slices_Index__int_int_3801_T N (@slices_Index__int_int_3801_l0 N) x0 x1 x2 x3 x4 x5 k0
abbrev files_Files_free_18fa_Ty : Type 1 := {R : Type} → (List (Int)) → (Int) → (List (((ByteArray) × (ByteArray)) × ((Int) × (Bool)))) → (List ((Int) × (List (Int)))) → (List ((Int) × (Int))) → ((Int) → (Bool) → (List (Int)) → (Int) → (List (((ByteArray) × (ByteArray)) × ((Int) × (Bool)))) → (List ((Int) × (List (Int)))) → (List ((Int) × (Int))) → Option R) → Option R
noncomputable def files_Files_free_18fa_T (N : Nat) (c0 : slices_Index__int_int_9a75_Ty) (c1 : slices_Index__int_int_3801_Ty) {R : Type} (x0 : List (Int)) (x1 : Int) (x2 : List (((ByteArray) × (ByteArray)) × ((Int) × (Bool)))) (x3 : List ((Int) × (List (Int)))) (x4 : List ((Int) × (Int))) (k0 : (Int) → (Bool) → (List (Int)) → (Int) → (List (((ByteArray) × (ByteArray)) × ((Int) × (Bool)))) → (List ((Int) × (List (Int)))) → (List ((Int) × (Int))) → Option R) : Option R :=
  c0 (4 : Nat) (4 : Nat) (0 : Int) x0 x1 x2 x3 x4
  (fun i64 l65 i66 l67 l68 l69 => k0 i64 (decide ((0 : Int) ≤ i64)) l65 i66 l67 l68 l69)
noncomputable def files_Files_free_18fa (N : Nat) {R : Type} (x0 : List (Int)) (x1 : Int) (x2 : List (((ByteArray) × (ByteArray)) × ((Int) × (Bool)))) (x3 : List ((Int) × (List (Int)))) (x4 : List ((Int) × (Int))) (k0 : (Int) → (Bool) → (List (Int)) → (Int) → (List (((ByteArray) × (ByteArray)) × ((Int) × (Bool)))) → (List ((Int) × (List (Int)))) → (List ((Int) × (Int))) → Option R) : Option R := files_Files_free_18fa_T N (@slices_Index__int_int_9a75 N) (@slices_Index__int_int_3801 N) x0 x1 x2 x3 x4 k0
abbrev files_Files_free_d57c_Ty : Type 1 := {R : Type} → (List (Int)) → (List ((Int) × (List (Int)))) → (List ((Int) × (Int))) → ((Int) → (Bool) → (List (Int)) → (List ((Int) × (List (Int)))) → (List ((Int) × (Int))) → Option R) → Option R
noncomputable def files_Files_free_d57c_T (N : Nat) (c0 : slices_Index__int_int_9a75_Ty) (c1 : slices_Index__int_int_3801_Ty) {R : Type} (x0 : List (Int)) (x1 : List ((Int) × (List (Int)))) (x2 : List ((Int) × (Int))) (k0 : (Int) → (Bool) → (List (Int)) → (List ((Int) × (List (Int)))) → (List ((Int) × (Int))) → Option R) : Option R :=
  c1 (4 : Nat) (4 : Nat) (0 : Int) x0 x1 x2
  (fun i500 l501 l502 l503 => k0 i500 (decide ((0 : Int) ≤ i500)) l501 l502 l503)
noncomputable def files_Files_free_d57c (N : Nat) {R : Type} (x0 : List (Int)) (x1 : List ((Int) × (List (Int)))) (x2 : List ((Int) × (Int))) (k0 : (Int) → (Bool) → (List (Int)) → (List ((Int) × (List (Int)))) → (List ((Int) × (Int))) → Option R) : Option R := files_Files_free_d57c_T N (@slices_Index__int_int_9a75 N) (@slices_Index__int_int_3801 N) x0 x1 x2 k0
abbrev maps_Clone_map_tree_keytree_entry_tree_key_tree_entry_df6b_Ty : Type 1 := {R : Type} → (List (((ByteArray) × (ByteArray)) × ((Int) × (Bool)))) → ((List (((ByteArray) × (ByteArray)) × ((Int) × (Bool)))) → (List (((ByteArray) × (ByteArray)) × ((Int) × (Bool)))) → Option R) → Option R
noncomputable def maps_Clone_map_tree_keytree_entry_tree_key_tree_entry_df6b {R : Type} (x0 : List (((ByteArray) × (ByteArray)) × ((Int) × (Bool)))) (k0 : (List (((ByteArray) × (ByteArray)) × ((Int) × (Bool)))) → (List (((ByteArray) × (ByteArray)) × ((Int) × (Bool)))) → Option R) : Option R := k0 x0 x0
abbrev tree_Tree_Copy_a28d_Ty : Type 1 := {R : Type} → (Int) → (List (((ByteArray) × (ByteArray)) × ((Int) × (Bool)))) → ((Int) → (List (((ByteArray) × (ByteArray)) × ((Int) × (Bool)))) → (Int) → (List (((ByteArray) × (ByteArray)) × ((Int) × (Bool)))) → Option R) → Option R
noncomputable def tree_Tree_Copy_a28d_T (N : Nat) (c0 : maps_Clone_map_tree_keytree_entry_tree_key_tree_entry_df6b_Ty) {R : Type} (x0 : Int) (x1 : List (((ByteArray) × (ByteArray)) × ((Int) × (Bool)))) (k0 : (Int) → (List (((ByteArray) × (ByteArray)) × ((Int) × (Bool)))) → (Int) → (List (((ByteArray) × (ByteArray)) × ((Int) × (Bool)))) → Option R) : Option R :=
  c0 x1
  (fun l77 l78 => br (decide (x0 = x0))
   (k0 x0 l77 x0 l78)
   (none))
noncomputable def tree_Tree_Copy_a28d (N : Nat) {R : Type} (x0 : Int) (x1 : List (((ByteArray) × (ByteArray)) × ((Int) × (Bool)))) (k0 : (Int) → (List (((ByteArray) × (ByteArray)) × ((Int) × (Bool)))) → (Int) → (List (((ByteArray) × (ByteArray)) × ((Int) × (Bool)))) → Option R) : Option R := tree_Tree_Copy_a28d_T N @maps_Clone_map_tree_keytree_entry_tree_key_tree_entry_df6b x0 x1 k0
abbrev tree_Tree_Copy_Ty : Type 1 := {R : Type} → (Option R) → Option R
noncomputable def tree_Tree_Copy_T (N : Nat) (c0 : maps_Clone_map_tree_keytree_entry_tree_key_tree_entry_df6b_Ty) {R : Type} (k0 : Option R) : Option R :=
  k0
noncomputable def tree_Tree_Copy (N : Nat) {R : Type} (k0 : Option R) : Option R := tree_Tree_Copy_T N @maps_Clone_map_tree_keytree_entry_tree_key_tree_entry_df6b k0
abbrev tree_Tree_Make_c502_Ty : Type 1 := {R : Type} → (ByteArray) → (Bool) → (Int) → (List (((ByteArray) × (ByteArray)) × ((Int) × (Bool)))) → ((Int) → (Int) → (Int) → (List (((ByteArray) × (ByteArray)) × ((Int) × (Bool)))) → Option R) → Option R
noncomputable def tree_Tree_Make_c502_T (N : Nat) (c0 : tree_Tree_above_2de7_Ty) (c1 : tree_of_Ty) {R : Type} (x0 : ByteArray) (x1 : Bool) (x2 : Int) (x3 : List (((ByteArray) × (ByteArray)) × ((Int) × (Bool)))) (k0 : (Int) → (Int) → (Int) → (List (((ByteArray) × (ByteArray)) × ((Int) × (Bool)))) → Option R) : Option R :=
  c1 x0
  (fun s83 s84 => c0 s83 s84 x2 x3
   (fun i85 i86 l87 => br (!(decide (i85 = (0 : Int))))
    (k0 (-1 : Int) i85 i86 l87)
    (br ((Option.isSome (mfind (.pair .str .str) (.pair (.int .i64) .bool) l87 (s83 , s84))) == (Option.isSome (mfind (.pair .str .str) (.pair (.int .i64) .bool) l87 (s83 , s84))))
     (br (Option.isSome (mfind (.pair .str .str) (.pair (.int .i64) .bool) l87 (s83 , s84)))
      (k0 (-1 : Int) (65297 : Int) i86 l87)
      (br x1
       (br (!(decide (s83 = (bs []))))
        (k0 (-1 : Int) (65302 : Int) i86 l87)
        (br (decide ((8 : Int) ≤ (Nat.cast (List.length l87) : Int)))
         (k0 (-1 : Int) (65308 : Int) i86 l87)
         (k0 (IntKind.wrap .i64 ((IntKind.wrap .i64 (i86 + (1 : Int))) - (1 : Int))) (0 : Int) (IntKind.wrap .i64 (i86 + (1 : Int))) (mput (.pair .str .str) (.pair (.int .i64) .bool) l87 (s83 , s84) (i86 , x1)))))
       (br (decide ((8 : Int) ≤ (Nat.cast (List.length l87) : Int)))
        (k0 (-1 : Int) (65308 : Int) i86 l87)
        (k0 (IntKind.wrap .i64 ((IntKind.wrap .i64 (i86 + (1 : Int))) - (1 : Int))) (0 : Int) (IntKind.wrap .i64 (i86 + (1 : Int))) (mput (.pair .str .str) (.pair (.int .i64) .bool) l87 (s83 , s84) (i86 , x1))))))
     (none))))
noncomputable def tree_Tree_Make_c502 (N : Nat) {R : Type} (x0 : ByteArray) (x1 : Bool) (x2 : Int) (x3 : List (((ByteArray) × (ByteArray)) × ((Int) × (Bool)))) (k0 : (Int) → (Int) → (Int) → (List (((ByteArray) × (ByteArray)) × ((Int) × (Bool)))) → Option R) : Option R := tree_Tree_Make_c502_T N (@tree_Tree_above_2de7 N) (@tree_of N) x0 x1 x2 x3 k0
abbrev tree_Tree_Make_Ty : Type 1 := {R : Type} → (ByteArray) → (Bool) → ((Int) → (Int) → Option R) → Option R
noncomputable def tree_Tree_Make_T (N : Nat) (c0 : tree_Tree_above_2de7_Ty) (c1 : tree_of_Ty) {R : Type} (x0 : ByteArray) (x1 : Bool) (k0 : (Int) → (Int) → Option R) : Option R :=
  k0 (0 : Int) (0 : Int)
noncomputable def tree_Tree_Make (N : Nat) {R : Type} (x0 : ByteArray) (x1 : Bool) (k0 : (Int) → (Int) → Option R) : Option R := tree_Tree_Make_T N (@tree_Tree_above_2de7 N) (@tree_of N) x0 x1 k0
abbrev tree_New_1c12_l0_Ty : Type 1 := {R : Type} → ((Int) → (List (((ByteArray) × (ByteArray)) × ((Int) × (Bool)))) → Option R) → Nat → (Int) → (Int) → (Int) → (List (((ByteArray) × (ByteArray)) × ((Int) × (Bool)))) → Option R
abbrev tree_New_1c12_Ty : Type 1 := {R : Type} → ((Int) → (Int) → (List (((ByteArray) × (ByteArray)) × ((Int) × (Bool)))) → Option R) → Option R
noncomputable def tree_New_1c12_l0_T0 (N : Nat) (c0 : tree_Tree_Make_c502_Ty) (c1 : tree_Tree_Make_Ty) (c2 : names_May_Ty) {R : Type} (nx : (Int) → (Int) → (Int) → (List (((ByteArray) × (ByteArray)) × ((Int) × (Bool)))) → Option R) (k0 : (Int) → (List (((ByteArray) × (ByteArray)) × ((Int) × (Bool)))) → Option R) (x0 : Int) (x1 : Int) (x2 : Int) (x3 : List (((ByteArray) × (ByteArray)) × ((Int) × (Bool)))) : Option R :=
  br (decide (x1 < x0))
  (none)
  (k0 x2 x3)
noncomputable def tree_New_1c12_l0 (N : Nat) {R : Type} (k0 : (Int) → (List (((ByteArray) × (ByteArray)) × ((Int) × (Bool)))) → Option R) : Nat → (Int) → (Int) → (Int) → (List (((ByteArray) × (ByteArray)) × ((Int) × (Bool)))) → Option R
  | 0, _, _, _, _ => none
  | n + 1, x0, x1, x2, x3 => tree_New_1c12_l0_T0 N (@tree_Tree_Make_c502 N) (@tree_Tree_Make N) (@names_May N) (fun x0 x1 x2 x3 => tree_New_1c12_l0 N k0 n x0 x1 x2 x3) k0 x0 x1 x2 x3
noncomputable def tree_New_1c12_T (N : Nat) (c0 : tree_Tree_Make_c502_Ty) (c1 : tree_Tree_Make_Ty) (c2 : names_May_Ty) (w0 : tree_New_1c12_l0_Ty) {R : Type} (k0 : (Int) → (Int) → (List (((ByteArray) × (ByteArray)) × ((Int) × (Bool)))) → Option R) : Option R :=
  w0
  (fun i0 l1 => k0 (0 : Int) i0 l1)
  N (0 : Int) (0 : Int) (0 : Int) ([] : List (((Sh.str.pair Sh.str).T) × (((Sh.int IntKind.i64).pair Sh.bool).T)))
noncomputable def tree_New_1c12 (N : Nat) {R : Type} (k0 : (Int) → (Int) → (List (((ByteArray) × (ByteArray)) × ((Int) × (Bool)))) → Option R) : Option R := tree_New_1c12_T N (@tree_Tree_Make_c502 N) (@tree_Tree_Make N) (@names_May N) (@tree_New_1c12_l0 N) k0
abbrev tree_New_644a_l0_Ty : Type 1 := {R : Type} → ((Int) → (List ((ByteArray) × ((Bool) × (Int)))) → (Int) → (List (((ByteArray) × (ByteArray)) × ((Int) × (Bool)))) → Option R) → ((List ((ByteArray) × ((Bool) × (Int)))) → (Int) → (List (((ByteArray) × (ByteArray)) × ((Int) × (Bool)))) → Option R) → Nat → (Int) → (Int) → (List ((ByteArray) × ((Bool) × (Int)))) → (Int) → (List (((ByteArray) × (ByteArray)) × ((Int) × (Bool)))) → Option R
abbrev tree_New_644a_Ty : Type 1 := {R : Type} → (List ((ByteArray) × ((Bool) × (Int)))) → ((Int) → (List ((ByteArray) × ((Bool) × (Int)))) → Option R) → ((Int) → (List ((ByteArray) × ((Bool) × (Int)))) → (Int) → (List (((ByteArray) × (ByteArray)) × ((Int) × (Bool)))) → Option R) → Option R
noncomputable def tree_New_644a_l0_T0 (N : Nat) (c0 : tree_Tree_Make_c502_Ty) (c1 : tree_Tree_Make_Ty) (c2 : names_May_Ty) {R : Type} (nx : (Int) → (Int) → (List ((ByteArray) × ((Bool) × (Int)))) → (Int) → (List (((ByteArray) × (ByteArray)) × ((Int) × (Bool)))) → Option R) (k0 : (Int) → (List ((ByteArray) × ((Bool) × (Int)))) → (Int) → (List (((ByteArray) × (ByteArray)) × ((Int) × (Bool)))) → Option R) (k1 : (List ((ByteArray) × ((Bool) × (Int)))) → (Int) → (List (((ByteArray) × (ByteArray)) × ((Int) × (Bool)))) → Option R) (x0 : Int) (x1 : Int) (x2 : List ((ByteArray) × ((Bool) × (Int)))) (x3 : Int) (x4 : List (((ByteArray) × (ByteArray)) × ((Int) × (Bool)))) : Option R :=
  br (decide (x1 < x0))
  (br (inB x1 (List.length x2))
   (br (decide ((Int.toNat x1) < (List.length x2)))
    (c2 (List.getD x2 (Int.toNat x1) ((bs []) , (false , (0 : Int)))).1
     (fun b235 => br (!b235)
      (k0 (11 : Int) x2 x3 x4)
      (c0 (List.getD x2 (Int.toNat x1) ((bs []) , (false , (0 : Int)))).1 (List.getD x2 (Int.toNat x1) ((bs []) , (false , (0 : Int)))).2.1 x3 x4
       (fun i236 i237 i238 l239 => br (!(decide (i237 = (0 : Int))))
        (k0 (11 : Int) x2 i238 l239)
        (nx x0 (IntKind.wrap .i64 (x1 + (1 : Int))) x2 i238 l239)))))
    (none))
   (none))
  (k1 x2 x3 x4)
noncomputable def tree_New_644a_l0 (N : Nat) {R : Type} (k0 : (Int) → (List ((ByteArray) × ((Bool) × (Int)))) → (Int) → (List (((ByteArray) × (ByteArray)) × ((Int) × (Bool)))) → Option R) (k1 : (List ((ByteArray) × ((Bool) × (Int)))) → (Int) → (List (((ByteArray) × (ByteArray)) × ((Int) × (Bool)))) → Option R) : Nat → (Int) → (Int) → (List ((ByteArray) × ((Bool) × (Int)))) → (Int) → (List (((ByteArray) × (ByteArray)) × ((Int) × (Bool)))) → Option R
  | 0, _, _, _, _, _ => none
  | n + 1, x0, x1, x2, x3, x4 => tree_New_644a_l0_T0 N (@tree_Tree_Make_c502 N) (@tree_Tree_Make N) (@names_May N) (fun x0 x1 x2 x3 x4 => tree_New_644a_l0 N k0 k1 n x0 x1 x2 x3 x4) k0 k1 x0 x1 x2 x3 x4
noncomputable def tree_New_644a_T (N : Nat) (c0 : tree_Tree_Make_c502_Ty) (c1 : tree_Tree_Make_Ty) (c2 : names_May_Ty) (w0 : tree_New_644a_l0_Ty) {R : Type} (x0 : List ((ByteArray) × ((Bool) × (Int)))) (k0 : (Int) → (List ((ByteArray) × ((Bool) × (Int)))) → Option R) (k1 : (Int) → (List ((ByteArray) × ((Bool) × (Int)))) → (Int) → (List (((ByteArray) × (ByteArray)) × ((Int) × (Bool)))) → Option R) : Option R :=
  br (decide ((8 : Int) < (Nat.cast (List.length x0) : Int)))
  (k0 (11 : Int) x0)
  (w0
   (fun i240 l241 i242 l243 => k0 i240 l241)
   (fun l244 i245 l246 => k1 (0 : Int) l244 i245 l246)
   N (Nat.cast (List.length x0) : Int) (0 : Int) x0 (0 : Int) ([] : List (((Sh.str.pair Sh.str).T) × (((Sh.int IntKind.i64).pair Sh.bool).T))))
noncomputable def tree_New_644a (N : Nat) {R : Type} (x0 : List ((ByteArray) × ((Bool) × (Int)))) (k0 : (Int) → (List ((ByteArray) × ((Bool) × (Int)))) → Option R) (k1 : (Int) → (List ((ByteArray) × ((Bool) × (Int)))) → (Int) → (List (((ByteArray) × (ByteArray)) × ((Int) × (Bool)))) → Option R) : Option R := tree_New_644a_T N (@tree_Tree_Make_c502 N) (@tree_Tree_Make N) (@names_May N) (@tree_New_644a_l0 N) x0 k0 k1
abbrev files_Files_may_f601_Ty : Type 1 := {R : Type} → (ByteArray) → (List (Int)) → (Int) → (List (((ByteArray) × (ByteArray)) × ((Int) × (Bool)))) → (List ((Int) × (List (Int)))) → (List ((Int) × (Int))) → ((Bool) → (List (Int)) → (Int) → (List (((ByteArray) × (ByteArray)) × ((Int) × (Bool)))) → (List ((Int) × (List (Int)))) → (List ((Int) × (Int))) → Option R) → Option R
noncomputable def files_Files_may_f601_T (N : Nat) (c0 : tree_Tree_Make_c502_Ty) (c1 : tree_Tree_Make_Ty) (c2 : tree_Tree_Copy_a28d_Ty) (c3 : tree_Tree_Copy_Ty) {R : Type} (x0 : ByteArray) (x1 : List (Int)) (x2 : Int) (x3 : List (((ByteArray) × (ByteArray)) × ((Int) × (Bool)))) (x4 : List ((Int) × (List (Int)))) (x5 : List ((Int) × (Int))) (k0 : (Bool) → (List (Int)) → (Int) → (List (((ByteArray) × (ByteArray)) × ((Int) × (Bool)))) → (List ((Int) × (List (Int)))) → (List ((Int) × (Int))) → Option R) : Option R :=
  c2 x2 x3
  (fun i79 l80 i81 l82 => c0 x0 false i81 l82
   (fun i88 i89 i90 l91 => k0 (!(decide (i89 = (65282 : Int)))) x1 i79 l80 x4 x5))
noncomputable def files_Files_may_f601 (N : Nat) {R : Type} (x0 : ByteArray) (x1 : List (Int)) (x2 : Int) (x3 : List (((ByteArray) × (ByteArray)) × ((Int) × (Bool)))) (x4 : List ((Int) × (List (Int)))) (x5 : List ((Int) × (Int))) (k0 : (Bool) → (List (Int)) → (Int) → (List (((ByteArray) × (ByteArray)) × ((Int) × (Bool)))) → (List ((Int) × (List (Int)))) → (List ((Int) × (Int))) → Option R) : Option R := files_Files_may_f601_T N (@tree_Tree_Make_c502 N) (@tree_Tree_Make N) (@tree_Tree_Copy_a28d N) (@tree_Tree_Copy N) x0 x1 x2 x3 x4 x5 k0
abbrev files_Files_may_9fbb_Ty : Type 1 := {R : Type} → (ByteArray) → (List (Int)) → (List ((Int) × (List (Int)))) → (List ((Int) × (Int))) → ((Bool) → (List (Int)) → (List ((Int) × (List (Int)))) → (List ((Int) × (Int))) → Option R) → Option R
noncomputable def files_Files_may_9fbb_T (N : Nat) (c0 : tree_Tree_Make_c502_Ty) (c1 : tree_Tree_Make_Ty) (c2 : tree_Tree_Copy_a28d_Ty) (c3 : tree_Tree_Copy_Ty) {R : Type} (x0 : ByteArray) (x1 : List (Int)) (x2 : List ((Int) × (List (Int)))) (x3 : List ((Int) × (Int))) (k0 : (Bool) → (List (Int)) → (List ((Int) × (List (Int)))) → (List ((Int) × (Int))) → Option R) : Option R :=
  c3
  (c1 x0 false
   (fun i509 i510 => k0 (!(decide (i510 = (65282 : Int)))) x1 x2 x3))
noncomputable def files_Files_may_9fbb (N : Nat) {R : Type} (x0 : ByteArray) (x1 : List (Int)) (x2 : List ((Int) × (List (Int)))) (x3 : List ((Int) × (Int))) (k0 : (Bool) → (List (Int)) → (List ((Int) × (List (Int)))) → (List ((Int) × (Int))) → Option R) : Option R := files_Files_may_9fbb_T N (@tree_Tree_Make_c502 N) (@tree_Tree_Make N) (@tree_Tree_Copy_a28d N) (@tree_Tree_Copy N) x0 x1 x2 x3 k0
abbrev files_Files_Open_f601_Ty : Type 1 := {R : Type} → (ByteArray) → (List (Int)) → (Int) → (List (((ByteArray) × (ByteArray)) × ((Int) × (Bool)))) → (List ((Int) × (List (Int)))) → (List ((Int) × (Int))) → ((Int) → (List (Int)) → (Int) → (List (((ByteArray) × (ByteArray)) × ((Int) × (Bool)))) → (List ((Int) × (List (Int)))) → (List ((Int) × (Int))) → Option R) → Option R
noncomputable def files_Files_Open_f601_T (N : Nat) (c0 : tree_Tree_Make_c502_Ty) (c1 : tree_Tree_Make_Ty) (c2 : files_Files_may_f601_Ty) (c3 : files_Files_may_9fbb_Ty) (c4 : files_Files_free_18fa_Ty) (c5 : files_Files_free_d57c_Ty) (c6 : tree_Tree_Find_fb98_Ty) (c7 : tree_Tree_Find_Ty) {R : Type} (x0 : ByteArray) (x1 : List (Int)) (x2 : Int) (x3 : List (((ByteArray) × (ByteArray)) × ((Int) × (Bool)))) (x4 : List ((Int) × (List (Int)))) (x5 : List ((Int) × (Int))) (k0 : (Int) → (List (Int)) → (Int) → (List (((ByteArray) × (ByteArray)) × ((Int) × (Bool)))) → (List ((Int) × (List (Int)))) → (List ((Int) × (Int))) → Option R) : Option R :=
  c6 x0 x2 x3
  (fun i102 b103 i104 i105 l106 => c4 x1 i105 l106 x4 x5
   (fun i107 b108 l109 i110 l111 l112 l113 => br (decide (i104 = (0 : Int)))
    (br b103
     (k0 (65301 : Int) l109 i110 l111 l112 l113)
     (br (decide (i104 = (65300 : Int)))
      (k0 i104 l109 i110 l111 l112 l113)
      (br (!(decide (i104 = (0 : Int))))
       (c2 x0 l109 i110 l111 l112 l113
        (fun b114 l115 i116 l117 l118 l119 => br (!b114)
         (k0 (65282 : Int) l115 i116 l117 l118 l119)
         (br (!b108)
          (k0 (65304 : Int) l115 i116 l117 l118 l119)
          (br (!(decide (i104 = (0 : Int))))
           (c0 x0 false i116 l117
            (fun i120 i121 i122 l123 => br (!(decide (i121 = (0 : Int))))
             (k0 i121 l115 i122 l123 l118 l119)
             (br (((fits (0 : Nat) (List.length l119) l119) && (decide ((((List.length l119) + (1 : Nat)) * (16 : Nat)) ≤ (70368744177664 : Nat)))) && true)
              (br (inB i107 (4 : Nat))
               (br (decide ((Int.toNat i107) < (4 : Nat)))
                (k0 (IntKind.wrap .u16 i107) (List.set l115 (Int.toNat i107) (Nat.cast ((List.length l119) + (1 : Nat)) : Int)) i122 l123 l118 ((sub l119 (0 : Nat) (List.length l119)) ++ ((i120 , (0 : Int)) :: ([] : List (((Sh.int IntKind.i64).pair (Sh.int IntKind.i64)).T)))))
                (none))
               (none))
              (none))))
           (br (((fits (0 : Nat) (List.length l119) l119) && (decide ((((List.length l119) + (1 : Nat)) * (16 : Nat)) ≤ (70368744177664 : Nat)))) && true)
            (br (inB i107 (4 : Nat))
             (br (decide ((Int.toNat i107) < (4 : Nat)))
              (k0 (IntKind.wrap .u16 i107) (List.set l115 (Int.toNat i107) (Nat.cast ((List.length l119) + (1 : Nat)) : Int)) i116 l117 l118 ((sub l119 (0 : Nat) (List.length l119)) ++ ((i102 , (0 : Int)) :: ([] : List (((Sh.int IntKind.i64).pair (Sh.int IntKind.i64)).T)))))
              (none))
             (none))
            (none))))))
       (br (!b108)
        (k0 (65304 : Int) l109 i110 l111 l112 l113)
        (br (!(decide (i104 = (0 : Int))))
         (c0 x0 false i110 l111
          (fun i124 i125 i126 l127 => br (!(decide (i125 = (0 : Int))))
           (k0 i125 l109 i126 l127 l112 l113)
           (br (((fits (0 : Nat) (List.length l113) l113) && (decide ((((List.length l113) + (1 : Nat)) * (16 : Nat)) ≤ (70368744177664 : Nat)))) && true)
            (br (inB i107 (4 : Nat))
             (br (decide ((Int.toNat i107) < (4 : Nat)))
              (k0 (IntKind.wrap .u16 i107) (List.set l109 (Int.toNat i107) (Nat.cast ((List.length l113) + (1 : Nat)) : Int)) i126 l127 l112 ((sub l113 (0 : Nat) (List.length l113)) ++ ((i124 , (0 : Int)) :: ([] : List (((Sh.int IntKind.i64).pair (Sh.int IntKind.i64)).T)))))
              (none))
             (none))
            (none))))
         (br (((fits (0 : Nat) (List.length l113) l113) && (decide ((((List.length l113) + (1 : Nat)) * (16 : Nat)) ≤ (70368744177664 : Nat)))) && true)
          (br (inB i107 (4 : Nat))
           (br (decide ((Int.toNat i107) < (4 : Nat)))
            (k0 (IntKind.wrap .u16 i107) (List.set l109 (Int.toNat i107) (Nat.cast ((List.length l113) + (1 : Nat)) : Int)) i110 l111 l112 ((sub l113 (0 : Nat) (List.length l113)) ++ ((i102 , (0 : Int)) :: ([] : List (((Sh.int IntKind.i64).pair (Sh.int IntKind.i64)).T)))))
            (none))
           (none))
          (none)))))))
    (br (decide (i104 = (65300 : Int)))
     (k0 i104 l109 i110 l111 l112 l113)
     (br (!(decide (i104 = (0 : Int))))
      (c2 x0 l109 i110 l111 l112 l113
       (fun b128 l129 i130 l131 l132 l133 => br (!b128)
        (k0 (65282 : Int) l129 i130 l131 l132 l133)
        (br (!b108)
         (k0 (65304 : Int) l129 i130 l131 l132 l133)
         (br (!(decide (i104 = (0 : Int))))
          (c0 x0 false i130 l131
           (fun i134 i135 i136 l137 => br (!(decide (i135 = (0 : Int))))
            (k0 i135 l129 i136 l137 l132 l133)
            (br (((fits (0 : Nat) (List.length l133) l133) && (decide ((((List.length l133) + (1 : Nat)) * (16 : Nat)) ≤ (70368744177664 : Nat)))) && true)
             (br (inB i107 (4 : Nat))
              (br (decide ((Int.toNat i107) < (4 : Nat)))
               (k0 (IntKind.wrap .u16 i107) (List.set l129 (Int.toNat i107) (Nat.cast ((List.length l133) + (1 : Nat)) : Int)) i136 l137 l132 ((sub l133 (0 : Nat) (List.length l133)) ++ ((i134 , (0 : Int)) :: ([] : List (((Sh.int IntKind.i64).pair (Sh.int IntKind.i64)).T)))))
               (none))
              (none))
             (none))))
          (br (((fits (0 : Nat) (List.length l133) l133) && (decide ((((List.length l133) + (1 : Nat)) * (16 : Nat)) ≤ (70368744177664 : Nat)))) && true)
           (br (inB i107 (4 : Nat))
            (br (decide ((Int.toNat i107) < (4 : Nat)))
             (k0 (IntKind.wrap .u16 i107) (List.set l129 (Int.toNat i107) (Nat.cast ((List.length l133) + (1 : Nat)) : Int)) i130 l131 l132 ((sub l133 (0 : Nat) (List.length l133)) ++ ((i102 , (0 : Int)) :: ([] : List (((Sh.int IntKind.i64).pair (Sh.int IntKind.i64)).T)))))
             (none))
            (none))
           (none))))))
      (br (!b108)
       (k0 (65304 : Int) l109 i110 l111 l112 l113)
       (br (!(decide (i104 = (0 : Int))))
        (c0 x0 false i110 l111
         (fun i138 i139 i140 l141 => br (!(decide (i139 = (0 : Int))))
          (k0 i139 l109 i140 l141 l112 l113)
          (br (((fits (0 : Nat) (List.length l113) l113) && (decide ((((List.length l113) + (1 : Nat)) * (16 : Nat)) ≤ (70368744177664 : Nat)))) && true)
           (br (inB i107 (4 : Nat))
            (br (decide ((Int.toNat i107) < (4 : Nat)))
             (k0 (IntKind.wrap .u16 i107) (List.set l109 (Int.toNat i107) (Nat.cast ((List.length l113) + (1 : Nat)) : Int)) i140 l141 l112 ((sub l113 (0 : Nat) (List.length l113)) ++ ((i138 , (0 : Int)) :: ([] : List (((Sh.int IntKind.i64).pair (Sh.int IntKind.i64)).T)))))
             (none))
            (none))
           (none))))
        (br (((fits (0 : Nat) (List.length l113) l113) && (decide ((((List.length l113) + (1 : Nat)) * (16 : Nat)) ≤ (70368744177664 : Nat)))) && true)
         (br (inB i107 (4 : Nat))
          (br (decide ((Int.toNat i107) < (4 : Nat)))
           (k0 (IntKind.wrap .u16 i107) (List.set l109 (Int.toNat i107) (Nat.cast ((List.length l113) + (1 : Nat)) : Int)) i110 l111 l112 ((sub l113 (0 : Nat) (List.length l113)) ++ ((i102 , (0 : Int)) :: ([] : List (((Sh.int IntKind.i64).pair (Sh.int IntKind.i64)).T)))))
           (none))
          (none))
         (none))))))))
noncomputable def files_Files_Open_f601 (N : Nat) {R : Type} (x0 : ByteArray) (x1 : List (Int)) (x2 : Int) (x3 : List (((ByteArray) × (ByteArray)) × ((Int) × (Bool)))) (x4 : List ((Int) × (List (Int)))) (x5 : List ((Int) × (Int))) (k0 : (Int) → (List (Int)) → (Int) → (List (((ByteArray) × (ByteArray)) × ((Int) × (Bool)))) → (List ((Int) × (List (Int)))) → (List ((Int) × (Int))) → Option R) : Option R := files_Files_Open_f601_T N (@tree_Tree_Make_c502 N) (@tree_Tree_Make N) (@files_Files_may_f601 N) (@files_Files_may_9fbb N) (@files_Files_free_18fa N) (@files_Files_free_d57c N) (@tree_Tree_Find_fb98 N) (@tree_Tree_Find N) x0 x1 x2 x3 x4 x5 k0
abbrev files_Files_Open_9fbb_Ty : Type 1 := {R : Type} → (ByteArray) → (List (Int)) → (List ((Int) × (List (Int)))) → (List ((Int) × (Int))) → ((Int) → (List (Int)) → (List ((Int) × (List (Int)))) → (List ((Int) × (Int))) → Option R) → Option R
noncomputable def files_Files_Open_9fbb_T (N : Nat) (c0 : tree_Tree_Make_c502_Ty) (c1 : tree_Tree_Make_Ty) (c2 : files_Files_may_f601_Ty) (c3 : files_Files_may_9fbb_Ty) (c4 : files_Files_free_18fa_Ty) (c5 : files_Files_free_d57c_Ty) (c6 : tree_Tree_Find_fb98_Ty) (c7 : tree_Tree_Find_Ty) {R : Type} (x0 : ByteArray) (x1 : List (Int)) (x2 : List ((Int) × (List (Int)))) (x3 : List ((Int) × (Int))) (k0 : (Int) → (List (Int)) → (List ((Int) × (List (Int)))) → (List ((Int) × (Int))) → Option R) : Option R :=
  c7 x0
  (fun i517 b518 i519 => c5 x1 x2 x3
   (fun i520 b521 l522 l523 l524 => br (decide (i519 = (0 : Int)))
    (br b518
     (k0 (65301 : Int) l522 l523 l524)
     (br (decide (i519 = (65300 : Int)))
      (k0 i519 l522 l523 l524)
      (br (!(decide (i519 = (0 : Int))))
       (c3 x0 l522 l523 l524
        (fun b525 l526 l527 l528 => br (!b525)
         (k0 (65282 : Int) l526 l527 l528)
         (br (!b521)
          (k0 (65304 : Int) l526 l527 l528)
          (br (!(decide (i519 = (0 : Int))))
           (c1 x0 false
            (fun i529 i530 => br (!(decide (i530 = (0 : Int))))
             (k0 i530 l526 l527 l528)
             (br (((fits (0 : Nat) (List.length l528) l528) && (decide ((((List.length l528) + (1 : Nat)) * (16 : Nat)) ≤ (70368744177664 : Nat)))) && true)
              (br (inB i520 (4 : Nat))
               (br (decide ((Int.toNat i520) < (4 : Nat)))
                (k0 (IntKind.wrap .u16 i520) (List.set l526 (Int.toNat i520) (Nat.cast ((List.length l528) + (1 : Nat)) : Int)) l527 ((sub l528 (0 : Nat) (List.length l528)) ++ ((i529 , (0 : Int)) :: ([] : List (((Sh.int IntKind.i64).pair (Sh.int IntKind.i64)).T)))))
                (none))
               (none))
              (none))))
           (br (((fits (0 : Nat) (List.length l528) l528) && (decide ((((List.length l528) + (1 : Nat)) * (16 : Nat)) ≤ (70368744177664 : Nat)))) && true)
            (br (inB i520 (4 : Nat))
             (br (decide ((Int.toNat i520) < (4 : Nat)))
              (k0 (IntKind.wrap .u16 i520) (List.set l526 (Int.toNat i520) (Nat.cast ((List.length l528) + (1 : Nat)) : Int)) l527 ((sub l528 (0 : Nat) (List.length l528)) ++ ((i517 , (0 : Int)) :: ([] : List (((Sh.int IntKind.i64).pair (Sh.int IntKind.i64)).T)))))
              (none))
             (none))
            (none))))))
       (br (!b521)
        (k0 (65304 : Int) l522 l523 l524)
        (br (!(decide (i519 = (0 : Int))))
         (c1 x0 false
          (fun i531 i532 => br (!(decide (i532 = (0 : Int))))
           (k0 i532 l522 l523 l524)
           (br (((fits (0 : Nat) (List.length l524) l524) && (decide ((((List.length l524) + (1 : Nat)) * (16 : Nat)) ≤ (70368744177664 : Nat)))) && true)
            (br (inB i520 (4 : Nat))
             (br (decide ((Int.toNat i520) < (4 : Nat)))
              (k0 (IntKind.wrap .u16 i520) (List.set l522 (Int.toNat i520) (Nat.cast ((List.length l524) + (1 : Nat)) : Int)) l523 ((sub l524 (0 : Nat) (List.length l524)) ++ ((i531 , (0 : Int)) :: ([] : List (((Sh.int IntKind.i64).pair (Sh.int IntKind.i64)).T)))))
              (none))
             (none))
            (none))))
         (br (((fits (0 : Nat) (List.length l524) l524) && (decide ((((List.length l524) + (1 : Nat)) * (16 : Nat)) ≤ (70368744177664 : Nat)))) && true)
          (br (inB i520 (4 : Nat))
           (br (decide ((Int.toNat i520) < (4 : Nat)))
            (k0 (IntKind.wrap .u16 i520) (List.set l522 (Int.toNat i520) (Nat.cast ((List.length l524) + (1 : Nat)) : Int)) l523 ((sub l524 (0 : Nat) (List.length l524)) ++ ((i517 , (0 : Int)) :: ([] : List (((Sh.int IntKind.i64).pair (Sh.int IntKind.i64)).T)))))
            (none))
           (none))
          (none)))))))
    (br (decide (i519 = (65300 : Int)))
     (k0 i519 l522 l523 l524)
     (br (!(decide (i519 = (0 : Int))))
      (c3 x0 l522 l523 l524
       (fun b533 l534 l535 l536 => br (!b533)
        (k0 (65282 : Int) l534 l535 l536)
        (br (!b521)
         (k0 (65304 : Int) l534 l535 l536)
         (br (!(decide (i519 = (0 : Int))))
          (c1 x0 false
           (fun i537 i538 => br (!(decide (i538 = (0 : Int))))
            (k0 i538 l534 l535 l536)
            (br (((fits (0 : Nat) (List.length l536) l536) && (decide ((((List.length l536) + (1 : Nat)) * (16 : Nat)) ≤ (70368744177664 : Nat)))) && true)
             (br (inB i520 (4 : Nat))
              (br (decide ((Int.toNat i520) < (4 : Nat)))
               (k0 (IntKind.wrap .u16 i520) (List.set l534 (Int.toNat i520) (Nat.cast ((List.length l536) + (1 : Nat)) : Int)) l535 ((sub l536 (0 : Nat) (List.length l536)) ++ ((i537 , (0 : Int)) :: ([] : List (((Sh.int IntKind.i64).pair (Sh.int IntKind.i64)).T)))))
               (none))
              (none))
             (none))))
          (br (((fits (0 : Nat) (List.length l536) l536) && (decide ((((List.length l536) + (1 : Nat)) * (16 : Nat)) ≤ (70368744177664 : Nat)))) && true)
           (br (inB i520 (4 : Nat))
            (br (decide ((Int.toNat i520) < (4 : Nat)))
             (k0 (IntKind.wrap .u16 i520) (List.set l534 (Int.toNat i520) (Nat.cast ((List.length l536) + (1 : Nat)) : Int)) l535 ((sub l536 (0 : Nat) (List.length l536)) ++ ((i517 , (0 : Int)) :: ([] : List (((Sh.int IntKind.i64).pair (Sh.int IntKind.i64)).T)))))
             (none))
            (none))
           (none))))))
      (br (!b521)
       (k0 (65304 : Int) l522 l523 l524)
       (br (!(decide (i519 = (0 : Int))))
        (c1 x0 false
         (fun i539 i540 => br (!(decide (i540 = (0 : Int))))
          (k0 i540 l522 l523 l524)
          (br (((fits (0 : Nat) (List.length l524) l524) && (decide ((((List.length l524) + (1 : Nat)) * (16 : Nat)) ≤ (70368744177664 : Nat)))) && true)
           (br (inB i520 (4 : Nat))
            (br (decide ((Int.toNat i520) < (4 : Nat)))
             (k0 (IntKind.wrap .u16 i520) (List.set l522 (Int.toNat i520) (Nat.cast ((List.length l524) + (1 : Nat)) : Int)) l523 ((sub l524 (0 : Nat) (List.length l524)) ++ ((i539 , (0 : Int)) :: ([] : List (((Sh.int IntKind.i64).pair (Sh.int IntKind.i64)).T)))))
             (none))
            (none))
           (none))))
        (br (((fits (0 : Nat) (List.length l524) l524) && (decide ((((List.length l524) + (1 : Nat)) * (16 : Nat)) ≤ (70368744177664 : Nat)))) && true)
         (br (inB i520 (4 : Nat))
          (br (decide ((Int.toNat i520) < (4 : Nat)))
           (k0 (IntKind.wrap .u16 i520) (List.set l522 (Int.toNat i520) (Nat.cast ((List.length l524) + (1 : Nat)) : Int)) l523 ((sub l524 (0 : Nat) (List.length l524)) ++ ((i517 , (0 : Int)) :: ([] : List (((Sh.int IntKind.i64).pair (Sh.int IntKind.i64)).T)))))
           (none))
          (none))
         (none))))))))
noncomputable def files_Files_Open_9fbb (N : Nat) {R : Type} (x0 : ByteArray) (x1 : List (Int)) (x2 : List ((Int) × (List (Int)))) (x3 : List ((Int) × (Int))) (k0 : (Int) → (List (Int)) → (List ((Int) × (List (Int)))) → (List ((Int) × (Int))) → Option R) : Option R := files_Files_Open_9fbb_T N (@tree_Tree_Make_c502 N) (@tree_Tree_Make N) (@files_Files_may_f601 N) (@files_Files_may_9fbb N) (@files_Files_free_18fa N) (@files_Files_free_d57c N) (@tree_Tree_Find_fb98 N) (@tree_Tree_Find N) x0 x1 x2 x3 k0
abbrev files_Files_file_b447_Ty : Type 1 := {R : Type} → (Int) → (List (Int)) → (Int) → (List (((ByteArray) × (ByteArray)) × ((Int) × (Bool)))) → (List ((Int) × (List (Int)))) → (List ((Int) × (Int))) → ((List (Int)) → (Int) → (List (((ByteArray) × (ByteArray)) × ((Int) × (Bool)))) → (List ((Int) × (List (Int)))) → (List ((Int) × (Int))) → Option R) → ((Int) → (List (Int)) → (Int) → (List (((ByteArray) × (ByteArray)) × ((Int) × (Bool)))) → (List ((Int) × (List (Int)))) → (List ((Int) × (Int))) → Option R) → Option R
noncomputable def files_Files_file_b447_T (N : Nat) {R : Type} (x0 : Int) (x1 : List (Int)) (x2 : Int) (x3 : List (((ByteArray) × (ByteArray)) × ((Int) × (Bool)))) (x4 : List ((Int) × (List (Int)))) (x5 : List ((Int) × (Int))) (k0 : (List (Int)) → (Int) → (List (((ByteArray) × (ByteArray)) × ((Int) × (Bool)))) → (List ((Int) × (List (Int)))) → (List ((Int) × (Int))) → Option R) (k1 : (Int) → (List (Int)) → (Int) → (List (((ByteArray) × (ByteArray)) × ((Int) × (Bool)))) → (List ((Int) × (List (Int)))) → (List ((Int) × (Int))) → Option R) : Option R :=
  br (!(decide ((4 : Int) ≤ x0)))
  (br (inB x0 (4 : Nat))
   (br (decide ((Int.toNat x0) < (4 : Nat)))
    (br (decide ((List.getD x1 (Int.toNat x0) (0 : Int)) = (0 : Int)))
     (k0 x1 x2 x3 x4 x5)
     (br (inB x0 (4 : Nat))
      (br (decide ((Int.toNat x0) < (4 : Nat)))
       (br (inB (IntKind.wrap .i64 ((List.getD x1 (Int.toNat x0) (0 : Int)) - (1 : Int))) (List.length x5))
        (k1 (IntKind.wrap .i64 ((List.getD x1 (Int.toNat x0) (0 : Int)) - (1 : Int))) x1 x2 x3 x4 x5)
        (none))
       (none))
      (none)))
    (none))
   (none))
  (k0 x1 x2 x3 x4 x5)
noncomputable def files_Files_file_b447 (N : Nat) {R : Type} (x0 : Int) (x1 : List (Int)) (x2 : Int) (x3 : List (((ByteArray) × (ByteArray)) × ((Int) × (Bool)))) (x4 : List ((Int) × (List (Int)))) (x5 : List ((Int) × (Int))) (k0 : (List (Int)) → (Int) → (List (((ByteArray) × (ByteArray)) × ((Int) × (Bool)))) → (List ((Int) × (List (Int)))) → (List ((Int) × (Int))) → Option R) (k1 : (Int) → (List (Int)) → (Int) → (List (((ByteArray) × (ByteArray)) × ((Int) × (Bool)))) → (List ((Int) × (List (Int)))) → (List ((Int) × (Int))) → Option R) : Option R := files_Files_file_b447_T N x0 x1 x2 x3 x4 x5 k0 k1
abbrev files_Files_file_c411_Ty : Type 1 := {R : Type} → (Int) → (List (Int)) → (List ((Int) × (List (Int)))) → (List ((Int) × (Int))) → ((List (Int)) → (List ((Int) × (List (Int)))) → (List ((Int) × (Int))) → Option R) → ((Int) → (List (Int)) → (List ((Int) × (List (Int)))) → (List ((Int) × (Int))) → Option R) → Option R
noncomputable def files_Files_file_c411_T (N : Nat) {R : Type} (x0 : Int) (x1 : List (Int)) (x2 : List ((Int) × (List (Int)))) (x3 : List ((Int) × (Int))) (k0 : (List (Int)) → (List ((Int) × (List (Int)))) → (List ((Int) × (Int))) → Option R) (k1 : (Int) → (List (Int)) → (List ((Int) × (List (Int)))) → (List ((Int) × (Int))) → Option R) : Option R :=
  br (!(decide ((4 : Int) ≤ x0)))
  (br (inB x0 (4 : Nat))
   (br (decide ((Int.toNat x0) < (4 : Nat)))
    (br (decide ((List.getD x1 (Int.toNat x0) (0 : Int)) = (0 : Int)))
     (k0 x1 x2 x3)
     (br (inB x0 (4 : Nat))
      (br (decide ((Int.toNat x0) < (4 : Nat)))
       (br (inB (IntKind.wrap .i64 ((List.getD x1 (Int.toNat x0) (0 : Int)) - (1 : Int))) (List.length x3))
        (k1 (IntKind.wrap .i64 ((List.getD x1 (Int.toNat x0) (0 : Int)) - (1 : Int))) x1 x2 x3)
        (none))
       (none))
      (none)))
    (none))
   (none))
  (k0 x1 x2 x3)
noncomputable def files_Files_file_c411 (N : Nat) {R : Type} (x0 : Int) (x1 : List (Int)) (x2 : List ((Int) × (List (Int)))) (x3 : List ((Int) × (Int))) (k0 : (List (Int)) → (List ((Int) × (List (Int)))) → (List ((Int) × (Int))) → Option R) (k1 : (Int) → (List (Int)) → (List ((Int) × (List (Int)))) → (List ((Int) × (Int))) → Option R) : Option R := files_Files_file_c411_T N x0 x1 x2 x3 k0 k1
abbrev slices_Clone__byte_byte_Ty : Type 1 := {R : Type} → (List (Int)) → ((List (Int)) → Option R) → Option R
noncomputable def slices_Clone__byte_byte {R : Type} (x0 : List (Int)) (k0 : (List (Int)) → Option R) : Option R := br ((decide (((0 : Nat) + (List.length x0)) * (1 : Nat) ≤ (70368744177664 : Nat))) && true) (k0 x0) (none)
abbrev files_New_38f2_l0_Ty : Type 1 := {R : Type} → ((List (Int)) → (Int) → (List (((ByteArray) × (ByteArray)) × ((Int) × (Bool)))) → (List ((Int) × (List (Int)))) → (List ((Int) × (Int))) → Option R) → Nat → (Int) → (Int) → (List (Int)) → (Int) → (List (((ByteArray) × (ByteArray)) × ((Int) × (Bool)))) → (List ((Int) × (List (Int)))) → (List ((Int) × (Int))) → Option R
abbrev files_New_38f2_Ty : Type 1 := {R : Type} → ((Int) → Option R) → ((Int) → (List (Int)) → (Int) → (List (((ByteArray) × (ByteArray)) × ((Int) × (Bool)))) → (List ((Int) × (List (Int)))) → (List ((Int) × (Int))) → Option R) → Option R
noncomputable def files_New_38f2_l0_T0 (N : Nat) (c0 : tree_New_1c12_Ty) (c1 : tree_New_644a_Ty) (c2 : slices_Clone__byte_byte_Ty) {R : Type} (nx : (Int) → (Int) → (List (Int)) → (Int) → (List (((ByteArray) × (ByteArray)) × ((Int) × (Bool)))) → (List ((Int) × (List (Int)))) → (List ((Int) × (Int))) → Option R) (k0 : (List (Int)) → (Int) → (List (((ByteArray) × (ByteArray)) × ((Int) × (Bool)))) → (List ((Int) × (List (Int)))) → (List ((Int) × (Int))) → Option R) (x0 : Int) (x1 : Int) (x2 : List (Int)) (x3 : Int) (x4 : List (((ByteArray) × (ByteArray)) × ((Int) × (Bool)))) (x5 : List ((Int) × (List (Int)))) (x6 : List ((Int) × (Int))) : Option R :=
  br (decide (x1 < x0))
  (none)
  (k0 x2 x3 x4 x5 x6)
noncomputable def files_New_38f2_l0 (N : Nat) {R : Type} (k0 : (List (Int)) → (Int) → (List (((ByteArray) × (ByteArray)) × ((Int) × (Bool)))) → (List ((Int) × (List (Int)))) → (List ((Int) × (Int))) → Option R) : Nat → (Int) → (Int) → (List (Int)) → (Int) → (List (((ByteArray) × (ByteArray)) × ((Int) × (Bool)))) → (List ((Int) × (List (Int)))) → (List ((Int) × (Int))) → Option R
  | 0, _, _, _, _, _, _, _ => none
  | n + 1, x0, x1, x2, x3, x4, x5, x6 => files_New_38f2_l0_T0 N (@tree_New_1c12 N) (@tree_New_644a N) @slices_Clone__byte_byte (fun x0 x1 x2 x3 x4 x5 x6 => files_New_38f2_l0 N k0 n x0 x1 x2 x3 x4 x5 x6) k0 x0 x1 x2 x3 x4 x5 x6
noncomputable def files_New_38f2_T (N : Nat) (c0 : tree_New_1c12_Ty) (c1 : tree_New_644a_Ty) (c2 : slices_Clone__byte_byte_Ty) (w0 : files_New_38f2_l0_Ty) {R : Type} (k0 : (Int) → Option R) (k1 : (Int) → (List (Int)) → (Int) → (List (((ByteArray) × (ByteArray)) × ((Int) × (Bool)))) → (List ((Int) × (List (Int)))) → (List ((Int) × (Int))) → Option R) : Option R :=
  c0
  (fun i2 i3 l4 => br (!(decide (i2 = (0 : Int))))
   (k0 i2)
   (w0
    (fun l5 i6 l7 l8 l9 => k1 (0 : Int) l5 i6 l7 l8 l9)
    N (0 : Int) (0 : Int) ((0 : Int) :: ((0 : Int) :: ((0 : Int) :: ((0 : Int) :: ([] : List ((Sh.int IntKind.i64).T)))))) i3 l4 ([] : List (((Sh.int IntKind.i64).T) × ((Sh.int IntKind.u8).isl.T))) ([] : List (((Sh.int IntKind.i64).pair (Sh.int IntKind.i64)).T))))
noncomputable def files_New_38f2 (N : Nat) {R : Type} (k0 : (Int) → Option R) (k1 : (Int) → (List (Int)) → (Int) → (List (((ByteArray) × (ByteArray)) × ((Int) × (Bool)))) → (List ((Int) × (List (Int)))) → (List ((Int) × (Int))) → Option R) : Option R := files_New_38f2_T N (@tree_New_1c12 N) (@tree_New_644a N) @slices_Clone__byte_byte (@files_New_38f2_l0 N) k0 k1
inductive files_New_bfc2_S0 where
  | v0 (x0 : Int) (x1 : Int) (x2 : List ((ByteArray) × ((Bool) × (Int)))) (x3 : List (List (Int))) (x4 : List (Int)) (x5 : List ((Int) × (List (Int)))) (x6 : List ((Int) × (Int)))
  | v1 (x0 : Nat) (x1 : Nat) (x2 : Int) (x3 : Int) (x4 : List ((ByteArray) × ((Bool) × (Int)))) (x5 : List (List (Int))) (x6 : List (Int)) (x7 : List ((Int) × (List (Int)))) (x8 : List ((Int) × (Int)))
  | v2 (x0 : Int) (x1 : Int) (x2 : List ((ByteArray) × ((Bool) × (Int)))) (x3 : List (List (Int))) (x4 : List (Int)) (x5 : Int) (x6 : List (((ByteArray) × (ByteArray)) × ((Int) × (Bool)))) (x7 : List ((Int) × (List (Int)))) (x8 : List ((Int) × (Int)))
  | v3 (x0 : Nat) (x1 : Nat) (x2 : Int) (x3 : Int) (x4 : List ((ByteArray) × ((Bool) × (Int)))) (x5 : List (List (Int))) (x6 : List (Int)) (x7 : Int) (x8 : List (((ByteArray) × (ByteArray)) × ((Int) × (Bool)))) (x9 : List ((Int) × (List (Int)))) (x10 : List ((Int) × (Int)))
abbrev files_New_bfc2_l0_Ty : Type 1 := {R : Type} → ((Int) → (List ((ByteArray) × ((Bool) × (Int)))) → (List (List (Int))) → (List (Int)) → (List ((Int) × (List (Int)))) → (List ((Int) × (Int))) → Option R) → ((List ((ByteArray) × ((Bool) × (Int)))) → (List (List (Int))) → (List (Int)) → (List ((Int) × (List (Int)))) → (List ((Int) × (Int))) → Option R) → ((Nat) → (Nat) → (Int) → (List ((ByteArray) × ((Bool) × (Int)))) → (List (List (Int))) → (List (Int)) → (List ((Int) × (List (Int)))) → (List ((Int) × (Int))) → Option R) → ((Nat) → (Nat) → (List ((ByteArray) × ((Bool) × (Int)))) → (List (List (Int))) → (List (Int)) → (List ((Int) × (List (Int)))) → (List ((Int) × (Int))) → Option R) → ((Int) → (List ((ByteArray) × ((Bool) × (Int)))) → (List (List (Int))) → (List (Int)) → (Int) → (List (((ByteArray) × (ByteArray)) × ((Int) × (Bool)))) → (List ((Int) × (List (Int)))) → (List ((Int) × (Int))) → Option R) → ((List ((ByteArray) × ((Bool) × (Int)))) → (List (List (Int))) → (List (Int)) → (Int) → (List (((ByteArray) × (ByteArray)) × ((Int) × (Bool)))) → (List ((Int) × (List (Int)))) → (List ((Int) × (Int))) → Option R) → ((Nat) → (Nat) → (Int) → (List ((ByteArray) × ((Bool) × (Int)))) → (List (List (Int))) → (List (Int)) → (Int) → (List (((ByteArray) × (ByteArray)) × ((Int) × (Bool)))) → (List ((Int) × (List (Int)))) → (List ((Int) × (Int))) → Option R) → ((Nat) → (Nat) → (List ((ByteArray) × ((Bool) × (Int)))) → (List (List (Int))) → (List (Int)) → (Int) → (List (((ByteArray) × (ByteArray)) × ((Int) × (Bool)))) → (List ((Int) × (List (Int)))) → (List ((Int) × (Int))) → Option R) → Nat → files_New_bfc2_S0 → Option R
abbrev files_New_bfc2_Ty : Type 1 := {R : Type} → (List ((ByteArray) × ((Bool) × (Int)))) → (List (List (Int))) → ((Int) → (List ((ByteArray) × ((Bool) × (Int)))) → (List (List (Int))) → Option R) → ((Int) → (List ((ByteArray) × ((Bool) × (Int)))) → (List (List (Int))) → (List (Int)) → (List ((Int) × (List (Int)))) → (List ((Int) × (Int))) → Option R) → ((Int) → (List ((ByteArray) × ((Bool) × (Int)))) → (List (List (Int))) → (List (Int)) → (Int) → (List (((ByteArray) × (ByteArray)) × ((Int) × (Bool)))) → (List ((Int) × (List (Int)))) → (List ((Int) × (Int))) → Option R) → Option R
noncomputable def files_New_bfc2_l0_T0 (N : Nat) (c0 : tree_New_1c12_Ty) (c1 : tree_New_644a_Ty) (c2 : slices_Clone__byte_byte_Ty) {R : Type} (nx : files_New_bfc2_S0 → Option R) (k0 : (Int) → (List ((ByteArray) × ((Bool) × (Int)))) → (List (List (Int))) → (List (Int)) → (List ((Int) × (List (Int)))) → (List ((Int) × (Int))) → Option R) (k1 : (List ((ByteArray) × ((Bool) × (Int)))) → (List (List (Int))) → (List (Int)) → (List ((Int) × (List (Int)))) → (List ((Int) × (Int))) → Option R) (k2 : (Nat) → (Nat) → (Int) → (List ((ByteArray) × ((Bool) × (Int)))) → (List (List (Int))) → (List (Int)) → (List ((Int) × (List (Int)))) → (List ((Int) × (Int))) → Option R) (k3 : (Nat) → (Nat) → (List ((ByteArray) × ((Bool) × (Int)))) → (List (List (Int))) → (List (Int)) → (List ((Int) × (List (Int)))) → (List ((Int) × (Int))) → Option R) (k4 : (Int) → (List ((ByteArray) × ((Bool) × (Int)))) → (List (List (Int))) → (List (Int)) → (Int) → (List (((ByteArray) × (ByteArray)) × ((Int) × (Bool)))) → (List ((Int) × (List (Int)))) → (List ((Int) × (Int))) → Option R) (k5 : (List ((ByteArray) × ((Bool) × (Int)))) → (List (List (Int))) → (List (Int)) → (Int) → (List (((ByteArray) × (ByteArray)) × ((Int) × (Bool)))) → (List ((Int) × (List (Int)))) → (List ((Int) × (Int))) → Option R) (k6 : (Nat) → (Nat) → (Int) → (List ((ByteArray) × ((Bool) × (Int)))) → (List (List (Int))) → (List (Int)) → (Int) → (List (((ByteArray) × (ByteArray)) × ((Int) × (Bool)))) → (List ((Int) × (List (Int)))) → (List ((Int) × (Int))) → Option R) (k7 : (Nat) → (Nat) → (List ((ByteArray) × ((Bool) × (Int)))) → (List (List (Int))) → (List (Int)) → (Int) → (List (((ByteArray) × (ByteArray)) × ((Int) × (Bool)))) → (List ((Int) × (List (Int)))) → (List ((Int) × (Int))) → Option R) (x0 : Int) (x1 : Int) (x2 : List ((ByteArray) × ((Bool) × (Int)))) (x3 : List (List (Int))) (x4 : List (Int)) (x5 : List ((Int) × (List (Int)))) (x6 : List ((Int) × (Int))) : Option R :=
  br (decide (x1 < x0))
  (br (inB x1 (List.length x2))
   (br (decide ((Int.toNat x1) < (List.length x2)))
    (br (List.getD x2 (Int.toNat x1) ((bs []) , (false , (0 : Int)))).2.1
     (nx (.v0 x0 (IntKind.wrap .i64 (x1 + (1 : Int))) x2 x3 x4 x5 x6))
     (br (!(decide ((Nat.cast (List.length x3) : Int) = (0 : Int))))
      (br (inB (0 : Int) (List.length x3))
       (br (decide ((0 : Nat) < (List.length x3)))
        (br (decide ((8 : Int) < (Nat.cast (List.length (List.getD x3 (0 : Nat) (Sh.zero (.isl (.int .u8))))) : Int)))
         (k0 (12 : Int) x2 x3 x4 x5 x6)
         (br (inB (0 : Int) (List.length x3))
          (br (decide ((0 : Nat) < (List.length x3)))
           (c2 (List.getD x3 (0 : Nat) (Sh.zero (.isl (.int .u8))))
            (fun l345 => br (decide (x1 = x1))
             (br (fits (0 : Nat) (List.length l345) l345)
              (br (leB (1 : Int) (List.length x3))
               (nx (.v1 (1 : Nat) ((List.length x3) - (1 : Nat)) x0 (IntKind.wrap .i64 (x1 + (1 : Int))) x2 x3 x4 (mput (.int .i64) (.isl (.int .u8)) x5 x1 (sub l345 (0 : Nat) (List.length l345))) x6))
               (none))
              (none))
             (none)))
           (none))
          (none)))
        (none))
       (none))
      (k0 (12 : Int) x2 x3 x4 x5 x6)))
    (none))
   (none))
  (k1 x2 x3 x4 x5 x6)
noncomputable def files_New_bfc2_l0_T1 (N : Nat) (c0 : tree_New_1c12_Ty) (c1 : tree_New_644a_Ty) (c2 : slices_Clone__byte_byte_Ty) {R : Type} (nx : files_New_bfc2_S0 → Option R) (k0 : (Int) → (List ((ByteArray) × ((Bool) × (Int)))) → (List (List (Int))) → (List (Int)) → (List ((Int) × (List (Int)))) → (List ((Int) × (Int))) → Option R) (k1 : (List ((ByteArray) × ((Bool) × (Int)))) → (List (List (Int))) → (List (Int)) → (List ((Int) × (List (Int)))) → (List ((Int) × (Int))) → Option R) (k2 : (Nat) → (Nat) → (Int) → (List ((ByteArray) × ((Bool) × (Int)))) → (List (List (Int))) → (List (Int)) → (List ((Int) × (List (Int)))) → (List ((Int) × (Int))) → Option R) (k3 : (Nat) → (Nat) → (List ((ByteArray) × ((Bool) × (Int)))) → (List (List (Int))) → (List (Int)) → (List ((Int) × (List (Int)))) → (List ((Int) × (Int))) → Option R) (k4 : (Int) → (List ((ByteArray) × ((Bool) × (Int)))) → (List (List (Int))) → (List (Int)) → (Int) → (List (((ByteArray) × (ByteArray)) × ((Int) × (Bool)))) → (List ((Int) × (List (Int)))) → (List ((Int) × (Int))) → Option R) (k5 : (List ((ByteArray) × ((Bool) × (Int)))) → (List (List (Int))) → (List (Int)) → (Int) → (List (((ByteArray) × (ByteArray)) × ((Int) × (Bool)))) → (List ((Int) × (List (Int)))) → (List ((Int) × (Int))) → Option R) (k6 : (Nat) → (Nat) → (Int) → (List ((ByteArray) × ((Bool) × (Int)))) → (List (List (Int))) → (List (Int)) → (Int) → (List (((ByteArray) × (ByteArray)) × ((Int) × (Bool)))) → (List ((Int) × (List (Int)))) → (List ((Int) × (Int))) → Option R) (k7 : (Nat) → (Nat) → (List ((ByteArray) × ((Bool) × (Int)))) → (List (List (Int))) → (List (Int)) → (Int) → (List (((ByteArray) × (ByteArray)) × ((Int) × (Bool)))) → (List ((Int) × (List (Int)))) → (List ((Int) × (Int))) → Option R) (x0 : Nat) (x1 : Nat) (x2 : Int) (x3 : Int) (x4 : List ((ByteArray) × ((Bool) × (Int)))) (x5 : List (List (Int))) (x6 : List (Int)) (x7 : List ((Int) × (List (Int)))) (x8 : List ((Int) × (Int))) : Option R :=
  br (decide (x3 < x2))
  (br (inB x3 (List.length x4))
   (br (decide ((Int.toNat x3) < (List.length x4)))
    (br (List.getD x4 (Int.toNat x3) ((bs []) , (false , (0 : Int)))).2.1
     (nx (.v1 x0 x1 x2 (IntKind.wrap .i64 (x3 + (1 : Int))) x4 x5 x6 x7 x8))
     (br (!(decide ((Nat.cast x1 : Int) = (0 : Int))))
      (br (inB (0 : Int) x1)
       (br (decide ((Int.toNat (addLo x0 (0 : Int))) < (List.length x5)))
        (br (decide ((8 : Int) < (Nat.cast (List.length (List.getD x5 (Int.toNat (addLo x0 (0 : Int))) (Sh.zero (.isl (.int .u8))))) : Int)))
         (k2 x0 x1 (12 : Int) x4 x5 x6 x7 x8)
         (br (inB (0 : Int) x1)
          (br (decide ((Int.toNat (addLo x0 (0 : Int))) < (List.length x5)))
           (c2 (List.getD x5 (Int.toNat (addLo x0 (0 : Int))) (Sh.zero (.isl (.int .u8))))
            (fun l346 => br (decide (x3 = x3))
             (br (fits (0 : Nat) (List.length l346) l346)
              (br (leB (1 : Int) x1)
               (nx (.v1 (addN x0 (1 : Nat)) (x1 - (1 : Nat)) x2 (IntKind.wrap .i64 (x3 + (1 : Int))) x4 x5 x6 (mput (.int .i64) (.isl (.int .u8)) x7 x3 (sub l346 (0 : Nat) (List.length l346))) x8))
               (none))
              (none))
             (none)))
           (none))
          (none)))
        (none))
       (none))
      (k2 x0 x1 (12 : Int) x4 x5 x6 x7 x8)))
    (none))
   (none))
  (k3 x0 x1 x4 x5 x6 x7 x8)
noncomputable def files_New_bfc2_l0_T2 (N : Nat) (c0 : tree_New_1c12_Ty) (c1 : tree_New_644a_Ty) (c2 : slices_Clone__byte_byte_Ty) {R : Type} (nx : files_New_bfc2_S0 → Option R) (k0 : (Int) → (List ((ByteArray) × ((Bool) × (Int)))) → (List (List (Int))) → (List (Int)) → (List ((Int) × (List (Int)))) → (List ((Int) × (Int))) → Option R) (k1 : (List ((ByteArray) × ((Bool) × (Int)))) → (List (List (Int))) → (List (Int)) → (List ((Int) × (List (Int)))) → (List ((Int) × (Int))) → Option R) (k2 : (Nat) → (Nat) → (Int) → (List ((ByteArray) × ((Bool) × (Int)))) → (List (List (Int))) → (List (Int)) → (List ((Int) × (List (Int)))) → (List ((Int) × (Int))) → Option R) (k3 : (Nat) → (Nat) → (List ((ByteArray) × ((Bool) × (Int)))) → (List (List (Int))) → (List (Int)) → (List ((Int) × (List (Int)))) → (List ((Int) × (Int))) → Option R) (k4 : (Int) → (List ((ByteArray) × ((Bool) × (Int)))) → (List (List (Int))) → (List (Int)) → (Int) → (List (((ByteArray) × (ByteArray)) × ((Int) × (Bool)))) → (List ((Int) × (List (Int)))) → (List ((Int) × (Int))) → Option R) (k5 : (List ((ByteArray) × ((Bool) × (Int)))) → (List (List (Int))) → (List (Int)) → (Int) → (List (((ByteArray) × (ByteArray)) × ((Int) × (Bool)))) → (List ((Int) × (List (Int)))) → (List ((Int) × (Int))) → Option R) (k6 : (Nat) → (Nat) → (Int) → (List ((ByteArray) × ((Bool) × (Int)))) → (List (List (Int))) → (List (Int)) → (Int) → (List (((ByteArray) × (ByteArray)) × ((Int) × (Bool)))) → (List ((Int) × (List (Int)))) → (List ((Int) × (Int))) → Option R) (k7 : (Nat) → (Nat) → (List ((ByteArray) × ((Bool) × (Int)))) → (List (List (Int))) → (List (Int)) → (Int) → (List (((ByteArray) × (ByteArray)) × ((Int) × (Bool)))) → (List ((Int) × (List (Int)))) → (List ((Int) × (Int))) → Option R) (x0 : Int) (x1 : Int) (x2 : List ((ByteArray) × ((Bool) × (Int)))) (x3 : List (List (Int))) (x4 : List (Int)) (x5 : Int) (x6 : List (((ByteArray) × (ByteArray)) × ((Int) × (Bool)))) (x7 : List ((Int) × (List (Int)))) (x8 : List ((Int) × (Int))) : Option R :=
  br (decide (x1 < x0))
  (br (inB x1 (List.length x2))
   (br (decide ((Int.toNat x1) < (List.length x2)))
    (br (List.getD x2 (Int.toNat x1) ((bs []) , (false , (0 : Int)))).2.1
     (nx (.v2 x0 (IntKind.wrap .i64 (x1 + (1 : Int))) x2 x3 x4 x5 x6 x7 x8))
     (br (!(decide ((Nat.cast (List.length x3) : Int) = (0 : Int))))
      (br (inB (0 : Int) (List.length x3))
       (br (decide ((0 : Nat) < (List.length x3)))
        (br (decide ((8 : Int) < (Nat.cast (List.length (List.getD x3 (0 : Nat) (Sh.zero (.isl (.int .u8))))) : Int)))
         (k4 (12 : Int) x2 x3 x4 x5 x6 x7 x8)
         (br (inB (0 : Int) (List.length x3))
          (br (decide ((0 : Nat) < (List.length x3)))
           (c2 (List.getD x3 (0 : Nat) (Sh.zero (.isl (.int .u8))))
            (fun l347 => br (decide (x1 = x1))
             (br (fits (0 : Nat) (List.length l347) l347)
              (br (leB (1 : Int) (List.length x3))
               (nx (.v3 (1 : Nat) ((List.length x3) - (1 : Nat)) x0 (IntKind.wrap .i64 (x1 + (1 : Int))) x2 x3 x4 x5 x6 (mput (.int .i64) (.isl (.int .u8)) x7 x1 (sub l347 (0 : Nat) (List.length l347))) x8))
               (none))
              (none))
             (none)))
           (none))
          (none)))
        (none))
       (none))
      (k4 (12 : Int) x2 x3 x4 x5 x6 x7 x8)))
    (none))
   (none))
  (k5 x2 x3 x4 x5 x6 x7 x8)
noncomputable def files_New_bfc2_l0_T3 (N : Nat) (c0 : tree_New_1c12_Ty) (c1 : tree_New_644a_Ty) (c2 : slices_Clone__byte_byte_Ty) {R : Type} (nx : files_New_bfc2_S0 → Option R) (k0 : (Int) → (List ((ByteArray) × ((Bool) × (Int)))) → (List (List (Int))) → (List (Int)) → (List ((Int) × (List (Int)))) → (List ((Int) × (Int))) → Option R) (k1 : (List ((ByteArray) × ((Bool) × (Int)))) → (List (List (Int))) → (List (Int)) → (List ((Int) × (List (Int)))) → (List ((Int) × (Int))) → Option R) (k2 : (Nat) → (Nat) → (Int) → (List ((ByteArray) × ((Bool) × (Int)))) → (List (List (Int))) → (List (Int)) → (List ((Int) × (List (Int)))) → (List ((Int) × (Int))) → Option R) (k3 : (Nat) → (Nat) → (List ((ByteArray) × ((Bool) × (Int)))) → (List (List (Int))) → (List (Int)) → (List ((Int) × (List (Int)))) → (List ((Int) × (Int))) → Option R) (k4 : (Int) → (List ((ByteArray) × ((Bool) × (Int)))) → (List (List (Int))) → (List (Int)) → (Int) → (List (((ByteArray) × (ByteArray)) × ((Int) × (Bool)))) → (List ((Int) × (List (Int)))) → (List ((Int) × (Int))) → Option R) (k5 : (List ((ByteArray) × ((Bool) × (Int)))) → (List (List (Int))) → (List (Int)) → (Int) → (List (((ByteArray) × (ByteArray)) × ((Int) × (Bool)))) → (List ((Int) × (List (Int)))) → (List ((Int) × (Int))) → Option R) (k6 : (Nat) → (Nat) → (Int) → (List ((ByteArray) × ((Bool) × (Int)))) → (List (List (Int))) → (List (Int)) → (Int) → (List (((ByteArray) × (ByteArray)) × ((Int) × (Bool)))) → (List ((Int) × (List (Int)))) → (List ((Int) × (Int))) → Option R) (k7 : (Nat) → (Nat) → (List ((ByteArray) × ((Bool) × (Int)))) → (List (List (Int))) → (List (Int)) → (Int) → (List (((ByteArray) × (ByteArray)) × ((Int) × (Bool)))) → (List ((Int) × (List (Int)))) → (List ((Int) × (Int))) → Option R) (x0 : Nat) (x1 : Nat) (x2 : Int) (x3 : Int) (x4 : List ((ByteArray) × ((Bool) × (Int)))) (x5 : List (List (Int))) (x6 : List (Int)) (x7 : Int) (x8 : List (((ByteArray) × (ByteArray)) × ((Int) × (Bool)))) (x9 : List ((Int) × (List (Int)))) (x10 : List ((Int) × (Int))) : Option R :=
  br (decide (x3 < x2))
  (br (inB x3 (List.length x4))
   (br (decide ((Int.toNat x3) < (List.length x4)))
    (br (List.getD x4 (Int.toNat x3) ((bs []) , (false , (0 : Int)))).2.1
     (nx (.v3 x0 x1 x2 (IntKind.wrap .i64 (x3 + (1 : Int))) x4 x5 x6 x7 x8 x9 x10))
     (br (!(decide ((Nat.cast x1 : Int) = (0 : Int))))
      (br (inB (0 : Int) x1)
       (br (decide ((Int.toNat (addLo x0 (0 : Int))) < (List.length x5)))
        (br (decide ((8 : Int) < (Nat.cast (List.length (List.getD x5 (Int.toNat (addLo x0 (0 : Int))) (Sh.zero (.isl (.int .u8))))) : Int)))
         (k6 x0 x1 (12 : Int) x4 x5 x6 x7 x8 x9 x10)
         (br (inB (0 : Int) x1)
          (br (decide ((Int.toNat (addLo x0 (0 : Int))) < (List.length x5)))
           (c2 (List.getD x5 (Int.toNat (addLo x0 (0 : Int))) (Sh.zero (.isl (.int .u8))))
            (fun l348 => br (decide (x3 = x3))
             (br (fits (0 : Nat) (List.length l348) l348)
              (br (leB (1 : Int) x1)
               (nx (.v3 (addN x0 (1 : Nat)) (x1 - (1 : Nat)) x2 (IntKind.wrap .i64 (x3 + (1 : Int))) x4 x5 x6 x7 x8 (mput (.int .i64) (.isl (.int .u8)) x9 x3 (sub l348 (0 : Nat) (List.length l348))) x10))
               (none))
              (none))
             (none)))
           (none))
          (none)))
        (none))
       (none))
      (k6 x0 x1 (12 : Int) x4 x5 x6 x7 x8 x9 x10)))
    (none))
   (none))
  (k7 x0 x1 x4 x5 x6 x7 x8 x9 x10)
noncomputable def files_New_bfc2_l0 (N : Nat) {R : Type} (k0 : (Int) → (List ((ByteArray) × ((Bool) × (Int)))) → (List (List (Int))) → (List (Int)) → (List ((Int) × (List (Int)))) → (List ((Int) × (Int))) → Option R) (k1 : (List ((ByteArray) × ((Bool) × (Int)))) → (List (List (Int))) → (List (Int)) → (List ((Int) × (List (Int)))) → (List ((Int) × (Int))) → Option R) (k2 : (Nat) → (Nat) → (Int) → (List ((ByteArray) × ((Bool) × (Int)))) → (List (List (Int))) → (List (Int)) → (List ((Int) × (List (Int)))) → (List ((Int) × (Int))) → Option R) (k3 : (Nat) → (Nat) → (List ((ByteArray) × ((Bool) × (Int)))) → (List (List (Int))) → (List (Int)) → (List ((Int) × (List (Int)))) → (List ((Int) × (Int))) → Option R) (k4 : (Int) → (List ((ByteArray) × ((Bool) × (Int)))) → (List (List (Int))) → (List (Int)) → (Int) → (List (((ByteArray) × (ByteArray)) × ((Int) × (Bool)))) → (List ((Int) × (List (Int)))) → (List ((Int) × (Int))) → Option R) (k5 : (List ((ByteArray) × ((Bool) × (Int)))) → (List (List (Int))) → (List (Int)) → (Int) → (List (((ByteArray) × (ByteArray)) × ((Int) × (Bool)))) → (List ((Int) × (List (Int)))) → (List ((Int) × (Int))) → Option R) (k6 : (Nat) → (Nat) → (Int) → (List ((ByteArray) × ((Bool) × (Int)))) → (List (List (Int))) → (List (Int)) → (Int) → (List (((ByteArray) × (ByteArray)) × ((Int) × (Bool)))) → (List ((Int) × (List (Int)))) → (List ((Int) × (Int))) → Option R) (k7 : (Nat) → (Nat) → (List ((ByteArray) × ((Bool) × (Int)))) → (List (List (Int))) → (List (Int)) → (Int) → (List (((ByteArray) × (ByteArray)) × ((Int) × (Bool)))) → (List ((Int) × (List (Int)))) → (List ((Int) × (Int))) → Option R) : Nat → files_New_bfc2_S0 → Option R
  | 0, _ => none
  | n + 1, .v0 x0 x1 x2 x3 x4 x5 x6 => files_New_bfc2_l0_T0 N (@tree_New_1c12 N) (@tree_New_644a N) @slices_Clone__byte_byte (fun s => files_New_bfc2_l0 N k0 k1 k2 k3 k4 k5 k6 k7 n s) k0 k1 k2 k3 k4 k5 k6 k7 x0 x1 x2 x3 x4 x5 x6
  | n + 1, .v1 x0 x1 x2 x3 x4 x5 x6 x7 x8 => files_New_bfc2_l0_T1 N (@tree_New_1c12 N) (@tree_New_644a N) @slices_Clone__byte_byte (fun s => files_New_bfc2_l0 N k0 k1 k2 k3 k4 k5 k6 k7 n s) k0 k1 k2 k3 k4 k5 k6 k7 x0 x1 x2 x3 x4 x5 x6 x7 x8
  | n + 1, .v2 x0 x1 x2 x3 x4 x5 x6 x7 x8 => files_New_bfc2_l0_T2 N (@tree_New_1c12 N) (@tree_New_644a N) @slices_Clone__byte_byte (fun s => files_New_bfc2_l0 N k0 k1 k2 k3 k4 k5 k6 k7 n s) k0 k1 k2 k3 k4 k5 k6 k7 x0 x1 x2 x3 x4 x5 x6 x7 x8
  | n + 1, .v3 x0 x1 x2 x3 x4 x5 x6 x7 x8 x9 x10 => files_New_bfc2_l0_T3 N (@tree_New_1c12 N) (@tree_New_644a N) @slices_Clone__byte_byte (fun s => files_New_bfc2_l0 N k0 k1 k2 k3 k4 k5 k6 k7 n s) k0 k1 k2 k3 k4 k5 k6 k7 x0 x1 x2 x3 x4 x5 x6 x7 x8 x9 x10
noncomputable def files_New_bfc2_T (N : Nat) (c0 : tree_New_1c12_Ty) (c1 : tree_New_644a_Ty) (c2 : slices_Clone__byte_byte_Ty) (w0 : files_New_bfc2_l0_Ty) {R : Type} (x0 : List ((ByteArray) × ((Bool) × (Int)))) (x1 : List (List (Int))) (k0 : (Int) → (List ((ByteArray) × ((Bool) × (Int)))) → (List (List (Int))) → Option R) (k1 : (Int) → (List ((ByteArray) × ((Bool) × (Int)))) → (List (List (Int))) → (List (Int)) → (List ((Int) × (List (Int)))) → (List ((Int) × (Int))) → Option R) (k2 : (Int) → (List ((ByteArray) × ((Bool) × (Int)))) → (List (List (Int))) → (List (Int)) → (Int) → (List (((ByteArray) × (ByteArray)) × ((Int) × (Bool)))) → (List ((Int) × (List (Int)))) → (List ((Int) × (Int))) → Option R) : Option R :=
  c1 x0
  (fun i343 l344 => br (!(decide (i343 = (0 : Int))))
   (k0 i343 l344 x1)
   (w0
    (fun i349 l350 l351 l352 l353 l354 => k0 i349 l350 l351)
    (fun l355 l356 l357 l358 l359 => br (decide ((0 : Int) < (Nat.cast (List.length l356) : Int)))
     (k0 (12 : Int) l355 l356)
     (k1 (0 : Int) l355 l356 l357 l358 l359))
    (fun n360 n361 i362 l363 l364 l365 l366 l367 => k0 i362 l363 l364)
    (fun n368 n369 l370 l371 l372 l373 l374 => br (decide ((0 : Int) < (Nat.cast n369 : Int)))
     (k0 (12 : Int) l370 l371)
     (k1 (0 : Int) l370 l371 l372 l373 l374))
    (fun i375 l376 l377 l378 i379 l380 l381 l382 => k0 i375 l376 l377)
    (fun l383 l384 l385 i386 l387 l388 l389 => br (decide ((0 : Int) < (Nat.cast (List.length l384) : Int)))
     (k0 (12 : Int) l383 l384)
     (k2 (0 : Int) l383 l384 l385 i386 l387 l388 l389))
    (fun n390 n391 i392 l393 l394 l395 i396 l397 l398 l399 => k0 i392 l393 l394)
    (fun n400 n401 l402 l403 l404 i405 l406 l407 l408 => br (decide ((0 : Int) < (Nat.cast n401 : Int)))
     (k0 (12 : Int) l402 l403)
     (k2 (0 : Int) l402 l403 l404 i405 l406 l407 l408))
    N (.v0 (Nat.cast (List.length l344) : Int) (0 : Int) l344 x1 ((0 : Int) :: ((0 : Int) :: ((0 : Int) :: ((0 : Int) :: ([] : List ((Sh.int IntKind.i64).T)))))) ([] : List (((Sh.int IntKind.i64).T) × ((Sh.int IntKind.u8).isl.T))) ([] : List (((Sh.int IntKind.i64).pair (Sh.int IntKind.i64)).T)))))
  (fun i409 l410 i411 l412 => br (!(decide (i409 = (0 : Int))))
   (k0 i409 l410 x1)
   (w0
    (fun i413 l414 l415 l416 l417 l418 => k0 i413 l414 l415)
    (fun l419 l420 l421 l422 l423 => br (decide ((0 : Int) < (Nat.cast (List.length l420) : Int)))
     (k0 (12 : Int) l419 l420)
     (k1 (0 : Int) l419 l420 l421 l422 l423))
    (fun n424 n425 i426 l427 l428 l429 l430 l431 => k0 i426 l427 l428)
    (fun n432 n433 l434 l435 l436 l437 l438 => br (decide ((0 : Int) < (Nat.cast n433 : Int)))
     (k0 (12 : Int) l434 l435)
     (k1 (0 : Int) l434 l435 l436 l437 l438))
    (fun i439 l440 l441 l442 i443 l444 l445 l446 => k0 i439 l440 l441)
    (fun l447 l448 l449 i450 l451 l452 l453 => br (decide ((0 : Int) < (Nat.cast (List.length l448) : Int)))
     (k0 (12 : Int) l447 l448)
     (k2 (0 : Int) l447 l448 l449 i450 l451 l452 l453))
    (fun n454 n455 i456 l457 l458 l459 i460 l461 l462 l463 => k0 i456 l457 l458)
    (fun n464 n465 l466 l467 l468 i469 l470 l471 l472 => br (decide ((0 : Int) < (Nat.cast n465 : Int)))
     (k0 (12 : Int) l466 l467)
     (k2 (0 : Int) l466 l467 l468 i469 l470 l471 l472))
    N (.v2 (Nat.cast (List.length l410) : Int) (0 : Int) l410 x1 ((0 : Int) :: ((0 : Int) :: ((0 : Int) :: ((0 : Int) :: ([] : List ((Sh.int IntKind.i64).T)))))) i411 l412 ([] : List (((Sh.int IntKind.i64).T) × ((Sh.int IntKind.u8).isl.T))) ([] : List (((Sh.int IntKind.i64).pair (Sh.int IntKind.i64)).T)))))
noncomputable def files_New_bfc2 (N : Nat) {R : Type} (x0 : List ((ByteArray) × ((Bool) × (Int)))) (x1 : List (List (Int))) (k0 : (Int) → (List ((ByteArray) × ((Bool) × (Int)))) → (List (List (Int))) → Option R) (k1 : (Int) → (List ((ByteArray) × ((Bool) × (Int)))) → (List (List (Int))) → (List (Int)) → (List ((Int) × (List (Int)))) → (List ((Int) × (Int))) → Option R) (k2 : (Int) → (List ((ByteArray) × ((Bool) × (Int)))) → (List (List (Int))) → (List (Int)) → (Int) → (List (((ByteArray) × (ByteArray)) × ((Int) × (Bool)))) → (List ((Int) × (List (Int)))) → (List ((Int) × (Int))) → Option R) : Option R := files_New_bfc2_T N (@tree_New_1c12 N) (@tree_New_644a N) @slices_Clone__byte_byte (@files_New_bfc2_l0 N) x0 x1 k0 k1 k2
abbrev files_sized_l0_Ty : Type 1 := {R : Type} → ((List (Int)) → Option R) → Nat → (Int) → (List (Int)) → Option R
abbrev files_sized_Ty : Type 1 := {R : Type} → (List (Int)) → (Int) → ((List (Int)) → Option R) → Option R
noncomputable def files_sized_l0_T0 (N : Nat) (c0 : slices_Clone__byte_byte_Ty) {R : Type} (nx : (Int) → (List (Int)) → Option R) (k0 : (List (Int)) → Option R) (x0 : Int) (x1 : List (Int)) : Option R :=
  br (decide ((Nat.cast (List.length x1) : Int) < x0))
  (br (((fits (0 : Nat) (List.length x1) x1) && (decide ((((List.length x1) + (1 : Nat)) * (1 : Nat)) ≤ (70368744177664 : Nat)))) && true)
   (nx x0 ((sub x1 (0 : Nat) (List.length x1)) ++ ((0 : Int) :: ([] : List ((Sh.int IntKind.u8).T)))))
   (none))
  (k0 x1)
noncomputable def files_sized_l0 (N : Nat) {R : Type} (k0 : (List (Int)) → Option R) : Nat → (Int) → (List (Int)) → Option R
  | 0, _, _ => none
  | n + 1, x0, x1 => files_sized_l0_T0 N @slices_Clone__byte_byte (fun x0 x1 => files_sized_l0 N k0 n x0 x1) k0 x0 x1
noncomputable def files_sized_T (N : Nat) (c0 : slices_Clone__byte_byte_Ty) (w0 : files_sized_l0_Ty) {R : Type} (x0 : List (Int)) (x1 : Int) (k0 : (List (Int)) → Option R) : Option R :=
  br (leB (if ((Nat.cast (List.length x0) : Int) < x1) then (Nat.cast (List.length x0) : Int) else x1) (List.length x0))
  (c0 (sub x0 (0 : Nat) ((Int.toNat (if ((Nat.cast (List.length x0) : Int) < x1) then (Nat.cast (List.length x0) : Int) else x1)) - (0 : Nat)))
   (fun l159 => w0
    (fun l160 => k0 l160)
    N x1 l159))
  (none)
noncomputable def files_sized (N : Nat) {R : Type} (x0 : List (Int)) (x1 : Int) (k0 : (List (Int)) → Option R) : Option R := files_sized_T N @slices_Clone__byte_byte (@files_sized_l0 N) x0 x1 k0
abbrev files_Files_Write_5dfd_Ty : Type 1 := {R : Type} → (Int) → (List (Int)) → (Int) → (List (((ByteArray) × (ByteArray)) × ((Int) × (Bool)))) → (List ((Int) × (List (Int)))) → (List ((Int) × (Int))) → (List (Int)) → ((Int) → (List (Int)) → (Int) → (List (((ByteArray) × (ByteArray)) × ((Int) × (Bool)))) → (List ((Int) × (List (Int)))) → (List ((Int) × (Int))) → (List (Int)) → Option R) → Option R
noncomputable def files_Files_Write_5dfd_T (N : Nat) (c0 : files_sized_Ty) (c1 : files_Files_file_b447_Ty) (c2 : files_Files_file_c411_Ty) {R : Type} (x0 : Int) (x1 : List (Int)) (x2 : Int) (x3 : List (((ByteArray) × (ByteArray)) × ((Int) × (Bool)))) (x4 : List ((Int) × (List (Int)))) (x5 : List ((Int) × (Int))) (x6 : List (Int)) (k0 : (Int) → (List (Int)) → (Int) → (List (((ByteArray) × (ByteArray)) × ((Int) × (Bool)))) → (List ((Int) × (List (Int)))) → (List ((Int) × (Int))) → (List (Int)) → Option R) : Option R :=
  c1 x0 x1 x2 x3 x4 x5
  (fun l148 i149 l150 l151 l152 => k0 (65289 : Int) l148 i149 l150 l151 l152 x6)
  (fun i153 l154 i155 l156 l157 l158 => br (decide ((Nat.cast (List.length x6) : Int) = (0 : Int)))
   (k0 (0 : Int) l154 i155 l156 l157 l158 x6)
   (br (decide ((Int.toNat i153) < (List.length l158)))
    (br (decide ((8 : Int) ≤ (List.getD l158 (Int.toNat i153) ((0 : Int) , (0 : Int))).2))
     (k0 (65308 : Int) l154 i155 l156 l157 l158 x6)
     (br (decide ((Int.toNat i153) < (List.length l158)))
      (br (leB (if ((IntKind.wrap .i64 ((8 : Int) - (List.getD l158 (Int.toNat i153) ((0 : Int) , (0 : Int))).2)) < (Nat.cast (List.length x6) : Int)) then (IntKind.wrap .i64 ((8 : Int) - (List.getD l158 (Int.toNat i153) ((0 : Int) , (0 : Int))).2)) else (Nat.cast (List.length x6) : Int)) (List.length x6))
       (br (decide ((Int.toNat i153) < (List.length l158)))
        (br (decide ((Int.toNat i153) < (List.length l158)))
         (c0 (Option.getD (mfind (.int .i64) (.isl (.int .u8)) l157 (List.getD l158 (Int.toNat i153) ((0 : Int) , (0 : Int))).1) (Sh.zero (.isl (.int .u8)))) (if ((Nat.cast (List.length (Option.getD (mfind (.int .i64) (.isl (.int .u8)) l157 (List.getD l158 (Int.toNat i153) ((0 : Int) , (0 : Int))).1) (Sh.zero (.isl (.int .u8))))) : Int) < (IntKind.wrap .i64 ((List.getD l158 (Int.toNat i153) ((0 : Int) , (0 : Int))).2 + (Nat.cast ((Int.toNat (if ((IntKind.wrap .i64 ((8 : Int) - (List.getD l158 (Int.toNat i153) ((0 : Int) , (0 : Int))).2)) < (Nat.cast (List.length x6) : Int)) then (IntKind.wrap .i64 ((8 : Int) - (List.getD l158 (Int.toNat i153) ((0 : Int) , (0 : Int))).2)) else (Nat.cast (List.length x6) : Int))) - (0 : Nat)) : Int)))) then (IntKind.wrap .i64 ((List.getD l158 (Int.toNat i153) ((0 : Int) , (0 : Int))).2 + (Nat.cast ((Int.toNat (if ((IntKind.wrap .i64 ((8 : Int) - (List.getD l158 (Int.toNat i153) ((0 : Int) , (0 : Int))).2)) < (Nat.cast (List.length x6) : Int)) then (IntKind.wrap .i64 ((8 : Int) - (List.getD l158 (Int.toNat i153) ((0 : Int) , (0 : Int))).2)) else (Nat.cast (List.length x6) : Int))) - (0 : Nat)) : Int))) else (Nat.cast (List.length (Option.getD (mfind (.int .i64) (.isl (.int .u8)) l157 (List.getD l158 (Int.toNat i153) ((0 : Int) , (0 : Int))).1) (Sh.zero (.isl (.int .u8))))) : Int))
          (fun l161 => br (decide ((Int.toNat i153) < (List.length l158)))
           (br (leB (List.getD l158 (Int.toNat i153) ((0 : Int) , (0 : Int))).2 (List.length l161))
            (br (fits (0 : Nat) ((Int.toNat (if ((IntKind.wrap .i64 ((8 : Int) - (List.getD l158 (Int.toNat i153) ((0 : Int) , (0 : Int))).2)) < (Nat.cast (List.length x6) : Int)) then (IntKind.wrap .i64 ((8 : Int) - (List.getD l158 (Int.toNat i153) ((0 : Int) , (0 : Int))).2)) else (Nat.cast (List.length x6) : Int))) - (0 : Nat)) x6)
             (br (fits (Int.toNat (List.getD l158 (Int.toNat i153) ((0 : Int) , (0 : Int))).2) ((List.length l161) - (Int.toNat (List.getD l158 (Int.toNat i153) ((0 : Int) , (0 : Int))).2)) l161)
              (br (decide ((Int.toNat i153) < (List.length l158)))
               (br (fits (0 : Nat) (List.length l161) ((List.take (Int.toNat (List.getD l158 (Int.toNat i153) ((0 : Int) , (0 : Int))).2) l161) ++ ((List.take (Min.min (List.length (sub x6 (0 : Nat) ((Int.toNat (if ((IntKind.wrap .i64 ((8 : Int) - (List.getD l158 (Int.toNat i153) ((0 : Int) , (0 : Int))).2)) < (Nat.cast (List.length x6) : Int)) then (IntKind.wrap .i64 ((8 : Int) - (List.getD l158 (Int.toNat i153) ((0 : Int) , (0 : Int))).2)) else (Nat.cast (List.length x6) : Int))) - (0 : Nat)))) ((List.length l161) - (Int.toNat (List.getD l158 (Int.toNat i153) ((0 : Int) , (0 : Int))).2))) (sub x6 (0 : Nat) ((Int.toNat (if ((IntKind.wrap .i64 ((8 : Int) - (List.getD l158 (Int.toNat i153) ((0 : Int) , (0 : Int))).2)) < (Nat.cast (List.length x6) : Int)) then (IntKind.wrap .i64 ((8 : Int) - (List.getD l158 (Int.toNat i153) ((0 : Int) , (0 : Int))).2)) else (Nat.cast (List.length x6) : Int))) - (0 : Nat)))) ++ (List.drop ((Int.toNat (List.getD l158 (Int.toNat i153) ((0 : Int) , (0 : Int))).2) + (Min.min (List.length (sub x6 (0 : Nat) ((Int.toNat (if ((IntKind.wrap .i64 ((8 : Int) - (List.getD l158 (Int.toNat i153) ((0 : Int) , (0 : Int))).2)) < (Nat.cast (List.length x6) : Int)) then (IntKind.wrap .i64 ((8 : Int) - (List.getD l158 (Int.toNat i153) ((0 : Int) , (0 : Int))).2)) else (Nat.cast (List.length x6) : Int))) - (0 : Nat)))) ((List.length l161) - (Int.toNat (List.getD l158 (Int.toNat i153) ((0 : Int) , (0 : Int))).2)))) l161))))
                (br (decide ((Int.toNat i153) < (List.length l158)))
                 (br (decide ((Int.toNat i153) < (List.length l158)))
                  (k0 (IntKind.wrap .u16 (Nat.cast ((Int.toNat (if ((IntKind.wrap .i64 ((8 : Int) - (List.getD l158 (Int.toNat i153) ((0 : Int) , (0 : Int))).2)) < (Nat.cast (List.length x6) : Int)) then (IntKind.wrap .i64 ((8 : Int) - (List.getD l158 (Int.toNat i153) ((0 : Int) , (0 : Int))).2)) else (Nat.cast (List.length x6) : Int))) - (0 : Nat)) : Int)) l154 i155 l156 (mput (.int .i64) (.isl (.int .u8)) l157 (List.getD l158 (Int.toNat i153) ((0 : Int) , (0 : Int))).1 (sub ((List.take (Int.toNat (List.getD l158 (Int.toNat i153) ((0 : Int) , (0 : Int))).2) l161) ++ ((List.take (Min.min (List.length (sub x6 (0 : Nat) ((Int.toNat (if ((IntKind.wrap .i64 ((8 : Int) - (List.getD l158 (Int.toNat i153) ((0 : Int) , (0 : Int))).2)) < (Nat.cast (List.length x6) : Int)) then (IntKind.wrap .i64 ((8 : Int) - (List.getD l158 (Int.toNat i153) ((0 : Int) , (0 : Int))).2)) else (Nat.cast (List.length x6) : Int))) - (0 : Nat)))) ((List.length l161) - (Int.toNat (List.getD l158 (Int.toNat i153) ((0 : Int) , (0 : Int))).2))) (sub x6 (0 : Nat) ((Int.toNat (if ((IntKind.wrap .i64 ((8 : Int) - (List.getD l158 (Int.toNat i153) ((0 : Int) , (0 : Int))).2)) < (Nat.cast (List.length x6) : Int)) then (IntKind.wrap .i64 ((8 : Int) - (List.getD l158 (Int.toNat i153) ((0 : Int) , (0 : Int))).2)) else (Nat.cast (List.length x6) : Int))) - (0 : Nat)))) ++ (List.drop ((Int.toNat (List.getD l158 (Int.toNat i153) ((0 : Int) , (0 : Int))).2) + (Min.min (List.length (sub x6 (0 : Nat) ((Int.toNat (if ((IntKind.wrap .i64 ((8 : Int) - (List.getD l158 (Int.toNat i153) ((0 : Int) , (0 : Int))).2)) < (Nat.cast (List.length x6) : Int)) then (IntKind.wrap .i64 ((8 : Int) - (List.getD l158 (Int.toNat i153) ((0 : Int) , (0 : Int))).2)) else (Nat.cast (List.length x6) : Int))) - (0 : Nat)))) ((List.length l161) - (Int.toNat (List.getD l158 (Int.toNat i153) ((0 : Int) , (0 : Int))).2)))) l161))) (0 : Nat) (List.length l161))) (List.set l158 (Int.toNat i153) ((List.getD l158 (Int.toNat i153) ((0 : Int) , (0 : Int))).1 , (IntKind.wrap .i64 ((List.getD l158 (Int.toNat i153) ((0 : Int) , (0 : Int))).2 + (Nat.cast ((Int.toNat (if ((IntKind.wrap .i64 ((8 : Int) - (List.getD l158 (Int.toNat i153) ((0 : Int) , (0 : Int))).2)) < (Nat.cast (List.length x6) : Int)) then (IntKind.wrap .i64 ((8 : Int) - (List.getD l158 (Int.toNat i153) ((0 : Int) , (0 : Int))).2)) else (Nat.cast (List.length x6) : Int))) - (0 : Nat)) : Int))))) x6)
                  (none))
                 (none))
                (none))
               (none))
              (none))
             (none))
            (none))
           (none)))
         (none))
        (none))
       (none))
      (none)))
    (none)))
noncomputable def files_Files_Write_5dfd (N : Nat) {R : Type} (x0 : Int) (x1 : List (Int)) (x2 : Int) (x3 : List (((ByteArray) × (ByteArray)) × ((Int) × (Bool)))) (x4 : List ((Int) × (List (Int)))) (x5 : List ((Int) × (Int))) (x6 : List (Int)) (k0 : (Int) → (List (Int)) → (Int) → (List (((ByteArray) × (ByteArray)) × ((Int) × (Bool)))) → (List ((Int) × (List (Int)))) → (List ((Int) × (Int))) → (List (Int)) → Option R) : Option R := files_Files_Write_5dfd_T N (@files_sized N) (@files_Files_file_b447 N) (@files_Files_file_c411 N) x0 x1 x2 x3 x4 x5 x6 k0
abbrev files_Files_Seek_0442_Ty : Type 1 := {R : Type} → (Int) → (Int) → (List (Int)) → (Int) → (List (((ByteArray) × (ByteArray)) × ((Int) × (Bool)))) → (List ((Int) × (List (Int)))) → (List ((Int) × (Int))) → ((Int) → (List (Int)) → (Int) → (List (((ByteArray) × (ByteArray)) × ((Int) × (Bool)))) → (List ((Int) × (List (Int)))) → (List ((Int) × (Int))) → Option R) → Option R
noncomputable def files_Files_Seek_0442_T (N : Nat) (c0 : files_Files_file_b447_Ty) (c1 : files_Files_file_c411_Ty) {R : Type} (x0 : Int) (x1 : Int) (x2 : List (Int)) (x3 : Int) (x4 : List (((ByteArray) × (ByteArray)) × ((Int) × (Bool)))) (x5 : List ((Int) × (List (Int)))) (x6 : List ((Int) × (Int))) (k0 : (Int) → (List (Int)) → (Int) → (List (((ByteArray) × (ByteArray)) × ((Int) × (Bool)))) → (List ((Int) × (List (Int)))) → (List ((Int) × (Int))) → Option R) : Option R :=
  c0 x0 x2 x3 x4 x5 x6
  (fun l169 i170 l171 l172 l173 => k0 (65289 : Int) l169 i170 l171 l172 l173)
  (fun i174 l175 i176 l177 l178 l179 => br (decide ((255 : Int) < x1))
   (k0 (65302 : Int) l175 i176 l177 l178 l179)
   (br (decide ((Int.toNat i174) < (List.length l179)))
    (k0 x1 l175 i176 l177 l178 (List.set l179 (Int.toNat i174) ((List.getD l179 (Int.toNat i174) ((0 : Int) , (0 : Int))).1 , (IntKind.wrap .i64 x1))))
    (none)))
noncomputable def files_Files_Seek_0442 (N : Nat) {R : Type} (x0 : Int) (x1 : Int) (x2 : List (Int)) (x3 : Int) (x4 : List (((ByteArray) × (ByteArray)) × ((Int) × (Bool)))) (x5 : List ((Int) × (List (Int)))) (x6 : List ((Int) × (Int))) (k0 : (Int) → (List (Int)) → (Int) → (List (((ByteArray) × (ByteArray)) × ((Int) × (Bool)))) → (List ((Int) × (List (Int)))) → (List ((Int) × (Int))) → Option R) : Option R := files_Files_Seek_0442_T N (@files_Files_file_b447 N) (@files_Files_file_c411 N) x0 x1 x2 x3 x4 x5 x6 k0
abbrev files_Files_Read_0442_Ty : Type 1 := {R : Type} → (Int) → (Int) → (List (Int)) → (Int) → (List (((ByteArray) × (ByteArray)) × ((Int) × (Bool)))) → (List ((Int) × (List (Int)))) → (List ((Int) × (Int))) → ((Int) → (List (Int)) → (Int) → (List (((ByteArray) × (ByteArray)) × ((Int) × (Bool)))) → (List ((Int) × (List (Int)))) → (List ((Int) × (Int))) → (List (Int)) → Option R) → Option R
noncomputable def files_Files_Read_0442_T (N : Nat) (c0 : slices_Clone__byte_byte_Ty) (c1 : files_Files_file_b447_Ty) (c2 : files_Files_file_c411_Ty) {R : Type} (x0 : Int) (x1 : Int) (x2 : List (Int)) (x3 : Int) (x4 : List (((ByteArray) × (ByteArray)) × ((Int) × (Bool)))) (x5 : List ((Int) × (List (Int)))) (x6 : List ((Int) × (Int))) (k0 : (Int) → (List (Int)) → (Int) → (List (((ByteArray) × (ByteArray)) × ((Int) × (Bool)))) → (List ((Int) × (List (Int)))) → (List ((Int) × (Int))) → (List (Int)) → Option R) : Option R :=
  c1 x0 x2 x3 x4 x5 x6
  (fun l198 i199 l200 l201 l202 => k0 (65289 : Int) l198 i199 l200 l201 l202 ([] : List ((Sh.int IntKind.u8).T)))
  (fun i203 l204 i205 l206 l207 l208 => br (decide ((Int.toNat i203) < (List.length l208)))
   (br (decide ((Int.toNat i203) < (List.length l208)))
    (br (leB (if ((Nat.cast (List.length (Option.getD (mfind (.int .i64) (.isl (.int .u8)) l207 (List.getD l208 (Int.toNat i203) ((0 : Int) , (0 : Int))).1) (Sh.zero (.isl (.int .u8))))) : Int) < (List.getD l208 (Int.toNat i203) ((0 : Int) , (0 : Int))).2) then (Nat.cast (List.length (Option.getD (mfind (.int .i64) (.isl (.int .u8)) l207 (List.getD l208 (Int.toNat i203) ((0 : Int) , (0 : Int))).1) (Sh.zero (.isl (.int .u8))))) : Int) else (List.getD l208 (Int.toNat i203) ((0 : Int) , (0 : Int))).2) (List.length (Option.getD (mfind (.int .i64) (.isl (.int .u8)) l207 (List.getD l208 (Int.toNat i203) ((0 : Int) , (0 : Int))).1) (Sh.zero (.isl (.int .u8))))))
     (br (leB (if ((Nat.cast (List.length (sub (Option.getD (mfind (.int .i64) (.isl (.int .u8)) l207 (List.getD l208 (Int.toNat i203) ((0 : Int) , (0 : Int))).1) (Sh.zero (.isl (.int .u8)))) (Int.toNat (if ((Nat.cast (List.length (Option.getD (mfind (.int .i64) (.isl (.int .u8)) l207 (List.getD l208 (Int.toNat i203) ((0 : Int) , (0 : Int))).1) (Sh.zero (.isl (.int .u8))))) : Int) < (List.getD l208 (Int.toNat i203) ((0 : Int) , (0 : Int))).2) then (Nat.cast (List.length (Option.getD (mfind (.int .i64) (.isl (.int .u8)) l207 (List.getD l208 (Int.toNat i203) ((0 : Int) , (0 : Int))).1) (Sh.zero (.isl (.int .u8))))) : Int) else (List.getD l208 (Int.toNat i203) ((0 : Int) , (0 : Int))).2)) ((List.length (Option.getD (mfind (.int .i64) (.isl (.int .u8)) l207 (List.getD l208 (Int.toNat i203) ((0 : Int) , (0 : Int))).1) (Sh.zero (.isl (.int .u8))))) - (Int.toNat (if ((Nat.cast (List.length (Option.getD (mfind (.int .i64) (.isl (.int .u8)) l207 (List.getD l208 (Int.toNat i203) ((0 : Int) , (0 : Int))).1) (Sh.zero (.isl (.int .u8))))) : Int) < (List.getD l208 (Int.toNat i203) ((0 : Int) , (0 : Int))).2) then (Nat.cast (List.length (Option.getD (mfind (.int .i64) (.isl (.int .u8)) l207 (List.getD l208 (Int.toNat i203) ((0 : Int) , (0 : Int))).1) (Sh.zero (.isl (.int .u8))))) : Int) else (List.getD l208 (Int.toNat i203) ((0 : Int) , (0 : Int))).2))))) : Int) < (IntKind.wrap .i64 x1)) then (Nat.cast (List.length (sub (Option.getD (mfind (.int .i64) (.isl (.int .u8)) l207 (List.getD l208 (Int.toNat i203) ((0 : Int) , (0 : Int))).1) (Sh.zero (.isl (.int .u8)))) (Int.toNat (if ((Nat.cast (List.length (Option.getD (mfind (.int .i64) (.isl (.int .u8)) l207 (List.getD l208 (Int.toNat i203) ((0 : Int) , (0 : Int))).1) (Sh.zero (.isl (.int .u8))))) : Int) < (List.getD l208 (Int.toNat i203) ((0 : Int) , (0 : Int))).2) then (Nat.cast (List.length (Option.getD (mfind (.int .i64) (.isl (.int .u8)) l207 (List.getD l208 (Int.toNat i203) ((0 : Int) , (0 : Int))).1) (Sh.zero (.isl (.int .u8))))) : Int) else (List.getD l208 (Int.toNat i203) ((0 : Int) , (0 : Int))).2)) ((List.length (Option.getD (mfind (.int .i64) (.isl (.int .u8)) l207 (List.getD l208 (Int.toNat i203) ((0 : Int) , (0 : Int))).1) (Sh.zero (.isl (.int .u8))))) - (Int.toNat (if ((Nat.cast (List.length (Option.getD (mfind (.int .i64) (.isl (.int .u8)) l207 (List.getD l208 (Int.toNat i203) ((0 : Int) , (0 : Int))).1) (Sh.zero (.isl (.int .u8))))) : Int) < (List.getD l208 (Int.toNat i203) ((0 : Int) , (0 : Int))).2) then (Nat.cast (List.length (Option.getD (mfind (.int .i64) (.isl (.int .u8)) l207 (List.getD l208 (Int.toNat i203) ((0 : Int) , (0 : Int))).1) (Sh.zero (.isl (.int .u8))))) : Int) else (List.getD l208 (Int.toNat i203) ((0 : Int) , (0 : Int))).2))))) : Int) else (IntKind.wrap .i64 x1)) (List.length (sub (Option.getD (mfind (.int .i64) (.isl (.int .u8)) l207 (List.getD l208 (Int.toNat i203) ((0 : Int) , (0 : Int))).1) (Sh.zero (.isl (.int .u8)))) (Int.toNat (if ((Nat.cast (List.length (Option.getD (mfind (.int .i64) (.isl (.int .u8)) l207 (List.getD l208 (Int.toNat i203) ((0 : Int) , (0 : Int))).1) (Sh.zero (.isl (.int .u8))))) : Int) < (List.getD l208 (Int.toNat i203) ((0 : Int) , (0 : Int))).2) then (Nat.cast (List.length (Option.getD (mfind (.int .i64) (.isl (.int .u8)) l207 (List.getD l208 (Int.toNat i203) ((0 : Int) , (0 : Int))).1) (Sh.zero (.isl (.int .u8))))) : Int) else (List.getD l208 (Int.toNat i203) ((0 : Int) , (0 : Int))).2)) ((List.length (Option.getD (mfind (.int .i64) (.isl (.int .u8)) l207 (List.getD l208 (Int.toNat i203) ((0 : Int) , (0 : Int))).1) (Sh.zero (.isl (.int .u8))))) - (Int.toNat (if ((Nat.cast (List.length (Option.getD (mfind (.int .i64) (.isl (.int .u8)) l207 (List.getD l208 (Int.toNat i203) ((0 : Int) , (0 : Int))).1) (Sh.zero (.isl (.int .u8))))) : Int) < (List.getD l208 (Int.toNat i203) ((0 : Int) , (0 : Int))).2) then (Nat.cast (List.length (Option.getD (mfind (.int .i64) (.isl (.int .u8)) l207 (List.getD l208 (Int.toNat i203) ((0 : Int) , (0 : Int))).1) (Sh.zero (.isl (.int .u8))))) : Int) else (List.getD l208 (Int.toNat i203) ((0 : Int) , (0 : Int))).2))))))
      (c0 (sub (sub (Option.getD (mfind (.int .i64) (.isl (.int .u8)) l207 (List.getD l208 (Int.toNat i203) ((0 : Int) , (0 : Int))).1) (Sh.zero (.isl (.int .u8)))) (Int.toNat (if ((Nat.cast (List.length (Option.getD (mfind (.int .i64) (.isl (.int .u8)) l207 (List.getD l208 (Int.toNat i203) ((0 : Int) , (0 : Int))).1) (Sh.zero (.isl (.int .u8))))) : Int) < (List.getD l208 (Int.toNat i203) ((0 : Int) , (0 : Int))).2) then (Nat.cast (List.length (Option.getD (mfind (.int .i64) (.isl (.int .u8)) l207 (List.getD l208 (Int.toNat i203) ((0 : Int) , (0 : Int))).1) (Sh.zero (.isl (.int .u8))))) : Int) else (List.getD l208 (Int.toNat i203) ((0 : Int) , (0 : Int))).2)) ((List.length (Option.getD (mfind (.int .i64) (.isl (.int .u8)) l207 (List.getD l208 (Int.toNat i203) ((0 : Int) , (0 : Int))).1) (Sh.zero (.isl (.int .u8))))) - (Int.toNat (if ((Nat.cast (List.length (Option.getD (mfind (.int .i64) (.isl (.int .u8)) l207 (List.getD l208 (Int.toNat i203) ((0 : Int) , (0 : Int))).1) (Sh.zero (.isl (.int .u8))))) : Int) < (List.getD l208 (Int.toNat i203) ((0 : Int) , (0 : Int))).2) then (Nat.cast (List.length (Option.getD (mfind (.int .i64) (.isl (.int .u8)) l207 (List.getD l208 (Int.toNat i203) ((0 : Int) , (0 : Int))).1) (Sh.zero (.isl (.int .u8))))) : Int) else (List.getD l208 (Int.toNat i203) ((0 : Int) , (0 : Int))).2)))) (0 : Nat) ((Int.toNat (if ((Nat.cast (List.length (sub (Option.getD (mfind (.int .i64) (.isl (.int .u8)) l207 (List.getD l208 (Int.toNat i203) ((0 : Int) , (0 : Int))).1) (Sh.zero (.isl (.int .u8)))) (Int.toNat (if ((Nat.cast (List.length (Option.getD (mfind (.int .i64) (.isl (.int .u8)) l207 (List.getD l208 (Int.toNat i203) ((0 : Int) , (0 : Int))).1) (Sh.zero (.isl (.int .u8))))) : Int) < (List.getD l208 (Int.toNat i203) ((0 : Int) , (0 : Int))).2) then (Nat.cast (List.length (Option.getD (mfind (.int .i64) (.isl (.int .u8)) l207 (List.getD l208 (Int.toNat i203) ((0 : Int) , (0 : Int))).1) (Sh.zero (.isl (.int .u8))))) : Int) else (List.getD l208 (Int.toNat i203) ((0 : Int) , (0 : Int))).2)) ((List.length (Option.getD (mfind (.int .i64) (.isl (.int .u8)) l207 (List.getD l208 (Int.toNat i203) ((0 : Int) , (0 : Int))).1) (Sh.zero (.isl (.int .u8))))) - (Int.toNat (if ((Nat.cast (List.length (Option.getD (mfind (.int .i64) (.isl (.int .u8)) l207 (List.getD l208 (Int.toNat i203) ((0 : Int) , (0 : Int))).1) (Sh.zero (.isl (.int .u8))))) : Int) < (List.getD l208 (Int.toNat i203) ((0 : Int) , (0 : Int))).2) then (Nat.cast (List.length (Option.getD (mfind (.int .i64) (.isl (.int .u8)) l207 (List.getD l208 (Int.toNat i203) ((0 : Int) , (0 : Int))).1) (Sh.zero (.isl (.int .u8))))) : Int) else (List.getD l208 (Int.toNat i203) ((0 : Int) , (0 : Int))).2))))) : Int) < (IntKind.wrap .i64 x1)) then (Nat.cast (List.length (sub (Option.getD (mfind (.int .i64) (.isl (.int .u8)) l207 (List.getD l208 (Int.toNat i203) ((0 : Int) , (0 : Int))).1) (Sh.zero (.isl (.int .u8)))) (Int.toNat (if ((Nat.cast (List.length (Option.getD (mfind (.int .i64) (.isl (.int .u8)) l207 (List.getD l208 (Int.toNat i203) ((0 : Int) , (0 : Int))).1) (Sh.zero (.isl (.int .u8))))) : Int) < (List.getD l208 (Int.toNat i203) ((0 : Int) , (0 : Int))).2) then (Nat.cast (List.length (Option.getD (mfind (.int .i64) (.isl (.int .u8)) l207 (List.getD l208 (Int.toNat i203) ((0 : Int) , (0 : Int))).1) (Sh.zero (.isl (.int .u8))))) : Int) else (List.getD l208 (Int.toNat i203) ((0 : Int) , (0 : Int))).2)) ((List.length (Option.getD (mfind (.int .i64) (.isl (.int .u8)) l207 (List.getD l208 (Int.toNat i203) ((0 : Int) , (0 : Int))).1) (Sh.zero (.isl (.int .u8))))) - (Int.toNat (if ((Nat.cast (List.length (Option.getD (mfind (.int .i64) (.isl (.int .u8)) l207 (List.getD l208 (Int.toNat i203) ((0 : Int) , (0 : Int))).1) (Sh.zero (.isl (.int .u8))))) : Int) < (List.getD l208 (Int.toNat i203) ((0 : Int) , (0 : Int))).2) then (Nat.cast (List.length (Option.getD (mfind (.int .i64) (.isl (.int .u8)) l207 (List.getD l208 (Int.toNat i203) ((0 : Int) , (0 : Int))).1) (Sh.zero (.isl (.int .u8))))) : Int) else (List.getD l208 (Int.toNat i203) ((0 : Int) , (0 : Int))).2))))) : Int) else (IntKind.wrap .i64 x1))) - (0 : Nat)))
       (fun l209 => br (decide ((Int.toNat i203) < (List.length l208)))
        (br (decide ((Int.toNat i203) < (List.length l208)))
         (k0 (IntKind.wrap .u16 (Nat.cast (List.length l209) : Int)) l204 i205 l206 l207 (List.set l208 (Int.toNat i203) ((List.getD l208 (Int.toNat i203) ((0 : Int) , (0 : Int))).1 , (IntKind.wrap .i64 ((List.getD l208 (Int.toNat i203) ((0 : Int) , (0 : Int))).2 + (Nat.cast (List.length l209) : Int))))) l209)
         (none))
        (none)))
      (none))
     (none))
    (none))
   (none))
noncomputable def files_Files_Read_0442 (N : Nat) {R : Type} (x0 : Int) (x1 : Int) (x2 : List (Int)) (x3 : Int) (x4 : List (((ByteArray) × (ByteArray)) × ((Int) × (Bool)))) (x5 : List ((Int) × (List (Int)))) (x6 : List ((Int) × (Int))) (k0 : (Int) → (List (Int)) → (Int) → (List (((ByteArray) × (ByteArray)) × ((Int) × (Bool)))) → (List ((Int) × (List (Int)))) → (List ((Int) × (Int))) → (List (Int)) → Option R) : Option R := files_Files_Read_0442_T N @slices_Clone__byte_byte (@files_Files_file_b447 N) (@files_Files_file_c411 N) x0 x1 x2 x3 x4 x5 x6 k0
abbrev files_Files_Read_4680_Ty : Type 1 := {R : Type} → (Int) → (Int) → (List (Int)) → (List ((Int) × (List (Int)))) → (List ((Int) × (Int))) → ((Int) → (List (Int)) → (List ((Int) × (List (Int)))) → (List ((Int) × (Int))) → (List (Int)) → Option R) → Option R
noncomputable def files_Files_Read_4680_T (N : Nat) (c0 : slices_Clone__byte_byte_Ty) (c1 : files_Files_file_b447_Ty) (c2 : files_Files_file_c411_Ty) {R : Type} (x0 : Int) (x1 : Int) (x2 : List (Int)) (x3 : List ((Int) × (List (Int)))) (x4 : List ((Int) × (Int))) (k0 : (Int) → (List (Int)) → (List ((Int) × (List (Int)))) → (List ((Int) × (Int))) → (List (Int)) → Option R) : Option R :=
  c2 x0 x2 x3 x4
  (fun l603 l604 l605 => k0 (65289 : Int) l603 l604 l605 ([] : List ((Sh.int IntKind.u8).T)))
  (fun i606 l607 l608 l609 => br (decide ((Int.toNat i606) < (List.length l609)))
   (br (decide ((Int.toNat i606) < (List.length l609)))
    (br (leB (if ((Nat.cast (List.length (Option.getD (mfind (.int .i64) (.isl (.int .u8)) l608 (List.getD l609 (Int.toNat i606) ((0 : Int) , (0 : Int))).1) (Sh.zero (.isl (.int .u8))))) : Int) < (List.getD l609 (Int.toNat i606) ((0 : Int) , (0 : Int))).2) then (Nat.cast (List.length (Option.getD (mfind (.int .i64) (.isl (.int .u8)) l608 (List.getD l609 (Int.toNat i606) ((0 : Int) , (0 : Int))).1) (Sh.zero (.isl (.int .u8))))) : Int) else (List.getD l609 (Int.toNat i606) ((0 : Int) , (0 : Int))).2) (List.length (Option.getD (mfind (.int .i64) (.isl (.int .u8)) l608 (List.getD l609 (Int.toNat i606) ((0 : Int) , (0 : Int))).1) (Sh.zero (.isl (.int .u8))))))
     (br (leB (if ((Nat.cast (List.length (sub (Option.getD (mfind (.int .i64) (.isl (.int .u8)) l608 (List.getD l609 (Int.toNat i606) ((0 : Int) , (0 : Int))).1) (Sh.zero (.isl (.int .u8)))) (Int.toNat (if ((Nat.cast (List.length (Option.getD (mfind (.int .i64) (.isl (.int .u8)) l608 (List.getD l609 (Int.toNat i606) ((0 : Int) , (0 : Int))).1) (Sh.zero (.isl (.int .u8))))) : Int) < (List.getD l609 (Int.toNat i606) ((0 : Int) , (0 : Int))).2) then (Nat.cast (List.length (Option.getD (mfind (.int .i64) (.isl (.int .u8)) l608 (List.getD l609 (Int.toNat i606) ((0 : Int) , (0 : Int))).1) (Sh.zero (.isl (.int .u8))))) : Int) else (List.getD l609 (Int.toNat i606) ((0 : Int) , (0 : Int))).2)) ((List.length (Option.getD (mfind (.int .i64) (.isl (.int .u8)) l608 (List.getD l609 (Int.toNat i606) ((0 : Int) , (0 : Int))).1) (Sh.zero (.isl (.int .u8))))) - (Int.toNat (if ((Nat.cast (List.length (Option.getD (mfind (.int .i64) (.isl (.int .u8)) l608 (List.getD l609 (Int.toNat i606) ((0 : Int) , (0 : Int))).1) (Sh.zero (.isl (.int .u8))))) : Int) < (List.getD l609 (Int.toNat i606) ((0 : Int) , (0 : Int))).2) then (Nat.cast (List.length (Option.getD (mfind (.int .i64) (.isl (.int .u8)) l608 (List.getD l609 (Int.toNat i606) ((0 : Int) , (0 : Int))).1) (Sh.zero (.isl (.int .u8))))) : Int) else (List.getD l609 (Int.toNat i606) ((0 : Int) , (0 : Int))).2))))) : Int) < (IntKind.wrap .i64 x1)) then (Nat.cast (List.length (sub (Option.getD (mfind (.int .i64) (.isl (.int .u8)) l608 (List.getD l609 (Int.toNat i606) ((0 : Int) , (0 : Int))).1) (Sh.zero (.isl (.int .u8)))) (Int.toNat (if ((Nat.cast (List.length (Option.getD (mfind (.int .i64) (.isl (.int .u8)) l608 (List.getD l609 (Int.toNat i606) ((0 : Int) , (0 : Int))).1) (Sh.zero (.isl (.int .u8))))) : Int) < (List.getD l609 (Int.toNat i606) ((0 : Int) , (0 : Int))).2) then (Nat.cast (List.length (Option.getD (mfind (.int .i64) (.isl (.int .u8)) l608 (List.getD l609 (Int.toNat i606) ((0 : Int) , (0 : Int))).1) (Sh.zero (.isl (.int .u8))))) : Int) else (List.getD l609 (Int.toNat i606) ((0 : Int) , (0 : Int))).2)) ((List.length (Option.getD (mfind (.int .i64) (.isl (.int .u8)) l608 (List.getD l609 (Int.toNat i606) ((0 : Int) , (0 : Int))).1) (Sh.zero (.isl (.int .u8))))) - (Int.toNat (if ((Nat.cast (List.length (Option.getD (mfind (.int .i64) (.isl (.int .u8)) l608 (List.getD l609 (Int.toNat i606) ((0 : Int) , (0 : Int))).1) (Sh.zero (.isl (.int .u8))))) : Int) < (List.getD l609 (Int.toNat i606) ((0 : Int) , (0 : Int))).2) then (Nat.cast (List.length (Option.getD (mfind (.int .i64) (.isl (.int .u8)) l608 (List.getD l609 (Int.toNat i606) ((0 : Int) , (0 : Int))).1) (Sh.zero (.isl (.int .u8))))) : Int) else (List.getD l609 (Int.toNat i606) ((0 : Int) , (0 : Int))).2))))) : Int) else (IntKind.wrap .i64 x1)) (List.length (sub (Option.getD (mfind (.int .i64) (.isl (.int .u8)) l608 (List.getD l609 (Int.toNat i606) ((0 : Int) , (0 : Int))).1) (Sh.zero (.isl (.int .u8)))) (Int.toNat (if ((Nat.cast (List.length (Option.getD (mfind (.int .i64) (.isl (.int .u8)) l608 (List.getD l609 (Int.toNat i606) ((0 : Int) , (0 : Int))).1) (Sh.zero (.isl (.int .u8))))) : Int) < (List.getD l609 (Int.toNat i606) ((0 : Int) , (0 : Int))).2) then (Nat.cast (List.length (Option.getD (mfind (.int .i64) (.isl (.int .u8)) l608 (List.getD l609 (Int.toNat i606) ((0 : Int) , (0 : Int))).1) (Sh.zero (.isl (.int .u8))))) : Int) else (List.getD l609 (Int.toNat i606) ((0 : Int) , (0 : Int))).2)) ((List.length (Option.getD (mfind (.int .i64) (.isl (.int .u8)) l608 (List.getD l609 (Int.toNat i606) ((0 : Int) , (0 : Int))).1) (Sh.zero (.isl (.int .u8))))) - (Int.toNat (if ((Nat.cast (List.length (Option.getD (mfind (.int .i64) (.isl (.int .u8)) l608 (List.getD l609 (Int.toNat i606) ((0 : Int) , (0 : Int))).1) (Sh.zero (.isl (.int .u8))))) : Int) < (List.getD l609 (Int.toNat i606) ((0 : Int) , (0 : Int))).2) then (Nat.cast (List.length (Option.getD (mfind (.int .i64) (.isl (.int .u8)) l608 (List.getD l609 (Int.toNat i606) ((0 : Int) , (0 : Int))).1) (Sh.zero (.isl (.int .u8))))) : Int) else (List.getD l609 (Int.toNat i606) ((0 : Int) , (0 : Int))).2))))))
      (c0 (sub (sub (Option.getD (mfind (.int .i64) (.isl (.int .u8)) l608 (List.getD l609 (Int.toNat i606) ((0 : Int) , (0 : Int))).1) (Sh.zero (.isl (.int .u8)))) (Int.toNat (if ((Nat.cast (List.length (Option.getD (mfind (.int .i64) (.isl (.int .u8)) l608 (List.getD l609 (Int.toNat i606) ((0 : Int) , (0 : Int))).1) (Sh.zero (.isl (.int .u8))))) : Int) < (List.getD l609 (Int.toNat i606) ((0 : Int) , (0 : Int))).2) then (Nat.cast (List.length (Option.getD (mfind (.int .i64) (.isl (.int .u8)) l608 (List.getD l609 (Int.toNat i606) ((0 : Int) , (0 : Int))).1) (Sh.zero (.isl (.int .u8))))) : Int) else (List.getD l609 (Int.toNat i606) ((0 : Int) , (0 : Int))).2)) ((List.length (Option.getD (mfind (.int .i64) (.isl (.int .u8)) l608 (List.getD l609 (Int.toNat i606) ((0 : Int) , (0 : Int))).1) (Sh.zero (.isl (.int .u8))))) - (Int.toNat (if ((Nat.cast (List.length (Option.getD (mfind (.int .i64) (.isl (.int .u8)) l608 (List.getD l609 (Int.toNat i606) ((0 : Int) , (0 : Int))).1) (Sh.zero (.isl (.int .u8))))) : Int) < (List.getD l609 (Int.toNat i606) ((0 : Int) , (0 : Int))).2) then (Nat.cast (List.length (Option.getD (mfind (.int .i64) (.isl (.int .u8)) l608 (List.getD l609 (Int.toNat i606) ((0 : Int) , (0 : Int))).1) (Sh.zero (.isl (.int .u8))))) : Int) else (List.getD l609 (Int.toNat i606) ((0 : Int) , (0 : Int))).2)))) (0 : Nat) ((Int.toNat (if ((Nat.cast (List.length (sub (Option.getD (mfind (.int .i64) (.isl (.int .u8)) l608 (List.getD l609 (Int.toNat i606) ((0 : Int) , (0 : Int))).1) (Sh.zero (.isl (.int .u8)))) (Int.toNat (if ((Nat.cast (List.length (Option.getD (mfind (.int .i64) (.isl (.int .u8)) l608 (List.getD l609 (Int.toNat i606) ((0 : Int) , (0 : Int))).1) (Sh.zero (.isl (.int .u8))))) : Int) < (List.getD l609 (Int.toNat i606) ((0 : Int) , (0 : Int))).2) then (Nat.cast (List.length (Option.getD (mfind (.int .i64) (.isl (.int .u8)) l608 (List.getD l609 (Int.toNat i606) ((0 : Int) , (0 : Int))).1) (Sh.zero (.isl (.int .u8))))) : Int) else (List.getD l609 (Int.toNat i606) ((0 : Int) , (0 : Int))).2)) ((List.length (Option.getD (mfind (.int .i64) (.isl (.int .u8)) l608 (List.getD l609 (Int.toNat i606) ((0 : Int) , (0 : Int))).1) (Sh.zero (.isl (.int .u8))))) - (Int.toNat (if ((Nat.cast (List.length (Option.getD (mfind (.int .i64) (.isl (.int .u8)) l608 (List.getD l609 (Int.toNat i606) ((0 : Int) , (0 : Int))).1) (Sh.zero (.isl (.int .u8))))) : Int) < (List.getD l609 (Int.toNat i606) ((0 : Int) , (0 : Int))).2) then (Nat.cast (List.length (Option.getD (mfind (.int .i64) (.isl (.int .u8)) l608 (List.getD l609 (Int.toNat i606) ((0 : Int) , (0 : Int))).1) (Sh.zero (.isl (.int .u8))))) : Int) else (List.getD l609 (Int.toNat i606) ((0 : Int) , (0 : Int))).2))))) : Int) < (IntKind.wrap .i64 x1)) then (Nat.cast (List.length (sub (Option.getD (mfind (.int .i64) (.isl (.int .u8)) l608 (List.getD l609 (Int.toNat i606) ((0 : Int) , (0 : Int))).1) (Sh.zero (.isl (.int .u8)))) (Int.toNat (if ((Nat.cast (List.length (Option.getD (mfind (.int .i64) (.isl (.int .u8)) l608 (List.getD l609 (Int.toNat i606) ((0 : Int) , (0 : Int))).1) (Sh.zero (.isl (.int .u8))))) : Int) < (List.getD l609 (Int.toNat i606) ((0 : Int) , (0 : Int))).2) then (Nat.cast (List.length (Option.getD (mfind (.int .i64) (.isl (.int .u8)) l608 (List.getD l609 (Int.toNat i606) ((0 : Int) , (0 : Int))).1) (Sh.zero (.isl (.int .u8))))) : Int) else (List.getD l609 (Int.toNat i606) ((0 : Int) , (0 : Int))).2)) ((List.length (Option.getD (mfind (.int .i64) (.isl (.int .u8)) l608 (List.getD l609 (Int.toNat i606) ((0 : Int) , (0 : Int))).1) (Sh.zero (.isl (.int .u8))))) - (Int.toNat (if ((Nat.cast (List.length (Option.getD (mfind (.int .i64) (.isl (.int .u8)) l608 (List.getD l609 (Int.toNat i606) ((0 : Int) , (0 : Int))).1) (Sh.zero (.isl (.int .u8))))) : Int) < (List.getD l609 (Int.toNat i606) ((0 : Int) , (0 : Int))).2) then (Nat.cast (List.length (Option.getD (mfind (.int .i64) (.isl (.int .u8)) l608 (List.getD l609 (Int.toNat i606) ((0 : Int) , (0 : Int))).1) (Sh.zero (.isl (.int .u8))))) : Int) else (List.getD l609 (Int.toNat i606) ((0 : Int) , (0 : Int))).2))))) : Int) else (IntKind.wrap .i64 x1))) - (0 : Nat)))
       (fun l610 => br (decide ((Int.toNat i606) < (List.length l609)))
        (br (decide ((Int.toNat i606) < (List.length l609)))
         (k0 (IntKind.wrap .u16 (Nat.cast (List.length l610) : Int)) l607 l608 (List.set l609 (Int.toNat i606) ((List.getD l609 (Int.toNat i606) ((0 : Int) , (0 : Int))).1 , (IntKind.wrap .i64 ((List.getD l609 (Int.toNat i606) ((0 : Int) , (0 : Int))).2 + (Nat.cast (List.length l610) : Int))))) l610)
         (none))
        (none)))
      (none))
     (none))
    (none))
   (none))
noncomputable def files_Files_Read_4680 (N : Nat) {R : Type} (x0 : Int) (x1 : Int) (x2 : List (Int)) (x3 : List ((Int) × (List (Int)))) (x4 : List ((Int) × (Int))) (k0 : (Int) → (List (Int)) → (List ((Int) × (List (Int)))) → (List ((Int) × (Int))) → (List (Int)) → Option R) : Option R := files_Files_Read_4680_T N @slices_Clone__byte_byte (@files_Files_file_b447 N) (@files_Files_file_c411 N) x0 x1 x2 x3 x4 k0
abbrev files_Files_Size_b447_Ty : Type 1 := {R : Type} → (Int) → (List (Int)) → (Int) → (List (((ByteArray) × (ByteArray)) × ((Int) × (Bool)))) → (List ((Int) × (List (Int)))) → (List ((Int) × (Int))) → ((Int) → (List (Int)) → (Int) → (List (((ByteArray) × (ByteArray)) × ((Int) × (Bool)))) → (List ((Int) × (List (Int)))) → (List ((Int) × (Int))) → Option R) → Option R
noncomputable def files_Files_Size_b447_T (N : Nat) (c0 : files_Files_file_b447_Ty) (c1 : files_Files_file_c411_Ty) {R : Type} (x0 : Int) (x1 : List (Int)) (x2 : Int) (x3 : List (((ByteArray) × (ByteArray)) × ((Int) × (Bool)))) (x4 : List ((Int) × (List (Int)))) (x5 : List ((Int) × (Int))) (k0 : (Int) → (List (Int)) → (Int) → (List (((ByteArray) × (ByteArray)) × ((Int) × (Bool)))) → (List ((Int) × (List (Int)))) → (List ((Int) × (Int))) → Option R) : Option R :=
  c0 x0 x1 x2 x3 x4 x5
  (fun l217 i218 l219 l220 l221 => k0 (65289 : Int) l217 i218 l219 l220 l221)
  (fun i222 l223 i224 l225 l226 l227 => br (decide ((Int.toNat i222) < (List.length l227)))
   (k0 (IntKind.wrap .u16 (Nat.cast (List.length (Option.getD (mfind (.int .i64) (.isl (.int .u8)) l226 (List.getD l227 (Int.toNat i222) ((0 : Int) , (0 : Int))).1) (Sh.zero (.isl (.int .u8))))) : Int)) l223 i224 l225 l226 l227)
   (none))
noncomputable def files_Files_Size_b447 (N : Nat) {R : Type} (x0 : Int) (x1 : List (Int)) (x2 : Int) (x3 : List (((ByteArray) × (ByteArray)) × ((Int) × (Bool)))) (x4 : List ((Int) × (List (Int)))) (x5 : List ((Int) × (Int))) (k0 : (Int) → (List (Int)) → (Int) → (List (((ByteArray) × (ByteArray)) × ((Int) × (Bool)))) → (List ((Int) × (List (Int)))) → (List ((Int) × (Int))) → Option R) : Option R := files_Files_Size_b447_T N (@files_Files_file_b447 N) (@files_Files_file_c411 N) x0 x1 x2 x3 x4 x5 k0
abbrev law14_awake_Ty : Type 1 := {R : Type} → ((Bool) → Option R) → Option R
noncomputable def law14_awake_T (N : Nat) (c0 : files_Files_Size_b447_Ty) (c1 : files_Files_Read_0442_Ty) (c2 : files_Files_Read_4680_Ty) (c3 : files_Files_Seek_0442_Ty) (c4 : files_Files_Write_5dfd_Ty) (c5 : files_Files_Open_f601_Ty) (c6 : files_Files_Open_9fbb_Ty) (c7 : files_New_38f2_Ty) (c8 : files_New_bfc2_Ty) {R : Type} (k0 : (Bool) → Option R) : Option R :=
  c7
  (fun i10 => br (!(!(decide (i10 = (0 : Int)))))
   (k0 false)
   (k0 false))
  (fun i11 l12 i13 l14 l15 l16 => br (!(!(decide (i11 = (0 : Int)))))
   (c5 (bs [97]) l12 i13 l14 l15 l16
    (fun i142 l143 i144 l145 l146 l147 => c4 (0 : Int) l143 i144 l145 l146 l147 ((1 : Int) :: ((2 : Int) :: ((3 : Int) :: ([] : List ((Sh.int IntKind.u8).T)))))
     (fun i162 l163 i164 l165 l166 l167 l168 => c3 (0 : Int) (1 : Int) l163 i164 l165 l166 l167
      (fun i180 l181 i182 l183 l184 l185 => c1 (0 : Int) (9 : Int) l181 i182 l183 l184 l185
       (fun i210 l211 i212 l213 l214 l215 l216 => br (decide (i142 = (0 : Int)))
        (br (decide (i162 = (3 : Int)))
         (br (decide (i180 = (1 : Int)))
          (br (decide (i210 = (2 : Int)))
           (br (fits (0 : Nat) (List.length l216) l216)
            (br (decide ((mkStr (sub l216 (0 : Nat) (List.length l216))) = (bs [2, 3])))
             (c0 (7 : Int) l211 i212 l213 l214 l215
              (fun i228 l229 i230 l231 l232 l233 => k0 (decide (i228 = (65289 : Int)))))
             (k0 false))
            (none))
           (k0 false))
          (k0 false))
         (k0 false))
        (k0 false))))))
   (k0 false))
noncomputable def law14_awake (N : Nat) {R : Type} (k0 : (Bool) → Option R) : Option R := law14_awake_T N (@files_Files_Size_b447 N) (@files_Files_Read_0442 N) (@files_Files_Read_4680 N) (@files_Files_Seek_0442 N) (@files_Files_Write_5dfd N) (@files_Files_Open_f601 N) (@files_Files_Open_9fbb N) (@files_New_38f2 N) (@files_New_bfc2 N) k0
abbrev files_Files_Twin_c411_Ty : Type 1 := {R : Type} → (Int) → (List (Int)) → (List ((Int) × (List (Int)))) → (List ((Int) × (Int))) → ((Int) → (List (Int)) → (List ((Int) × (List (Int)))) → (List ((Int) × (Int))) → Option R) → Option R
noncomputable def files_Files_Twin_c411_T (N : Nat) (c0 : files_Files_free_18fa_Ty) (c1 : files_Files_free_d57c_Ty) (c2 : files_Files_file_b447_Ty) (c3 : files_Files_file_c411_Ty) {R : Type} (x0 : Int) (x1 : List (Int)) (x2 : List ((Int) × (List (Int)))) (x3 : List ((Int) × (Int))) (k0 : (Int) → (List (Int)) → (List ((Int) × (List (Int)))) → (List ((Int) × (Int))) → Option R) : Option R :=
  c3 x0 x1 x2 x3
  (fun l568 l569 l570 => k0 (65289 : Int) l568 l569 l570)
  (fun i571 l572 l573 l574 => c1 l572 l573 l574
   (fun i575 b576 l577 l578 l579 => br (!b576)
    (k0 (65304 : Int) l577 l578 l579)
    (br (inB x0 (4 : Nat))
     (br (decide ((Int.toNat x0) < (4 : Nat)))
      (br (inB i575 (4 : Nat))
       (br (decide ((Int.toNat i575) < (4 : Nat)))
        (k0 (IntKind.wrap .u16 i575) (List.set l577 (Int.toNat i575) (List.getD l577 (Int.toNat x0) (0 : Int))) l578 l579)
        (none))
       (none))
      (none))
     (none))))
noncomputable def files_Files_Twin_c411 (N : Nat) {R : Type} (x0 : Int) (x1 : List (Int)) (x2 : List ((Int) × (List (Int)))) (x3 : List ((Int) × (Int))) (k0 : (Int) → (List (Int)) → (List ((Int) × (List (Int)))) → (List ((Int) × (Int))) → Option R) : Option R := files_Files_Twin_c411_T N (@files_Files_free_18fa N) (@files_Files_free_d57c N) (@files_Files_file_b447 N) (@files_Files_file_c411 N) x0 x1 x2 x3 k0
abbrev files_Files_Twin_b447_Ty : Type 1 := {R : Type} → (Int) → (List (Int)) → (Int) → (List (((ByteArray) × (ByteArray)) × ((Int) × (Bool)))) → (List ((Int) × (List (Int)))) → (List ((Int) × (Int))) → ((Int) → (List (Int)) → (Int) → (List (((ByteArray) × (ByteArray)) × ((Int) × (Bool)))) → (List ((Int) × (List (Int)))) → (List ((Int) × (Int))) → Option R) → Option R
noncomputable def files_Files_Twin_b447_T (N : Nat) (c0 : files_Files_free_18fa_Ty) (c1 : files_Files_free_d57c_Ty) (c2 : files_Files_file_b447_Ty) (c3 : files_Files_file_c411_Ty) {R : Type} (x0 : Int) (x1 : List (Int)) (x2 : Int) (x3 : List (((ByteArray) × (ByteArray)) × ((Int) × (Bool)))) (x4 : List ((Int) × (List (Int)))) (x5 : List ((Int) × (Int))) (k0 : (Int) → (List (Int)) → (Int) → (List (((ByteArray) × (ByteArray)) × ((Int) × (Bool)))) → (List ((Int) × (List (Int)))) → (List ((Int) × (Int))) → Option R) : Option R :=
  c2 x0 x1 x2 x3 x4 x5
  (fun l698 i699 l700 l701 l702 => k0 (65289 : Int) l698 i699 l700 l701 l702)
  (fun i703 l704 i705 l706 l707 l708 => c0 l704 i705 l706 l707 l708
   (fun i709 b710 l711 i712 l713 l714 l715 => br (!b710)
    (k0 (65304 : Int) l711 i712 l713 l714 l715)
    (br (inB x0 (4 : Nat))
     (br (decide ((Int.toNat x0) < (4 : Nat)))
      (br (inB i709 (4 : Nat))
       (br (decide ((Int.toNat i709) < (4 : Nat)))
        (k0 (IntKind.wrap .u16 i709) (List.set l711 (Int.toNat i709) (List.getD l711 (Int.toNat x0) (0 : Int))) i712 l713 l714 l715)
        (none))
       (none))
      (none))
     (none))))
noncomputable def files_Files_Twin_b447 (N : Nat) {R : Type} (x0 : Int) (x1 : List (Int)) (x2 : Int) (x3 : List (((ByteArray) × (ByteArray)) × ((Int) × (Bool)))) (x4 : List ((Int) × (List (Int)))) (x5 : List ((Int) × (Int))) (k0 : (Int) → (List (Int)) → (Int) → (List (((ByteArray) × (ByteArray)) × ((Int) × (Bool)))) → (List ((Int) × (List (Int)))) → (List ((Int) × (Int))) → Option R) : Option R := files_Files_Twin_b447_T N (@files_Files_free_18fa N) (@files_Files_free_d57c N) (@files_Files_file_b447 N) (@files_Files_file_c411 N) x0 x1 x2 x3 x4 x5 k0
abbrev files_Files_Close_c411_Ty : Type 1 := {R : Type} → (Int) → (List (Int)) → (List ((Int) × (List (Int)))) → (List ((Int) × (Int))) → ((Int) → (List (Int)) → (List ((Int) × (List (Int)))) → (List ((Int) × (Int))) → Option R) → Option R
noncomputable def files_Files_Close_c411_T (N : Nat) (c0 : files_Files_file_b447_Ty) (c1 : files_Files_file_c411_Ty) {R : Type} (x0 : Int) (x1 : List (Int)) (x2 : List ((Int) × (List (Int)))) (x3 : List ((Int) × (Int))) (k0 : (Int) → (List (Int)) → (List ((Int) × (List (Int)))) → (List ((Int) × (Int))) → Option R) : Option R :=
  c1 x0 x1 x2 x3
  (fun l584 l585 l586 => k0 (65289 : Int) l584 l585 l586)
  (fun i587 l588 l589 l590 => br (inB x0 (4 : Nat))
   (br (decide ((Int.toNat x0) < (4 : Nat)))
    (k0 (0 : Int) (List.set l588 (Int.toNat x0) (0 : Int)) l589 l590)
    (none))
   (none))
noncomputable def files_Files_Close_c411 (N : Nat) {R : Type} (x0 : Int) (x1 : List (Int)) (x2 : List ((Int) × (List (Int)))) (x3 : List ((Int) × (Int))) (k0 : (Int) → (List (Int)) → (List ((Int) × (List (Int)))) → (List ((Int) × (Int))) → Option R) : Option R := files_Files_Close_c411_T N (@files_Files_file_b447 N) (@files_Files_file_c411 N) x0 x1 x2 x3 k0
abbrev files_Files_Close_b447_Ty : Type 1 := {R : Type} → (Int) → (List (Int)) → (Int) → (List (((ByteArray) × (ByteArray)) × ((Int) × (Bool)))) → (List ((Int) × (List (Int)))) → (List ((Int) × (Int))) → ((Int) → (List (Int)) → (Int) → (List (((ByteArray) × (ByteArray)) × ((Int) × (Bool)))) → (List ((Int) × (List (Int)))) → (List ((Int) × (Int))) → Option R) → Option R
noncomputable def files_Files_Close_b447_T (N : Nat) (c0 : files_Files_file_b447_Ty) (c1 : files_Files_file_c411_Ty) {R : Type} (x0 : Int) (x1 : List (Int)) (x2 : Int) (x3 : List (((ByteArray) × (ByteArray)) × ((Int) × (Bool)))) (x4 : List ((Int) × (List (Int)))) (x5 : List ((Int) × (Int))) (k0 : (Int) → (List (Int)) → (Int) → (List (((ByteArray) × (ByteArray)) × ((Int) × (Bool)))) → (List ((Int) × (List (Int)))) → (List ((Int) × (Int))) → Option R) : Option R :=
  c0 x0 x1 x2 x3 x4 x5
  (fun l722 i723 l724 l725 l726 => k0 (65289 : Int) l722 i723 l724 l725 l726)
  (fun i727 l728 i729 l730 l731 l732 => br (inB x0 (4 : Nat))
   (br (decide ((Int.toNat x0) < (4 : Nat)))
    (k0 (0 : Int) (List.set l728 (Int.toNat x0) (0 : Int)) i729 l730 l731 l732)
    (none))
   (none))
noncomputable def files_Files_Close_b447 (N : Nat) {R : Type} (x0 : Int) (x1 : List (Int)) (x2 : Int) (x3 : List (((ByteArray) × (ByteArray)) × ((Int) × (Bool)))) (x4 : List ((Int) × (List (Int)))) (x5 : List ((Int) × (Int))) (k0 : (Int) → (List (Int)) → (Int) → (List (((ByteArray) × (ByteArray)) × ((Int) × (Bool)))) → (List ((Int) × (List (Int)))) → (List ((Int) × (Int))) → Option R) : Option R := files_Files_Close_b447_T N (@files_Files_file_b447 N) (@files_Files_file_c411 N) x0 x1 x2 x3 x4 x5 k0
inductive law14_FilesFds_S0 where
  | v0 (x0 : List (Int)) (x1 : Int) (x2 : List (Int)) (x3 : List ((Int) × (List (Int)))) (x4 : List ((Int) × (Int))) (x5 : List (Int)) (x6 : List (Int))
  | v1 (x0 : List (Int)) (x1 : Int) (x2 : List (Int)) (x3 : Int) (x4 : List (((ByteArray) × (ByteArray)) × ((Int) × (Bool)))) (x5 : List ((Int) × (List (Int)))) (x6 : List ((Int) × (Int))) (x7 : List (Int)) (x8 : List (Int))
abbrev law14_FilesFds_l0_Ty : Type 1 := {R : Type} → ((Bool) → Option R) → (Option R) → Nat → law14_FilesFds_S0 → Option R
inductive law14_FilesFds_S1 where
  | v0 (x0 : List (Int)) (x1 : Int) (x2 : Int) (x3 : Int) (x4 : Int) (x5 : List (Int)) (x6 : List ((Int) × (List (Int)))) (x7 : List ((Int) × (Int))) (x8 : List (Int)) (x9 : List (Int))
  | v1 (x0 : List (Int)) (x1 : Int) (x2 : Int) (x3 : Int) (x4 : Int) (x5 : List (Int)) (x6 : Int) (x7 : List (((ByteArray) × (ByteArray)) × ((Int) × (Bool)))) (x8 : List ((Int) × (List (Int)))) (x9 : List ((Int) × (Int))) (x10 : List (Int)) (x11 : List (Int))
abbrev law14_FilesFds_l1_Ty : Type 1 := {R : Type} → ((List (Int)) → (Int) → (Int) → (Int) → (List (Int)) → (List ((Int) × (List (Int)))) → (List ((Int) × (Int))) → (List (Int)) → (List (Int)) → Option R) → ((List (Int)) → (Int) → (Int) → (Int) → (List (Int)) → (Int) → (List (((ByteArray) × (ByteArray)) × ((Int) × (Bool)))) → (List ((Int) × (List (Int)))) → (List ((Int) × (Int))) → (List (Int)) → (List (Int)) → Option R) → Nat → law14_FilesFds_S1 → Option R
inductive law14_FilesFds_Sj0 where
  | v0 (x0 : List (Int)) (x1 : Int) (x2 : Int) (x3 : Int) (x4 : List (Int)) (x5 : List ((Int) × (List (Int)))) (x6 : List ((Int) × (Int))) (x7 : List (Int)) (x8 : List (Int)) (x9 : List (Int))
  | v1 (x0 : List (Int)) (x1 : Int) (x2 : Int) (x3 : Int) (x4 : List (Int)) (x5 : Int) (x6 : List (((ByteArray) × (ByteArray)) × ((Int) × (Bool)))) (x7 : List ((Int) × (List (Int)))) (x8 : List ((Int) × (Int))) (x9 : List (Int)) (x10 : List (Int)) (x11 : List (Int))
abbrev law14_FilesFds_lj0_Ty : Type 1 := {R : Type} → ((List (Int)) → (Bool) → (Int) → (List (Int)) → (List ((Int) × (List (Int)))) → (List ((Int) × (Int))) → (List (Int)) → (List (Int)) → Option R) → ((List (Int)) → (Int) → (List (Int)) → (List ((Int) × (List (Int)))) → (List ((Int) × (Int))) → (List (Int)) → (List (Int)) → Option R) → ((List (Int)) → (Bool) → (Int) → (List (Int)) → (Int) → (List (((ByteArray) × (ByteArray)) × ((Int) × (Bool)))) → (List ((Int) × (List (Int)))) → (List ((Int) × (Int))) → (List (Int)) → (List (Int)) → Option R) → ((List (Int)) → (Int) → (List (Int)) → (Int) → (List (((ByteArray) × (ByteArray)) × ((Int) × (Bool)))) → (List ((Int) × (List (Int)))) → (List ((Int) × (Int))) → (List (Int)) → (List (Int)) → Option R) → Nat → law14_FilesFds_Sj0 → Option R
abbrev law14_FilesFds_Ty : Type 1 := {R : Type} → (List (Int)) → ((Bool) → Option R) → Option R
noncomputable def law14_FilesFds_l0_T0 (N : Nat) (c0 : files_Files_Read_0442_Ty) (c1 : files_Files_Read_4680_Ty) (c2 : files_Files_Close_c411_Ty) (c3 : files_Files_Close_b447_Ty) (c4 : files_Files_Twin_c411_Ty) (c5 : files_Files_Twin_b447_Ty) (c6 : files_Files_Open_f601_Ty) (c7 : files_Files_Open_9fbb_Ty) (c8 : files_New_38f2_Ty) (c9 : files_New_bfc2_Ty) (c10 : law14_awake_Ty) (w1 : law14_FilesFds_l1_Ty) (wj0 : law14_FilesFds_lj0_Ty) {R : Type} (nx : law14_FilesFds_S0 → Option R) (k0 : (Bool) → Option R) (k1 : Option R) (x0 : List (Int)) (x1 : Int) (x2 : List (Int)) (x3 : List ((Int) × (List (Int)))) (x4 : List ((Int) × (Int))) (x5 : List (Int)) (x6 : List (Int)) : Option R :=
  br (decide (x1 < (Nat.cast (List.length x0) : Int)))
  (br (inB x1 (List.length x0))
   (w1
    (fun l791 i792 i793 i794 l795 l796 l797 l798 l799 => br (inB i792 (List.length l791))
     (br (decide ((band .u8 (List.getD l791 (Int.toNat i792) (0 : Int)) (3 : Int)) = (0 : Int)))
      (c7 (bs [97]) l795 l796 l797
       (fun i800 l801 l802 l803 => br (decide (i794 < (0 : Int)))
        (br (!(!(decide (i800 = (65304 : Int)))))
         (br (decide ((0 : Int) ≤ i794))
          (br (!(decide ((IntKind.wrap .i64 i800) = i794)))
           (k0 false)
           (br (decide ((0 : Int) ≤ i794))
            (br (((fits (0 : Nat) (List.length l798) l798) && (decide ((((List.length l798) + (1 : Nat)) * (8 : Nat)) ≤ (70368744177664 : Nat)))) && true)
             (br (inB i794 (List.length l799))
              (br (decide ((Int.toNat i794) < (List.length l799)))
               (nx (.v0 l791 (IntKind.wrap .i64 (i792 + (1 : Int))) l801 l802 l803 ((sub l798 (0 : Nat) (List.length l798)) ++ ((0 : Int) :: ([] : List ((Sh.int IntKind.i64).T)))) (List.set l799 (Int.toNat i794) (IntKind.wrap .i64 ((Nat.cast ((List.length l798) + (1 : Nat)) : Int) - (1 : Int))))))
               (none))
              (none))
             (none))
            (nx (.v0 l791 (IntKind.wrap .i64 (i792 + (1 : Int))) l801 l802 l803 l798 l799))))
          (br (decide ((0 : Int) ≤ i794))
           (br (((fits (0 : Nat) (List.length l798) l798) && (decide ((((List.length l798) + (1 : Nat)) * (8 : Nat)) ≤ (70368744177664 : Nat)))) && true)
            (br (inB i794 (List.length l799))
             (br (decide ((Int.toNat i794) < (List.length l799)))
              (nx (.v0 l791 (IntKind.wrap .i64 (i792 + (1 : Int))) l801 l802 l803 ((sub l798 (0 : Nat) (List.length l798)) ++ ((0 : Int) :: ([] : List ((Sh.int IntKind.i64).T)))) (List.set l799 (Int.toNat i794) (IntKind.wrap .i64 ((Nat.cast ((List.length l798) + (1 : Nat)) : Int) - (1 : Int))))))
              (none))
             (none))
            (none))
           (nx (.v0 l791 (IntKind.wrap .i64 (i792 + (1 : Int))) l801 l802 l803 l798 l799))))
         (k0 false))
        (br (decide ((0 : Int) ≤ i794))
         (br (!(decide ((IntKind.wrap .i64 i800) = i794)))
          (k0 false)
          (br (decide ((0 : Int) ≤ i794))
           (br (((fits (0 : Nat) (List.length l798) l798) && (decide ((((List.length l798) + (1 : Nat)) * (8 : Nat)) ≤ (70368744177664 : Nat)))) && true)
            (br (inB i794 (List.length l799))
             (br (decide ((Int.toNat i794) < (List.length l799)))
              (nx (.v0 l791 (IntKind.wrap .i64 (i792 + (1 : Int))) l801 l802 l803 ((sub l798 (0 : Nat) (List.length l798)) ++ ((0 : Int) :: ([] : List ((Sh.int IntKind.i64).T)))) (List.set l799 (Int.toNat i794) (IntKind.wrap .i64 ((Nat.cast ((List.length l798) + (1 : Nat)) : Int) - (1 : Int))))))
              (none))
             (none))
            (none))
           (nx (.v0 l791 (IntKind.wrap .i64 (i792 + (1 : Int))) l801 l802 l803 l798 l799))))
         (br (decide ((0 : Int) ≤ i794))
          (br (((fits (0 : Nat) (List.length l798) l798) && (decide ((((List.length l798) + (1 : Nat)) * (8 : Nat)) ≤ (70368744177664 : Nat)))) && true)
           (br (inB i794 (List.length l799))
            (br (decide ((Int.toNat i794) < (List.length l799)))
             (nx (.v0 l791 (IntKind.wrap .i64 (i792 + (1 : Int))) l801 l802 l803 ((sub l798 (0 : Nat) (List.length l798)) ++ ((0 : Int) :: ([] : List ((Sh.int IntKind.i64).T)))) (List.set l799 (Int.toNat i794) (IntKind.wrap .i64 ((Nat.cast ((List.length l798) + (1 : Nat)) : Int) - (1 : Int))))))
             (none))
            (none))
           (none))
          (nx (.v0 l791 (IntKind.wrap .i64 (i792 + (1 : Int))) l801 l802 l803 l798 l799))))))
      (br (decide ((band .u8 (List.getD l791 (Int.toNat i792) (0 : Int)) (3 : Int)) = (1 : Int)))
       (c4 (IntKind.wrap .u16 i793) l795 l796 l797
        (fun i804 l805 l806 l807 => br (inB i793 (List.length l799))
         (br (decide ((Int.toNat i793) < (List.length l799)))
          (br (decide ((List.getD l799 (Int.toNat i793) (0 : Int)) < (0 : Int)))
           (br (!(decide (i804 = (65289 : Int))))
            (k0 false)
            (nx (.v0 l791 (IntKind.wrap .i64 (i792 + (1 : Int))) l805 l806 l807 l798 l799)))
           (br (decide (i794 < (0 : Int)))
            (br (!(decide (i804 = (65304 : Int))))
             (k0 false)
             (nx (.v0 l791 (IntKind.wrap .i64 (i792 + (1 : Int))) l805 l806 l807 l798 l799)))
            (br (!(decide ((IntKind.wrap .i64 i804) = i794)))
             (k0 false)
             (br (inB i793 (List.length l799))
              (br (decide ((Int.toNat i793) < (List.length l799)))
               (br (inB i794 (List.length l799))
                (br (decide ((Int.toNat i794) < (List.length l799)))
                 (nx (.v0 l791 (IntKind.wrap .i64 (i792 + (1 : Int))) l805 l806 l807 l798 (List.set l799 (Int.toNat i794) (List.getD l799 (Int.toNat i793) (0 : Int)))))
                 (none))
                (none))
               (none))
              (none)))))
          (none))
         (none)))
       (br (decide ((band .u8 (List.getD l791 (Int.toNat i792) (0 : Int)) (3 : Int)) = (2 : Int)))
        (c2 (IntKind.wrap .u16 i793) l795 l796 l797
         (fun i808 l809 l810 l811 => br (inB i793 (List.length l799))
          (br (decide ((Int.toNat i793) < (List.length l799)))
           (br (!((decide (i808 = (0 : Int))) == (decide ((0 : Int) ≤ (List.getD l799 (Int.toNat i793) (0 : Int))))))
            (k0 false)
            (br (inB i793 (List.length l799))
             (br (decide ((Int.toNat i793) < (List.length l799)))
              (nx (.v0 l791 (IntKind.wrap .i64 (i792 + (1 : Int))) l809 l810 l811 l798 (List.set l799 (Int.toNat i793) (-1 : Int))))
              (none))
             (none)))
           (none))
          (none)))
        (c1 (IntKind.wrap .u16 i793) (1 : Int) l795 l796 l797
         (fun i812 l813 l814 l815 l816 => br (inB i793 (List.length l799))
          (br (decide ((Int.toNat i793) < (List.length l799)))
           (br (decide ((List.getD l799 (Int.toNat i793) (0 : Int)) < (0 : Int)))
            (br (!(decide (i812 = (65289 : Int))))
             (k0 false)
             (nx (.v0 l791 (IntKind.wrap .i64 (i792 + (1 : Int))) l813 l814 l815 l798 l799)))
            (wj0
             (fun l817 b818 i819 l820 l821 l822 l823 l824 => k0 b818)
             (fun l825 i826 l827 l828 l829 l830 l831 => nx (.v0 l825 (IntKind.wrap .i64 (i826 + (1 : Int))) l827 l828 l829 l830 l831))
             (fun l832 b833 i834 l835 i836 l837 l838 l839 l840 l841 => k0 b833)
             (fun l842 i843 l844 i845 l846 l847 l848 l849 l850 => nx (.v1 l842 (IntKind.wrap .i64 (i843 + (1 : Int))) l844 i845 l846 l847 l848 l849 l850))
             N (.v0 l791 i792 i793 i812 l813 l814 l815 l798 l799 l816)))
           (none))
          (none))))))
     (none))
    (fun l851 i852 i853 i854 l855 i856 l857 l858 l859 l860 l861 => br (inB i852 (List.length l851))
     (br (decide ((band .u8 (List.getD l851 (Int.toNat i852) (0 : Int)) (3 : Int)) = (0 : Int)))
      (c6 (bs [97]) l855 i856 l857 l858 l859
       (fun i862 l863 i864 l865 l866 l867 => br (decide (i854 < (0 : Int)))
        (br (!(!(decide (i862 = (65304 : Int)))))
         (br (decide ((0 : Int) ≤ i854))
          (br (!(decide ((IntKind.wrap .i64 i862) = i854)))
           (k0 false)
           (br (decide ((0 : Int) ≤ i854))
            (br (((fits (0 : Nat) (List.length l860) l860) && (decide ((((List.length l860) + (1 : Nat)) * (8 : Nat)) ≤ (70368744177664 : Nat)))) && true)
             (br (inB i854 (List.length l861))
              (br (decide ((Int.toNat i854) < (List.length l861)))
               (nx (.v1 l851 (IntKind.wrap .i64 (i852 + (1 : Int))) l863 i864 l865 l866 l867 ((sub l860 (0 : Nat) (List.length l860)) ++ ((0 : Int) :: ([] : List ((Sh.int IntKind.i64).T)))) (List.set l861 (Int.toNat i854) (IntKind.wrap .i64 ((Nat.cast ((List.length l860) + (1 : Nat)) : Int) - (1 : Int))))))
               (none))
              (none))
             (none))
            (nx (.v1 l851 (IntKind.wrap .i64 (i852 + (1 : Int))) l863 i864 l865 l866 l867 l860 l861))))
          (br (decide ((0 : Int) ≤ i854))
           (br (((fits (0 : Nat) (List.length l860) l860) && (decide ((((List.length l860) + (1 : Nat)) * (8 : Nat)) ≤ (70368744177664 : Nat)))) && true)
            (br (inB i854 (List.length l861))
             (br (decide ((Int.toNat i854) < (List.length l861)))
              (nx (.v1 l851 (IntKind.wrap .i64 (i852 + (1 : Int))) l863 i864 l865 l866 l867 ((sub l860 (0 : Nat) (List.length l860)) ++ ((0 : Int) :: ([] : List ((Sh.int IntKind.i64).T)))) (List.set l861 (Int.toNat i854) (IntKind.wrap .i64 ((Nat.cast ((List.length l860) + (1 : Nat)) : Int) - (1 : Int))))))
              (none))
             (none))
            (none))
           (nx (.v1 l851 (IntKind.wrap .i64 (i852 + (1 : Int))) l863 i864 l865 l866 l867 l860 l861))))
         (k0 false))
        (br (decide ((0 : Int) ≤ i854))
         (br (!(decide ((IntKind.wrap .i64 i862) = i854)))
          (k0 false)
          (br (decide ((0 : Int) ≤ i854))
           (br (((fits (0 : Nat) (List.length l860) l860) && (decide ((((List.length l860) + (1 : Nat)) * (8 : Nat)) ≤ (70368744177664 : Nat)))) && true)
            (br (inB i854 (List.length l861))
             (br (decide ((Int.toNat i854) < (List.length l861)))
              (nx (.v1 l851 (IntKind.wrap .i64 (i852 + (1 : Int))) l863 i864 l865 l866 l867 ((sub l860 (0 : Nat) (List.length l860)) ++ ((0 : Int) :: ([] : List ((Sh.int IntKind.i64).T)))) (List.set l861 (Int.toNat i854) (IntKind.wrap .i64 ((Nat.cast ((List.length l860) + (1 : Nat)) : Int) - (1 : Int))))))
              (none))
             (none))
            (none))
           (nx (.v1 l851 (IntKind.wrap .i64 (i852 + (1 : Int))) l863 i864 l865 l866 l867 l860 l861))))
         (br (decide ((0 : Int) ≤ i854))
          (br (((fits (0 : Nat) (List.length l860) l860) && (decide ((((List.length l860) + (1 : Nat)) * (8 : Nat)) ≤ (70368744177664 : Nat)))) && true)
           (br (inB i854 (List.length l861))
            (br (decide ((Int.toNat i854) < (List.length l861)))
             (nx (.v1 l851 (IntKind.wrap .i64 (i852 + (1 : Int))) l863 i864 l865 l866 l867 ((sub l860 (0 : Nat) (List.length l860)) ++ ((0 : Int) :: ([] : List ((Sh.int IntKind.i64).T)))) (List.set l861 (Int.toNat i854) (IntKind.wrap .i64 ((Nat.cast ((List.length l860) + (1 : Nat)) : Int) - (1 : Int))))))
             (none))
            (none))
           (none))
          (nx (.v1 l851 (IntKind.wrap .i64 (i852 + (1 : Int))) l863 i864 l865 l866 l867 l860 l861))))))
      (br (decide ((band .u8 (List.getD l851 (Int.toNat i852) (0 : Int)) (3 : Int)) = (1 : Int)))
       (c5 (IntKind.wrap .u16 i853) l855 i856 l857 l858 l859
        (fun i868 l869 i870 l871 l872 l873 => br (inB i853 (List.length l861))
         (br (decide ((Int.toNat i853) < (List.length l861)))
          (br (decide ((List.getD l861 (Int.toNat i853) (0 : Int)) < (0 : Int)))
           (br (!(decide (i868 = (65289 : Int))))
            (k0 false)
            (nx (.v1 l851 (IntKind.wrap .i64 (i852 + (1 : Int))) l869 i870 l871 l872 l873 l860 l861)))
           (br (decide (i854 < (0 : Int)))
            (br (!(decide (i868 = (65304 : Int))))
             (k0 false)
             (nx (.v1 l851 (IntKind.wrap .i64 (i852 + (1 : Int))) l869 i870 l871 l872 l873 l860 l861)))
            (br (!(decide ((IntKind.wrap .i64 i868) = i854)))
             (k0 false)
             (br (inB i853 (List.length l861))
              (br (decide ((Int.toNat i853) < (List.length l861)))
               (br (inB i854 (List.length l861))
                (br (decide ((Int.toNat i854) < (List.length l861)))
                 (nx (.v1 l851 (IntKind.wrap .i64 (i852 + (1 : Int))) l869 i870 l871 l872 l873 l860 (List.set l861 (Int.toNat i854) (List.getD l861 (Int.toNat i853) (0 : Int)))))
                 (none))
                (none))
               (none))
              (none)))))
          (none))
         (none)))
       (br (decide ((band .u8 (List.getD l851 (Int.toNat i852) (0 : Int)) (3 : Int)) = (2 : Int)))
        (c3 (IntKind.wrap .u16 i853) l855 i856 l857 l858 l859
         (fun i874 l875 i876 l877 l878 l879 => br (inB i853 (List.length l861))
          (br (decide ((Int.toNat i853) < (List.length l861)))
           (br (!((decide (i874 = (0 : Int))) == (decide ((0 : Int) ≤ (List.getD l861 (Int.toNat i853) (0 : Int))))))
            (k0 false)
            (br (inB i853 (List.length l861))
             (br (decide ((Int.toNat i853) < (List.length l861)))
              (nx (.v1 l851 (IntKind.wrap .i64 (i852 + (1 : Int))) l875 i876 l877 l878 l879 l860 (List.set l861 (Int.toNat i853) (-1 : Int))))
              (none))
             (none)))
           (none))
          (none)))
        (c0 (IntKind.wrap .u16 i853) (1 : Int) l855 i856 l857 l858 l859
         (fun i880 l881 i882 l883 l884 l885 l886 => br (inB i853 (List.length l861))
          (br (decide ((Int.toNat i853) < (List.length l861)))
           (br (decide ((List.getD l861 (Int.toNat i853) (0 : Int)) < (0 : Int)))
            (br (!(decide (i880 = (65289 : Int))))
             (k0 false)
             (nx (.v1 l851 (IntKind.wrap .i64 (i852 + (1 : Int))) l881 i882 l883 l884 l885 l860 l861)))
            (wj0
             (fun l887 b888 i889 l890 l891 l892 l893 l894 => k0 b888)
             (fun l895 i896 l897 l898 l899 l900 l901 => nx (.v0 l895 (IntKind.wrap .i64 (i896 + (1 : Int))) l897 l898 l899 l900 l901))
             (fun l902 b903 i904 l905 i906 l907 l908 l909 l910 l911 => k0 b903)
             (fun l912 i913 l914 i915 l916 l917 l918 l919 l920 => nx (.v1 l912 (IntKind.wrap .i64 (i913 + (1 : Int))) l914 i915 l916 l917 l918 l919 l920))
             N (.v1 l851 i852 i853 i880 l881 i882 l883 l884 l885 l860 l861 l886)))
           (none))
          (none))))))
     (none))
    N (.v0 x0 x1 (Int.tmod (IntKind.wrap .i64 (shrI .u8 (List.getD x0 (Int.toNat x1) (0 : Int)) (2 : Int))) (4 : Int)) (-1 : Int) (3 : Int) x2 x3 x4 x5 x6))
   (none))
  (k1)
noncomputable def law14_FilesFds_l0_T1 (N : Nat) (c0 : files_Files_Read_0442_Ty) (c1 : files_Files_Read_4680_Ty) (c2 : files_Files_Close_c411_Ty) (c3 : files_Files_Close_b447_Ty) (c4 : files_Files_Twin_c411_Ty) (c5 : files_Files_Twin_b447_Ty) (c6 : files_Files_Open_f601_Ty) (c7 : files_Files_Open_9fbb_Ty) (c8 : files_New_38f2_Ty) (c9 : files_New_bfc2_Ty) (c10 : law14_awake_Ty) (w1 : law14_FilesFds_l1_Ty) (wj0 : law14_FilesFds_lj0_Ty) {R : Type} (nx : law14_FilesFds_S0 → Option R) (k0 : (Bool) → Option R) (k1 : Option R) (x0 : List (Int)) (x1 : Int) (x2 : List (Int)) (x3 : Int) (x4 : List (((ByteArray) × (ByteArray)) × ((Int) × (Bool)))) (x5 : List ((Int) × (List (Int)))) (x6 : List ((Int) × (Int))) (x7 : List (Int)) (x8 : List (Int)) : Option R :=
  br (decide (x1 < (Nat.cast (List.length x0) : Int)))
  (br (inB x1 (List.length x0))
   (w1
    (fun l921 i922 i923 i924 l925 l926 l927 l928 l929 => br (inB i922 (List.length l921))
     (br (decide ((band .u8 (List.getD l921 (Int.toNat i922) (0 : Int)) (3 : Int)) = (0 : Int)))
      (c7 (bs [97]) l925 l926 l927
       (fun i930 l931 l932 l933 => br (decide (i924 < (0 : Int)))
        (br (!(!(decide (i930 = (65304 : Int)))))
         (br (decide ((0 : Int) ≤ i924))
          (br (!(decide ((IntKind.wrap .i64 i930) = i924)))
           (k0 false)
           (br (decide ((0 : Int) ≤ i924))
            (br (((fits (0 : Nat) (List.length l928) l928) && (decide ((((List.length l928) + (1 : Nat)) * (8 : Nat)) ≤ (70368744177664 : Nat)))) && true)
             (br (inB i924 (List.length l929))
              (br (decide ((Int.toNat i924) < (List.length l929)))
               (nx (.v0 l921 (IntKind.wrap .i64 (i922 + (1 : Int))) l931 l932 l933 ((sub l928 (0 : Nat) (List.length l928)) ++ ((0 : Int) :: ([] : List ((Sh.int IntKind.i64).T)))) (List.set l929 (Int.toNat i924) (IntKind.wrap .i64 ((Nat.cast ((List.length l928) + (1 : Nat)) : Int) - (1 : Int))))))
               (none))
              (none))
             (none))
            (nx (.v0 l921 (IntKind.wrap .i64 (i922 + (1 : Int))) l931 l932 l933 l928 l929))))
          (br (decide ((0 : Int) ≤ i924))
           (br (((fits (0 : Nat) (List.length l928) l928) && (decide ((((List.length l928) + (1 : Nat)) * (8 : Nat)) ≤ (70368744177664 : Nat)))) && true)
            (br (inB i924 (List.length l929))
             (br (decide ((Int.toNat i924) < (List.length l929)))
              (nx (.v0 l921 (IntKind.wrap .i64 (i922 + (1 : Int))) l931 l932 l933 ((sub l928 (0 : Nat) (List.length l928)) ++ ((0 : Int) :: ([] : List ((Sh.int IntKind.i64).T)))) (List.set l929 (Int.toNat i924) (IntKind.wrap .i64 ((Nat.cast ((List.length l928) + (1 : Nat)) : Int) - (1 : Int))))))
              (none))
             (none))
            (none))
           (nx (.v0 l921 (IntKind.wrap .i64 (i922 + (1 : Int))) l931 l932 l933 l928 l929))))
         (k0 false))
        (br (decide ((0 : Int) ≤ i924))
         (br (!(decide ((IntKind.wrap .i64 i930) = i924)))
          (k0 false)
          (br (decide ((0 : Int) ≤ i924))
           (br (((fits (0 : Nat) (List.length l928) l928) && (decide ((((List.length l928) + (1 : Nat)) * (8 : Nat)) ≤ (70368744177664 : Nat)))) && true)
            (br (inB i924 (List.length l929))
             (br (decide ((Int.toNat i924) < (List.length l929)))
              (nx (.v0 l921 (IntKind.wrap .i64 (i922 + (1 : Int))) l931 l932 l933 ((sub l928 (0 : Nat) (List.length l928)) ++ ((0 : Int) :: ([] : List ((Sh.int IntKind.i64).T)))) (List.set l929 (Int.toNat i924) (IntKind.wrap .i64 ((Nat.cast ((List.length l928) + (1 : Nat)) : Int) - (1 : Int))))))
              (none))
             (none))
            (none))
           (nx (.v0 l921 (IntKind.wrap .i64 (i922 + (1 : Int))) l931 l932 l933 l928 l929))))
         (br (decide ((0 : Int) ≤ i924))
          (br (((fits (0 : Nat) (List.length l928) l928) && (decide ((((List.length l928) + (1 : Nat)) * (8 : Nat)) ≤ (70368744177664 : Nat)))) && true)
           (br (inB i924 (List.length l929))
            (br (decide ((Int.toNat i924) < (List.length l929)))
             (nx (.v0 l921 (IntKind.wrap .i64 (i922 + (1 : Int))) l931 l932 l933 ((sub l928 (0 : Nat) (List.length l928)) ++ ((0 : Int) :: ([] : List ((Sh.int IntKind.i64).T)))) (List.set l929 (Int.toNat i924) (IntKind.wrap .i64 ((Nat.cast ((List.length l928) + (1 : Nat)) : Int) - (1 : Int))))))
             (none))
            (none))
           (none))
          (nx (.v0 l921 (IntKind.wrap .i64 (i922 + (1 : Int))) l931 l932 l933 l928 l929))))))
      (br (decide ((band .u8 (List.getD l921 (Int.toNat i922) (0 : Int)) (3 : Int)) = (1 : Int)))
       (c4 (IntKind.wrap .u16 i923) l925 l926 l927
        (fun i934 l935 l936 l937 => br (inB i923 (List.length l929))
         (br (decide ((Int.toNat i923) < (List.length l929)))
          (br (decide ((List.getD l929 (Int.toNat i923) (0 : Int)) < (0 : Int)))
           (br (!(decide (i934 = (65289 : Int))))
            (k0 false)
            (nx (.v0 l921 (IntKind.wrap .i64 (i922 + (1 : Int))) l935 l936 l937 l928 l929)))
           (br (decide (i924 < (0 : Int)))
            (br (!(decide (i934 = (65304 : Int))))
             (k0 false)
             (nx (.v0 l921 (IntKind.wrap .i64 (i922 + (1 : Int))) l935 l936 l937 l928 l929)))
            (br (!(decide ((IntKind.wrap .i64 i934) = i924)))
             (k0 false)
             (br (inB i923 (List.length l929))
              (br (decide ((Int.toNat i923) < (List.length l929)))
               (br (inB i924 (List.length l929))
                (br (decide ((Int.toNat i924) < (List.length l929)))
                 (nx (.v0 l921 (IntKind.wrap .i64 (i922 + (1 : Int))) l935 l936 l937 l928 (List.set l929 (Int.toNat i924) (List.getD l929 (Int.toNat i923) (0 : Int)))))
                 (none))
                (none))
               (none))
              (none)))))
          (none))
         (none)))
       (br (decide ((band .u8 (List.getD l921 (Int.toNat i922) (0 : Int)) (3 : Int)) = (2 : Int)))
        (c2 (IntKind.wrap .u16 i923) l925 l926 l927
         (fun i938 l939 l940 l941 => br (inB i923 (List.length l929))
          (br (decide ((Int.toNat i923) < (List.length l929)))
           (br (!((decide (i938 = (0 : Int))) == (decide ((0 : Int) ≤ (List.getD l929 (Int.toNat i923) (0 : Int))))))
            (k0 false)
            (br (inB i923 (List.length l929))
             (br (decide ((Int.toNat i923) < (List.length l929)))
              (nx (.v0 l921 (IntKind.wrap .i64 (i922 + (1 : Int))) l939 l940 l941 l928 (List.set l929 (Int.toNat i923) (-1 : Int))))
              (none))
             (none)))
           (none))
          (none)))
        (c1 (IntKind.wrap .u16 i923) (1 : Int) l925 l926 l927
         (fun i942 l943 l944 l945 l946 => br (inB i923 (List.length l929))
          (br (decide ((Int.toNat i923) < (List.length l929)))
           (br (decide ((List.getD l929 (Int.toNat i923) (0 : Int)) < (0 : Int)))
            (br (!(decide (i942 = (65289 : Int))))
             (k0 false)
             (nx (.v0 l921 (IntKind.wrap .i64 (i922 + (1 : Int))) l943 l944 l945 l928 l929)))
            (wj0
             (fun l947 b948 i949 l950 l951 l952 l953 l954 => k0 b948)
             (fun l955 i956 l957 l958 l959 l960 l961 => nx (.v0 l955 (IntKind.wrap .i64 (i956 + (1 : Int))) l957 l958 l959 l960 l961))
             (fun l962 b963 i964 l965 i966 l967 l968 l969 l970 l971 => k0 b963)
             (fun l972 i973 l974 i975 l976 l977 l978 l979 l980 => nx (.v1 l972 (IntKind.wrap .i64 (i973 + (1 : Int))) l974 i975 l976 l977 l978 l979 l980))
             N (.v0 l921 i922 i923 i942 l943 l944 l945 l928 l929 l946)))
           (none))
          (none))))))
     (none))
    (fun l981 i982 i983 i984 l985 i986 l987 l988 l989 l990 l991 => br (inB i982 (List.length l981))
     (br (decide ((band .u8 (List.getD l981 (Int.toNat i982) (0 : Int)) (3 : Int)) = (0 : Int)))
      (c6 (bs [97]) l985 i986 l987 l988 l989
       (fun i992 l993 i994 l995 l996 l997 => br (decide (i984 < (0 : Int)))
        (br (!(!(decide (i992 = (65304 : Int)))))
         (br (decide ((0 : Int) ≤ i984))
          (br (!(decide ((IntKind.wrap .i64 i992) = i984)))
           (k0 false)
           (br (decide ((0 : Int) ≤ i984))
            (br (((fits (0 : Nat) (List.length l990) l990) && (decide ((((List.length l990) + (1 : Nat)) * (8 : Nat)) ≤ (70368744177664 : Nat)))) && true)
             (br (inB i984 (List.length l991))
              (br (decide ((Int.toNat i984) < (List.length l991)))
               (nx (.v1 l981 (IntKind.wrap .i64 (i982 + (1 : Int))) l993 i994 l995 l996 l997 ((sub l990 (0 : Nat) (List.length l990)) ++ ((0 : Int) :: ([] : List ((Sh.int IntKind.i64).T)))) (List.set l991 (Int.toNat i984) (IntKind.wrap .i64 ((Nat.cast ((List.length l990) + (1 : Nat)) : Int) - (1 : Int))))))
               (none))
              (none))
             (none))
            (nx (.v1 l981 (IntKind.wrap .i64 (i982 + (1 : Int))) l993 i994 l995 l996 l997 l990 l991))))
          (br (decide ((0 : Int) ≤ i984))
           (br (((fits (0 : Nat) (List.length l990) l990) && (decide ((((List.length l990) + (1 : Nat)) * (8 : Nat)) ≤ (70368744177664 : Nat)))) && true)
            (br (inB i984 (List.length l991))
             (br (decide ((Int.toNat i984) < (List.length l991)))
              (nx (.v1 l981 (IntKind.wrap .i64 (i982 + (1 : Int))) l993 i994 l995 l996 l997 ((sub l990 (0 : Nat) (List.length l990)) ++ ((0 : Int) :: ([] : List ((Sh.int IntKind.i64).T)))) (List.set l991 (Int.toNat i984) (IntKind.wrap .i64 ((Nat.cast ((List.length l990) + (1 : Nat)) : Int) - (1 : Int))))))
              (none))
             (none))
            (none))
           (nx (.v1 l981 (IntKind.wrap .i64 (i982 + (1 : Int))) l993 i994 l995 l996 l997 l990 l991))))
         (k0 false))
        (br (decide ((0 : Int) ≤ i984))
         (br (!(decide ((IntKind.wrap .i64 i992) = i984)))
          (k0 false)
          (br (decide ((0 : Int) ≤ i984))
           (br (((fits (0 : Nat) (List.length l990) l990) && (decide ((((List.length l990) + (1 : Nat)) * (8 : Nat)) ≤ (70368744177664 : Nat)))) && true)
            (br (inB i984 (List.length l991))
             (br (decide ((Int.toNat i984) < (List.length l991)))
              (nx (.v1 l981 (IntKind.wrap .i64 (i982 + (1 : Int))) l993 i994 l995 l996 l997 ((sub l990 (0 : Nat) (List.length l990)) ++ ((0 : Int) :: ([] : List ((Sh.int IntKind.i64).T)))) (List.set l991 (Int.toNat i984) (IntKind.wrap .i64 ((Nat.cast ((List.length l990) + (1 : Nat)) : Int) - (1 : Int))))))
              (none))
             (none))
            (none))
           (nx (.v1 l981 (IntKind.wrap .i64 (i982 + (1 : Int))) l993 i994 l995 l996 l997 l990 l991))))
         (br (decide ((0 : Int) ≤ i984))
          (br (((fits (0 : Nat) (List.length l990) l990) && (decide ((((List.length l990) + (1 : Nat)) * (8 : Nat)) ≤ (70368744177664 : Nat)))) && true)
           (br (inB i984 (List.length l991))
            (br (decide ((Int.toNat i984) < (List.length l991)))
             (nx (.v1 l981 (IntKind.wrap .i64 (i982 + (1 : Int))) l993 i994 l995 l996 l997 ((sub l990 (0 : Nat) (List.length l990)) ++ ((0 : Int) :: ([] : List ((Sh.int IntKind.i64).T)))) (List.set l991 (Int.toNat i984) (IntKind.wrap .i64 ((Nat.cast ((List.length l990) + (1 : Nat)) : Int) - (1 : Int))))))
             (none))
            (none))
           (none))
          (nx (.v1 l981 (IntKind.wrap .i64 (i982 + (1 : Int))) l993 i994 l995 l996 l997 l990 l991))))))
      (br (decide ((band .u8 (List.getD l981 (Int.toNat i982) (0 : Int)) (3 : Int)) = (1 : Int)))
       (c5 (IntKind.wrap .u16 i983) l985 i986 l987 l988 l989
        (fun i998 l999 i1000 l1001 l1002 l1003 => br (inB i983 (List.length l991))
         (br (decide ((Int.toNat i983) < (List.length l991)))
          (br (decide ((List.getD l991 (Int.toNat i983) (0 : Int)) < (0 : Int)))
           (br (!(decide (i998 = (65289 : Int))))
            (k0 false)
            (nx (.v1 l981 (IntKind.wrap .i64 (i982 + (1 : Int))) l999 i1000 l1001 l1002 l1003 l990 l991)))
           (br (decide (i984 < (0 : Int)))
            (br (!(decide (i998 = (65304 : Int))))
             (k0 false)
             (nx (.v1 l981 (IntKind.wrap .i64 (i982 + (1 : Int))) l999 i1000 l1001 l1002 l1003 l990 l991)))
            (br (!(decide ((IntKind.wrap .i64 i998) = i984)))
             (k0 false)
             (br (inB i983 (List.length l991))
              (br (decide ((Int.toNat i983) < (List.length l991)))
               (br (inB i984 (List.length l991))
                (br (decide ((Int.toNat i984) < (List.length l991)))
                 (nx (.v1 l981 (IntKind.wrap .i64 (i982 + (1 : Int))) l999 i1000 l1001 l1002 l1003 l990 (List.set l991 (Int.toNat i984) (List.getD l991 (Int.toNat i983) (0 : Int)))))
                 (none))
                (none))
               (none))
              (none)))))
          (none))
         (none)))
       (br (decide ((band .u8 (List.getD l981 (Int.toNat i982) (0 : Int)) (3 : Int)) = (2 : Int)))
        (c3 (IntKind.wrap .u16 i983) l985 i986 l987 l988 l989
         (fun i1004 l1005 i1006 l1007 l1008 l1009 => br (inB i983 (List.length l991))
          (br (decide ((Int.toNat i983) < (List.length l991)))
           (br (!((decide (i1004 = (0 : Int))) == (decide ((0 : Int) ≤ (List.getD l991 (Int.toNat i983) (0 : Int))))))
            (k0 false)
            (br (inB i983 (List.length l991))
             (br (decide ((Int.toNat i983) < (List.length l991)))
              (nx (.v1 l981 (IntKind.wrap .i64 (i982 + (1 : Int))) l1005 i1006 l1007 l1008 l1009 l990 (List.set l991 (Int.toNat i983) (-1 : Int))))
              (none))
             (none)))
           (none))
          (none)))
        (c0 (IntKind.wrap .u16 i983) (1 : Int) l985 i986 l987 l988 l989
         (fun i1010 l1011 i1012 l1013 l1014 l1015 l1016 => br (inB i983 (List.length l991))
          (br (decide ((Int.toNat i983) < (List.length l991)))
           (br (decide ((List.getD l991 (Int.toNat i983) (0 : Int)) < (0 : Int)))
            (br (!(decide (i1010 = (65289 : Int))))
             (k0 false)
             (nx (.v1 l981 (IntKind.wrap .i64 (i982 + (1 : Int))) l1011 i1012 l1013 l1014 l1015 l990 l991)))
            (wj0
             (fun l1017 b1018 i1019 l1020 l1021 l1022 l1023 l1024 => k0 b1018)
             (fun l1025 i1026 l1027 l1028 l1029 l1030 l1031 => nx (.v0 l1025 (IntKind.wrap .i64 (i1026 + (1 : Int))) l1027 l1028 l1029 l1030 l1031))
             (fun l1032 b1033 i1034 l1035 i1036 l1037 l1038 l1039 l1040 l1041 => k0 b1033)
             (fun l1042 i1043 l1044 i1045 l1046 l1047 l1048 l1049 l1050 => nx (.v1 l1042 (IntKind.wrap .i64 (i1043 + (1 : Int))) l1044 i1045 l1046 l1047 l1048 l1049 l1050))
             N (.v1 l981 i982 i983 i1010 l1011 i1012 l1013 l1014 l1015 l990 l991 l1016)))
           (none))
          (none))))))
     (none))
    N (.v1 x0 x1 (Int.tmod (IntKind.wrap .i64 (shrI .u8 (List.getD x0 (Int.toNat x1) (0 : Int)) (2 : Int))) (4 : Int)) (-1 : Int) (3 : Int) x2 x3 x4 x5 x6 x7 x8))
   (none))
  (k1)
noncomputable def law14_FilesFds_l1_T0 (N : Nat) (c0 : files_Files_Read_0442_Ty) (c1 : files_Files_Read_4680_Ty) (c2 : files_Files_Close_c411_Ty) (c3 : files_Files_Close_b447_Ty) (c4 : files_Files_Twin_c411_Ty) (c5 : files_Files_Twin_b447_Ty) (c6 : files_Files_Open_f601_Ty) (c7 : files_Files_Open_9fbb_Ty) (c8 : files_New_38f2_Ty) (c9 : files_New_bfc2_Ty) (c10 : law14_awake_Ty) (wj0 : law14_FilesFds_lj0_Ty) {R : Type} (nx : law14_FilesFds_S1 → Option R) (k0 : (List (Int)) → (Int) → (Int) → (Int) → (List (Int)) → (List ((Int) × (List (Int)))) → (List ((Int) × (Int))) → (List (Int)) → (List (Int)) → Option R) (k1 : (List (Int)) → (Int) → (Int) → (Int) → (List (Int)) → (Int) → (List (((ByteArray) × (ByteArray)) × ((Int) × (Bool)))) → (List ((Int) × (List (Int)))) → (List ((Int) × (Int))) → (List (Int)) → (List (Int)) → Option R) (x0 : List (Int)) (x1 : Int) (x2 : Int) (x3 : Int) (x4 : Int) (x5 : List (Int)) (x6 : List ((Int) × (List (Int)))) (x7 : List ((Int) × (Int))) (x8 : List (Int)) (x9 : List (Int)) : Option R :=
  br (decide ((0 : Int) ≤ x4))
  (br (inB x4 (List.length x9))
   (br (decide ((Int.toNat x4) < (List.length x9)))
    (br (decide ((List.getD x9 (Int.toNat x4) (0 : Int)) < (0 : Int)))
     (nx (.v0 x0 x1 x2 x4 (IntKind.wrap .i64 (x4 - (1 : Int))) x5 x6 x7 x8 x9))
     (nx (.v0 x0 x1 x2 x3 (IntKind.wrap .i64 (x4 - (1 : Int))) x5 x6 x7 x8 x9)))
    (none))
   (none))
  (k0 x0 x1 x2 x3 x5 x6 x7 x8 x9)
noncomputable def law14_FilesFds_l1_T1 (N : Nat) (c0 : files_Files_Read_0442_Ty) (c1 : files_Files_Read_4680_Ty) (c2 : files_Files_Close_c411_Ty) (c3 : files_Files_Close_b447_Ty) (c4 : files_Files_Twin_c411_Ty) (c5 : files_Files_Twin_b447_Ty) (c6 : files_Files_Open_f601_Ty) (c7 : files_Files_Open_9fbb_Ty) (c8 : files_New_38f2_Ty) (c9 : files_New_bfc2_Ty) (c10 : law14_awake_Ty) (wj0 : law14_FilesFds_lj0_Ty) {R : Type} (nx : law14_FilesFds_S1 → Option R) (k0 : (List (Int)) → (Int) → (Int) → (Int) → (List (Int)) → (List ((Int) × (List (Int)))) → (List ((Int) × (Int))) → (List (Int)) → (List (Int)) → Option R) (k1 : (List (Int)) → (Int) → (Int) → (Int) → (List (Int)) → (Int) → (List (((ByteArray) × (ByteArray)) × ((Int) × (Bool)))) → (List ((Int) × (List (Int)))) → (List ((Int) × (Int))) → (List (Int)) → (List (Int)) → Option R) (x0 : List (Int)) (x1 : Int) (x2 : Int) (x3 : Int) (x4 : Int) (x5 : List (Int)) (x6 : Int) (x7 : List (((ByteArray) × (ByteArray)) × ((Int) × (Bool)))) (x8 : List ((Int) × (List (Int)))) (x9 : List ((Int) × (Int))) (x10 : List (Int)) (x11 : List (Int)) : Option R :=
  br (decide ((0 : Int) ≤ x4))
  (br (inB x4 (List.length x11))
   (br (decide ((Int.toNat x4) < (List.length x11)))
    (br (decide ((List.getD x11 (Int.toNat x4) (0 : Int)) < (0 : Int)))
     (nx (.v1 x0 x1 x2 x4 (IntKind.wrap .i64 (x4 - (1 : Int))) x5 x6 x7 x8 x9 x10 x11))
     (nx (.v1 x0 x1 x2 x3 (IntKind.wrap .i64 (x4 - (1 : Int))) x5 x6 x7 x8 x9 x10 x11)))
    (none))
   (none))
  (k1 x0 x1 x2 x3 x5 x6 x7 x8 x9 x10 x11)
noncomputable def law14_FilesFds_lj0_T0 (N : Nat) (c0 : files_Files_Read_0442_Ty) (c1 : files_Files_Read_4680_Ty) (c2 : files_Files_Close_c411_Ty) (c3 : files_Files_Close_b447_Ty) (c4 : files_Files_Twin_c411_Ty) (c5 : files_Files_Twin_b447_Ty) (c6 : files_Files_Open_f601_Ty) (c7 : files_Files_Open_9fbb_Ty) (c8 : files_New_38f2_Ty) (c9 : files_New_bfc2_Ty) (c10 : law14_awake_Ty) {R : Type} (k0 : (List (Int)) → (Bool) → (Int) → (List (Int)) → (List ((Int) × (List (Int)))) → (List ((Int) × (Int))) → (List (Int)) → (List (Int)) → Option R) (k1 : (List (Int)) → (Int) → (List (Int)) → (List ((Int) × (List (Int)))) → (List ((Int) × (Int))) → (List (Int)) → (List (Int)) → Option R) (k2 : (List (Int)) → (Bool) → (Int) → (List (Int)) → (Int) → (List (((ByteArray) × (ByteArray)) × ((Int) × (Bool)))) → (List ((Int) × (List (Int)))) → (List ((Int) × (Int))) → (List (Int)) → (List (Int)) → Option R) (k3 : (List (Int)) → (Int) → (List (Int)) → (Int) → (List (((ByteArray) × (ByteArray)) × ((Int) × (Bool)))) → (List ((Int) × (List (Int)))) → (List ((Int) × (Int))) → (List (Int)) → (List (Int)) → Option R) (x0 : List (Int)) (x1 : Int) (x2 : Int) (x3 : Int) (x4 : List (Int)) (x5 : List ((Int) × (List (Int)))) (x6 : List ((Int) × (Int))) (x7 : List (Int)) (x8 : List (Int)) (x9 : List (Int)) : Option R :=
  br (inB x2 (List.length x8))
  (br (decide ((Int.toNat x2) < (List.length x8)))
   (br (inB (List.getD x8 (Int.toNat x2) (0 : Int)) (List.length x7))
    (br (decide ((Int.toNat (List.getD x8 (Int.toNat x2) (0 : Int))) < (List.length x7)))
     (br (decide ((List.getD x7 (Int.toNat (List.getD x8 (Int.toNat x2) (0 : Int))) (0 : Int)) < (8 : Int)))
      (br (!(!(decide (x3 = (1 : Int)))))
       (br (inB (0 : Int) (List.length x9))
        (br (decide ((0 : Nat) < (List.length x9)))
         (br (!(!(decide ((IntKind.wrap .i64 (List.getD x9 (0 : Nat) (0 : Int))) = (List.getD x7 (Int.toNat (List.getD x8 (Int.toNat x2) (0 : Int))) (0 : Int))))))
          (br (decide ((8 : Int) ≤ (List.getD x7 (Int.toNat (List.getD x8 (Int.toNat x2) (0 : Int))) (0 : Int))))
           (br (!(decide (x3 = (0 : Int))))
            (k0 x0 false x1 x4 x5 x6 x7 x8)
            (br (inB x2 (List.length x8))
             (br (decide ((Int.toNat x2) < (List.length x8)))
              (br (inB (List.getD x8 (Int.toNat x2) (0 : Int)) (List.length x7))
               (br (decide ((Int.toNat (List.getD x8 (Int.toNat x2) (0 : Int))) < (List.length x7)))
                (k1 x0 x1 x4 x5 x6 (List.set x7 (Int.toNat (List.getD x8 (Int.toNat x2) (0 : Int))) (if ((8 : Int) < (IntKind.wrap .i64 ((List.getD x7 (Int.toNat (List.getD x8 (Int.toNat x2) (0 : Int))) (0 : Int)) + (1 : Int)))) then (8 : Int) else (IntKind.wrap .i64 ((List.getD x7 (Int.toNat (List.getD x8 (Int.toNat x2) (0 : Int))) (0 : Int)) + (1 : Int))))) x8)
                (none))
               (none))
              (none))
             (none)))
           (br (inB x2 (List.length x8))
            (br (decide ((Int.toNat x2) < (List.length x8)))
             (br (inB (List.getD x8 (Int.toNat x2) (0 : Int)) (List.length x7))
              (br (decide ((Int.toNat (List.getD x8 (Int.toNat x2) (0 : Int))) < (List.length x7)))
               (k1 x0 x1 x4 x5 x6 (List.set x7 (Int.toNat (List.getD x8 (Int.toNat x2) (0 : Int))) (if ((8 : Int) < (IntKind.wrap .i64 ((List.getD x7 (Int.toNat (List.getD x8 (Int.toNat x2) (0 : Int))) (0 : Int)) + (1 : Int)))) then (8 : Int) else (IntKind.wrap .i64 ((List.getD x7 (Int.toNat (List.getD x8 (Int.toNat x2) (0 : Int))) (0 : Int)) + (1 : Int))))) x8)
               (none))
              (none))
             (none))
            (none)))
          (k0 x0 false x1 x4 x5 x6 x7 x8))
         (none))
        (none))
       (k0 x0 false x1 x4 x5 x6 x7 x8))
      (br (decide ((8 : Int) ≤ (List.getD x7 (Int.toNat (List.getD x8 (Int.toNat x2) (0 : Int))) (0 : Int))))
       (br (!(decide (x3 = (0 : Int))))
        (k0 x0 false x1 x4 x5 x6 x7 x8)
        (br (inB x2 (List.length x8))
         (br (decide ((Int.toNat x2) < (List.length x8)))
          (br (inB (List.getD x8 (Int.toNat x2) (0 : Int)) (List.length x7))
           (br (decide ((Int.toNat (List.getD x8 (Int.toNat x2) (0 : Int))) < (List.length x7)))
            (k1 x0 x1 x4 x5 x6 (List.set x7 (Int.toNat (List.getD x8 (Int.toNat x2) (0 : Int))) (if ((8 : Int) < (IntKind.wrap .i64 ((List.getD x7 (Int.toNat (List.getD x8 (Int.toNat x2) (0 : Int))) (0 : Int)) + (1 : Int)))) then (8 : Int) else (IntKind.wrap .i64 ((List.getD x7 (Int.toNat (List.getD x8 (Int.toNat x2) (0 : Int))) (0 : Int)) + (1 : Int))))) x8)
            (none))
           (none))
          (none))
         (none)))
       (br (inB x2 (List.length x8))
        (br (decide ((Int.toNat x2) < (List.length x8)))
         (br (inB (List.getD x8 (Int.toNat x2) (0 : Int)) (List.length x7))
          (br (decide ((Int.toNat (List.getD x8 (Int.toNat x2) (0 : Int))) < (List.length x7)))
           (k1 x0 x1 x4 x5 x6 (List.set x7 (Int.toNat (List.getD x8 (Int.toNat x2) (0 : Int))) (if ((8 : Int) < (IntKind.wrap .i64 ((List.getD x7 (Int.toNat (List.getD x8 (Int.toNat x2) (0 : Int))) (0 : Int)) + (1 : Int)))) then (8 : Int) else (IntKind.wrap .i64 ((List.getD x7 (Int.toNat (List.getD x8 (Int.toNat x2) (0 : Int))) (0 : Int)) + (1 : Int))))) x8)
           (none))
          (none))
         (none))
        (none))))
     (none))
    (none))
   (none))
  (none)
noncomputable def law14_FilesFds_lj0_T1 (N : Nat) (c0 : files_Files_Read_0442_Ty) (c1 : files_Files_Read_4680_Ty) (c2 : files_Files_Close_c411_Ty) (c3 : files_Files_Close_b447_Ty) (c4 : files_Files_Twin_c411_Ty) (c5 : files_Files_Twin_b447_Ty) (c6 : files_Files_Open_f601_Ty) (c7 : files_Files_Open_9fbb_Ty) (c8 : files_New_38f2_Ty) (c9 : files_New_bfc2_Ty) (c10 : law14_awake_Ty) {R : Type} (k0 : (List (Int)) → (Bool) → (Int) → (List (Int)) → (List ((Int) × (List (Int)))) → (List ((Int) × (Int))) → (List (Int)) → (List (Int)) → Option R) (k1 : (List (Int)) → (Int) → (List (Int)) → (List ((Int) × (List (Int)))) → (List ((Int) × (Int))) → (List (Int)) → (List (Int)) → Option R) (k2 : (List (Int)) → (Bool) → (Int) → (List (Int)) → (Int) → (List (((ByteArray) × (ByteArray)) × ((Int) × (Bool)))) → (List ((Int) × (List (Int)))) → (List ((Int) × (Int))) → (List (Int)) → (List (Int)) → Option R) (k3 : (List (Int)) → (Int) → (List (Int)) → (Int) → (List (((ByteArray) × (ByteArray)) × ((Int) × (Bool)))) → (List ((Int) × (List (Int)))) → (List ((Int) × (Int))) → (List (Int)) → (List (Int)) → Option R) (x0 : List (Int)) (x1 : Int) (x2 : Int) (x3 : Int) (x4 : List (Int)) (x5 : Int) (x6 : List (((ByteArray) × (ByteArray)) × ((Int) × (Bool)))) (x7 : List ((Int) × (List (Int)))) (x8 : List ((Int) × (Int))) (x9 : List (Int)) (x10 : List (Int)) (x11 : List (Int)) : Option R :=
  br (inB x2 (List.length x10))
  (br (decide ((Int.toNat x2) < (List.length x10)))
   (br (inB (List.getD x10 (Int.toNat x2) (0 : Int)) (List.length x9))
    (br (decide ((Int.toNat (List.getD x10 (Int.toNat x2) (0 : Int))) < (List.length x9)))
     (br (decide ((List.getD x9 (Int.toNat (List.getD x10 (Int.toNat x2) (0 : Int))) (0 : Int)) < (8 : Int)))
      (br (!(!(decide (x3 = (1 : Int)))))
       (br (inB (0 : Int) (List.length x11))
        (br (decide ((0 : Nat) < (List.length x11)))
         (br (!(!(decide ((IntKind.wrap .i64 (List.getD x11 (0 : Nat) (0 : Int))) = (List.getD x9 (Int.toNat (List.getD x10 (Int.toNat x2) (0 : Int))) (0 : Int))))))
          (br (decide ((8 : Int) ≤ (List.getD x9 (Int.toNat (List.getD x10 (Int.toNat x2) (0 : Int))) (0 : Int))))
           (br (!(decide (x3 = (0 : Int))))
            (k2 x0 false x1 x4 x5 x6 x7 x8 x9 x10)
            (br (inB x2 (List.length x10))
             (br (decide ((Int.toNat x2) < (List.length x10)))
              (br (inB (List.getD x10 (Int.toNat x2) (0 : Int)) (List.length x9))
               (br (decide ((Int.toNat (List.getD x10 (Int.toNat x2) (0 : Int))) < (List.length x9)))
                (k3 x0 x1 x4 x5 x6 x7 x8 (List.set x9 (Int.toNat (List.getD x10 (Int.toNat x2) (0 : Int))) (if ((8 : Int) < (IntKind.wrap .i64 ((List.getD x9 (Int.toNat (List.getD x10 (Int.toNat x2) (0 : Int))) (0 : Int)) + (1 : Int)))) then (8 : Int) else (IntKind.wrap .i64 ((List.getD x9 (Int.toNat (List.getD x10 (Int.toNat x2) (0 : Int))) (0 : Int)) + (1 : Int))))) x10)
                (none))
               (none))
              (none))
             (none)))
           (br (inB x2 (List.length x10))
            (br (decide ((Int.toNat x2) < (List.length x10)))
             (br (inB (List.getD x10 (Int.toNat x2) (0 : Int)) (List.length x9))
              (br (decide ((Int.toNat (List.getD x10 (Int.toNat x2) (0 : Int))) < (List.length x9)))
               (k3 x0 x1 x4 x5 x6 x7 x8 (List.set x9 (Int.toNat (List.getD x10 (Int.toNat x2) (0 : Int))) (if ((8 : Int) < (IntKind.wrap .i64 ((List.getD x9 (Int.toNat (List.getD x10 (Int.toNat x2) (0 : Int))) (0 : Int)) + (1 : Int)))) then (8 : Int) else (IntKind.wrap .i64 ((List.getD x9 (Int.toNat (List.getD x10 (Int.toNat x2) (0 : Int))) (0 : Int)) + (1 : Int))))) x10)
               (none))
              (none))
             (none))
            (none)))
          (k2 x0 false x1 x4 x5 x6 x7 x8 x9 x10))
         (none))
        (none))
       (k2 x0 false x1 x4 x5 x6 x7 x8 x9 x10))
      (br (decide ((8 : Int) ≤ (List.getD x9 (Int.toNat (List.getD x10 (Int.toNat x2) (0 : Int))) (0 : Int))))
       (br (!(decide (x3 = (0 : Int))))
        (k2 x0 false x1 x4 x5 x6 x7 x8 x9 x10)
        (br (inB x2 (List.length x10))
         (br (decide ((Int.toNat x2) < (List.length x10)))
          (br (inB (List.getD x10 (Int.toNat x2) (0 : Int)) (List.length x9))
           (br (decide ((Int.toNat (List.getD x10 (Int.toNat x2) (0 : Int))) < (List.length x9)))
            (k3 x0 x1 x4 x5 x6 x7 x8 (List.set x9 (Int.toNat (List.getD x10 (Int.toNat x2) (0 : Int))) (if ((8 : Int) < (IntKind.wrap .i64 ((List.getD x9 (Int.toNat (List.getD x10 (Int.toNat x2) (0 : Int))) (0 : Int)) + (1 : Int)))) then (8 : Int) else (IntKind.wrap .i64 ((List.getD x9 (Int.toNat (List.getD x10 (Int.toNat x2) (0 : Int))) (0 : Int)) + (1 : Int))))) x10)
            (none))
           (none))
          (none))
         (none)))
       (br (inB x2 (List.length x10))
        (br (decide ((Int.toNat x2) < (List.length x10)))
         (br (inB (List.getD x10 (Int.toNat x2) (0 : Int)) (List.length x9))
          (br (decide ((Int.toNat (List.getD x10 (Int.toNat x2) (0 : Int))) < (List.length x9)))
           (k3 x0 x1 x4 x5 x6 x7 x8 (List.set x9 (Int.toNat (List.getD x10 (Int.toNat x2) (0 : Int))) (if ((8 : Int) < (IntKind.wrap .i64 ((List.getD x9 (Int.toNat (List.getD x10 (Int.toNat x2) (0 : Int))) (0 : Int)) + (1 : Int)))) then (8 : Int) else (IntKind.wrap .i64 ((List.getD x9 (Int.toNat (List.getD x10 (Int.toNat x2) (0 : Int))) (0 : Int)) + (1 : Int))))) x10)
           (none))
          (none))
         (none))
        (none))))
     (none))
    (none))
   (none))
  (none)
noncomputable def law14_FilesFds_lj0 (N : Nat) {R : Type} (k0 : (List (Int)) → (Bool) → (Int) → (List (Int)) → (List ((Int) × (List (Int)))) → (List ((Int) × (Int))) → (List (Int)) → (List (Int)) → Option R) (k1 : (List (Int)) → (Int) → (List (Int)) → (List ((Int) × (List (Int)))) → (List ((Int) × (Int))) → (List (Int)) → (List (Int)) → Option R) (k2 : (List (Int)) → (Bool) → (Int) → (List (Int)) → (Int) → (List (((ByteArray) × (ByteArray)) × ((Int) × (Bool)))) → (List ((Int) × (List (Int)))) → (List ((Int) × (Int))) → (List (Int)) → (List (Int)) → Option R) (k3 : (List (Int)) → (Int) → (List (Int)) → (Int) → (List (((ByteArray) × (ByteArray)) × ((Int) × (Bool)))) → (List ((Int) × (List (Int)))) → (List ((Int) × (Int))) → (List (Int)) → (List (Int)) → Option R) (_ : Nat) : law14_FilesFds_Sj0 → Option R
  | .v0 x0 x1 x2 x3 x4 x5 x6 x7 x8 x9 => law14_FilesFds_lj0_T0 N (@files_Files_Read_0442 N) (@files_Files_Read_4680 N) (@files_Files_Close_c411 N) (@files_Files_Close_b447 N) (@files_Files_Twin_c411 N) (@files_Files_Twin_b447 N) (@files_Files_Open_f601 N) (@files_Files_Open_9fbb N) (@files_New_38f2 N) (@files_New_bfc2 N) (@law14_awake N) k0 k1 k2 k3 x0 x1 x2 x3 x4 x5 x6 x7 x8 x9
  | .v1 x0 x1 x2 x3 x4 x5 x6 x7 x8 x9 x10 x11 => law14_FilesFds_lj0_T1 N (@files_Files_Read_0442 N) (@files_Files_Read_4680 N) (@files_Files_Close_c411 N) (@files_Files_Close_b447 N) (@files_Files_Twin_c411 N) (@files_Files_Twin_b447 N) (@files_Files_Open_f601 N) (@files_Files_Open_9fbb N) (@files_New_38f2 N) (@files_New_bfc2 N) (@law14_awake N) k0 k1 k2 k3 x0 x1 x2 x3 x4 x5 x6 x7 x8 x9 x10 x11
noncomputable def law14_FilesFds_l1 (N : Nat) {R : Type} (k0 : (List (Int)) → (Int) → (Int) → (Int) → (List (Int)) → (List ((Int) × (List (Int)))) → (List ((Int) × (Int))) → (List (Int)) → (List (Int)) → Option R) (k1 : (List (Int)) → (Int) → (Int) → (Int) → (List (Int)) → (Int) → (List (((ByteArray) × (ByteArray)) × ((Int) × (Bool)))) → (List ((Int) × (List (Int)))) → (List ((Int) × (Int))) → (List (Int)) → (List (Int)) → Option R) : Nat → law14_FilesFds_S1 → Option R
  | 0, _ => none
  | n + 1, .v0 x0 x1 x2 x3 x4 x5 x6 x7 x8 x9 => law14_FilesFds_l1_T0 N (@files_Files_Read_0442 N) (@files_Files_Read_4680 N) (@files_Files_Close_c411 N) (@files_Files_Close_b447 N) (@files_Files_Twin_c411 N) (@files_Files_Twin_b447 N) (@files_Files_Open_f601 N) (@files_Files_Open_9fbb N) (@files_New_38f2 N) (@files_New_bfc2 N) (@law14_awake N) (@law14_FilesFds_lj0 N) (fun s => law14_FilesFds_l1 N k0 k1 n s) k0 k1 x0 x1 x2 x3 x4 x5 x6 x7 x8 x9
  | n + 1, .v1 x0 x1 x2 x3 x4 x5 x6 x7 x8 x9 x10 x11 => law14_FilesFds_l1_T1 N (@files_Files_Read_0442 N) (@files_Files_Read_4680 N) (@files_Files_Close_c411 N) (@files_Files_Close_b447 N) (@files_Files_Twin_c411 N) (@files_Files_Twin_b447 N) (@files_Files_Open_f601 N) (@files_Files_Open_9fbb N) (@files_New_38f2 N) (@files_New_bfc2 N) (@law14_awake N) (@law14_FilesFds_lj0 N) (fun s => law14_FilesFds_l1 N k0 k1 n s) k0 k1 x0 x1 x2 x3 x4 x5 x6 x7 x8 x9 x10 x11
noncomputable def law14_FilesFds_l0 (N : Nat) {R : Type} (k0 : (Bool) → Option R) (k1 : Option R) : Nat → law14_FilesFds_S0 → Option R
  | 0, _ => none
  | n + 1, .v0 x0 x1 x2 x3 x4 x5 x6 => law14_FilesFds_l0_T0 N (@files_Files_Read_0442 N) (@files_Files_Read_4680 N) (@files_Files_Close_c411 N) (@files_Files_Close_b447 N) (@files_Files_Twin_c411 N) (@files_Files_Twin_b447 N) (@files_Files_Open_f601 N) (@files_Files_Open_9fbb N) (@files_New_38f2 N) (@files_New_bfc2 N) (@law14_awake N) (@law14_FilesFds_l1 N) (@law14_FilesFds_lj0 N) (fun s => law14_FilesFds_l0 N k0 k1 n s) k0 k1 x0 x1 x2 x3 x4 x5 x6
  | n + 1, .v1 x0 x1 x2 x3 x4 x5 x6 x7 x8 => law14_FilesFds_l0_T1 N (@files_Files_Read_0442 N) (@files_Files_Read_4680 N) (@files_Files_Close_c411 N) (@files_Files_Close_b447 N) (@files_Files_Twin_c411 N) (@files_Files_Twin_b447 N) (@files_Files_Open_f601 N) (@files_Files_Open_9fbb N) (@files_New_38f2 N) (@files_New_bfc2 N) (@law14_awake N) (@law14_FilesFds_l1 N) (@law14_FilesFds_lj0 N) (fun s => law14_FilesFds_l0 N k0 k1 n s) k0 k1 x0 x1 x2 x3 x4 x5 x6 x7 x8
noncomputable def law14_FilesFds_T (N : Nat) (c0 : files_Files_Read_0442_Ty) (c1 : files_Files_Read_4680_Ty) (c2 : files_Files_Close_c411_Ty) (c3 : files_Files_Close_b447_Ty) (c4 : files_Files_Twin_c411_Ty) (c5 : files_Files_Twin_b447_Ty) (c6 : files_Files_Open_f601_Ty) (c7 : files_Files_Open_9fbb_Ty) (c8 : files_New_38f2_Ty) (c9 : files_New_bfc2_Ty) (c10 : law14_awake_Ty) (w0 : law14_FilesFds_l0_Ty) (w1 : law14_FilesFds_l1_Ty) (wj0 : law14_FilesFds_lj0_Ty) {R : Type} (x0 : List (Int)) (k0 : (Bool) → Option R) : Option R :=
  c10
  (fun b781 => br (!b781)
   (k0 false)
   (c9 (((bs [97]) , (false , (0 : Int))) :: ([] : List ((Sh.str.pair (Sh.bool.pair (Sh.int IntKind.i64))).T))) (((0 : Int) :: ((1 : Int) :: ((2 : Int) :: ((3 : Int) :: ((4 : Int) :: ((5 : Int) :: ((6 : Int) :: ((7 : Int) :: ([] : List ((Sh.int IntKind.u8).T)))))))))) :: ([] : List ((Sh.int IntKind.u8).isl.T)))
    (fun i782 l783 l784 => br (!(!(decide (i782 = (0 : Int)))))
     (br (decide (i782 = (0 : Int)))
      (k0 false)
      (k0 false))
     (br (decide (i782 = (0 : Int)))
      (k0 false)
      (k0 false)))
    (fun i785 l786 l787 l788 l789 l790 => br (!(!(decide (i785 = (0 : Int)))))
     (br (decide ((200 : Int) < (Nat.cast (List.length x0) : Int)))
      (br (decide (i785 = (0 : Int)))
       (k0 true)
       (k0 false))
      (w0
       (fun b1051 => k0 b1051)
       (k0 true)
       N (.v0 x0 (0 : Int) l788 l789 l790 ([] : List ((Sh.int IntKind.i64).T)) ((-1 : Int) :: ((-1 : Int) :: ((-1 : Int) :: ((-1 : Int) :: ([] : List ((Sh.int IntKind.i64).T)))))))))
     (br (decide (i785 = (0 : Int)))
      (k0 true)
      (k0 false)))
    (fun i1052 l1053 l1054 l1055 i1056 l1057 l1058 l1059 => br (!(!(decide (i1052 = (0 : Int)))))
     (br (decide ((200 : Int) < (Nat.cast (List.length x0) : Int)))
      (br (decide (i1052 = (0 : Int)))
       (k0 true)
       (k0 false))
      (w0
       (fun b1060 => k0 b1060)
       (k0 true)
       N (.v1 x0 (0 : Int) l1055 i1056 l1057 l1058 l1059 ([] : List ((Sh.int IntKind.i64).T)) ((-1 : Int) :: ((-1 : Int) :: ((-1 : Int) :: ((-1 : Int) :: ([] : List ((Sh.int IntKind.i64).T)))))))))
     (br (decide (i1052 = (0 : Int)))
      (k0 true)
      (k0 false)))))
noncomputable def law14_FilesFds (N : Nat) {R : Type} (x0 : List (Int)) (k0 : (Bool) → Option R) : Option R := law14_FilesFds_T N (@files_Files_Read_0442 N) (@files_Files_Read_4680 N) (@files_Files_Close_c411 N) (@files_Files_Close_b447 N) (@files_Files_Twin_c411 N) (@files_Files_Twin_b447 N) (@files_Files_Open_f601 N) (@files_Files_Open_9fbb N) (@files_New_38f2 N) (@files_New_bfc2 N) (@law14_awake N) (@law14_FilesFds_l0 N) (@law14_FilesFds_l1 N) (@law14_FilesFds_lj0 N) x0 k0
end Go.Proofs.Ytfeacgamgdpojaa
