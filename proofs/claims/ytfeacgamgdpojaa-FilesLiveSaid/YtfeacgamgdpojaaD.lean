/-
  The functions that the statement reaches, each as a function of Lean (printed by a program of this work).
-/
import Derived.Test.YtfeacgamgdpojaaGx5
set_option linter.unusedVariables false
set_option maxRecDepth 100000
namespace Go.Proofs.Ytfeacgamgdpojaa
open Go.Gx
abbrev stringslite_IndexByte_Ty : Type 1 := {R : Type} → (ByteArray) → (Int) → ((Int) → Option R) → Option R
abbrev stringslite_Index_Ty : Type 1 := {R : Type} → (ByteArray) → (ByteArray) → ((Int) → Option R) → Option R
noncomputable def stringslite_Index_T (N : Nat) (c0 : stringslite_IndexByte_Ty) {R : Type} (x0 : ByteArray) (x1 : ByteArray) (k0 : (Int) → Option R) : Option R :=
  br (!(decide ((Nat.cast (ByteArray.size x1) : Int) = (0 : Int))))
  (br (decide (x1 = x0))
   (k0 (0 : Int))
   (br (decide ((Nat.cast (ByteArray.size x1) : Int) = (1 : Int)))
    (br (inB (0 : Int) (ByteArray.size x1))
     (c0 x0 (bt x1 (0 : Int))
      (fun i17 => k0 i17))
     (none))
    (br (decide ((Nat.cast (ByteArray.size x0) : Int) ≤ (Nat.cast (ByteArray.size x1) : Int)))
     (k0 (-1 : Int))
     (none))))
  (k0 (0 : Int))
noncomputable def stringslite_Index (N : Nat) {R : Type} (x0 : ByteArray) (x1 : ByteArray) (k0 : (Int) → Option R) : Option R := stringslite_Index_T N @stringslite_IndexByte x0 x1 k0
abbrev stringslite_Cut_Ty : Type 1 := {R : Type} → (ByteArray) → (ByteArray) → ((ByteArray) → (ByteArray) → (Bool) → Option R) → Option R
noncomputable def stringslite_Cut_T (N : Nat) (c0 : stringslite_Index_Ty) {R : Type} (x0 : ByteArray) (x1 : ByteArray) (k0 : (ByteArray) → (ByteArray) → (Bool) → Option R) : Option R :=
  c0 x0 x1
  (fun i18 => br (decide ((0 : Int) ≤ i18))
   (br (leB i18 (ByteArray.size x0))
    (br (leB (IntKind.wrap .i64 (i18 + (Nat.cast (ByteArray.size x1) : Int))) (ByteArray.size x0))
     (k0 (ByteArray.extract x0 (0 : Nat) (Int.toNat i18)) (ByteArray.extract x0 (Int.toNat (IntKind.wrap .i64 (i18 + (Nat.cast (ByteArray.size x1) : Int)))) (ByteArray.size x0)) true)
     (none))
    (none))
   (k0 x0 (bs []) false))
noncomputable def stringslite_Cut (N : Nat) {R : Type} (x0 : ByteArray) (x1 : ByteArray) (k0 : (ByteArray) → (ByteArray) → (Bool) → Option R) : Option R := stringslite_Cut_T N (@stringslite_Index N) x0 x1 k0
abbrev strings_Cut_Ty : Type 1 := {R : Type} → (ByteArray) → (ByteArray) → ((ByteArray) → (ByteArray) → (Bool) → Option R) → Option R
noncomputable def strings_Cut_T (N : Nat) (c0 : stringslite_Cut_Ty) {R : Type} (x0 : ByteArray) (x1 : ByteArray) (k0 : (ByteArray) → (ByteArray) → (Bool) → Option R) : Option R :=
  c0 x0 x1
  (fun s19 s20 b21 => k0 s19 s20 b21)
noncomputable def strings_Cut (N : Nat) {R : Type} (x0 : ByteArray) (x1 : ByteArray) (k0 : (ByteArray) → (ByteArray) → (Bool) → Option R) : Option R := strings_Cut_T N (@stringslite_Cut N) x0 x1 k0
abbrev check_letter_Ty : Type 1 := {R : Type} → (Int) → ((Bool) → Option R) → Option R
noncomputable def check_letter_T (N : Nat) {R : Type} (x0 : Int) (k0 : (Bool) → Option R) : Option R :=
  br (decide ((97 : Int) ≤ x0))
  (br (!(decide (x0 ≤ (122 : Int))))
   (br (decide ((48 : Int) ≤ x0))
    (br (!(decide (x0 ≤ (57 : Int))))
     (br (!(decide (x0 = (46 : Int))))
      (k0 (decide (x0 = (95 : Int))))
      (k0 true))
     (k0 true))
    (br (!(decide (x0 = (46 : Int))))
     (k0 (decide (x0 = (95 : Int))))
     (k0 true)))
   (k0 true))
  (br (decide ((48 : Int) ≤ x0))
   (br (!(decide (x0 ≤ (57 : Int))))
    (br (!(decide (x0 = (46 : Int))))
     (k0 (decide (x0 = (95 : Int))))
     (k0 true))
    (k0 true))
   (br (!(decide (x0 = (46 : Int))))
    (k0 (decide (x0 = (95 : Int))))
    (k0 true)))
noncomputable def check_letter (N : Nat) {R : Type} (x0 : Int) (k0 : (Bool) → Option R) : Option R := check_letter_T N x0 k0
abbrev check_part_l0_Ty : Type 1 := {R : Type} → ((ByteArray) → (Bool) → Option R) → ((ByteArray) → Option R) → Nat → (ByteArray) → (Int) → (Int) → Option R
abbrev check_part_Ty : Type 1 := {R : Type} → (ByteArray) → ((Bool) → Option R) → Option R
noncomputable def check_part_l0_T0 (N : Nat) (c0 : check_letter_Ty) {R : Type} (nx : (ByteArray) → (Int) → (Int) → Option R) (k0 : (ByteArray) → (Bool) → Option R) (k1 : (ByteArray) → Option R) (x0 : ByteArray) (x1 : Int) (x2 : Int) : Option R :=
  br (decide (x2 < x1))
  (br (inB x2 (ByteArray.size x0))
   (c0 (bt x0 x2)
    (fun b25 => br (!b25)
     (k0 x0 false)
     (nx x0 x1 (IntKind.wrap .i64 (x2 + (1 : Int))))))
   (none))
  (k1 x0)
noncomputable def check_part_l0 (N : Nat) {R : Type} (k0 : (ByteArray) → (Bool) → Option R) (k1 : (ByteArray) → Option R) : Nat → (ByteArray) → (Int) → (Int) → Option R
  | 0, _, _, _ => none
  | n + 1, x0, x1, x2 => check_part_l0_T0 N (@check_letter N) (fun x0 x1 x2 => check_part_l0 N k0 k1 n x0 x1 x2) k0 k1 x0 x1 x2
noncomputable def check_part_T (N : Nat) (c0 : check_letter_Ty) (w0 : check_part_l0_Ty) {R : Type} (x0 : ByteArray) (k0 : (Bool) → Option R) : Option R :=
  w0
  (fun s26 b27 => k0 b27)
  (fun s28 => br (!(decide (s28 = (bs []))))
   (br (!(decide (s28 = (bs [46]))))
    (k0 (!(decide (s28 = (bs [46, 46])))))
    (k0 false))
   (k0 false))
  N x0 (Nat.cast (ByteArray.size x0) : Int) (0 : Int)
noncomputable def check_part (N : Nat) {R : Type} (x0 : ByteArray) (k0 : (Bool) → Option R) : Option R := check_part_T N (@check_letter N) (@check_part_l0 N) x0 k0
abbrev check_Name_Ty : Type 1 := {R : Type} → (ByteArray) → ((Bool) → Option R) → Option R
noncomputable def check_Name_T (N : Nat) (c0 : check_part_Ty) (c1 : strings_Cut_Ty) {R : Type} (x0 : ByteArray) (k0 : (Bool) → Option R) : Option R :=
  br (decide ((8 : Int) < (Nat.cast (ByteArray.size x0) : Int)))
  (k0 false)
  (c1 x0 (bs [47])
   (fun s22 s23 b24 => c0 s22
    (fun b29 => br b29
     (br (!(!b24))
      (c0 s23
       (fun b30 => k0 b30))
      (k0 true))
     (k0 false))))
noncomputable def check_Name (N : Nat) {R : Type} (x0 : ByteArray) (k0 : (Bool) → Option R) : Option R := check_Name_T N (@check_part N) (@strings_Cut N) x0 k0
abbrev names_May_Ty : Type 1 := {R : Type} → (ByteArray) → ((Bool) → Option R) → Option R
noncomputable def names_May_T (N : Nat) (c0 : check_Name_Ty) {R : Type} (x0 : ByteArray) (k0 : (Bool) → Option R) : Option R :=
  c0 x0
  (fun b31 => k0 b31)
noncomputable def names_May (N : Nat) {R : Type} (x0 : ByteArray) (k0 : (Bool) → Option R) : Option R := names_May_T N (@check_Name N) x0 k0
abbrev names_Split_Ty : Type 1 := {R : Type} → (ByteArray) → ((ByteArray) → (ByteArray) → Option R) → Option R
noncomputable def names_Split_T (N : Nat) (c0 : strings_Cut_Ty) (c1 : names_May_Ty) {R : Type} (x0 : ByteArray) (k0 : (ByteArray) → (ByteArray) → Option R) : Option R :=
  c1 x0
  (fun b32 => br (!b32)
   (k0 (bs []) (bs []))
   (c0 x0 (bs [47])
    (fun s33 s34 b35 => br (!b35)
     (k0 (bs []) s33)
     (k0 s33 s34))))
noncomputable def names_Split (N : Nat) {R : Type} (x0 : ByteArray) (k0 : (ByteArray) → (ByteArray) → Option R) : Option R := names_Split_T N (@strings_Cut N) (@names_May N) x0 k0
abbrev tree_of_Ty : Type 1 := {R : Type} → (ByteArray) → ((ByteArray) → (ByteArray) → Option R) → Option R
noncomputable def tree_of_T (N : Nat) (c0 : names_Split_Ty) {R : Type} (x0 : ByteArray) (k0 : (ByteArray) → (ByteArray) → Option R) : Option R :=
  c0 x0
  (fun s36 s37 => k0 s36 s37)
noncomputable def tree_of (N : Nat) {R : Type} (x0 : ByteArray) (k0 : (ByteArray) → (ByteArray) → Option R) : Option R := tree_of_T N (@names_Split N) x0 k0
abbrev tree_Tree_above_2de7_Ty : Type 1 := {R : Type} → (ByteArray) → (ByteArray) → (Int) → (List (((ByteArray) × (ByteArray)) × ((Int) × (Bool)))) → ((Int) → (Int) → (List (((ByteArray) × (ByteArray)) × ((Int) × (Bool)))) → Option R) → Option R
noncomputable def tree_Tree_above_2de7_T (N : Nat) {R : Type} (x0 : ByteArray) (x1 : ByteArray) (x2 : Int) (x3 : List (((ByteArray) × (ByteArray)) × ((Int) × (Bool)))) (k0 : (Int) → (Int) → (List (((ByteArray) × (ByteArray)) × ((Int) × (Bool)))) → Option R) : Option R :=
  br (decide (x1 = (bs [])))
  (k0 (65282 : Int) x2 x3)
  (br (decide (x0 = (bs [])))
   (k0 (0 : Int) x2 x3)
   (br ((Option.isSome (mfind (.pair .str .str) (.pair (.int .i64) .bool) x3 ((bs []) , x0))) == (Option.isSome (mfind (.pair .str .str) (.pair (.int .i64) .bool) x3 ((bs []) , x0))))
    (br (!(Option.isSome (mfind (.pair .str .str) (.pair (.int .i64) .bool) x3 ((bs []) , x0))))
     (k0 (65282 : Int) x2 x3)
     (br (!(Option.getD (mfind (.pair .str .str) (.pair (.int .i64) .bool) x3 ((bs []) , x0)) ((0 : Int) , false)).2)
      (k0 (65300 : Int) x2 x3)
      (k0 (0 : Int) x2 x3)))
    (none)))
noncomputable def tree_Tree_above_2de7 (N : Nat) {R : Type} (x0 : ByteArray) (x1 : ByteArray) (x2 : Int) (x3 : List (((ByteArray) × (ByteArray)) × ((Int) × (Bool)))) (k0 : (Int) → (Int) → (List (((ByteArray) × (ByteArray)) × ((Int) × (Bool)))) → Option R) : Option R := tree_Tree_above_2de7_T N x0 x1 x2 x3 k0
abbrev tree_Tree_get_fb98_Ty : Type 1 := {R : Type} → (ByteArray) → (Int) → (List (((ByteArray) × (ByteArray)) × ((Int) × (Bool)))) → ((Int) → (Bool) → (Int) → (Int) → (List (((ByteArray) × (ByteArray)) × ((Int) × (Bool)))) → Option R) → Option R
noncomputable def tree_Tree_get_fb98_T (N : Nat) (c0 : tree_Tree_above_2de7_Ty) (c1 : tree_of_Ty) {R : Type} (x0 : ByteArray) (x1 : Int) (x2 : List (((ByteArray) × (ByteArray)) × ((Int) × (Bool)))) (k0 : (Int) → (Bool) → (Int) → (Int) → (List (((ByteArray) × (ByteArray)) × ((Int) × (Bool)))) → Option R) : Option R :=
  c1 x0
  (fun s38 s39 => c0 s38 s39 x1 x2
   (fun i40 i41 l42 => br (!(decide (i40 = (0 : Int))))
    (k0 (0 : Int) false i40 i41 l42)
    (br ((Option.isSome (mfind (.pair .str .str) (.pair (.int .i64) .bool) l42 (s38 , s39))) == (Option.isSome (mfind (.pair .str .str) (.pair (.int .i64) .bool) l42 (s38 , s39))))
     (br (!(Option.isSome (mfind (.pair .str .str) (.pair (.int .i64) .bool) l42 (s38 , s39))))
      (k0 (0 : Int) false (65282 : Int) i41 l42)
      (k0 (Option.getD (mfind (.pair .str .str) (.pair (.int .i64) .bool) l42 (s38 , s39)) ((0 : Int) , false)).1 (Option.getD (mfind (.pair .str .str) (.pair (.int .i64) .bool) l42 (s38 , s39)) ((0 : Int) , false)).2 (0 : Int) i41 l42))
     (none))))
noncomputable def tree_Tree_get_fb98 (N : Nat) {R : Type} (x0 : ByteArray) (x1 : Int) (x2 : List (((ByteArray) × (ByteArray)) × ((Int) × (Bool)))) (k0 : (Int) → (Bool) → (Int) → (Int) → (List (((ByteArray) × (ByteArray)) × ((Int) × (Bool)))) → Option R) : Option R := tree_Tree_get_fb98_T N (@tree_Tree_above_2de7 N) (@tree_of N) x0 x1 x2 k0
abbrev tree_Tree_Find_fb98_Ty : Type 1 := {R : Type} → (ByteArray) → (Int) → (List (((ByteArray) × (ByteArray)) × ((Int) × (Bool)))) → ((Int) → (Bool) → (Int) → (Int) → (List (((ByteArray) × (ByteArray)) × ((Int) × (Bool)))) → Option R) → Option R
noncomputable def tree_Tree_Find_fb98_T (N : Nat) (c0 : tree_Tree_get_fb98_Ty) {R : Type} (x0 : ByteArray) (x1 : Int) (x2 : List (((ByteArray) × (ByteArray)) × ((Int) × (Bool)))) (k0 : (Int) → (Bool) → (Int) → (Int) → (List (((ByteArray) × (ByteArray)) × ((Int) × (Bool)))) → Option R) : Option R :=
  c0 x0 x1 x2
  (fun i43 b44 i45 i46 l47 => br (!(decide (i45 = (0 : Int))))
   (k0 (-1 : Int) false i45 i46 l47)
   (k0 i43 b44 (0 : Int) i46 l47))
noncomputable def tree_Tree_Find_fb98 (N : Nat) {R : Type} (x0 : ByteArray) (x1 : Int) (x2 : List (((ByteArray) × (ByteArray)) × ((Int) × (Bool)))) (k0 : (Int) → (Bool) → (Int) → (Int) → (List (((ByteArray) × (ByteArray)) × ((Int) × (Bool)))) → Option R) : Option R := tree_Tree_Find_fb98_T N (@tree_Tree_get_fb98 N) x0 x1 x2 k0
abbrev tree_Tree_Find_Ty : Type 1 := {R : Type} → (ByteArray) → ((Int) → (Bool) → (Int) → Option R) → Option R
noncomputable def tree_Tree_Find_T (N : Nat) (c0 : tree_Tree_get_fb98_Ty) {R : Type} (x0 : ByteArray) (k0 : (Int) → (Bool) → (Int) → Option R) : Option R :=
  k0 (0 : Int) false (0 : Int)
noncomputable def tree_Tree_Find (N : Nat) {R : Type} (x0 : ByteArray) (k0 : (Int) → (Bool) → (Int) → Option R) : Option R := tree_Tree_Find_T N (@tree_Tree_get_fb98 N) x0 k0
abbrev slices_Index__int_int_9a75_l0_Ty : Type 1 := {R : Type} → ((Int) → (List (Int)) → (Int) → (List (((ByteArray) × (ByteArray)) × ((Int) × (Bool)))) → (List ((Int) × (List (Int)))) → (List ((Int) × (Int))) → Option R) → ((List (Int)) → (Int) → (List (((ByteArray) × (ByteArray)) × ((Int) × (Bool)))) → (List ((Int) × (List (Int)))) → (List ((Int) × (Int))) → Option R) → Nat → (Nat) → (Nat) → (Int) → (Int) → (Int) → (List (Int)) → (Int) → (List (((ByteArray) × (ByteArray)) × ((Int) × (Bool)))) → (List ((Int) × (List (Int)))) → (List ((Int) × (Int))) → Option R
abbrev slices_Index__int_int_9a75_Ty : Type 1 := {R : Type} → (Nat) → (Nat) → (Int) → (List (Int)) → (Int) → (List (((ByteArray) × (ByteArray)) × ((Int) × (Bool)))) → (List ((Int) × (List (Int)))) → (List ((Int) × (Int))) → ((Int) → (List (Int)) → (Int) → (List (((ByteArray) × (ByteArray)) × ((Int) × (Bool)))) → (List ((Int) × (List (Int)))) → (List ((Int) × (Int))) → Option R) → Option R
noncomputable def slices_Index__int_int_9a75_l0_T0 (N : Nat) {R : Type} (nx : (Nat) → (Nat) → (Int) → (Int) → (Int) → (List (Int)) → (Int) → (List (((ByteArray) × (ByteArray)) × ((Int) × (Bool)))) → (List ((Int) × (List (Int)))) → (List ((Int) × (Int))) → Option R) (k0 : (Int) → (List (Int)) → (Int) → (List (((ByteArray) × (ByteArray)) × ((Int) × (Bool)))) → (List ((Int) × (List (Int)))) → (List ((Int) × (Int))) → Option R) (k1 : (List (Int)) → (Int) → (List (((ByteArray) × (ByteArray)) × ((Int) × (Bool)))) → (List ((Int) × (List (Int)))) → (List ((Int) × (Int))) → Option R) (x0 : Nat) (x1 : Nat) (x2 : Int) (x3 : Int) (x4 : Int) (x5 : List (Int)) (x6 : Int) (x7 : List (((ByteArray) × (ByteArray)) × ((Int) × (Bool)))) (x8 : List ((Int) × (List (Int)))) (x9 : List ((Int) × (Int))) : Option R :=
  br (decide (x4 < x3))
  (br (inB x4 x0)
   (br (decide ((Int.toNat x4) < (4 : Nat)))
    (br (decide (x2 = (List.getD x5 (Int.toNat x4) (0 : Int))))
     (k0 x4 x5 x6 x7 x8 x9)
     (nx x0 x1 x2 x3 (IntKind.wrap .i64 (x4 + (1 : Int))) x5 x6 x7 x8 x9))
    (none))
   (none))
  (k1 x5 x6 x7 x8 x9)
noncomputable def slices_Index__int_int_9a75_l0 (N : Nat) {R : Type} (k0 : (Int) → (List (Int)) → (Int) → (List (((ByteArray) × (ByteArray)) × ((Int) × (Bool)))) → (List ((Int) × (List (Int)))) → (List ((Int) × (Int))) → Option R) (k1 : (List (Int)) → (Int) → (List (((ByteArray) × (ByteArray)) × ((Int) × (Bool)))) → (List ((Int) × (List (Int)))) → (List ((Int) × (Int))) → Option R) : Nat → (Nat) → (Nat) → (Int) → (Int) → (Int) → (List (Int)) → (Int) → (List (((ByteArray) × (ByteArray)) × ((Int) × (Bool)))) → (List ((Int) × (List (Int)))) → (List ((Int) × (Int))) → Option R
  | 0, _, _, _, _, _, _, _, _, _, _ => none
  | n + 1, x0, x1, x2, x3, x4, x5, x6, x7, x8, x9 => slices_Index__int_int_9a75_l0_T0 N (fun x0 x1 x2 x3 x4 x5 x6 x7 x8 x9 => slices_Index__int_int_9a75_l0 N k0 k1 n x0 x1 x2 x3 x4 x5 x6 x7 x8 x9) k0 k1 x0 x1 x2 x3 x4 x5 x6 x7 x8 x9
noncomputable def slices_Index__int_int_9a75_T (N : Nat) (w0 : slices_Index__int_int_9a75_l0_Ty) {R : Type} (x0 : Nat) (x1 : Nat) (x2 : Int) (x3 : List (Int)) (x4 : Int) (x5 : List (((ByteArray) × (ByteArray)) × ((Int) × (Bool)))) (x6 : List ((Int) × (List (Int)))) (x7 : List ((Int) × (Int))) (k0 : (Int) → (List (Int)) → (Int) → (List (((ByteArray) × (ByteArray)) × ((Int) × (Bool)))) → (List ((Int) × (List (Int)))) → (List ((Int) × (Int))) → Option R) : Option R :=
  w0
  (fun i53 l54 i55 l56 l57 l58 => k0 i53 l54 i55 l56 l57 l58)
  (fun l59 i60 l61 l62 l63 => k0 (-1 : Int) l59 i60 l61 l62 l63)
  N x0 x1 x2 (Nat.cast x0 : Int) (0 : Int) x3 x4 x5 x6 x7
noncomputable def slices_Index__int_int_9a75 (N : Nat) {R : Type} (x0 : Nat) (x1 : Nat) (x2 : Int) (x3 : List (Int)) (x4 : Int) (x5 : List (((ByteArray) × (ByteArray)) × ((Int) × (Bool)))) (x6 : List ((Int) × (List (Int)))) (x7 : List ((Int) × (Int))) (k0 : (Int) → (List (Int)) → (Int) → (List (((ByteArray) × (ByteArray)) × ((Int) × (Bool)))) → (List ((Int) × (List (Int)))) → (List ((Int) × (Int))) → Option R) : Option R := slices_Index__int_int_9a75_T N (@slices_Index__int_int_9a75_l0 N) x0 x1 x2 x3 x4 x5 x6 x7 k0
abbrev slices_Index__int_int_3801_l0_Ty : Type 1 := {R : Type} → ((Int) → (List (Int)) → (List ((Int) × (List (Int)))) → (List ((Int) × (Int))) → Option R) → ((List (Int)) → (List ((Int) × (List (Int)))) → (List ((Int) × (Int))) → Option R) → Nat → (Nat) → (Nat) → (Int) → (Int) → (Int) → (List (Int)) → (List ((Int) × (List (Int)))) → (List ((Int) × (Int))) → Option R
abbrev slices_Index__int_int_3801_Ty : Type 1 := {R : Type} → (Nat) → (Nat) → (Int) → (List (Int)) → (List ((Int) × (List (Int)))) → (List ((Int) × (Int))) → ((Int) → (List (Int)) → (List ((Int) × (List (Int)))) → (List ((Int) × (Int))) → Option R) → Option R
noncomputable def slices_Index__int_int_3801_l0_T0 (N : Nat) {R : Type} (nx : (Nat) → (Nat) → (Int) → (Int) → (Int) → (List (Int)) → (List ((Int) × (List (Int)))) → (List ((Int) × (Int))) → Option R) (k0 : (Int) → (List (Int)) → (List ((Int) × (List (Int)))) → (List ((Int) × (Int))) → Option R) (k1 : (List (Int)) → (List ((Int) × (List (Int)))) → (List ((Int) × (Int))) → Option R) (x0 : Nat) (x1 : Nat) (x2 : Int) (x3 : Int) (x4 : Int) (x5 : List (Int)) (x6 : List ((Int) × (List (Int)))) (x7 : List ((Int) × (Int))) : Option R :=
  br (decide (x4 < x3))
  (br (inB x4 x0)
   (br (decide ((Int.toNat x4) < (4 : Nat)))
    (br (decide (x2 = (List.getD x5 (Int.toNat x4) (0 : Int))))
     (k0 x4 x5 x6 x7)
     (nx x0 x1 x2 x3 (IntKind.wrap .i64 (x4 + (1 : Int))) x5 x6 x7))
    (none))
   (none))
  (k1 x5 x6 x7)
noncomputable def slices_Index__int_int_3801_l0 (N : Nat) {R : Type} (k0 : (Int) → (List (Int)) → (List ((Int) × (List (Int)))) → (List ((Int) × (Int))) → Option R) (k1 : (List (Int)) → (List ((Int) × (List (Int)))) → (List ((Int) × (Int))) → Option R) : Nat → (Nat) → (Nat) → (Int) → (Int) → (Int) → (List (Int)) → (List ((Int) × (List (Int)))) → (List ((Int) × (Int))) → Option R
  | 0, _, _, _, _, _, _, _, _ => none
  | n + 1, x0, x1, x2, x3, x4, x5, x6, x7 => slices_Index__int_int_3801_l0_T0 N (fun x0 x1 x2 x3 x4 x5 x6 x7 => slices_Index__int_int_3801_l0 N k0 k1 n x0 x1 x2 x3 x4 x5 x6 x7) k0 k1 x0 x1 x2 x3 x4 x5 x6 x7
noncomputable def slices_Index__int_int_3801_T (N : Nat) (w0 : slices_Index__int_int_3801_l0_Ty) {R : Type} (x0 : Nat) (x1 : Nat) (x2 : Int) (x3 : List (Int)) (x4 : List ((Int) × (List (Int)))) (x5 : List ((Int) × (Int))) (k0 : (Int) → (List (Int)) → (List ((Int) × (List (Int)))) → (List ((Int) × (Int))) → Option R) : Option R :=
  w0
  (fun i485 l486 l487 l488 => k0 i485 l486 l487 l488)
  (fun l489 l490 l491 => k0 (-1 : Int) l489 l490 l491)
  N x0 x1 x2 (Nat.cast x0 : Int) (0 : Int) x3 x4 x5
noncomputable def slices_Index__int_int_3801 (N : Nat) {R : Type} (x0 : Nat) (x1 : Nat) (x2 : Int) (x3 : List (Int)) (x4 : List ((Int) × (List (Int)))) (x5 : List ((Int) × (Int))) (k0 : (Int) → (List (Int)) → (List ((Int) × (List (Int)))) → (List ((Int) × (Int))) → Option R) : Option R := slices_Index__int_int_3801_T N (@slices_Index__int_int_3801_l0 N) x0 x1 x2 x3 x4 x5 k0
abbrev files_Files_free_18fa_Ty : Type 1 := {R : Type} → (List (Int)) → (Int) → (List (((ByteArray) × (ByteArray)) × ((Int) × (Bool)))) → (List ((Int) × (List (Int)))) → (List ((Int) × (Int))) → ((Int) → (Bool) → (List (Int)) → (Int) → (List (((ByteArray) × (ByteArray)) × ((Int) × (Bool)))) → (List ((Int) × (List (Int)))) → (List ((Int) × (Int))) → Option R) → Option R
noncomputable def files_Files_free_18fa_T (N : Nat) (c0 : slices_Index__int_int_9a75_Ty) (c1 : slices_Index__int_int_3801_Ty) {R : Type} (x0 : List (Int)) (x1 : Int) (x2 : List (((ByteArray) × (ByteArray)) × ((Int) × (Bool)))) (x3 : List ((Int) × (List (Int)))) (x4 : List ((Int) × (Int))) (k0 : (Int) → (Bool) → (List (Int)) → (Int) → (List (((ByteArray) × (ByteArray)) × ((Int) × (Bool)))) → (List ((Int) × (List (Int)))) → (List ((Int) × (Int))) → Option R) : Option R :=
  c0 (4 : Nat) (4 : Nat) (0 : Int) x0 x1 x2 x3 x4
  (fun i64 l65 i66 l67 l68 l69 => k0 i64 (decide ((0 : Int) ≤ i64)) l65 i66 l67 l68 l69)
noncomputable def files_Files_free_18fa (N : Nat) {R : Type} (x0 : List (Int)) (x1 : Int) (x2 : List (((ByteArray) × (ByteArray)) × ((Int) × (Bool)))) (x3 : List ((Int) × (List (Int)))) (x4 : List ((Int) × (Int))) (k0 : (Int) → (Bool) → (List (Int)) → (Int) → (List (((ByteArray) × (ByteArray)) × ((Int) × (Bool)))) → (List ((Int) × (List (Int)))) → (List ((Int) × (Int))) → Option R) : Option R := files_Files_free_18fa_T N (@slices_Index__int_int_9a75 N) (@slices_Index__int_int_3801 N) x0 x1 x2 x3 x4 k0
abbrev files_Files_free_d57c_Ty : Type 1 := {R : Type} → (List (Int)) → (List ((Int) × (List (Int)))) → (List ((Int) × (Int))) → ((Int) → (Bool) → (List (Int)) → (List ((Int) × (List (Int)))) → (List ((Int) × (Int))) → Option R) → Option R
noncomputable def files_Files_free_d57c_T (N : Nat) (c0 : slices_Index__int_int_9a75_Ty) (c1 : slices_Index__int_int_3801_Ty) {R : Type} (x0 : List (Int)) (x1 : List ((Int) × (List (Int)))) (x2 : List ((Int) × (Int))) (k0 : (Int) → (Bool) → (List (Int)) → (List ((Int) × (List (Int)))) → (List ((Int) × (Int))) → Option R) : Option R :=
  c1 (4 : Nat) (4 : Nat) (0 : Int) x0 x1 x2
  (fun i492 l493 l494 l495 => k0 i492 (decide ((0 : Int) ≤ i492)) l493 l494 l495)
noncomputable def files_Files_free_d57c (N : Nat) {R : Type} (x0 : List (Int)) (x1 : List ((Int) × (List (Int)))) (x2 : List ((Int) × (Int))) (k0 : (Int) → (Bool) → (List (Int)) → (List ((Int) × (List (Int)))) → (List ((Int) × (Int))) → Option R) : Option R := files_Files_free_d57c_T N (@slices_Index__int_int_9a75 N) (@slices_Index__int_int_3801 N) x0 x1 x2 k0
abbrev maps_Clone_map_tree_keytree_entry_tree_key_tree_entry_df6b_Ty : Type 1 := {R : Type} → (List (((ByteArray) × (ByteArray)) × ((Int) × (Bool)))) → ((List (((ByteArray) × (ByteArray)) × ((Int) × (Bool)))) → (List (((ByteArray) × (ByteArray)) × ((Int) × (Bool)))) → Option R) → Option R
noncomputable def maps_Clone_map_tree_keytree_entry_tree_key_tree_entry_df6b {R : Type} (x0 : List (((ByteArray) × (ByteArray)) × ((Int) × (Bool)))) (k0 : (List (((ByteArray) × (ByteArray)) × ((Int) × (Bool)))) → (List (((ByteArray) × (ByteArray)) × ((Int) × (Bool)))) → Option R) : Option R := k0 x0 x0
abbrev tree_Tree_Copy_a28d_Ty : Type 1 := {R : Type} → (Int) → (List (((ByteArray) × (ByteArray)) × ((Int) × (Bool)))) → ((Int) → (List (((ByteArray) × (ByteArray)) × ((Int) × (Bool)))) → (Int) → (List (((ByteArray) × (ByteArray)) × ((Int) × (Bool)))) → Option R) → Option R
noncomputable def tree_Tree_Copy_a28d_T (N : Nat) (c0 : maps_Clone_map_tree_keytree_entry_tree_key_tree_entry_df6b_Ty) {R : Type} (x0 : Int) (x1 : List (((ByteArray) × (ByteArray)) × ((Int) × (Bool)))) (k0 : (Int) → (List (((ByteArray) × (ByteArray)) × ((Int) × (Bool)))) → (Int) → (List (((ByteArray) × (ByteArray)) × ((Int) × (Bool)))) → Option R) : Option R :=
  c0 x1
  (fun l77 l78 => br (decide (x0 = x0))
   (k0 x0 l77 x0 l78)
   (none))
noncomputable def tree_Tree_Copy_a28d (N : Nat) {R : Type} (x0 : Int) (x1 : List (((ByteArray) × (ByteArray)) × ((Int) × (Bool)))) (k0 : (Int) → (List (((ByteArray) × (ByteArray)) × ((Int) × (Bool)))) → (Int) → (List (((ByteArray) × (ByteArray)) × ((Int) × (Bool)))) → Option R) : Option R := tree_Tree_Copy_a28d_T N @maps_Clone_map_tree_keytree_entry_tree_key_tree_entry_df6b x0 x1 k0
abbrev tree_Tree_Copy_Ty : Type 1 := {R : Type} → (Option R) → Option R
noncomputable def tree_Tree_Copy_T (N : Nat) (c0 : maps_Clone_map_tree_keytree_entry_tree_key_tree_entry_df6b_Ty) {R : Type} (k0 : Option R) : Option R :=
  k0
noncomputable def tree_Tree_Copy (N : Nat) {R : Type} (k0 : Option R) : Option R := tree_Tree_Copy_T N @maps_Clone_map_tree_keytree_entry_tree_key_tree_entry_df6b k0
abbrev tree_Tree_Make_c502_Ty : Type 1 := {R : Type} → (ByteArray) → (Bool) → (Int) → (List (((ByteArray) × (ByteArray)) × ((Int) × (Bool)))) → ((Int) → (Int) → (Int) → (List (((ByteArray) × (ByteArray)) × ((Int) × (Bool)))) → Option R) → Option R
noncomputable def tree_Tree_Make_c502_T (N : Nat) (c0 : tree_Tree_above_2de7_Ty) (c1 : tree_of_Ty) {R : Type} (x0 : ByteArray) (x1 : Bool) (x2 : Int) (x3 : List (((ByteArray) × (ByteArray)) × ((Int) × (Bool)))) (k0 : (Int) → (Int) → (Int) → (List (((ByteArray) × (ByteArray)) × ((Int) × (Bool)))) → Option R) : Option R :=
  c1 x0
  (fun s83 s84 => c0 s83 s84 x2 x3
   (fun i85 i86 l87 => br (!(decide (i85 = (0 : Int))))
    (k0 (-1 : Int) i85 i86 l87)
    (br ((Option.isSome (mfind (.pair .str .str) (.pair (.int .i64) .bool) l87 (s83 , s84))) == (Option.isSome (mfind (.pair .str .str) (.pair (.int .i64) .bool) l87 (s83 , s84))))
     (br (Option.isSome (mfind (.pair .str .str) (.pair (.int .i64) .bool) l87 (s83 , s84)))
      (k0 (-1 : Int) (65297 : Int) i86 l87)
      (br x1
       (br (!(decide (s83 = (bs []))))
        (k0 (-1 : Int) (65302 : Int) i86 l87)
        (br (decide ((8 : Int) ≤ (Nat.cast (List.length l87) : Int)))
         (k0 (-1 : Int) (65308 : Int) i86 l87)
         (k0 (IntKind.wrap .i64 ((IntKind.wrap .i64 (i86 + (1 : Int))) - (1 : Int))) (0 : Int) (IntKind.wrap .i64 (i86 + (1 : Int))) (mput (.pair .str .str) (.pair (.int .i64) .bool) l87 (s83 , s84) (i86 , x1)))))
       (br (decide ((8 : Int) ≤ (Nat.cast (List.length l87) : Int)))
        (k0 (-1 : Int) (65308 : Int) i86 l87)
        (k0 (IntKind.wrap .i64 ((IntKind.wrap .i64 (i86 + (1 : Int))) - (1 : Int))) (0 : Int) (IntKind.wrap .i64 (i86 + (1 : Int))) (mput (.pair .str .str) (.pair (.int .i64) .bool) l87 (s83 , s84) (i86 , x1))))))
     (none))))
noncomputable def tree_Tree_Make_c502 (N : Nat) {R : Type} (x0 : ByteArray) (x1 : Bool) (x2 : Int) (x3 : List (((ByteArray) × (ByteArray)) × ((Int) × (Bool)))) (k0 : (Int) → (Int) → (Int) → (List (((ByteArray) × (ByteArray)) × ((Int) × (Bool)))) → Option R) : Option R := tree_Tree_Make_c502_T N (@tree_Tree_above_2de7 N) (@tree_of N) x0 x1 x2 x3 k0
abbrev tree_Tree_Make_Ty : Type 1 := {R : Type} → (ByteArray) → (Bool) → ((Int) → (Int) → Option R) → Option R
noncomputable def tree_Tree_Make_T (N : Nat) (c0 : tree_Tree_above_2de7_Ty) (c1 : tree_of_Ty) {R : Type} (x0 : ByteArray) (x1 : Bool) (k0 : (Int) → (Int) → Option R) : Option R :=
  k0 (0 : Int) (0 : Int)
noncomputable def tree_Tree_Make (N : Nat) {R : Type} (x0 : ByteArray) (x1 : Bool) (k0 : (Int) → (Int) → Option R) : Option R := tree_Tree_Make_T N (@tree_Tree_above_2de7 N) (@tree_of N) x0 x1 k0
abbrev tree_New_1c12_l0_Ty : Type 1 := {R : Type} → ((Int) → (List (((ByteArray) × (ByteArray)) × ((Int) × (Bool)))) → Option R) → Nat → (Int) → (Int) → (Int) → (List (((ByteArray) × (ByteArray)) × ((Int) × (Bool)))) → Option R
abbrev tree_New_1c12_Ty : Type 1 := {R : Type} → ((Int) → (Int) → (List (((ByteArray) × (ByteArray)) × ((Int) × (Bool)))) → Option R) → Option R
noncomputable def tree_New_1c12_l0_T0 (N : Nat) (c0 : tree_Tree_Make_c502_Ty) (c1 : tree_Tree_Make_Ty) (c2 : names_May_Ty) {R : Type} (nx : (Int) → (Int) → (Int) → (List (((ByteArray) × (ByteArray)) × ((Int) × (Bool)))) → Option R) (k0 : (Int) → (List (((ByteArray) × (ByteArray)) × ((Int) × (Bool)))) → Option R) (x0 : Int) (x1 : Int) (x2 : Int) (x3 : List (((ByteArray) × (ByteArray)) × ((Int) × (Bool)))) : Option R :=
  br (decide (x1 < x0))
  (none)
  (k0 x2 x3)
noncomputable def tree_New_1c12_l0 (N : Nat) {R : Type} (k0 : (Int) → (List (((ByteArray) × (ByteArray)) × ((Int) × (Bool)))) → Option R) : Nat → (Int) → (Int) → (Int) → (List (((ByteArray) × (ByteArray)) × ((Int) × (Bool)))) → Option R
  | 0, _, _, _, _ => none
  | n + 1, x0, x1, x2, x3 => tree_New_1c12_l0_T0 N (@tree_Tree_Make_c502 N) (@tree_Tree_Make N) (@names_May N) (fun x0 x1 x2 x3 => tree_New_1c12_l0 N k0 n x0 x1 x2 x3) k0 x0 x1 x2 x3
noncomputable def tree_New_1c12_T (N : Nat) (c0 : tree_Tree_Make_c502_Ty) (c1 : tree_Tree_Make_Ty) (c2 : names_May_Ty) (w0 : tree_New_1c12_l0_Ty) {R : Type} (k0 : (Int) → (Int) → (List (((ByteArray) × (ByteArray)) × ((Int) × (Bool)))) → Option R) : Option R :=
  w0
  (fun i0 l1 => k0 (0 : Int) i0 l1)
  N (0 : Int) (0 : Int) (0 : Int) ([] : List (((Sh.str.pair Sh.str).T) × (((Sh.int IntKind.i64).pair Sh.bool).T)))
noncomputable def tree_New_1c12 (N : Nat) {R : Type} (k0 : (Int) → (Int) → (List (((ByteArray) × (ByteArray)) × ((Int) × (Bool)))) → Option R) : Option R := tree_New_1c12_T N (@tree_Tree_Make_c502 N) (@tree_Tree_Make N) (@names_May N) (@tree_New_1c12_l0 N) k0
abbrev tree_New_644a_l0_Ty : Type 1 := {R : Type} → ((Int) → (List ((ByteArray) × ((Bool) × (Int)))) → (Int) → (List (((ByteArray) × (ByteArray)) × ((Int) × (Bool)))) → Option R) → ((List ((ByteArray) × ((Bool) × (Int)))) → (Int) → (List (((ByteArray) × (ByteArray)) × ((Int) × (Bool)))) → Option R) → Nat → (Int) → (Int) → (List ((ByteArray) × ((Bool) × (Int)))) → (Int) → (List (((ByteArray) × (ByteArray)) × ((Int) × (Bool)))) → Option R
abbrev tree_New_644a_Ty : Type 1 := {R : Type} → (List ((ByteArray) × ((Bool) × (Int)))) → ((Int) → (List ((ByteArray) × ((Bool) × (Int)))) → Option R) → ((Int) → (List ((ByteArray) × ((Bool) × (Int)))) → (Int) → (List (((ByteArray) × (ByteArray)) × ((Int) × (Bool)))) → Option R) → Option R
noncomputable def tree_New_644a_l0_T0 (N : Nat) (c0 : tree_Tree_Make_c502_Ty) (c1 : tree_Tree_Make_Ty) (c2 : names_May_Ty) {R : Type} (nx : (Int) → (Int) → (List ((ByteArray) × ((Bool) × (Int)))) → (Int) → (List (((ByteArray) × (ByteArray)) × ((Int) × (Bool)))) → Option R) (k0 : (Int) → (List ((ByteArray) × ((Bool) × (Int)))) → (Int) → (List (((ByteArray) × (ByteArray)) × ((Int) × (Bool)))) → Option R) (k1 : (List ((ByteArray) × ((Bool) × (Int)))) → (Int) → (List (((ByteArray) × (ByteArray)) × ((Int) × (Bool)))) → Option R) (x0 : Int) (x1 : Int) (x2 : List ((ByteArray) × ((Bool) × (Int)))) (x3 : Int) (x4 : List (((ByteArray) × (ByteArray)) × ((Int) × (Bool)))) : Option R :=
  br (decide (x1 < x0))
  (br (inB x1 (List.length x2))
   (br (decide ((Int.toNat x1) < (List.length x2)))
    (c2 (List.getD x2 (Int.toNat x1) ((bs []) , (false , (0 : Int)))).1
     (fun b235 => br (!b235)
      (k0 (11 : Int) x2 x3 x4)
      (c0 (List.getD x2 (Int.toNat x1) ((bs []) , (false , (0 : Int)))).1 (List.getD x2 (Int.toNat x1) ((bs []) , (false , (0 : Int)))).2.1 x3 x4
       (fun i236 i237 i238 l239 => br (!(decide (i237 = (0 : Int))))
        (k0 (11 : Int) x2 i238 l239)
        (nx x0 (IntKind.wrap .i64 (x1 + (1 : Int))) x2 i238 l239)))))
    (none))
   (none))
  (k1 x2 x3 x4)
noncomputable def tree_New_644a_l0 (N : Nat) {R : Type} (k0 : (Int) → (List ((ByteArray) × ((Bool) × (Int)))) → (Int) → (List (((ByteArray) × (ByteArray)) × ((Int) × (Bool)))) → Option R) (k1 : (List ((ByteArray) × ((Bool) × (Int)))) → (Int) → (List (((ByteArray) × (ByteArray)) × ((Int) × (Bool)))) → Option R) : Nat → (Int) → (Int) → (List ((ByteArray) × ((Bool) × (Int)))) → (Int) → (List (((ByteArray) × (ByteArray)) × ((Int) × (Bool)))) → Option R
  | 0, _, _, _, _, _ => none
  | n + 1, x0, x1, x2, x3, x4 => tree_New_644a_l0_T0 N (@tree_Tree_Make_c502 N) (@tree_Tree_Make N) (@names_May N) (fun x0 x1 x2 x3 x4 => tree_New_644a_l0 N k0 k1 n x0 x1 x2 x3 x4) k0 k1 x0 x1 x2 x3 x4
noncomputable def tree_New_644a_T (N : Nat) (c0 : tree_Tree_Make_c502_Ty) (c1 : tree_Tree_Make_Ty) (c2 : names_May_Ty) (w0 : tree_New_644a_l0_Ty) {R : Type} (x0 : List ((ByteArray) × ((Bool) × (Int)))) (k0 : (Int) → (List ((ByteArray) × ((Bool) × (Int)))) → Option R) (k1 : (Int) → (List ((ByteArray) × ((Bool) × (Int)))) → (Int) → (List (((ByteArray) × (ByteArray)) × ((Int) × (Bool)))) → Option R) : Option R :=
  br (decide ((8 : Int) < (Nat.cast (List.length x0) : Int)))
  (k0 (11 : Int) x0)
  (w0
   (fun i240 l241 i242 l243 => k0 i240 l241)
   (fun l244 i245 l246 => k1 (0 : Int) l244 i245 l246)
   N (Nat.cast (List.length x0) : Int) (0 : Int) x0 (0 : Int) ([] : List (((Sh.str.pair Sh.str).T) × (((Sh.int IntKind.i64).pair Sh.bool).T))))
noncomputable def tree_New_644a (N : Nat) {R : Type} (x0 : List ((ByteArray) × ((Bool) × (Int)))) (k0 : (Int) → (List ((ByteArray) × ((Bool) × (Int)))) → Option R) (k1 : (Int) → (List ((ByteArray) × ((Bool) × (Int)))) → (Int) → (List (((ByteArray) × (ByteArray)) × ((Int) × (Bool)))) → Option R) : Option R := tree_New_644a_T N (@tree_Tree_Make_c502 N) (@tree_Tree_Make N) (@names_May N) (@tree_New_644a_l0 N) x0 k0 k1
abbrev files_Files_may_f601_Ty : Type 1 := {R : Type} → (ByteArray) → (List (Int)) → (Int) → (List (((ByteArray) × (ByteArray)) × ((Int) × (Bool)))) → (List ((Int) × (List (Int)))) → (List ((Int) × (Int))) → ((Bool) → (List (Int)) → (Int) → (List (((ByteArray) × (ByteArray)) × ((Int) × (Bool)))) → (List ((Int) × (List (Int)))) → (List ((Int) × (Int))) → Option R) → Option R
noncomputable def files_Files_may_f601_T (N : Nat) (c0 : tree_Tree_Make_c502_Ty) (c1 : tree_Tree_Make_Ty) (c2 : tree_Tree_Copy_a28d_Ty) (c3 : tree_Tree_Copy_Ty) {R : Type} (x0 : ByteArray) (x1 : List (Int)) (x2 : Int) (x3 : List (((ByteArray) × (ByteArray)) × ((Int) × (Bool)))) (x4 : List ((Int) × (List (Int)))) (x5 : List ((Int) × (Int))) (k0 : (Bool) → (List (Int)) → (Int) → (List (((ByteArray) × (ByteArray)) × ((Int) × (Bool)))) → (List ((Int) × (List (Int)))) → (List ((Int) × (Int))) → Option R) : Option R :=
  c2 x2 x3
  (fun i79 l80 i81 l82 => c0 x0 false i81 l82
   (fun i88 i89 i90 l91 => k0 (!(decide (i89 = (65282 : Int)))) x1 i79 l80 x4 x5))
noncomputable def files_Files_may_f601 (N : Nat) {R : Type} (x0 : ByteArray) (x1 : List (Int)) (x2 : Int) (x3 : List (((ByteArray) × (ByteArray)) × ((Int) × (Bool)))) (x4 : List ((Int) × (List (Int)))) (x5 : List ((Int) × (Int))) (k0 : (Bool) → (List (Int)) → (Int) → (List (((ByteArray) × (ByteArray)) × ((Int) × (Bool)))) → (List ((Int) × (List (Int)))) → (List ((Int) × (Int))) → Option R) : Option R := files_Files_may_f601_T N (@tree_Tree_Make_c502 N) (@tree_Tree_Make N) (@tree_Tree_Copy_a28d N) (@tree_Tree_Copy N) x0 x1 x2 x3 x4 x5 k0
abbrev files_Files_may_9fbb_Ty : Type 1 := {R : Type} → (ByteArray) → (List (Int)) → (List ((Int) × (List (Int)))) → (List ((Int) × (Int))) → ((Bool) → (List (Int)) → (List ((Int) × (List (Int)))) → (List ((Int) × (Int))) → Option R) → Option R
noncomputable def files_Files_may_9fbb_T (N : Nat) (c0 : tree_Tree_Make_c502_Ty) (c1 : tree_Tree_Make_Ty) (c2 : tree_Tree_Copy_a28d_Ty) (c3 : tree_Tree_Copy_Ty) {R : Type} (x0 : ByteArray) (x1 : List (Int)) (x2 : List ((Int) × (List (Int)))) (x3 : List ((Int) × (Int))) (k0 : (Bool) → (List (Int)) → (List ((Int) × (List (Int)))) → (List ((Int) × (Int))) → Option R) : Option R :=
  c3
  (c1 x0 false
   (fun i501 i502 => k0 (!(decide (i502 = (65282 : Int)))) x1 x2 x3))
noncomputable def files_Files_may_9fbb (N : Nat) {R : Type} (x0 : ByteArray) (x1 : List (Int)) (x2 : List ((Int) × (List (Int)))) (x3 : List ((Int) × (Int))) (k0 : (Bool) → (List (Int)) → (List ((Int) × (List (Int)))) → (List ((Int) × (Int))) → Option R) : Option R := files_Files_may_9fbb_T N (@tree_Tree_Make_c502 N) (@tree_Tree_Make N) (@tree_Tree_Copy_a28d N) (@tree_Tree_Copy N) x0 x1 x2 x3 k0
abbrev files_Files_Open_f601_Ty : Type 1 := {R : Type} → (ByteArray) → (List (Int)) → (Int) → (List (((ByteArray) × (ByteArray)) × ((Int) × (Bool)))) → (List ((Int) × (List (Int)))) → (List ((Int) × (Int))) → ((Int) → (List (Int)) → (Int) → (List (((ByteArray) × (ByteArray)) × ((Int) × (Bool)))) → (List ((Int) × (List (Int)))) → (List ((Int) × (Int))) → Option R) → Option R
noncomputable def files_Files_Open_f601_T (N : Nat) (c0 : tree_Tree_Make_c502_Ty) (c1 : tree_Tree_Make_Ty) (c2 : files_Files_may_f601_Ty) (c3 : files_Files_may_9fbb_Ty) (c4 : files_Files_free_18fa_Ty) (c5 : files_Files_free_d57c_Ty) (c6 : tree_Tree_Find_fb98_Ty) (c7 : tree_Tree_Find_Ty) {R : Type} (x0 : ByteArray) (x1 : List (Int)) (x2 : Int) (x3 : List (((ByteArray) × (ByteArray)) × ((Int) × (Bool)))) (x4 : List ((Int) × (List (Int)))) (x5 : List ((Int) × (Int))) (k0 : (Int) → (List (Int)) → (Int) → (List (((ByteArray) × (ByteArray)) × ((Int) × (Bool)))) → (List ((Int) × (List (Int)))) → (List ((Int) × (Int))) → Option R) : Option R :=
  c6 x0 x2 x3
  (fun i102 b103 i104 i105 l106 => c4 x1 i105 l106 x4 x5
   (fun i107 b108 l109 i110 l111 l112 l113 => br (decide (i104 = (0 : Int)))
    (br b103
     (k0 (65301 : Int) l109 i110 l111 l112 l113)
     (br (decide (i104 = (65300 : Int)))
      (k0 i104 l109 i110 l111 l112 l113)
      (br (!(decide (i104 = (0 : Int))))
       (c2 x0 l109 i110 l111 l112 l113
        (fun b114 l115 i116 l117 l118 l119 => br (!b114)
         (k0 (65282 : Int) l115 i116 l117 l118 l119)
         (br (!b108)
          (k0 (65304 : Int) l115 i116 l117 l118 l119)
          (br (!(decide (i104 = (0 : Int))))
           (c0 x0 false i116 l117
            (fun i120 i121 i122 l123 => br (!(decide (i121 = (0 : Int))))
             (k0 i121 l115 i122 l123 l118 l119)
             (br (((fits (0 : Nat) (List.length l119) l119) && (decide ((((List.length l119) + (1 : Nat)) * (16 : Nat)) ≤ (70368744177664 : Nat)))) && true)
              (br (inB i107 (4 : Nat))
               (br (decide ((Int.toNat i107) < (4 : Nat)))
                (k0 (IntKind.wrap .u16 i107) (List.set l115 (Int.toNat i107) (Nat.cast ((List.length l119) + (1 : Nat)) : Int)) i122 l123 l118 ((sub l119 (0 : Nat) (List.length l119)) ++ ((i120 , (0 : Int)) :: ([] : List (((Sh.int IntKind.i64).pair (Sh.int IntKind.i64)).T)))))
                (none))
               (none))
              (none))))
           (br (((fits (0 : Nat) (List.length l119) l119) && (decide ((((List.length l119) + (1 : Nat)) * (16 : Nat)) ≤ (70368744177664 : Nat)))) && true)
            (br (inB i107 (4 : Nat))
             (br (decide ((Int.toNat i107) < (4 : Nat)))
              (k0 (IntKind.wrap .u16 i107) (List.set l115 (Int.toNat i107) (Nat.cast ((List.length l119) + (1 : Nat)) : Int)) i116 l117 l118 ((sub l119 (0 : Nat) (List.length l119)) ++ ((i102 , (0 : Int)) :: ([] : List (((Sh.int IntKind.i64).pair (Sh.int IntKind.i64)).T)))))
              (none))
             (none))
            (none))))))
       (br (!b108)
        (k0 (65304 : Int) l109 i110 l111 l112 l113)
        (br (!(decide (i104 = (0 : Int))))
         (c0 x0 false i110 l111
          (fun i124 i125 i126 l127 => br (!(decide (i125 = (0 : Int))))
           (k0 i125 l109 i126 l127 l112 l113)
           (br (((fits (0 : Nat) (List.length l113) l113) && (decide ((((List.length l113) + (1 : Nat)) * (16 : Nat)) ≤ (70368744177664 : Nat)))) && true)
            (br (inB i107 (4 : Nat))
             (br (decide ((Int.toNat i107) < (4 : Nat)))
              (k0 (IntKind.wrap .u16 i107) (List.set l109 (Int.toNat i107) (Nat.cast ((List.length l113) + (1 : Nat)) : Int)) i126 l127 l112 ((sub l113 (0 : Nat) (List.length l113)) ++ ((i124 , (0 : Int)) :: ([] : List (((Sh.int IntKind.i64).pair (Sh.int IntKind.i64)).T)))))
              (none))
             (none))
            (none))))
         (br (((fits (0 : Nat) (List.length l113) l113) && (decide ((((List.length l113) + (1 : Nat)) * (16 : Nat)) ≤ (70368744177664 : Nat)))) && true)
          (br (inB i107 (4 : Nat))
           (br (decide ((Int.toNat i107) < (4 : Nat)))
            (k0 (IntKind.wrap .u16 i107) (List.set l109 (Int.toNat i107) (Nat.cast ((List.length l113) + (1 : Nat)) : Int)) i110 l111 l112 ((sub l113 (0 : Nat) (List.length l113)) ++ ((i102 , (0 : Int)) :: ([] : List (((Sh.int IntKind.i64).pair (Sh.int IntKind.i64)).T)))))
            (none))
           (none))
          (none)))))))
    (br (decide (i104 = (65300 : Int)))
     (k0 i104 l109 i110 l111 l112 l113)
     (br (!(decide (i104 = (0 : Int))))
      (c2 x0 l109 i110 l111 l112 l113
       (fun b128 l129 i130 l131 l132 l133 => br (!b128)
        (k0 (65282 : Int) l129 i130 l131 l132 l133)
        (br (!b108)
         (k0 (65304 : Int) l129 i130 l131 l132 l133)
         (br (!(decide (i104 = (0 : Int))))
          (c0 x0 false i130 l131
           (fun i134 i135 i136 l137 => br (!(decide (i135 = (0 : Int))))
            (k0 i135 l129 i136 l137 l132 l133)
            (br (((fits (0 : Nat) (List.length l133) l133) && (decide ((((List.length l133) + (1 : Nat)) * (16 : Nat)) ≤ (70368744177664 : Nat)))) && true)
             (br (inB i107 (4 : Nat))
              (br (decide ((Int.toNat i107) < (4 : Nat)))
               (k0 (IntKind.wrap .u16 i107) (List.set l129 (Int.toNat i107) (Nat.cast ((List.length l133) + (1 : Nat)) : Int)) i136 l137 l132 ((sub l133 (0 : Nat) (List.length l133)) ++ ((i134 , (0 : Int)) :: ([] : List (((Sh.int IntKind.i64).pair (Sh.int IntKind.i64)).T)))))
               (none))
              (none))
             (none))))
          (br (((fits (0 : Nat) (List.length l133) l133) && (decide ((((List.length l133) + (1 : Nat)) * (16 : Nat)) ≤ (70368744177664 : Nat)))) && true)
           (br (inB i107 (4 : Nat))
            (br (decide ((Int.toNat i107) < (4 : Nat)))
             (k0 (IntKind.wrap .u16 i107) (List.set l129 (Int.toNat i107) (Nat.cast ((List.length l133) + (1 : Nat)) : Int)) i130 l131 l132 ((sub l133 (0 : Nat) (List.length l133)) ++ ((i102 , (0 : Int)) :: ([] : List (((Sh.int IntKind.i64).pair (Sh.int IntKind.i64)).T)))))
             (none))
            (none))
           (none))))))
      (br (!b108)
       (k0 (65304 : Int) l109 i110 l111 l112 l113)
       (br (!(decide (i104 = (0 : Int))))
        (c0 x0 false i110 l111
         (fun i138 i139 i140 l141 => br (!(decide (i139 = (0 : Int))))
          (k0 i139 l109 i140 l141 l112 l113)
          (br (((fits (0 : Nat) (List.length l113) l113) && (decide ((((List.length l113) + (1 : Nat)) * (16 : Nat)) ≤ (70368744177664 : Nat)))) && true)
           (br (inB i107 (4 : Nat))
            (br (decide ((Int.toNat i107) < (4 : Nat)))
             (k0 (IntKind.wrap .u16 i107) (List.set l109 (Int.toNat i107) (Nat.cast ((List.length l113) + (1 : Nat)) : Int)) i140 l141 l112 ((sub l113 (0 : Nat) (List.length l113)) ++ ((i138 , (0 : Int)) :: ([] : List (((Sh.int IntKind.i64).pair (Sh.int IntKind.i64)).T)))))
             (none))
            (none))
           (none))))
        (br (((fits (0 : Nat) (List.length l113) l113) && (decide ((((List.length l113) + (1 : Nat)) * (16 : Nat)) ≤ (70368744177664 : Nat)))) && true)
         (br (inB i107 (4 : Nat))
          (br (decide ((Int.toNat i107) < (4 : Nat)))
           (k0 (IntKind.wrap .u16 i107) (List.set l109 (Int.toNat i107) (Nat.cast ((List.length l113) + (1 : Nat)) : Int)) i110 l111 l112 ((sub l113 (0 : Nat) (List.length l113)) ++ ((i102 , (0 : Int)) :: ([] : List (((Sh.int IntKind.i64).pair (Sh.int IntKind.i64)).T)))))
           (none))
          (none))
         (none))))))))
noncomputable def files_Files_Open_f601 (N : Nat) {R : Type} (x0 : ByteArray) (x1 : List (Int)) (x2 : Int) (x3 : List (((ByteArray) × (ByteArray)) × ((Int) × (Bool)))) (x4 : List ((Int) × (List (Int)))) (x5 : List ((Int) × (Int))) (k0 : (Int) → (List (Int)) → (Int) → (List (((ByteArray) × (ByteArray)) × ((Int) × (Bool)))) → (List ((Int) × (List (Int)))) → (List ((Int) × (Int))) → Option R) : Option R := files_Files_Open_f601_T N (@tree_Tree_Make_c502 N) (@tree_Tree_Make N) (@files_Files_may_f601 N) (@files_Files_may_9fbb N) (@files_Files_free_18fa N) (@files_Files_free_d57c N) (@tree_Tree_Find_fb98 N) (@tree_Tree_Find N) x0 x1 x2 x3 x4 x5 k0
abbrev files_Files_Open_9fbb_Ty : Type 1 := {R : Type} → (ByteArray) → (List (Int)) → (List ((Int) × (List (Int)))) → (List ((Int) × (Int))) → ((Int) → (List (Int)) → (List ((Int) × (List (Int)))) → (List ((Int) × (Int))) → Option R) → Option R
noncomputable def files_Files_Open_9fbb_T (N : Nat) (c0 : tree_Tree_Make_c502_Ty) (c1 : tree_Tree_Make_Ty) (c2 : files_Files_may_f601_Ty) (c3 : files_Files_may_9fbb_Ty) (c4 : files_Files_free_18fa_Ty) (c5 : files_Files_free_d57c_Ty) (c6 : tree_Tree_Find_fb98_Ty) (c7 : tree_Tree_Find_Ty) {R : Type} (x0 : ByteArray) (x1 : List (Int)) (x2 : List ((Int) × (List (Int)))) (x3 : List ((Int) × (Int))) (k0 : (Int) → (List (Int)) → (List ((Int) × (List (Int)))) → (List ((Int) × (Int))) → Option R) : Option R :=
  c7 x0
  (fun i509 b510 i511 => c5 x1 x2 x3
   (fun i512 b513 l514 l515 l516 => br (decide (i511 = (0 : Int)))
    (br b510
     (k0 (65301 : Int) l514 l515 l516)
     (br (decide (i511 = (65300 : Int)))
      (k0 i511 l514 l515 l516)
      (br (!(decide (i511 = (0 : Int))))
       (c3 x0 l514 l515 l516
        (fun b517 l518 l519 l520 => br (!b517)
         (k0 (65282 : Int) l518 l519 l520)
         (br (!b513)
          (k0 (65304 : Int) l518 l519 l520)
          (br (!(decide (i511 = (0 : Int))))
           (c1 x0 false
            (fun i521 i522 => br (!(decide (i522 = (0 : Int))))
             (k0 i522 l518 l519 l520)
             (br (((fits (0 : Nat) (List.length l520) l520) && (decide ((((List.length l520) + (1 : Nat)) * (16 : Nat)) ≤ (70368744177664 : Nat)))) && true)
              (br (inB i512 (4 : Nat))
               (br (decide ((Int.toNat i512) < (4 : Nat)))
                (k0 (IntKind.wrap .u16 i512) (List.set l518 (Int.toNat i512) (Nat.cast ((List.length l520) + (1 : Nat)) : Int)) l519 ((sub l520 (0 : Nat) (List.length l520)) ++ ((i521 , (0 : Int)) :: ([] : List (((Sh.int IntKind.i64).pair (Sh.int IntKind.i64)).T)))))
                (none))
               (none))
              (none))))
           (br (((fits (0 : Nat) (List.length l520) l520) && (decide ((((List.length l520) + (1 : Nat)) * (16 : Nat)) ≤ (70368744177664 : Nat)))) && true)
            (br (inB i512 (4 : Nat))
             (br (decide ((Int.toNat i512) < (4 : Nat)))
              (k0 (IntKind.wrap .u16 i512) (List.set l518 (Int.toNat i512) (Nat.cast ((List.length l520) + (1 : Nat)) : Int)) l519 ((sub l520 (0 : Nat) (List.length l520)) ++ ((i509 , (0 : Int)) :: ([] : List (((Sh.int IntKind.i64).pair (Sh.int IntKind.i64)).T)))))
              (none))
             (none))
            (none))))))
       (br (!b513)
        (k0 (65304 : Int) l514 l515 l516)
        (br (!(decide (i511 = (0 : Int))))
         (c1 x0 false
          (fun i523 i524 => br (!(decide (i524 = (0 : Int))))
           (k0 i524 l514 l515 l516)
           (br (((fits (0 : Nat) (List.length l516) l516) && (decide ((((List.length l516) + (1 : Nat)) * (16 : Nat)) ≤ (70368744177664 : Nat)))) && true)
            (br (inB i512 (4 : Nat))
             (br (decide ((Int.toNat i512) < (4 : Nat)))
              (k0 (IntKind.wrap .u16 i512) (List.set l514 (Int.toNat i512) (Nat.cast ((List.length l516) + (1 : Nat)) : Int)) l515 ((sub l516 (0 : Nat) (List.length l516)) ++ ((i523 , (0 : Int)) :: ([] : List (((Sh.int IntKind.i64).pair (Sh.int IntKind.i64)).T)))))
              (none))
             (none))
            (none))))
         (br (((fits (0 : Nat) (List.length l516) l516) && (decide ((((List.length l516) + (1 : Nat)) * (16 : Nat)) ≤ (70368744177664 : Nat)))) && true)
          (br (inB i512 (4 : Nat))
           (br (decide ((Int.toNat i512) < (4 : Nat)))
            (k0 (IntKind.wrap .u16 i512) (List.set l514 (Int.toNat i512) (Nat.cast ((List.length l516) + (1 : Nat)) : Int)) l515 ((sub l516 (0 : Nat) (List.length l516)) ++ ((i509 , (0 : Int)) :: ([] : List (((Sh.int IntKind.i64).pair (Sh.int IntKind.i64)).T)))))
            (none))
           (none))
          (none)))))))
    (br (decide (i511 = (65300 : Int)))
     (k0 i511 l514 l515 l516)
     (br (!(decide (i511 = (0 : Int))))
      (c3 x0 l514 l515 l516
       (fun b525 l526 l527 l528 => br (!b525)
        (k0 (65282 : Int) l526 l527 l528)
        (br (!b513)
         (k0 (65304 : Int) l526 l527 l528)
         (br (!(decide (i511 = (0 : Int))))
          (c1 x0 false
           (fun i529 i530 => br (!(decide (i530 = (0 : Int))))
            (k0 i530 l526 l527 l528)
            (br (((fits (0 : Nat) (List.length l528) l528) && (decide ((((List.length l528) + (1 : Nat)) * (16 : Nat)) ≤ (70368744177664 : Nat)))) && true)
             (br (inB i512 (4 : Nat))
              (br (decide ((Int.toNat i512) < (4 : Nat)))
               (k0 (IntKind.wrap .u16 i512) (List.set l526 (Int.toNat i512) (Nat.cast ((List.length l528) + (1 : Nat)) : Int)) l527 ((sub l528 (0 : Nat) (List.length l528)) ++ ((i529 , (0 : Int)) :: ([] : List (((Sh.int IntKind.i64).pair (Sh.int IntKind.i64)).T)))))
               (none))
              (none))
             (none))))
          (br (((fits (0 : Nat) (List.length l528) l528) && (decide ((((List.length l528) + (1 : Nat)) * (16 : Nat)) ≤ (70368744177664 : Nat)))) && true)
           (br (inB i512 (4 : Nat))
            (br (decide ((Int.toNat i512) < (4 : Nat)))
             (k0 (IntKind.wrap .u16 i512) (List.set l526 (Int.toNat i512) (Nat.cast ((List.length l528) + (1 : Nat)) : Int)) l527 ((sub l528 (0 : Nat) (List.length l528)) ++ ((i509 , (0 : Int)) :: ([] : List (((Sh.int IntKind.i64).pair (Sh.int IntKind.i64)).T)))))
             (none))
            (none))
           (none))))))
      (br (!b513)
       (k0 (65304 : Int) l514 l515 l516)
       (br (!(decide (i511 = (0 : Int))))
        (c1 x0 false
         (fun i531 i532 => br (!(decide (i532 = (0 : Int))))
          (k0 i532 l514 l515 l516)
          (br (((fits (0 : Nat) (List.length l516) l516) && (decide ((((List.length l516) + (1 : Nat)) * (16 : Nat)) ≤ (70368744177664 : Nat)))) && true)
           (br (inB i512 (4 : Nat))
            (br (decide ((Int.toNat i512) < (4 : Nat)))
             (k0 (IntKind.wrap .u16 i512) (List.set l514 (Int.toNat i512) (Nat.cast ((List.length l516) + (1 : Nat)) : Int)) l515 ((sub l516 (0 : Nat) (List.length l516)) ++ ((i531 , (0 : Int)) :: ([] : List (((Sh.int IntKind.i64).pair (Sh.int IntKind.i64)).T)))))
             (none))
            (none))
           (none))))
        (br (((fits (0 : Nat) (List.length l516) l516) && (decide ((((List.length l516) + (1 : Nat)) * (16 : Nat)) ≤ (70368744177664 : Nat)))) && true)
         (br (inB i512 (4 : Nat))
          (br (decide ((Int.toNat i512) < (4 : Nat)))
           (k0 (IntKind.wrap .u16 i512) (List.set l514 (Int.toNat i512) (Nat.cast ((List.length l516) + (1 : Nat)) : Int)) l515 ((sub l516 (0 : Nat) (List.length l516)) ++ ((i509 , (0 : Int)) :: ([] : List (((Sh.int IntKind.i64).pair (Sh.int IntKind.i64)).T)))))
           (none))
          (none))
         (none))))))))
noncomputable def files_Files_Open_9fbb (N : Nat) {R : Type} (x0 : ByteArray) (x1 : List (Int)) (x2 : List ((Int) × (List (Int)))) (x3 : List ((Int) × (Int))) (k0 : (Int) → (List (Int)) → (List ((Int) × (List (Int)))) → (List ((Int) × (Int))) → Option R) : Option R := files_Files_Open_9fbb_T N (@tree_Tree_Make_c502 N) (@tree_Tree_Make N) (@files_Files_may_f601 N) (@files_Files_may_9fbb N) (@files_Files_free_18fa N) (@files_Files_free_d57c N) (@tree_Tree_Find_fb98 N) (@tree_Tree_Find N) x0 x1 x2 x3 k0
abbrev files_Files_file_b447_Ty : Type 1 := {R : Type} → (Int) → (List (Int)) → (Int) → (List (((ByteArray) × (ByteArray)) × ((Int) × (Bool)))) → (List ((Int) × (List (Int)))) → (List ((Int) × (Int))) → ((List (Int)) → (Int) → (List (((ByteArray) × (ByteArray)) × ((Int) × (Bool)))) → (List ((Int) × (List (Int)))) → (List ((Int) × (Int))) → Option R) → ((Int) → (List (Int)) → (Int) → (List (((ByteArray) × (ByteArray)) × ((Int) × (Bool)))) → (List ((Int) × (List (Int)))) → (List ((Int) × (Int))) → Option R) → Option R
noncomputable def files_Files_file_b447_T (N : Nat) {R : Type} (x0 : Int) (x1 : List (Int)) (x2 : Int) (x3 : List (((ByteArray) × (ByteArray)) × ((Int) × (Bool)))) (x4 : List ((Int) × (List (Int)))) (x5 : List ((Int) × (Int))) (k0 : (List (Int)) → (Int) → (List (((ByteArray) × (ByteArray)) × ((Int) × (Bool)))) → (List ((Int) × (List (Int)))) → (List ((Int) × (Int))) → Option R) (k1 : (Int) → (List (Int)) → (Int) → (List (((ByteArray) × (ByteArray)) × ((Int) × (Bool)))) → (List ((Int) × (List (Int)))) → (List ((Int) × (Int))) → Option R) : Option R :=
  br (!(decide ((4 : Int) ≤ x0)))
  (br (inB x0 (4 : Nat))
   (br (decide ((Int.toNat x0) < (4 : Nat)))
    (br (decide ((List.getD x1 (Int.toNat x0) (0 : Int)) = (0 : Int)))
     (k0 x1 x2 x3 x4 x5)
     (br (inB x0 (4 : Nat))
      (br (decide ((Int.toNat x0) < (4 : Nat)))
       (br (inB (IntKind.wrap .i64 ((List.getD x1 (Int.toNat x0) (0 : Int)) - (1 : Int))) (List.length x5))
        (k1 (IntKind.wrap .i64 ((List.getD x1 (Int.toNat x0) (0 : Int)) - (1 : Int))) x1 x2 x3 x4 x5)
        (none))
       (none))
      (none)))
    (none))
   (none))
  (k0 x1 x2 x3 x4 x5)
noncomputable def files_Files_file_b447 (N : Nat) {R : Type} (x0 : Int) (x1 : List (Int)) (x2 : Int) (x3 : List (((ByteArray) × (ByteArray)) × ((Int) × (Bool)))) (x4 : List ((Int) × (List (Int)))) (x5 : List ((Int) × (Int))) (k0 : (List (Int)) → (Int) → (List (((ByteArray) × (ByteArray)) × ((Int) × (Bool)))) → (List ((Int) × (List (Int)))) → (List ((Int) × (Int))) → Option R) (k1 : (Int) → (List (Int)) → (Int) → (List (((ByteArray) × (ByteArray)) × ((Int) × (Bool)))) → (List ((Int) × (List (Int)))) → (List ((Int) × (Int))) → Option R) : Option R := files_Files_file_b447_T N x0 x1 x2 x3 x4 x5 k0 k1
abbrev files_Files_file_c411_Ty : Type 1 := {R : Type} → (Int) → (List (Int)) → (List ((Int) × (List (Int)))) → (List ((Int) × (Int))) → ((List (Int)) → (List ((Int) × (List (Int)))) → (List ((Int) × (Int))) → Option R) → ((Int) → (List (Int)) → (List ((Int) × (List (Int)))) → (List ((Int) × (Int))) → Option R) → Option R
noncomputable def files_Files_file_c411_T (N : Nat) {R : Type} (x0 : Int) (x1 : List (Int)) (x2 : List ((Int) × (List (Int)))) (x3 : List ((Int) × (Int))) (k0 : (List (Int)) → (List ((Int) × (List (Int)))) → (List ((Int) × (Int))) → Option R) (k1 : (Int) → (List (Int)) → (List ((Int) × (List (Int)))) → (List ((Int) × (Int))) → Option R) : Option R :=
  br (!(decide ((4 : Int) ≤ x0)))
  (br (inB x0 (4 : Nat))
   (br (decide ((Int.toNat x0) < (4 : Nat)))
    (br (decide ((List.getD x1 (Int.toNat x0) (0 : Int)) = (0 : Int)))
     (k0 x1 x2 x3)
     (br (inB x0 (4 : Nat))
      (br (decide ((Int.toNat x0) < (4 : Nat)))
       (br (inB (IntKind.wrap .i64 ((List.getD x1 (Int.toNat x0) (0 : Int)) - (1 : Int))) (List.length x3))
        (k1 (IntKind.wrap .i64 ((List.getD x1 (Int.toNat x0) (0 : Int)) - (1 : Int))) x1 x2 x3)
        (none))
       (none))
      (none)))
    (none))
   (none))
  (k0 x1 x2 x3)
noncomputable def files_Files_file_c411 (N : Nat) {R : Type} (x0 : Int) (x1 : List (Int)) (x2 : List ((Int) × (List (Int)))) (x3 : List ((Int) × (Int))) (k0 : (List (Int)) → (List ((Int) × (List (Int)))) → (List ((Int) × (Int))) → Option R) (k1 : (Int) → (List (Int)) → (List ((Int) × (List (Int)))) → (List ((Int) × (Int))) → Option R) : Option R := files_Files_file_c411_T N x0 x1 x2 x3 k0 k1
abbrev slices_Clone__byte_byte_Ty : Type 1 := {R : Type} → (List (Int)) → ((List (Int)) → Option R) → Option R
noncomputable def slices_Clone__byte_byte {R : Type} (x0 : List (Int)) (k0 : (List (Int)) → Option R) : Option R := br ((decide (((0 : Nat) + (List.length x0)) * (1 : Nat) ≤ (70368744177664 : Nat))) && true) (k0 x0) (none)
abbrev files_New_38f2_l0_Ty : Type 1 := {R : Type} → ((List (Int)) → (Int) → (List (((ByteArray) × (ByteArray)) × ((Int) × (Bool)))) → (List ((Int) × (List (Int)))) → (List ((Int) × (Int))) → Option R) → Nat → (Int) → (Int) → (List (Int)) → (Int) → (List (((ByteArray) × (ByteArray)) × ((Int) × (Bool)))) → (List ((Int) × (List (Int)))) → (List ((Int) × (Int))) → Option R
abbrev files_New_38f2_Ty : Type 1 := {R : Type} → ((Int) → Option R) → ((Int) → (List (Int)) → (Int) → (List (((ByteArray) × (ByteArray)) × ((Int) × (Bool)))) → (List ((Int) × (List (Int)))) → (List ((Int) × (Int))) → Option R) → Option R
noncomputable def files_New_38f2_l0_T0 (N : Nat) (c0 : tree_New_1c12_Ty) (c1 : tree_New_644a_Ty) (c2 : slices_Clone__byte_byte_Ty) {R : Type} (nx : (Int) → (Int) → (List (Int)) → (Int) → (List (((ByteArray) × (ByteArray)) × ((Int) × (Bool)))) → (List ((Int) × (List (Int)))) → (List ((Int) × (Int))) → Option R) (k0 : (List (Int)) → (Int) → (List (((ByteArray) × (ByteArray)) × ((Int) × (Bool)))) → (List ((Int) × (List (Int)))) → (List ((Int) × (Int))) → Option R) (x0 : Int) (x1 : Int) (x2 : List (Int)) (x3 : Int) (x4 : List (((ByteArray) × (ByteArray)) × ((Int) × (Bool)))) (x5 : List ((Int) × (List (Int)))) (x6 : List ((Int) × (Int))) : Option R :=
  br (decide (x1 < x0))
  (none)
  (k0 x2 x3 x4 x5 x6)
noncomputable def files_New_38f2_l0 (N : Nat) {R : Type} (k0 : (List (Int)) → (Int) → (List (((ByteArray) × (ByteArray)) × ((Int) × (Bool)))) → (List ((Int) × (List (Int)))) → (List ((Int) × (Int))) → Option R) : Nat → (Int) → (Int) → (List (Int)) → (Int) → (List (((ByteArray) × (ByteArray)) × ((Int) × (Bool)))) → (List ((Int) × (List (Int)))) → (List ((Int) × (Int))) → Option R
  | 0, _, _, _, _, _, _, _ => none
  | n + 1, x0, x1, x2, x3, x4, x5, x6 => files_New_38f2_l0_T0 N (@tree_New_1c12 N) (@tree_New_644a N) @slices_Clone__byte_byte (fun x0 x1 x2 x3 x4 x5 x6 => files_New_38f2_l0 N k0 n x0 x1 x2 x3 x4 x5 x6) k0 x0 x1 x2 x3 x4 x5 x6
noncomputable def files_New_38f2_T (N : Nat) (c0 : tree_New_1c12_Ty) (c1 : tree_New_644a_Ty) (c2 : slices_Clone__byte_byte_Ty) (w0 : files_New_38f2_l0_Ty) {R : Type} (k0 : (Int) → Option R) (k1 : (Int) → (List (Int)) → (Int) → (List (((ByteArray) × (ByteArray)) × ((Int) × (Bool)))) → (List ((Int) × (List (Int)))) → (List ((Int) × (Int))) → Option R) : Option R :=
  c0
  (fun i2 i3 l4 => br (!(decide (i2 = (0 : Int))))
   (k0 i2)
   (w0
    (fun l5 i6 l7 l8 l9 => k1 (0 : Int) l5 i6 l7 l8 l9)
    N (0 : Int) (0 : Int) ((0 : Int) :: ((0 : Int) :: ((0 : Int) :: ((0 : Int) :: ([] : List ((Sh.int IntKind.i64).T)))))) i3 l4 ([] : List (((Sh.int IntKind.i64).T) × ((Sh.int IntKind.u8).isl.T))) ([] : List (((Sh.int IntKind.i64).pair (Sh.int IntKind.i64)).T))))
noncomputable def files_New_38f2 (N : Nat) {R : Type} (k0 : (Int) → Option R) (k1 : (Int) → (List (Int)) → (Int) → (List (((ByteArray) × (ByteArray)) × ((Int) × (Bool)))) → (List ((Int) × (List (Int)))) → (List ((Int) × (Int))) → Option R) : Option R := files_New_38f2_T N (@tree_New_1c12 N) (@tree_New_644a N) @slices_Clone__byte_byte (@files_New_38f2_l0 N) k0 k1
inductive files_New_bfc2_S0 where
  | v0 (x0 : Int) (x1 : Int) (x2 : List ((ByteArray) × ((Bool) × (Int)))) (x3 : List (List (Int))) (x4 : List (Int)) (x5 : List ((Int) × (List (Int)))) (x6 : List ((Int) × (Int)))
  | v1 (x0 : Nat) (x1 : Nat) (x2 : Int) (x3 : Int) (x4 : List ((ByteArray) × ((Bool) × (Int)))) (x5 : List (List (Int))) (x6 : List (Int)) (x7 : List ((Int) × (List (Int)))) (x8 : List ((Int) × (Int)))
  | v2 (x0 : Int) (x1 : Int) (x2 : List ((ByteArray) × ((Bool) × (Int)))) (x3 : List (List (Int))) (x4 : List (Int)) (x5 : Int) (x6 : List (((ByteArray) × (ByteArray)) × ((Int) × (Bool)))) (x7 : List ((Int) × (List (Int)))) (x8 : List ((Int) × (Int)))
  | v3 (x0 : Nat) (x1 : Nat) (x2 : Int) (x3 : Int) (x4 : List ((ByteArray) × ((Bool) × (Int)))) (x5 : List (List (Int))) (x6 : List (Int)) (x7 : Int) (x8 : List (((ByteArray) × (ByteArray)) × ((Int) × (Bool)))) (x9 : List ((Int) × (List (Int)))) (x10 : List ((Int) × (Int)))
abbrev files_New_bfc2_l0_Ty : Type 1 := {R : Type} → ((Int) → (List ((ByteArray) × ((Bool) × (Int)))) → (List (List (Int))) → (List (Int)) → (List ((Int) × (List (Int)))) → (List ((Int) × (Int))) → Option R) → ((List ((ByteArray) × ((Bool) × (Int)))) → (List (List (Int))) → (List (Int)) → (List ((Int) × (List (Int)))) → (List ((Int) × (Int))) → Option R) → ((Nat) → (Nat) → (Int) → (List ((ByteArray) × ((Bool) × (Int)))) → (List (List (Int))) → (List (Int)) → (List ((Int) × (List (Int)))) → (List ((Int) × (Int))) → Option R) → ((Nat) → (Nat) → (List ((ByteArray) × ((Bool) × (Int)))) → (List (List (Int))) → (List (Int)) → (List ((Int) × (List (Int)))) → (List ((Int) × (Int))) → Option R) → ((Int) → (List ((ByteArray) × ((Bool) × (Int)))) → (List (List (Int))) → (List (Int)) → (Int) → (List (((ByteArray) × (ByteArray)) × ((Int) × (Bool)))) → (List ((Int) × (List (Int)))) → (List ((Int) × (Int))) → Option R) → ((List ((ByteArray) × ((Bool) × (Int)))) → (List (List (Int))) → (List (Int)) → (Int) → (List (((ByteArray) × (ByteArray)) × ((Int) × (Bool)))) → (List ((Int) × (List (Int)))) → (List ((Int) × (Int))) → Option R) → ((Nat) → (Nat) → (Int) → (List ((ByteArray) × ((Bool) × (Int)))) → (List (List (Int))) → (List (Int)) → (Int) → (List (((ByteArray) × (ByteArray)) × ((Int) × (Bool)))) → (List ((Int) × (List (Int)))) → (List ((Int) × (Int))) → Option R) → ((Nat) → (Nat) → (List ((ByteArray) × ((Bool) × (Int)))) → (List (List (Int))) → (List (Int)) → (Int) → (List (((ByteArray) × (ByteArray)) × ((Int) × (Bool)))) → (List ((Int) × (List (Int)))) → (List ((Int) × (Int))) → Option R) → Nat → files_New_bfc2_S0 → Option R
abbrev files_New_bfc2_Ty : Type 1 := {R : Type} → (List ((ByteArray) × ((Bool) × (Int)))) → (List (List (Int))) → ((Int) → (List ((ByteArray) × ((Bool) × (Int)))) → (List (List (Int))) → Option R) → ((Int) → (List ((ByteArray) × ((Bool) × (Int)))) → (List (List (Int))) → (List (Int)) → (List ((Int) × (List (Int)))) → (List ((Int) × (Int))) → Option R) → ((Int) → (List ((ByteArray) × ((Bool) × (Int)))) → (List (List (Int))) → (List (Int)) → (Int) → (List (((ByteArray) × (ByteArray)) × ((Int) × (Bool)))) → (List ((Int) × (List (Int)))) → (List ((Int) × (Int))) → Option R) → Option R
noncomputable def files_New_bfc2_l0_T0 (N : Nat) (c0 : tree_New_1c12_Ty) (c1 : tree_New_644a_Ty) (c2 : slices_Clone__byte_byte_Ty) {R : Type} (nx : files_New_bfc2_S0 → Option R) (k0 : (Int) → (List ((ByteArray) × ((Bool) × (Int)))) → (List (List (Int))) → (List (Int)) → (List ((Int) × (List (Int)))) → (List ((Int) × (Int))) → Option R) (k1 : (List ((ByteArray) × ((Bool) × (Int)))) → (List (List (Int))) → (List (Int)) → (List ((Int) × (List (Int)))) → (List ((Int) × (Int))) → Option R) (k2 : (Nat) → (Nat) → (Int) → (List ((ByteArray) × ((Bool) × (Int)))) → (List (List (Int))) → (List (Int)) → (List ((Int) × (List (Int)))) → (List ((Int) × (Int))) → Option R) (k3 : (Nat) → (Nat) → (List ((ByteArray) × ((Bool) × (Int)))) → (List (List (Int))) → (List (Int)) → (List ((Int) × (List (Int)))) → (List ((Int) × (Int))) → Option R) (k4 : (Int) → (List ((ByteArray) × ((Bool) × (Int)))) → (List (List (Int))) → (List (Int)) → (Int) → (List (((ByteArray) × (ByteArray)) × ((Int) × (Bool)))) → (List ((Int) × (List (Int)))) → (List ((Int) × (Int))) → Option R) (k5 : (List ((ByteArray) × ((Bool) × (Int)))) → (List (List (Int))) → (List (Int)) → (Int) → (List (((ByteArray) × (ByteArray)) × ((Int) × (Bool)))) → (List ((Int) × (List (Int)))) → (List ((Int) × (Int))) → Option R) (k6 : (Nat) → (Nat) → (Int) → (List ((ByteArray) × ((Bool) × (Int)))) → (List (List (Int))) → (List (Int)) → (Int) → (List (((ByteArray) × (ByteArray)) × ((Int) × (Bool)))) → (List ((Int) × (List (Int)))) → (List ((Int) × (Int))) → Option R) (k7 : (Nat) → (Nat) → (List ((ByteArray) × ((Bool) × (Int)))) → (List (List (Int))) → (List (Int)) → (Int) → (List (((ByteArray) × (ByteArray)) × ((Int) × (Bool)))) → (List ((Int) × (List (Int)))) → (List ((Int) × (Int))) → Option R) (x0 : Int) (x1 : Int) (x2 : List ((ByteArray) × ((Bool) × (Int)))) (x3 : List (List (Int))) (x4 : List (Int)) (x5 : List ((Int) × (List (Int)))) (x6 : List ((Int) × (Int))) : Option R :=
  br (decide (x1 < x0))
  (br (inB x1 (List.length x2))
   (br (decide ((Int.toNat x1) < (List.length x2)))
    (br (List.getD x2 (Int.toNat x1) ((bs []) , (false , (0 : Int)))).2.1
     (nx (.v0 x0 (IntKind.wrap .i64 (x1 + (1 : Int))) x2 x3 x4 x5 x6))
     (br (!(decide ((Nat.cast (List.length x3) : Int) = (0 : Int))))
      (br (inB (0 : Int) (List.length x3))
       (br (decide ((0 : Nat) < (List.length x3)))
        (br (decide ((8 : Int) < (Nat.cast (List.length (List.getD x3 (0 : Nat) (Sh.zero (.isl (.int .u8))))) : Int)))
         (k0 (12 : Int) x2 x3 x4 x5 x6)
         (br (inB (0 : Int) (List.length x3))
          (br (decide ((0 : Nat) < (List.length x3)))
           (c2 (List.getD x3 (0 : Nat) (Sh.zero (.isl (.int .u8))))
            (fun l345 => br (decide (x1 = x1))
             (br (fits (0 : Nat) (List.length l345) l345)
              (br (leB (1 : Int) (List.length x3))
               (nx (.v1 (1 : Nat) ((List.length x3) - (1 : Nat)) x0 (IntKind.wrap .i64 (x1 + (1 : Int))) x2 x3 x4 (mput (.int .i64) (.isl (.int .u8)) x5 x1 (sub l345 (0 : Nat) (List.length l345))) x6))
               (none))
              (none))
             (none)))
           (none))
          (none)))
        (none))
       (none))
      (k0 (12 : Int) x2 x3 x4 x5 x6)))
    (none))
   (none))
  (k1 x2 x3 x4 x5 x6)
noncomputable def files_New_bfc2_l0_T1 (N : Nat) (c0 : tree_New_1c12_Ty) (c1 : tree_New_644a_Ty) (c2 : slices_Clone__byte_byte_Ty) {R : Type} (nx : files_New_bfc2_S0 → Option R) (k0 : (Int) → (List ((ByteArray) × ((Bool) × (Int)))) → (List (List (Int))) → (List (Int)) → (List ((Int) × (List (Int)))) → (List ((Int) × (Int))) → Option R) (k1 : (List ((ByteArray) × ((Bool) × (Int)))) → (List (List (Int))) → (List (Int)) → (List ((Int) × (List (Int)))) → (List ((Int) × (Int))) → Option R) (k2 : (Nat) → (Nat) → (Int) → (List ((ByteArray) × ((Bool) × (Int)))) → (List (List (Int))) → (List (Int)) → (List ((Int) × (List (Int)))) → (List ((Int) × (Int))) → Option R) (k3 : (Nat) → (Nat) → (List ((ByteArray) × ((Bool) × (Int)))) → (List (List (Int))) → (List (Int)) → (List ((Int) × (List (Int)))) → (List ((Int) × (Int))) → Option R) (k4 : (Int) → (List ((ByteArray) × ((Bool) × (Int)))) → (List (List (Int))) → (List (Int)) → (Int) → (List (((ByteArray) × (ByteArray)) × ((Int) × (Bool)))) → (List ((Int) × (List (Int)))) → (List ((Int) × (Int))) → Option R) (k5 : (List ((ByteArray) × ((Bool) × (Int)))) → (List (List (Int))) → (List (Int)) → (Int) → (List (((ByteArray) × (ByteArray)) × ((Int) × (Bool)))) → (List ((Int) × (List (Int)))) → (List ((Int) × (Int))) → Option R) (k6 : (Nat) → (Nat) → (Int) → (List ((ByteArray) × ((Bool) × (Int)))) → (List (List (Int))) → (List (Int)) → (Int) → (List (((ByteArray) × (ByteArray)) × ((Int) × (Bool)))) → (List ((Int) × (List (Int)))) → (List ((Int) × (Int))) → Option R) (k7 : (Nat) → (Nat) → (List ((ByteArray) × ((Bool) × (Int)))) → (List (List (Int))) → (List (Int)) → (Int) → (List (((ByteArray) × (ByteArray)) × ((Int) × (Bool)))) → (List ((Int) × (List (Int)))) → (List ((Int) × (Int))) → Option R) (x0 : Nat) (x1 : Nat) (x2 : Int) (x3 : Int) (x4 : List ((ByteArray) × ((Bool) × (Int)))) (x5 : List (List (Int))) (x6 : List (Int)) (x7 : List ((Int) × (List (Int)))) (x8 : List ((Int) × (Int))) : Option R :=
  br (decide (x3 < x2))
  (br (inB x3 (List.length x4))
   (br (decide ((Int.toNat x3) < (List.length x4)))
    (br (List.getD x4 (Int.toNat x3) ((bs []) , (false , (0 : Int)))).2.1
     (nx (.v1 x0 x1 x2 (IntKind.wrap .i64 (x3 + (1 : Int))) x4 x5 x6 x7 x8))
     (br (!(decide ((Nat.cast x1 : Int) = (0 : Int))))
      (br (inB (0 : Int) x1)
       (br (decide ((Int.toNat (addLo x0 (0 : Int))) < (List.length x5)))
        (br (decide ((8 : Int) < (Nat.cast (List.length (List.getD x5 (Int.toNat (addLo x0 (0 : Int))) (Sh.zero (.isl (.int .u8))))) : Int)))
         (k2 x0 x1 (12 : Int) x4 x5 x6 x7 x8)
         (br (inB (0 : Int) x1)
          (br (decide ((Int.toNat (addLo x0 (0 : Int))) < (List.length x5)))
           (c2 (List.getD x5 (Int.toNat (addLo x0 (0 : Int))) (Sh.zero (.isl (.int .u8))))
            (fun l346 => br (decide (x3 = x3))
             (br (fits (0 : Nat) (List.length l346) l346)
              (br (leB (1 : Int) x1)
               (nx (.v1 (addN x0 (1 : Nat)) (x1 - (1 : Nat)) x2 (IntKind.wrap .i64 (x3 + (1 : Int))) x4 x5 x6 (mput (.int .i64) (.isl (.int .u8)) x7 x3 (sub l346 (0 : Nat) (List.length l346))) x8))
               (none))
              (none))
             (none)))
           (none))
          (none)))
        (none))
       (none))
      (k2 x0 x1 (12 : Int) x4 x5 x6 x7 x8)))
    (none))
   (none))
  (k3 x0 x1 x4 x5 x6 x7 x8)
noncomputable def files_New_bfc2_l0_T2 (N : Nat) (c0 : tree_New_1c12_Ty) (c1 : tree_New_644a_Ty) (c2 : slices_Clone__byte_byte_Ty) {R : Type} (nx : files_New_bfc2_S0 → Option R) (k0 : (Int) → (List ((ByteArray) × ((Bool) × (Int)))) → (List (List (Int))) → (List (Int)) → (List ((Int) × (List (Int)))) → (List ((Int) × (Int))) → Option R) (k1 : (List ((ByteArray) × ((Bool) × (Int)))) → (List (List (Int))) → (List (Int)) → (List ((Int) × (List (Int)))) → (List ((Int) × (Int))) → Option R) (k2 : (Nat) → (Nat) → (Int) → (List ((ByteArray) × ((Bool) × (Int)))) → (List (List (Int))) → (List (Int)) → (List ((Int) × (List (Int)))) → (List ((Int) × (Int))) → Option R) (k3 : (Nat) → (Nat) → (List ((ByteArray) × ((Bool) × (Int)))) → (List (List (Int))) → (List (Int)) → (List ((Int) × (List (Int)))) → (List ((Int) × (Int))) → Option R) (k4 : (Int) → (List ((ByteArray) × ((Bool) × (Int)))) → (List (List (Int))) → (List (Int)) → (Int) → (List (((ByteArray) × (ByteArray)) × ((Int) × (Bool)))) → (List ((Int) × (List (Int)))) → (List ((Int) × (Int))) → Option R) (k5 : (List ((ByteArray) × ((Bool) × (Int)))) → (List (List (Int))) → (List (Int)) → (Int) → (List (((ByteArray) × (ByteArray)) × ((Int) × (Bool)))) → (List ((Int) × (List (Int)))) → (List ((Int) × (Int))) → Option R) (k6 : (Nat) → (Nat) → (Int) → (List ((ByteArray) × ((Bool) × (Int)))) → (List (List (Int))) → (List (Int)) → (Int) → (List (((ByteArray) × (ByteArray)) × ((Int) × (Bool)))) → (List ((Int) × (List (Int)))) → (List ((Int) × (Int))) → Option R) (k7 : (Nat) → (Nat) → (List ((ByteArray) × ((Bool) × (Int)))) → (List (List (Int))) → (List (Int)) → (Int) → (List (((ByteArray) × (ByteArray)) × ((Int) × (Bool)))) → (List ((Int) × (List (Int)))) → (List ((Int) × (Int))) → Option R) (x0 : Int) (x1 : Int) (x2 : List ((ByteArray) × ((Bool) × (Int)))) (x3 : List (List (Int))) (x4 : List (Int)) (x5 : Int) (x6 : List (((ByteArray) × (ByteArray)) × ((Int) × (Bool)))) (x7 : List ((Int) × (List (Int)))) (x8 : List ((Int) × (Int))) : Option R :=
  br (decide (x1 < x0))
  (br (inB x1 (List.length x2))
   (br (decide ((Int.toNat x1) < (List.length x2)))
    (br (List.getD x2 (Int.toNat x1) ((bs []) , (false , (0 : Int)))).2.1
     (nx (.v2 x0 (IntKind.wrap .i64 (x1 + (1 : Int))) x2 x3 x4 x5 x6 x7 x8))
     (br (!(decide ((Nat.cast (List.length x3) : Int) = (0 : Int))))
      (br (inB (0 : Int) (List.length x3))
       (br (decide ((0 : Nat) < (List.length x3)))
        (br (decide ((8 : Int) < (Nat.cast (List.length (List.getD x3 (0 : Nat) (Sh.zero (.isl (.int .u8))))) : Int)))
         (k4 (12 : Int) x2 x3 x4 x5 x6 x7 x8)
         (br (inB (0 : Int) (List.length x3))
          (br (decide ((0 : Nat) < (List.length x3)))
           (c2 (List.getD x3 (0 : Nat) (Sh.zero (.isl (.int .u8))))
            (fun l347 => br (decide (x1 = x1))
             (br (fits (0 : Nat) (List.length l347) l347)
              (br (leB (1 : Int) (List.length x3))
               (nx (.v3 (1 : Nat) ((List.length x3) - (1 : Nat)) x0 (IntKind.wrap .i64 (x1 + (1 : Int))) x2 x3 x4 x5 x6 (mput (.int .i64) (.isl (.int .u8)) x7 x1 (sub l347 (0 : Nat) (List.length l347))) x8))
               (none))
              (none))
             (none)))
           (none))
          (none)))
        (none))
       (none))
      (k4 (12 : Int) x2 x3 x4 x5 x6 x7 x8)))
    (none))
   (none))
  (k5 x2 x3 x4 x5 x6 x7 x8)
noncomputable def files_New_bfc2_l0_T3 (N : Nat) (c0 : tree_New_1c12_Ty) (c1 : tree_New_644a_Ty) (c2 : slices_Clone__byte_byte_Ty) {R : Type} (nx : files_New_bfc2_S0 → Option R) (k0 : (Int) → (List ((ByteArray) × ((Bool) × (Int)))) → (List (List (Int))) → (List (Int)) → (List ((Int) × (List (Int)))) → (List ((Int) × (Int))) → Option R) (k1 : (List ((ByteArray) × ((Bool) × (Int)))) → (List (List (Int))) → (List (Int)) → (List ((Int) × (List (Int)))) → (List ((Int) × (Int))) → Option R) (k2 : (Nat) → (Nat) → (Int) → (List ((ByteArray) × ((Bool) × (Int)))) → (List (List (Int))) → (List (Int)) → (List ((Int) × (List (Int)))) → (List ((Int) × (Int))) → Option R) (k3 : (Nat) → (Nat) → (List ((ByteArray) × ((Bool) × (Int)))) → (List (List (Int))) → (List (Int)) → (List ((Int) × (List (Int)))) → (List ((Int) × (Int))) → Option R) (k4 : (Int) → (List ((ByteArray) × ((Bool) × (Int)))) → (List (List (Int))) → (List (Int)) → (Int) → (List (((ByteArray) × (ByteArray)) × ((Int) × (Bool)))) → (List ((Int) × (List (Int)))) → (List ((Int) × (Int))) → Option R) (k5 : (List ((ByteArray) × ((Bool) × (Int)))) → (List (List (Int))) → (List (Int)) → (Int) → (List (((ByteArray) × (ByteArray)) × ((Int) × (Bool)))) → (List ((Int) × (List (Int)))) → (List ((Int) × (Int))) → Option R) (k6 : (Nat) → (Nat) → (Int) → (List ((ByteArray) × ((Bool) × (Int)))) → (List (List (Int))) → (List (Int)) → (Int) → (List (((ByteArray) × (ByteArray)) × ((Int) × (Bool)))) → (List ((Int) × (List (Int)))) → (List ((Int) × (Int))) → Option R) (k7 : (Nat) → (Nat) → (List ((ByteArray) × ((Bool) × (Int)))) → (List (List (Int))) → (List (Int)) → (Int) → (List (((ByteArray) × (ByteArray)) × ((Int) × (Bool)))) → (List ((Int) × (List (Int)))) → (List ((Int) × (Int))) → Option R) (x0 : Nat) (x1 : Nat) (x2 : Int) (x3 : Int) (x4 : List ((ByteArray) × ((Bool) × (Int)))) (x5 : List (List (Int))) (x6 : List (Int)) (x7 : Int) (x8 : List (((ByteArray) × (ByteArray)) × ((Int) × (Bool)))) (x9 : List ((Int) × (List (Int)))) (x10 : List ((Int) × (Int))) : Option R :=
  br (decide (x3 < x2))
  (br (inB x3 (List.length x4))
   (br (decide ((Int.toNat x3) < (List.length x4)))
    (br (List.getD x4 (Int.toNat x3) ((bs []) , (false , (0 : Int)))).2.1
     (nx (.v3 x0 x1 x2 (IntKind.wrap .i64 (x3 + (1 : Int))) x4 x5 x6 x7 x8 x9 x10))
     (br (!(decide ((Nat.cast x1 : Int) = (0 : Int))))
      (br (inB (0 : Int) x1)
       (br (decide ((Int.toNat (addLo x0 (0 : Int))) < (List.length x5)))
        (br (decide ((8 : Int) < (Nat.cast (List.length (List.getD x5 (Int.toNat (addLo x0 (0 : Int))) (Sh.zero (.isl (.int .u8))))) : Int)))
         (k6 x0 x1 (12 : Int) x4 x5 x6 x7 x8 x9 x10)
         (br (inB (0 : Int) x1)
          (br (decide ((Int.toNat (addLo x0 (0 : Int))) < (List.length x5)))
           (c2 (List.getD x5 (Int.toNat (addLo x0 (0 : Int))) (Sh.zero (.isl (.int .u8))))
            (fun l348 => br (decide (x3 = x3))
             (br (fits (0 : Nat) (List.length l348) l348)
              (br (leB (1 : Int) x1)
               (nx (.v3 (addN x0 (1 : Nat)) (x1 - (1 : Nat)) x2 (IntKind.wrap .i64 (x3 + (1 : Int))) x4 x5 x6 x7 x8 (mput (.int .i64) (.isl (.int .u8)) x9 x3 (sub l348 (0 : Nat) (List.length l348))) x10))
               (none))
              (none))
             (none)))
           (none))
          (none)))
        (none))
       (none))
      (k6 x0 x1 (12 : Int) x4 x5 x6 x7 x8 x9 x10)))
    (none))
   (none))
  (k7 x0 x1 x4 x5 x6 x7 x8 x9 x10)
noncomputable def files_New_bfc2_l0 (N : Nat) {R : Type} (k0 : (Int) → (List ((ByteArray) × ((Bool) × (Int)))) → (List (List (Int))) → (List (Int)) → (List ((Int) × (List (Int)))) → (List ((Int) × (Int))) → Option R) (k1 : (List ((ByteArray) × ((Bool) × (Int)))) → (List (List (Int))) → (List (Int)) → (List ((Int) × (List (Int)))) → (List ((Int) × (Int))) → Option R) (k2 : (Nat) → (Nat) → (Int) → (List ((ByteArray) × ((Bool) × (Int)))) → (List (List (Int))) → (List (Int)) → (List ((Int) × (List (Int)))) → (List ((Int) × (Int))) → Option R) (k3 : (Nat) → (Nat) → (List ((ByteArray) × ((Bool) × (Int)))) → (List (List (Int))) → (List (Int)) → (List ((Int) × (List (Int)))) → (List ((Int) × (Int))) → Option R) (k4 : (Int) → (List ((ByteArray) × ((Bool) × (Int)))) → (List (List (Int))) → (List (Int)) → (Int) → (List (((ByteArray) × (ByteArray)) × ((Int) × (Bool)))) → (List ((Int) × (List (Int)))) → (List ((Int) × (Int))) → Option R) (k5 : (List ((ByteArray) × ((Bool) × (Int)))) → (List (List (Int))) → (List (Int)) → (Int) → (List (((ByteArray) × (ByteArray)) × ((Int) × (Bool)))) → (List ((Int) × (List (Int)))) → (List ((Int) × (Int))) → Option R) (k6 : (Nat) → (Nat) → (Int) → (List ((ByteArray) × ((Bool) × (Int)))) → (List (List (Int))) → (List (Int)) → (Int) → (List (((ByteArray) × (ByteArray)) × ((Int) × (Bool)))) → (List ((Int) × (List (Int)))) → (List ((Int) × (Int))) → Option R) (k7 : (Nat) → (Nat) → (List ((ByteArray) × ((Bool) × (Int)))) → (List (List (Int))) → (List (Int)) → (Int) → (List (((ByteArray) × (ByteArray)) × ((Int) × (Bool)))) → (List ((Int) × (List (Int)))) → (List ((Int) × (Int))) → Option R) : Nat → files_New_bfc2_S0 → Option R
  | 0, _ => none
  | n + 1, .v0 x0 x1 x2 x3 x4 x5 x6 => files_New_bfc2_l0_T0 N (@tree_New_1c12 N) (@tree_New_644a N) @slices_Clone__byte_byte (fun s => files_New_bfc2_l0 N k0 k1 k2 k3 k4 k5 k6 k7 n s) k0 k1 k2 k3 k4 k5 k6 k7 x0 x1 x2 x3 x4 x5 x6
  | n + 1, .v1 x0 x1 x2 x3 x4 x5 x6 x7 x8 => files_New_bfc2_l0_T1 N (@tree_New_1c12 N) (@tree_New_644a N) @slices_Clone__byte_byte (fun s => files_New_bfc2_l0 N k0 k1 k2 k3 k4 k5 k6 k7 n s) k0 k1 k2 k3 k4 k5 k6 k7 x0 x1 x2 x3 x4 x5 x6 x7 x8
  | n + 1, .v2 x0 x1 x2 x3 x4 x5 x6 x7 x8 => files_New_bfc2_l0_T2 N (@tree_New_1c12 N) (@tree_New_644a N) @slices_Clone__byte_byte (fun s => files_New_bfc2_l0 N k0 k1 k2 k3 k4 k5 k6 k7 n s) k0 k1 k2 k3 k4 k5 k6 k7 x0 x1 x2 x3 x4 x5 x6 x7 x8
  | n + 1, .v3 x0 x1 x2 x3 x4 x5 x6 x7 x8 x9 x10 => files_New_bfc2_l0_T3 N (@tree_New_1c12 N) (@tree_New_644a N) @slices_Clone__byte_byte (fun s => files_New_bfc2_l0 N k0 k1 k2 k3 k4 k5 k6 k7 n s) k0 k1 k2 k3 k4 k5 k6 k7 x0 x1 x2 x3 x4 x5 x6 x7 x8 x9 x10
noncomputable def files_New_bfc2_T (N : Nat) (c0 : tree_New_1c12_Ty) (c1 : tree_New_644a_Ty) (c2 : slices_Clone__byte_byte_Ty) (w0 : files_New_bfc2_l0_Ty) {R : Type} (x0 : List ((ByteArray) × ((Bool) × (Int)))) (x1 : List (List (Int))) (k0 : (Int) → (List ((ByteArray) × ((Bool) × (Int)))) → (List (List (Int))) → Option R) (k1 : (Int) → (List ((ByteArray) × ((Bool) × (Int)))) → (List (List (Int))) → (List (Int)) → (List ((Int) × (List (Int)))) → (List ((Int) × (Int))) → Option R) (k2 : (Int) → (List ((ByteArray) × ((Bool) × (Int)))) → (List (List (Int))) → (List (Int)) → (Int) → (List (((ByteArray) × (ByteArray)) × ((Int) × (Bool)))) → (List ((Int) × (List (Int)))) → (List ((Int) × (Int))) → Option R) : Option R :=
  c1 x0
  (fun i343 l344 => br (!(decide (i343 = (0 : Int))))
   (k0 i343 l344 x1)
   (w0
    (fun i349 l350 l351 l352 l353 l354 => k0 i349 l350 l351)
    (fun l355 l356 l357 l358 l359 => br (decide ((0 : Int) < (Nat.cast (List.length l356) : Int)))
     (k0 (12 : Int) l355 l356)
     (k1 (0 : Int) l355 l356 l357 l358 l359))
    (fun n360 n361 i362 l363 l364 l365 l366 l367 => k0 i362 l363 l364)
    (fun n368 n369 l370 l371 l372 l373 l374 => br (decide ((0 : Int) < (Nat.cast n369 : Int)))
     (k0 (12 : Int) l370 l371)
     (k1 (0 : Int) l370 l371 l372 l373 l374))
    (fun i375 l376 l377 l378 i379 l380 l381 l382 => k0 i375 l376 l377)
    (fun l383 l384 l385 i386 l387 l388 l389 => br (decide ((0 : Int) < (Nat.cast (List.length l384) : Int)))
     (k0 (12 : Int) l383 l384)
     (k2 (0 : Int) l383 l384 l385 i386 l387 l388 l389))
    (fun n390 n391 i392 l393 l394 l395 i396 l397 l398 l399 => k0 i392 l393 l394)
    (fun n400 n401 l402 l403 l404 i405 l406 l407 l408 => br (decide ((0 : Int) < (Nat.cast n401 : Int)))
     (k0 (12 : Int) l402 l403)
     (k2 (0 : Int) l402 l403 l404 i405 l406 l407 l408))
    N (.v0 (Nat.cast (List.length l344) : Int) (0 : Int) l344 x1 ((0 : Int) :: ((0 : Int) :: ((0 : Int) :: ((0 : Int) :: ([] : List ((Sh.int IntKind.i64).T)))))) ([] : List (((Sh.int IntKind.i64).T) × ((Sh.int IntKind.u8).isl.T))) ([] : List (((Sh.int IntKind.i64).pair (Sh.int IntKind.i64)).T)))))
  (fun i409 l410 i411 l412 => br (!(decide (i409 = (0 : Int))))
   (k0 i409 l410 x1)
   (w0
    (fun i413 l414 l415 l416 l417 l418 => k0 i413 l414 l415)
    (fun l419 l420 l421 l422 l423 => br (decide ((0 : Int) < (Nat.cast (List.length l420) : Int)))
     (k0 (12 : Int) l419 l420)
     (k1 (0 : Int) l419 l420 l421 l422 l423))
    (fun n424 n425 i426 l427 l428 l429 l430 l431 => k0 i426 l427 l428)
    (fun n432 n433 l434 l435 l436 l437 l438 => br (decide ((0 : Int) < (Nat.cast n433 : Int)))
     (k0 (12 : Int) l434 l435)
     (k1 (0 : Int) l434 l435 l436 l437 l438))
    (fun i439 l440 l441 l442 i443 l444 l445 l446 => k0 i439 l440 l441)
    (fun l447 l448 l449 i450 l451 l452 l453 => br (decide ((0 : Int) < (Nat.cast (List.length l448) : Int)))
     (k0 (12 : Int) l447 l448)
     (k2 (0 : Int) l447 l448 l449 i450 l451 l452 l453))
    (fun n454 n455 i456 l457 l458 l459 i460 l461 l462 l463 => k0 i456 l457 l458)
    (fun n464 n465 l466 l467 l468 i469 l470 l471 l472 => br (decide ((0 : Int) < (Nat.cast n465 : Int)))
     (k0 (12 : Int) l466 l467)
     (k2 (0 : Int) l466 l467 l468 i469 l470 l471 l472))
    N (.v2 (Nat.cast (List.length l410) : Int) (0 : Int) l410 x1 ((0 : Int) :: ((0 : Int) :: ((0 : Int) :: ((0 : Int) :: ([] : List ((Sh.int IntKind.i64).T)))))) i411 l412 ([] : List (((Sh.int IntKind.i64).T) × ((Sh.int IntKind.u8).isl.T))) ([] : List (((Sh.int IntKind.i64).pair (Sh.int IntKind.i64)).T)))))
noncomputable def files_New_bfc2 (N : Nat) {R : Type} (x0 : List ((ByteArray) × ((Bool) × (Int)))) (x1 : List (List (Int))) (k0 : (Int) → (List ((ByteArray) × ((Bool) × (Int)))) → (List (List (Int))) → Option R) (k1 : (Int) → (List ((ByteArray) × ((Bool) × (Int)))) → (List (List (Int))) → (List (Int)) → (List ((Int) × (List (Int)))) → (List ((Int) × (Int))) → Option R) (k2 : (Int) → (List ((ByteArray) × ((Bool) × (Int)))) → (List (List (Int))) → (List (Int)) → (Int) → (List (((ByteArray) × (ByteArray)) × ((Int) × (Bool)))) → (List ((Int) × (List (Int)))) → (List ((Int) × (Int))) → Option R) : Option R := files_New_bfc2_T N (@tree_New_1c12 N) (@tree_New_644a N) @slices_Clone__byte_byte (@files_New_bfc2_l0 N) x0 x1 k0 k1 k2
abbrev files_sized_l0_Ty : Type 1 := {R : Type} → ((List (Int)) → Option R) → Nat → (Int) → (List (Int)) → Option R
abbrev files_sized_Ty : Type 1 := {R : Type} → (List (Int)) → (Int) → ((List (Int)) → Option R) → Option R
noncomputable def files_sized_l0_T0 (N : Nat) (c0 : slices_Clone__byte_byte_Ty) {R : Type} (nx : (Int) → (List (Int)) → Option R) (k0 : (List (Int)) → Option R) (x0 : Int) (x1 : List (Int)) : Option R :=
  br (decide ((Nat.cast (List.length x1) : Int) < x0))
  (br (((fits (0 : Nat) (List.length x1) x1) && (decide ((((List.length x1) + (1 : Nat)) * (1 : Nat)) ≤ (70368744177664 : Nat)))) && true)
   (nx x0 ((sub x1 (0 : Nat) (List.length x1)) ++ ((0 : Int) :: ([] : List ((Sh.int IntKind.u8).T)))))
   (none))
  (k0 x1)
noncomputable def files_sized_l0 (N : Nat) {R : Type} (k0 : (List (Int)) → Option R) : Nat → (Int) → (List (Int)) → Option R
  | 0, _, _ => none
  | n + 1, x0, x1 => files_sized_l0_T0 N @slices_Clone__byte_byte (fun x0 x1 => files_sized_l0 N k0 n x0 x1) k0 x0 x1
noncomputable def files_sized_T (N : Nat) (c0 : slices_Clone__byte_byte_Ty) (w0 : files_sized_l0_Ty) {R : Type} (x0 : List (Int)) (x1 : Int) (k0 : (List (Int)) → Option R) : Option R :=
  br (leB (if ((Nat.cast (List.length x0) : Int) < x1) then (Nat.cast (List.length x0) : Int) else x1) (List.length x0))
  (c0 (sub x0 (0 : Nat) ((Int.toNat (if ((Nat.cast (List.length x0) : Int) < x1) then (Nat.cast (List.length x0) : Int) else x1)) - (0 : Nat)))
   (fun l159 => w0
    (fun l160 => k0 l160)
    N x1 l159))
  (none)
noncomputable def files_sized (N : Nat) {R : Type} (x0 : List (Int)) (x1 : Int) (k0 : (List (Int)) → Option R) : Option R := files_sized_T N @slices_Clone__byte_byte (@files_sized_l0 N) x0 x1 k0
abbrev files_Files_Write_5dfd_Ty : Type 1 := {R : Type} → (Int) → (List (Int)) → (Int) → (List (((ByteArray) × (ByteArray)) × ((Int) × (Bool)))) → (List ((Int) × (List (Int)))) → (List ((Int) × (Int))) → (List (Int)) → ((Int) → (List (Int)) → (Int) → (List (((ByteArray) × (ByteArray)) × ((Int) × (Bool)))) → (List ((Int) × (List (Int)))) → (List ((Int) × (Int))) → (List (Int)) → Option R) → Option R
noncomputable def files_Files_Write_5dfd_T (N : Nat) (c0 : files_sized_Ty) (c1 : files_Files_file_b447_Ty) (c2 : files_Files_file_c411_Ty) {R : Type} (x0 : Int) (x1 : List (Int)) (x2 : Int) (x3 : List (((ByteArray) × (ByteArray)) × ((Int) × (Bool)))) (x4 : List ((Int) × (List (Int)))) (x5 : List ((Int) × (Int))) (x6 : List (Int)) (k0 : (Int) → (List (Int)) → (Int) → (List (((ByteArray) × (ByteArray)) × ((Int) × (Bool)))) → (List ((Int) × (List (Int)))) → (List ((Int) × (Int))) → (List (Int)) → Option R) : Option R :=
  c1 x0 x1 x2 x3 x4 x5
  (fun l148 i149 l150 l151 l152 => k0 (65289 : Int) l148 i149 l150 l151 l152 x6)
  (fun i153 l154 i155 l156 l157 l158 => br (decide ((Nat.cast (List.length x6) : Int) = (0 : Int)))
   (k0 (0 : Int) l154 i155 l156 l157 l158 x6)
   (br (decide ((Int.toNat i153) < (List.length l158)))
    (br (decide ((8 : Int) ≤ (List.getD l158 (Int.toNat i153) ((0 : Int) , (0 : Int))).2))
     (k0 (65308 : Int) l154 i155 l156 l157 l158 x6)
     (br (decide ((Int.toNat i153) < (List.length l158)))
      (br (leB (if ((IntKind.wrap .i64 ((8 : Int) - (List.getD l158 (Int.toNat i153) ((0 : Int) , (0 : Int))).2)) < (Nat.cast (List.length x6) : Int)) then (IntKind.wrap .i64 ((8 : Int) - (List.getD l158 (Int.toNat i153) ((0 : Int) , (0 : Int))).2)) else (Nat.cast (List.length x6) : Int)) (List.length x6))
       (br (decide ((Int.toNat i153) < (List.length l158)))
        (br (decide ((Int.toNat i153) < (List.length l158)))
         (c0 (Option.getD (mfind (.int .i64) (.isl (.int .u8)) l157 (List.getD l158 (Int.toNat i153) ((0 : Int) , (0 : Int))).1) (Sh.zero (.isl (.int .u8)))) (if ((Nat.cast (List.length (Option.getD (mfind (.int .i64) (.isl (.int .u8)) l157 (List.getD l158 (Int.toNat i153) ((0 : Int) , (0 : Int))).1) (Sh.zero (.isl (.int .u8))))) : Int) < (IntKind.wrap .i64 ((List.getD l158 (Int.toNat i153) ((0 : Int) , (0 : Int))).2 + (Nat.cast ((Int.toNat (if ((IntKind.wrap .i64 ((8 : Int) - (List.getD l158 (Int.toNat i153) ((0 : Int) , (0 : Int))).2)) < (Nat.cast (List.length x6) : Int)) then (IntKind.wrap .i64 ((8 : Int) - (List.getD l158 (Int.toNat i153) ((0 : Int) , (0 : Int))).2)) else (Nat.cast (List.length x6) : Int))) - (0 : Nat)) : Int)))) then (IntKind.wrap .i64 ((List.getD l158 (Int.toNat i153) ((0 : Int) , (0 : Int))).2 + (Nat.cast ((Int.toNat (if ((IntKind.wrap .i64 ((8 : Int) - (List.getD l158 (Int.toNat i153) ((0 : Int) , (0 : Int))).2)) < (Nat.cast (List.length x6) : Int)) then (IntKind.wrap .i64 ((8 : Int) - (List.getD l158 (Int.toNat i153) ((0 : Int) , (0 : Int))).2)) else (Nat.cast (List.length x6) : Int))) - (0 : Nat)) : Int))) else (Nat.cast (List.length (Option.getD (mfind (.int .i64) (.isl (.int .u8)) l157 (List.getD l158 (Int.toNat i153) ((0 : Int) , (0 : Int))).1) (Sh.zero (.isl (.int .u8))))) : Int))
          (fun l161 => br (decide ((Int.toNat i153) < (List.length l158)))
           (br (leB (List.getD l158 (Int.toNat i153) ((0 : Int) , (0 : Int))).2 (List.length l161))
            (br (fits (0 : Nat) ((Int.toNat (if ((IntKind.wrap .i64 ((8 : Int) - (List.getD l158 (Int.toNat i153) ((0 : Int) , (0 : Int))).2)) < (Nat.cast (List.length x6) : Int)) then (IntKind.wrap .i64 ((8 : Int) - (List.getD l158 (Int.toNat i153) ((0 : Int) , (0 : Int))).2)) else (Nat.cast (List.length x6) : Int))) - (0 : Nat)) x6)
             (br (fits (Int.toNat (List.getD l158 (Int.toNat i153) ((0 : Int) , (0 : Int))).2) ((List.length l161) - (Int.toNat (List.getD l158 (Int.toNat i153) ((0 : Int) , (0 : Int))).2)) l161)
              (br (decide ((Int.toNat i153) < (List.length l158)))
               (br (fits (0 : Nat) (List.length l161) ((List.take (Int.toNat (List.getD l158 (Int.toNat i153) ((0 : Int) , (0 : Int))).2) l161) ++ ((List.take (Min.min (List.length (sub x6 (0 : Nat) ((Int.toNat (if ((IntKind.wrap .i64 ((8 : Int) - (List.getD l158 (Int.toNat i153) ((0 : Int) , (0 : Int))).2)) < (Nat.cast (List.length x6) : Int)) then (IntKind.wrap .i64 ((8 : Int) - (List.getD l158 (Int.toNat i153) ((0 : Int) , (0 : Int))).2)) else (Nat.cast (List.length x6) : Int))) - (0 : Nat)))) ((List.length l161) - (Int.toNat (List.getD l158 (Int.toNat i153) ((0 : Int) , (0 : Int))).2))) (sub x6 (0 : Nat) ((Int.toNat (if ((IntKind.wrap .i64 ((8 : Int) - (List.getD l158 (Int.toNat i153) ((0 : Int) , (0 : Int))).2)) < (Nat.cast (List.length x6) : Int)) then (IntKind.wrap .i64 ((8 : Int) - (List.getD l158 (Int.toNat i153) ((0 : Int) , (0 : Int))).2)) else (Nat.cast (List.length x6) : Int))) - (0 : Nat)))) ++ (List.drop ((Int.toNat (List.getD l158 (Int.toNat i153) ((0 : Int) , (0 : Int))).2) + (Min.min (List.length (sub x6 (0 : Nat) ((Int.toNat (if ((IntKind.wrap .i64 ((8 : Int) - (List.getD l158 (Int.toNat i153) ((0 : Int) , (0 : Int))).2)) < (Nat.cast (List.length x6) : Int)) then (IntKind.wrap .i64 ((8 : Int) - (List.getD l158 (Int.toNat i153) ((0 : Int) , (0 : Int))).2)) else (Nat.cast (List.length x6) : Int))) - (0 : Nat)))) ((List.length l161) - (Int.toNat (List.getD l158 (Int.toNat i153) ((0 : Int) , (0 : Int))).2)))) l161))))
                (br (decide ((Int.toNat i153) < (List.length l158)))
                 (br (decide ((Int.toNat i153) < (List.length l158)))
                  (k0 (IntKind.wrap .u16 (Nat.cast ((Int.toNat (if ((IntKind.wrap .i64 ((8 : Int) - (List.getD l158 (Int.toNat i153) ((0 : Int) , (0 : Int))).2)) < (Nat.cast (List.length x6) : Int)) then (IntKind.wrap .i64 ((8 : Int) - (List.getD l158 (Int.toNat i153) ((0 : Int) , (0 : Int))).2)) else (Nat.cast (List.length x6) : Int))) - (0 : Nat)) : Int)) l154 i155 l156 (mput (.int .i64) (.isl (.int .u8)) l157 (List.getD l158 (Int.toNat i153) ((0 : Int) , (0 : Int))).1 (sub ((List.take (Int.toNat (List.getD l158 (Int.toNat i153) ((0 : Int) , (0 : Int))).2) l161) ++ ((List.take (Min.min (List.length (sub x6 (0 : Nat) ((Int.toNat (if ((IntKind.wrap .i64 ((8 : Int) - (List.getD l158 (Int.toNat i153) ((0 : Int) , (0 : Int))).2)) < (Nat.cast (List.length x6) : Int)) then (IntKind.wrap .i64 ((8 : Int) - (List.getD l158 (Int.toNat i153) ((0 : Int) , (0 : Int))).2)) else (Nat.cast (List.length x6) : Int))) - (0 : Nat)))) ((List.length l161) - (Int.toNat (List.getD l158 (Int.toNat i153) ((0 : Int) , (0 : Int))).2))) (sub x6 (0 : Nat) ((Int.toNat (if ((IntKind.wrap .i64 ((8 : Int) - (List.getD l158 (Int.toNat i153) ((0 : Int) , (0 : Int))).2)) < (Nat.cast (List.length x6) : Int)) then (IntKind.wrap .i64 ((8 : Int) - (List.getD l158 (Int.toNat i153) ((0 : Int) , (0 : Int))).2)) else (Nat.cast (List.length x6) : Int))) - (0 : Nat)))) ++ (List.drop ((Int.toNat (List.getD l158 (Int.toNat i153) ((0 : Int) , (0 : Int))).2) + (Min.min (List.length (sub x6 (0 : Nat) ((Int.toNat (if ((IntKind.wrap .i64 ((8 : Int) - (List.getD l158 (Int.toNat i153) ((0 : Int) , (0 : Int))).2)) < (Nat.cast (List.length x6) : Int)) then (IntKind.wrap .i64 ((8 : Int) - (List.getD l158 (Int.toNat i153) ((0 : Int) , (0 : Int))).2)) else (Nat.cast (List.length x6) : Int))) - (0 : Nat)))) ((List.length l161) - (Int.toNat (List.getD l158 (Int.toNat i153) ((0 : Int) , (0 : Int))).2)))) l161))) (0 : Nat) (List.length l161))) (List.set l158 (Int.toNat i153) ((List.getD l158 (Int.toNat i153) ((0 : Int) , (0 : Int))).1 , (IntKind.wrap .i64 ((List.getD l158 (Int.toNat i153) ((0 : Int) , (0 : Int))).2 + (Nat.cast ((Int.toNat (if ((IntKind.wrap .i64 ((8 : Int) - (List.getD l158 (Int.toNat i153) ((0 : Int) , (0 : Int))).2)) < (Nat.cast (List.length x6) : Int)) then (IntKind.wrap .i64 ((8 : Int) - (List.getD l158 (Int.toNat i153) ((0 : Int) , (0 : Int))).2)) else (Nat.cast (List.length x6) : Int))) - (0 : Nat)) : Int))))) x6)
                  (none))
                 (none))
                (none))
               (none))
              (none))
             (none))
            (none))
           (none)))
         (none))
        (none))
       (none))
      (none)))
    (none)))
noncomputable def files_Files_Write_5dfd (N : Nat) {R : Type} (x0 : Int) (x1 : List (Int)) (x2 : Int) (x3 : List (((ByteArray) × (ByteArray)) × ((Int) × (Bool)))) (x4 : List ((Int) × (List (Int)))) (x5 : List ((Int) × (Int))) (x6 : List (Int)) (k0 : (Int) → (List (Int)) → (Int) → (List (((ByteArray) × (ByteArray)) × ((Int) × (Bool)))) → (List ((Int) × (List (Int)))) → (List ((Int) × (Int))) → (List (Int)) → Option R) : Option R := files_Files_Write_5dfd_T N (@files_sized N) (@files_Files_file_b447 N) (@files_Files_file_c411 N) x0 x1 x2 x3 x4 x5 x6 k0
abbrev files_Files_Write_5ecf_Ty : Type 1 := {R : Type} → (Int) → (List (Int)) → (List ((Int) × (List (Int)))) → (List ((Int) × (Int))) → (List (Int)) → ((Int) → (List (Int)) → (List ((Int) × (List (Int)))) → (List ((Int) × (Int))) → (List (Int)) → Option R) → Option R
noncomputable def files_Files_Write_5ecf_T (N : Nat) (c0 : files_sized_Ty) (c1 : files_Files_file_b447_Ty) (c2 : files_Files_file_c411_Ty) {R : Type} (x0 : Int) (x1 : List (Int)) (x2 : List ((Int) × (List (Int)))) (x3 : List ((Int) × (Int))) (x4 : List (Int)) (k0 : (Int) → (List (Int)) → (List ((Int) × (List (Int)))) → (List ((Int) × (Int))) → (List (Int)) → Option R) : Option R :=
  c2 x0 x1 x2 x3
  (fun l575 l576 l577 => k0 (65289 : Int) l575 l576 l577 x4)
  (fun i578 l579 l580 l581 => br (decide ((Nat.cast (List.length x4) : Int) = (0 : Int)))
   (k0 (0 : Int) l579 l580 l581 x4)
   (br (decide ((Int.toNat i578) < (List.length l581)))
    (br (decide ((8 : Int) ≤ (List.getD l581 (Int.toNat i578) ((0 : Int) , (0 : Int))).2))
     (k0 (65308 : Int) l579 l580 l581 x4)
     (br (decide ((Int.toNat i578) < (List.length l581)))
      (br (leB (if ((IntKind.wrap .i64 ((8 : Int) - (List.getD l581 (Int.toNat i578) ((0 : Int) , (0 : Int))).2)) < (Nat.cast (List.length x4) : Int)) then (IntKind.wrap .i64 ((8 : Int) - (List.getD l581 (Int.toNat i578) ((0 : Int) , (0 : Int))).2)) else (Nat.cast (List.length x4) : Int)) (List.length x4))
       (br (decide ((Int.toNat i578) < (List.length l581)))
        (br (decide ((Int.toNat i578) < (List.length l581)))
         (c0 (Option.getD (mfind (.int .i64) (.isl (.int .u8)) l580 (List.getD l581 (Int.toNat i578) ((0 : Int) , (0 : Int))).1) (Sh.zero (.isl (.int .u8)))) (if ((Nat.cast (List.length (Option.getD (mfind (.int .i64) (.isl (.int .u8)) l580 (List.getD l581 (Int.toNat i578) ((0 : Int) , (0 : Int))).1) (Sh.zero (.isl (.int .u8))))) : Int) < (IntKind.wrap .i64 ((List.getD l581 (Int.toNat i578) ((0 : Int) , (0 : Int))).2 + (Nat.cast ((Int.toNat (if ((IntKind.wrap .i64 ((8 : Int) - (List.getD l581 (Int.toNat i578) ((0 : Int) , (0 : Int))).2)) < (Nat.cast (List.length x4) : Int)) then (IntKind.wrap .i64 ((8 : Int) - (List.getD l581 (Int.toNat i578) ((0 : Int) , (0 : Int))).2)) else (Nat.cast (List.length x4) : Int))) - (0 : Nat)) : Int)))) then (IntKind.wrap .i64 ((List.getD l581 (Int.toNat i578) ((0 : Int) , (0 : Int))).2 + (Nat.cast ((Int.toNat (if ((IntKind.wrap .i64 ((8 : Int) - (List.getD l581 (Int.toNat i578) ((0 : Int) , (0 : Int))).2)) < (Nat.cast (List.length x4) : Int)) then (IntKind.wrap .i64 ((8 : Int) - (List.getD l581 (Int.toNat i578) ((0 : Int) , (0 : Int))).2)) else (Nat.cast (List.length x4) : Int))) - (0 : Nat)) : Int))) else (Nat.cast (List.length (Option.getD (mfind (.int .i64) (.isl (.int .u8)) l580 (List.getD l581 (Int.toNat i578) ((0 : Int) , (0 : Int))).1) (Sh.zero (.isl (.int .u8))))) : Int))
          (fun l582 => br (decide ((Int.toNat i578) < (List.length l581)))
           (br (leB (List.getD l581 (Int.toNat i578) ((0 : Int) , (0 : Int))).2 (List.length l582))
            (br (fits (0 : Nat) ((Int.toNat (if ((IntKind.wrap .i64 ((8 : Int) - (List.getD l581 (Int.toNat i578) ((0 : Int) , (0 : Int))).2)) < (Nat.cast (List.length x4) : Int)) then (IntKind.wrap .i64 ((8 : Int) - (List.getD l581 (Int.toNat i578) ((0 : Int) , (0 : Int))).2)) else (Nat.cast (List.length x4) : Int))) - (0 : Nat)) x4)
             (br (fits (Int.toNat (List.getD l581 (Int.toNat i578) ((0 : Int) , (0 : Int))).2) ((List.length l582) - (Int.toNat (List.getD l581 (Int.toNat i578) ((0 : Int) , (0 : Int))).2)) l582)
              (br (decide ((Int.toNat i578) < (List.length l581)))
               (br (fits (0 : Nat) (List.length l582) ((List.take (Int.toNat (List.getD l581 (Int.toNat i578) ((0 : Int) , (0 : Int))).2) l582) ++ ((List.take (Min.min (List.length (sub x4 (0 : Nat) ((Int.toNat (if ((IntKind.wrap .i64 ((8 : Int) - (List.getD l581 (Int.toNat i578) ((0 : Int) , (0 : Int))).2)) < (Nat.cast (List.length x4) : Int)) then (IntKind.wrap .i64 ((8 : Int) - (List.getD l581 (Int.toNat i578) ((0 : Int) , (0 : Int))).2)) else (Nat.cast (List.length x4) : Int))) - (0 : Nat)))) ((List.length l582) - (Int.toNat (List.getD l581 (Int.toNat i578) ((0 : Int) , (0 : Int))).2))) (sub x4 (0 : Nat) ((Int.toNat (if ((IntKind.wrap .i64 ((8 : Int) - (List.getD l581 (Int.toNat i578) ((0 : Int) , (0 : Int))).2)) < (Nat.cast (List.length x4) : Int)) then (IntKind.wrap .i64 ((8 : Int) - (List.getD l581 (Int.toNat i578) ((0 : Int) , (0 : Int))).2)) else (Nat.cast (List.length x4) : Int))) - (0 : Nat)))) ++ (List.drop ((Int.toNat (List.getD l581 (Int.toNat i578) ((0 : Int) , (0 : Int))).2) + (Min.min (List.length (sub x4 (0 : Nat) ((Int.toNat (if ((IntKind.wrap .i64 ((8 : Int) - (List.getD l581 (Int.toNat i578) ((0 : Int) , (0 : Int))).2)) < (Nat.cast (List.length x4) : Int)) then (IntKind.wrap .i64 ((8 : Int) - (List.getD l581 (Int.toNat i578) ((0 : Int) , (0 : Int))).2)) else (Nat.cast (List.length x4) : Int))) - (0 : Nat)))) ((List.length l582) - (Int.toNat (List.getD l581 (Int.toNat i578) ((0 : Int) , (0 : Int))).2)))) l582))))
                (br (decide ((Int.toNat i578) < (List.length l581)))
                 (br (decide ((Int.toNat i578) < (List.length l581)))
                  (k0 (IntKind.wrap .u16 (Nat.cast ((Int.toNat (if ((IntKind.wrap .i64 ((8 : Int) - (List.getD l581 (Int.toNat i578) ((0 : Int) , (0 : Int))).2)) < (Nat.cast (List.length x4) : Int)) then (IntKind.wrap .i64 ((8 : Int) - (List.getD l581 (Int.toNat i578) ((0 : Int) , (0 : Int))).2)) else (Nat.cast (List.length x4) : Int))) - (0 : Nat)) : Int)) l579 (mput (.int .i64) (.isl (.int .u8)) l580 (List.getD l581 (Int.toNat i578) ((0 : Int) , (0 : Int))).1 (sub ((List.take (Int.toNat (List.getD l581 (Int.toNat i578) ((0 : Int) , (0 : Int))).2) l582) ++ ((List.take (Min.min (List.length (sub x4 (0 : Nat) ((Int.toNat (if ((IntKind.wrap .i64 ((8 : Int) - (List.getD l581 (Int.toNat i578) ((0 : Int) , (0 : Int))).2)) < (Nat.cast (List.length x4) : Int)) then (IntKind.wrap .i64 ((8 : Int) - (List.getD l581 (Int.toNat i578) ((0 : Int) , (0 : Int))).2)) else (Nat.cast (List.length x4) : Int))) - (0 : Nat)))) ((List.length l582) - (Int.toNat (List.getD l581 (Int.toNat i578) ((0 : Int) , (0 : Int))).2))) (sub x4 (0 : Nat) ((Int.toNat (if ((IntKind.wrap .i64 ((8 : Int) - (List.getD l581 (Int.toNat i578) ((0 : Int) , (0 : Int))).2)) < (Nat.cast (List.length x4) : Int)) then (IntKind.wrap .i64 ((8 : Int) - (List.getD l581 (Int.toNat i578) ((0 : Int) , (0 : Int))).2)) else (Nat.cast (List.length x4) : Int))) - (0 : Nat)))) ++ (List.drop ((Int.toNat (List.getD l581 (Int.toNat i578) ((0 : Int) , (0 : Int))).2) + (Min.min (List.length (sub x4 (0 : Nat) ((Int.toNat (if ((IntKind.wrap .i64 ((8 : Int) - (List.getD l581 (Int.toNat i578) ((0 : Int) , (0 : Int))).2)) < (Nat.cast (List.length x4) : Int)) then (IntKind.wrap .i64 ((8 : Int) - (List.getD l581 (Int.toNat i578) ((0 : Int) , (0 : Int))).2)) else (Nat.cast (List.length x4) : Int))) - (0 : Nat)))) ((List.length l582) - (Int.toNat (List.getD l581 (Int.toNat i578) ((0 : Int) , (0 : Int))).2)))) l582))) (0 : Nat) (List.length l582))) (List.set l581 (Int.toNat i578) ((List.getD l581 (Int.toNat i578) ((0 : Int) , (0 : Int))).1 , (IntKind.wrap .i64 ((List.getD l581 (Int.toNat i578) ((0 : Int) , (0 : Int))).2 + (Nat.cast ((Int.toNat (if ((IntKind.wrap .i64 ((8 : Int) - (List.getD l581 (Int.toNat i578) ((0 : Int) , (0 : Int))).2)) < (Nat.cast (List.length x4) : Int)) then (IntKind.wrap .i64 ((8 : Int) - (List.getD l581 (Int.toNat i578) ((0 : Int) , (0 : Int))).2)) else (Nat.cast (List.length x4) : Int))) - (0 : Nat)) : Int))))) x4)
                  (none))
                 (none))
                (none))
               (none))
              (none))
             (none))
            (none))
           (none)))
         (none))
        (none))
       (none))
      (none)))
    (none)))
noncomputable def files_Files_Write_5ecf (N : Nat) {R : Type} (x0 : Int) (x1 : List (Int)) (x2 : List ((Int) × (List (Int)))) (x3 : List ((Int) × (Int))) (x4 : List (Int)) (k0 : (Int) → (List (Int)) → (List ((Int) × (List (Int)))) → (List ((Int) × (Int))) → (List (Int)) → Option R) : Option R := files_Files_Write_5ecf_T N (@files_sized N) (@files_Files_file_b447 N) (@files_Files_file_c411 N) x0 x1 x2 x3 x4 k0
abbrev files_Files_Seek_0442_Ty : Type 1 := {R : Type} → (Int) → (Int) → (List (Int)) → (Int) → (List (((ByteArray) × (ByteArray)) × ((Int) × (Bool)))) → (List ((Int) × (List (Int)))) → (List ((Int) × (Int))) → ((Int) → (List (Int)) → (Int) → (List (((ByteArray) × (ByteArray)) × ((Int) × (Bool)))) → (List ((Int) × (List (Int)))) → (List ((Int) × (Int))) → Option R) → Option R
noncomputable def files_Files_Seek_0442_T (N : Nat) (c0 : files_Files_file_b447_Ty) (c1 : files_Files_file_c411_Ty) {R : Type} (x0 : Int) (x1 : Int) (x2 : List (Int)) (x3 : Int) (x4 : List (((ByteArray) × (ByteArray)) × ((Int) × (Bool)))) (x5 : List ((Int) × (List (Int)))) (x6 : List ((Int) × (Int))) (k0 : (Int) → (List (Int)) → (Int) → (List (((ByteArray) × (ByteArray)) × ((Int) × (Bool)))) → (List ((Int) × (List (Int)))) → (List ((Int) × (Int))) → Option R) : Option R :=
  c0 x0 x2 x3 x4 x5 x6
  (fun l169 i170 l171 l172 l173 => k0 (65289 : Int) l169 i170 l171 l172 l173)
  (fun i174 l175 i176 l177 l178 l179 => br (decide ((255 : Int) < x1))
   (k0 (65302 : Int) l175 i176 l177 l178 l179)
   (br (decide ((Int.toNat i174) < (List.length l179)))
    (k0 x1 l175 i176 l177 l178 (List.set l179 (Int.toNat i174) ((List.getD l179 (Int.toNat i174) ((0 : Int) , (0 : Int))).1 , (IntKind.wrap .i64 x1))))
    (none)))
noncomputable def files_Files_Seek_0442 (N : Nat) {R : Type} (x0 : Int) (x1 : Int) (x2 : List (Int)) (x3 : Int) (x4 : List (((ByteArray) × (ByteArray)) × ((Int) × (Bool)))) (x5 : List ((Int) × (List (Int)))) (x6 : List ((Int) × (Int))) (k0 : (Int) → (List (Int)) → (Int) → (List (((ByteArray) × (ByteArray)) × ((Int) × (Bool)))) → (List ((Int) × (List (Int)))) → (List ((Int) × (Int))) → Option R) : Option R := files_Files_Seek_0442_T N (@files_Files_file_b447 N) (@files_Files_file_c411 N) x0 x1 x2 x3 x4 x5 x6 k0
abbrev files_Files_Seek_4680_Ty : Type 1 := {R : Type} → (Int) → (Int) → (List (Int)) → (List ((Int) × (List (Int)))) → (List ((Int) × (Int))) → ((Int) → (List (Int)) → (List ((Int) × (List (Int)))) → (List ((Int) × (Int))) → Option R) → Option R
noncomputable def files_Files_Seek_4680_T (N : Nat) (c0 : files_Files_file_b447_Ty) (c1 : files_Files_file_c411_Ty) {R : Type} (x0 : Int) (x1 : Int) (x2 : List (Int)) (x3 : List ((Int) × (List (Int)))) (x4 : List ((Int) × (Int))) (k0 : (Int) → (List (Int)) → (List ((Int) × (List (Int)))) → (List ((Int) × (Int))) → Option R) : Option R :=
  c1 x0 x2 x3 x4
  (fun l564 l565 l566 => k0 (65289 : Int) l564 l565 l566)
  (fun i567 l568 l569 l570 => br (decide ((255 : Int) < x1))
   (k0 (65302 : Int) l568 l569 l570)
   (br (decide ((Int.toNat i567) < (List.length l570)))
    (k0 x1 l568 l569 (List.set l570 (Int.toNat i567) ((List.getD l570 (Int.toNat i567) ((0 : Int) , (0 : Int))).1 , (IntKind.wrap .i64 x1))))
    (none)))
noncomputable def files_Files_Seek_4680 (N : Nat) {R : Type} (x0 : Int) (x1 : Int) (x2 : List (Int)) (x3 : List ((Int) × (List (Int)))) (x4 : List ((Int) × (Int))) (k0 : (Int) → (List (Int)) → (List ((Int) × (List (Int)))) → (List ((Int) × (Int))) → Option R) : Option R := files_Files_Seek_4680_T N (@files_Files_file_b447 N) (@files_Files_file_c411 N) x0 x1 x2 x3 x4 k0
abbrev files_Files_Read_0442_Ty : Type 1 := {R : Type} → (Int) → (Int) → (List (Int)) → (Int) → (List (((ByteArray) × (ByteArray)) × ((Int) × (Bool)))) → (List ((Int) × (List (Int)))) → (List ((Int) × (Int))) → ((Int) → (List (Int)) → (Int) → (List (((ByteArray) × (ByteArray)) × ((Int) × (Bool)))) → (List ((Int) × (List (Int)))) → (List ((Int) × (Int))) → (List (Int)) → Option R) → Option R
noncomputable def files_Files_Read_0442_T (N : Nat) (c0 : slices_Clone__byte_byte_Ty) (c1 : files_Files_file_b447_Ty) (c2 : files_Files_file_c411_Ty) {R : Type} (x0 : Int) (x1 : Int) (x2 : List (Int)) (x3 : Int) (x4 : List (((ByteArray) × (ByteArray)) × ((Int) × (Bool)))) (x5 : List ((Int) × (List (Int)))) (x6 : List ((Int) × (Int))) (k0 : (Int) → (List (Int)) → (Int) → (List (((ByteArray) × (ByteArray)) × ((Int) × (Bool)))) → (List ((Int) × (List (Int)))) → (List ((Int) × (Int))) → (List (Int)) → Option R) : Option R :=
  c1 x0 x2 x3 x4 x5 x6
  (fun l198 i199 l200 l201 l202 => k0 (65289 : Int) l198 i199 l200 l201 l202 ([] : List ((Sh.int IntKind.u8).T)))
  (fun i203 l204 i205 l206 l207 l208 => br (decide ((Int.toNat i203) < (List.length l208)))
   (br (decide ((Int.toNat i203) < (List.length l208)))
    (br (leB (if ((Nat.cast (List.length (Option.getD (mfind (.int .i64) (.isl (.int .u8)) l207 (List.getD l208 (Int.toNat i203) ((0 : Int) , (0 : Int))).1) (Sh.zero (.isl (.int .u8))))) : Int) < (List.getD l208 (Int.toNat i203) ((0 : Int) , (0 : Int))).2) then (Nat.cast (List.length (Option.getD (mfind (.int .i64) (.isl (.int .u8)) l207 (List.getD l208 (Int.toNat i203) ((0 : Int) , (0 : Int))).1) (Sh.zero (.isl (.int .u8))))) : Int) else (List.getD l208 (Int.toNat i203) ((0 : Int) , (0 : Int))).2) (List.length (Option.getD (mfind (.int .i64) (.isl (.int .u8)) l207 (List.getD l208 (Int.toNat i203) ((0 : Int) , (0 : Int))).1) (Sh.zero (.isl (.int .u8))))))
     (br (leB (if ((Nat.cast (List.length (sub (Option.getD (mfind (.int .i64) (.isl (.int .u8)) l207 (List.getD l208 (Int.toNat i203) ((0 : Int) , (0 : Int))).1) (Sh.zero (.isl (.int .u8)))) (Int.toNat (if ((Nat.cast (List.length (Option.getD (mfind (.int .i64) (.isl (.int .u8)) l207 (List.getD l208 (Int.toNat i203) ((0 : Int) , (0 : Int))).1) (Sh.zero (.isl (.int .u8))))) : Int) < (List.getD l208 (Int.toNat i203) ((0 : Int) , (0 : Int))).2) then (Nat.cast (List.length (Option.getD (mfind (.int .i64) (.isl (.int .u8)) l207 (List.getD l208 (Int.toNat i203) ((0 : Int) , (0 : Int))).1) (Sh.zero (.isl (.int .u8))))) : Int) else (List.getD l208 (Int.toNat i203) ((0 : Int) , (0 : Int))).2)) ((List.length (Option.getD (mfind (.int .i64) (.isl (.int .u8)) l207 (List.getD l208 (Int.toNat i203) ((0 : Int) , (0 : Int))).1) (Sh.zero (.isl (.int .u8))))) - (Int.toNat (if ((Nat.cast (List.length (Option.getD (mfind (.int .i64) (.isl (.int .u8)) l207 (List.getD l208 (Int.toNat i203) ((0 : Int) , (0 : Int))).1) (Sh.zero (.isl (.int .u8))))) : Int) < (List.getD l208 (Int.toNat i203) ((0 : Int) , (0 : Int))).2) then (Nat.cast (List.length (Option.getD (mfind (.int .i64) (.isl (.int .u8)) l207 (List.getD l208 (Int.toNat i203) ((0 : Int) , (0 : Int))).1) (Sh.zero (.isl (.int .u8))))) : Int) else (List.getD l208 (Int.toNat i203) ((0 : Int) , (0 : Int))).2))))) : Int) < (IntKind.wrap .i64 x1)) then (Nat.cast (List.length (sub (Option.getD (mfind (.int .i64) (.isl (.int .u8)) l207 (List.getD l208 (Int.toNat i203) ((0 : Int) , (0 : Int))).1) (Sh.zero (.isl (.int .u8)))) (Int.toNat (if ((Nat.cast (List.length (Option.getD (mfind (.int .i64) (.isl (.int .u8)) l207 (List.getD l208 (Int.toNat i203) ((0 : Int) , (0 : Int))).1) (Sh.zero (.isl (.int .u8))))) : Int) < (List.getD l208 (Int.toNat i203) ((0 : Int) , (0 : Int))).2) then (Nat.cast (List.length (Option.getD (mfind (.int .i64) (.isl (.int .u8)) l207 (List.getD l208 (Int.toNat i203) ((0 : Int) , (0 : Int))).1) (Sh.zero (.isl (.int .u8))))) : Int) else (List.getD l208 (Int.toNat i203) ((0 : Int) , (0 : Int))).2)) ((List.length (Option.getD (mfind (.int .i64) (.isl (.int .u8)) l207 (List.getD l208 (Int.toNat i203) ((0 : Int) , (0 : Int))).1) (Sh.zero (.isl (.int .u8))))) - (Int.toNat (if ((Nat.cast (List.length (Option.getD (mfind (.int .i64) (.isl (.int .u8)) l207 (List.getD l208 (Int.toNat i203) ((0 : Int) , (0 : Int))).1) (Sh.zero (.isl (.int .u8))))) : Int) < (List.getD l208 (Int.toNat i203) ((0 : Int) , (0 : Int))).2) then (Nat.cast (List.length (Option.getD (mfind (.int .i64) (.isl (.int .u8)) l207 (List.getD l208 (Int.toNat i203) ((0 : Int) , (0 : Int))).1) (Sh.zero (.isl (.int .u8))))) : Int) else (List.getD l208 (Int.toNat i203) ((0 : Int) , (0 : Int))).2))))) : Int) else (IntKind.wrap .i64 x1)) (List.length (sub (Option.getD (mfind (.int .i64) (.isl (.int .u8)) l207 (List.getD l208 (Int.toNat i203) ((0 : Int) , (0 : Int))).1) (Sh.zero (.isl (.int .u8)))) (Int.toNat (if ((Nat.cast (List.length (Option.getD (mfind (.int .i64) (.isl (.int .u8)) l207 (List.getD l208 (Int.toNat i203) ((0 : Int) , (0 : Int))).1) (Sh.zero (.isl (.int .u8))))) : Int) < (List.getD l208 (Int.toNat i203) ((0 : Int) , (0 : Int))).2) then (Nat.cast (List.length (Option.getD (mfind (.int .i64) (.isl (.int .u8)) l207 (List.getD l208 (Int.toNat i203) ((0 : Int) , (0 : Int))).1) (Sh.zero (.isl (.int .u8))))) : Int) else (List.getD l208 (Int.toNat i203) ((0 : Int) , (0 : Int))).2)) ((List.length (Option.getD (mfind (.int .i64) (.isl (.int .u8)) l207 (List.getD l208 (Int.toNat i203) ((0 : Int) , (0 : Int))).1) (Sh.zero (.isl (.int .u8))))) - (Int.toNat (if ((Nat.cast (List.length (Option.getD (mfind (.int .i64) (.isl (.int .u8)) l207 (List.getD l208 (Int.toNat i203) ((0 : Int) , (0 : Int))).1) (Sh.zero (.isl (.int .u8))))) : Int) < (List.getD l208 (Int.toNat i203) ((0 : Int) , (0 : Int))).2) then (Nat.cast (List.length (Option.getD (mfind (.int .i64) (.isl (.int .u8)) l207 (List.getD l208 (Int.toNat i203) ((0 : Int) , (0 : Int))).1) (Sh.zero (.isl (.int .u8))))) : Int) else (List.getD l208 (Int.toNat i203) ((0 : Int) , (0 : Int))).2))))))
      (c0 (sub (sub (Option.getD (mfind (.int .i64) (.isl (.int .u8)) l207 (List.getD l208 (Int.toNat i203) ((0 : Int) , (0 : Int))).1) (Sh.zero (.isl (.int .u8)))) (Int.toNat (if ((Nat.cast (List.length (Option.getD (mfind (.int .i64) (.isl (.int .u8)) l207 (List.getD l208 (Int.toNat i203) ((0 : Int) , (0 : Int))).1) (Sh.zero (.isl (.int .u8))))) : Int) < (List.getD l208 (Int.toNat i203) ((0 : Int) , (0 : Int))).2) then (Nat.cast (List.length (Option.getD (mfind (.int .i64) (.isl (.int .u8)) l207 (List.getD l208 (Int.toNat i203) ((0 : Int) , (0 : Int))).1) (Sh.zero (.isl (.int .u8))))) : Int) else (List.getD l208 (Int.toNat i203) ((0 : Int) , (0 : Int))).2)) ((List.length (Option.getD (mfind (.int .i64) (.isl (.int .u8)) l207 (List.getD l208 (Int.toNat i203) ((0 : Int) , (0 : Int))).1) (Sh.zero (.isl (.int .u8))))) - (Int.toNat (if ((Nat.cast (List.length (Option.getD (mfind (.int .i64) (.isl (.int .u8)) l207 (List.getD l208 (Int.toNat i203) ((0 : Int) , (0 : Int))).1) (Sh.zero (.isl (.int .u8))))) : Int) < (List.getD l208 (Int.toNat i203) ((0 : Int) , (0 : Int))).2) then (Nat.cast (List.length (Option.getD (mfind (.int .i64) (.isl (.int .u8)) l207 (List.getD l208 (Int.toNat i203) ((0 : Int) , (0 : Int))).1) (Sh.zero (.isl (.int .u8))))) : Int) else (List.getD l208 (Int.toNat i203) ((0 : Int) , (0 : Int))).2)))) (0 : Nat) ((Int.toNat (if ((Nat.cast (List.length (sub (Option.getD (mfind (.int .i64) (.isl (.int .u8)) l207 (List.getD l208 (Int.toNat i203) ((0 : Int) , (0 : Int))).1) (Sh.zero (.isl (.int .u8)))) (Int.toNat (if ((Nat.cast (List.length (Option.getD (mfind (.int .i64) (.isl (.int .u8)) l207 (List.getD l208 (Int.toNat i203) ((0 : Int) , (0 : Int))).1) (Sh.zero (.isl (.int .u8))))) : Int) < (List.getD l208 (Int.toNat i203) ((0 : Int) , (0 : Int))).2) then (Nat.cast (List.length (Option.getD (mfind (.int .i64) (.isl (.int .u8)) l207 (List.getD l208 (Int.toNat i203) ((0 : Int) , (0 : Int))).1) (Sh.zero (.isl (.int .u8))))) : Int) else (List.getD l208 (Int.toNat i203) ((0 : Int) , (0 : Int))).2)) ((List.length (Option.getD (mfind (.int .i64) (.isl (.int .u8)) l207 (List.getD l208 (Int.toNat i203) ((0 : Int) , (0 : Int))).1) (Sh.zero (.isl (.int .u8))))) - (Int.toNat (if ((Nat.cast (List.length (Option.getD (mfind (.int .i64) (.isl (.int .u8)) l207 (List.getD l208 (Int.toNat i203) ((0 : Int) , (0 : Int))).1) (Sh.zero (.isl (.int .u8))))) : Int) < (List.getD l208 (Int.toNat i203) ((0 : Int) , (0 : Int))).2) then (Nat.cast (List.length (Option.getD (mfind (.int .i64) (.isl (.int .u8)) l207 (List.getD l208 (Int.toNat i203) ((0 : Int) , (0 : Int))).1) (Sh.zero (.isl (.int .u8))))) : Int) else (List.getD l208 (Int.toNat i203) ((0 : Int) , (0 : Int))).2))))) : Int) < (IntKind.wrap .i64 x1)) then (Nat.cast (List.length (sub (Option.getD (mfind (.int .i64) (.isl (.int .u8)) l207 (List.getD l208 (Int.toNat i203) ((0 : Int) , (0 : Int))).1) (Sh.zero (.isl (.int .u8)))) (Int.toNat (if ((Nat.cast (List.length (Option.getD (mfind (.int .i64) (.isl (.int .u8)) l207 (List.getD l208 (Int.toNat i203) ((0 : Int) , (0 : Int))).1) (Sh.zero (.isl (.int .u8))))) : Int) < (List.getD l208 (Int.toNat i203) ((0 : Int) , (0 : Int))).2) then (Nat.cast (List.length (Option.getD (mfind (.int .i64) (.isl (.int .u8)) l207 (List.getD l208 (Int.toNat i203) ((0 : Int) , (0 : Int))).1) (Sh.zero (.isl (.int .u8))))) : Int) else (List.getD l208 (Int.toNat i203) ((0 : Int) , (0 : Int))).2)) ((List.length (Option.getD (mfind (.int .i64) (.isl (.int .u8)) l207 (List.getD l208 (Int.toNat i203) ((0 : Int) , (0 : Int))).1) (Sh.zero (.isl (.int .u8))))) - (Int.toNat (if ((Nat.cast (List.length (Option.getD (mfind (.int .i64) (.isl (.int .u8)) l207 (List.getD l208 (Int.toNat i203) ((0 : Int) , (0 : Int))).1) (Sh.zero (.isl (.int .u8))))) : Int) < (List.getD l208 (Int.toNat i203) ((0 : Int) , (0 : Int))).2) then (Nat.cast (List.length (Option.getD (mfind (.int .i64) (.isl (.int .u8)) l207 (List.getD l208 (Int.toNat i203) ((0 : Int) , (0 : Int))).1) (Sh.zero (.isl (.int .u8))))) : Int) else (List.getD l208 (Int.toNat i203) ((0 : Int) , (0 : Int))).2))))) : Int) else (IntKind.wrap .i64 x1))) - (0 : Nat)))
       (fun l209 => br (decide ((Int.toNat i203) < (List.length l208)))
        (br (decide ((Int.toNat i203) < (List.length l208)))
         (k0 (IntKind.wrap .u16 (Nat.cast (List.length l209) : Int)) l204 i205 l206 l207 (List.set l208 (Int.toNat i203) ((List.getD l208 (Int.toNat i203) ((0 : Int) , (0 : Int))).1 , (IntKind.wrap .i64 ((List.getD l208 (Int.toNat i203) ((0 : Int) , (0 : Int))).2 + (Nat.cast (List.length l209) : Int))))) l209)
         (none))
        (none)))
      (none))
     (none))
    (none))
   (none))
noncomputable def files_Files_Read_0442 (N : Nat) {R : Type} (x0 : Int) (x1 : Int) (x2 : List (Int)) (x3 : Int) (x4 : List (((ByteArray) × (ByteArray)) × ((Int) × (Bool)))) (x5 : List ((Int) × (List (Int)))) (x6 : List ((Int) × (Int))) (k0 : (Int) → (List (Int)) → (Int) → (List (((ByteArray) × (ByteArray)) × ((Int) × (Bool)))) → (List ((Int) × (List (Int)))) → (List ((Int) × (Int))) → (List (Int)) → Option R) : Option R := files_Files_Read_0442_T N @slices_Clone__byte_byte (@files_Files_file_b447 N) (@files_Files_file_c411 N) x0 x1 x2 x3 x4 x5 x6 k0
abbrev files_Files_Read_4680_Ty : Type 1 := {R : Type} → (Int) → (Int) → (List (Int)) → (List ((Int) × (List (Int)))) → (List ((Int) × (Int))) → ((Int) → (List (Int)) → (List ((Int) × (List (Int)))) → (List ((Int) × (Int))) → (List (Int)) → Option R) → Option R
noncomputable def files_Files_Read_4680_T (N : Nat) (c0 : slices_Clone__byte_byte_Ty) (c1 : files_Files_file_b447_Ty) (c2 : files_Files_file_c411_Ty) {R : Type} (x0 : Int) (x1 : Int) (x2 : List (Int)) (x3 : List ((Int) × (List (Int)))) (x4 : List ((Int) × (Int))) (k0 : (Int) → (List (Int)) → (List ((Int) × (List (Int)))) → (List ((Int) × (Int))) → (List (Int)) → Option R) : Option R :=
  c2 x0 x2 x3 x4
  (fun l551 l552 l553 => k0 (65289 : Int) l551 l552 l553 ([] : List ((Sh.int IntKind.u8).T)))
  (fun i554 l555 l556 l557 => br (decide ((Int.toNat i554) < (List.length l557)))
   (br (decide ((Int.toNat i554) < (List.length l557)))
    (br (leB (if ((Nat.cast (List.length (Option.getD (mfind (.int .i64) (.isl (.int .u8)) l556 (List.getD l557 (Int.toNat i554) ((0 : Int) , (0 : Int))).1) (Sh.zero (.isl (.int .u8))))) : Int) < (List.getD l557 (Int.toNat i554) ((0 : Int) , (0 : Int))).2) then (Nat.cast (List.length (Option.getD (mfind (.int .i64) (.isl (.int .u8)) l556 (List.getD l557 (Int.toNat i554) ((0 : Int) , (0 : Int))).1) (Sh.zero (.isl (.int .u8))))) : Int) else (List.getD l557 (Int.toNat i554) ((0 : Int) , (0 : Int))).2) (List.length (Option.getD (mfind (.int .i64) (.isl (.int .u8)) l556 (List.getD l557 (Int.toNat i554) ((0 : Int) , (0 : Int))).1) (Sh.zero (.isl (.int .u8))))))
     (br (leB (if ((Nat.cast (List.length (sub (Option.getD (mfind (.int .i64) (.isl (.int .u8)) l556 (List.getD l557 (Int.toNat i554) ((0 : Int) , (0 : Int))).1) (Sh.zero (.isl (.int .u8)))) (Int.toNat (if ((Nat.cast (List.length (Option.getD (mfind (.int .i64) (.isl (.int .u8)) l556 (List.getD l557 (Int.toNat i554) ((0 : Int) , (0 : Int))).1) (Sh.zero (.isl (.int .u8))))) : Int) < (List.getD l557 (Int.toNat i554) ((0 : Int) , (0 : Int))).2) then (Nat.cast (List.length (Option.getD (mfind (.int .i64) (.isl (.int .u8)) l556 (List.getD l557 (Int.toNat i554) ((0 : Int) , (0 : Int))).1) (Sh.zero (.isl (.int .u8))))) : Int) else (List.getD l557 (Int.toNat i554) ((0 : Int) , (0 : Int))).2)) ((List.length (Option.getD (mfind (.int .i64) (.isl (.int .u8)) l556 (List.getD l557 (Int.toNat i554) ((0 : Int) , (0 : Int))).1) (Sh.zero (.isl (.int .u8))))) - (Int.toNat (if ((Nat.cast (List.length (Option.getD (mfind (.int .i64) (.isl (.int .u8)) l556 (List.getD l557 (Int.toNat i554) ((0 : Int) , (0 : Int))).1) (Sh.zero (.isl (.int .u8))))) : Int) < (List.getD l557 (Int.toNat i554) ((0 : Int) , (0 : Int))).2) then (Nat.cast (List.length (Option.getD (mfind (.int .i64) (.isl (.int .u8)) l556 (List.getD l557 (Int.toNat i554) ((0 : Int) , (0 : Int))).1) (Sh.zero (.isl (.int .u8))))) : Int) else (List.getD l557 (Int.toNat i554) ((0 : Int) , (0 : Int))).2))))) : Int) < (IntKind.wrap .i64 x1)) then (Nat.cast (List.length (sub (Option.getD (mfind (.int .i64) (.isl (.int .u8)) l556 (List.getD l557 (Int.toNat i554) ((0 : Int) , (0 : Int))).1) (Sh.zero (.isl (.int .u8)))) (Int.toNat (if ((Nat.cast (List.length (Option.getD (mfind (.int .i64) (.isl (.int .u8)) l556 (List.getD l557 (Int.toNat i554) ((0 : Int) , (0 : Int))).1) (Sh.zero (.isl (.int .u8))))) : Int) < (List.getD l557 (Int.toNat i554) ((0 : Int) , (0 : Int))).2) then (Nat.cast (List.length (Option.getD (mfind (.int .i64) (.isl (.int .u8)) l556 (List.getD l557 (Int.toNat i554) ((0 : Int) , (0 : Int))).1) (Sh.zero (.isl (.int .u8))))) : Int) else (List.getD l557 (Int.toNat i554) ((0 : Int) , (0 : Int))).2)) ((List.length (Option.getD (mfind (.int .i64) (.isl (.int .u8)) l556 (List.getD l557 (Int.toNat i554) ((0 : Int) , (0 : Int))).1) (Sh.zero (.isl (.int .u8))))) - (Int.toNat (if ((Nat.cast (List.length (Option.getD (mfind (.int .i64) (.isl (.int .u8)) l556 (List.getD l557 (Int.toNat i554) ((0 : Int) , (0 : Int))).1) (Sh.zero (.isl (.int .u8))))) : Int) < (List.getD l557 (Int.toNat i554) ((0 : Int) , (0 : Int))).2) then (Nat.cast (List.length (Option.getD (mfind (.int .i64) (.isl (.int .u8)) l556 (List.getD l557 (Int.toNat i554) ((0 : Int) , (0 : Int))).1) (Sh.zero (.isl (.int .u8))))) : Int) else (List.getD l557 (Int.toNat i554) ((0 : Int) , (0 : Int))).2))))) : Int) else (IntKind.wrap .i64 x1)) (List.length (sub (Option.getD (mfind (.int .i64) (.isl (.int .u8)) l556 (List.getD l557 (Int.toNat i554) ((0 : Int) , (0 : Int))).1) (Sh.zero (.isl (.int .u8)))) (Int.toNat (if ((Nat.cast (List.length (Option.getD (mfind (.int .i64) (.isl (.int .u8)) l556 (List.getD l557 (Int.toNat i554) ((0 : Int) , (0 : Int))).1) (Sh.zero (.isl (.int .u8))))) : Int) < (List.getD l557 (Int.toNat i554) ((0 : Int) , (0 : Int))).2) then (Nat.cast (List.length (Option.getD (mfind (.int .i64) (.isl (.int .u8)) l556 (List.getD l557 (Int.toNat i554) ((0 : Int) , (0 : Int))).1) (Sh.zero (.isl (.int .u8))))) : Int) else (List.getD l557 (Int.toNat i554) ((0 : Int) , (0 : Int))).2)) ((List.length (Option.getD (mfind (.int .i64) (.isl (.int .u8)) l556 (List.getD l557 (Int.toNat i554) ((0 : Int) , (0 : Int))).1) (Sh.zero (.isl (.int .u8))))) - (Int.toNat (if ((Nat.cast (List.length (Option.getD (mfind (.int .i64) (.isl (.int .u8)) l556 (List.getD l557 (Int.toNat i554) ((0 : Int) , (0 : Int))).1) (Sh.zero (.isl (.int .u8))))) : Int) < (List.getD l557 (Int.toNat i554) ((0 : Int) , (0 : Int))).2) then (Nat.cast (List.length (Option.getD (mfind (.int .i64) (.isl (.int .u8)) l556 (List.getD l557 (Int.toNat i554) ((0 : Int) , (0 : Int))).1) (Sh.zero (.isl (.int .u8))))) : Int) else (List.getD l557 (Int.toNat i554) ((0 : Int) , (0 : Int))).2))))))
      (c0 (sub (sub (Option.getD (mfind (.int .i64) (.isl (.int .u8)) l556 (List.getD l557 (Int.toNat i554) ((0 : Int) , (0 : Int))).1) (Sh.zero (.isl (.int .u8)))) (Int.toNat (if ((Nat.cast (List.length (Option.getD (mfind (.int .i64) (.isl (.int .u8)) l556 (List.getD l557 (Int.toNat i554) ((0 : Int) , (0 : Int))).1) (Sh.zero (.isl (.int .u8))))) : Int) < (List.getD l557 (Int.toNat i554) ((0 : Int) , (0 : Int))).2) then (Nat.cast (List.length (Option.getD (mfind (.int .i64) (.isl (.int .u8)) l556 (List.getD l557 (Int.toNat i554) ((0 : Int) , (0 : Int))).1) (Sh.zero (.isl (.int .u8))))) : Int) else (List.getD l557 (Int.toNat i554) ((0 : Int) , (0 : Int))).2)) ((List.length (Option.getD (mfind (.int .i64) (.isl (.int .u8)) l556 (List.getD l557 (Int.toNat i554) ((0 : Int) , (0 : Int))).1) (Sh.zero (.isl (.int .u8))))) - (Int.toNat (if ((Nat.cast (List.length (Option.getD (mfind (.int .i64) (.isl (.int .u8)) l556 (List.getD l557 (Int.toNat i554) ((0 : Int) , (0 : Int))).1) (Sh.zero (.isl (.int .u8))))) : Int) < (List.getD l557 (Int.toNat i554) ((0 : Int) , (0 : Int))).2) then (Nat.cast (List.length (Option.getD (mfind (.int .i64) (.isl (.int .u8)) l556 (List.getD l557 (Int.toNat i554) ((0 : Int) , (0 : Int))).1) (Sh.zero (.isl (.int .u8))))) : Int) else (List.getD l557 (Int.toNat i554) ((0 : Int) , (0 : Int))).2)))) (0 : Nat) ((Int.toNat (if ((Nat.cast (List.length (sub (Option.getD (mfind (.int .i64) (.isl (.int .u8)) l556 (List.getD l557 (Int.toNat i554) ((0 : Int) , (0 : Int))).1) (Sh.zero (.isl (.int .u8)))) (Int.toNat (if ((Nat.cast (List.length (Option.getD (mfind (.int .i64) (.isl (.int .u8)) l556 (List.getD l557 (Int.toNat i554) ((0 : Int) , (0 : Int))).1) (Sh.zero (.isl (.int .u8))))) : Int) < (List.getD l557 (Int.toNat i554) ((0 : Int) , (0 : Int))).2) then (Nat.cast (List.length (Option.getD (mfind (.int .i64) (.isl (.int .u8)) l556 (List.getD l557 (Int.toNat i554) ((0 : Int) , (0 : Int))).1) (Sh.zero (.isl (.int .u8))))) : Int) else (List.getD l557 (Int.toNat i554) ((0 : Int) , (0 : Int))).2)) ((List.length (Option.getD (mfind (.int .i64) (.isl (.int .u8)) l556 (List.getD l557 (Int.toNat i554) ((0 : Int) , (0 : Int))).1) (Sh.zero (.isl (.int .u8))))) - (Int.toNat (if ((Nat.cast (List.length (Option.getD (mfind (.int .i64) (.isl (.int .u8)) l556 (List.getD l557 (Int.toNat i554) ((0 : Int) , (0 : Int))).1) (Sh.zero (.isl (.int .u8))))) : Int) < (List.getD l557 (Int.toNat i554) ((0 : Int) , (0 : Int))).2) then (Nat.cast (List.length (Option.getD (mfind (.int .i64) (.isl (.int .u8)) l556 (List.getD l557 (Int.toNat i554) ((0 : Int) , (0 : Int))).1) (Sh.zero (.isl (.int .u8))))) : Int) else (List.getD l557 (Int.toNat i554) ((0 : Int) , (0 : Int))).2))))) : Int) < (IntKind.wrap .i64 x1)) then (Nat.cast (List.length (sub (Option.getD (mfind (.int .i64) (.isl (.int .u8)) l556 (List.getD l557 (Int.toNat i554) ((0 : Int) , (0 : Int))).1) (Sh.zero (.isl (.int .u8)))) (Int.toNat (if ((Nat.cast (List.length (Option.getD (mfind (.int .i64) (.isl (.int .u8)) l556 (List.getD l557 (Int.toNat i554) ((0 : Int) , (0 : Int))).1) (Sh.zero (.isl (.int .u8))))) : Int) < (List.getD l557 (Int.toNat i554) ((0 : Int) , (0 : Int))).2) then (Nat.cast (List.length (Option.getD (mfind (.int .i64) (.isl (.int .u8)) l556 (List.getD l557 (Int.toNat i554) ((0 : Int) , (0 : Int))).1) (Sh.zero (.isl (.int .u8))))) : Int) else (List.getD l557 (Int.toNat i554) ((0 : Int) , (0 : Int))).2)) ((List.length (Option.getD (mfind (.int .i64) (.isl (.int .u8)) l556 (List.getD l557 (Int.toNat i554) ((0 : Int) , (0 : Int))).1) (Sh.zero (.isl (.int .u8))))) - (Int.toNat (if ((Nat.cast (List.length (Option.getD (mfind (.int .i64) (.isl (.int .u8)) l556 (List.getD l557 (Int.toNat i554) ((0 : Int) , (0 : Int))).1) (Sh.zero (.isl (.int .u8))))) : Int) < (List.getD l557 (Int.toNat i554) ((0 : Int) , (0 : Int))).2) then (Nat.cast (List.length (Option.getD (mfind (.int .i64) (.isl (.int .u8)) l556 (List.getD l557 (Int.toNat i554) ((0 : Int) , (0 : Int))).1) (Sh.zero (.isl (.int .u8))))) : Int) else (List.getD l557 (Int.toNat i554) ((0 : Int) , (0 : Int))).2))))) : Int) else (IntKind.wrap .i64 x1))) - (0 : Nat)))
       (fun l558 => br (decide ((Int.toNat i554) < (List.length l557)))
        (br (decide ((Int.toNat i554) < (List.length l557)))
         (k0 (IntKind.wrap .u16 (Nat.cast (List.length l558) : Int)) l555 l556 (List.set l557 (Int.toNat i554) ((List.getD l557 (Int.toNat i554) ((0 : Int) , (0 : Int))).1 , (IntKind.wrap .i64 ((List.getD l557 (Int.toNat i554) ((0 : Int) , (0 : Int))).2 + (Nat.cast (List.length l558) : Int))))) l558)
         (none))
        (none)))
      (none))
     (none))
    (none))
   (none))
noncomputable def files_Files_Read_4680 (N : Nat) {R : Type} (x0 : Int) (x1 : Int) (x2 : List (Int)) (x3 : List ((Int) × (List (Int)))) (x4 : List ((Int) × (Int))) (k0 : (Int) → (List (Int)) → (List ((Int) × (List (Int)))) → (List ((Int) × (Int))) → (List (Int)) → Option R) : Option R := files_Files_Read_4680_T N @slices_Clone__byte_byte (@files_Files_file_b447 N) (@files_Files_file_c411 N) x0 x1 x2 x3 x4 k0
abbrev files_Files_Size_b447_Ty : Type 1 := {R : Type} → (Int) → (List (Int)) → (Int) → (List (((ByteArray) × (ByteArray)) × ((Int) × (Bool)))) → (List ((Int) × (List (Int)))) → (List ((Int) × (Int))) → ((Int) → (List (Int)) → (Int) → (List (((ByteArray) × (ByteArray)) × ((Int) × (Bool)))) → (List ((Int) × (List (Int)))) → (List ((Int) × (Int))) → Option R) → Option R
noncomputable def files_Files_Size_b447_T (N : Nat) (c0 : files_Files_file_b447_Ty) (c1 : files_Files_file_c411_Ty) {R : Type} (x0 : Int) (x1 : List (Int)) (x2 : Int) (x3 : List (((ByteArray) × (ByteArray)) × ((Int) × (Bool)))) (x4 : List ((Int) × (List (Int)))) (x5 : List ((Int) × (Int))) (k0 : (Int) → (List (Int)) → (Int) → (List (((ByteArray) × (ByteArray)) × ((Int) × (Bool)))) → (List ((Int) × (List (Int)))) → (List ((Int) × (Int))) → Option R) : Option R :=
  c0 x0 x1 x2 x3 x4 x5
  (fun l217 i218 l219 l220 l221 => k0 (65289 : Int) l217 i218 l219 l220 l221)
  (fun i222 l223 i224 l225 l226 l227 => br (decide ((Int.toNat i222) < (List.length l227)))
   (k0 (IntKind.wrap .u16 (Nat.cast (List.length (Option.getD (mfind (.int .i64) (.isl (.int .u8)) l226 (List.getD l227 (Int.toNat i222) ((0 : Int) , (0 : Int))).1) (Sh.zero (.isl (.int .u8))))) : Int)) l223 i224 l225 l226 l227)
   (none))
noncomputable def files_Files_Size_b447 (N : Nat) {R : Type} (x0 : Int) (x1 : List (Int)) (x2 : Int) (x3 : List (((ByteArray) × (ByteArray)) × ((Int) × (Bool)))) (x4 : List ((Int) × (List (Int)))) (x5 : List ((Int) × (Int))) (k0 : (Int) → (List (Int)) → (Int) → (List (((ByteArray) × (ByteArray)) × ((Int) × (Bool)))) → (List ((Int) × (List (Int)))) → (List ((Int) × (Int))) → Option R) : Option R := files_Files_Size_b447_T N (@files_Files_file_b447 N) (@files_Files_file_c411 N) x0 x1 x2 x3 x4 x5 k0
abbrev files_Files_Size_c411_Ty : Type 1 := {R : Type} → (Int) → (List (Int)) → (List ((Int) × (List (Int)))) → (List ((Int) × (Int))) → ((Int) → (List (Int)) → (List ((Int) × (List (Int)))) → (List ((Int) × (Int))) → Option R) → Option R
noncomputable def files_Files_Size_c411_T (N : Nat) (c0 : files_Files_file_b447_Ty) (c1 : files_Files_file_c411_Ty) {R : Type} (x0 : Int) (x1 : List (Int)) (x2 : List ((Int) × (List (Int)))) (x3 : List ((Int) × (Int))) (k0 : (Int) → (List (Int)) → (List ((Int) × (List (Int)))) → (List ((Int) × (Int))) → Option R) : Option R :=
  c1 x0 x1 x2 x3
  (fun l610 l611 l612 => k0 (65289 : Int) l610 l611 l612)
  (fun i613 l614 l615 l616 => br (decide ((Int.toNat i613) < (List.length l616)))
   (k0 (IntKind.wrap .u16 (Nat.cast (List.length (Option.getD (mfind (.int .i64) (.isl (.int .u8)) l615 (List.getD l616 (Int.toNat i613) ((0 : Int) , (0 : Int))).1) (Sh.zero (.isl (.int .u8))))) : Int)) l614 l615 l616)
   (none))
noncomputable def files_Files_Size_c411 (N : Nat) {R : Type} (x0 : Int) (x1 : List (Int)) (x2 : List ((Int) × (List (Int)))) (x3 : List ((Int) × (Int))) (k0 : (Int) → (List (Int)) → (List ((Int) × (List (Int)))) → (List ((Int) × (Int))) → Option R) : Option R := files_Files_Size_c411_T N (@files_Files_file_b447 N) (@files_Files_file_c411 N) x0 x1 x2 x3 k0
abbrev law14_awake_Ty : Type 1 := {R : Type} → ((Bool) → Option R) → Option R
noncomputable def law14_awake_T (N : Nat) (c0 : files_Files_Size_b447_Ty) (c1 : files_Files_Size_c411_Ty) (c2 : files_Files_Read_0442_Ty) (c3 : files_Files_Read_4680_Ty) (c4 : files_Files_Seek_0442_Ty) (c5 : files_Files_Seek_4680_Ty) (c6 : files_Files_Write_5dfd_Ty) (c7 : files_Files_Write_5ecf_Ty) (c8 : files_Files_Open_f601_Ty) (c9 : files_Files_Open_9fbb_Ty) (c10 : files_New_38f2_Ty) (c11 : files_New_bfc2_Ty) {R : Type} (k0 : (Bool) → Option R) : Option R :=
  c10
  (fun i10 => br (!(!(decide (i10 = (0 : Int)))))
   (k0 false)
   (k0 false))
  (fun i11 l12 i13 l14 l15 l16 => br (!(!(decide (i11 = (0 : Int)))))
   (c8 (bs [97]) l12 i13 l14 l15 l16
    (fun i142 l143 i144 l145 l146 l147 => c6 (0 : Int) l143 i144 l145 l146 l147 ((1 : Int) :: ((2 : Int) :: ((3 : Int) :: ([] : List ((Sh.int IntKind.u8).T)))))
     (fun i162 l163 i164 l165 l166 l167 l168 => c4 (0 : Int) (1 : Int) l163 i164 l165 l166 l167
      (fun i180 l181 i182 l183 l184 l185 => c2 (0 : Int) (9 : Int) l181 i182 l183 l184 l185
       (fun i210 l211 i212 l213 l214 l215 l216 => br (decide (i142 = (0 : Int)))
        (br (decide (i162 = (3 : Int)))
         (br (decide (i180 = (1 : Int)))
          (br (decide (i210 = (2 : Int)))
           (br (fits (0 : Nat) (List.length l216) l216)
            (br (decide ((mkStr (sub l216 (0 : Nat) (List.length l216))) = (bs [2, 3])))
             (c0 (7 : Int) l211 i212 l213 l214 l215
              (fun i228 l229 i230 l231 l232 l233 => k0 (decide (i228 = (65289 : Int)))))
             (k0 false))
            (none))
           (k0 false))
          (k0 false))
         (k0 false))
        (k0 false))))))
   (k0 false))
noncomputable def law14_awake (N : Nat) {R : Type} (k0 : (Bool) → Option R) : Option R := law14_awake_T N (@files_Files_Size_b447 N) (@files_Files_Size_c411 N) (@files_Files_Read_0442 N) (@files_Files_Read_4680 N) (@files_Files_Seek_0442 N) (@files_Files_Seek_4680 N) (@files_Files_Write_5dfd N) (@files_Files_Write_5ecf N) (@files_Files_Open_f601 N) (@files_Files_Open_9fbb N) (@files_New_38f2 N) (@files_New_bfc2 N) k0
abbrev tree_Tree_Move_Ty : Type 1 := {R : Type} → (ByteArray) → (ByteArray) → ((Int) → (Int) → Option R) → Option R
noncomputable def tree_Tree_Move_T (N : Nat) (c0 : tree_Tree_above_2de7_Ty) (c1 : tree_of_Ty) (c2 : tree_Tree_get_fb98_Ty) {R : Type} (x0 : ByteArray) (x1 : ByteArray) (k0 : (Int) → (Int) → Option R) : Option R :=
  k0 (0 : Int) (0 : Int)
noncomputable def tree_Tree_Move (N : Nat) {R : Type} (x0 : ByteArray) (x1 : ByteArray) (k0 : (Int) → (Int) → Option R) : Option R := tree_Tree_Move_T N (@tree_Tree_above_2de7 N) (@tree_of N) (@tree_Tree_get_fb98 N) x0 x1 k0
abbrev tree_Tree_Move_f9be_Ty : Type 1 := {R : Type} → (ByteArray) → (ByteArray) → (Int) → (List (((ByteArray) × (ByteArray)) × ((Int) × (Bool)))) → ((Int) → (Int) → (Int) → (List (((ByteArray) × (ByteArray)) × ((Int) × (Bool)))) → Option R) → Option R
noncomputable def tree_Tree_Move_f9be_T (N : Nat) (c0 : tree_Tree_above_2de7_Ty) (c1 : tree_of_Ty) (c2 : tree_Tree_get_fb98_Ty) {R : Type} (x0 : ByteArray) (x1 : ByteArray) (x2 : Int) (x3 : List (((ByteArray) × (ByteArray)) × ((Int) × (Bool)))) (k0 : (Int) → (Int) → (Int) → (List (((ByteArray) × (ByteArray)) × ((Int) × (Bool)))) → Option R) : Option R :=
  c2 x0 x2 x3
  (fun i649 b650 i651 i652 l653 => br (decide (i651 = (0 : Int)))
   (br b650
    (c1 x1
     (fun s654 s655 => k0 (-1 : Int) (65301 : Int) i652 l653))
    (c1 x1
     (fun s656 s657 => br (decide (i651 = (0 : Int)))
      (c0 s656 s657 i652 l653
       (fun i658 i659 l660 => br (!(!(decide (i658 = (0 : Int)))))
        (br (decide (x0 = x1))
         (k0 (-1 : Int) i658 i659 l660)
         (br ((Option.isSome (mfind (.pair .str .str) (.pair (.int .i64) .bool) l660 (s656 , s657))) == (Option.isSome (mfind (.pair .str .str) (.pair (.int .i64) .bool) l660 (s656 , s657))))
          (br (Option.isSome (mfind (.pair .str .str) (.pair (.int .i64) .bool) l660 (s656 , s657)))
           (br (Option.getD (mfind (.pair .str .str) (.pair (.int .i64) .bool) l660 (s656 , s657)) ((0 : Int) , false)).2
            (k0 (-1 : Int) (65301 : Int) i659 l660)
            (c1 x0
             (fun s661 s662 => br (!(Option.isSome (mfind (.pair .str .str) (.pair (.int .i64) .bool) l660 (s656 , s657))))
              (k0 (-1 : Int) (0 : Int) i659 (mput (.pair .str .str) (.pair (.int .i64) .bool) (mdel (.pair .str .str) (.pair (.int .i64) .bool) l660 (s661 , s662)) (s656 , s657) (i649 , b650)))
              (k0 (Option.getD (mfind (.pair .str .str) (.pair (.int .i64) .bool) l660 (s656 , s657)) ((0 : Int) , false)).1 (0 : Int) i659 (mput (.pair .str .str) (.pair (.int .i64) .bool) (mdel (.pair .str .str) (.pair (.int .i64) .bool) l660 (s661 , s662)) (s656 , s657) (i649 , b650))))))
           (c1 x0
            (fun s663 s664 => br (!(Option.isSome (mfind (.pair .str .str) (.pair (.int .i64) .bool) l660 (s656 , s657))))
             (k0 (-1 : Int) (0 : Int) i659 (mput (.pair .str .str) (.pair (.int .i64) .bool) (mdel (.pair .str .str) (.pair (.int .i64) .bool) l660 (s663 , s664)) (s656 , s657) (i649 , b650)))
             (k0 (Option.getD (mfind (.pair .str .str) (.pair (.int .i64) .bool) l660 (s656 , s657)) ((0 : Int) , false)).1 (0 : Int) i659 (mput (.pair .str .str) (.pair (.int .i64) .bool) (mdel (.pair .str .str) (.pair (.int .i64) .bool) l660 (s663 , s664)) (s656 , s657) (i649 , b650))))))
          (none)))
        (k0 (-1 : Int) i658 i659 l660)))
      (br (!(!(decide (i651 = (0 : Int)))))
       (br (decide (x0 = x1))
        (k0 (-1 : Int) i651 i652 l653)
        (br ((Option.isSome (mfind (.pair .str .str) (.pair (.int .i64) .bool) l653 (s656 , s657))) == (Option.isSome (mfind (.pair .str .str) (.pair (.int .i64) .bool) l653 (s656 , s657))))
         (br (Option.isSome (mfind (.pair .str .str) (.pair (.int .i64) .bool) l653 (s656 , s657)))
          (br (Option.getD (mfind (.pair .str .str) (.pair (.int .i64) .bool) l653 (s656 , s657)) ((0 : Int) , false)).2
           (k0 (-1 : Int) (65301 : Int) i652 l653)
           (c1 x0
            (fun s665 s666 => br (!(Option.isSome (mfind (.pair .str .str) (.pair (.int .i64) .bool) l653 (s656 , s657))))
             (k0 (-1 : Int) (0 : Int) i652 (mput (.pair .str .str) (.pair (.int .i64) .bool) (mdel (.pair .str .str) (.pair (.int .i64) .bool) l653 (s665 , s666)) (s656 , s657) (i649 , b650)))
             (k0 (Option.getD (mfind (.pair .str .str) (.pair (.int .i64) .bool) l653 (s656 , s657)) ((0 : Int) , false)).1 (0 : Int) i652 (mput (.pair .str .str) (.pair (.int .i64) .bool) (mdel (.pair .str .str) (.pair (.int .i64) .bool) l653 (s665 , s666)) (s656 , s657) (i649 , b650))))))
          (c1 x0
           (fun s667 s668 => br (!(Option.isSome (mfind (.pair .str .str) (.pair (.int .i64) .bool) l653 (s656 , s657))))
            (k0 (-1 : Int) (0 : Int) i652 (mput (.pair .str .str) (.pair (.int .i64) .bool) (mdel (.pair .str .str) (.pair (.int .i64) .bool) l653 (s667 , s668)) (s656 , s657) (i649 , b650)))
            (k0 (Option.getD (mfind (.pair .str .str) (.pair (.int .i64) .bool) l653 (s656 , s657)) ((0 : Int) , false)).1 (0 : Int) i652 (mput (.pair .str .str) (.pair (.int .i64) .bool) (mdel (.pair .str .str) (.pair (.int .i64) .bool) l653 (s667 , s668)) (s656 , s657) (i649 , b650))))))
         (none)))
       (k0 (-1 : Int) i651 i652 l653)))))
   (c1 x1
    (fun s669 s670 => br (decide (i651 = (0 : Int)))
     (c0 s669 s670 i652 l653
      (fun i671 i672 l673 => br (!(!(decide (i671 = (0 : Int)))))
       (br (decide (x0 = x1))
        (k0 (-1 : Int) i671 i672 l673)
        (br ((Option.isSome (mfind (.pair .str .str) (.pair (.int .i64) .bool) l673 (s669 , s670))) == (Option.isSome (mfind (.pair .str .str) (.pair (.int .i64) .bool) l673 (s669 , s670))))
         (br (Option.isSome (mfind (.pair .str .str) (.pair (.int .i64) .bool) l673 (s669 , s670)))
          (br (Option.getD (mfind (.pair .str .str) (.pair (.int .i64) .bool) l673 (s669 , s670)) ((0 : Int) , false)).2
           (k0 (-1 : Int) (65301 : Int) i672 l673)
           (c1 x0
            (fun s674 s675 => br (!(Option.isSome (mfind (.pair .str .str) (.pair (.int .i64) .bool) l673 (s669 , s670))))
             (k0 (-1 : Int) (0 : Int) i672 (mput (.pair .str .str) (.pair (.int .i64) .bool) (mdel (.pair .str .str) (.pair (.int .i64) .bool) l673 (s674 , s675)) (s669 , s670) (i649 , b650)))
             (k0 (Option.getD (mfind (.pair .str .str) (.pair (.int .i64) .bool) l673 (s669 , s670)) ((0 : Int) , false)).1 (0 : Int) i672 (mput (.pair .str .str) (.pair (.int .i64) .bool) (mdel (.pair .str .str) (.pair (.int .i64) .bool) l673 (s674 , s675)) (s669 , s670) (i649 , b650))))))
          (c1 x0
           (fun s676 s677 => br (!(Option.isSome (mfind (.pair .str .str) (.pair (.int .i64) .bool) l673 (s669 , s670))))
            (k0 (-1 : Int) (0 : Int) i672 (mput (.pair .str .str) (.pair (.int .i64) .bool) (mdel (.pair .str .str) (.pair (.int .i64) .bool) l673 (s676 , s677)) (s669 , s670) (i649 , b650)))
            (k0 (Option.getD (mfind (.pair .str .str) (.pair (.int .i64) .bool) l673 (s669 , s670)) ((0 : Int) , false)).1 (0 : Int) i672 (mput (.pair .str .str) (.pair (.int .i64) .bool) (mdel (.pair .str .str) (.pair (.int .i64) .bool) l673 (s676 , s677)) (s669 , s670) (i649 , b650))))))
         (none)))
       (k0 (-1 : Int) i671 i672 l673)))
     (br (!(!(decide (i651 = (0 : Int)))))
      (br (decide (x0 = x1))
       (k0 (-1 : Int) i651 i652 l653)
       (br ((Option.isSome (mfind (.pair .str .str) (.pair (.int .i64) .bool) l653 (s669 , s670))) == (Option.isSome (mfind (.pair .str .str) (.pair (.int .i64) .bool) l653 (s669 , s670))))
        (br (Option.isSome (mfind (.pair .str .str) (.pair (.int .i64) .bool) l653 (s669 , s670)))
         (br (Option.getD (mfind (.pair .str .str) (.pair (.int .i64) .bool) l653 (s669 , s670)) ((0 : Int) , false)).2
          (k0 (-1 : Int) (65301 : Int) i652 l653)
          (c1 x0
           (fun s678 s679 => br (!(Option.isSome (mfind (.pair .str .str) (.pair (.int .i64) .bool) l653 (s669 , s670))))
            (k0 (-1 : Int) (0 : Int) i652 (mput (.pair .str .str) (.pair (.int .i64) .bool) (mdel (.pair .str .str) (.pair (.int .i64) .bool) l653 (s678 , s679)) (s669 , s670) (i649 , b650)))
            (k0 (Option.getD (mfind (.pair .str .str) (.pair (.int .i64) .bool) l653 (s669 , s670)) ((0 : Int) , false)).1 (0 : Int) i652 (mput (.pair .str .str) (.pair (.int .i64) .bool) (mdel (.pair .str .str) (.pair (.int .i64) .bool) l653 (s678 , s679)) (s669 , s670) (i649 , b650))))))
         (c1 x0
          (fun s680 s681 => br (!(Option.isSome (mfind (.pair .str .str) (.pair (.int .i64) .bool) l653 (s669 , s670))))
           (k0 (-1 : Int) (0 : Int) i652 (mput (.pair .str .str) (.pair (.int .i64) .bool) (mdel (.pair .str .str) (.pair (.int .i64) .bool) l653 (s680 , s681)) (s669 , s670) (i649 , b650)))
           (k0 (Option.getD (mfind (.pair .str .str) (.pair (.int .i64) .bool) l653 (s669 , s670)) ((0 : Int) , false)).1 (0 : Int) i652 (mput (.pair .str .str) (.pair (.int .i64) .bool) (mdel (.pair .str .str) (.pair (.int .i64) .bool) l653 (s680 , s681)) (s669 , s670) (i649 , b650))))))
        (none)))
      (k0 (-1 : Int) i651 i652 l653)))))
noncomputable def tree_Tree_Move_f9be (N : Nat) {R : Type} (x0 : ByteArray) (x1 : ByteArray) (x2 : Int) (x3 : List (((ByteArray) × (ByteArray)) × ((Int) × (Bool)))) (k0 : (Int) → (Int) → (Int) → (List (((ByteArray) × (ByteArray)) × ((Int) × (Bool)))) → Option R) : Option R := tree_Tree_Move_f9be_T N (@tree_Tree_above_2de7 N) (@tree_of N) (@tree_Tree_get_fb98 N) x0 x1 x2 x3 k0
abbrev files_Files_Rename_100a_Ty : Type 1 := {R : Type} → (ByteArray) → (ByteArray) → (List (Int)) → (List ((Int) × (List (Int)))) → (List ((Int) × (Int))) → ((Int) → (List (Int)) → (List ((Int) × (List (Int)))) → (List ((Int) × (Int))) → Option R) → Option R
noncomputable def files_Files_Rename_100a_T (N : Nat) (c0 : tree_Tree_Move_Ty) (c1 : tree_Tree_Move_f9be_Ty) {R : Type} (x0 : ByteArray) (x1 : ByteArray) (x2 : List (Int)) (x3 : List ((Int) × (List (Int)))) (x4 : List ((Int) × (Int))) (k0 : (Int) → (List (Int)) → (List ((Int) × (List (Int)))) → (List ((Int) × (Int))) → Option R) : Option R :=
  c0 x0 x1
  (fun i537 i538 => k0 i538 x2 x3 x4)
noncomputable def files_Files_Rename_100a (N : Nat) {R : Type} (x0 : ByteArray) (x1 : ByteArray) (x2 : List (Int)) (x3 : List ((Int) × (List (Int)))) (x4 : List ((Int) × (Int))) (k0 : (Int) → (List (Int)) → (List ((Int) × (List (Int)))) → (List ((Int) × (Int))) → Option R) : Option R := files_Files_Rename_100a_T N (@tree_Tree_Move N) (@tree_Tree_Move_f9be N) x0 x1 x2 x3 x4 k0
abbrev files_Files_Rename_94d5_Ty : Type 1 := {R : Type} → (ByteArray) → (ByteArray) → (List (Int)) → (Int) → (List (((ByteArray) × (ByteArray)) × ((Int) × (Bool)))) → (List ((Int) × (List (Int)))) → (List ((Int) × (Int))) → ((Int) → (List (Int)) → (Int) → (List (((ByteArray) × (ByteArray)) × ((Int) × (Bool)))) → (List ((Int) × (List (Int)))) → (List ((Int) × (Int))) → Option R) → Option R
noncomputable def files_Files_Rename_94d5_T (N : Nat) (c0 : tree_Tree_Move_Ty) (c1 : tree_Tree_Move_f9be_Ty) {R : Type} (x0 : ByteArray) (x1 : ByteArray) (x2 : List (Int)) (x3 : Int) (x4 : List (((ByteArray) × (ByteArray)) × ((Int) × (Bool)))) (x5 : List ((Int) × (List (Int)))) (x6 : List ((Int) × (Int))) (k0 : (Int) → (List (Int)) → (Int) → (List (((ByteArray) × (ByteArray)) × ((Int) × (Bool)))) → (List ((Int) × (List (Int)))) → (List ((Int) × (Int))) → Option R) : Option R :=
  c1 x0 x1 x3 x4
  (fun i682 i683 i684 l685 => k0 i683 x2 i684 l685 x5 x6)
noncomputable def files_Files_Rename_94d5 (N : Nat) {R : Type} (x0 : ByteArray) (x1 : ByteArray) (x2 : List (Int)) (x3 : Int) (x4 : List (((ByteArray) × (ByteArray)) × ((Int) × (Bool)))) (x5 : List ((Int) × (List (Int)))) (x6 : List ((Int) × (Int))) (k0 : (Int) → (List (Int)) → (Int) → (List (((ByteArray) × (ByteArray)) × ((Int) × (Bool)))) → (List ((Int) × (List (Int)))) → (List ((Int) × (Int))) → Option R) : Option R := files_Files_Rename_94d5_T N (@tree_Tree_Move N) (@tree_Tree_Move_f9be N) x0 x1 x2 x3 x4 x5 x6 k0
abbrev tree_Tree_many_fb98_Ty : Type 1 := {R : Type} → (ByteArray) → (Int) → (List (((ByteArray) × (ByteArray)) × ((Int) × (Bool)))) → Option R
noncomputable def tree_Tree_many_fb98_T (N : Nat) {R : Type} (x0 : ByteArray) (x1 : Int) (x2 : List (((ByteArray) × (ByteArray)) × ((Int) × (Bool)))) : Option R :=
  none
noncomputable def tree_Tree_many_fb98 (N : Nat) {R : Type} (x0 : ByteArray) (x1 : Int) (x2 : List (((ByteArray) × (ByteArray)) × ((Int) × (Bool)))) : Option R := tree_Tree_many_fb98_T N x0 x1 x2
abbrev tree_Tree_Drop_Ty : Type 1 := {R : Type} → (ByteArray) → (Bool) → ((Int) → Option R) → Option R
noncomputable def tree_Tree_Drop_T (N : Nat) (c0 : tree_of_Ty) (c1 : tree_Tree_many_fb98_Ty) (c2 : tree_Tree_get_fb98_Ty) {R : Type} (x0 : ByteArray) (x1 : Bool) (k0 : (Int) → Option R) : Option R :=
  k0 (0 : Int)
noncomputable def tree_Tree_Drop (N : Nat) {R : Type} (x0 : ByteArray) (x1 : Bool) (k0 : (Int) → Option R) : Option R := tree_Tree_Drop_T N (@tree_of N) (@tree_Tree_many_fb98 N) (@tree_Tree_get_fb98 N) x0 x1 k0
abbrev tree_Tree_Drop_c502_Ty : Type 1 := {R : Type} → (ByteArray) → (Bool) → (Int) → (List (((ByteArray) × (ByteArray)) × ((Int) × (Bool)))) → ((Int) → (Int) → (List (((ByteArray) × (ByteArray)) × ((Int) × (Bool)))) → Option R) → Option R
noncomputable def tree_Tree_Drop_c502_T (N : Nat) (c0 : tree_of_Ty) (c1 : tree_Tree_many_fb98_Ty) (c2 : tree_Tree_get_fb98_Ty) {R : Type} (x0 : ByteArray) (x1 : Bool) (x2 : Int) (x3 : List (((ByteArray) × (ByteArray)) × ((Int) × (Bool)))) (k0 : (Int) → (Int) → (List (((ByteArray) × (ByteArray)) × ((Int) × (Bool)))) → Option R) : Option R :=
  c2 x0 x2 x3
  (fun i759 b760 i761 i762 l763 => br (!(decide (i761 = (0 : Int))))
   (k0 i761 i762 l763)
   (br (!x1)
    (br b760
     (k0 (65301 : Int) i762 l763)
     (br x1
      (br (!b760)
       (k0 (65300 : Int) i762 l763)
       (br x1
        (c1 x0 i762 l763)
        (c0 x0
         (fun s764 s765 => k0 (0 : Int) i762 (mdel (.pair .str .str) (.pair (.int .i64) .bool) l763 (s764 , s765))))))
      (br x1
       (c1 x0 i762 l763)
       (c0 x0
        (fun s766 s767 => k0 (0 : Int) i762 (mdel (.pair .str .str) (.pair (.int .i64) .bool) l763 (s766 , s767)))))))
    (br x1
     (br (!b760)
      (k0 (65300 : Int) i762 l763)
      (br x1
       (c1 x0 i762 l763)
       (c0 x0
        (fun s768 s769 => k0 (0 : Int) i762 (mdel (.pair .str .str) (.pair (.int .i64) .bool) l763 (s768 , s769))))))
     (br x1
      (c1 x0 i762 l763)
      (c0 x0
       (fun s770 s771 => k0 (0 : Int) i762 (mdel (.pair .str .str) (.pair (.int .i64) .bool) l763 (s770 , s771))))))))
noncomputable def tree_Tree_Drop_c502 (N : Nat) {R : Type} (x0 : ByteArray) (x1 : Bool) (x2 : Int) (x3 : List (((ByteArray) × (ByteArray)) × ((Int) × (Bool)))) (k0 : (Int) → (Int) → (List (((ByteArray) × (ByteArray)) × ((Int) × (Bool)))) → Option R) : Option R := tree_Tree_Drop_c502_T N (@tree_of N) (@tree_Tree_many_fb98 N) (@tree_Tree_get_fb98 N) x0 x1 x2 x3 k0
abbrev files_Files_Unlink_9fbb_Ty : Type 1 := {R : Type} → (ByteArray) → (List (Int)) → (List ((Int) × (List (Int)))) → (List ((Int) × (Int))) → ((Int) → (List (Int)) → (List ((Int) × (List (Int)))) → (List ((Int) × (Int))) → Option R) → Option R
noncomputable def files_Files_Unlink_9fbb_T (N : Nat) (c0 : tree_Tree_Drop_Ty) (c1 : tree_Tree_Drop_c502_Ty) {R : Type} (x0 : ByteArray) (x1 : List (Int)) (x2 : List ((Int) × (List (Int)))) (x3 : List ((Int) × (Int))) (k0 : (Int) → (List (Int)) → (List ((Int) × (List (Int)))) → (List ((Int) × (Int))) → Option R) : Option R :=
  c0 x0 false
  (fun i628 => k0 i628 x1 x2 x3)
noncomputable def files_Files_Unlink_9fbb (N : Nat) {R : Type} (x0 : ByteArray) (x1 : List (Int)) (x2 : List ((Int) × (List (Int)))) (x3 : List ((Int) × (Int))) (k0 : (Int) → (List (Int)) → (List ((Int) × (List (Int)))) → (List ((Int) × (Int))) → Option R) : Option R := files_Files_Unlink_9fbb_T N (@tree_Tree_Drop N) (@tree_Tree_Drop_c502 N) x0 x1 x2 x3 k0
abbrev files_Files_Unlink_f601_Ty : Type 1 := {R : Type} → (ByteArray) → (List (Int)) → (Int) → (List (((ByteArray) × (ByteArray)) × ((Int) × (Bool)))) → (List ((Int) × (List (Int)))) → (List ((Int) × (Int))) → ((Int) → (List (Int)) → (Int) → (List (((ByteArray) × (ByteArray)) × ((Int) × (Bool)))) → (List ((Int) × (List (Int)))) → (List ((Int) × (Int))) → Option R) → Option R
noncomputable def files_Files_Unlink_f601_T (N : Nat) (c0 : tree_Tree_Drop_Ty) (c1 : tree_Tree_Drop_c502_Ty) {R : Type} (x0 : ByteArray) (x1 : List (Int)) (x2 : Int) (x3 : List (((ByteArray) × (ByteArray)) × ((Int) × (Bool)))) (x4 : List ((Int) × (List (Int)))) (x5 : List ((Int) × (Int))) (k0 : (Int) → (List (Int)) → (Int) → (List (((ByteArray) × (ByteArray)) × ((Int) × (Bool)))) → (List ((Int) × (List (Int)))) → (List ((Int) × (Int))) → Option R) : Option R :=
  c1 x0 false x2 x3
  (fun i772 i773 l774 => k0 i772 x1 i773 l774 x4 x5)
noncomputable def files_Files_Unlink_f601 (N : Nat) {R : Type} (x0 : ByteArray) (x1 : List (Int)) (x2 : Int) (x3 : List (((ByteArray) × (ByteArray)) × ((Int) × (Bool)))) (x4 : List ((Int) × (List (Int)))) (x5 : List ((Int) × (Int))) (k0 : (Int) → (List (Int)) → (Int) → (List (((ByteArray) × (ByteArray)) × ((Int) × (Bool)))) → (List ((Int) × (List (Int)))) → (List ((Int) × (Int))) → Option R) : Option R := files_Files_Unlink_f601_T N (@tree_Tree_Drop N) (@tree_Tree_Drop_c502 N) x0 x1 x2 x3 x4 x5 k0
inductive law14_FilesLive_Sj0 where
  | v0 (x0 : List (Int)) (x1 : Bool) (x2 : List (Int)) (x3 : List ((Int) × (List (Int)))) (x4 : List ((Int) × (Int)))
  | v1 (x0 : List (Int)) (x1 : Bool) (x2 : List (Int)) (x3 : Int) (x4 : List (((ByteArray) × (ByteArray)) × ((Int) × (Bool)))) (x5 : List ((Int) × (List (Int)))) (x6 : List ((Int) × (Int)))
abbrev law14_FilesLive_lj0_Ty : Type 1 := {R : Type} → ((Bool) → Option R) → Nat → law14_FilesLive_Sj0 → Option R
inductive law14_FilesLive_Sj1 where
  | v0 (x0 : List (Int)) (x1 : Bool) (x2 : Int) (x3 : List (Int)) (x4 : List ((Int) × (List (Int)))) (x5 : List ((Int) × (Int)))
  | v1 (x0 : List (Int)) (x1 : Bool) (x2 : Int) (x3 : List (Int)) (x4 : Int) (x5 : List (((ByteArray) × (ByteArray)) × ((Int) × (Bool)))) (x6 : List ((Int) × (List (Int)))) (x7 : List ((Int) × (Int)))
abbrev law14_FilesLive_lj1_Ty : Type 1 := {R : Type} → ((Bool) → Option R) → Nat → law14_FilesLive_Sj1 → Option R
inductive law14_FilesLive_Sj2 where
  | v0 (x0 : List (Int)) (x1 : Bool) (x2 : Int) (x3 : Int) (x4 : Int) (x5 : Int) (x6 : Int) (x7 : List (Int)) (x8 : List ((Int) × (List (Int)))) (x9 : List ((Int) × (Int))) (x10 : List (Int)) (x11 : List (Int)) (x12 : List (Int))
  | v1 (x0 : List (Int)) (x1 : Bool) (x2 : Int) (x3 : Int) (x4 : Int) (x5 : Int) (x6 : Int) (x7 : List (Int)) (x8 : Int) (x9 : List (((ByteArray) × (ByteArray)) × ((Int) × (Bool)))) (x10 : List ((Int) × (List (Int)))) (x11 : List ((Int) × (Int))) (x12 : List (Int)) (x13 : List (Int)) (x14 : List (Int))
abbrev law14_FilesLive_lj2_Ty : Type 1 := {R : Type} → ((Bool) → Option R) → Nat → law14_FilesLive_Sj2 → Option R
inductive law14_FilesLive_Sj3 where
  | v0 (x0 : Int) (x1 : List (Int)) (x2 : List ((Int) × (List (Int)))) (x3 : List ((Int) × (Int)))
  | v1 (x0 : Int) (x1 : List (Int)) (x2 : Int) (x3 : List (((ByteArray) × (ByteArray)) × ((Int) × (Bool)))) (x4 : List ((Int) × (List (Int)))) (x5 : List ((Int) × (Int)))
abbrev law14_FilesLive_lj3_Ty : Type 1 := {R : Type} → ((Bool) → Option R) → Nat → law14_FilesLive_Sj3 → Option R
abbrev law14_FilesLive_Ty : Type 1 := {R : Type} → (List (Int)) → (Bool) → ((Bool) → Option R) → Option R
noncomputable def law14_FilesLive_lj0_T0 (N : Nat) (c0 : files_Files_Unlink_9fbb_Ty) (c1 : files_Files_Unlink_f601_Ty) (c2 : files_Files_Size_b447_Ty) (c3 : files_Files_Size_c411_Ty) (c4 : files_Files_Write_5dfd_Ty) (c5 : files_Files_Write_5ecf_Ty) (c6 : files_Files_Seek_0442_Ty) (c7 : files_Files_Seek_4680_Ty) (c8 : files_Files_Read_0442_Ty) (c9 : files_Files_Read_4680_Ty) (c10 : files_Files_Rename_100a_Ty) (c11 : files_Files_Rename_94d5_Ty) (c12 : files_Files_Open_f601_Ty) (c13 : files_Files_Open_9fbb_Ty) (c14 : files_New_38f2_Ty) (c15 : files_New_bfc2_Ty) (c16 : law14_awake_Ty) (wj1 : law14_FilesLive_lj1_Ty) (wj2 : law14_FilesLive_lj2_Ty) (wj3 : law14_FilesLive_lj3_Ty) {R : Type} (k0 : (Bool) → Option R) (x0 : List (Int)) (x1 : Bool) (x2 : List (Int)) (x3 : List ((Int) × (List (Int)))) (x4 : List ((Int) × (Int))) : Option R :=
  br x1
  (c10 (bs [98]) (bs [97]) x2 x3 x4
   (fun i539 l540 l541 l542 => wj1
    (fun b627 => k0 b627)
    N (.v0 x0 x1 i539 l540 l541 l542)))
  (c0 (bs [97]) x2 x3 x4
   (fun i629 l630 l631 l632 => wj1
    (fun b633 => k0 b633)
    N (.v0 x0 x1 i629 l630 l631 l632)))
noncomputable def law14_FilesLive_lj0_T1 (N : Nat) (c0 : files_Files_Unlink_9fbb_Ty) (c1 : files_Files_Unlink_f601_Ty) (c2 : files_Files_Size_b447_Ty) (c3 : files_Files_Size_c411_Ty) (c4 : files_Files_Write_5dfd_Ty) (c5 : files_Files_Write_5ecf_Ty) (c6 : files_Files_Seek_0442_Ty) (c7 : files_Files_Seek_4680_Ty) (c8 : files_Files_Read_0442_Ty) (c9 : files_Files_Read_4680_Ty) (c10 : files_Files_Rename_100a_Ty) (c11 : files_Files_Rename_94d5_Ty) (c12 : files_Files_Open_f601_Ty) (c13 : files_Files_Open_9fbb_Ty) (c14 : files_New_38f2_Ty) (c15 : files_New_bfc2_Ty) (c16 : law14_awake_Ty) (wj1 : law14_FilesLive_lj1_Ty) (wj2 : law14_FilesLive_lj2_Ty) (wj3 : law14_FilesLive_lj3_Ty) {R : Type} (k0 : (Bool) → Option R) (x0 : List (Int)) (x1 : Bool) (x2 : List (Int)) (x3 : Int) (x4 : List (((ByteArray) × (ByteArray)) × ((Int) × (Bool)))) (x5 : List ((Int) × (List (Int)))) (x6 : List ((Int) × (Int))) : Option R :=
  br x1
  (c11 (bs [98]) (bs [97]) x2 x3 x4 x5 x6
   (fun i686 l687 i688 l689 l690 l691 => wj1
    (fun b758 => k0 b758)
    N (.v1 x0 x1 i686 l687 i688 l689 l690 l691)))
  (c1 (bs [97]) x2 x3 x4 x5 x6
   (fun i775 l776 i777 l778 l779 l780 => wj1
    (fun b781 => k0 b781)
    N (.v1 x0 x1 i775 l776 i777 l778 l779 l780)))
noncomputable def law14_FilesLive_lj1_T0 (N : Nat) (c0 : files_Files_Unlink_9fbb_Ty) (c1 : files_Files_Unlink_f601_Ty) (c2 : files_Files_Size_b447_Ty) (c3 : files_Files_Size_c411_Ty) (c4 : files_Files_Write_5dfd_Ty) (c5 : files_Files_Write_5ecf_Ty) (c6 : files_Files_Seek_0442_Ty) (c7 : files_Files_Seek_4680_Ty) (c8 : files_Files_Read_0442_Ty) (c9 : files_Files_Read_4680_Ty) (c10 : files_Files_Rename_100a_Ty) (c11 : files_Files_Rename_94d5_Ty) (c12 : files_Files_Open_f601_Ty) (c13 : files_Files_Open_9fbb_Ty) (c14 : files_New_38f2_Ty) (c15 : files_New_bfc2_Ty) (c16 : law14_awake_Ty) (wj2 : law14_FilesLive_lj2_Ty) (wj3 : law14_FilesLive_lj3_Ty) {R : Type} (k0 : (Bool) → Option R) (x0 : List (Int)) (x1 : Bool) (x2 : Int) (x3 : List (Int)) (x4 : List ((Int) × (List (Int)))) (x5 : List ((Int) × (Int))) : Option R :=
  c9 (0 : Int) (9 : Int) x3 x4 x5
  (fun i559 l560 l561 l562 l563 => c7 (0 : Int) (0 : Int) l560 l561 l562
   (fun i571 l572 l573 l574 => c5 (0 : Int) l572 l573 l574 ((99 : Int) :: ([] : List ((Sh.int IntKind.u8).T)))
    (fun i583 l584 l585 l586 l587 => c7 (0 : Int) (0 : Int) l584 l585 l586
     (fun i588 l589 l590 l591 => c9 (0 : Int) (1 : Int) l589 l590 l591
      (fun i592 l593 l594 l595 l596 => c13 (bs [97]) l593 l594 l595
       (fun i597 l598 l599 l600 => c9 i597 (9 : Int) l598 l599 l600
        (fun i601 l602 l603 l604 l605 => wj2
         (fun b626 => k0 b626)
         N (.v0 x0 x1 x2 i559 i583 i597 i601 l602 l603 l604 l563 l596 l605))))))))
noncomputable def law14_FilesLive_lj1_T1 (N : Nat) (c0 : files_Files_Unlink_9fbb_Ty) (c1 : files_Files_Unlink_f601_Ty) (c2 : files_Files_Size_b447_Ty) (c3 : files_Files_Size_c411_Ty) (c4 : files_Files_Write_5dfd_Ty) (c5 : files_Files_Write_5ecf_Ty) (c6 : files_Files_Seek_0442_Ty) (c7 : files_Files_Seek_4680_Ty) (c8 : files_Files_Read_0442_Ty) (c9 : files_Files_Read_4680_Ty) (c10 : files_Files_Rename_100a_Ty) (c11 : files_Files_Rename_94d5_Ty) (c12 : files_Files_Open_f601_Ty) (c13 : files_Files_Open_9fbb_Ty) (c14 : files_New_38f2_Ty) (c15 : files_New_bfc2_Ty) (c16 : law14_awake_Ty) (wj2 : law14_FilesLive_lj2_Ty) (wj3 : law14_FilesLive_lj3_Ty) {R : Type} (k0 : (Bool) → Option R) (x0 : List (Int)) (x1 : Bool) (x2 : Int) (x3 : List (Int)) (x4 : Int) (x5 : List (((ByteArray) × (ByteArray)) × ((Int) × (Bool)))) (x6 : List ((Int) × (List (Int)))) (x7 : List ((Int) × (Int))) : Option R :=
  c8 (0 : Int) (9 : Int) x3 x4 x5 x6 x7
  (fun i692 l693 i694 l695 l696 l697 l698 => c6 (0 : Int) (0 : Int) l693 i694 l695 l696 l697
   (fun i699 l700 i701 l702 l703 l704 => c4 (0 : Int) l700 i701 l702 l703 l704 ((99 : Int) :: ([] : List ((Sh.int IntKind.u8).T)))
    (fun i705 l706 i707 l708 l709 l710 l711 => c6 (0 : Int) (0 : Int) l706 i707 l708 l709 l710
     (fun i712 l713 i714 l715 l716 l717 => c8 (0 : Int) (1 : Int) l713 i714 l715 l716 l717
      (fun i718 l719 i720 l721 l722 l723 l724 => c12 (bs [97]) l719 i720 l721 l722 l723
       (fun i725 l726 i727 l728 l729 l730 => c8 i725 (9 : Int) l726 i727 l728 l729 l730
        (fun i731 l732 i733 l734 l735 l736 l737 => wj2
         (fun b757 => k0 b757)
         N (.v1 x0 x1 x2 i692 i705 i725 i731 l732 i733 l734 l735 l736 l698 l724 l737))))))))
noncomputable def law14_FilesLive_lj2_T0 (N : Nat) (c0 : files_Files_Unlink_9fbb_Ty) (c1 : files_Files_Unlink_f601_Ty) (c2 : files_Files_Size_b447_Ty) (c3 : files_Files_Size_c411_Ty) (c4 : files_Files_Write_5dfd_Ty) (c5 : files_Files_Write_5ecf_Ty) (c6 : files_Files_Seek_0442_Ty) (c7 : files_Files_Seek_4680_Ty) (c8 : files_Files_Read_0442_Ty) (c9 : files_Files_Read_4680_Ty) (c10 : files_Files_Rename_100a_Ty) (c11 : files_Files_Rename_94d5_Ty) (c12 : files_Files_Open_f601_Ty) (c13 : files_Files_Open_9fbb_Ty) (c14 : files_New_38f2_Ty) (c15 : files_New_bfc2_Ty) (c16 : law14_awake_Ty) (wj3 : law14_FilesLive_lj3_Ty) {R : Type} (k0 : (Bool) → Option R) (x0 : List (Int)) (x1 : Bool) (x2 : Int) (x3 : Int) (x4 : Int) (x5 : Int) (x6 : Int) (x7 : List (Int)) (x8 : List ((Int) × (List (Int)))) (x9 : List ((Int) × (Int))) (x10 : List (Int)) (x11 : List (Int)) (x12 : List (Int)) : Option R :=
  br (!(!(decide (x2 = (0 : Int)))))
  (br (!(!(decide ((IntKind.wrap .i64 x3) = (Nat.cast (List.length x0) : Int)))))
   (br (fits (0 : Nat) (List.length x10) x10)
    (br (!(!(decide ((mkStr (sub x10 (0 : Nat) (List.length x10))) = (mkStr x0)))))
     (br (!(!(decide (x4 = (1 : Int)))))
      (br (!(!(decide ((Nat.cast (List.length x11) : Int) = (1 : Int)))))
       (br (inB (0 : Int) (List.length x11))
        (br (decide ((0 : Nat) < (List.length x11)))
         (br (!(!(decide ((List.getD x11 (0 : Nat) (0 : Int)) = (99 : Int)))))
          (br (!(decide (x5 = (1 : Int))))
           (k0 false)
           (br x1
            (br (decide (x6 = (1 : Int)))
             (br (inB (0 : Int) (List.length x12))
              (br (decide ((0 : Nat) < (List.length x12)))
               (br (decide ((List.getD x12 (0 : Nat) (0 : Int)) = (1 : Int)))
                (c13 (bs [98]) x7 x8 x9
                 (fun i606 l607 l608 l609 => br (decide (i606 = (2 : Int)))
                  (c3 (2 : Int) l607 l608 l609
                   (fun i617 l618 l619 l620 => k0 (decide (i617 = (0 : Int)))))
                  (k0 false)))
                (k0 false))
               (none))
              (none))
             (k0 false))
            (wj3
             (fun b625 => k0 b625)
             N (.v0 x6 x7 x8 x9))))
          (k0 false))
         (none))
        (none))
       (k0 false))
      (k0 false))
     (k0 false))
    (none))
   (k0 false))
  (k0 false)
noncomputable def law14_FilesLive_lj2_T1 (N : Nat) (c0 : files_Files_Unlink_9fbb_Ty) (c1 : files_Files_Unlink_f601_Ty) (c2 : files_Files_Size_b447_Ty) (c3 : files_Files_Size_c411_Ty) (c4 : files_Files_Write_5dfd_Ty) (c5 : files_Files_Write_5ecf_Ty) (c6 : files_Files_Seek_0442_Ty) (c7 : files_Files_Seek_4680_Ty) (c8 : files_Files_Read_0442_Ty) (c9 : files_Files_Read_4680_Ty) (c10 : files_Files_Rename_100a_Ty) (c11 : files_Files_Rename_94d5_Ty) (c12 : files_Files_Open_f601_Ty) (c13 : files_Files_Open_9fbb_Ty) (c14 : files_New_38f2_Ty) (c15 : files_New_bfc2_Ty) (c16 : law14_awake_Ty) (wj3 : law14_FilesLive_lj3_Ty) {R : Type} (k0 : (Bool) → Option R) (x0 : List (Int)) (x1 : Bool) (x2 : Int) (x3 : Int) (x4 : Int) (x5 : Int) (x6 : Int) (x7 : List (Int)) (x8 : Int) (x9 : List (((ByteArray) × (ByteArray)) × ((Int) × (Bool)))) (x10 : List ((Int) × (List (Int)))) (x11 : List ((Int) × (Int))) (x12 : List (Int)) (x13 : List (Int)) (x14 : List (Int)) : Option R :=
  br (!(!(decide (x2 = (0 : Int)))))
  (br (!(!(decide ((IntKind.wrap .i64 x3) = (Nat.cast (List.length x0) : Int)))))
   (br (fits (0 : Nat) (List.length x12) x12)
    (br (!(!(decide ((mkStr (sub x12 (0 : Nat) (List.length x12))) = (mkStr x0)))))
     (br (!(!(decide (x4 = (1 : Int)))))
      (br (!(!(decide ((Nat.cast (List.length x13) : Int) = (1 : Int)))))
       (br (inB (0 : Int) (List.length x13))
        (br (decide ((0 : Nat) < (List.length x13)))
         (br (!(!(decide ((List.getD x13 (0 : Nat) (0 : Int)) = (99 : Int)))))
          (br (!(decide (x5 = (1 : Int))))
           (k0 false)
           (br x1
            (br (decide (x6 = (1 : Int)))
             (br (inB (0 : Int) (List.length x14))
              (br (decide ((0 : Nat) < (List.length x14)))
               (br (decide ((List.getD x14 (0 : Nat) (0 : Int)) = (1 : Int)))
                (c12 (bs [98]) x7 x8 x9 x10 x11
                 (fun i738 l739 i740 l741 l742 l743 => br (decide (i738 = (2 : Int)))
                  (c2 (2 : Int) l739 i740 l741 l742 l743
                   (fun i744 l745 i746 l747 l748 l749 => k0 (decide (i744 = (0 : Int)))))
                  (k0 false)))
                (k0 false))
               (none))
              (none))
             (k0 false))
            (wj3
             (fun b756 => k0 b756)
             N (.v1 x6 x7 x8 x9 x10 x11))))
          (k0 false))
         (none))
        (none))
       (k0 false))
      (k0 false))
     (k0 false))
    (none))
   (k0 false))
  (k0 false)
noncomputable def law14_FilesLive_lj3_T0 (N : Nat) (c0 : files_Files_Unlink_9fbb_Ty) (c1 : files_Files_Unlink_f601_Ty) (c2 : files_Files_Size_b447_Ty) (c3 : files_Files_Size_c411_Ty) (c4 : files_Files_Write_5dfd_Ty) (c5 : files_Files_Write_5ecf_Ty) (c6 : files_Files_Seek_0442_Ty) (c7 : files_Files_Seek_4680_Ty) (c8 : files_Files_Read_0442_Ty) (c9 : files_Files_Read_4680_Ty) (c10 : files_Files_Rename_100a_Ty) (c11 : files_Files_Rename_94d5_Ty) (c12 : files_Files_Open_f601_Ty) (c13 : files_Files_Open_9fbb_Ty) (c14 : files_New_38f2_Ty) (c15 : files_New_bfc2_Ty) (c16 : law14_awake_Ty) {R : Type} (k0 : (Bool) → Option R) (x0 : Int) (x1 : List (Int)) (x2 : List ((Int) × (List (Int)))) (x3 : List ((Int) × (Int))) : Option R :=
  br (decide (x0 = (0 : Int)))
  (c3 (1 : Int) x1 x2 x3
   (fun i621 l622 l623 l624 => k0 (decide (i621 = (0 : Int)))))
  (k0 false)
noncomputable def law14_FilesLive_lj3_T1 (N : Nat) (c0 : files_Files_Unlink_9fbb_Ty) (c1 : files_Files_Unlink_f601_Ty) (c2 : files_Files_Size_b447_Ty) (c3 : files_Files_Size_c411_Ty) (c4 : files_Files_Write_5dfd_Ty) (c5 : files_Files_Write_5ecf_Ty) (c6 : files_Files_Seek_0442_Ty) (c7 : files_Files_Seek_4680_Ty) (c8 : files_Files_Read_0442_Ty) (c9 : files_Files_Read_4680_Ty) (c10 : files_Files_Rename_100a_Ty) (c11 : files_Files_Rename_94d5_Ty) (c12 : files_Files_Open_f601_Ty) (c13 : files_Files_Open_9fbb_Ty) (c14 : files_New_38f2_Ty) (c15 : files_New_bfc2_Ty) (c16 : law14_awake_Ty) {R : Type} (k0 : (Bool) → Option R) (x0 : Int) (x1 : List (Int)) (x2 : Int) (x3 : List (((ByteArray) × (ByteArray)) × ((Int) × (Bool)))) (x4 : List ((Int) × (List (Int)))) (x5 : List ((Int) × (Int))) : Option R :=
  br (decide (x0 = (0 : Int)))
  (c2 (1 : Int) x1 x2 x3 x4 x5
   (fun i750 l751 i752 l753 l754 l755 => k0 (decide (i750 = (0 : Int)))))
  (k0 false)
noncomputable def law14_FilesLive_lj3 (N : Nat) {R : Type} (k0 : (Bool) → Option R) (_ : Nat) : law14_FilesLive_Sj3 → Option R
  | .v0 x0 x1 x2 x3 => law14_FilesLive_lj3_T0 N (@files_Files_Unlink_9fbb N) (@files_Files_Unlink_f601 N) (@files_Files_Size_b447 N) (@files_Files_Size_c411 N) (@files_Files_Write_5dfd N) (@files_Files_Write_5ecf N) (@files_Files_Seek_0442 N) (@files_Files_Seek_4680 N) (@files_Files_Read_0442 N) (@files_Files_Read_4680 N) (@files_Files_Rename_100a N) (@files_Files_Rename_94d5 N) (@files_Files_Open_f601 N) (@files_Files_Open_9fbb N) (@files_New_38f2 N) (@files_New_bfc2 N) (@law14_awake N) k0 x0 x1 x2 x3
  | .v1 x0 x1 x2 x3 x4 x5 => law14_FilesLive_lj3_T1 N (@files_Files_Unlink_9fbb N) (@files_Files_Unlink_f601 N) (@files_Files_Size_b447 N) (@files_Files_Size_c411 N) (@files_Files_Write_5dfd N) (@files_Files_Write_5ecf N) (@files_Files_Seek_0442 N) (@files_Files_Seek_4680 N) (@files_Files_Read_0442 N) (@files_Files_Read_4680 N) (@files_Files_Rename_100a N) (@files_Files_Rename_94d5 N) (@files_Files_Open_f601 N) (@files_Files_Open_9fbb N) (@files_New_38f2 N) (@files_New_bfc2 N) (@law14_awake N) k0 x0 x1 x2 x3 x4 x5
noncomputable def law14_FilesLive_lj2 (N : Nat) {R : Type} (k0 : (Bool) → Option R) (_ : Nat) : law14_FilesLive_Sj2 → Option R
  | .v0 x0 x1 x2 x3 x4 x5 x6 x7 x8 x9 x10 x11 x12 => law14_FilesLive_lj2_T0 N (@files_Files_Unlink_9fbb N) (@files_Files_Unlink_f601 N) (@files_Files_Size_b447 N) (@files_Files_Size_c411 N) (@files_Files_Write_5dfd N) (@files_Files_Write_5ecf N) (@files_Files_Seek_0442 N) (@files_Files_Seek_4680 N) (@files_Files_Read_0442 N) (@files_Files_Read_4680 N) (@files_Files_Rename_100a N) (@files_Files_Rename_94d5 N) (@files_Files_Open_f601 N) (@files_Files_Open_9fbb N) (@files_New_38f2 N) (@files_New_bfc2 N) (@law14_awake N) (@law14_FilesLive_lj3 N) k0 x0 x1 x2 x3 x4 x5 x6 x7 x8 x9 x10 x11 x12
  | .v1 x0 x1 x2 x3 x4 x5 x6 x7 x8 x9 x10 x11 x12 x13 x14 => law14_FilesLive_lj2_T1 N (@files_Files_Unlink_9fbb N) (@files_Files_Unlink_f601 N) (@files_Files_Size_b447 N) (@files_Files_Size_c411 N) (@files_Files_Write_5dfd N) (@files_Files_Write_5ecf N) (@files_Files_Seek_0442 N) (@files_Files_Seek_4680 N) (@files_Files_Read_0442 N) (@files_Files_Read_4680 N) (@files_Files_Rename_100a N) (@files_Files_Rename_94d5 N) (@files_Files_Open_f601 N) (@files_Files_Open_9fbb N) (@files_New_38f2 N) (@files_New_bfc2 N) (@law14_awake N) (@law14_FilesLive_lj3 N) k0 x0 x1 x2 x3 x4 x5 x6 x7 x8 x9 x10 x11 x12 x13 x14
noncomputable def law14_FilesLive_lj1 (N : Nat) {R : Type} (k0 : (Bool) → Option R) (_ : Nat) : law14_FilesLive_Sj1 → Option R
  | .v0 x0 x1 x2 x3 x4 x5 => law14_FilesLive_lj1_T0 N (@files_Files_Unlink_9fbb N) (@files_Files_Unlink_f601 N) (@files_Files_Size_b447 N) (@files_Files_Size_c411 N) (@files_Files_Write_5dfd N) (@files_Files_Write_5ecf N) (@files_Files_Seek_0442 N) (@files_Files_Seek_4680 N) (@files_Files_Read_0442 N) (@files_Files_Read_4680 N) (@files_Files_Rename_100a N) (@files_Files_Rename_94d5 N) (@files_Files_Open_f601 N) (@files_Files_Open_9fbb N) (@files_New_38f2 N) (@files_New_bfc2 N) (@law14_awake N) (@law14_FilesLive_lj2 N) (@law14_FilesLive_lj3 N) k0 x0 x1 x2 x3 x4 x5
  | .v1 x0 x1 x2 x3 x4 x5 x6 x7 => law14_FilesLive_lj1_T1 N (@files_Files_Unlink_9fbb N) (@files_Files_Unlink_f601 N) (@files_Files_Size_b447 N) (@files_Files_Size_c411 N) (@files_Files_Write_5dfd N) (@files_Files_Write_5ecf N) (@files_Files_Seek_0442 N) (@files_Files_Seek_4680 N) (@files_Files_Read_0442 N) (@files_Files_Read_4680 N) (@files_Files_Rename_100a N) (@files_Files_Rename_94d5 N) (@files_Files_Open_f601 N) (@files_Files_Open_9fbb N) (@files_New_38f2 N) (@files_New_bfc2 N) (@law14_awake N) (@law14_FilesLive_lj2 N) (@law14_FilesLive_lj3 N) k0 x0 x1 x2 x3 x4 x5 x6 x7
noncomputable def law14_FilesLive_lj0 (N : Nat) {R : Type} (k0 : (Bool) → Option R) (_ : Nat) : law14_FilesLive_Sj0 → Option R
  | .v0 x0 x1 x2 x3 x4 => law14_FilesLive_lj0_T0 N (@files_Files_Unlink_9fbb N) (@files_Files_Unlink_f601 N) (@files_Files_Size_b447 N) (@files_Files_Size_c411 N) (@files_Files_Write_5dfd N) (@files_Files_Write_5ecf N) (@files_Files_Seek_0442 N) (@files_Files_Seek_4680 N) (@files_Files_Read_0442 N) (@files_Files_Read_4680 N) (@files_Files_Rename_100a N) (@files_Files_Rename_94d5 N) (@files_Files_Open_f601 N) (@files_Files_Open_9fbb N) (@files_New_38f2 N) (@files_New_bfc2 N) (@law14_awake N) (@law14_FilesLive_lj1 N) (@law14_FilesLive_lj2 N) (@law14_FilesLive_lj3 N) k0 x0 x1 x2 x3 x4
  | .v1 x0 x1 x2 x3 x4 x5 x6 => law14_FilesLive_lj0_T1 N (@files_Files_Unlink_9fbb N) (@files_Files_Unlink_f601 N) (@files_Files_Size_b447 N) (@files_Files_Size_c411 N) (@files_Files_Write_5dfd N) (@files_Files_Write_5ecf N) (@files_Files_Seek_0442 N) (@files_Files_Seek_4680 N) (@files_Files_Read_0442 N) (@files_Files_Read_4680 N) (@files_Files_Rename_100a N) (@files_Files_Rename_94d5 N) (@files_Files_Open_f601 N) (@files_Files_Open_9fbb N) (@files_New_38f2 N) (@files_New_bfc2 N) (@law14_awake N) (@law14_FilesLive_lj1 N) (@law14_FilesLive_lj2 N) (@law14_FilesLive_lj3 N) k0 x0 x1 x2 x3 x4 x5 x6
noncomputable def law14_FilesLive_T (N : Nat) (c0 : files_Files_Unlink_9fbb_Ty) (c1 : files_Files_Unlink_f601_Ty) (c2 : files_Files_Size_b447_Ty) (c3 : files_Files_Size_c411_Ty) (c4 : files_Files_Write_5dfd_Ty) (c5 : files_Files_Write_5ecf_Ty) (c6 : files_Files_Seek_0442_Ty) (c7 : files_Files_Seek_4680_Ty) (c8 : files_Files_Read_0442_Ty) (c9 : files_Files_Read_4680_Ty) (c10 : files_Files_Rename_100a_Ty) (c11 : files_Files_Rename_94d5_Ty) (c12 : files_Files_Open_f601_Ty) (c13 : files_Files_Open_9fbb_Ty) (c14 : files_New_38f2_Ty) (c15 : files_New_bfc2_Ty) (c16 : law14_awake_Ty) (wj0 : law14_FilesLive_lj0_Ty) (wj1 : law14_FilesLive_lj1_Ty) (wj2 : law14_FilesLive_lj2_Ty) (wj3 : law14_FilesLive_lj3_Ty) {R : Type} (x0 : List (Int)) (x1 : Bool) (k0 : (Bool) → Option R) : Option R :=
  c16
  (fun b234 => br (!b234)
   (k0 false)
   (br (!(decide ((Nat.cast (List.length x0) : Int) = (0 : Int))))
    (br (decide ((8 : Int) < (Nat.cast (List.length x0) : Int)))
     (k0 true)
     (c15 (((bs [97]) , (false , (0 : Int))) :: (((bs [98]) , (false , (0 : Int))) :: ([] : List ((Sh.str.pair (Sh.bool.pair (Sh.int IntKind.i64))).T)))) (x0 :: (((1 : Int) :: ([] : List ((Sh.int IntKind.u8).T))) :: ([] : List ((Sh.int IntKind.u8).isl.T))))
      (fun i473 l474 l475 => br (!(!(decide (i473 = (0 : Int)))))
       (k0 false)
       (k0 false))
      (fun i476 l477 l478 l479 l480 l481 => br (!(!(decide (i476 = (0 : Int)))))
       (c13 (bs [97]) l479 l480 l481
        (fun i533 l534 l535 l536 => br (!(decide (i533 = (0 : Int))))
         (k0 false)
         (wj0
          (fun b634 => k0 b634)
          N (.v0 x0 x1 l534 l535 l536))))
       (k0 false))
      (fun i635 l636 l637 l638 i639 l640 l641 l642 => br (!(!(decide (i635 = (0 : Int)))))
       (c12 (bs [97]) l638 i639 l640 l641 l642
        (fun i643 l644 i645 l646 l647 l648 => br (!(decide (i643 = (0 : Int))))
         (k0 false)
         (wj0
          (fun b782 => k0 b782)
          N (.v1 x0 x1 l644 i645 l646 l647 l648))))
       (k0 false))))
    (k0 true)))
noncomputable def law14_FilesLive (N : Nat) {R : Type} (x0 : List (Int)) (x1 : Bool) (k0 : (Bool) → Option R) : Option R := law14_FilesLive_T N (@files_Files_Unlink_9fbb N) (@files_Files_Unlink_f601 N) (@files_Files_Size_b447 N) (@files_Files_Size_c411 N) (@files_Files_Write_5dfd N) (@files_Files_Write_5ecf N) (@files_Files_Seek_0442 N) (@files_Files_Seek_4680 N) (@files_Files_Read_0442 N) (@files_Files_Read_4680 N) (@files_Files_Rename_100a N) (@files_Files_Rename_94d5 N) (@files_Files_Open_f601 N) (@files_Files_Open_9fbb N) (@files_New_38f2 N) (@files_New_bfc2 N) (@law14_awake N) (@law14_FilesLive_lj0 N) (@law14_FilesLive_lj1 N) (@law14_FilesLive_lj2 N) (@law14_FilesLive_lj3 N) x0 x1 k0
end Go.Proofs.Ytfeacgamgdpojaa
