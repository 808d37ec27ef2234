/-
  The functions that the statement reaches, each as a function of Lean, the first of them (printed by a program of this work).
-/
import Derived.Test.YtlfhmecdgfennaaGx5
set_option linter.unusedVariables false
set_option maxRecDepth 100000
namespace Go.Proofs.Ytlfhmecdgfennaa
open Go.Gx
abbrev stringslite_IndexByte_Ty : Type 1 := {R : Type} → (ByteArray) → (Int) → ((Int) → Option R) → Option R
abbrev stringslite_Index_Ty : Type 1 := {R : Type} → (ByteArray) → (ByteArray) → ((Int) → Option R) → Option R
noncomputable def stringslite_Index_T (N : Nat) (c0 : stringslite_IndexByte_Ty) {R : Type} (x0 : ByteArray) (x1 : ByteArray) (k0 : (Int) → Option R) : Option R :=
  br (!(decide ((Nat.cast (ByteArray.size x1) : Int) = (0 : Int))))
  (br (decide (x1 = x0))
   (k0 (0 : Int))
   (br (decide ((Nat.cast (ByteArray.size x1) : Int) = (1 : Int)))
    (br (inB (0 : Int) (ByteArray.size x1))
     (c0 x0 (bt x1 (0 : Int))
      (fun i0 => k0 i0))
     (none))
    (br (decide ((Nat.cast (ByteArray.size x0) : Int) ≤ (Nat.cast (ByteArray.size x1) : Int)))
     (k0 (-1 : Int))
     (none))))
  (k0 (0 : Int))
noncomputable def stringslite_Index (N : Nat) {R : Type} (x0 : ByteArray) (x1 : ByteArray) (k0 : (Int) → Option R) : Option R := stringslite_Index_T N @stringslite_IndexByte x0 x1 k0
abbrev stringslite_Cut_Ty : Type 1 := {R : Type} → (ByteArray) → (ByteArray) → ((ByteArray) → (ByteArray) → (Bool) → Option R) → Option R
noncomputable def stringslite_Cut_T (N : Nat) (c0 : stringslite_Index_Ty) {R : Type} (x0 : ByteArray) (x1 : ByteArray) (k0 : (ByteArray) → (ByteArray) → (Bool) → Option R) : Option R :=
  c0 x0 x1
  (fun i1 => br (decide ((0 : Int) ≤ i1))
   (br (leB i1 (ByteArray.size x0))
    (br (leB (IntKind.wrap .i64 (i1 + (Nat.cast (ByteArray.size x1) : Int))) (ByteArray.size x0))
     (k0 (ByteArray.extract x0 (0 : Nat) (Int.toNat i1)) (ByteArray.extract x0 (Int.toNat (IntKind.wrap .i64 (i1 + (Nat.cast (ByteArray.size x1) : Int)))) (ByteArray.size x0)) true)
     (none))
    (none))
   (k0 x0 (bs []) false))
noncomputable def stringslite_Cut (N : Nat) {R : Type} (x0 : ByteArray) (x1 : ByteArray) (k0 : (ByteArray) → (ByteArray) → (Bool) → Option R) : Option R := stringslite_Cut_T N (@stringslite_Index N) x0 x1 k0
abbrev strings_Cut_Ty : Type 1 := {R : Type} → (ByteArray) → (ByteArray) → ((ByteArray) → (ByteArray) → (Bool) → Option R) → Option R
noncomputable def strings_Cut_T (N : Nat) (c0 : stringslite_Cut_Ty) {R : Type} (x0 : ByteArray) (x1 : ByteArray) (k0 : (ByteArray) → (ByteArray) → (Bool) → Option R) : Option R :=
  c0 x0 x1
  (fun s2 s3 b4 => k0 s2 s3 b4)
noncomputable def strings_Cut (N : Nat) {R : Type} (x0 : ByteArray) (x1 : ByteArray) (k0 : (ByteArray) → (ByteArray) → (Bool) → Option R) : Option R := strings_Cut_T N (@stringslite_Cut N) x0 x1 k0
abbrev check_letter_Ty : Type 1 := {R : Type} → (Int) → ((Bool) → Option R) → Option R
noncomputable def check_letter_T (N : Nat) {R : Type} (x0 : Int) (k0 : (Bool) → Option R) : Option R :=
  br (decide ((97 : Int) ≤ x0))
  (br (!(decide (x0 ≤ (122 : Int))))
   (br (decide ((48 : Int) ≤ x0))
    (br (!(decide (x0 ≤ (57 : Int))))
     (br (!(decide (x0 = (46 : Int))))
      (k0 (decide (x0 = (95 : Int))))
      (k0 true))
     (k0 true))
    (br (!(decide (x0 = (46 : Int))))
     (k0 (decide (x0 = (95 : Int))))
     (k0 true)))
   (k0 true))
  (br (decide ((48 : Int) ≤ x0))
   (br (!(decide (x0 ≤ (57 : Int))))
    (br (!(decide (x0 = (46 : Int))))
     (k0 (decide (x0 = (95 : Int))))
     (k0 true))
    (k0 true))
   (br (!(decide (x0 = (46 : Int))))
    (k0 (decide (x0 = (95 : Int))))
    (k0 true)))
noncomputable def check_letter (N : Nat) {R : Type} (x0 : Int) (k0 : (Bool) → Option R) : Option R := check_letter_T N x0 k0
abbrev check_part_l0_Ty : Type 1 := {R : Type} → ((ByteArray) → (Bool) → Option R) → ((ByteArray) → Option R) → Nat → (ByteArray) → (Int) → (Int) → Option R
abbrev check_part_Ty : Type 1 := {R : Type} → (ByteArray) → ((Bool) → Option R) → Option R
noncomputable def check_part_l0_T0 (N : Nat) (c0 : check_letter_Ty) {R : Type} (nx : (ByteArray) → (Int) → (Int) → Option R) (k0 : (ByteArray) → (Bool) → Option R) (k1 : (ByteArray) → Option R) (x0 : ByteArray) (x1 : Int) (x2 : Int) : Option R :=
  br (decide (x2 < x1))
  (br (inB x2 (ByteArray.size x0))
   (c0 (bt x0 x2)
    (fun b8 => br (!b8)
     (k0 x0 false)
     (nx x0 x1 (IntKind.wrap .i64 (x2 + (1 : Int))))))
   (none))
  (k1 x0)
noncomputable def check_part_l0 (N : Nat) {R : Type} (k0 : (ByteArray) → (Bool) → Option R) (k1 : (ByteArray) → Option R) : Nat → (ByteArray) → (Int) → (Int) → Option R
  | 0, _, _, _ => none
  | n + 1, x0, x1, x2 => check_part_l0_T0 N (@check_letter N) (fun x0 x1 x2 => check_part_l0 N k0 k1 n x0 x1 x2) k0 k1 x0 x1 x2
noncomputable def check_part_T (N : Nat) (c0 : check_letter_Ty) (w0 : check_part_l0_Ty) {R : Type} (x0 : ByteArray) (k0 : (Bool) → Option R) : Option R :=
  w0
  (fun s9 b10 => k0 b10)
  (fun s11 => br (!(decide (s11 = (bs []))))
   (br (!(decide (s11 = (bs [46]))))
    (k0 (!(decide (s11 = (bs [46, 46])))))
    (k0 false))
   (k0 false))
  N x0 (Nat.cast (ByteArray.size x0) : Int) (0 : Int)
noncomputable def check_part (N : Nat) {R : Type} (x0 : ByteArray) (k0 : (Bool) → Option R) : Option R := check_part_T N (@check_letter N) (@check_part_l0 N) x0 k0
abbrev check_Name_Ty : Type 1 := {R : Type} → (ByteArray) → ((Bool) → Option R) → Option R
noncomputable def check_Name_T (N : Nat) (c0 : check_part_Ty) (c1 : strings_Cut_Ty) {R : Type} (x0 : ByteArray) (k0 : (Bool) → Option R) : Option R :=
  br (decide ((8 : Int) < (Nat.cast (ByteArray.size x0) : Int)))
  (k0 false)
  (c1 x0 (bs [47])
   (fun s5 s6 b7 => c0 s5
    (fun b12 => br b12
     (br (!(!b7))
      (c0 s6
       (fun b13 => k0 b13))
      (k0 true))
     (k0 false))))
noncomputable def check_Name (N : Nat) {R : Type} (x0 : ByteArray) (k0 : (Bool) → Option R) : Option R := check_Name_T N (@check_part N) (@strings_Cut N) x0 k0
abbrev names_May_Ty : Type 1 := {R : Type} → (ByteArray) → ((Bool) → Option R) → Option R
noncomputable def names_May_T (N : Nat) (c0 : check_Name_Ty) {R : Type} (x0 : ByteArray) (k0 : (Bool) → Option R) : Option R :=
  c0 x0
  (fun b14 => k0 b14)
noncomputable def names_May (N : Nat) {R : Type} (x0 : ByteArray) (k0 : (Bool) → Option R) : Option R := names_May_T N (@check_Name N) x0 k0
abbrev names_Split_Ty : Type 1 := {R : Type} → (ByteArray) → ((ByteArray) → (ByteArray) → Option R) → Option R
noncomputable def names_Split_T (N : Nat) (c0 : strings_Cut_Ty) (c1 : names_May_Ty) {R : Type} (x0 : ByteArray) (k0 : (ByteArray) → (ByteArray) → Option R) : Option R :=
  c1 x0
  (fun b16 => br (!b16)
   (k0 (bs []) (bs []))
   (c0 x0 (bs [47])
    (fun s17 s18 b19 => br (!b19)
     (k0 (bs []) s17)
     (k0 s17 s18))))
noncomputable def names_Split (N : Nat) {R : Type} (x0 : ByteArray) (k0 : (ByteArray) → (ByteArray) → Option R) : Option R := names_Split_T N (@strings_Cut N) (@names_May N) x0 k0
abbrev tree_of_Ty : Type 1 := {R : Type} → (ByteArray) → ((ByteArray) → (ByteArray) → Option R) → Option R
noncomputable def tree_of_T (N : Nat) (c0 : names_Split_Ty) {R : Type} (x0 : ByteArray) (k0 : (ByteArray) → (ByteArray) → Option R) : Option R :=
  c0 x0
  (fun s20 s21 => k0 s20 s21)
noncomputable def tree_of (N : Nat) {R : Type} (x0 : ByteArray) (k0 : (ByteArray) → (ByteArray) → Option R) : Option R := tree_of_T N (@names_Split N) x0 k0
abbrev tree_Tree_above_2de7_Ty : Type 1 := {R : Type} → (ByteArray) → (ByteArray) → (Int) → (List (((ByteArray) × (ByteArray)) × ((Int) × (Bool)))) → ((Int) → (Int) → (List (((ByteArray) × (ByteArray)) × ((Int) × (Bool)))) → Option R) → Option R
noncomputable def tree_Tree_above_2de7_T (N : Nat) {R : Type} (x0 : ByteArray) (x1 : ByteArray) (x2 : Int) (x3 : List (((ByteArray) × (ByteArray)) × ((Int) × (Bool)))) (k0 : (Int) → (Int) → (List (((ByteArray) × (ByteArray)) × ((Int) × (Bool)))) → Option R) : Option R :=
  br (decide (x1 = (bs [])))
  (k0 (65282 : Int) x2 x3)
  (br (decide (x0 = (bs [])))
   (k0 (0 : Int) x2 x3)
   (br ((Option.isSome (mfind (.pair .str .str) (.pair (.int .i64) .bool) x3 ((bs []) , x0))) == (Option.isSome (mfind (.pair .str .str) (.pair (.int .i64) .bool) x3 ((bs []) , x0))))
    (br (!(Option.isSome (mfind (.pair .str .str) (.pair (.int .i64) .bool) x3 ((bs []) , x0))))
     (k0 (65282 : Int) x2 x3)
     (br (!(Option.getD (mfind (.pair .str .str) (.pair (.int .i64) .bool) x3 ((bs []) , x0)) ((0 : Int) , false)).2)
      (k0 (65300 : Int) x2 x3)
      (k0 (0 : Int) x2 x3)))
    (none)))
noncomputable def tree_Tree_above_2de7 (N : Nat) {R : Type} (x0 : ByteArray) (x1 : ByteArray) (x2 : Int) (x3 : List (((ByteArray) × (ByteArray)) × ((Int) × (Bool)))) (k0 : (Int) → (Int) → (List (((ByteArray) × (ByteArray)) × ((Int) × (Bool)))) → Option R) : Option R := tree_Tree_above_2de7_T N x0 x1 x2 x3 k0
abbrev tree_Tree_Make_c502_Ty : Type 1 := {R : Type} → (ByteArray) → (Bool) → (Int) → (List (((ByteArray) × (ByteArray)) × ((Int) × (Bool)))) → ((Int) → (Int) → (Int) → (List (((ByteArray) × (ByteArray)) × ((Int) × (Bool)))) → Option R) → Option R
noncomputable def tree_Tree_Make_c502_T (N : Nat) (c0 : tree_Tree_above_2de7_Ty) (c1 : tree_of_Ty) {R : Type} (x0 : ByteArray) (x1 : Bool) (x2 : Int) (x3 : List (((ByteArray) × (ByteArray)) × ((Int) × (Bool)))) (k0 : (Int) → (Int) → (Int) → (List (((ByteArray) × (ByteArray)) × ((Int) × (Bool)))) → Option R) : Option R :=
  c1 x0
  (fun s22 s23 => c0 s22 s23 x2 x3
   (fun i24 i25 l26 => br (!(decide (i24 = (0 : Int))))
    (k0 (-1 : Int) i24 i25 l26)
    (br ((Option.isSome (mfind (.pair .str .str) (.pair (.int .i64) .bool) l26 (s22 , s23))) == (Option.isSome (mfind (.pair .str .str) (.pair (.int .i64) .bool) l26 (s22 , s23))))
     (br (Option.isSome (mfind (.pair .str .str) (.pair (.int .i64) .bool) l26 (s22 , s23)))
      (k0 (-1 : Int) (65297 : Int) i25 l26)
      (br x1
       (br (!(decide (s22 = (bs []))))
        (k0 (-1 : Int) (65302 : Int) i25 l26)
        (br (decide ((8 : Int) ≤ (Nat.cast (List.length l26) : Int)))
         (k0 (-1 : Int) (65308 : Int) i25 l26)
         (k0 (IntKind.wrap .i64 ((IntKind.wrap .i64 (i25 + (1 : Int))) - (1 : Int))) (0 : Int) (IntKind.wrap .i64 (i25 + (1 : Int))) (mput (.pair .str .str) (.pair (.int .i64) .bool) l26 (s22 , s23) (i25 , x1)))))
       (br (decide ((8 : Int) ≤ (Nat.cast (List.length l26) : Int)))
        (k0 (-1 : Int) (65308 : Int) i25 l26)
        (k0 (IntKind.wrap .i64 ((IntKind.wrap .i64 (i25 + (1 : Int))) - (1 : Int))) (0 : Int) (IntKind.wrap .i64 (i25 + (1 : Int))) (mput (.pair .str .str) (.pair (.int .i64) .bool) l26 (s22 , s23) (i25 , x1))))))
     (none))))
noncomputable def tree_Tree_Make_c502 (N : Nat) {R : Type} (x0 : ByteArray) (x1 : Bool) (x2 : Int) (x3 : List (((ByteArray) × (ByteArray)) × ((Int) × (Bool)))) (k0 : (Int) → (Int) → (Int) → (List (((ByteArray) × (ByteArray)) × ((Int) × (Bool)))) → Option R) : Option R := tree_Tree_Make_c502_T N (@tree_Tree_above_2de7 N) (@tree_of N) x0 x1 x2 x3 k0
abbrev tree_New_644a_l0_Ty : Type 1 := {R : Type} → ((Int) → (List ((ByteArray) × ((Bool) × (Int)))) → (Int) → (List (((ByteArray) × (ByteArray)) × ((Int) × (Bool)))) → Option R) → ((List ((ByteArray) × ((Bool) × (Int)))) → (Int) → (List (((ByteArray) × (ByteArray)) × ((Int) × (Bool)))) → Option R) → Nat → (Int) → (Int) → (List ((ByteArray) × ((Bool) × (Int)))) → (Int) → (List (((ByteArray) × (ByteArray)) × ((Int) × (Bool)))) → Option R
abbrev tree_New_644a_Ty : Type 1 := {R : Type} → (List ((ByteArray) × ((Bool) × (Int)))) → ((Int) → (List ((ByteArray) × ((Bool) × (Int)))) → Option R) → ((Int) → (List ((ByteArray) × ((Bool) × (Int)))) → (Int) → (List (((ByteArray) × (ByteArray)) × ((Int) × (Bool)))) → Option R) → Option R
noncomputable def tree_New_644a_l0_T0 (N : Nat) (c0 : tree_Tree_Make_c502_Ty) (c1 : names_May_Ty) {R : Type} (nx : (Int) → (Int) → (List ((ByteArray) × ((Bool) × (Int)))) → (Int) → (List (((ByteArray) × (ByteArray)) × ((Int) × (Bool)))) → Option R) (k0 : (Int) → (List ((ByteArray) × ((Bool) × (Int)))) → (Int) → (List (((ByteArray) × (ByteArray)) × ((Int) × (Bool)))) → Option R) (k1 : (List ((ByteArray) × ((Bool) × (Int)))) → (Int) → (List (((ByteArray) × (ByteArray)) × ((Int) × (Bool)))) → Option R) (x0 : Int) (x1 : Int) (x2 : List ((ByteArray) × ((Bool) × (Int)))) (x3 : Int) (x4 : List (((ByteArray) × (ByteArray)) × ((Int) × (Bool)))) : Option R :=
  br (decide (x1 < x0))
  (br (inB x1 (List.length x2))
   (br (decide ((Int.toNat x1) < (List.length x2)))
    (c1 (List.getD x2 (Int.toNat x1) ((bs []) , (false , (0 : Int)))).1
     (fun b15 => br (!b15)
      (k0 (11 : Int) x2 x3 x4)
      (c0 (List.getD x2 (Int.toNat x1) ((bs []) , (false , (0 : Int)))).1 (List.getD x2 (Int.toNat x1) ((bs []) , (false , (0 : Int)))).2.1 x3 x4
       (fun i27 i28 i29 l30 => br (!(decide (i28 = (0 : Int))))
        (k0 (11 : Int) x2 i29 l30)
        (nx x0 (IntKind.wrap .i64 (x1 + (1 : Int))) x2 i29 l30)))))
    (none))
   (none))
  (k1 x2 x3 x4)
noncomputable def tree_New_644a_l0 (N : Nat) {R : Type} (k0 : (Int) → (List ((ByteArray) × ((Bool) × (Int)))) → (Int) → (List (((ByteArray) × (ByteArray)) × ((Int) × (Bool)))) → Option R) (k1 : (List ((ByteArray) × ((Bool) × (Int)))) → (Int) → (List (((ByteArray) × (ByteArray)) × ((Int) × (Bool)))) → Option R) : Nat → (Int) → (Int) → (List ((ByteArray) × ((Bool) × (Int)))) → (Int) → (List (((ByteArray) × (ByteArray)) × ((Int) × (Bool)))) → Option R
  | 0, _, _, _, _, _ => none
  | n + 1, x0, x1, x2, x3, x4 => tree_New_644a_l0_T0 N (@tree_Tree_Make_c502 N) (@names_May N) (fun x0 x1 x2 x3 x4 => tree_New_644a_l0 N k0 k1 n x0 x1 x2 x3 x4) k0 k1 x0 x1 x2 x3 x4
noncomputable def tree_New_644a_T (N : Nat) (c0 : tree_Tree_Make_c502_Ty) (c1 : names_May_Ty) (w0 : tree_New_644a_l0_Ty) {R : Type} (x0 : List ((ByteArray) × ((Bool) × (Int)))) (k0 : (Int) → (List ((ByteArray) × ((Bool) × (Int)))) → Option R) (k1 : (Int) → (List ((ByteArray) × ((Bool) × (Int)))) → (Int) → (List (((ByteArray) × (ByteArray)) × ((Int) × (Bool)))) → Option R) : Option R :=
  br (decide ((8 : Int) < (Nat.cast (List.length x0) : Int)))
  (k0 (11 : Int) x0)
  (w0
   (fun i31 l32 i33 l34 => k0 i31 l32)
   (fun l35 i36 l37 => k1 (0 : Int) l35 i36 l37)
   N (Nat.cast (List.length x0) : Int) (0 : Int) x0 (0 : Int) ([] : List (((Sh.str.pair Sh.str).T) × (((Sh.int IntKind.i64).pair Sh.bool).T))))
noncomputable def tree_New_644a (N : Nat) {R : Type} (x0 : List ((ByteArray) × ((Bool) × (Int)))) (k0 : (Int) → (List ((ByteArray) × ((Bool) × (Int)))) → Option R) (k1 : (Int) → (List ((ByteArray) × ((Bool) × (Int)))) → (Int) → (List (((ByteArray) × (ByteArray)) × ((Int) × (Bool)))) → Option R) : Option R := tree_New_644a_T N (@tree_Tree_Make_c502 N) (@names_May N) (@tree_New_644a_l0 N) x0 k0 k1
abbrev class_Files_66e6_l0_Ty : Type 1 := {R : Type} → ((List ((ByteArray) × ((Bool) × (Int)))) → (List (Int)) → (List (Int)) → Option R) → Nat → (Int) → (Int) → (List ((ByteArray) × ((Bool) × (Int)))) → (List (Int)) → (List (Int)) → Option R
abbrev class_Files_66e6_Ty : Type 1 := {R : Type} → (Int) → (Int) → (Int) → (List ((ByteArray) × ((Bool) × (Int)))) → (List (Int)) → ((List ((ByteArray) × ((Bool) × (Int)))) → (List (Int)) → (List (Int)) → Option R) → Option R
noncomputable def class_Files_66e6_l0_T0 (N : Nat) {R : Type} (nx : (Int) → (Int) → (List ((ByteArray) × ((Bool) × (Int)))) → (List (Int)) → (List (Int)) → Option R) (k0 : (List ((ByteArray) × ((Bool) × (Int)))) → (List (Int)) → (List (Int)) → Option R) (x0 : Int) (x1 : Int) (x2 : List ((ByteArray) × ((Bool) × (Int)))) (x3 : List (Int)) (x4 : List (Int)) : Option R :=
  br (decide (x1 < x0))
  (br (inB x1 (List.length x2))
   (br (decide ((Int.toNat x1) < (List.length x2)))
    (br (!(List.getD x2 (Int.toNat x1) ((bs []) , (false , (0 : Int)))).2.1)
     (br (((fits (0 : Nat) (List.length x4) x4) && (decide ((((List.length x4) + (1 : Nat)) * (8 : Nat)) ≤ (70368744177664 : Nat)))) && true)
      (nx x0 (IntKind.wrap .i64 (x1 + (1 : Int))) x2 x3 ((sub x4 (0 : Nat) (List.length x4)) ++ (x1 :: ([] : List ((Sh.int IntKind.i64).T)))))
      (none))
     (nx x0 (IntKind.wrap .i64 (x1 + (1 : Int))) x2 x3 x4))
    (none))
   (none))
  (k0 x2 x3 x4)
noncomputable def class_Files_66e6_l0 (N : Nat) {R : Type} (k0 : (List ((ByteArray) × ((Bool) × (Int)))) → (List (Int)) → (List (Int)) → Option R) : Nat → (Int) → (Int) → (List ((ByteArray) × ((Bool) × (Int)))) → (List (Int)) → (List (Int)) → Option R
  | 0, _, _, _, _, _ => none
  | n + 1, x0, x1, x2, x3, x4 => class_Files_66e6_l0_T0 N (fun x0 x1 x2 x3 x4 => class_Files_66e6_l0 N k0 n x0 x1 x2 x3 x4) k0 x0 x1 x2 x3 x4
noncomputable def class_Files_66e6_T (N : Nat) (w0 : class_Files_66e6_l0_Ty) {R : Type} (x0 : Int) (x1 : Int) (x2 : Int) (x3 : List ((ByteArray) × ((Bool) × (Int)))) (x4 : List (Int)) (k0 : (List ((ByteArray) × ((Bool) × (Int)))) → (List (Int)) → (List (Int)) → Option R) : Option R :=
  w0
  (fun l40 l41 l42 => k0 l40 l41 l42)
  N (Nat.cast (List.length x3) : Int) (0 : Int) x3 x4 ([] : List ((Sh.int IntKind.i64).T))
noncomputable def class_Files_66e6 (N : Nat) {R : Type} (x0 : Int) (x1 : Int) (x2 : Int) (x3 : List ((ByteArray) × ((Bool) × (Int)))) (x4 : List (Int)) (k0 : (List ((ByteArray) × ((Bool) × (Int)))) → (List (Int)) → (List (Int)) → Option R) : Option R := class_Files_66e6_T N (@class_Files_66e6_l0 N) x0 x1 x2 x3 x4 k0
abbrev class_fits_Ty : Type 1 := {R : Type} → (Int) → (Int) → ((Bool) → Option R) → Option R
noncomputable def class_fits_T (N : Nat) {R : Type} (x0 : Int) (x1 : Int) (k0 : (Bool) → Option R) : Option R :=
  br (decide ((0 : Int) ≤ x0))
  (k0 (decide (x0 ≤ x1)))
  (k0 false)
noncomputable def class_fits (N : Nat) {R : Type} (x0 : Int) (x1 : Int) (k0 : (Bool) → Option R) : Option R := class_fits_T N x0 x1 k0
abbrev class_May_66e6_l0_Ty : Type 1 := {R : Type} → ((Bool) → (List ((ByteArray) × ((Bool) × (Int)))) → (List (Int)) → (Int) → (Int) → (Int) → Option R) → ((List ((ByteArray) × ((Bool) × (Int)))) → (List (Int)) → (Int) → (Int) → (Int) → Option R) → Nat → (Int) → (Int) → (List ((ByteArray) × ((Bool) × (Int)))) → (List (Int)) → (Int) → (Int) → (Int) → Option R
abbrev class_May_66e6_l1_Ty : Type 1 := {R : Type} → ((Bool) → (List ((ByteArray) × ((Bool) × (Int)))) → (List (Int)) → (Int) → (Int) → (Int) → Option R) → ((List ((ByteArray) × ((Bool) × (Int)))) → (List (Int)) → (Int) → (Int) → (Int) → Option R) → Nat → (Int) → (Int) → (List ((ByteArray) × ((Bool) × (Int)))) → (List (Int)) → (Int) → (Int) → (Int) → Option R
abbrev class_May_66e6_Ty : Type 1 := {R : Type} → (Int) → (Int) → (Int) → (List ((ByteArray) × ((Bool) × (Int)))) → (List (Int)) → ((Bool) → (List ((ByteArray) × ((Bool) × (Int)))) → (List (Int)) → Option R) → Option R
noncomputable def class_May_66e6_l0_T0 (N : Nat) (c0 : class_fits_Ty) (c1 : class_Files_66e6_Ty) (c2 : tree_New_644a_Ty) (w1 : class_May_66e6_l1_Ty) {R : Type} (nx : (Int) → (Int) → (List ((ByteArray) × ((Bool) × (Int)))) → (List (Int)) → (Int) → (Int) → (Int) → Option R) (k0 : (Bool) → (List ((ByteArray) × ((Bool) × (Int)))) → (List (Int)) → (Int) → (Int) → (Int) → Option R) (k1 : (List ((ByteArray) × ((Bool) × (Int)))) → (List (Int)) → (Int) → (Int) → (Int) → Option R) (x0 : Int) (x1 : Int) (x2 : List ((ByteArray) × ((Bool) × (Int)))) (x3 : List (Int)) (x4 : Int) (x5 : Int) (x6 : Int) : Option R :=
  br (decide (x1 < x0))
  (br (inB x1 (List.length x2))
   (br (decide ((Int.toNat x1) < (List.length x2)))
    (c0 (List.getD x2 (Int.toNat x1) ((bs []) , (false , (0 : Int)))).2.2 (3 : Int)
     (fun b46 => br (!(!b46))
      (br (List.getD x2 (Int.toNat x1) ((bs []) , (false , (0 : Int)))).2.1
       (br (!(decide ((List.getD x2 (Int.toNat x1) ((bs []) , (false , (0 : Int)))).2.2 = (0 : Int))))
        (k0 false x2 x3 x4 x5 x6)
        (nx x0 (IntKind.wrap .i64 (x1 + (1 : Int))) x2 x3 x4 x5 x6))
       (nx x0 (IntKind.wrap .i64 (x1 + (1 : Int))) x2 x3 x4 x5 x6))
      (k0 false x2 x3 x4 x5 x6)))
    (none))
   (none))
  (k1 x2 x3 x4 x5 x6)
noncomputable def class_May_66e6_l1_T0 (N : Nat) (c0 : class_fits_Ty) (c1 : class_Files_66e6_Ty) (c2 : tree_New_644a_Ty) {R : Type} (nx : (Int) → (Int) → (List ((ByteArray) × ((Bool) × (Int)))) → (List (Int)) → (Int) → (Int) → (Int) → Option R) (k0 : (Bool) → (List ((ByteArray) × ((Bool) × (Int)))) → (List (Int)) → (Int) → (Int) → (Int) → Option R) (k1 : (List ((ByteArray) × ((Bool) × (Int)))) → (List (Int)) → (Int) → (Int) → (Int) → Option R) (x0 : Int) (x1 : Int) (x2 : List ((ByteArray) × ((Bool) × (Int)))) (x3 : List (Int)) (x4 : Int) (x5 : Int) (x6 : Int) : Option R :=
  br (decide (x1 < x0))
  (br (inB x1 (List.length x3))
   (br (decide ((Int.toNat x1) < (List.length x3)))
    (c0 (List.getD x3 (Int.toNat x1) (0 : Int)) (3 : Int)
     (fun b58 => br (!b58)
      (k0 false x2 x3 x4 x5 x6)
      (nx x0 (IntKind.wrap .i64 (x1 + (1 : Int))) x2 x3 x4 x5 x6)))
    (none))
   (none))
  (k1 x2 x3 x4 x5 x6)
noncomputable def class_May_66e6_l1 (N : Nat) {R : Type} (k0 : (Bool) → (List ((ByteArray) × ((Bool) × (Int)))) → (List (Int)) → (Int) → (Int) → (Int) → Option R) (k1 : (List ((ByteArray) × ((Bool) × (Int)))) → (List (Int)) → (Int) → (Int) → (Int) → Option R) : Nat → (Int) → (Int) → (List ((ByteArray) × ((Bool) × (Int)))) → (List (Int)) → (Int) → (Int) → (Int) → Option R
  | 0, _, _, _, _, _, _, _ => none
  | n + 1, x0, x1, x2, x3, x4, x5, x6 => class_May_66e6_l1_T0 N (@class_fits N) (@class_Files_66e6 N) (@tree_New_644a N) (fun x0 x1 x2 x3 x4 x5 x6 => class_May_66e6_l1 N k0 k1 n x0 x1 x2 x3 x4 x5 x6) k0 k1 x0 x1 x2 x3 x4 x5 x6
noncomputable def class_May_66e6_l0 (N : Nat) {R : Type} (k0 : (Bool) → (List ((ByteArray) × ((Bool) × (Int)))) → (List (Int)) → (Int) → (Int) → (Int) → Option R) (k1 : (List ((ByteArray) × ((Bool) × (Int)))) → (List (Int)) → (Int) → (Int) → (Int) → Option R) : Nat → (Int) → (Int) → (List ((ByteArray) × ((Bool) × (Int)))) → (List (Int)) → (Int) → (Int) → (Int) → Option R
  | 0, _, _, _, _, _, _, _ => none
  | n + 1, x0, x1, x2, x3, x4, x5, x6 => class_May_66e6_l0_T0 N (@class_fits N) (@class_Files_66e6 N) (@tree_New_644a N) (@class_May_66e6_l1 N) (fun x0 x1 x2 x3 x4 x5 x6 => class_May_66e6_l0 N k0 k1 n x0 x1 x2 x3 x4 x5 x6) k0 k1 x0 x1 x2 x3 x4 x5 x6
noncomputable def class_May_66e6_T (N : Nat) (c0 : class_fits_Ty) (c1 : class_Files_66e6_Ty) (c2 : tree_New_644a_Ty) (w0 : class_May_66e6_l0_Ty) (w1 : class_May_66e6_l1_Ty) {R : Type} (x0 : Int) (x1 : Int) (x2 : Int) (x3 : List ((ByteArray) × ((Bool) × (Int)))) (x4 : List (Int)) (k0 : (Bool) → (List ((ByteArray) × ((Bool) × (Int)))) → (List (Int)) → Option R) : Option R :=
  c2 x3
  (fun i38 l39 => br (!(!(decide (i38 = (0 : Int)))))
   (c1 x0 x1 x2 l39 x4
    (fun l43 l44 l45 => br (!(decide ((4 : Int) < (Nat.cast (List.length l45) : Int))))
     (br (decide ((2 : Int) < (Nat.cast (List.length l44) : Int)))
      (k0 false l43 l44)
      (w0
       (fun b47 l48 l49 i50 i51 i52 => k0 b47 l48 l49)
       (fun l53 l54 i55 i56 i57 => w1
        (fun b59 l60 l61 i62 i63 i64 => k0 b59 l60 l61)
        (fun l65 l66 i67 i68 i69 => c0 i67 (6 : Int)
         (fun b70 => br b70
          (c0 i68 i67
           (fun b71 => br b71
            (c0 i69 (400 : Int)
             (fun b72 => k0 b72 l65 l66))
            (k0 false l65 l66)))
          (k0 false l65 l66)))
        N (Nat.cast (List.length l54) : Int) (0 : Int) l53 l54 i55 i56 i57)
       N (Nat.cast (List.length l43) : Int) (0 : Int) l43 l44 x0 x1 x2))
     (k0 false l43 l44)))
   (k0 false l39 x4))
  (fun i73 l74 i75 l76 => br (!(!(decide (i73 = (0 : Int)))))
   (c1 x0 x1 x2 l74 x4
    (fun l77 l78 l79 => br (!(decide ((4 : Int) < (Nat.cast (List.length l79) : Int))))
     (br (decide ((2 : Int) < (Nat.cast (List.length l78) : Int)))
      (k0 false l77 l78)
      (w0
       (fun b80 l81 l82 i83 i84 i85 => k0 b80 l81 l82)
       (fun l86 l87 i88 i89 i90 => w1
        (fun b91 l92 l93 i94 i95 i96 => k0 b91 l92 l93)
        (fun l97 l98 i99 i100 i101 => c0 i99 (6 : Int)
         (fun b102 => br b102
          (c0 i100 i99
           (fun b103 => br b103
            (c0 i101 (400 : Int)
             (fun b104 => k0 b104 l97 l98))
            (k0 false l97 l98)))
          (k0 false l97 l98)))
        N (Nat.cast (List.length l87) : Int) (0 : Int) l86 l87 i88 i89 i90)
       N (Nat.cast (List.length l77) : Int) (0 : Int) l77 l78 x0 x1 x2))
     (k0 false l77 l78)))
   (k0 false l74 x4))
noncomputable def class_May_66e6 (N : Nat) {R : Type} (x0 : Int) (x1 : Int) (x2 : Int) (x3 : List ((ByteArray) × ((Bool) × (Int)))) (x4 : List (Int)) (k0 : (Bool) → (List ((ByteArray) × ((Bool) × (Int)))) → (List (Int)) → Option R) : Option R := class_May_66e6_T N (@class_fits N) (@class_Files_66e6 N) (@tree_New_644a N) (@class_May_66e6_l0 N) (@class_May_66e6_l1 N) x0 x1 x2 x3 x4 k0
abbrev fails_May_e7e3_l0_Ty : Type 1 := {R : Type} → ((Int) → (Int) → (Int) → (List (Bool)) → Option R) → Nat → (Int) → (Int) → (Int) → (Int) → (Int) → (List (Bool)) → Option R
abbrev fails_May_e7e3_Ty : Type 1 := {R : Type} → (Int) → (Int) → (List (Bool)) → ((Bool) → (List (Bool)) → Option R) → Option R
noncomputable def fails_May_e7e3_l0_T0 (N : Nat) {R : Type} (nx : (Int) → (Int) → (Int) → (Int) → (Int) → (List (Bool)) → Option R) (k0 : (Int) → (Int) → (Int) → (List (Bool)) → Option R) (x0 : Int) (x1 : Int) (x2 : Int) (x3 : Int) (x4 : Int) (x5 : List (Bool)) : Option R :=
  br (decide (x4 < x3))
  (br (inB x4 (List.length x5))
   (br (decide ((Int.toNat x4) < (List.length x5)))
    (br (List.getD x5 (Int.toNat x4) false)
     (nx x0 x1 (IntKind.wrap .i64 (x2 + (1 : Int))) x3 (IntKind.wrap .i64 (x4 + (1 : Int))) x5)
     (nx x0 x1 x2 x3 (IntKind.wrap .i64 (x4 + (1 : Int))) x5))
    (none))
   (none))
  (k0 x0 x1 x2 x5)
noncomputable def fails_May_e7e3_l0 (N : Nat) {R : Type} (k0 : (Int) → (Int) → (Int) → (List (Bool)) → Option R) : Nat → (Int) → (Int) → (Int) → (Int) → (Int) → (List (Bool)) → Option R
  | 0, _, _, _, _, _, _ => none
  | n + 1, x0, x1, x2, x3, x4, x5 => fails_May_e7e3_l0_T0 N (fun x0 x1 x2 x3 x4 x5 => fails_May_e7e3_l0 N k0 n x0 x1 x2 x3 x4 x5) k0 x0 x1 x2 x3 x4 x5
noncomputable def fails_May_e7e3_T (N : Nat) (w0 : fails_May_e7e3_l0_Ty) {R : Type} (x0 : Int) (x1 : Int) (x2 : List (Bool)) (k0 : (Bool) → (List (Bool)) → Option R) : Option R :=
  w0
  (fun i114 i115 i116 l117 => br (decide ((Nat.cast (List.length l117) : Int) = i114))
   (br (decide (i114 ≤ (6 : Int)))
    (k0 (decide (i116 ≤ i115)) l117)
    (k0 false l117))
   (k0 false l117))
  N x0 x1 (0 : Int) (Nat.cast (List.length x2) : Int) (0 : Int) x2
noncomputable def fails_May_e7e3 (N : Nat) {R : Type} (x0 : Int) (x1 : Int) (x2 : List (Bool)) (k0 : (Bool) → (List (Bool)) → Option R) : Option R := fails_May_e7e3_T N (@fails_May_e7e3_l0 N) x0 x1 x2 k0
abbrev class_Caps_66e6_l0_Ty : Type 1 := {R : Type} → ((List ((ByteArray) × ((Bool) × (Int)))) → (List (Int)) → (Int) → (Int) → (Int) → (List (Int)) → Option R) → Nat → (Int) → (Int) → (List ((ByteArray) × ((Bool) × (Int)))) → (List (Int)) → (Int) → (Int) → (Int) → (List (Int)) → (List (Int)) → Option R
abbrev class_Caps_66e6_Ty : Type 1 := {R : Type} → (Int) → (Int) → (Int) → (List ((ByteArray) × ((Bool) × (Int)))) → (List (Int)) → ((List ((ByteArray) × ((Bool) × (Int)))) → (List (Int)) → (List (Int)) → Option R) → Option R
noncomputable def class_Caps_66e6_l0_T0 (N : Nat) (c0 : class_Files_66e6_Ty) {R : Type} (nx : (Int) → (Int) → (List ((ByteArray) × ((Bool) × (Int)))) → (List (Int)) → (Int) → (Int) → (Int) → (List (Int)) → (List (Int)) → Option R) (k0 : (List ((ByteArray) × ((Bool) × (Int)))) → (List (Int)) → (Int) → (Int) → (Int) → (List (Int)) → Option R) (x0 : Int) (x1 : Int) (x2 : List ((ByteArray) × ((Bool) × (Int)))) (x3 : List (Int)) (x4 : Int) (x5 : Int) (x6 : Int) (x7 : List (Int)) (x8 : List (Int)) : Option R :=
  br (decide (x1 < x0))
  (br (inB x1 (List.length x8))
   (br (decide ((Int.toNat x1) < (List.length x8)))
    (br (inB (List.getD x8 (Int.toNat x1) (0 : Int)) (List.length x2))
     (br (decide ((Int.toNat (List.getD x8 (Int.toNat x1) (0 : Int))) < (List.length x2)))
      (br (((fits (0 : Nat) (List.length x7) x7) && (decide ((((List.length x7) + (1 : Nat)) * (8 : Nat)) ≤ (70368744177664 : Nat)))) && true)
       (nx x0 (IntKind.wrap .i64 (x1 + (1 : Int))) x2 x3 x4 x5 x6 ((sub x7 (0 : Nat) (List.length x7)) ++ ((List.getD x2 (Int.toNat (List.getD x8 (Int.toNat x1) (0 : Int))) ((bs []) , (false , (0 : Int)))).2.2 :: ([] : List ((Sh.int IntKind.i64).T)))) x8)
       (none))
      (none))
     (none))
    (none))
   (none))
  (k0 x2 x3 x4 x5 x6 x7)
noncomputable def class_Caps_66e6_l0 (N : Nat) {R : Type} (k0 : (List ((ByteArray) × ((Bool) × (Int)))) → (List (Int)) → (Int) → (Int) → (Int) → (List (Int)) → Option R) : Nat → (Int) → (Int) → (List ((ByteArray) × ((Bool) × (Int)))) → (List (Int)) → (Int) → (Int) → (Int) → (List (Int)) → (List (Int)) → Option R
  | 0, _, _, _, _, _, _, _, _, _ => none
  | n + 1, x0, x1, x2, x3, x4, x5, x6, x7, x8 => class_Caps_66e6_l0_T0 N (@class_Files_66e6 N) (fun x0 x1 x2 x3 x4 x5 x6 x7 x8 => class_Caps_66e6_l0 N k0 n x0 x1 x2 x3 x4 x5 x6 x7 x8) k0 x0 x1 x2 x3 x4 x5 x6 x7 x8
noncomputable def class_Caps_66e6_T (N : Nat) (c0 : class_Files_66e6_Ty) (w0 : class_Caps_66e6_l0_Ty) {R : Type} (x0 : Int) (x1 : Int) (x2 : Int) (x3 : List ((ByteArray) × ((Bool) × (Int)))) (x4 : List (Int)) (k0 : (List ((ByteArray) × ((Bool) × (Int)))) → (List (Int)) → (List (Int)) → Option R) : Option R :=
  c0 x0 x1 x2 x3 x4
  (fun l123 l124 l125 => w0
   (fun l126 l127 i128 i129 i130 l131 => br (fits (0 : Nat) (List.length l127) l127)
    (br (((fits (0 : Nat) (List.length l131) l131) && (decide ((((List.length l131) + (List.length (sub l127 (0 : Nat) (List.length l127)))) * (8 : Nat)) ≤ (70368744177664 : Nat)))) && true)
     (k0 l126 l127 ((sub l131 (0 : Nat) (List.length l131)) ++ (sub l127 (0 : Nat) (List.length l127))))
     (none))
    (none))
   N (Nat.cast (List.length l125) : Int) (0 : Int) l123 l124 x0 x1 x2 ([] : List ((Sh.int IntKind.i64).T)) l125)
noncomputable def class_Caps_66e6 (N : Nat) {R : Type} (x0 : Int) (x1 : Int) (x2 : Int) (x3 : List ((ByteArray) × ((Bool) × (Int)))) (x4 : List (Int)) (k0 : (List ((ByteArray) × ((Bool) × (Int)))) → (List (Int)) → (List (Int)) → Option R) : Option R := class_Caps_66e6_T N (@class_Files_66e6 N) (@class_Caps_66e6_l0 N) x0 x1 x2 x3 x4 k0
abbrev class_Has_1e53_l0_Ty : Type 1 := {R : Type} → ((Bool) → (List ((ByteArray) × ((Bool) × (Int)))) → (List (Int)) → (List (List (Int))) → (List (List (Int))) → (List (Bool)) → Option R) → ((List ((ByteArray) × ((Bool) × (Int)))) → (List (Int)) → (List (List (Int))) → (List (List (Int))) → (List (Bool)) → Option R) → Nat → (Int) → (Int) → (Int) → (List ((ByteArray) × ((Bool) × (Int)))) → (List (Int)) → (List (List (Int))) → (List (List (Int))) → (List (Bool)) → (List (Int)) → Option R
abbrev class_Has_1e53_Ty : Type 1 := {R : Type} → (Int) → (Int) → (Int) → (List ((ByteArray) × ((Bool) × (Int)))) → (List (Int)) → (List (List (Int))) → (List (List (Int))) → (List (Bool)) → ((Bool) → (List ((ByteArray) × ((Bool) × (Int)))) → (List (Int)) → (List (List (Int))) → (List (List (Int))) → (List (Bool)) → Option R) → Option R
noncomputable def class_Has_1e53_l0_T0 (N : Nat) (c0 : class_Caps_66e6_Ty) (c1 : fails_May_e7e3_Ty) (c2 : class_May_66e6_Ty) (c3 : class_Files_66e6_Ty) {R : Type} (nx : (Int) → (Int) → (Int) → (List ((ByteArray) × ((Bool) × (Int)))) → (List (Int)) → (List (List (Int))) → (List (List (Int))) → (List (Bool)) → (List (Int)) → Option R) (k0 : (Bool) → (List ((ByteArray) × ((Bool) × (Int)))) → (List (Int)) → (List (List (Int))) → (List (List (Int))) → (List (Bool)) → Option R) (k1 : (List ((ByteArray) × ((Bool) × (Int)))) → (List (Int)) → (List (List (Int))) → (List (List (Int))) → (List (Bool)) → Option R) (x0 : Int) (x1 : Int) (x2 : Int) (x3 : List ((ByteArray) × ((Bool) × (Int)))) (x4 : List (Int)) (x5 : List (List (Int))) (x6 : List (List (Int))) (x7 : List (Bool)) (x8 : List (Int)) : Option R :=
  br (decide (x2 < x1))
  (br (inB x2 (List.length x8))
   (br (decide ((Int.toNat x2) < (List.length x8)))
    (br (decide (x2 < x0))
     (br (inB x2 (List.length x5))
      (br (decide ((Int.toNat x2) < (List.length x5)))
       (br (!(decide ((List.getD x8 (Int.toNat x2) (0 : Int)) < (Nat.cast (List.length (List.getD x5 (Int.toNat x2) (Sh.zero (.isl (.int .u8))))) : Int))))
        (br (decide (x0 ≤ x2))
         (br (inB (IntKind.wrap .i64 (x2 - x0)) (List.length x6))
          (br (decide ((Int.toNat (IntKind.wrap .i64 (x2 - x0))) < (List.length x6)))
           (br (decide ((List.getD x8 (Int.toNat x2) (0 : Int)) < (Nat.cast (List.length (List.getD x6 (Int.toNat (IntKind.wrap .i64 (x2 - x0))) (Sh.zero (.isl (.int .u8))))) : Int)))
            (k0 false x3 x4 x5 x6 x7)
            (nx x0 x1 (IntKind.wrap .i64 (x2 + (1 : Int))) x3 x4 x5 x6 x7 x8))
           (none))
          (none))
         (nx x0 x1 (IntKind.wrap .i64 (x2 + (1 : Int))) x3 x4 x5 x6 x7 x8))
        (k0 false x3 x4 x5 x6 x7))
       (none))
      (none))
     (br (decide (x0 ≤ x2))
      (br (inB (IntKind.wrap .i64 (x2 - x0)) (List.length x6))
       (br (decide ((Int.toNat (IntKind.wrap .i64 (x2 - x0))) < (List.length x6)))
        (br (decide ((List.getD x8 (Int.toNat x2) (0 : Int)) < (Nat.cast (List.length (List.getD x6 (Int.toNat (IntKind.wrap .i64 (x2 - x0))) (Sh.zero (.isl (.int .u8))))) : Int)))
         (k0 false x3 x4 x5 x6 x7)
         (nx x0 x1 (IntKind.wrap .i64 (x2 + (1 : Int))) x3 x4 x5 x6 x7 x8))
        (none))
       (none))
      (nx x0 x1 (IntKind.wrap .i64 (x2 + (1 : Int))) x3 x4 x5 x6 x7 x8)))
    (none))
   (none))
  (k1 x3 x4 x5 x6 x7)
noncomputable def class_Has_1e53_l0 (N : Nat) {R : Type} (k0 : (Bool) → (List ((ByteArray) × ((Bool) × (Int)))) → (List (Int)) → (List (List (Int))) → (List (List (Int))) → (List (Bool)) → Option R) (k1 : (List ((ByteArray) × ((Bool) × (Int)))) → (List (Int)) → (List (List (Int))) → (List (List (Int))) → (List (Bool)) → Option R) : Nat → (Int) → (Int) → (Int) → (List ((ByteArray) × ((Bool) × (Int)))) → (List (Int)) → (List (List (Int))) → (List (List (Int))) → (List (Bool)) → (List (Int)) → Option R
  | 0, _, _, _, _, _, _, _, _, _ => none
  | n + 1, x0, x1, x2, x3, x4, x5, x6, x7, x8 => class_Has_1e53_l0_T0 N (@class_Caps_66e6 N) (@fails_May_e7e3 N) (@class_May_66e6 N) (@class_Files_66e6 N) (fun x0 x1 x2 x3 x4 x5 x6 x7 x8 => class_Has_1e53_l0 N k0 k1 n x0 x1 x2 x3 x4 x5 x6 x7 x8) k0 k1 x0 x1 x2 x3 x4 x5 x6 x7 x8
noncomputable def class_Has_1e53_T (N : Nat) (c0 : class_Caps_66e6_Ty) (c1 : fails_May_e7e3_Ty) (c2 : class_May_66e6_Ty) (c3 : class_Files_66e6_Ty) (w0 : class_Has_1e53_l0_Ty) {R : Type} (x0 : Int) (x1 : Int) (x2 : Int) (x3 : List ((ByteArray) × ((Bool) × (Int)))) (x4 : List (Int)) (x5 : List (List (Int))) (x6 : List (List (Int))) (x7 : List (Bool)) (k0 : (Bool) → (List ((ByteArray) × ((Bool) × (Int)))) → (List (Int)) → (List (List (Int))) → (List (List (Int))) → (List (Bool)) → Option R) : Option R :=
  c3 x0 x1 x2 x3 x4
  (fun l108 l109 l110 => c2 x0 x1 x2 l108 l109
   (fun b111 l112 l113 => br (!(!b111))
    (br (!(!(decide ((Nat.cast (List.length x5) : Int) = (Nat.cast (List.length l110) : Int)))))
     (br (!(!(decide ((Nat.cast (List.length x6) : Int) = (Nat.cast (List.length l113) : Int)))))
      (c1 x0 x1 x7
       (fun b118 l119 => br (!b118)
        (k0 false l112 l113 x5 x6 l119)
        (c0 x0 x1 x2 l112 l113
         (fun l132 l133 l134 => w0
          (fun b135 l136 l137 l138 l139 l140 => k0 b135 l136 l137 l138 l139 l140)
          (fun l141 l142 l143 l144 l145 => k0 true l141 l142 l143 l144 l145)
          N (Nat.cast (List.length l110) : Int) (Nat.cast (List.length l134) : Int) (0 : Int) l132 l133 x5 x6 l119 l134))))
      (k0 false l112 l113 x5 x6 x7))
     (k0 false l112 l113 x5 x6 x7))
    (k0 false l112 l113 x5 x6 x7)))
noncomputable def class_Has_1e53 (N : Nat) {R : Type} (x0 : Int) (x1 : Int) (x2 : Int) (x3 : List ((ByteArray) × ((Bool) × (Int)))) (x4 : List (Int)) (x5 : List (List (Int))) (x6 : List (List (Int))) (x7 : List (Bool)) (k0 : (Bool) → (List ((ByteArray) × ((Bool) × (Int)))) → (List (Int)) → (List (List (Int))) → (List (List (Int))) → (List (Bool)) → Option R) : Option R := class_Has_1e53_T N (@class_Caps_66e6 N) (@fails_May_e7e3 N) (@class_May_66e6 N) (@class_Files_66e6 N) (@class_Has_1e53_l0 N) x0 x1 x2 x3 x4 x5 x6 x7 k0
abbrev class_Has_ad7e_l0_Ty : Type 1 := {R : Type} → ((Bool) → (List ((ByteArray) × ((Bool) × (Int)))) → (List (Int)) → (Nat) → (List (List (Int))) → (List (Bool)) → Option R) → ((List ((ByteArray) × ((Bool) × (Int)))) → (List (Int)) → (Nat) → (List (List (Int))) → (List (Bool)) → Option R) → Nat → (Int) → (Int) → (Int) → (List ((ByteArray) × ((Bool) × (Int)))) → (List (Int)) → (Nat) → (List (List (Int))) → (List (Bool)) → (Nat) → (Nat) → (Nat) → (Nat) → (List (Int)) → Option R
abbrev class_Has_ad7e_Ty : Type 1 := {R : Type} → (Int) → (Int) → (Int) → (Nat) → (Nat) → (Nat) → (Nat) → (List ((ByteArray) × ((Bool) × (Int)))) → (List (Int)) → (Nat) → (List (List (Int))) → (List (Bool)) → ((Bool) → (List ((ByteArray) × ((Bool) × (Int)))) → (List (Int)) → (Nat) → (List (List (Int))) → (List (Bool)) → Option R) → Option R
noncomputable def class_Has_ad7e_l0_T0 (N : Nat) (c0 : class_Caps_66e6_Ty) (c1 : fails_May_e7e3_Ty) (c2 : class_May_66e6_Ty) (c3 : class_Files_66e6_Ty) {R : Type} (nx : (Int) → (Int) → (Int) → (List ((ByteArray) × ((Bool) × (Int)))) → (List (Int)) → (Nat) → (List (List (Int))) → (List (Bool)) → (Nat) → (Nat) → (Nat) → (Nat) → (List (Int)) → Option R) (k0 : (Bool) → (List ((ByteArray) × ((Bool) × (Int)))) → (List (Int)) → (Nat) → (List (List (Int))) → (List (Bool)) → Option R) (k1 : (List ((ByteArray) × ((Bool) × (Int)))) → (List (Int)) → (Nat) → (List (List (Int))) → (List (Bool)) → Option R) (x0 : Int) (x1 : Int) (x2 : Int) (x3 : List ((ByteArray) × ((Bool) × (Int)))) (x4 : List (Int)) (x5 : Nat) (x6 : List (List (Int))) (x7 : List (Bool)) (x8 : Nat) (x9 : Nat) (x10 : Nat) (x11 : Nat) (x12 : List (Int)) : Option R :=
  br (decide (x2 < x1))
  (br (inB x2 (List.length x12))
   (br (decide ((Int.toNat x2) < (List.length x12)))
    (br (decide (x2 < x0))
     (br (inB x2 x8)
      (br (decide ((Int.toNat x2) < x5))
       (br (!(decide ((List.getD x12 (Int.toNat x2) (0 : Int)) < (Nat.cast (List.length (List.getD x6 (Int.toNat x2) (Sh.zero (.isl (.int .u8))))) : Int))))
        (br (decide (x0 ≤ x2))
         (br (inB (IntKind.wrap .i64 (x2 - x0)) x11)
          (br (decide ((Int.toNat (addLo x10 (IntKind.wrap .i64 (x2 - x0)))) < x5))
           (br (decide ((List.getD x12 (Int.toNat x2) (0 : Int)) < (Nat.cast (List.length (List.getD x6 (Int.toNat (addLo x10 (IntKind.wrap .i64 (x2 - x0)))) (Sh.zero (.isl (.int .u8))))) : Int)))
            (k0 false x3 x4 x5 x6 x7)
            (nx x0 x1 (IntKind.wrap .i64 (x2 + (1 : Int))) x3 x4 x5 x6 x7 x8 x9 x10 x11 x12))
           (none))
          (none))
         (nx x0 x1 (IntKind.wrap .i64 (x2 + (1 : Int))) x3 x4 x5 x6 x7 x8 x9 x10 x11 x12))
        (k0 false x3 x4 x5 x6 x7))
       (none))
      (none))
     (br (decide (x0 ≤ x2))
      (br (inB (IntKind.wrap .i64 (x2 - x0)) x11)
       (br (decide ((Int.toNat (addLo x10 (IntKind.wrap .i64 (x2 - x0)))) < x5))
        (br (decide ((List.getD x12 (Int.toNat x2) (0 : Int)) < (Nat.cast (List.length (List.getD x6 (Int.toNat (addLo x10 (IntKind.wrap .i64 (x2 - x0)))) (Sh.zero (.isl (.int .u8))))) : Int)))
         (k0 false x3 x4 x5 x6 x7)
         (nx x0 x1 (IntKind.wrap .i64 (x2 + (1 : Int))) x3 x4 x5 x6 x7 x8 x9 x10 x11 x12))
        (none))
       (none))
      (nx x0 x1 (IntKind.wrap .i64 (x2 + (1 : Int))) x3 x4 x5 x6 x7 x8 x9 x10 x11 x12)))
    (none))
   (none))
  (k1 x3 x4 x5 x6 x7)
noncomputable def class_Has_ad7e_l0 (N : Nat) {R : Type} (k0 : (Bool) → (List ((ByteArray) × ((Bool) × (Int)))) → (List (Int)) → (Nat) → (List (List (Int))) → (List (Bool)) → Option R) (k1 : (List ((ByteArray) × ((Bool) × (Int)))) → (List (Int)) → (Nat) → (List (List (Int))) → (List (Bool)) → Option R) : Nat → (Int) → (Int) → (Int) → (List ((ByteArray) × ((Bool) × (Int)))) → (List (Int)) → (Nat) → (List (List (Int))) → (List (Bool)) → (Nat) → (Nat) → (Nat) → (Nat) → (List (Int)) → Option R
  | 0, _, _, _, _, _, _, _, _, _, _, _, _, _ => none
  | n + 1, x0, x1, x2, x3, x4, x5, x6, x7, x8, x9, x10, x11, x12 => class_Has_ad7e_l0_T0 N (@class_Caps_66e6 N) (@fails_May_e7e3 N) (@class_May_66e6 N) (@class_Files_66e6 N) (fun x0 x1 x2 x3 x4 x5 x6 x7 x8 x9 x10 x11 x12 => class_Has_ad7e_l0 N k0 k1 n x0 x1 x2 x3 x4 x5 x6 x7 x8 x9 x10 x11 x12) k0 k1 x0 x1 x2 x3 x4 x5 x6 x7 x8 x9 x10 x11 x12
noncomputable def class_Has_ad7e_T (N : Nat) (c0 : class_Caps_66e6_Ty) (c1 : fails_May_e7e3_Ty) (c2 : class_May_66e6_Ty) (c3 : class_Files_66e6_Ty) (w0 : class_Has_ad7e_l0_Ty) {R : Type} (x0 : Int) (x1 : Int) (x2 : Int) (x3 : Nat) (x4 : Nat) (x5 : Nat) (x6 : Nat) (x7 : List ((ByteArray) × ((Bool) × (Int)))) (x8 : List (Int)) (x9 : Nat) (x10 : List (List (Int))) (x11 : List (Bool)) (k0 : (Bool) → (List ((ByteArray) × ((Bool) × (Int)))) → (List (Int)) → (Nat) → (List (List (Int))) → (List (Bool)) → Option R) : Option R :=
  c3 x0 x1 x2 x7 x8
  (fun l426 l427 l428 => c2 x0 x1 x2 l426 l427
   (fun b429 l430 l431 => br (!(!b429))
    (br (!(!(decide ((Nat.cast x3 : Int) = (Nat.cast (List.length l428) : Int)))))
     (br (!(!(decide ((Nat.cast x6 : Int) = (Nat.cast (List.length l431) : Int)))))
      (c1 x0 x1 x11
       (fun b432 l433 => br (!b432)
        (k0 false l430 l431 x9 x10 l433)
        (c0 x0 x1 x2 l430 l431
         (fun l434 l435 l436 => w0
          (fun b437 l438 l439 n440 l441 l442 => k0 b437 l438 l439 n440 l441 l442)
          (fun l443 l444 n445 l446 l447 => k0 true l443 l444 n445 l446 l447)
          N (Nat.cast (List.length l428) : Int) (Nat.cast (List.length l436) : Int) (0 : Int) l434 l435 x9 x10 l433 x3 x4 x5 x6 l436))))
      (k0 false l430 l431 x9 x10 x11))
     (k0 false l430 l431 x9 x10 x11))
    (k0 false l430 l431 x9 x10 x11)))
noncomputable def class_Has_ad7e (N : Nat) {R : Type} (x0 : Int) (x1 : Int) (x2 : Int) (x3 : Nat) (x4 : Nat) (x5 : Nat) (x6 : Nat) (x7 : List ((ByteArray) × ((Bool) × (Int)))) (x8 : List (Int)) (x9 : Nat) (x10 : List (List (Int))) (x11 : List (Bool)) (k0 : (Bool) → (List ((ByteArray) × ((Bool) × (Int)))) → (List (Int)) → (Nat) → (List (List (Int))) → (List (Bool)) → Option R) : Option R := class_Has_ad7e_T N (@class_Caps_66e6 N) (@fails_May_e7e3 N) (@class_May_66e6 N) (@class_Files_66e6 N) (@class_Has_ad7e_l0 N) x0 x1 x2 x3 x4 x5 x6 x7 x8 x9 x10 x11 k0
abbrev slices_Grow___byte__byte_06c2_Ty : Type 1 := {R : Type} → (Int) → ((List (List (Int))) → Option R) → Option R
noncomputable def slices_Grow___byte__byte_06c2_T (N : Nat) {R : Type} (x0 : Int) (k0 : (List (List (Int))) → Option R) : Option R :=
  br (decide (x0 < (0 : Int)))
  (none)
  (br (decide ((0 : Int) < (IntKind.wrap .i64 (x0 - (IntKind.wrap .i64 ((0 : Int) - (0 : Int)))))))
   (br (((decide ((0 : Int) ≤ (IntKind.wrap .i64 (x0 - (IntKind.wrap .i64 ((0 : Int) - (0 : Int))))))) && (decide (((Int.toNat (IntKind.wrap .i64 (x0 - (IntKind.wrap .i64 ((0 : Int) - (0 : Int)))))) * (24 : Nat)) ≤ (70368744177664 : Nat)))) && true)
    (br (leB (0 : Int) (Int.toNat (IntKind.wrap .i64 (x0 - (IntKind.wrap .i64 ((0 : Int) - (0 : Int)))))))
     (br (fits (0 : Nat) (0 : Nat) (List.replicate (Int.toNat (IntKind.wrap .i64 (x0 - (IntKind.wrap .i64 ((0 : Int) - (0 : Int)))))) (Sh.zero (.isl (.int .u8)))))
      (k0 (sub (List.replicate (Int.toNat (IntKind.wrap .i64 (x0 - (IntKind.wrap .i64 ((0 : Int) - (0 : Int)))))) (Sh.zero (.isl (.int .u8)))) (0 : Nat) (0 : Nat)))
      (none))
     (none))
    (none))
   (k0 ([] : List ((Sh.int IntKind.u8).isl.T))))
noncomputable def slices_Grow___byte__byte_06c2 (N : Nat) {R : Type} (x0 : Int) (k0 : (List (List (Int))) → Option R) : Option R := slices_Grow___byte__byte_06c2_T N x0 k0
abbrev slices_Concat___byte__byte_1789_l0_Ty : Type 1 := {R : Type} → ((Int) → (List (List (List (Int)))) → Option R) → Nat → (Int) → (Int) → (Int) → (List (List (List (Int)))) → Option R
abbrev slices_Concat___byte__byte_1789_l1_Ty : Type 1 := {R : Type} → ((List (List (List (Int)))) → (List (List (Int))) → Option R) → Nat → (Int) → (Int) → (List (List (List (Int)))) → (List (List (Int))) → Option R
abbrev slices_Concat___byte__byte_1789_Ty : Type 1 := {R : Type} → (List (List (List (Int)))) → ((List (List (List (Int)))) → (List (List (Int))) → Option R) → Option R
noncomputable def slices_Concat___byte__byte_1789_l0_T0 (N : Nat) (c0 : slices_Grow___byte__byte_06c2_Ty) (w1 : slices_Concat___byte__byte_1789_l1_Ty) {R : Type} (nx : (Int) → (Int) → (Int) → (List (List (List (Int)))) → Option R) (k0 : (Int) → (List (List (List (Int)))) → Option R) (x0 : Int) (x1 : Int) (x2 : Int) (x3 : List (List (List (Int)))) : Option R :=
  br (decide (x2 < x1))
  (br (inB x2 (List.length x3))
   (br (decide ((Int.toNat x2) < (List.length x3)))
    (br (decide ((IntKind.wrap .i64 (x0 + (Nat.cast (List.length (List.getD x3 (Int.toNat x2) (Sh.zero (.isl (.isl (.int .u8)))))) : Int))) < (0 : Int)))
     (none)
     (nx (IntKind.wrap .i64 (x0 + (Nat.cast (List.length (List.getD x3 (Int.toNat x2) (Sh.zero (.isl (.isl (.int .u8)))))) : Int))) x1 (IntKind.wrap .i64 (x2 + (1 : Int))) x3))
    (none))
   (none))
  (k0 x0 x3)
noncomputable def slices_Concat___byte__byte_1789_l1_T0 (N : Nat) (c0 : slices_Grow___byte__byte_06c2_Ty) {R : Type} (nx : (Int) → (Int) → (List (List (List (Int)))) → (List (List (Int))) → Option R) (k0 : (List (List (List (Int)))) → (List (List (Int))) → Option R) (x0 : Int) (x1 : Int) (x2 : List (List (List (Int)))) (x3 : List (List (Int))) : Option R :=
  br (decide (x1 < x0))
  (br (inB x1 (List.length x2))
   (br (decide ((Int.toNat x1) < (List.length x2)))
    (br (((fits (0 : Nat) (List.length x3) x3) && (decide ((((List.length x3) + (List.length (List.getD x2 (Int.toNat x1) (Sh.zero (.isl (.isl (.int .u8))))))) * (24 : Nat)) ≤ (70368744177664 : Nat)))) && true)
     (nx x0 (IntKind.wrap .i64 (x1 + (1 : Int))) x2 ((sub x3 (0 : Nat) (List.length x3)) ++ (List.getD x2 (Int.toNat x1) (Sh.zero (.isl (.isl (.int .u8)))))))
     (none))
    (none))
   (none))
  (k0 x2 x3)
noncomputable def slices_Concat___byte__byte_1789_l1 (N : Nat) {R : Type} (k0 : (List (List (List (Int)))) → (List (List (Int))) → Option R) : Nat → (Int) → (Int) → (List (List (List (Int)))) → (List (List (Int))) → Option R
  | 0, _, _, _, _ => none
  | n + 1, x0, x1, x2, x3 => slices_Concat___byte__byte_1789_l1_T0 N (@slices_Grow___byte__byte_06c2 N) (fun x0 x1 x2 x3 => slices_Concat___byte__byte_1789_l1 N k0 n x0 x1 x2 x3) k0 x0 x1 x2 x3
noncomputable def slices_Concat___byte__byte_1789_l0 (N : Nat) {R : Type} (k0 : (Int) → (List (List (List (Int)))) → Option R) : Nat → (Int) → (Int) → (Int) → (List (List (List (Int)))) → Option R
  | 0, _, _, _, _ => none
  | n + 1, x0, x1, x2, x3 => slices_Concat___byte__byte_1789_l0_T0 N (@slices_Grow___byte__byte_06c2 N) (@slices_Concat___byte__byte_1789_l1 N) (fun x0 x1 x2 x3 => slices_Concat___byte__byte_1789_l0 N k0 n x0 x1 x2 x3) k0 x0 x1 x2 x3
noncomputable def slices_Concat___byte__byte_1789_T (N : Nat) (c0 : slices_Grow___byte__byte_06c2_Ty) (w0 : slices_Concat___byte__byte_1789_l0_Ty) (w1 : slices_Concat___byte__byte_1789_l1_Ty) {R : Type} (x0 : List (List (List (Int)))) (k0 : (List (List (List (Int)))) → (List (List (Int))) → Option R) : Option R :=
  w0
  (fun i152 l153 => c0 i152
   (fun l154 => w1
    (fun l155 l156 => k0 l155 l156)
    N (Nat.cast (List.length l153) : Int) (0 : Int) l153 l154))
  N (0 : Int) (Nat.cast (List.length x0) : Int) (0 : Int) x0
noncomputable def slices_Concat___byte__byte_1789 (N : Nat) {R : Type} (x0 : List (List (List (Int)))) (k0 : (List (List (List (Int)))) → (List (List (Int))) → Option R) : Option R := slices_Concat___byte__byte_1789_T N (@slices_Grow___byte__byte_06c2 N) (@slices_Concat___byte__byte_1789_l0 N) (@slices_Concat___byte__byte_1789_l1 N) x0 k0
abbrev cast_Env_727c_l0_Ty : Type 1 := {R : Type} → ((List ((ByteArray) × ((Bool) × (Int)))) → (List (Int)) → (List (List (Int))) → (List (Bool)) → (List (List (Int))) → (List (Int)) → Option R) → Nat → (Int) → (Int) → (List ((ByteArray) × ((Bool) × (Int)))) → (List (Int)) → (List (List (Int))) → (List (Bool)) → (Int) → (Int) → (Int) → (List (List (Int))) → (List (Int)) → (List (List (Int))) → Option R
abbrev cast_Env_727c_l1_Ty : Type 1 := {R : Type} → ((Int) → (Int) → (List ((ByteArray) × ((Bool) × (Int)))) → (List (Int)) → (List (List (Int))) → (List (Bool)) → (Int) → (Int) → (Int) → (List (List (Int))) → (List (Int)) → (List (List (Int))) → Option R) → Nat → (List (Int)) → (Int) → (Int) → (Int) → (Int) → (List ((ByteArray) × ((Bool) × (Int)))) → (List (Int)) → (List (List (Int))) → (List (Bool)) → (Int) → (Int) → (Int) → (List (List (Int))) → (List (Int)) → (List (List (Int))) → Option R
abbrev cast_Env_727c_l2_Ty : Type 1 := {R : Type} → ((List ((ByteArray) × ((Bool) × (Int)))) → (List (Int)) → (List (List (Int))) → (List (Bool)) → (List (Int)) → Option R) → Nat → (Int) → (Int) → (List ((ByteArray) × ((Bool) × (Int)))) → (List (Int)) → (List (List (Int))) → (List (Bool)) → (List (Int)) → Option R
abbrev cast_Env_727c_Ty : Type 1 := {R : Type} → (Int) → (Int) → (Int) → (List ((ByteArray) × ((Bool) × (Int)))) → (List (Int)) → (List (List (Int))) → (List (Bool)) → ((Int) → (List ((ByteArray) × ((Bool) × (Int)))) → (List (Int)) → (List (List (Int))) → (List (Bool)) → (List (Int)) → Option R) → ((Int) → (List ((ByteArray) × ((Bool) × (Int)))) → (List (Int)) → (List (List (Int))) → (List (Bool)) → (List (Int)) → Option R) → Option R
noncomputable def cast_Env_727c_l0_T0 (N : Nat) (c0 : class_Caps_66e6_Ty) (c1 : slices_Concat___byte__byte_1789_Ty) (c2 : class_Has_1e53_Ty) (c3 : class_Has_ad7e_Ty) (c4 : class_May_66e6_Ty) (w1 : cast_Env_727c_l1_Ty) (w2 : cast_Env_727c_l2_Ty) {R : Type} (nx : (Int) → (Int) → (List ((ByteArray) × ((Bool) × (Int)))) → (List (Int)) → (List (List (Int))) → (List (Bool)) → (Int) → (Int) → (Int) → (List (List (Int))) → (List (Int)) → (List (List (Int))) → Option R) (k0 : (List ((ByteArray) × ((Bool) × (Int)))) → (List (Int)) → (List (List (Int))) → (List (Bool)) → (List (List (Int))) → (List (Int)) → Option R) (x0 : Int) (x1 : Int) (x2 : List ((ByteArray) × ((Bool) × (Int)))) (x3 : List (Int)) (x4 : List (List (Int))) (x5 : List (Bool)) (x6 : Int) (x7 : Int) (x8 : Int) (x9 : List (List (Int))) (x10 : List (Int)) (x11 : List (List (Int))) : Option R :=
  br (decide (x1 < x0))
  (br (inB x1 (List.length x11))
   (br (decide ((Int.toNat x1) < (List.length x11)))
    (br (((fits (0 : Nat) (List.length x10) x10) && (decide ((((List.length x10) + (1 : Nat)) * (2 : Nat)) ≤ (70368744177664 : Nat)))) && true)
     (c0 x6 x7 x8 x2 x3
      (fun l222 l223 l224 => br (inB x1 (List.length l224))
       (br (decide ((Int.toNat x1) < (List.length l224)))
        (w1
         (fun i225 i226 l227 l228 l229 l230 i231 i232 i233 l234 l235 l236 => nx i225 (IntKind.wrap .i64 (i226 + (1 : Int))) l227 l228 l229 l230 i231 i232 i233 l234 l235 l236)
         N (List.getD x11 (Int.toNat x1) (Sh.zero (.isl (.int .u8)))) x0 x1 (List.getD l224 (Int.toNat x1) (0 : Int)) (0 : Int) l222 l223 x4 x5 x6 x7 x8 x9 ((sub x10 (0 : Nat) (List.length x10)) ++ ((IntKind.wrap .u16 (Nat.cast (List.length (List.getD x11 (Int.toNat x1) (Sh.zero (.isl (.int .u8))))) : Int)) :: ([] : List ((Sh.int IntKind.u16).T)))) x11)
        (none))
       (none)))
     (none))
    (none))
   (none))
  (k0 x2 x3 x4 x5 x9 x10)
noncomputable def cast_Env_727c_l1_T0 (N : Nat) (c0 : class_Caps_66e6_Ty) (c1 : slices_Concat___byte__byte_1789_Ty) (c2 : class_Has_1e53_Ty) (c3 : class_Has_ad7e_Ty) (c4 : class_May_66e6_Ty) (w2 : cast_Env_727c_l2_Ty) {R : Type} (nx : (List (Int)) → (Int) → (Int) → (Int) → (Int) → (List ((ByteArray) × ((Bool) × (Int)))) → (List (Int)) → (List (List (Int))) → (List (Bool)) → (Int) → (Int) → (Int) → (List (List (Int))) → (List (Int)) → (List (List (Int))) → Option R) (k0 : (Int) → (Int) → (List ((ByteArray) × ((Bool) × (Int)))) → (List (Int)) → (List (List (Int))) → (List (Bool)) → (Int) → (Int) → (Int) → (List (List (Int))) → (List (Int)) → (List (List (Int))) → Option R) (x0 : List (Int)) (x1 : Int) (x2 : Int) (x3 : Int) (x4 : Int) (x5 : List ((ByteArray) × ((Bool) × (Int)))) (x6 : List (Int)) (x7 : List (List (Int))) (x8 : List (Bool)) (x9 : Int) (x10 : Int) (x11 : Int) (x12 : List (List (Int))) (x13 : List (Int)) (x14 : List (List (Int))) : Option R :=
  br (decide (x4 < x3))
  (br (decide (x4 < (Nat.cast (List.length x0) : Int)))
   (br (inB x4 (List.length x0))
    (br (((fits (0 : Nat) (List.length x13) x13) && (decide ((((List.length x13) + (1 : Nat)) * (2 : Nat)) ≤ (70368744177664 : Nat)))) && true)
     (nx x0 x1 x2 x3 (IntKind.wrap .i64 (x4 + (1 : Int))) x5 x6 x7 x8 x9 x10 x11 x12 ((sub x13 (0 : Nat) (List.length x13)) ++ ((IntKind.wrap .u16 (List.getD x0 (Int.toNat x4) (0 : Int))) :: ([] : List ((Sh.int IntKind.u16).T)))) x14)
     (none))
    (none))
   (br (((fits (0 : Nat) (List.length x13) x13) && (decide ((((List.length x13) + (1 : Nat)) * (2 : Nat)) ≤ (70368744177664 : Nat)))) && true)
    (nx x0 x1 x2 x3 (IntKind.wrap .i64 (x4 + (1 : Int))) x5 x6 x7 x8 x9 x10 x11 x12 ((sub x13 (0 : Nat) (List.length x13)) ++ ((IntKind.wrap .u16 (0 : Int)) :: ([] : List ((Sh.int IntKind.u16).T)))) x14)
    (none)))
  (k0 x1 x2 x5 x6 x7 x8 x9 x10 x11 x12 x13 x14)
noncomputable def cast_Env_727c_l2_T0 (N : Nat) (c0 : class_Caps_66e6_Ty) (c1 : slices_Concat___byte__byte_1789_Ty) (c2 : class_Has_1e53_Ty) (c3 : class_Has_ad7e_Ty) (c4 : class_May_66e6_Ty) {R : Type} (nx : (Int) → (Int) → (List ((ByteArray) × ((Bool) × (Int)))) → (List (Int)) → (List (List (Int))) → (List (Bool)) → (List (Int)) → Option R) (k0 : (List ((ByteArray) × ((Bool) × (Int)))) → (List (Int)) → (List (List (Int))) → (List (Bool)) → (List (Int)) → Option R) (x0 : Int) (x1 : Int) (x2 : List ((ByteArray) × ((Bool) × (Int)))) (x3 : List (Int)) (x4 : List (List (Int))) (x5 : List (Bool)) (x6 : List (Int)) : Option R :=
  br (decide (x1 < x0))
  (br (inB x1 (List.length x5))
   (br (decide ((Int.toNat x1) < (List.length x5)))
    (br (List.getD x5 (Int.toNat x1) false)
     (br (((fits (0 : Nat) (List.length x6) x6) && (decide ((((List.length x6) + (1 : Nat)) * (2 : Nat)) ≤ (70368744177664 : Nat)))) && true)
      (nx x0 (IntKind.wrap .i64 (x1 + (1 : Int))) x2 x3 x4 x5 ((sub x6 (0 : Nat) (List.length x6)) ++ ((1 : Int) :: ([] : List ((Sh.int IntKind.u16).T)))))
      (none))
     (br (((fits (0 : Nat) (List.length x6) x6) && (decide ((((List.length x6) + (1 : Nat)) * (2 : Nat)) ≤ (70368744177664 : Nat)))) && true)
      (nx x0 (IntKind.wrap .i64 (x1 + (1 : Int))) x2 x3 x4 x5 ((sub x6 (0 : Nat) (List.length x6)) ++ ((0 : Int) :: ([] : List ((Sh.int IntKind.u16).T)))))
      (none)))
    (none))
   (none))
  (k0 x2 x3 x4 x5 x6)
noncomputable def cast_Env_727c_l2 (N : Nat) {R : Type} (k0 : (List ((ByteArray) × ((Bool) × (Int)))) → (List (Int)) → (List (List (Int))) → (List (Bool)) → (List (Int)) → Option R) : Nat → (Int) → (Int) → (List ((ByteArray) × ((Bool) × (Int)))) → (List (Int)) → (List (List (Int))) → (List (Bool)) → (List (Int)) → Option R
  | 0, _, _, _, _, _, _, _ => none
  | n + 1, x0, x1, x2, x3, x4, x5, x6 => cast_Env_727c_l2_T0 N (@class_Caps_66e6 N) (@slices_Concat___byte__byte_1789 N) (@class_Has_1e53 N) (@class_Has_ad7e N) (@class_May_66e6 N) (fun x0 x1 x2 x3 x4 x5 x6 => cast_Env_727c_l2 N k0 n x0 x1 x2 x3 x4 x5 x6) k0 x0 x1 x2 x3 x4 x5 x6
noncomputable def cast_Env_727c_l1 (N : Nat) {R : Type} (k0 : (Int) → (Int) → (List ((ByteArray) × ((Bool) × (Int)))) → (List (Int)) → (List (List (Int))) → (List (Bool)) → (Int) → (Int) → (Int) → (List (List (Int))) → (List (Int)) → (List (List (Int))) → Option R) : Nat → (List (Int)) → (Int) → (Int) → (Int) → (Int) → (List ((ByteArray) × ((Bool) × (Int)))) → (List (Int)) → (List (List (Int))) → (List (Bool)) → (Int) → (Int) → (Int) → (List (List (Int))) → (List (Int)) → (List (List (Int))) → Option R
  | 0, _, _, _, _, _, _, _, _, _, _, _, _, _, _, _ => none
  | n + 1, x0, x1, x2, x3, x4, x5, x6, x7, x8, x9, x10, x11, x12, x13, x14 => cast_Env_727c_l1_T0 N (@class_Caps_66e6 N) (@slices_Concat___byte__byte_1789 N) (@class_Has_1e53 N) (@class_Has_ad7e N) (@class_May_66e6 N) (@cast_Env_727c_l2 N) (fun x0 x1 x2 x3 x4 x5 x6 x7 x8 x9 x10 x11 x12 x13 x14 => cast_Env_727c_l1 N k0 n x0 x1 x2 x3 x4 x5 x6 x7 x8 x9 x10 x11 x12 x13 x14) k0 x0 x1 x2 x3 x4 x5 x6 x7 x8 x9 x10 x11 x12 x13 x14
noncomputable def cast_Env_727c_l0 (N : Nat) {R : Type} (k0 : (List ((ByteArray) × ((Bool) × (Int)))) → (List (Int)) → (List (List (Int))) → (List (Bool)) → (List (List (Int))) → (List (Int)) → Option R) : Nat → (Int) → (Int) → (List ((ByteArray) × ((Bool) × (Int)))) → (List (Int)) → (List (List (Int))) → (List (Bool)) → (Int) → (Int) → (Int) → (List (List (Int))) → (List (Int)) → (List (List (Int))) → Option R
  | 0, _, _, _, _, _, _, _, _, _, _, _, _ => none
  | n + 1, x0, x1, x2, x3, x4, x5, x6, x7, x8, x9, x10, x11 => cast_Env_727c_l0_T0 N (@class_Caps_66e6 N) (@slices_Concat___byte__byte_1789 N) (@class_Has_1e53 N) (@class_Has_ad7e N) (@class_May_66e6 N) (@cast_Env_727c_l1 N) (@cast_Env_727c_l2 N) (fun x0 x1 x2 x3 x4 x5 x6 x7 x8 x9 x10 x11 => cast_Env_727c_l0 N k0 n x0 x1 x2 x3 x4 x5 x6 x7 x8 x9 x10 x11) k0 x0 x1 x2 x3 x4 x5 x6 x7 x8 x9 x10 x11
noncomputable def cast_Env_727c_T (N : Nat) (c0 : class_Caps_66e6_Ty) (c1 : slices_Concat___byte__byte_1789_Ty) (c2 : class_Has_1e53_Ty) (c3 : class_Has_ad7e_Ty) (c4 : class_May_66e6_Ty) (w0 : cast_Env_727c_l0_Ty) (w1 : cast_Env_727c_l1_Ty) (w2 : cast_Env_727c_l2_Ty) {R : Type} (x0 : Int) (x1 : Int) (x2 : Int) (x3 : List ((ByteArray) × ((Bool) × (Int)))) (x4 : List (Int)) (x5 : List (List (Int))) (x6 : List (Bool)) (k0 : (Int) → (List ((ByteArray) × ((Bool) × (Int)))) → (List (Int)) → (List (List (Int))) → (List (Bool)) → (List (Int)) → Option R) (k1 : (Int) → (List ((ByteArray) × ((Bool) × (Int)))) → (List (Int)) → (List (List (Int))) → (List (Bool)) → (List (Int)) → Option R) : Option R :=
  c4 x0 x1 x2 x3 x4
  (fun b211 l212 l213 => br (!b211)
   (k0 (11 : Int) l212 l213 x5 x6 ([] : List ((Sh.int IntKind.u16).T)))
   (c2 x0 x1 x2 l212 l213 x5 ([] : List ((Sh.int IntKind.u8).isl.T)) x6
    (fun b214 l215 l216 l217 l218 l219 => br (!b214)
     (k0 (12 : Int) l215 l216 l217 l219 ([] : List ((Sh.int IntKind.u16).T)))
     (br (fits (0 : Nat) (List.length l217) l217)
      (br (fits (0 : Nat) (List.length l218) l218)
       (c1 ((sub l217 (0 : Nat) (List.length l217)) :: ((sub l218 (0 : Nat) (List.length l218)) :: ([] : List ((Sh.int IntKind.u8).isl.isl.T))))
        (fun l220 l221 => w0
         (fun l237 l238 l239 l240 l241 l242 => w2
          (fun l243 l244 l245 l246 l247 => k1 (0 : Int) l243 l244 l245 l246 l247)
          N (Nat.cast (List.length l240) : Int) (0 : Int) l237 l238 l239 l240 l242)
         N (Nat.cast (List.length l221) : Int) (0 : Int) l215 l216 l217 l219 x0 x1 x2 l218 ([] : List ((Sh.int IntKind.u16).T)) l221))
       (none))
      (none)))))
noncomputable def cast_Env_727c (N : Nat) {R : Type} (x0 : Int) (x1 : Int) (x2 : Int) (x3 : List ((ByteArray) × ((Bool) × (Int)))) (x4 : List (Int)) (x5 : List (List (Int))) (x6 : List (Bool)) (k0 : (Int) → (List ((ByteArray) × ((Bool) × (Int)))) → (List (Int)) → (List (List (Int))) → (List (Bool)) → (List (Int)) → Option R) (k1 : (Int) → (List ((ByteArray) × ((Bool) × (Int)))) → (List (Int)) → (List (List (Int))) → (List (Bool)) → (List (Int)) → Option R) : Option R := cast_Env_727c_T N (@class_Caps_66e6 N) (@slices_Concat___byte__byte_1789 N) (@class_Has_1e53 N) (@class_Has_ad7e N) (@class_May_66e6 N) (@cast_Env_727c_l0 N) (@cast_Env_727c_l1 N) (@cast_Env_727c_l2 N) x0 x1 x2 x3 x4 x5 x6 k0 k1
abbrev cast_Env_ad7e_l0_Ty : Type 1 := {R : Type} → ((List ((ByteArray) × ((Bool) × (Int)))) → (List (Int)) → (List (List (Int))) → (List (Bool)) → (Nat) → (Nat) → (Nat) → (Nat) → (List (Int)) → Option R) → Nat → (Int) → (Int) → (List ((ByteArray) × ((Bool) × (Int)))) → (List (Int)) → (List (List (Int))) → (List (Bool)) → (Int) → (Int) → (Int) → (Nat) → (Nat) → (Nat) → (Nat) → (List (Int)) → (List (List (Int))) → Option R
abbrev cast_Env_ad7e_l1_Ty : Type 1 := {R : Type} → ((Int) → (Int) → (List ((ByteArray) × ((Bool) × (Int)))) → (List (Int)) → (List (List (Int))) → (List (Bool)) → (Int) → (Int) → (Int) → (Nat) → (Nat) → (Nat) → (Nat) → (List (Int)) → (List (List (Int))) → Option R) → Nat → (List (Int)) → (Int) → (Int) → (Int) → (Int) → (List ((ByteArray) × ((Bool) × (Int)))) → (List (Int)) → (List (List (Int))) → (List (Bool)) → (Int) → (Int) → (Int) → (Nat) → (Nat) → (Nat) → (Nat) → (List (Int)) → (List (List (Int))) → Option R
abbrev cast_Env_ad7e_l2_Ty : Type 1 := {R : Type} → ((List ((ByteArray) × ((Bool) × (Int)))) → (List (Int)) → (List (List (Int))) → (List (Bool)) → (List (Int)) → Option R) → Nat → (Int) → (Int) → (List ((ByteArray) × ((Bool) × (Int)))) → (List (Int)) → (List (List (Int))) → (List (Bool)) → (List (Int)) → Option R
abbrev cast_Env_ad7e_Ty : Type 1 := {R : Type} → (Int) → (Int) → (Int) → (Nat) → (Nat) → (Nat) → (Nat) → (List ((ByteArray) × ((Bool) × (Int)))) → (List (Int)) → (Nat) → (List (List (Int))) → (List (Bool)) → ((Int) → (List ((ByteArray) × ((Bool) × (Int)))) → (List (Int)) → (Nat) → (List (List (Int))) → (List (Bool)) → (List (Int)) → Option R) → ((Int) → (List ((ByteArray) × ((Bool) × (Int)))) → (List (Int)) → (List (List (Int))) → (List (Bool)) → (List (Int)) → Option R) → Option R
noncomputable def cast_Env_ad7e_l0_T0 (N : Nat) (c0 : class_Caps_66e6_Ty) (c1 : slices_Concat___byte__byte_1789_Ty) (c2 : class_Has_1e53_Ty) (c3 : class_Has_ad7e_Ty) (c4 : class_May_66e6_Ty) (w1 : cast_Env_ad7e_l1_Ty) (w2 : cast_Env_ad7e_l2_Ty) {R : Type} (nx : (Int) → (Int) → (List ((ByteArray) × ((Bool) × (Int)))) → (List (Int)) → (List (List (Int))) → (List (Bool)) → (Int) → (Int) → (Int) → (Nat) → (Nat) → (Nat) → (Nat) → (List (Int)) → (List (List (Int))) → Option R) (k0 : (List ((ByteArray) × ((Bool) × (Int)))) → (List (Int)) → (List (List (Int))) → (List (Bool)) → (Nat) → (Nat) → (Nat) → (Nat) → (List (Int)) → Option R) (x0 : Int) (x1 : Int) (x2 : List ((ByteArray) × ((Bool) × (Int)))) (x3 : List (Int)) (x4 : List (List (Int))) (x5 : List (Bool)) (x6 : Int) (x7 : Int) (x8 : Int) (x9 : Nat) (x10 : Nat) (x11 : Nat) (x12 : Nat) (x13 : List (Int)) (x14 : List (List (Int))) : Option R :=
  br (decide (x1 < x0))
  (br (inB x1 (List.length x14))
   (br (decide ((Int.toNat x1) < (List.length x14)))
    (br (((fits (0 : Nat) (List.length x13) x13) && (decide ((((List.length x13) + (1 : Nat)) * (2 : Nat)) ≤ (70368744177664 : Nat)))) && true)
     (c0 x6 x7 x8 x2 x3
      (fun l528 l529 l530 => br (inB x1 (List.length l530))
       (br (decide ((Int.toNat x1) < (List.length l530)))
        (w1
         (fun i531 i532 l533 l534 l535 l536 i537 i538 i539 n540 n541 n542 n543 l544 l545 => nx i531 (IntKind.wrap .i64 (i532 + (1 : Int))) l533 l534 l535 l536 i537 i538 i539 n540 n541 n542 n543 l544 l545)
         N (List.getD x14 (Int.toNat x1) (Sh.zero (.isl (.int .u8)))) x0 x1 (List.getD l530 (Int.toNat x1) (0 : Int)) (0 : Int) l528 l529 x4 x5 x6 x7 x8 x9 x10 x11 x12 ((sub x13 (0 : Nat) (List.length x13)) ++ ((IntKind.wrap .u16 (Nat.cast (List.length (List.getD x14 (Int.toNat x1) (Sh.zero (.isl (.int .u8))))) : Int)) :: ([] : List ((Sh.int IntKind.u16).T)))) x14)
        (none))
       (none)))
     (none))
    (none))
   (none))
  (k0 x2 x3 x4 x5 x9 x10 x11 x12 x13)
noncomputable def cast_Env_ad7e_l1_T0 (N : Nat) (c0 : class_Caps_66e6_Ty) (c1 : slices_Concat___byte__byte_1789_Ty) (c2 : class_Has_1e53_Ty) (c3 : class_Has_ad7e_Ty) (c4 : class_May_66e6_Ty) (w2 : cast_Env_ad7e_l2_Ty) {R : Type} (nx : (List (Int)) → (Int) → (Int) → (Int) → (Int) → (List ((ByteArray) × ((Bool) × (Int)))) → (List (Int)) → (List (List (Int))) → (List (Bool)) → (Int) → (Int) → (Int) → (Nat) → (Nat) → (Nat) → (Nat) → (List (Int)) → (List (List (Int))) → Option R) (k0 : (Int) → (Int) → (List ((ByteArray) × ((Bool) × (Int)))) → (List (Int)) → (List (List (Int))) → (List (Bool)) → (Int) → (Int) → (Int) → (Nat) → (Nat) → (Nat) → (Nat) → (List (Int)) → (List (List (Int))) → Option R) (x0 : List (Int)) (x1 : Int) (x2 : Int) (x3 : Int) (x4 : Int) (x5 : List ((ByteArray) × ((Bool) × (Int)))) (x6 : List (Int)) (x7 : List (List (Int))) (x8 : List (Bool)) (x9 : Int) (x10 : Int) (x11 : Int) (x12 : Nat) (x13 : Nat) (x14 : Nat) (x15 : Nat) (x16 : List (Int)) (x17 : List (List (Int))) : Option R :=
  br (decide (x4 < x3))
  (br (decide (x4 < (Nat.cast (List.length x0) : Int)))
   (br (inB x4 (List.length x0))
    (br (((fits (0 : Nat) (List.length x16) x16) && (decide ((((List.length x16) + (1 : Nat)) * (2 : Nat)) ≤ (70368744177664 : Nat)))) && true)
     (nx x0 x1 x2 x3 (IntKind.wrap .i64 (x4 + (1 : Int))) x5 x6 x7 x8 x9 x10 x11 x12 x13 x14 x15 ((sub x16 (0 : Nat) (List.length x16)) ++ ((IntKind.wrap .u16 (List.getD x0 (Int.toNat x4) (0 : Int))) :: ([] : List ((Sh.int IntKind.u16).T)))) x17)
     (none))
    (none))
   (br (((fits (0 : Nat) (List.length x16) x16) && (decide ((((List.length x16) + (1 : Nat)) * (2 : Nat)) ≤ (70368744177664 : Nat)))) && true)
    (nx x0 x1 x2 x3 (IntKind.wrap .i64 (x4 + (1 : Int))) x5 x6 x7 x8 x9 x10 x11 x12 x13 x14 x15 ((sub x16 (0 : Nat) (List.length x16)) ++ ((IntKind.wrap .u16 (0 : Int)) :: ([] : List ((Sh.int IntKind.u16).T)))) x17)
    (none)))
  (k0 x1 x2 x5 x6 x7 x8 x9 x10 x11 x12 x13 x14 x15 x16 x17)
noncomputable def cast_Env_ad7e_l2_T0 (N : Nat) (c0 : class_Caps_66e6_Ty) (c1 : slices_Concat___byte__byte_1789_Ty) (c2 : class_Has_1e53_Ty) (c3 : class_Has_ad7e_Ty) (c4 : class_May_66e6_Ty) {R : Type} (nx : (Int) → (Int) → (List ((ByteArray) × ((Bool) × (Int)))) → (List (Int)) → (List (List (Int))) → (List (Bool)) → (List (Int)) → Option R) (k0 : (List ((ByteArray) × ((Bool) × (Int)))) → (List (Int)) → (List (List (Int))) → (List (Bool)) → (List (Int)) → Option R) (x0 : Int) (x1 : Int) (x2 : List ((ByteArray) × ((Bool) × (Int)))) (x3 : List (Int)) (x4 : List (List (Int))) (x5 : List (Bool)) (x6 : List (Int)) : Option R :=
  br (decide (x1 < x0))
  (br (inB x1 (List.length x5))
   (br (decide ((Int.toNat x1) < (List.length x5)))
    (br (List.getD x5 (Int.toNat x1) false)
     (br (((fits (0 : Nat) (List.length x6) x6) && (decide ((((List.length x6) + (1 : Nat)) * (2 : Nat)) ≤ (70368744177664 : Nat)))) && true)
      (nx x0 (IntKind.wrap .i64 (x1 + (1 : Int))) x2 x3 x4 x5 ((sub x6 (0 : Nat) (List.length x6)) ++ ((1 : Int) :: ([] : List ((Sh.int IntKind.u16).T)))))
      (none))
     (br (((fits (0 : Nat) (List.length x6) x6) && (decide ((((List.length x6) + (1 : Nat)) * (2 : Nat)) ≤ (70368744177664 : Nat)))) && true)
      (nx x0 (IntKind.wrap .i64 (x1 + (1 : Int))) x2 x3 x4 x5 ((sub x6 (0 : Nat) (List.length x6)) ++ ((0 : Int) :: ([] : List ((Sh.int IntKind.u16).T)))))
      (none)))
    (none))
   (none))
  (k0 x2 x3 x4 x5 x6)
noncomputable def cast_Env_ad7e_l2 (N : Nat) {R : Type} (k0 : (List ((ByteArray) × ((Bool) × (Int)))) → (List (Int)) → (List (List (Int))) → (List (Bool)) → (List (Int)) → Option R) : Nat → (Int) → (Int) → (List ((ByteArray) × ((Bool) × (Int)))) → (List (Int)) → (List (List (Int))) → (List (Bool)) → (List (Int)) → Option R
  | 0, _, _, _, _, _, _, _ => none
  | n + 1, x0, x1, x2, x3, x4, x5, x6 => cast_Env_ad7e_l2_T0 N (@class_Caps_66e6 N) (@slices_Concat___byte__byte_1789 N) (@class_Has_1e53 N) (@class_Has_ad7e N) (@class_May_66e6 N) (fun x0 x1 x2 x3 x4 x5 x6 => cast_Env_ad7e_l2 N k0 n x0 x1 x2 x3 x4 x5 x6) k0 x0 x1 x2 x3 x4 x5 x6
noncomputable def cast_Env_ad7e_l1 (N : Nat) {R : Type} (k0 : (Int) → (Int) → (List ((ByteArray) × ((Bool) × (Int)))) → (List (Int)) → (List (List (Int))) → (List (Bool)) → (Int) → (Int) → (Int) → (Nat) → (Nat) → (Nat) → (Nat) → (List (Int)) → (List (List (Int))) → Option R) : Nat → (List (Int)) → (Int) → (Int) → (Int) → (Int) → (List ((ByteArray) × ((Bool) × (Int)))) → (List (Int)) → (List (List (Int))) → (List (Bool)) → (Int) → (Int) → (Int) → (Nat) → (Nat) → (Nat) → (Nat) → (List (Int)) → (List (List (Int))) → Option R
  | 0, _, _, _, _, _, _, _, _, _, _, _, _, _, _, _, _, _, _ => none
  | n + 1, x0, x1, x2, x3, x4, x5, x6, x7, x8, x9, x10, x11, x12, x13, x14, x15, x16, x17 => cast_Env_ad7e_l1_T0 N (@class_Caps_66e6 N) (@slices_Concat___byte__byte_1789 N) (@class_Has_1e53 N) (@class_Has_ad7e N) (@class_May_66e6 N) (@cast_Env_ad7e_l2 N) (fun x0 x1 x2 x3 x4 x5 x6 x7 x8 x9 x10 x11 x12 x13 x14 x15 x16 x17 => cast_Env_ad7e_l1 N k0 n x0 x1 x2 x3 x4 x5 x6 x7 x8 x9 x10 x11 x12 x13 x14 x15 x16 x17) k0 x0 x1 x2 x3 x4 x5 x6 x7 x8 x9 x10 x11 x12 x13 x14 x15 x16 x17
noncomputable def cast_Env_ad7e_l0 (N : Nat) {R : Type} (k0 : (List ((ByteArray) × ((Bool) × (Int)))) → (List (Int)) → (List (List (Int))) → (List (Bool)) → (Nat) → (Nat) → (Nat) → (Nat) → (List (Int)) → Option R) : Nat → (Int) → (Int) → (List ((ByteArray) × ((Bool) × (Int)))) → (List (Int)) → (List (List (Int))) → (List (Bool)) → (Int) → (Int) → (Int) → (Nat) → (Nat) → (Nat) → (Nat) → (List (Int)) → (List (List (Int))) → Option R
  | 0, _, _, _, _, _, _, _, _, _, _, _, _, _, _, _ => none
  | n + 1, x0, x1, x2, x3, x4, x5, x6, x7, x8, x9, x10, x11, x12, x13, x14 => cast_Env_ad7e_l0_T0 N (@class_Caps_66e6 N) (@slices_Concat___byte__byte_1789 N) (@class_Has_1e53 N) (@class_Has_ad7e N) (@class_May_66e6 N) (@cast_Env_ad7e_l1 N) (@cast_Env_ad7e_l2 N) (fun x0 x1 x2 x3 x4 x5 x6 x7 x8 x9 x10 x11 x12 x13 x14 => cast_Env_ad7e_l0 N k0 n x0 x1 x2 x3 x4 x5 x6 x7 x8 x9 x10 x11 x12 x13 x14) k0 x0 x1 x2 x3 x4 x5 x6 x7 x8 x9 x10 x11 x12 x13 x14
noncomputable def cast_Env_ad7e_T (N : Nat) (c0 : class_Caps_66e6_Ty) (c1 : slices_Concat___byte__byte_1789_Ty) (c2 : class_Has_1e53_Ty) (c3 : class_Has_ad7e_Ty) (c4 : class_May_66e6_Ty) (w0 : cast_Env_ad7e_l0_Ty) (w1 : cast_Env_ad7e_l1_Ty) (w2 : cast_Env_ad7e_l2_Ty) {R : Type} (x0 : Int) (x1 : Int) (x2 : Int) (x3 : Nat) (x4 : Nat) (x5 : Nat) (x6 : Nat) (x7 : List ((ByteArray) × ((Bool) × (Int)))) (x8 : List (Int)) (x9 : Nat) (x10 : List (List (Int))) (x11 : List (Bool)) (k0 : (Int) → (List ((ByteArray) × ((Bool) × (Int)))) → (List (Int)) → (Nat) → (List (List (Int))) → (List (Bool)) → (List (Int)) → Option R) (k1 : (Int) → (List ((ByteArray) × ((Bool) × (Int)))) → (List (Int)) → (List (List (Int))) → (List (Bool)) → (List (Int)) → Option R) : Option R :=
  c4 x0 x1 x2 x7 x8
  (fun b517 l518 l519 => br (!b517)
   (k0 (11 : Int) l518 l519 x9 x10 x11 ([] : List ((Sh.int IntKind.u16).T)))
   (c3 x0 x1 x2 x3 x4 x5 x6 l518 l519 x9 x10 x11
    (fun b520 l521 l522 n523 l524 l525 => br (!b520)
     (k0 (12 : Int) l521 l522 n523 l524 l525 ([] : List ((Sh.int IntKind.u16).T)))
     (br (fits (0 : Nat) x3 l524)
      (br (fits x5 x6 l524)
       (c1 ((sub l524 (0 : Nat) x3) :: ((sub l524 x5 x6) :: ([] : List ((Sh.int IntKind.u8).isl.isl.T))))
        (fun l526 l527 => w0
         (fun l546 l547 l548 l549 n550 n551 n552 n553 l554 => w2
          (fun l555 l556 l557 l558 l559 => k1 (0 : Int) l555 l556 l557 l558 l559)
          N (Nat.cast (List.length l549) : Int) (0 : Int) l546 l547 l548 l549 l554)
         N (Nat.cast (List.length l527) : Int) (0 : Int) l521 l522 l524 l525 x0 x1 x2 x3 x4 x5 x6 ([] : List ((Sh.int IntKind.u16).T)) l527))
       (none))
      (none)))))
noncomputable def cast_Env_ad7e (N : Nat) {R : Type} (x0 : Int) (x1 : Int) (x2 : Int) (x3 : Nat) (x4 : Nat) (x5 : Nat) (x6 : Nat) (x7 : List ((ByteArray) × ((Bool) × (Int)))) (x8 : List (Int)) (x9 : Nat) (x10 : List (List (Int))) (x11 : List (Bool)) (k0 : (Int) → (List ((ByteArray) × ((Bool) × (Int)))) → (List (Int)) → (Nat) → (List (List (Int))) → (List (Bool)) → (List (Int)) → Option R) (k1 : (Int) → (List ((ByteArray) × ((Bool) × (Int)))) → (List (Int)) → (List (List (Int))) → (List (Bool)) → (List (Int)) → Option R) : Option R := cast_Env_ad7e_T N (@class_Caps_66e6 N) (@slices_Concat___byte__byte_1789 N) (@class_Has_1e53 N) (@class_Has_ad7e N) (@class_May_66e6 N) (@cast_Env_ad7e_l0 N) (@cast_Env_ad7e_l1 N) (@cast_Env_ad7e_l2 N) x0 x1 x2 x3 x4 x5 x6 x7 x8 x9 x10 x11 k0 k1
abbrev cast_Size_9e58_l0_Ty : Type 1 := {R : Type} → ((Int) → (List ((ByteArray) × ((Bool) × (Int)))) → (List (Int)) → Option R) → Nat → (Int) → (Int) → (Int) → (List ((ByteArray) × ((Bool) × (Int)))) → (List (Int)) → (List (Int)) → Option R
abbrev cast_Size_9e58_Ty : Type 1 := {R : Type} → (Int) → (Int) → (Int) → (Int) → (List ((ByteArray) × ((Bool) × (Int)))) → (List (Int)) → ((Int) → (List ((ByteArray) × ((Bool) × (Int)))) → (List (Int)) → Option R) → Option R
noncomputable def cast_Size_9e58_l0_T0 (N : Nat) (c0 : class_May_66e6_Ty) (c1 : class_Caps_66e6_Ty) {R : Type} (nx : (Int) → (Int) → (Int) → (List ((ByteArray) × ((Bool) × (Int)))) → (List (Int)) → (List (Int)) → Option R) (k0 : (Int) → (List ((ByteArray) × ((Bool) × (Int)))) → (List (Int)) → Option R) (x0 : Int) (x1 : Int) (x2 : Int) (x3 : List ((ByteArray) × ((Bool) × (Int)))) (x4 : List (Int)) (x5 : List (Int)) : Option R :=
  br (decide (x2 < x1))
  (br (inB x2 (List.length x5))
   (br (decide ((Int.toNat x2) < (List.length x5)))
    (nx (IntKind.wrap .i64 (x0 + (IntKind.wrap .i64 ((1 : Int) + (List.getD x5 (Int.toNat x2) (0 : Int)))))) x1 (IntKind.wrap .i64 (x2 + (1 : Int))) x3 x4 x5)
    (none))
   (none))
  (k0 x0 x3 x4)
noncomputable def cast_Size_9e58_l0 (N : Nat) {R : Type} (k0 : (Int) → (List ((ByteArray) × ((Bool) × (Int)))) → (List (Int)) → Option R) : Nat → (Int) → (Int) → (Int) → (List ((ByteArray) × ((Bool) × (Int)))) → (List (Int)) → (List (Int)) → Option R
  | 0, _, _, _, _, _, _ => none
  | n + 1, x0, x1, x2, x3, x4, x5 => cast_Size_9e58_l0_T0 N (@class_May_66e6 N) (@class_Caps_66e6 N) (fun x0 x1 x2 x3 x4 x5 => cast_Size_9e58_l0 N k0 n x0 x1 x2 x3 x4 x5) k0 x0 x1 x2 x3 x4 x5
noncomputable def cast_Size_9e58_T (N : Nat) (c0 : class_May_66e6_Ty) (c1 : class_Caps_66e6_Ty) (w0 : cast_Size_9e58_l0_Ty) {R : Type} (x0 : Int) (x1 : Int) (x2 : Int) (x3 : Int) (x4 : List ((ByteArray) × ((Bool) × (Int)))) (x5 : List (Int)) (k0 : (Int) → (List ((ByteArray) × ((Bool) × (Int)))) → (List (Int)) → Option R) : Option R :=
  c1 x0 x1 x2 x4 x5
  (fun l254 l255 l256 => c0 x0 x1 x2 l254 l255
   (fun b257 l258 l259 => br (!(!b257))
    (br (!(decide (x3 < (0 : Int))))
     (br (decide ((Nat.cast (List.length l256) : Int) ≤ x3))
      (k0 (-1 : Int) l258 l259)
      (br (leB x3 (List.length l256))
       (br (fits (0 : Nat) ((Int.toNat x3) - (0 : Nat)) l256)
        (w0
         (fun i260 l261 l262 => k0 i260 l261 l262)
         N (0 : Int) (Nat.cast ((Int.toNat x3) - (0 : Nat)) : Int) (0 : Int) l258 l259 (sub l256 (0 : Nat) ((Int.toNat x3) - (0 : Nat))))
        (none))
       (none)))
     (k0 (-1 : Int) l258 l259))
    (k0 (-1 : Int) l258 l259)))
noncomputable def cast_Size_9e58 (N : Nat) {R : Type} (x0 : Int) (x1 : Int) (x2 : Int) (x3 : Int) (x4 : List ((ByteArray) × ((Bool) × (Int)))) (x5 : List (Int)) (k0 : (Int) → (List ((ByteArray) × ((Bool) × (Int)))) → (List (Int)) → Option R) : Option R := cast_Size_9e58_T N (@class_May_66e6 N) (@class_Caps_66e6 N) (@cast_Size_9e58_l0 N) x0 x1 x2 x3 x4 x5 k0
abbrev cast_Byte_dbd4_Ty : Type 1 := {R : Type} → (Int) → (Int) → (Int) → (Int) → (Int) → (List ((ByteArray) × ((Bool) × (Int)))) → (List (Int)) → ((Int) → (Bool) → (List ((ByteArray) × ((Bool) × (Int)))) → (List (Int)) → Option R) → Option R
noncomputable def cast_Byte_dbd4_T (N : Nat) (c0 : class_Caps_66e6_Ty) (c1 : cast_Size_9e58_Ty) {R : Type} (x0 : Int) (x1 : Int) (x2 : Int) (x3 : Int) (x4 : Int) (x5 : List ((ByteArray) × ((Bool) × (Int)))) (x6 : List (Int)) (k0 : (Int) → (Bool) → (List ((ByteArray) × ((Bool) × (Int)))) → (List (Int)) → Option R) : Option R :=
  c1 x0 x1 x2 x3 x5 x6
  (fun i263 l264 l265 => br (!(decide (i263 = (-1 : Int))))
   (br (!(decide (x4 < (0 : Int))))
    (c0 x0 x1 x2 l264 l265
     (fun l266 l267 l268 => br (inB x3 (List.length l268))
      (br (decide ((Int.toNat x3) < (List.length l268)))
       (br (decide ((List.getD l268 (Int.toNat x3) (0 : Int)) ≤ x4))
        (k0 (0 : Int) false l266 l267)
        (k0 (IntKind.wrap .i64 ((IntKind.wrap .i64 (i263 + (1 : Int))) + x4)) true l266 l267))
       (none))
      (none)))
    (k0 (0 : Int) false l264 l265))
   (k0 (0 : Int) false l264 l265))
noncomputable def cast_Byte_dbd4 (N : Nat) {R : Type} (x0 : Int) (x1 : Int) (x2 : Int) (x3 : Int) (x4 : Int) (x5 : List ((ByteArray) × ((Bool) × (Int)))) (x6 : List (Int)) (k0 : (Int) → (Bool) → (List ((ByteArray) × ((Bool) × (Int)))) → (List (Int)) → Option R) : Option R := cast_Byte_dbd4_T N (@class_Caps_66e6 N) (@cast_Size_9e58 N) x0 x1 x2 x3 x4 x5 x6 k0
abbrev cast_Vars_66e6_l0_Ty : Type 1 := {R : Type} → ((Int) → (List ((ByteArray) × ((Bool) × (Int)))) → (List (Int)) → Option R) → Nat → (Int) → (Int) → (Int) → (List ((ByteArray) × ((Bool) × (Int)))) → (List (Int)) → (List (Int)) → Option R
abbrev cast_Vars_66e6_Ty : Type 1 := {R : Type} → (Int) → (Int) → (Int) → (List ((ByteArray) × ((Bool) × (Int)))) → (List (Int)) → ((Int) → (List ((ByteArray) × ((Bool) × (Int)))) → (List (Int)) → Option R) → Option R
noncomputable def cast_Vars_66e6_l0_T0 (N : Nat) (c0 : class_Caps_66e6_Ty) (c1 : class_May_66e6_Ty) {R : Type} (nx : (Int) → (Int) → (Int) → (List ((ByteArray) × ((Bool) × (Int)))) → (List (Int)) → (List (Int)) → Option R) (k0 : (Int) → (List ((ByteArray) × ((Bool) × (Int)))) → (List (Int)) → Option R) (x0 : Int) (x1 : Int) (x2 : Int) (x3 : List ((ByteArray) × ((Bool) × (Int)))) (x4 : List (Int)) (x5 : List (Int)) : Option R :=
  br (decide (x2 < x1))
  (br (inB x2 (List.length x5))
   (br (decide ((Int.toNat x2) < (List.length x5)))
    (nx (IntKind.wrap .i64 (x0 + (IntKind.wrap .i64 ((1 : Int) + (List.getD x5 (Int.toNat x2) (0 : Int)))))) x1 (IntKind.wrap .i64 (x2 + (1 : Int))) x3 x4 x5)
    (none))
   (none))
  (k0 x0 x3 x4)
noncomputable def cast_Vars_66e6_l0 (N : Nat) {R : Type} (k0 : (Int) → (List ((ByteArray) × ((Bool) × (Int)))) → (List (Int)) → Option R) : Nat → (Int) → (Int) → (Int) → (List ((ByteArray) × ((Bool) × (Int)))) → (List (Int)) → (List (Int)) → Option R
  | 0, _, _, _, _, _, _ => none
  | n + 1, x0, x1, x2, x3, x4, x5 => cast_Vars_66e6_l0_T0 N (@class_Caps_66e6 N) (@class_May_66e6 N) (fun x0 x1 x2 x3 x4 x5 => cast_Vars_66e6_l0 N k0 n x0 x1 x2 x3 x4 x5) k0 x0 x1 x2 x3 x4 x5
noncomputable def cast_Vars_66e6_T (N : Nat) (c0 : class_Caps_66e6_Ty) (c1 : class_May_66e6_Ty) (w0 : cast_Vars_66e6_l0_Ty) {R : Type} (x0 : Int) (x1 : Int) (x2 : Int) (x3 : List ((ByteArray) × ((Bool) × (Int)))) (x4 : List (Int)) (k0 : (Int) → (List ((ByteArray) × ((Bool) × (Int)))) → (List (Int)) → Option R) : Option R :=
  c1 x0 x1 x2 x3 x4
  (fun b276 l277 l278 => br (!b276)
   (k0 (0 : Int) l277 l278)
   (c0 x0 x1 x2 l277 l278
    (fun l279 l280 l281 => w0
     (fun i282 l283 l284 => k0 i282 l283 l284)
     N x0 (Nat.cast (List.length l281) : Int) (0 : Int) l279 l280 l281)))
noncomputable def cast_Vars_66e6 (N : Nat) {R : Type} (x0 : Int) (x1 : Int) (x2 : Int) (x3 : List ((ByteArray) × ((Bool) × (Int)))) (x4 : List (Int)) (k0 : (Int) → (List ((ByteArray) × ((Bool) × (Int)))) → (List (Int)) → Option R) : Option R := cast_Vars_66e6_T N (@class_Caps_66e6 N) (@class_May_66e6 N) (@cast_Vars_66e6_l0 N) x0 x1 x2 x3 x4 k0
abbrev cast_Fail_9e58_Ty : Type 1 := {R : Type} → (Int) → (Int) → (Int) → (Int) → (List ((ByteArray) × ((Bool) × (Int)))) → (List (Int)) → ((Int) → (Bool) → (List ((ByteArray) × ((Bool) × (Int)))) → (List (Int)) → Option R) → Option R
noncomputable def cast_Fail_9e58_T (N : Nat) (c0 : cast_Vars_66e6_Ty) (c1 : class_May_66e6_Ty) {R : Type} (x0 : Int) (x1 : Int) (x2 : Int) (x3 : Int) (x4 : List ((ByteArray) × ((Bool) × (Int)))) (x5 : List (Int)) (k0 : (Int) → (Bool) → (List ((ByteArray) × ((Bool) × (Int)))) → (List (Int)) → Option R) : Option R :=
  c1 x0 x1 x2 x4 x5
  (fun b273 l274 l275 => br (!(!b273))
   (br (!(decide (x3 < (0 : Int))))
    (br (decide (x0 ≤ x3))
     (k0 (0 : Int) false l274 l275)
     (c0 x0 x1 x2 l274 l275
      (fun i285 l286 l287 => br (decide (x0 = x0))
       (br (decide (x3 = x3))
        (k0 (IntKind.wrap .i64 ((IntKind.wrap .i64 (i285 - x0)) + x3)) true l286 l287)
        (none))
       (none))))
    (k0 (0 : Int) false l274 l275))
   (k0 (0 : Int) false l274 l275))
noncomputable def cast_Fail_9e58 (N : Nat) {R : Type} (x0 : Int) (x1 : Int) (x2 : Int) (x3 : Int) (x4 : List ((ByteArray) × ((Bool) × (Int)))) (x5 : List (Int)) (k0 : (Int) → (Bool) → (List ((ByteArray) × ((Bool) × (Int)))) → (List (Int)) → Option R) : Option R := cast_Fail_9e58_T N (@cast_Vars_66e6 N) (@class_May_66e6 N) x0 x1 x2 x3 x4 x5 k0
abbrev law18_same_894e_l0_Ty : Type 1 := {R : Type} → ((Bool) → (List (Int)) → (List (Int)) → Option R) → ((List (Int)) → (List (Int)) → Option R) → Nat → (Int) → (List (Int)) → (List (Int)) → Option R
abbrev law18_same_894e_Ty : Type 1 := {R : Type} → (List (Int)) → (List (Int)) → ((Bool) → (List (Int)) → (List (Int)) → Option R) → Option R
noncomputable def law18_same_894e_l0_T0 (N : Nat) {R : Type} (nx : (Int) → (List (Int)) → (List (Int)) → Option R) (k0 : (Bool) → (List (Int)) → (List (Int)) → Option R) (k1 : (List (Int)) → (List (Int)) → Option R) (x0 : Int) (x1 : List (Int)) (x2 : List (Int)) : Option R :=
  br (decide (x0 < (Nat.cast (List.length x1) : Int)))
  (br (inB x0 (List.length x1))
   (br (decide ((Int.toNat x0) < (List.length x1)))
    (br (inB x0 (List.length x2))
     (br (decide ((Int.toNat x0) < (List.length x2)))
      (br (!(decide ((List.getD x1 (Int.toNat x0) (0 : Int)) = (List.getD x2 (Int.toNat x0) (0 : Int)))))
       (k0 false x1 x2)
       (nx (IntKind.wrap .i64 (x0 + (1 : Int))) x1 x2))
      (none))
     (none))
    (none))
   (none))
  (k1 x1 x2)
noncomputable def law18_same_894e_l0 (N : Nat) {R : Type} (k0 : (Bool) → (List (Int)) → (List (Int)) → Option R) (k1 : (List (Int)) → (List (Int)) → Option R) : Nat → (Int) → (List (Int)) → (List (Int)) → Option R
  | 0, _, _, _ => none
  | n + 1, x0, x1, x2 => law18_same_894e_l0_T0 N (fun x0 x1 x2 => law18_same_894e_l0 N k0 k1 n x0 x1 x2) k0 k1 x0 x1 x2
noncomputable def law18_same_894e_T (N : Nat) (w0 : law18_same_894e_l0_Ty) {R : Type} (x0 : List (Int)) (x1 : List (Int)) (k0 : (Bool) → (List (Int)) → (List (Int)) → Option R) : Option R :=
  br (!(decide ((Nat.cast (List.length x0) : Int) = (Nat.cast (List.length x1) : Int))))
  (k0 false x0 x1)
  (w0
   (fun b292 l293 l294 => k0 b292 l293 l294)
   (fun l295 l296 => k0 true l295 l296)
   N (0 : Int) x0 x1)
noncomputable def law18_same_894e (N : Nat) {R : Type} (x0 : List (Int)) (x1 : List (Int)) (k0 : (Bool) → (List (Int)) → (List (Int)) → Option R) : Option R := law18_same_894e_T N (@law18_same_894e_l0 N) x0 x1 k0
abbrev law18_awake_Ty : Type 1 := {R : Type} → ((Bool) → Option R) → Option R
noncomputable def law18_awake_T (N : Nat) (c0 : cast_Size_9e58_Ty) (c1 : cast_Vars_66e6_Ty) (c2 : law18_same_894e_Ty) (c3 : cast_Fail_9e58_Ty) (c4 : cast_Byte_dbd4_Ty) (c5 : cast_Env_727c_Ty) (c6 : cast_Env_ad7e_Ty) {R : Type} (k0 : (Bool) → Option R) : Option R :=
  c5 (1 : Int) (1 : Int) (0 : Int) (((bs [97]) , (false , (1 : Int))) :: ([] : List ((Sh.str.pair (Sh.bool.pair (Sh.int IntKind.i64))).T))) ([] : List ((Sh.int IntKind.i64).T)) (((9 : Int) :: ([] : List ((Sh.int IntKind.u8).T))) :: ([] : List ((Sh.int IntKind.u8).isl.T))) (true :: ([] : List (Sh.bool.T)))
  (fun i248 l249 l250 l251 l252 l253 => c4 (1 : Int) (1 : Int) (0 : Int) (0 : Int) (0 : Int) l249 l250
   (fun i269 b270 l271 l272 => c3 (1 : Int) (1 : Int) (0 : Int) (0 : Int) l271 l272
    (fun i288 b289 l290 l291 => br (decide (i248 = (0 : Int)))
     (c2 l253 ((1 : Int) :: ((9 : Int) :: ((1 : Int) :: ([] : List ((Sh.int IntKind.u16).T)))))
      (fun b297 l298 l299 => br b297
       (c1 (1 : Int) (1 : Int) (0 : Int) l290 l291
        (fun i300 l301 l302 => br (decide (i300 = (3 : Int)))
         (c0 (1 : Int) (1 : Int) (0 : Int) (0 : Int) l301 l302
          (fun i303 l304 l305 => br (decide (i303 = (0 : Int)))
           (br b270
            (br (decide (i269 = (1 : Int)))
             (br b289
              (k0 (decide (i288 = (2 : Int))))
              (k0 false))
             (k0 false))
            (k0 false))
           (k0 false)))
         (k0 false)))
       (k0 false)))
     (k0 false))))
  (fun i306 l307 l308 l309 l310 l311 => c4 (1 : Int) (1 : Int) (0 : Int) (0 : Int) (0 : Int) l307 l308
   (fun i312 b313 l314 l315 => c3 (1 : Int) (1 : Int) (0 : Int) (0 : Int) l314 l315
    (fun i316 b317 l318 l319 => br (decide (i306 = (0 : Int)))
     (c2 l311 ((1 : Int) :: ((9 : Int) :: ((1 : Int) :: ([] : List ((Sh.int IntKind.u16).T)))))
      (fun b320 l321 l322 => br b320
       (c1 (1 : Int) (1 : Int) (0 : Int) l318 l319
        (fun i323 l324 l325 => br (decide (i323 = (3 : Int)))
         (c0 (1 : Int) (1 : Int) (0 : Int) (0 : Int) l324 l325
          (fun i326 l327 l328 => br (decide (i326 = (0 : Int)))
           (br b313
            (br (decide (i312 = (1 : Int)))
             (br b317
              (k0 (decide (i316 = (2 : Int))))
              (k0 false))
             (k0 false))
            (k0 false))
           (k0 false)))
         (k0 false)))
       (k0 false)))
     (k0 false))))
noncomputable def law18_awake (N : Nat) {R : Type} (k0 : (Bool) → Option R) : Option R := law18_awake_T N (@cast_Size_9e58 N) (@cast_Vars_66e6 N) (@law18_same_894e N) (@cast_Fail_9e58 N) (@cast_Byte_dbd4 N) (@cast_Env_727c N) (@cast_Env_ad7e N) k0
abbrev slices_Equal__uint16_uint16_b8c4_l0_Ty : Type 1 := {R : Type} → ((Bool) → (List (Int)) → (Nat) → (List (Int)) → Option R) → ((List (Int)) → (Nat) → (List (Int)) → Option R) → Nat → (Nat) → (Nat) → (Int) → (Int) → (List (Int)) → (Nat) → (List (Int)) → Option R
abbrev slices_Equal__uint16_uint16_b8c4_Ty : Type 1 := {R : Type} → (Nat) → (Nat) → (List (Int)) → (Nat) → (List (Int)) → ((Bool) → (List (Int)) → (Nat) → (List (Int)) → Option R) → Option R
noncomputable def slices_Equal__uint16_uint16_b8c4_l0_T0 (N : Nat) {R : Type} (nx : (Nat) → (Nat) → (Int) → (Int) → (List (Int)) → (Nat) → (List (Int)) → Option R) (k0 : (Bool) → (List (Int)) → (Nat) → (List (Int)) → Option R) (k1 : (List (Int)) → (Nat) → (List (Int)) → Option R) (x0 : Nat) (x1 : Nat) (x2 : Int) (x3 : Int) (x4 : List (Int)) (x5 : Nat) (x6 : List (Int)) : Option R :=
  br (decide (x3 < x2))
  (br (inB x3 (List.length x4))
   (br (decide ((Int.toNat x3) < (List.length x4)))
    (br (inB x3 x0)
     (br (decide ((Int.toNat x3) < x5))
      (br (!(decide ((List.getD x4 (Int.toNat x3) (0 : Int)) = (List.getD x6 (Int.toNat x3) (0 : Int)))))
       (k0 false x4 x5 x6)
       (nx x0 x1 x2 (IntKind.wrap .i64 (x3 + (1 : Int))) x4 x5 x6))
      (none))
     (none))
    (none))
   (none))
  (k1 x4 x5 x6)
noncomputable def slices_Equal__uint16_uint16_b8c4_l0 (N : Nat) {R : Type} (k0 : (Bool) → (List (Int)) → (Nat) → (List (Int)) → Option R) (k1 : (List (Int)) → (Nat) → (List (Int)) → Option R) : Nat → (Nat) → (Nat) → (Int) → (Int) → (List (Int)) → (Nat) → (List (Int)) → Option R
  | 0, _, _, _, _, _, _, _ => none
  | n + 1, x0, x1, x2, x3, x4, x5, x6 => slices_Equal__uint16_uint16_b8c4_l0_T0 N (fun x0 x1 x2 x3 x4 x5 x6 => slices_Equal__uint16_uint16_b8c4_l0 N k0 k1 n x0 x1 x2 x3 x4 x5 x6) k0 k1 x0 x1 x2 x3 x4 x5 x6
noncomputable def slices_Equal__uint16_uint16_b8c4_T (N : Nat) (w0 : slices_Equal__uint16_uint16_b8c4_l0_Ty) {R : Type} (x0 : Nat) (x1 : Nat) (x2 : List (Int)) (x3 : Nat) (x4 : List (Int)) (k0 : (Bool) → (List (Int)) → (Nat) → (List (Int)) → Option R) : Option R :=
  br (!(decide ((Nat.cast (List.length x2) : Int) = (Nat.cast x0 : Int))))
  (k0 false x2 x3 x4)
  (w0
   (fun b567 l568 n569 l570 => k0 b567 l568 n569 l570)
   (fun l571 n572 l573 => k0 true l571 n572 l573)
   N x0 x1 (Nat.cast (List.length x2) : Int) (0 : Int) x2 x3 x4)
noncomputable def slices_Equal__uint16_uint16_b8c4 (N : Nat) {R : Type} (x0 : Nat) (x1 : Nat) (x2 : List (Int)) (x3 : Nat) (x4 : List (Int)) (k0 : (Bool) → (List (Int)) → (Nat) → (List (Int)) → Option R) : Option R := slices_Equal__uint16_uint16_b8c4_T N (@slices_Equal__uint16_uint16_b8c4_l0 N) x0 x1 x2 x3 x4 k0
abbrev slices_Equal__uint16_uint16_c28d_l0_Ty : Type 1 := {R : Type} → ((Bool) → (List (Int)) → Option R) → ((List (Int)) → Option R) → Nat → (List (Int)) → (Int) → (Int) → (List (Int)) → Option R
abbrev slices_Equal__uint16_uint16_c28d_Ty : Type 1 := {R : Type} → (List (Int)) → (List (Int)) → ((Bool) → (List (Int)) → Option R) → Option R
noncomputable def slices_Equal__uint16_uint16_c28d_l0_T0 (N : Nat) {R : Type} (nx : (List (Int)) → (Int) → (Int) → (List (Int)) → Option R) (k0 : (Bool) → (List (Int)) → Option R) (k1 : (List (Int)) → Option R) (x0 : List (Int)) (x1 : Int) (x2 : Int) (x3 : List (Int)) : Option R :=
  br (decide (x2 < x1))
  (br (inB x2 (List.length x3))
   (br (decide ((Int.toNat x2) < (List.length x3)))
    (br (inB x2 (List.length x0))
     (br (!(decide ((List.getD x3 (Int.toNat x2) (0 : Int)) = (List.getD x0 (Int.toNat x2) (0 : Int)))))
      (k0 false x3)
      (nx x0 x1 (IntKind.wrap .i64 (x2 + (1 : Int))) x3))
     (none))
    (none))
   (none))
  (k1 x3)
noncomputable def slices_Equal__uint16_uint16_c28d_l0 (N : Nat) {R : Type} (k0 : (Bool) → (List (Int)) → Option R) (k1 : (List (Int)) → Option R) : Nat → (List (Int)) → (Int) → (Int) → (List (Int)) → Option R
  | 0, _, _, _, _ => none
  | n + 1, x0, x1, x2, x3 => slices_Equal__uint16_uint16_c28d_l0_T0 N (fun x0 x1 x2 x3 => slices_Equal__uint16_uint16_c28d_l0 N k0 k1 n x0 x1 x2 x3) k0 k1 x0 x1 x2 x3
noncomputable def slices_Equal__uint16_uint16_c28d_T (N : Nat) (w0 : slices_Equal__uint16_uint16_c28d_l0_Ty) {R : Type} (x0 : List (Int)) (x1 : List (Int)) (k0 : (Bool) → (List (Int)) → Option R) : Option R :=
  br (!(decide ((Nat.cast (List.length x1) : Int) = (Nat.cast (List.length x0) : Int))))
  (k0 false x1)
  (w0
   (fun b695 l696 => k0 b695 l696)
   (fun l697 => k0 true l697)
   N x0 (Nat.cast (List.length x1) : Int) (0 : Int) x1)
noncomputable def slices_Equal__uint16_uint16_c28d (N : Nat) {R : Type} (x0 : List (Int)) (x1 : List (Int)) (k0 : (Bool) → (List (Int)) → Option R) : Option R := slices_Equal__uint16_uint16_c28d_T N (@slices_Equal__uint16_uint16_c28d_l0 N) x0 x1 k0
abbrev cast_Input_38f7_l0_Ty : Type 1 := {R : Type} → ((Int) → (List ((ByteArray) × ((Bool) × (Int)))) → (List (Int)) → (List (Int)) → (Int) → (Int) → (Int) → (List (List (Int))) → (List (List (Int))) → (List (Bool)) → (List (List (Int))) → (List (List (Int))) → (List (Bool)) → (List (List (Int))) → Option R) → Nat → (Int) → (Int) → (Int) → (List ((ByteArray) × ((Bool) × (Int)))) → (List (Int)) → (List (Int)) → (Int) → (Int) → (Int) → (List (List (Int))) → (List (List (Int))) → (List (Bool)) → (List (List (Int))) → (List (List (Int))) → (List (Bool)) → (List (List (Int))) → (List (Int)) → Option R
abbrev cast_Input_38f7_l1_Ty : Type 1 := {R : Type} → ((Int) → (Int) → (Int) → (List ((ByteArray) × ((Bool) × (Int)))) → (List (Int)) → (List (Int)) → (Int) → (Int) → (Int) → (List (List (Int))) → (List (List (Int))) → (List (Bool)) → (List (List (Int))) → (List (List (Int))) → (List (Bool)) → (List (List (Int))) → (List (Int)) → (List (Int)) → Option R) → Nat → (Int) → (Int) → (Int) → (Int) → (Int) → (Int) → (List ((ByteArray) × ((Bool) × (Int)))) → (List (Int)) → (List (Int)) → (Int) → (Int) → (Int) → (List (List (Int))) → (List (List (Int))) → (List (Bool)) → (List (List (Int))) → (List (List (Int))) → (List (Bool)) → (List (List (Int))) → (List (Int)) → (List (Int)) → Option R
abbrev cast_Input_38f7_l2_Ty : Type 1 := {R : Type} → ((Int) → (List ((ByteArray) × ((Bool) × (Int)))) → (List (Int)) → (List (Int)) → (Int) → (Int) → (Int) → (List (List (Int))) → (List (List (Int))) → (List (Bool)) → (Nat) → (Nat) → (Nat) → (Nat) → (Nat) → (List (List (Int))) → (List (Bool)) → Option R) → Nat → (Int) → (Nat) → (Nat) → (Nat) → (Int) → (Int) → (List ((ByteArray) × ((Bool) × (Int)))) → (List (Int)) → (List (Int)) → (Int) → (Int) → (Int) → (List (List (Int))) → (List (List (Int))) → (List (Bool)) → (Nat) → (Nat) → (Nat) → (Nat) → (Nat) → (List (List (Int))) → (List (Bool)) → Option R
abbrev cast_Input_38f7_Ty : Type 1 := {R : Type} → (Int) → (Int) → (Int) → (List ((ByteArray) × ((Bool) × (Int)))) → (List (Int)) → (List (Int)) → ((Int) → (List ((ByteArray) × ((Bool) × (Int)))) → (List (Int)) → (List (Int)) → (List (List (Int))) → (List (List (Int))) → (List (Bool)) → Option R) → ((Nat) → (Nat) → (Nat) → (Nat) → (Int) → (List ((ByteArray) × ((Bool) × (Int)))) → (List (Int)) → (List (Int)) → (Nat) → (List (List (Int))) → (List (Bool)) → Option R) → ((Nat) → (Nat) → (Nat) → (Nat) → (Int) → (List ((ByteArray) × ((Bool) × (Int)))) → (List (Int)) → (List (Int)) → (List (List (Int))) → (List (Bool)) → Option R) → Option R
noncomputable def cast_Input_38f7_l0_T0 (N : Nat) (c0 : slices_Equal__uint16_uint16_b8c4_Ty) (c1 : slices_Equal__uint16_uint16_c28d_Ty) (c2 : cast_Env_727c_Ty) (c3 : cast_Env_ad7e_Ty) (c4 : class_Files_66e6_Ty) (c5 : cast_Size_9e58_Ty) (c6 : class_Caps_66e6_Ty) (c7 : cast_Vars_66e6_Ty) (c8 : class_May_66e6_Ty) (w1 : cast_Input_38f7_l1_Ty) (w2 : cast_Input_38f7_l2_Ty) {R : Type} (nx : (Int) → (Int) → (Int) → (List ((ByteArray) × ((Bool) × (Int)))) → (List (Int)) → (List (Int)) → (Int) → (Int) → (Int) → (List (List (Int))) → (List (List (Int))) → (List (Bool)) → (List (List (Int))) → (List (List (Int))) → (List (Bool)) → (List (List (Int))) → (List (Int)) → Option R) (k0 : (Int) → (List ((ByteArray) × ((Bool) × (Int)))) → (List (Int)) → (List (Int)) → (Int) → (Int) → (Int) → (List (List (Int))) → (List (List (Int))) → (List (Bool)) → (List (List (Int))) → (List (List (Int))) → (List (Bool)) → (List (List (Int))) → Option R) (x0 : Int) (x1 : Int) (x2 : Int) (x3 : List ((ByteArray) × ((Bool) × (Int)))) (x4 : List (Int)) (x5 : List (Int)) (x6 : Int) (x7 : Int) (x8 : Int) (x9 : List (List (Int))) (x10 : List (List (Int))) (x11 : List (Bool)) (x12 : List (List (Int))) (x13 : List (List (Int))) (x14 : List (Bool)) (x15 : List (List (Int))) (x16 : List (Int)) : Option R :=
  br (decide (x2 < x1))
  (br (inB x2 (List.length x16))
   (br (decide ((Int.toNat x2) < (List.length x16)))
    (c5 x6 x7 x8 x2 x3 x4
     (fun i368 l369 l370 => br (inB i368 (List.length x5))
      (br (decide ((Int.toNat i368) < (List.length x5)))
       (w1
        (fun i371 i372 i373 l374 l375 l376 i377 i378 i379 l380 l381 l382 l383 l384 l385 l386 l387 l388 => br (fits (0 : Nat) (List.length l387) l387)
         (br (fits (0 : Nat) (List.length l387) l387)
          (br (((fits (0 : Nat) (List.length l386) l386) && (decide ((((List.length l386) + (1 : Nat)) * (24 : Nat)) ≤ (70368744177664 : Nat)))) && true)
           (nx i371 i372 (IntKind.wrap .i64 (i373 + (1 : Int))) l374 l375 l376 i377 i378 i379 l380 l381 l382 l383 l384 l385 ((sub l386 (0 : Nat) (List.length l386)) ++ ((sub l387 (0 : Nat) (List.length l387)) :: ([] : List ((Sh.int IntKind.u8).isl.T)))) l388)
           (none))
          (none))
         (none))
        N x0 i368 x1 x2 (if ((List.getD x16 (Int.toNat x2) (0 : Int)) < (IntKind.wrap .i64 (List.getD x5 (Int.toNat i368) (0 : Int)))) then (List.getD x16 (Int.toNat x2) (0 : Int)) else (IntKind.wrap .i64 (List.getD x5 (Int.toNat i368) (0 : Int)))) (0 : Int) l369 l370 x5 x6 x7 x8 x9 x10 x11 x12 x13 x14 x15 ([] : List ((Sh.int IntKind.u8).T)) x16)
       (none))
      (none)))
    (none))
   (none))
  (k0 x0 x3 x4 x5 x6 x7 x8 x9 x10 x11 x12 x13 x14 x15)
noncomputable def cast_Input_38f7_l1_T0 (N : Nat) (c0 : slices_Equal__uint16_uint16_b8c4_Ty) (c1 : slices_Equal__uint16_uint16_c28d_Ty) (c2 : cast_Env_727c_Ty) (c3 : cast_Env_ad7e_Ty) (c4 : class_Files_66e6_Ty) (c5 : cast_Size_9e58_Ty) (c6 : class_Caps_66e6_Ty) (c7 : cast_Vars_66e6_Ty) (c8 : class_May_66e6_Ty) (w2 : cast_Input_38f7_l2_Ty) {R : Type} (nx : (Int) → (Int) → (Int) → (Int) → (Int) → (Int) → (List ((ByteArray) × ((Bool) × (Int)))) → (List (Int)) → (List (Int)) → (Int) → (Int) → (Int) → (List (List (Int))) → (List (List (Int))) → (List (Bool)) → (List (List (Int))) → (List (List (Int))) → (List (Bool)) → (List (List (Int))) → (List (Int)) → (List (Int)) → Option R) (k0 : (Int) → (Int) → (Int) → (List ((ByteArray) × ((Bool) × (Int)))) → (List (Int)) → (List (Int)) → (Int) → (Int) → (Int) → (List (List (Int))) → (List (List (Int))) → (List (Bool)) → (List (List (Int))) → (List (List (Int))) → (List (Bool)) → (List (List (Int))) → (List (Int)) → (List (Int)) → Option R) (x0 : Int) (x1 : Int) (x2 : Int) (x3 : Int) (x4 : Int) (x5 : Int) (x6 : List ((ByteArray) × ((Bool) × (Int)))) (x7 : List (Int)) (x8 : List (Int)) (x9 : Int) (x10 : Int) (x11 : Int) (x12 : List (List (Int))) (x13 : List (List (Int))) (x14 : List (Bool)) (x15 : List (List (Int))) (x16 : List (List (Int))) (x17 : List (Bool)) (x18 : List (List (Int))) (x19 : List (Int)) (x20 : List (Int)) : Option R :=
  br (decide (x5 < x4))
  (br (inB (IntKind.wrap .i64 ((IntKind.wrap .i64 (x1 + (1 : Int))) + x5)) (List.length x8))
   (br (decide ((Int.toNat (IntKind.wrap .i64 ((IntKind.wrap .i64 (x1 + (1 : Int))) + x5))) < (List.length x8)))
    (br (((fits (0 : Nat) (List.length x19) x19) && (decide ((((List.length x19) + (1 : Nat)) * (1 : Nat)) ≤ (70368744177664 : Nat)))) && true)
     (nx x0 x1 x2 x3 x4 (IntKind.wrap .i64 (x5 + (1 : Int))) x6 x7 x8 x9 x10 x11 x12 x13 x14 x15 x16 x17 x18 ((sub x19 (0 : Nat) (List.length x19)) ++ ((IntKind.wrap .u8 (List.getD x8 (Int.toNat (IntKind.wrap .i64 ((IntKind.wrap .i64 (x1 + (1 : Int))) + x5))) (0 : Int))) :: ([] : List ((Sh.int IntKind.u8).T)))) x20)
     (none))
    (none))
   (none))
  (k0 x0 x2 x3 x6 x7 x8 x9 x10 x11 x12 x13 x14 x15 x16 x17 x18 x19 x20)
noncomputable def cast_Input_38f7_l2_T0 (N : Nat) (c0 : slices_Equal__uint16_uint16_b8c4_Ty) (c1 : slices_Equal__uint16_uint16_c28d_Ty) (c2 : cast_Env_727c_Ty) (c3 : cast_Env_ad7e_Ty) (c4 : class_Files_66e6_Ty) (c5 : cast_Size_9e58_Ty) (c6 : class_Caps_66e6_Ty) (c7 : cast_Vars_66e6_Ty) (c8 : class_May_66e6_Ty) {R : Type} (nx : (Int) → (Nat) → (Nat) → (Nat) → (Int) → (Int) → (List ((ByteArray) × ((Bool) × (Int)))) → (List (Int)) → (List (Int)) → (Int) → (Int) → (Int) → (List (List (Int))) → (List (List (Int))) → (List (Bool)) → (Nat) → (Nat) → (Nat) → (Nat) → (Nat) → (List (List (Int))) → (List (Bool)) → Option R) (k0 : (Int) → (List ((ByteArray) × ((Bool) × (Int)))) → (List (Int)) → (List (Int)) → (Int) → (Int) → (Int) → (List (List (Int))) → (List (List (Int))) → (List (Bool)) → (Nat) → (Nat) → (Nat) → (Nat) → (Nat) → (List (List (Int))) → (List (Bool)) → Option R) (x0 : Int) (x1 : Nat) (x2 : Nat) (x3 : Nat) (x4 : Int) (x5 : Int) (x6 : List ((ByteArray) × ((Bool) × (Int)))) (x7 : List (Int)) (x8 : List (Int)) (x9 : Int) (x10 : Int) (x11 : Int) (x12 : List (List (Int))) (x13 : List (List (Int))) (x14 : List (Bool)) (x15 : Nat) (x16 : Nat) (x17 : Nat) (x18 : Nat) (x19 : Nat) (x20 : List (List (Int))) (x21 : List (Bool)) : Option R :=
  br (decide (x5 < x4))
  (br (inB x5 x2)
   (br (decide ((Int.toNat (addLo x1 x5)) < (List.length x8)))
    (br (((fits (0 : Nat) (List.length x21) x21) && (decide ((((List.length x21) + (1 : Nat)) * (1 : Nat)) ≤ (70368744177664 : Nat)))) && true)
     (nx x0 x1 x2 x3 x4 (IntKind.wrap .i64 (x5 + (1 : Int))) x6 x7 x8 x9 x10 x11 x12 x13 x14 x15 x16 x17 x18 x19 x20 ((sub x21 (0 : Nat) (List.length x21)) ++ ((decide ((List.getD x8 (Int.toNat (addLo x1 x5)) (0 : Int)) = (1 : Int))) :: ([] : List (Sh.bool.T)))))
     (none))
    (none))
   (none))
  (k0 x0 x6 x7 x8 x9 x10 x11 x12 x13 x14 x15 x16 x17 x18 x19 x20 x21)
noncomputable def cast_Input_38f7_l2 (N : Nat) {R : Type} (k0 : (Int) → (List ((ByteArray) × ((Bool) × (Int)))) → (List (Int)) → (List (Int)) → (Int) → (Int) → (Int) → (List (List (Int))) → (List (List (Int))) → (List (Bool)) → (Nat) → (Nat) → (Nat) → (Nat) → (Nat) → (List (List (Int))) → (List (Bool)) → Option R) : Nat → (Int) → (Nat) → (Nat) → (Nat) → (Int) → (Int) → (List ((ByteArray) × ((Bool) × (Int)))) → (List (Int)) → (List (Int)) → (Int) → (Int) → (Int) → (List (List (Int))) → (List (List (Int))) → (List (Bool)) → (Nat) → (Nat) → (Nat) → (Nat) → (Nat) → (List (List (Int))) → (List (Bool)) → Option R
  | 0, _, _, _, _, _, _, _, _, _, _, _, _, _, _, _, _, _, _, _, _, _, _ => none
  | n + 1, x0, x1, x2, x3, x4, x5, x6, x7, x8, x9, x10, x11, x12, x13, x14, x15, x16, x17, x18, x19, x20, x21 => cast_Input_38f7_l2_T0 N (@slices_Equal__uint16_uint16_b8c4 N) (@slices_Equal__uint16_uint16_c28d N) (@cast_Env_727c N) (@cast_Env_ad7e N) (@class_Files_66e6 N) (@cast_Size_9e58 N) (@class_Caps_66e6 N) (@cast_Vars_66e6 N) (@class_May_66e6 N) (fun x0 x1 x2 x3 x4 x5 x6 x7 x8 x9 x10 x11 x12 x13 x14 x15 x16 x17 x18 x19 x20 x21 => cast_Input_38f7_l2 N k0 n x0 x1 x2 x3 x4 x5 x6 x7 x8 x9 x10 x11 x12 x13 x14 x15 x16 x17 x18 x19 x20 x21) k0 x0 x1 x2 x3 x4 x5 x6 x7 x8 x9 x10 x11 x12 x13 x14 x15 x16 x17 x18 x19 x20 x21
noncomputable def cast_Input_38f7_l1 (N : Nat) {R : Type} (k0 : (Int) → (Int) → (Int) → (List ((ByteArray) × ((Bool) × (Int)))) → (List (Int)) → (List (Int)) → (Int) → (Int) → (Int) → (List (List (Int))) → (List (List (Int))) → (List (Bool)) → (List (List (Int))) → (List (List (Int))) → (List (Bool)) → (List (List (Int))) → (List (Int)) → (List (Int)) → Option R) : Nat → (Int) → (Int) → (Int) → (Int) → (Int) → (Int) → (List ((ByteArray) × ((Bool) × (Int)))) → (List (Int)) → (List (Int)) → (Int) → (Int) → (Int) → (List (List (Int))) → (List (List (Int))) → (List (Bool)) → (List (List (Int))) → (List (List (Int))) → (List (Bool)) → (List (List (Int))) → (List (Int)) → (List (Int)) → Option R
  | 0, _, _, _, _, _, _, _, _, _, _, _, _, _, _, _, _, _, _, _, _, _ => none
  | n + 1, x0, x1, x2, x3, x4, x5, x6, x7, x8, x9, x10, x11, x12, x13, x14, x15, x16, x17, x18, x19, x20 => cast_Input_38f7_l1_T0 N (@slices_Equal__uint16_uint16_b8c4 N) (@slices_Equal__uint16_uint16_c28d N) (@cast_Env_727c N) (@cast_Env_ad7e N) (@class_Files_66e6 N) (@cast_Size_9e58 N) (@class_Caps_66e6 N) (@cast_Vars_66e6 N) (@class_May_66e6 N) (@cast_Input_38f7_l2 N) (fun x0 x1 x2 x3 x4 x5 x6 x7 x8 x9 x10 x11 x12 x13 x14 x15 x16 x17 x18 x19 x20 => cast_Input_38f7_l1 N k0 n x0 x1 x2 x3 x4 x5 x6 x7 x8 x9 x10 x11 x12 x13 x14 x15 x16 x17 x18 x19 x20) k0 x0 x1 x2 x3 x4 x5 x6 x7 x8 x9 x10 x11 x12 x13 x14 x15 x16 x17 x18 x19 x20
noncomputable def cast_Input_38f7_l0 (N : Nat) {R : Type} (k0 : (Int) → (List ((ByteArray) × ((Bool) × (Int)))) → (List (Int)) → (List (Int)) → (Int) → (Int) → (Int) → (List (List (Int))) → (List (List (Int))) → (List (Bool)) → (List (List (Int))) → (List (List (Int))) → (List (Bool)) → (List (List (Int))) → Option R) : Nat → (Int) → (Int) → (Int) → (List ((ByteArray) × ((Bool) × (Int)))) → (List (Int)) → (List (Int)) → (Int) → (Int) → (Int) → (List (List (Int))) → (List (List (Int))) → (List (Bool)) → (List (List (Int))) → (List (List (Int))) → (List (Bool)) → (List (List (Int))) → (List (Int)) → Option R
  | 0, _, _, _, _, _, _, _, _, _, _, _, _, _, _, _, _, _ => none
  | n + 1, x0, x1, x2, x3, x4, x5, x6, x7, x8, x9, x10, x11, x12, x13, x14, x15, x16 => cast_Input_38f7_l0_T0 N (@slices_Equal__uint16_uint16_b8c4 N) (@slices_Equal__uint16_uint16_c28d N) (@cast_Env_727c N) (@cast_Env_ad7e N) (@class_Files_66e6 N) (@cast_Size_9e58 N) (@class_Caps_66e6 N) (@cast_Vars_66e6 N) (@class_May_66e6 N) (@cast_Input_38f7_l1 N) (@cast_Input_38f7_l2 N) (fun x0 x1 x2 x3 x4 x5 x6 x7 x8 x9 x10 x11 x12 x13 x14 x15 x16 => cast_Input_38f7_l0 N k0 n x0 x1 x2 x3 x4 x5 x6 x7 x8 x9 x10 x11 x12 x13 x14 x15 x16) k0 x0 x1 x2 x3 x4 x5 x6 x7 x8 x9 x10 x11 x12 x13 x14 x15 x16
noncomputable def cast_Input_38f7_T (N : Nat) (c0 : slices_Equal__uint16_uint16_b8c4_Ty) (c1 : slices_Equal__uint16_uint16_c28d_Ty) (c2 : cast_Env_727c_Ty) (c3 : cast_Env_ad7e_Ty) (c4 : class_Files_66e6_Ty) (c5 : cast_Size_9e58_Ty) (c6 : class_Caps_66e6_Ty) (c7 : cast_Vars_66e6_Ty) (c8 : class_May_66e6_Ty) (w0 : cast_Input_38f7_l0_Ty) (w1 : cast_Input_38f7_l1_Ty) (w2 : cast_Input_38f7_l2_Ty) {R : Type} (x0 : Int) (x1 : Int) (x2 : Int) (x3 : List ((ByteArray) × ((Bool) × (Int)))) (x4 : List (Int)) (x5 : List (Int)) (k0 : (Int) → (List ((ByteArray) × ((Bool) × (Int)))) → (List (Int)) → (List (Int)) → (List (List (Int))) → (List (List (Int))) → (List (Bool)) → Option R) (k1 : (Nat) → (Nat) → (Nat) → (Nat) → (Int) → (List ((ByteArray) × ((Bool) × (Int)))) → (List (Int)) → (List (Int)) → (Nat) → (List (List (Int))) → (List (Bool)) → Option R) (k2 : (Nat) → (Nat) → (Nat) → (Nat) → (Int) → (List ((ByteArray) × ((Bool) × (Int)))) → (List (Int)) → (List (Int)) → (List (List (Int))) → (List (Bool)) → Option R) : Option R :=
  c8 x0 x1 x2 x3 x4
  (fun b359 l360 l361 => br (!b359)
   (k0 (11 : Int) l360 l361 x5 ([] : List ((Sh.int IntKind.u8).isl.T)) ([] : List ((Sh.int IntKind.u8).isl.T)) ([] : List (Sh.bool.T)))
   (c7 x0 x1 x2 l360 l361
    (fun i362 l363 l364 => br (decide ((Nat.cast (List.length x5) : Int) < i362))
     (k0 (12 : Int) l363 l364 x5 ([] : List ((Sh.int IntKind.u8).isl.T)) ([] : List ((Sh.int IntKind.u8).isl.T)) ([] : List (Sh.bool.T)))
     (c6 x0 x1 x2 l363 l364
      (fun l365 l366 l367 => w0
       (fun i389 l390 l391 l392 i393 i394 i395 l396 l397 l398 l399 l400 l401 l402 => c4 i393 i394 i395 l390 l391
        (fun l403 l404 l405 => br (leB (Nat.cast (List.length l405) : Int) (List.length l402))
         (br (leB (Nat.cast (List.length l405) : Int) (Int.toNat (Nat.cast (List.length l405) : Int)))
          (br (leB (Nat.cast (List.length l405) : Int) (List.length l402))
           (br (decide ((Nat.cast (List.length l405) : Int) = (Nat.cast (List.length l405) : Int)))
            (br (leB (Nat.cast (List.length l405) : Int) (List.length l402))
             (br ((decide ((Int.toNat (Nat.cast (List.length l405) : Int)) = (Int.toNat (Nat.cast (List.length l405) : Int)))) && (decide (((List.length l402) - (Int.toNat (Nat.cast (List.length l405) : Int))) = ((List.length l402) - (Int.toNat (Nat.cast (List.length l405) : Int))))))
              (br (leB i389 (List.length l392))
               (br (leB (IntKind.wrap .i64 (i389 - i393)) (Int.toNat i389))
                (w2
                 (fun i406 l407 l408 l409 i410 i411 i412 l413 l414 l415 n416 n417 n418 n419 n420 l421 l422 => c3 i410 i411 i412 n416 n417 n418 n419 l407 l408 n420 l421 l422
                  (fun i560 l561 l562 n563 l564 l565 l566 => br (!(!(decide (i560 = (0 : Int)))))
                   (br (leB i406 (List.length l409))
                    (c0 ((Int.toNat i406) - (0 : Nat)) ((List.length l409) - (0 : Nat)) l566 (List.length l409) l409
                     (fun b574 l575 n576 l577 => br (!b574)
                      (k0 (12 : Int) l561 l562 l577 ([] : List ((Sh.int IntKind.u8).isl.T)) ([] : List ((Sh.int IntKind.u8).isl.T)) ([] : List (Sh.bool.T)))
                      (k1 n416 n417 n418 n419 (0 : Int) l561 l562 l577 n563 l564 l565)))
                    (none))
                   (k0 (12 : Int) l561 l562 l409 ([] : List ((Sh.int IntKind.u8).isl.T)) ([] : List ((Sh.int IntKind.u8).isl.T)) ([] : List (Sh.bool.T))))
                  (fun i578 l579 l580 l581 l582 l583 => br (!(!(decide (i578 = (0 : Int)))))
                   (br (leB i406 (List.length l409))
                    (c0 ((Int.toNat i406) - (0 : Nat)) ((List.length l409) - (0 : Nat)) l583 (List.length l409) l409
                     (fun b584 l585 n586 l587 => br (!b584)
                      (k0 (12 : Int) l579 l580 l587 ([] : List ((Sh.int IntKind.u8).isl.T)) ([] : List ((Sh.int IntKind.u8).isl.T)) ([] : List (Sh.bool.T)))
                      (k2 n416 n417 n418 n419 (0 : Int) l579 l580 l587 l581 l582)))
                    (none))
                   (k0 (12 : Int) l579 l580 l409 ([] : List ((Sh.int IntKind.u8).isl.T)) ([] : List ((Sh.int IntKind.u8).isl.T)) ([] : List (Sh.bool.T)))))
                 N i389 (Int.toNat (IntKind.wrap .i64 (i389 - i393))) ((Int.toNat i389) - (Int.toNat (IntKind.wrap .i64 (i389 - i393)))) ((List.length l392) - (Int.toNat (IntKind.wrap .i64 (i389 - i393)))) (Nat.cast ((Int.toNat i389) - (Int.toNat (IntKind.wrap .i64 (i389 - i393)))) : Int) (0 : Int) l403 l404 l392 i393 i394 i395 l396 l397 l398 ((Int.toNat (Nat.cast (List.length l405) : Int)) - (0 : Nat)) ((Int.toNat (Nat.cast (List.length l405) : Int)) - (0 : Nat)) (Int.toNat (Nat.cast (List.length l405) : Int)) ((List.length l402) - (Int.toNat (Nat.cast (List.length l405) : Int))) (List.length l402) l402 l401)
                (none))
               (none))
              (none))
             (none))
            (none))
           (none))
          (none))
         (none)))
       N i362 (Nat.cast (List.length l367) : Int) (0 : Int) l365 l366 x5 x0 x1 x2 ([] : List ((Sh.int IntKind.u8).isl.T)) ([] : List ((Sh.int IntKind.u8).isl.T)) ([] : List (Sh.bool.T)) ([] : List ((Sh.int IntKind.u8).isl.T)) ([] : List ((Sh.int IntKind.u8).isl.T)) ([] : List (Sh.bool.T)) ([] : List ((Sh.int IntKind.u8).isl.T)) l367)))))
noncomputable def cast_Input_38f7 (N : Nat) {R : Type} (x0 : Int) (x1 : Int) (x2 : Int) (x3 : List ((ByteArray) × ((Bool) × (Int)))) (x4 : List (Int)) (x5 : List (Int)) (k0 : (Int) → (List ((ByteArray) × ((Bool) × (Int)))) → (List (Int)) → (List (Int)) → (List (List (Int))) → (List (List (Int))) → (List (Bool)) → Option R) (k1 : (Nat) → (Nat) → (Nat) → (Nat) → (Int) → (List ((ByteArray) × ((Bool) × (Int)))) → (List (Int)) → (List (Int)) → (Nat) → (List (List (Int))) → (List (Bool)) → Option R) (k2 : (Nat) → (Nat) → (Nat) → (Nat) → (Int) → (List ((ByteArray) × ((Bool) × (Int)))) → (List (Int)) → (List (Int)) → (List (List (Int))) → (List (Bool)) → Option R) : Option R := cast_Input_38f7_T N (@slices_Equal__uint16_uint16_b8c4 N) (@slices_Equal__uint16_uint16_c28d N) (@cast_Env_727c N) (@cast_Env_ad7e N) (@class_Files_66e6 N) (@cast_Size_9e58 N) (@class_Caps_66e6 N) (@cast_Vars_66e6 N) (@class_May_66e6 N) (@cast_Input_38f7_l0 N) (@cast_Input_38f7_l1 N) (@cast_Input_38f7_l2 N) x0 x1 x2 x3 x4 x5 k0 k1 k2
abbrev cast_Input_2692_l0_Ty : Type 1 := {R : Type} → ((List (Int)) → (Int) → (List ((ByteArray) × ((Bool) × (Int)))) → (List (Int)) → (Int) → (Int) → (Int) → (List (List (Int))) → (List (List (Int))) → (List (Bool)) → (List (List (Int))) → (List (List (Int))) → (List (Bool)) → (List (List (Int))) → Option R) → Nat → (List (Int)) → (Int) → (Int) → (Int) → (List ((ByteArray) × ((Bool) × (Int)))) → (List (Int)) → (Int) → (Int) → (Int) → (List (List (Int))) → (List (List (Int))) → (List (Bool)) → (List (List (Int))) → (List (List (Int))) → (List (Bool)) → (List (List (Int))) → (List (Int)) → Option R
abbrev cast_Input_2692_l1_Ty : Type 1 := {R : Type} → ((List (Int)) → (Int) → (Int) → (Int) → (List ((ByteArray) × ((Bool) × (Int)))) → (List (Int)) → (Int) → (Int) → (Int) → (List (List (Int))) → (List (List (Int))) → (List (Bool)) → (List (List (Int))) → (List (List (Int))) → (List (Bool)) → (List (List (Int))) → (List (Int)) → (List (Int)) → Option R) → Nat → (List (Int)) → (Int) → (Int) → (Int) → (Int) → (Int) → (Int) → (List ((ByteArray) × ((Bool) × (Int)))) → (List (Int)) → (Int) → (Int) → (Int) → (List (List (Int))) → (List (List (Int))) → (List (Bool)) → (List (List (Int))) → (List (List (Int))) → (List (Bool)) → (List (List (Int))) → (List (Int)) → (List (Int)) → Option R
abbrev cast_Input_2692_l2_Ty : Type 1 := {R : Type} → ((List (Int)) → (Int) → (List ((ByteArray) × ((Bool) × (Int)))) → (List (Int)) → (Int) → (Int) → (Int) → (List (List (Int))) → (List (List (Int))) → (List (Bool)) → (Nat) → (Nat) → (Nat) → (Nat) → (Nat) → (List (List (Int))) → (List (Bool)) → Option R) → Nat → (List (Int)) → (Int) → (List (Int)) → (Int) → (Int) → (List ((ByteArray) × ((Bool) × (Int)))) → (List (Int)) → (Int) → (Int) → (Int) → (List (List (Int))) → (List (List (Int))) → (List (Bool)) → (Nat) → (Nat) → (Nat) → (Nat) → (Nat) → (List (List (Int))) → (List (Bool)) → Option R
abbrev cast_Input_2692_Ty : Type 1 := {R : Type} → (Int) → (Int) → (Int) → (List (Int)) → (List ((ByteArray) × ((Bool) × (Int)))) → (List (Int)) → ((Int) → (List ((ByteArray) × ((Bool) × (Int)))) → (List (Int)) → (List (List (Int))) → (List (List (Int))) → (List (Bool)) → Option R) → ((Nat) → (Nat) → (Nat) → (Nat) → (Int) → (List ((ByteArray) × ((Bool) × (Int)))) → (List (Int)) → (Nat) → (List (List (Int))) → (List (Bool)) → Option R) → ((Nat) → (Nat) → (Nat) → (Nat) → (Int) → (List ((ByteArray) × ((Bool) × (Int)))) → (List (Int)) → (List (List (Int))) → (List (Bool)) → Option R) → Option R
noncomputable def cast_Input_2692_l0_T0 (N : Nat) (c0 : slices_Equal__uint16_uint16_b8c4_Ty) (c1 : slices_Equal__uint16_uint16_c28d_Ty) (c2 : cast_Env_727c_Ty) (c3 : cast_Env_ad7e_Ty) (c4 : class_Files_66e6_Ty) (c5 : cast_Size_9e58_Ty) (c6 : class_Caps_66e6_Ty) (c7 : cast_Vars_66e6_Ty) (c8 : class_May_66e6_Ty) (w1 : cast_Input_2692_l1_Ty) (w2 : cast_Input_2692_l2_Ty) {R : Type} (nx : (List (Int)) → (Int) → (Int) → (Int) → (List ((ByteArray) × ((Bool) × (Int)))) → (List (Int)) → (Int) → (Int) → (Int) → (List (List (Int))) → (List (List (Int))) → (List (Bool)) → (List (List (Int))) → (List (List (Int))) → (List (Bool)) → (List (List (Int))) → (List (Int)) → Option R) (k0 : (List (Int)) → (Int) → (List ((ByteArray) × ((Bool) × (Int)))) → (List (Int)) → (Int) → (Int) → (Int) → (List (List (Int))) → (List (List (Int))) → (List (Bool)) → (List (List (Int))) → (List (List (Int))) → (List (Bool)) → (List (List (Int))) → Option R) (x0 : List (Int)) (x1 : Int) (x2 : Int) (x3 : Int) (x4 : List ((ByteArray) × ((Bool) × (Int)))) (x5 : List (Int)) (x6 : Int) (x7 : Int) (x8 : Int) (x9 : List (List (Int))) (x10 : List (List (Int))) (x11 : List (Bool)) (x12 : List (List (Int))) (x13 : List (List (Int))) (x14 : List (Bool)) (x15 : List (List (Int))) (x16 : List (Int)) : Option R :=
  br (decide (x3 < x2))
  (br (inB x3 (List.length x16))
   (br (decide ((Int.toNat x3) < (List.length x16)))
    (c5 x6 x7 x8 x3 x4 x5
     (fun i633 l634 l635 => br (inB i633 (List.length x0))
      (w1
       (fun l636 i637 i638 i639 l640 l641 i642 i643 i644 l645 l646 l647 l648 l649 l650 l651 l652 l653 => br (fits (0 : Nat) (List.length l652) l652)
        (br (fits (0 : Nat) (List.length l652) l652)
         (br (((fits (0 : Nat) (List.length l651) l651) && (decide ((((List.length l651) + (1 : Nat)) * (24 : Nat)) ≤ (70368744177664 : Nat)))) && true)
          (nx l636 i637 i638 (IntKind.wrap .i64 (i639 + (1 : Int))) l640 l641 i642 i643 i644 l645 l646 l647 l648 l649 l650 ((sub l651 (0 : Nat) (List.length l651)) ++ ((sub l652 (0 : Nat) (List.length l652)) :: ([] : List ((Sh.int IntKind.u8).isl.T)))) l653)
          (none))
         (none))
        (none))
       N x0 x1 i633 x2 x3 (if ((List.getD x16 (Int.toNat x3) (0 : Int)) < (IntKind.wrap .i64 (List.getD x0 (Int.toNat i633) (0 : Int)))) then (List.getD x16 (Int.toNat x3) (0 : Int)) else (IntKind.wrap .i64 (List.getD x0 (Int.toNat i633) (0 : Int)))) (0 : Int) l634 l635 x6 x7 x8 x9 x10 x11 x12 x13 x14 x15 ([] : List ((Sh.int IntKind.u8).T)) x16)
      (none)))
    (none))
   (none))
  (k0 x0 x1 x4 x5 x6 x7 x8 x9 x10 x11 x12 x13 x14 x15)
noncomputable def cast_Input_2692_l1_T0 (N : Nat) (c0 : slices_Equal__uint16_uint16_b8c4_Ty) (c1 : slices_Equal__uint16_uint16_c28d_Ty) (c2 : cast_Env_727c_Ty) (c3 : cast_Env_ad7e_Ty) (c4 : class_Files_66e6_Ty) (c5 : cast_Size_9e58_Ty) (c6 : class_Caps_66e6_Ty) (c7 : cast_Vars_66e6_Ty) (c8 : class_May_66e6_Ty) (w2 : cast_Input_2692_l2_Ty) {R : Type} (nx : (List (Int)) → (Int) → (Int) → (Int) → (Int) → (Int) → (Int) → (List ((ByteArray) × ((Bool) × (Int)))) → (List (Int)) → (Int) → (Int) → (Int) → (List (List (Int))) → (List (List (Int))) → (List (Bool)) → (List (List (Int))) → (List (List (Int))) → (List (Bool)) → (List (List (Int))) → (List (Int)) → (List (Int)) → Option R) (k0 : (List (Int)) → (Int) → (Int) → (Int) → (List ((ByteArray) × ((Bool) × (Int)))) → (List (Int)) → (Int) → (Int) → (Int) → (List (List (Int))) → (List (List (Int))) → (List (Bool)) → (List (List (Int))) → (List (List (Int))) → (List (Bool)) → (List (List (Int))) → (List (Int)) → (List (Int)) → Option R) (x0 : List (Int)) (x1 : Int) (x2 : Int) (x3 : Int) (x4 : Int) (x5 : Int) (x6 : Int) (x7 : List ((ByteArray) × ((Bool) × (Int)))) (x8 : List (Int)) (x9 : Int) (x10 : Int) (x11 : Int) (x12 : List (List (Int))) (x13 : List (List (Int))) (x14 : List (Bool)) (x15 : List (List (Int))) (x16 : List (List (Int))) (x17 : List (Bool)) (x18 : List (List (Int))) (x19 : List (Int)) (x20 : List (Int)) : Option R :=
  br (decide (x6 < x5))
  (br (inB (IntKind.wrap .i64 ((IntKind.wrap .i64 (x2 + (1 : Int))) + x6)) (List.length x0))
   (br (((fits (0 : Nat) (List.length x19) x19) && (decide ((((List.length x19) + (1 : Nat)) * (1 : Nat)) ≤ (70368744177664 : Nat)))) && true)
    (nx x0 x1 x2 x3 x4 x5 (IntKind.wrap .i64 (x6 + (1 : Int))) x7 x8 x9 x10 x11 x12 x13 x14 x15 x16 x17 x18 ((sub x19 (0 : Nat) (List.length x19)) ++ ((IntKind.wrap .u8 (List.getD x0 (Int.toNat (IntKind.wrap .i64 ((IntKind.wrap .i64 (x2 + (1 : Int))) + x6))) (0 : Int))) :: ([] : List ((Sh.int IntKind.u8).T)))) x20)
    (none))
   (none))
  (k0 x0 x1 x3 x4 x7 x8 x9 x10 x11 x12 x13 x14 x15 x16 x17 x18 x19 x20)
noncomputable def cast_Input_2692_l2_T0 (N : Nat) (c0 : slices_Equal__uint16_uint16_b8c4_Ty) (c1 : slices_Equal__uint16_uint16_c28d_Ty) (c2 : cast_Env_727c_Ty) (c3 : cast_Env_ad7e_Ty) (c4 : class_Files_66e6_Ty) (c5 : cast_Size_9e58_Ty) (c6 : class_Caps_66e6_Ty) (c7 : cast_Vars_66e6_Ty) (c8 : class_May_66e6_Ty) {R : Type} (nx : (List (Int)) → (Int) → (List (Int)) → (Int) → (Int) → (List ((ByteArray) × ((Bool) × (Int)))) → (List (Int)) → (Int) → (Int) → (Int) → (List (List (Int))) → (List (List (Int))) → (List (Bool)) → (Nat) → (Nat) → (Nat) → (Nat) → (Nat) → (List (List (Int))) → (List (Bool)) → Option R) (k0 : (List (Int)) → (Int) → (List ((ByteArray) × ((Bool) × (Int)))) → (List (Int)) → (Int) → (Int) → (Int) → (List (List (Int))) → (List (List (Int))) → (List (Bool)) → (Nat) → (Nat) → (Nat) → (Nat) → (Nat) → (List (List (Int))) → (List (Bool)) → Option R) (x0 : List (Int)) (x1 : Int) (x2 : List (Int)) (x3 : Int) (x4 : Int) (x5 : List ((ByteArray) × ((Bool) × (Int)))) (x6 : List (Int)) (x7 : Int) (x8 : Int) (x9 : Int) (x10 : List (List (Int))) (x11 : List (List (Int))) (x12 : List (Bool)) (x13 : Nat) (x14 : Nat) (x15 : Nat) (x16 : Nat) (x17 : Nat) (x18 : List (List (Int))) (x19 : List (Bool)) : Option R :=
  br (decide (x4 < x3))
  (br (inB x4 (List.length x2))
   (br (((fits (0 : Nat) (List.length x19) x19) && (decide ((((List.length x19) + (1 : Nat)) * (1 : Nat)) ≤ (70368744177664 : Nat)))) && true)
    (nx x0 x1 x2 x3 (IntKind.wrap .i64 (x4 + (1 : Int))) x5 x6 x7 x8 x9 x10 x11 x12 x13 x14 x15 x16 x17 x18 ((sub x19 (0 : Nat) (List.length x19)) ++ ((decide ((List.getD x2 (Int.toNat x4) (0 : Int)) = (1 : Int))) :: ([] : List (Sh.bool.T)))))
    (none))
   (none))
  (k0 x0 x1 x5 x6 x7 x8 x9 x10 x11 x12 x13 x14 x15 x16 x17 x18 x19)
noncomputable def cast_Input_2692_l2 (N : Nat) {R : Type} (k0 : (List (Int)) → (Int) → (List ((ByteArray) × ((Bool) × (Int)))) → (List (Int)) → (Int) → (Int) → (Int) → (List (List (Int))) → (List (List (Int))) → (List (Bool)) → (Nat) → (Nat) → (Nat) → (Nat) → (Nat) → (List (List (Int))) → (List (Bool)) → Option R) : Nat → (List (Int)) → (Int) → (List (Int)) → (Int) → (Int) → (List ((ByteArray) × ((Bool) × (Int)))) → (List (Int)) → (Int) → (Int) → (Int) → (List (List (Int))) → (List (List (Int))) → (List (Bool)) → (Nat) → (Nat) → (Nat) → (Nat) → (Nat) → (List (List (Int))) → (List (Bool)) → Option R
  | 0, _, _, _, _, _, _, _, _, _, _, _, _, _, _, _, _, _, _, _, _ => none
  | n + 1, x0, x1, x2, x3, x4, x5, x6, x7, x8, x9, x10, x11, x12, x13, x14, x15, x16, x17, x18, x19 => cast_Input_2692_l2_T0 N (@slices_Equal__uint16_uint16_b8c4 N) (@slices_Equal__uint16_uint16_c28d N) (@cast_Env_727c N) (@cast_Env_ad7e N) (@class_Files_66e6 N) (@cast_Size_9e58 N) (@class_Caps_66e6 N) (@cast_Vars_66e6 N) (@class_May_66e6 N) (fun x0 x1 x2 x3 x4 x5 x6 x7 x8 x9 x10 x11 x12 x13 x14 x15 x16 x17 x18 x19 => cast_Input_2692_l2 N k0 n x0 x1 x2 x3 x4 x5 x6 x7 x8 x9 x10 x11 x12 x13 x14 x15 x16 x17 x18 x19) k0 x0 x1 x2 x3 x4 x5 x6 x7 x8 x9 x10 x11 x12 x13 x14 x15 x16 x17 x18 x19
noncomputable def cast_Input_2692_l1 (N : Nat) {R : Type} (k0 : (List (Int)) → (Int) → (Int) → (Int) → (List ((ByteArray) × ((Bool) × (Int)))) → (List (Int)) → (Int) → (Int) → (Int) → (List (List (Int))) → (List (List (Int))) → (List (Bool)) → (List (List (Int))) → (List (List (Int))) → (List (Bool)) → (List (List (Int))) → (List (Int)) → (List (Int)) → Option R) : Nat → (List (Int)) → (Int) → (Int) → (Int) → (Int) → (Int) → (Int) → (List ((ByteArray) × ((Bool) × (Int)))) → (List (Int)) → (Int) → (Int) → (Int) → (List (List (Int))) → (List (List (Int))) → (List (Bool)) → (List (List (Int))) → (List (List (Int))) → (List (Bool)) → (List (List (Int))) → (List (Int)) → (List (Int)) → Option R
  | 0, _, _, _, _, _, _, _, _, _, _, _, _, _, _, _, _, _, _, _, _, _ => none
  | n + 1, x0, x1, x2, x3, x4, x5, x6, x7, x8, x9, x10, x11, x12, x13, x14, x15, x16, x17, x18, x19, x20 => cast_Input_2692_l1_T0 N (@slices_Equal__uint16_uint16_b8c4 N) (@slices_Equal__uint16_uint16_c28d N) (@cast_Env_727c N) (@cast_Env_ad7e N) (@class_Files_66e6 N) (@cast_Size_9e58 N) (@class_Caps_66e6 N) (@cast_Vars_66e6 N) (@class_May_66e6 N) (@cast_Input_2692_l2 N) (fun x0 x1 x2 x3 x4 x5 x6 x7 x8 x9 x10 x11 x12 x13 x14 x15 x16 x17 x18 x19 x20 => cast_Input_2692_l1 N k0 n x0 x1 x2 x3 x4 x5 x6 x7 x8 x9 x10 x11 x12 x13 x14 x15 x16 x17 x18 x19 x20) k0 x0 x1 x2 x3 x4 x5 x6 x7 x8 x9 x10 x11 x12 x13 x14 x15 x16 x17 x18 x19 x20
noncomputable def cast_Input_2692_l0 (N : Nat) {R : Type} (k0 : (List (Int)) → (Int) → (List ((ByteArray) × ((Bool) × (Int)))) → (List (Int)) → (Int) → (Int) → (Int) → (List (List (Int))) → (List (List (Int))) → (List (Bool)) → (List (List (Int))) → (List (List (Int))) → (List (Bool)) → (List (List (Int))) → Option R) : Nat → (List (Int)) → (Int) → (Int) → (Int) → (List ((ByteArray) × ((Bool) × (Int)))) → (List (Int)) → (Int) → (Int) → (Int) → (List (List (Int))) → (List (List (Int))) → (List (Bool)) → (List (List (Int))) → (List (List (Int))) → (List (Bool)) → (List (List (Int))) → (List (Int)) → Option R
  | 0, _, _, _, _, _, _, _, _, _, _, _, _, _, _, _, _, _ => none
  | n + 1, x0, x1, x2, x3, x4, x5, x6, x7, x8, x9, x10, x11, x12, x13, x14, x15, x16 => cast_Input_2692_l0_T0 N (@slices_Equal__uint16_uint16_b8c4 N) (@slices_Equal__uint16_uint16_c28d N) (@cast_Env_727c N) (@cast_Env_ad7e N) (@class_Files_66e6 N) (@cast_Size_9e58 N) (@class_Caps_66e6 N) (@cast_Vars_66e6 N) (@class_May_66e6 N) (@cast_Input_2692_l1 N) (@cast_Input_2692_l2 N) (fun x0 x1 x2 x3 x4 x5 x6 x7 x8 x9 x10 x11 x12 x13 x14 x15 x16 => cast_Input_2692_l0 N k0 n x0 x1 x2 x3 x4 x5 x6 x7 x8 x9 x10 x11 x12 x13 x14 x15 x16) k0 x0 x1 x2 x3 x4 x5 x6 x7 x8 x9 x10 x11 x12 x13 x14 x15 x16
noncomputable def cast_Input_2692_T (N : Nat) (c0 : slices_Equal__uint16_uint16_b8c4_Ty) (c1 : slices_Equal__uint16_uint16_c28d_Ty) (c2 : cast_Env_727c_Ty) (c3 : cast_Env_ad7e_Ty) (c4 : class_Files_66e6_Ty) (c5 : cast_Size_9e58_Ty) (c6 : class_Caps_66e6_Ty) (c7 : cast_Vars_66e6_Ty) (c8 : class_May_66e6_Ty) (w0 : cast_Input_2692_l0_Ty) (w1 : cast_Input_2692_l1_Ty) (w2 : cast_Input_2692_l2_Ty) {R : Type} (x0 : Int) (x1 : Int) (x2 : Int) (x3 : List (Int)) (x4 : List ((ByteArray) × ((Bool) × (Int)))) (x5 : List (Int)) (k0 : (Int) → (List ((ByteArray) × ((Bool) × (Int)))) → (List (Int)) → (List (List (Int))) → (List (List (Int))) → (List (Bool)) → Option R) (k1 : (Nat) → (Nat) → (Nat) → (Nat) → (Int) → (List ((ByteArray) × ((Bool) × (Int)))) → (List (Int)) → (Nat) → (List (List (Int))) → (List (Bool)) → Option R) (k2 : (Nat) → (Nat) → (Nat) → (Nat) → (Int) → (List ((ByteArray) × ((Bool) × (Int)))) → (List (Int)) → (List (List (Int))) → (List (Bool)) → Option R) : Option R :=
  c8 x0 x1 x2 x4 x5
  (fun b624 l625 l626 => br (!b624)
   (k0 (11 : Int) l625 l626 ([] : List ((Sh.int IntKind.u8).isl.T)) ([] : List ((Sh.int IntKind.u8).isl.T)) ([] : List (Sh.bool.T)))
   (c7 x0 x1 x2 l625 l626
    (fun i627 l628 l629 => br (decide ((Nat.cast (List.length x3) : Int) < i627))
     (k0 (12 : Int) l628 l629 ([] : List ((Sh.int IntKind.u8).isl.T)) ([] : List ((Sh.int IntKind.u8).isl.T)) ([] : List (Sh.bool.T)))
     (c6 x0 x1 x2 l628 l629
      (fun l630 l631 l632 => w0
       (fun l654 i655 l656 l657 i658 i659 i660 l661 l662 l663 l664 l665 l666 l667 => c4 i658 i659 i660 l656 l657
        (fun l668 l669 l670 => br (leB (Nat.cast (List.length l670) : Int) (List.length l667))
         (br (leB (Nat.cast (List.length l670) : Int) (Int.toNat (Nat.cast (List.length l670) : Int)))
          (br (leB (Nat.cast (List.length l670) : Int) (List.length l667))
           (br (decide ((Nat.cast (List.length l670) : Int) = (Nat.cast (List.length l670) : Int)))
            (br (leB (Nat.cast (List.length l670) : Int) (List.length l667))
             (br ((decide ((Int.toNat (Nat.cast (List.length l670) : Int)) = (Int.toNat (Nat.cast (List.length l670) : Int)))) && (decide (((List.length l667) - (Int.toNat (Nat.cast (List.length l670) : Int))) = ((List.length l667) - (Int.toNat (Nat.cast (List.length l670) : Int))))))
              (br (leB i655 (List.length l654))
               (br (leB (IntKind.wrap .i64 (i655 - i658)) (Int.toNat i655))
                (w2
                 (fun l671 i672 l673 l674 i675 i676 i677 l678 l679 l680 n681 n682 n683 n684 n685 l686 l687 => c3 i675 i676 i677 n681 n682 n683 n684 l673 l674 n685 l686 l687
                  (fun i688 l689 l690 n691 l692 l693 l694 => br (!(!(decide (i688 = (0 : Int)))))
                   (br (leB i672 (List.length l671))
                    (c1 (sub l671 (0 : Nat) ((Int.toNat i672) - (0 : Nat))) l694
                     (fun b698 l699 => br (!b698)
                      (k0 (12 : Int) l689 l690 ([] : List ((Sh.int IntKind.u8).isl.T)) ([] : List ((Sh.int IntKind.u8).isl.T)) ([] : List (Sh.bool.T)))
                      (k1 n681 n682 n683 n684 (0 : Int) l689 l690 n691 l692 l693)))
                    (none))
                   (k0 (12 : Int) l689 l690 ([] : List ((Sh.int IntKind.u8).isl.T)) ([] : List ((Sh.int IntKind.u8).isl.T)) ([] : List (Sh.bool.T))))
                  (fun i700 l701 l702 l703 l704 l705 => br (!(!(decide (i700 = (0 : Int)))))
                   (br (leB i672 (List.length l671))
                    (c1 (sub l671 (0 : Nat) ((Int.toNat i672) - (0 : Nat))) l705
                     (fun b706 l707 => br (!b706)
                      (k0 (12 : Int) l701 l702 ([] : List ((Sh.int IntKind.u8).isl.T)) ([] : List ((Sh.int IntKind.u8).isl.T)) ([] : List (Sh.bool.T)))
                      (k2 n681 n682 n683 n684 (0 : Int) l701 l702 l703 l704)))
                    (none))
                   (k0 (12 : Int) l701 l702 ([] : List ((Sh.int IntKind.u8).isl.T)) ([] : List ((Sh.int IntKind.u8).isl.T)) ([] : List (Sh.bool.T)))))
                 N l654 i655 (sub l654 (Int.toNat (IntKind.wrap .i64 (i655 - i658))) ((Int.toNat i655) - (Int.toNat (IntKind.wrap .i64 (i655 - i658))))) (Nat.cast (List.length (sub l654 (Int.toNat (IntKind.wrap .i64 (i655 - i658))) ((Int.toNat i655) - (Int.toNat (IntKind.wrap .i64 (i655 - i658)))))) : Int) (0 : Int) l668 l669 i658 i659 i660 l661 l662 l663 ((Int.toNat (Nat.cast (List.length l670) : Int)) - (0 : Nat)) ((Int.toNat (Nat.cast (List.length l670) : Int)) - (0 : Nat)) (Int.toNat (Nat.cast (List.length l670) : Int)) ((List.length l667) - (Int.toNat (Nat.cast (List.length l670) : Int))) (List.length l667) l667 l666)
                (none))
               (none))
              (none))
             (none))
            (none))
           (none))
          (none))
         (none)))
       N x3 i627 (Nat.cast (List.length l632) : Int) (0 : Int) l630 l631 x0 x1 x2 ([] : List ((Sh.int IntKind.u8).isl.T)) ([] : List ((Sh.int IntKind.u8).isl.T)) ([] : List (Sh.bool.T)) ([] : List ((Sh.int IntKind.u8).isl.T)) ([] : List ((Sh.int IntKind.u8).isl.T)) ([] : List (Sh.bool.T)) ([] : List ((Sh.int IntKind.u8).isl.T)) l632)))))
noncomputable def cast_Input_2692 (N : Nat) {R : Type} (x0 : Int) (x1 : Int) (x2 : Int) (x3 : List (Int)) (x4 : List ((ByteArray) × ((Bool) × (Int)))) (x5 : List (Int)) (k0 : (Int) → (List ((ByteArray) × ((Bool) × (Int)))) → (List (Int)) → (List (List (Int))) → (List (List (Int))) → (List (Bool)) → Option R) (k1 : (Nat) → (Nat) → (Nat) → (Nat) → (Int) → (List ((ByteArray) × ((Bool) × (Int)))) → (List (Int)) → (Nat) → (List (List (Int))) → (List (Bool)) → Option R) (k2 : (Nat) → (Nat) → (Nat) → (Nat) → (Int) → (List ((ByteArray) × ((Bool) × (Int)))) → (List (Int)) → (List (List (Int))) → (List (Bool)) → Option R) : Option R := cast_Input_2692_T N (@slices_Equal__uint16_uint16_b8c4 N) (@slices_Equal__uint16_uint16_c28d N) (@cast_Env_727c N) (@cast_Env_ad7e N) (@class_Files_66e6 N) (@cast_Size_9e58 N) (@class_Caps_66e6 N) (@cast_Vars_66e6 N) (@class_May_66e6 N) (@cast_Input_2692_l0 N) (@cast_Input_2692_l1 N) (@cast_Input_2692_l2 N) x0 x1 x2 x3 x4 x5 k0 k1 k2
abbrev cast_Input_0202_l0_Ty : Type 1 := {R : Type} → ((Int) → (List (Int)) → (Int) → (Int) → (Int) → (List ((ByteArray) × ((Bool) × (Int)))) → (List (Int)) → (List (List (Int))) → (List (List (Int))) → (List (Bool)) → (List (List (Int))) → (List (List (Int))) → (List (Bool)) → (List (List (Int))) → Option R) → Nat → (Int) → (Int) → (Int) → (List (Int)) → (Int) → (Int) → (Int) → (List ((ByteArray) × ((Bool) × (Int)))) → (List (Int)) → (List (List (Int))) → (List (List (Int))) → (List (Bool)) → (List (List (Int))) → (List (List (Int))) → (List (Bool)) → (List (List (Int))) → (List (Int)) → Option R
abbrev cast_Input_0202_l1_Ty : Type 1 := {R : Type} → ((Int) → (Int) → (Int) → (List (Int)) → (Int) → (Int) → (Int) → (List ((ByteArray) × ((Bool) × (Int)))) → (List (Int)) → (List (List (Int))) → (List (List (Int))) → (List (Bool)) → (List (List (Int))) → (List (List (Int))) → (List (Bool)) → (List (List (Int))) → (List (Int)) → (List (Int)) → Option R) → Nat → (Int) → (Int) → (Int) → (Int) → (Int) → (Int) → (List (Int)) → (Int) → (Int) → (Int) → (List ((ByteArray) × ((Bool) × (Int)))) → (List (Int)) → (List (List (Int))) → (List (List (Int))) → (List (Bool)) → (List (List (Int))) → (List (List (Int))) → (List (Bool)) → (List (List (Int))) → (List (Int)) → (List (Int)) → Option R
abbrev cast_Input_0202_l2_Ty : Type 1 := {R : Type} → ((Int) → (List (Int)) → (Int) → (Int) → (Int) → (List ((ByteArray) × ((Bool) × (Int)))) → (List (Int)) → (List (List (Int))) → (List (List (Int))) → (List (Bool)) → (Nat) → (Nat) → (Nat) → (Nat) → (Nat) → (List (List (Int))) → (List (Bool)) → Option R) → Nat → (Int) → (Nat) → (Nat) → (Nat) → (Int) → (Int) → (List (Int)) → (Int) → (Int) → (Int) → (List ((ByteArray) × ((Bool) × (Int)))) → (List (Int)) → (List (List (Int))) → (List (List (Int))) → (List (Bool)) → (Nat) → (Nat) → (Nat) → (Nat) → (Nat) → (List (List (Int))) → (List (Bool)) → Option R
abbrev cast_Input_0202_Ty : Type 1 := {R : Type} → (Int) → (Int) → (Int) → (List (Int)) → ((Int) → (List (Int)) → (List (List (Int))) → (List (List (Int))) → (List (Bool)) → Option R) → ((Nat) → (Nat) → (Nat) → (Nat) → (Int) → (List (Int)) → (Nat) → (List (List (Int))) → (List (Bool)) → Option R) → ((Nat) → (Nat) → (Nat) → (Nat) → (Int) → (List (Int)) → (List (List (Int))) → (List (Bool)) → Option R) → Option R
noncomputable def cast_Input_0202_l0_T0 (N : Nat) (c0 : slices_Equal__uint16_uint16_b8c4_Ty) (c1 : slices_Equal__uint16_uint16_c28d_Ty) (c2 : cast_Env_727c_Ty) (c3 : cast_Env_ad7e_Ty) (c4 : class_Files_66e6_Ty) (c5 : cast_Size_9e58_Ty) (c6 : class_Caps_66e6_Ty) (c7 : cast_Vars_66e6_Ty) (c8 : class_May_66e6_Ty) (w1 : cast_Input_0202_l1_Ty) (w2 : cast_Input_0202_l2_Ty) {R : Type} (nx : (Int) → (Int) → (Int) → (List (Int)) → (Int) → (Int) → (Int) → (List ((ByteArray) × ((Bool) × (Int)))) → (List (Int)) → (List (List (Int))) → (List (List (Int))) → (List (Bool)) → (List (List (Int))) → (List (List (Int))) → (List (Bool)) → (List (List (Int))) → (List (Int)) → Option R) (k0 : (Int) → (List (Int)) → (Int) → (Int) → (Int) → (List ((ByteArray) × ((Bool) × (Int)))) → (List (Int)) → (List (List (Int))) → (List (List (Int))) → (List (Bool)) → (List (List (Int))) → (List (List (Int))) → (List (Bool)) → (List (List (Int))) → Option R) (x0 : Int) (x1 : Int) (x2 : Int) (x3 : List (Int)) (x4 : Int) (x5 : Int) (x6 : Int) (x7 : List ((ByteArray) × ((Bool) × (Int)))) (x8 : List (Int)) (x9 : List (List (Int))) (x10 : List (List (Int))) (x11 : List (Bool)) (x12 : List (List (Int))) (x13 : List (List (Int))) (x14 : List (Bool)) (x15 : List (List (Int))) (x16 : List (Int)) : Option R :=
  br (decide (x2 < x1))
  (br (inB x2 (List.length x16))
   (br (decide ((Int.toNat x2) < (List.length x16)))
    (c5 x4 x5 x6 x2 x7 x8
     (fun i792 l793 l794 => br (inB i792 (List.length x3))
      (br (decide ((Int.toNat i792) < (List.length x3)))
       (w1
        (fun i795 i796 i797 l798 i799 i800 i801 l802 l803 l804 l805 l806 l807 l808 l809 l810 l811 l812 => br (fits (0 : Nat) (List.length l811) l811)
         (br (fits (0 : Nat) (List.length l811) l811)
          (br (((fits (0 : Nat) (List.length l810) l810) && (decide ((((List.length l810) + (1 : Nat)) * (24 : Nat)) ≤ (70368744177664 : Nat)))) && true)
           (nx i795 i796 (IntKind.wrap .i64 (i797 + (1 : Int))) l798 i799 i800 i801 l802 l803 l804 l805 l806 l807 l808 l809 ((sub l810 (0 : Nat) (List.length l810)) ++ ((sub l811 (0 : Nat) (List.length l811)) :: ([] : List ((Sh.int IntKind.u8).isl.T)))) l812)
           (none))
          (none))
         (none))
        N x0 i792 x1 x2 (if ((List.getD x16 (Int.toNat x2) (0 : Int)) < (IntKind.wrap .i64 (List.getD x3 (Int.toNat i792) (0 : Int)))) then (List.getD x16 (Int.toNat x2) (0 : Int)) else (IntKind.wrap .i64 (List.getD x3 (Int.toNat i792) (0 : Int)))) (0 : Int) x3 x4 x5 x6 l793 l794 x9 x10 x11 x12 x13 x14 x15 ([] : List ((Sh.int IntKind.u8).T)) x16)
       (none))
      (none)))
    (none))
   (none))
  (k0 x0 x3 x4 x5 x6 x7 x8 x9 x10 x11 x12 x13 x14 x15)
noncomputable def cast_Input_0202_l1_T0 (N : Nat) (c0 : slices_Equal__uint16_uint16_b8c4_Ty) (c1 : slices_Equal__uint16_uint16_c28d_Ty) (c2 : cast_Env_727c_Ty) (c3 : cast_Env_ad7e_Ty) (c4 : class_Files_66e6_Ty) (c5 : cast_Size_9e58_Ty) (c6 : class_Caps_66e6_Ty) (c7 : cast_Vars_66e6_Ty) (c8 : class_May_66e6_Ty) (w2 : cast_Input_0202_l2_Ty) {R : Type} (nx : (Int) → (Int) → (Int) → (Int) → (Int) → (Int) → (List (Int)) → (Int) → (Int) → (Int) → (List ((ByteArray) × ((Bool) × (Int)))) → (List (Int)) → (List (List (Int))) → (List (List (Int))) → (List (Bool)) → (List (List (Int))) → (List (List (Int))) → (List (Bool)) → (List (List (Int))) → (List (Int)) → (List (Int)) → Option R) (k0 : (Int) → (Int) → (Int) → (List (Int)) → (Int) → (Int) → (Int) → (List ((ByteArray) × ((Bool) × (Int)))) → (List (Int)) → (List (List (Int))) → (List (List (Int))) → (List (Bool)) → (List (List (Int))) → (List (List (Int))) → (List (Bool)) → (List (List (Int))) → (List (Int)) → (List (Int)) → Option R) (x0 : Int) (x1 : Int) (x2 : Int) (x3 : Int) (x4 : Int) (x5 : Int) (x6 : List (Int)) (x7 : Int) (x8 : Int) (x9 : Int) (x10 : List ((ByteArray) × ((Bool) × (Int)))) (x11 : List (Int)) (x12 : List (List (Int))) (x13 : List (List (Int))) (x14 : List (Bool)) (x15 : List (List (Int))) (x16 : List (List (Int))) (x17 : List (Bool)) (x18 : List (List (Int))) (x19 : List (Int)) (x20 : List (Int)) : Option R :=
  br (decide (x5 < x4))
  (br (inB (IntKind.wrap .i64 ((IntKind.wrap .i64 (x1 + (1 : Int))) + x5)) (List.length x6))
   (br (decide ((Int.toNat (IntKind.wrap .i64 ((IntKind.wrap .i64 (x1 + (1 : Int))) + x5))) < (List.length x6)))
    (br (((fits (0 : Nat) (List.length x19) x19) && (decide ((((List.length x19) + (1 : Nat)) * (1 : Nat)) ≤ (70368744177664 : Nat)))) && true)
     (nx x0 x1 x2 x3 x4 (IntKind.wrap .i64 (x5 + (1 : Int))) x6 x7 x8 x9 x10 x11 x12 x13 x14 x15 x16 x17 x18 ((sub x19 (0 : Nat) (List.length x19)) ++ ((IntKind.wrap .u8 (List.getD x6 (Int.toNat (IntKind.wrap .i64 ((IntKind.wrap .i64 (x1 + (1 : Int))) + x5))) (0 : Int))) :: ([] : List ((Sh.int IntKind.u8).T)))) x20)
     (none))
    (none))
   (none))
  (k0 x0 x2 x3 x6 x7 x8 x9 x10 x11 x12 x13 x14 x15 x16 x17 x18 x19 x20)
noncomputable def cast_Input_0202_l2_T0 (N : Nat) (c0 : slices_Equal__uint16_uint16_b8c4_Ty) (c1 : slices_Equal__uint16_uint16_c28d_Ty) (c2 : cast_Env_727c_Ty) (c3 : cast_Env_ad7e_Ty) (c4 : class_Files_66e6_Ty) (c5 : cast_Size_9e58_Ty) (c6 : class_Caps_66e6_Ty) (c7 : cast_Vars_66e6_Ty) (c8 : class_May_66e6_Ty) {R : Type} (nx : (Int) → (Nat) → (Nat) → (Nat) → (Int) → (Int) → (List (Int)) → (Int) → (Int) → (Int) → (List ((ByteArray) × ((Bool) × (Int)))) → (List (Int)) → (List (List (Int))) → (List (List (Int))) → (List (Bool)) → (Nat) → (Nat) → (Nat) → (Nat) → (Nat) → (List (List (Int))) → (List (Bool)) → Option R) (k0 : (Int) → (List (Int)) → (Int) → (Int) → (Int) → (List ((ByteArray) × ((Bool) × (Int)))) → (List (Int)) → (List (List (Int))) → (List (List (Int))) → (List (Bool)) → (Nat) → (Nat) → (Nat) → (Nat) → (Nat) → (List (List (Int))) → (List (Bool)) → Option R) (x0 : Int) (x1 : Nat) (x2 : Nat) (x3 : Nat) (x4 : Int) (x5 : Int) (x6 : List (Int)) (x7 : Int) (x8 : Int) (x9 : Int) (x10 : List ((ByteArray) × ((Bool) × (Int)))) (x11 : List (Int)) (x12 : List (List (Int))) (x13 : List (List (Int))) (x14 : List (Bool)) (x15 : Nat) (x16 : Nat) (x17 : Nat) (x18 : Nat) (x19 : Nat) (x20 : List (List (Int))) (x21 : List (Bool)) : Option R :=
  br (decide (x5 < x4))
  (br (inB x5 x2)
   (br (decide ((Int.toNat (addLo x1 x5)) < (List.length x6)))
    (br (((fits (0 : Nat) (List.length x21) x21) && (decide ((((List.length x21) + (1 : Nat)) * (1 : Nat)) ≤ (70368744177664 : Nat)))) && true)
     (nx x0 x1 x2 x3 x4 (IntKind.wrap .i64 (x5 + (1 : Int))) x6 x7 x8 x9 x10 x11 x12 x13 x14 x15 x16 x17 x18 x19 x20 ((sub x21 (0 : Nat) (List.length x21)) ++ ((decide ((List.getD x6 (Int.toNat (addLo x1 x5)) (0 : Int)) = (1 : Int))) :: ([] : List (Sh.bool.T)))))
     (none))
    (none))
   (none))
  (k0 x0 x6 x7 x8 x9 x10 x11 x12 x13 x14 x15 x16 x17 x18 x19 x20 x21)
noncomputable def cast_Input_0202_l2 (N : Nat) {R : Type} (k0 : (Int) → (List (Int)) → (Int) → (Int) → (Int) → (List ((ByteArray) × ((Bool) × (Int)))) → (List (Int)) → (List (List (Int))) → (List (List (Int))) → (List (Bool)) → (Nat) → (Nat) → (Nat) → (Nat) → (Nat) → (List (List (Int))) → (List (Bool)) → Option R) : Nat → (Int) → (Nat) → (Nat) → (Nat) → (Int) → (Int) → (List (Int)) → (Int) → (Int) → (Int) → (List ((ByteArray) × ((Bool) × (Int)))) → (List (Int)) → (List (List (Int))) → (List (List (Int))) → (List (Bool)) → (Nat) → (Nat) → (Nat) → (Nat) → (Nat) → (List (List (Int))) → (List (Bool)) → Option R
  | 0, _, _, _, _, _, _, _, _, _, _, _, _, _, _, _, _, _, _, _, _, _, _ => none
  | n + 1, x0, x1, x2, x3, x4, x5, x6, x7, x8, x9, x10, x11, x12, x13, x14, x15, x16, x17, x18, x19, x20, x21 => cast_Input_0202_l2_T0 N (@slices_Equal__uint16_uint16_b8c4 N) (@slices_Equal__uint16_uint16_c28d N) (@cast_Env_727c N) (@cast_Env_ad7e N) (@class_Files_66e6 N) (@cast_Size_9e58 N) (@class_Caps_66e6 N) (@cast_Vars_66e6 N) (@class_May_66e6 N) (fun x0 x1 x2 x3 x4 x5 x6 x7 x8 x9 x10 x11 x12 x13 x14 x15 x16 x17 x18 x19 x20 x21 => cast_Input_0202_l2 N k0 n x0 x1 x2 x3 x4 x5 x6 x7 x8 x9 x10 x11 x12 x13 x14 x15 x16 x17 x18 x19 x20 x21) k0 x0 x1 x2 x3 x4 x5 x6 x7 x8 x9 x10 x11 x12 x13 x14 x15 x16 x17 x18 x19 x20 x21
noncomputable def cast_Input_0202_l1 (N : Nat) {R : Type} (k0 : (Int) → (Int) → (Int) → (List (Int)) → (Int) → (Int) → (Int) → (List ((ByteArray) × ((Bool) × (Int)))) → (List (Int)) → (List (List (Int))) → (List (List (Int))) → (List (Bool)) → (List (List (Int))) → (List (List (Int))) → (List (Bool)) → (List (List (Int))) → (List (Int)) → (List (Int)) → Option R) : Nat → (Int) → (Int) → (Int) → (Int) → (Int) → (Int) → (List (Int)) → (Int) → (Int) → (Int) → (List ((ByteArray) × ((Bool) × (Int)))) → (List (Int)) → (List (List (Int))) → (List (List (Int))) → (List (Bool)) → (List (List (Int))) → (List (List (Int))) → (List (Bool)) → (List (List (Int))) → (List (Int)) → (List (Int)) → Option R
  | 0, _, _, _, _, _, _, _, _, _, _, _, _, _, _, _, _, _, _, _, _, _ => none
  | n + 1, x0, x1, x2, x3, x4, x5, x6, x7, x8, x9, x10, x11, x12, x13, x14, x15, x16, x17, x18, x19, x20 => cast_Input_0202_l1_T0 N (@slices_Equal__uint16_uint16_b8c4 N) (@slices_Equal__uint16_uint16_c28d N) (@cast_Env_727c N) (@cast_Env_ad7e N) (@class_Files_66e6 N) (@cast_Size_9e58 N) (@class_Caps_66e6 N) (@cast_Vars_66e6 N) (@class_May_66e6 N) (@cast_Input_0202_l2 N) (fun x0 x1 x2 x3 x4 x5 x6 x7 x8 x9 x10 x11 x12 x13 x14 x15 x16 x17 x18 x19 x20 => cast_Input_0202_l1 N k0 n x0 x1 x2 x3 x4 x5 x6 x7 x8 x9 x10 x11 x12 x13 x14 x15 x16 x17 x18 x19 x20) k0 x0 x1 x2 x3 x4 x5 x6 x7 x8 x9 x10 x11 x12 x13 x14 x15 x16 x17 x18 x19 x20
noncomputable def cast_Input_0202_l0 (N : Nat) {R : Type} (k0 : (Int) → (List (Int)) → (Int) → (Int) → (Int) → (List ((ByteArray) × ((Bool) × (Int)))) → (List (Int)) → (List (List (Int))) → (List (List (Int))) → (List (Bool)) → (List (List (Int))) → (List (List (Int))) → (List (Bool)) → (List (List (Int))) → Option R) : Nat → (Int) → (Int) → (Int) → (List (Int)) → (Int) → (Int) → (Int) → (List ((ByteArray) × ((Bool) × (Int)))) → (List (Int)) → (List (List (Int))) → (List (List (Int))) → (List (Bool)) → (List (List (Int))) → (List (List (Int))) → (List (Bool)) → (List (List (Int))) → (List (Int)) → Option R
  | 0, _, _, _, _, _, _, _, _, _, _, _, _, _, _, _, _, _ => none
  | n + 1, x0, x1, x2, x3, x4, x5, x6, x7, x8, x9, x10, x11, x12, x13, x14, x15, x16 => cast_Input_0202_l0_T0 N (@slices_Equal__uint16_uint16_b8c4 N) (@slices_Equal__uint16_uint16_c28d N) (@cast_Env_727c N) (@cast_Env_ad7e N) (@class_Files_66e6 N) (@cast_Size_9e58 N) (@class_Caps_66e6 N) (@cast_Vars_66e6 N) (@class_May_66e6 N) (@cast_Input_0202_l1 N) (@cast_Input_0202_l2 N) (fun x0 x1 x2 x3 x4 x5 x6 x7 x8 x9 x10 x11 x12 x13 x14 x15 x16 => cast_Input_0202_l0 N k0 n x0 x1 x2 x3 x4 x5 x6 x7 x8 x9 x10 x11 x12 x13 x14 x15 x16) k0 x0 x1 x2 x3 x4 x5 x6 x7 x8 x9 x10 x11 x12 x13 x14 x15 x16
noncomputable def cast_Input_0202_T (N : Nat) (c0 : slices_Equal__uint16_uint16_b8c4_Ty) (c1 : slices_Equal__uint16_uint16_c28d_Ty) (c2 : cast_Env_727c_Ty) (c3 : cast_Env_ad7e_Ty) (c4 : class_Files_66e6_Ty) (c5 : cast_Size_9e58_Ty) (c6 : class_Caps_66e6_Ty) (c7 : cast_Vars_66e6_Ty) (c8 : class_May_66e6_Ty) (w0 : cast_Input_0202_l0_Ty) (w1 : cast_Input_0202_l1_Ty) (w2 : cast_Input_0202_l2_Ty) {R : Type} (x0 : Int) (x1 : Int) (x2 : Int) (x3 : List (Int)) (k0 : (Int) → (List (Int)) → (List (List (Int))) → (List (List (Int))) → (List (Bool)) → Option R) (k1 : (Nat) → (Nat) → (Nat) → (Nat) → (Int) → (List (Int)) → (Nat) → (List (List (Int))) → (List (Bool)) → Option R) (k2 : (Nat) → (Nat) → (Nat) → (Nat) → (Int) → (List (Int)) → (List (List (Int))) → (List (Bool)) → Option R) : Option R :=
  c8 x0 x1 x2 ([] : List ((Sh.str.pair (Sh.bool.pair (Sh.int IntKind.i64))).T)) ([] : List ((Sh.int IntKind.i64).T))
  (fun b783 l784 l785 => br (!b783)
   (k0 (11 : Int) x3 ([] : List ((Sh.int IntKind.u8).isl.T)) ([] : List ((Sh.int IntKind.u8).isl.T)) ([] : List (Sh.bool.T)))
   (c7 x0 x1 x2 l784 l785
    (fun i786 l787 l788 => br (decide ((Nat.cast (List.length x3) : Int) < i786))
     (k0 (12 : Int) x3 ([] : List ((Sh.int IntKind.u8).isl.T)) ([] : List ((Sh.int IntKind.u8).isl.T)) ([] : List (Sh.bool.T)))
     (c6 x0 x1 x2 l787 l788
      (fun l789 l790 l791 => w0
       (fun i813 l814 i815 i816 i817 l818 l819 l820 l821 l822 l823 l824 l825 l826 => c4 i815 i816 i817 l818 l819
        (fun l827 l828 l829 => br (leB (Nat.cast (List.length l829) : Int) (List.length l826))
         (br (leB (Nat.cast (List.length l829) : Int) (Int.toNat (Nat.cast (List.length l829) : Int)))
          (br (leB (Nat.cast (List.length l829) : Int) (List.length l826))
           (br (decide ((Nat.cast (List.length l829) : Int) = (Nat.cast (List.length l829) : Int)))
            (br (leB (Nat.cast (List.length l829) : Int) (List.length l826))
             (br ((decide ((Int.toNat (Nat.cast (List.length l829) : Int)) = (Int.toNat (Nat.cast (List.length l829) : Int)))) && (decide (((List.length l826) - (Int.toNat (Nat.cast (List.length l829) : Int))) = ((List.length l826) - (Int.toNat (Nat.cast (List.length l829) : Int))))))
              (br (leB i813 (List.length l814))
               (br (leB (IntKind.wrap .i64 (i813 - i815)) (Int.toNat i813))
                (w2
                 (fun i830 l831 i832 i833 i834 l835 l836 l837 l838 l839 n840 n841 n842 n843 n844 l845 l846 => c3 i832 i833 i834 n840 n841 n842 n843 l835 l836 n844 l845 l846
                  (fun i847 l848 l849 n850 l851 l852 l853 => br (!(!(decide (i847 = (0 : Int)))))
                   (br (leB i830 (List.length l831))
                    (c0 ((Int.toNat i830) - (0 : Nat)) ((List.length l831) - (0 : Nat)) l853 (List.length l831) l831
                     (fun b854 l855 n856 l857 => br (!b854)
                      (k0 (12 : Int) l857 ([] : List ((Sh.int IntKind.u8).isl.T)) ([] : List ((Sh.int IntKind.u8).isl.T)) ([] : List (Sh.bool.T)))
                      (k1 n840 n841 n842 n843 (0 : Int) l857 n850 l851 l852)))
                    (none))
                   (k0 (12 : Int) l831 ([] : List ((Sh.int IntKind.u8).isl.T)) ([] : List ((Sh.int IntKind.u8).isl.T)) ([] : List (Sh.bool.T))))
                  (fun i858 l859 l860 l861 l862 l863 => br (!(!(decide (i858 = (0 : Int)))))
                   (br (leB i830 (List.length l831))
                    (c0 ((Int.toNat i830) - (0 : Nat)) ((List.length l831) - (0 : Nat)) l863 (List.length l831) l831
                     (fun b864 l865 n866 l867 => br (!b864)
                      (k0 (12 : Int) l867 ([] : List ((Sh.int IntKind.u8).isl.T)) ([] : List ((Sh.int IntKind.u8).isl.T)) ([] : List (Sh.bool.T)))
                      (k2 n840 n841 n842 n843 (0 : Int) l867 l861 l862)))
                    (none))
                   (k0 (12 : Int) l831 ([] : List ((Sh.int IntKind.u8).isl.T)) ([] : List ((Sh.int IntKind.u8).isl.T)) ([] : List (Sh.bool.T)))))
                 N i813 (Int.toNat (IntKind.wrap .i64 (i813 - i815))) ((Int.toNat i813) - (Int.toNat (IntKind.wrap .i64 (i813 - i815)))) ((List.length l814) - (Int.toNat (IntKind.wrap .i64 (i813 - i815)))) (Nat.cast ((Int.toNat i813) - (Int.toNat (IntKind.wrap .i64 (i813 - i815)))) : Int) (0 : Int) l814 i815 i816 i817 l827 l828 l820 l821 l822 ((Int.toNat (Nat.cast (List.length l829) : Int)) - (0 : Nat)) ((Int.toNat (Nat.cast (List.length l829) : Int)) - (0 : Nat)) (Int.toNat (Nat.cast (List.length l829) : Int)) ((List.length l826) - (Int.toNat (Nat.cast (List.length l829) : Int))) (List.length l826) l826 l825)
                (none))
               (none))
              (none))
             (none))
            (none))
           (none))
          (none))
         (none)))
       N i786 (Nat.cast (List.length l791) : Int) (0 : Int) x3 x0 x1 x2 l789 l790 ([] : List ((Sh.int IntKind.u8).isl.T)) ([] : List ((Sh.int IntKind.u8).isl.T)) ([] : List (Sh.bool.T)) ([] : List ((Sh.int IntKind.u8).isl.T)) ([] : List ((Sh.int IntKind.u8).isl.T)) ([] : List (Sh.bool.T)) ([] : List ((Sh.int IntKind.u8).isl.T)) l791)))))
noncomputable def cast_Input_0202 (N : Nat) {R : Type} (x0 : Int) (x1 : Int) (x2 : Int) (x3 : List (Int)) (k0 : (Int) → (List (Int)) → (List (List (Int))) → (List (List (Int))) → (List (Bool)) → Option R) (k1 : (Nat) → (Nat) → (Nat) → (Nat) → (Int) → (List (Int)) → (Nat) → (List (List (Int))) → (List (Bool)) → Option R) (k2 : (Nat) → (Nat) → (Nat) → (Nat) → (Int) → (List (Int)) → (List (List (Int))) → (List (Bool)) → Option R) : Option R := cast_Input_0202_T N (@slices_Equal__uint16_uint16_b8c4 N) (@slices_Equal__uint16_uint16_c28d N) (@cast_Env_727c N) (@cast_Env_ad7e N) (@class_Files_66e6 N) (@cast_Size_9e58 N) (@class_Caps_66e6 N) (@cast_Vars_66e6 N) (@class_May_66e6 N) (@cast_Input_0202_l0 N) (@cast_Input_0202_l1 N) (@cast_Input_0202_l2 N) x0 x1 x2 x3 k0 k1 k2
abbrev term_New_Ty : Type 1 := {R : Type} → ((List ((Int) × ((Int) × ((Int) × ((Int) × ((Int) × (Int))))))) → (List (((Int) × ((Int) × ((Int) × ((Int) × ((Int) × (Int)))))) × (Int))) → (List ((Int) × (Int))) → Option R) → Option R
noncomputable def term_New_T (N : Nat) {R : Type} (k0 : (List ((Int) × ((Int) × ((Int) × ((Int) × ((Int) × (Int))))))) → (List (((Int) × ((Int) × ((Int) × ((Int) × ((Int) × (Int)))))) × (Int))) → (List ((Int) × (Int))) → Option R) : Option R :=
  k0 ([] : List (((Sh.int IntKind.i64).pair
    ((Sh.int IntKind.i64).pair
      ((Sh.int IntKind.u16).pair ((Sh.int IntKind.i64).pair ((Sh.int IntKind.i64).pair (Sh.int IntKind.i64)))))).T)) ([] : List ((((Sh.int IntKind.i64).pair
    ((Sh.int IntKind.i64).pair
      ((Sh.int IntKind.u16).pair ((Sh.int IntKind.i64).pair ((Sh.int IntKind.i64).pair (Sh.int IntKind.i64)))))).T) × ((Sh.int IntKind.i64).T))) ([] : List (((Sh.int IntKind.i64).T) × ((Sh.int IntKind.i64).T)))
noncomputable def term_New (N : Nat) {R : Type} (k0 : (List ((Int) × ((Int) × ((Int) × ((Int) × ((Int) × (Int))))))) → (List (((Int) × ((Int) × ((Int) × ((Int) × ((Int) × (Int)))))) × (Int))) → (List ((Int) × (Int))) → Option R) : Option R := term_New_T N k0
abbrev wide_May_Ty : Type 1 := {R : Type} → (Int) → ((Bool) → Option R) → Option R
noncomputable def wide_May_T (N : Nat) {R : Type} (x0 : Int) (k0 : (Bool) → Option R) : Option R :=
  br (!(decide (x0 = (1 : Int))))
  (br (!(decide (x0 = (8 : Int))))
   (k0 (decide (x0 = (16 : Int))))
   (k0 true))
  (k0 true)
noncomputable def wide_May (N : Nat) {R : Type} (x0 : Int) (k0 : (Bool) → Option R) : Option R := wide_May_T N x0 k0
abbrev term_Arena_keep_a25e_Ty : Type 1 := {R : Type} → (Int) → (Int) → (Int) → (Int) → (Int) → (Int) → (List ((Int) × ((Int) × ((Int) × ((Int) × ((Int) × (Int))))))) → (List (((Int) × ((Int) × ((Int) × ((Int) × ((Int) × (Int)))))) × (Int))) → (List ((Int) × (Int))) → ((Int) → (Int) → (List (((Int) × ((Int) × ((Int) × ((Int) × ((Int) × (Int)))))) × (Int))) → (List ((Int) × (Int))) → (List ((Int) × ((Int) × ((Int) × ((Int) × ((Int) × (Int))))))) → Option R) → Option R
noncomputable def term_Arena_keep_a25e_T (N : Nat) {R : Type} (x0 : Int) (x1 : Int) (x2 : Int) (x3 : Int) (x4 : Int) (x5 : Int) (x6 : List ((Int) × ((Int) × ((Int) × ((Int) × ((Int) × (Int))))))) (x7 : List (((Int) × ((Int) × ((Int) × ((Int) × ((Int) × (Int)))))) × (Int))) (x8 : List ((Int) × (Int))) (k0 : (Int) → (Int) → (List (((Int) × ((Int) × ((Int) × ((Int) × ((Int) × (Int)))))) × (Int))) → (List ((Int) × (Int))) → (List ((Int) × ((Int) × ((Int) × ((Int) × ((Int) × (Int))))))) → Option R) : Option R :=
  br (Option.isSome (mfind (.pair (.int .i64) (.pair (.int .i64) (.pair (.int .u16) (.pair (.int .i64) (.pair (.int .i64) (.int .i64)))))) (.int .i64) x7 (x0 , (x1 , (x2 , (x3 , (x4 , x5)))))))
  (k0 (Option.getD (mfind (.pair (.int .i64) (.pair (.int .i64) (.pair (.int .u16) (.pair (.int .i64) (.pair (.int .i64) (.int .i64)))))) (.int .i64) x7 (x0 , (x1 , (x2 , (x3 , (x4 , x5)))))) (0 : Int)) (0 : Int) x7 x8 x6)
  (br (decide ((65536 : Int) ≤ (Nat.cast (List.length x6) : Int)))
   (k0 (0 : Int) (3 : Int) x7 x8 x6)
   (br (((fits (0 : Nat) (List.length x6) x6) && (decide ((((List.length x6) + (1 : Nat)) * (48 : Nat)) ≤ (70368744177664 : Nat)))) && true)
    (k0 (Nat.cast ((List.length x6) + (1 : Nat)) : Int) (0 : Int) (mput (.pair (.int .i64) (.pair (.int .i64) (.pair (.int .u16) (.pair (.int .i64) (.pair (.int .i64) (.int .i64)))))) (.int .i64) x7 (x0 , (x1 , (x2 , (x3 , (x4 , x5))))) (Nat.cast ((List.length x6) + (1 : Nat)) : Int)) x8 ((sub x6 (0 : Nat) (List.length x6)) ++ ((x0 , (x1 , (x2 , (x3 , (x4 , x5))))) :: ([] : List (((Sh.int IntKind.i64).pair
    ((Sh.int IntKind.i64).pair
      ((Sh.int IntKind.u16).pair ((Sh.int IntKind.i64).pair ((Sh.int IntKind.i64).pair (Sh.int IntKind.i64)))))).T)))))
    (none)))
noncomputable def term_Arena_keep_a25e (N : Nat) {R : Type} (x0 : Int) (x1 : Int) (x2 : Int) (x3 : Int) (x4 : Int) (x5 : Int) (x6 : List ((Int) × ((Int) × ((Int) × ((Int) × ((Int) × (Int))))))) (x7 : List (((Int) × ((Int) × ((Int) × ((Int) × ((Int) × (Int)))))) × (Int))) (x8 : List ((Int) × (Int))) (k0 : (Int) → (Int) → (List (((Int) × ((Int) × ((Int) × ((Int) × ((Int) × (Int)))))) × (Int))) → (List ((Int) × (Int))) → (List ((Int) × ((Int) × ((Int) × ((Int) × ((Int) × (Int))))))) → Option R) : Option R := term_Arena_keep_a25e_T N x0 x1 x2 x3 x4 x5 x6 x7 x8 k0
abbrev term_Arena_Var_99d8_Ty : Type 1 := {R : Type} → (Int) → (Int) → (List ((Int) × ((Int) × ((Int) × ((Int) × ((Int) × (Int))))))) → (List (((Int) × ((Int) × ((Int) × ((Int) × ((Int) × (Int)))))) × (Int))) → (List ((Int) × (Int))) → ((Int) → (Int) → (List (((Int) × ((Int) × ((Int) × ((Int) × ((Int) × (Int)))))) × (Int))) → (List ((Int) × (Int))) → (List ((Int) × ((Int) × ((Int) × ((Int) × ((Int) × (Int))))))) → Option R) → Option R
noncomputable def term_Arena_Var_99d8_T (N : Nat) (c0 : term_Arena_keep_a25e_Ty) (c1 : wide_May_Ty) {R : Type} (x0 : Int) (x1 : Int) (x2 : List ((Int) × ((Int) × ((Int) × ((Int) × ((Int) × (Int))))))) (x3 : List (((Int) × ((Int) × ((Int) × ((Int) × ((Int) × (Int)))))) × (Int))) (x4 : List ((Int) × (Int))) (k0 : (Int) → (Int) → (List (((Int) × ((Int) × ((Int) × ((Int) × ((Int) × (Int)))))) × (Int))) → (List ((Int) × (Int))) → (List ((Int) × ((Int) × ((Int) × ((Int) × ((Int) × (Int))))))) → Option R) : Option R :=
  c1 x0
  (fun b891 => br (!b891)
   (k0 (0 : Int) (2 : Int) x3 x4 x2)
   (br (!(decide (x1 < (0 : Int))))
    (br (!(decide ((64 : Int) ≤ x1)))
     (br (Option.isSome (mfind (.int .i64) (.int .i64) x4 x1))
      (br (!(decide ((Option.getD (mfind (.int .i64) (.int .i64) x4 x1) (0 : Int)) = x0)))
       (k0 (0 : Int) (1 : Int) x3 x4 x2)
       (c0 (2 : Int) x0 (IntKind.wrap .u16 x1) (0 : Int) (0 : Int) (0 : Int) x2 x3 x4
        (fun i892 i893 l894 l895 l896 => br (decide (i893 = (0 : Int)))
         (k0 i892 i893 l894 (mput (.int .i64) (.int .i64) l895 x1 x0) l896)
         (k0 i892 i893 l894 l895 l896))))
      (c0 (2 : Int) x0 (IntKind.wrap .u16 x1) (0 : Int) (0 : Int) (0 : Int) x2 x3 x4
       (fun i897 i898 l899 l900 l901 => br (decide (i898 = (0 : Int)))
        (k0 i897 i898 l899 (mput (.int .i64) (.int .i64) l900 x1 x0) l901)
        (k0 i897 i898 l899 l900 l901))))
     (k0 (0 : Int) (1 : Int) x3 x4 x2))
    (k0 (0 : Int) (1 : Int) x3 x4 x2)))
noncomputable def term_Arena_Var_99d8 (N : Nat) {R : Type} (x0 : Int) (x1 : Int) (x2 : List ((Int) × ((Int) × ((Int) × ((Int) × ((Int) × (Int))))))) (x3 : List (((Int) × ((Int) × ((Int) × ((Int) × ((Int) × (Int)))))) × (Int))) (x4 : List ((Int) × (Int))) (k0 : (Int) → (Int) → (List (((Int) × ((Int) × ((Int) × ((Int) × ((Int) × (Int)))))) × (Int))) → (List ((Int) × (Int))) → (List ((Int) × ((Int) × ((Int) × ((Int) × ((Int) × (Int))))))) → Option R) : Option R := term_Arena_Var_99d8_T N (@term_Arena_keep_a25e N) (@wide_May N) x0 x1 x2 x3 x4 k0
abbrev cast_maker_keep_9e9f_Ty : Type 1 := {R : Type} → (Int) → (Int) → (Int) → (List ((Int) × ((Int) × ((Int) × ((Int) × ((Int) × (Int))))))) → (List (((Int) × ((Int) × ((Int) × ((Int) × ((Int) × (Int)))))) × (Int))) → (List ((Int) × (Int))) → ((Int) → (Int) → (List ((Int) × ((Int) × ((Int) × ((Int) × ((Int) × (Int))))))) → (List (((Int) × ((Int) × ((Int) × ((Int) × ((Int) × (Int)))))) × (Int))) → (List ((Int) × (Int))) → Option R) → Option R
noncomputable def cast_maker_keep_9e9f_T (N : Nat) {R : Type} (x0 : Int) (x1 : Int) (x2 : Int) (x3 : List ((Int) × ((Int) × ((Int) × ((Int) × ((Int) × (Int))))))) (x4 : List (((Int) × ((Int) × ((Int) × ((Int) × ((Int) × (Int)))))) × (Int))) (x5 : List ((Int) × (Int))) (k0 : (Int) → (Int) → (List ((Int) × ((Int) × ((Int) × ((Int) × ((Int) × (Int))))))) → (List (((Int) × ((Int) × ((Int) × ((Int) × ((Int) × (Int)))))) × (Int))) → (List ((Int) × (Int))) → Option R) : Option R :=
  br (decide (x2 = (0 : Int)))
  (k0 x0 x1 x3 x4 x5)
  (k0 x0 x2 x3 x4 x5)
noncomputable def cast_maker_keep_9e9f (N : Nat) {R : Type} (x0 : Int) (x1 : Int) (x2 : Int) (x3 : List ((Int) × ((Int) × ((Int) × ((Int) × ((Int) × (Int))))))) (x4 : List (((Int) × ((Int) × ((Int) × ((Int) × ((Int) × (Int)))))) × (Int))) (x5 : List ((Int) × (Int))) (k0 : (Int) → (Int) → (List ((Int) × ((Int) × ((Int) × ((Int) × ((Int) × (Int))))))) → (List (((Int) × ((Int) × ((Int) × ((Int) × ((Int) × (Int)))))) × (Int))) → (List ((Int) × (Int))) → Option R) : Option R := cast_maker_keep_9e9f_T N x0 x1 x2 x3 x4 x5 k0
abbrev cast_maker_variable_9e9f_Ty : Type 1 := {R : Type} → (Int) → (Int) → (Int) → (List ((Int) × ((Int) × ((Int) × ((Int) × ((Int) × (Int))))))) → (List (((Int) × ((Int) × ((Int) × ((Int) × ((Int) × (Int)))))) × (Int))) → (List ((Int) × (Int))) → ((Int) → (Int) → (List (((Int) × ((Int) × ((Int) × ((Int) × ((Int) × (Int)))))) × (Int))) → (List ((Int) × (Int))) → (List ((Int) × ((Int) × ((Int) × ((Int) × ((Int) × (Int))))))) → Option R) → Option R
noncomputable def cast_maker_variable_9e9f_T (N : Nat) (c0 : cast_maker_keep_9e9f_Ty) (c1 : term_Arena_Var_99d8_Ty) {R : Type} (x0 : Int) (x1 : Int) (x2 : Int) (x3 : List ((Int) × ((Int) × ((Int) × ((Int) × ((Int) × (Int))))))) (x4 : List (((Int) × ((Int) × ((Int) × ((Int) × ((Int) × (Int)))))) × (Int))) (x5 : List ((Int) × (Int))) (k0 : (Int) → (Int) → (List (((Int) × ((Int) × ((Int) × ((Int) × ((Int) × (Int)))))) × (Int))) → (List ((Int) × (Int))) → (List ((Int) × ((Int) × ((Int) × ((Int) × ((Int) × (Int))))))) → Option R) : Option R :=
  c1 x0 x1 x3 x4 x5
  (fun i902 i903 l904 l905 l906 => c0 i902 i903 x2 l906 l904 l905
   (fun i907 i908 l909 l910 l911 => k0 i907 i908 l910 l911 l909))
noncomputable def cast_maker_variable_9e9f (N : Nat) {R : Type} (x0 : Int) (x1 : Int) (x2 : Int) (x3 : List ((Int) × ((Int) × ((Int) × ((Int) × ((Int) × (Int))))))) (x4 : List (((Int) × ((Int) × ((Int) × ((Int) × ((Int) × (Int)))))) × (Int))) (x5 : List ((Int) × (Int))) (k0 : (Int) → (Int) → (List (((Int) × ((Int) × ((Int) × ((Int) × ((Int) × (Int)))))) × (Int))) → (List ((Int) × (Int))) → (List ((Int) × ((Int) × ((Int) × ((Int) × ((Int) × (Int))))))) → Option R) : Option R := cast_maker_variable_9e9f_T N (@cast_maker_keep_9e9f N) (@term_Arena_Var_99d8 N) x0 x1 x2 x3 x4 x5 k0
abbrev wide_Mask_Ty : Type 1 := {R : Type} → (Int) → ((Int) → Option R) → Option R
noncomputable def wide_Mask_T (N : Nat) (c0 : wide_May_Ty) {R : Type} (x0 : Int) (k0 : (Int) → Option R) : Option R :=
  c0 x0
  (fun b918 => br (!b918)
   (k0 (0 : Int))
   (br (decide ((IntKind.wrap .u64 x0) < (0 : Int)))
    (none)
    (k0 (IntKind.wrap .u16 ((shlI .u16 (1 : Int) (IntKind.wrap .u64 x0)) - (1 : Int))))))
noncomputable def wide_Mask (N : Nat) {R : Type} (x0 : Int) (k0 : (Int) → Option R) : Option R := wide_Mask_T N (@wide_May N) x0 k0
abbrev term_Arena_Const_2c81_Ty : Type 1 := {R : Type} → (Int) → (Int) → (List ((Int) × ((Int) × ((Int) × ((Int) × ((Int) × (Int))))))) → (List (((Int) × ((Int) × ((Int) × ((Int) × ((Int) × (Int)))))) × (Int))) → (List ((Int) × (Int))) → ((Int) → (Int) → (List (((Int) × ((Int) × ((Int) × ((Int) × ((Int) × (Int)))))) × (Int))) → (List ((Int) × (Int))) → (List ((Int) × ((Int) × ((Int) × ((Int) × ((Int) × (Int))))))) → Option R) → Option R
noncomputable def term_Arena_Const_2c81_T (N : Nat) (c0 : term_Arena_keep_a25e_Ty) (c1 : wide_Mask_Ty) (c2 : wide_May_Ty) {R : Type} (x0 : Int) (x1 : Int) (x2 : List ((Int) × ((Int) × ((Int) × ((Int) × ((Int) × (Int))))))) (x3 : List (((Int) × ((Int) × ((Int) × ((Int) × ((Int) × (Int)))))) × (Int))) (x4 : List ((Int) × (Int))) (k0 : (Int) → (Int) → (List (((Int) × ((Int) × ((Int) × ((Int) × ((Int) × (Int)))))) × (Int))) → (List ((Int) × (Int))) → (List ((Int) × ((Int) × ((Int) × ((Int) × ((Int) × (Int))))))) → Option R) : Option R :=
  c2 x0
  (fun b925 => br (!b925)
   (k0 (0 : Int) (2 : Int) x3 x4 x2)
   (c1 x0
    (fun i926 => c0 (1 : Int) x0 (band .u16 x1 i926) (0 : Int) (0 : Int) (0 : Int) x2 x3 x4
     (fun i927 i928 l929 l930 l931 => k0 i927 i928 l929 l930 l931))))
noncomputable def term_Arena_Const_2c81 (N : Nat) {R : Type} (x0 : Int) (x1 : Int) (x2 : List ((Int) × ((Int) × ((Int) × ((Int) × ((Int) × (Int))))))) (x3 : List (((Int) × ((Int) × ((Int) × ((Int) × ((Int) × (Int)))))) × (Int))) (x4 : List ((Int) × (Int))) (k0 : (Int) → (Int) → (List (((Int) × ((Int) × ((Int) × ((Int) × ((Int) × (Int)))))) × (Int))) → (List ((Int) × (Int))) → (List ((Int) × ((Int) × ((Int) × ((Int) × ((Int) × (Int))))))) → Option R) : Option R := term_Arena_Const_2c81_T N (@term_Arena_keep_a25e N) (@wide_Mask N) (@wide_May N) x0 x1 x2 x3 x4 k0
abbrev cast_maker_number_2f2a_Ty : Type 1 := {R : Type} → (Int) → (Int) → (List ((Int) × ((Int) × ((Int) × ((Int) × ((Int) × (Int))))))) → (List (((Int) × ((Int) × ((Int) × ((Int) × ((Int) × (Int)))))) × (Int))) → (List ((Int) × (Int))) → ((Int) → (Int) → (List (((Int) × ((Int) × ((Int) × ((Int) × ((Int) × (Int)))))) × (Int))) → (List ((Int) × (Int))) → (List ((Int) × ((Int) × ((Int) × ((Int) × ((Int) × (Int))))))) → Option R) → Option R
noncomputable def cast_maker_number_2f2a_T (N : Nat) (c0 : cast_maker_keep_9e9f_Ty) (c1 : term_Arena_Const_2c81_Ty) {R : Type} (x0 : Int) (x1 : Int) (x2 : List ((Int) × ((Int) × ((Int) × ((Int) × ((Int) × (Int))))))) (x3 : List (((Int) × ((Int) × ((Int) × ((Int) × ((Int) × (Int)))))) × (Int))) (x4 : List ((Int) × (Int))) (k0 : (Int) → (Int) → (List (((Int) × ((Int) × ((Int) × ((Int) × ((Int) × (Int)))))) × (Int))) → (List ((Int) × (Int))) → (List ((Int) × ((Int) × ((Int) × ((Int) × ((Int) × (Int))))))) → Option R) : Option R :=
  c1 (8 : Int) (IntKind.wrap .u16 x0) x2 x3 x4
  (fun i932 i933 l934 l935 l936 => c0 i932 i933 x1 l936 l934 l935
   (fun i937 i938 l939 l940 l941 => k0 i937 i938 l940 l941 l939))
noncomputable def cast_maker_number_2f2a (N : Nat) {R : Type} (x0 : Int) (x1 : Int) (x2 : List ((Int) × ((Int) × ((Int) × ((Int) × ((Int) × (Int))))))) (x3 : List (((Int) × ((Int) × ((Int) × ((Int) × ((Int) × (Int)))))) × (Int))) (x4 : List ((Int) × (Int))) (k0 : (Int) → (Int) → (List (((Int) × ((Int) × ((Int) × ((Int) × ((Int) × (Int)))))) × (Int))) → (List ((Int) × (Int))) → (List ((Int) × ((Int) × ((Int) × ((Int) × ((Int) × (Int))))))) → Option R) : Option R := cast_maker_number_2f2a_T N (@cast_maker_keep_9e9f N) (@term_Arena_Const_2c81 N) x0 x1 x2 x3 x4 k0
abbrev term_two_Ty : Type 1 := {R : Type} → (Int) → ((Bool) → Option R) → Option R
noncomputable def term_two_T (N : Nat) {R : Type} (x0 : Int) (k0 : (Bool) → Option R) : Option R :=
  br (decide ((4 : Int) ≤ x0))
  (k0 (decide (x0 ≤ (15 : Int))))
  (k0 false)
noncomputable def term_two (N : Nat) {R : Type} (x0 : Int) (k0 : (Bool) → Option R) : Option R := term_two_T N x0 k0
abbrev term_Arena_Node_43b4_Ty : Type 1 := {R : Type} → (Int) → (List ((Int) × ((Int) × ((Int) × ((Int) × ((Int) × (Int))))))) → (List (((Int) × ((Int) × ((Int) × ((Int) × ((Int) × (Int)))))) × (Int))) → (List ((Int) × (Int))) → ((Int) → (Int) → (Int) → (Int) → (Int) → (Int) → (Bool) → (List ((Int) × ((Int) × ((Int) × ((Int) × ((Int) × (Int))))))) → (List (((Int) × ((Int) × ((Int) × ((Int) × ((Int) × (Int)))))) × (Int))) → (List ((Int) × (Int))) → Option R) → Option R
noncomputable def term_Arena_Node_43b4_T (N : Nat) {R : Type} (x0 : Int) (x1 : List ((Int) × ((Int) × ((Int) × ((Int) × ((Int) × (Int))))))) (x2 : List (((Int) × ((Int) × ((Int) × ((Int) × ((Int) × (Int)))))) × (Int))) (x3 : List ((Int) × (Int))) (k0 : (Int) → (Int) → (Int) → (Int) → (Int) → (Int) → (Bool) → (List ((Int) × ((Int) × ((Int) × ((Int) × ((Int) × (Int))))))) → (List (((Int) × ((Int) × ((Int) × ((Int) × ((Int) × (Int)))))) × (Int))) → (List ((Int) × (Int))) → Option R) : Option R :=
  br (!(decide (x0 < (1 : Int))))
  (br (decide ((Nat.cast (List.length x1) : Int) < x0))
   (k0 (0 : Int) (0 : Int) (0 : Int) (0 : Int) (0 : Int) (0 : Int) false x1 x2 x3)
   (br (inB (IntKind.wrap .i64 (x0 - (1 : Int))) (List.length x1))
    (br (decide ((Int.toNat (IntKind.wrap .i64 (x0 - (1 : Int)))) < (List.length x1)))
     (k0 (List.getD x1 (Int.toNat (IntKind.wrap .i64 (x0 - (1 : Int)))) ((0 : Int) , ((0 : Int) , ((0 : Int) , ((0 : Int) , ((0 : Int) , (0 : Int))))))).1 (List.getD x1 (Int.toNat (IntKind.wrap .i64 (x0 - (1 : Int)))) ((0 : Int) , ((0 : Int) , ((0 : Int) , ((0 : Int) , ((0 : Int) , (0 : Int))))))).2.1 (List.getD x1 (Int.toNat (IntKind.wrap .i64 (x0 - (1 : Int)))) ((0 : Int) , ((0 : Int) , ((0 : Int) , ((0 : Int) , ((0 : Int) , (0 : Int))))))).2.2.1 (List.getD x1 (Int.toNat (IntKind.wrap .i64 (x0 - (1 : Int)))) ((0 : Int) , ((0 : Int) , ((0 : Int) , ((0 : Int) , ((0 : Int) , (0 : Int))))))).2.2.2.1 (List.getD x1 (Int.toNat (IntKind.wrap .i64 (x0 - (1 : Int)))) ((0 : Int) , ((0 : Int) , ((0 : Int) , ((0 : Int) , ((0 : Int) , (0 : Int))))))).2.2.2.2.1 (List.getD x1 (Int.toNat (IntKind.wrap .i64 (x0 - (1 : Int)))) ((0 : Int) , ((0 : Int) , ((0 : Int) , ((0 : Int) , ((0 : Int) , (0 : Int))))))).2.2.2.2.2 true x1 x2 x3)
     (none))
    (none)))
  (k0 (0 : Int) (0 : Int) (0 : Int) (0 : Int) (0 : Int) (0 : Int) false x1 x2 x3)
noncomputable def term_Arena_Node_43b4 (N : Nat) {R : Type} (x0 : Int) (x1 : List ((Int) × ((Int) × ((Int) × ((Int) × ((Int) × (Int))))))) (x2 : List (((Int) × ((Int) × ((Int) × ((Int) × ((Int) × (Int)))))) × (Int))) (x3 : List ((Int) × (Int))) (k0 : (Int) → (Int) → (Int) → (Int) → (Int) → (Int) → (Bool) → (List ((Int) × ((Int) × ((Int) × ((Int) × ((Int) × (Int))))))) → (List (((Int) × ((Int) × ((Int) × ((Int) × ((Int) × (Int)))))) × (Int))) → (List ((Int) × (Int))) → Option R) : Option R := term_Arena_Node_43b4_T N x0 x1 x2 x3 k0
abbrev term_Arena_there_2549_l0_Ty : Type 1 := {R : Type} → ((Bool) → (List ((Int) × ((Int) × ((Int) × ((Int) × ((Int) × (Int))))))) → (List (((Int) × ((Int) × ((Int) × ((Int) × ((Int) × (Int)))))) × (Int))) → (List ((Int) × (Int))) → (List (Int)) → Option R) → ((List ((Int) × ((Int) × ((Int) × ((Int) × ((Int) × (Int))))))) → (List (((Int) × ((Int) × ((Int) × ((Int) × ((Int) × (Int)))))) × (Int))) → (List ((Int) × (Int))) → (List (Int)) → Option R) → Nat → (Int) → (Int) → (List ((Int) × ((Int) × ((Int) × ((Int) × ((Int) × (Int))))))) → (List (((Int) × ((Int) × ((Int) × ((Int) × ((Int) × (Int)))))) × (Int))) → (List ((Int) × (Int))) → (List (Int)) → Option R
abbrev term_Arena_there_2549_Ty : Type 1 := {R : Type} → (List ((Int) × ((Int) × ((Int) × ((Int) × ((Int) × (Int))))))) → (List (((Int) × ((Int) × ((Int) × ((Int) × ((Int) × (Int)))))) × (Int))) → (List ((Int) × (Int))) → (List (Int)) → ((Bool) → (List ((Int) × ((Int) × ((Int) × ((Int) × ((Int) × (Int))))))) → (List (((Int) × ((Int) × ((Int) × ((Int) × ((Int) × (Int)))))) × (Int))) → (List ((Int) × (Int))) → (List (Int)) → Option R) → Option R
noncomputable def term_Arena_there_2549_l0_T0 (N : Nat) (c0 : term_Arena_Node_43b4_Ty) {R : Type} (nx : (Int) → (Int) → (List ((Int) × ((Int) × ((Int) × ((Int) × ((Int) × (Int))))))) → (List (((Int) × ((Int) × ((Int) × ((Int) × ((Int) × (Int)))))) × (Int))) → (List ((Int) × (Int))) → (List (Int)) → Option R) (k0 : (Bool) → (List ((Int) × ((Int) × ((Int) × ((Int) × ((Int) × (Int))))))) → (List (((Int) × ((Int) × ((Int) × ((Int) × ((Int) × (Int)))))) × (Int))) → (List ((Int) × (Int))) → (List (Int)) → Option R) (k1 : (List ((Int) × ((Int) × ((Int) × ((Int) × ((Int) × (Int))))))) → (List (((Int) × ((Int) × ((Int) × ((Int) × ((Int) × (Int)))))) × (Int))) → (List ((Int) × (Int))) → (List (Int)) → Option R) (x0 : Int) (x1 : Int) (x2 : List ((Int) × ((Int) × ((Int) × ((Int) × ((Int) × (Int))))))) (x3 : List (((Int) × ((Int) × ((Int) × ((Int) × ((Int) × (Int)))))) × (Int))) (x4 : List ((Int) × (Int))) (x5 : List (Int)) : Option R :=
  br (decide (x1 < x0))
  (br (inB x1 (List.length x5))
   (br (decide ((Int.toNat x1) < (List.length x5)))
    (c0 (List.getD x5 (Int.toNat x1) (0 : Int)) x2 x3 x4
     (fun i948 i949 i950 i951 i952 i953 b954 l955 l956 l957 => br (!b954)
      (k0 false l955 l956 l957 x5)
      (nx x0 (IntKind.wrap .i64 (x1 + (1 : Int))) l955 l956 l957 x5)))
    (none))
   (none))
  (k1 x2 x3 x4 x5)
noncomputable def term_Arena_there_2549_l0 (N : Nat) {R : Type} (k0 : (Bool) → (List ((Int) × ((Int) × ((Int) × ((Int) × ((Int) × (Int))))))) → (List (((Int) × ((Int) × ((Int) × ((Int) × ((Int) × (Int)))))) × (Int))) → (List ((Int) × (Int))) → (List (Int)) → Option R) (k1 : (List ((Int) × ((Int) × ((Int) × ((Int) × ((Int) × (Int))))))) → (List (((Int) × ((Int) × ((Int) × ((Int) × ((Int) × (Int)))))) × (Int))) → (List ((Int) × (Int))) → (List (Int)) → Option R) : Nat → (Int) → (Int) → (List ((Int) × ((Int) × ((Int) × ((Int) × ((Int) × (Int))))))) → (List (((Int) × ((Int) × ((Int) × ((Int) × ((Int) × (Int)))))) × (Int))) → (List ((Int) × (Int))) → (List (Int)) → Option R
  | 0, _, _, _, _, _, _ => none
  | n + 1, x0, x1, x2, x3, x4, x5 => term_Arena_there_2549_l0_T0 N (@term_Arena_Node_43b4 N) (fun x0 x1 x2 x3 x4 x5 => term_Arena_there_2549_l0 N k0 k1 n x0 x1 x2 x3 x4 x5) k0 k1 x0 x1 x2 x3 x4 x5
noncomputable def term_Arena_there_2549_T (N : Nat) (c0 : term_Arena_Node_43b4_Ty) (w0 : term_Arena_there_2549_l0_Ty) {R : Type} (x0 : List ((Int) × ((Int) × ((Int) × ((Int) × ((Int) × (Int))))))) (x1 : List (((Int) × ((Int) × ((Int) × ((Int) × ((Int) × (Int)))))) × (Int))) (x2 : List ((Int) × (Int))) (x3 : List (Int)) (k0 : (Bool) → (List ((Int) × ((Int) × ((Int) × ((Int) × ((Int) × (Int))))))) → (List (((Int) × ((Int) × ((Int) × ((Int) × ((Int) × (Int)))))) × (Int))) → (List ((Int) × (Int))) → (List (Int)) → Option R) : Option R :=
  w0
  (fun b958 l959 l960 l961 l962 => k0 b958 l959 l960 l961 l962)
  (fun l963 l964 l965 l966 => k0 true l963 l964 l965 l966)
  N (Nat.cast (List.length x3) : Int) (0 : Int) x0 x1 x2 x3
noncomputable def term_Arena_there_2549 (N : Nat) {R : Type} (x0 : List ((Int) × ((Int) × ((Int) × ((Int) × ((Int) × (Int))))))) (x1 : List (((Int) × ((Int) × ((Int) × ((Int) × ((Int) × (Int)))))) × (Int))) (x2 : List ((Int) × (Int))) (x3 : List (Int)) (k0 : (Bool) → (List ((Int) × ((Int) × ((Int) × ((Int) × ((Int) × (Int))))))) → (List (((Int) × ((Int) × ((Int) × ((Int) × ((Int) × (Int)))))) × (Int))) → (List ((Int) × (Int))) → (List (Int)) → Option R) : Option R := term_Arena_there_2549_T N (@term_Arena_Node_43b4 N) (@term_Arena_there_2549_l0 N) x0 x1 x2 x3 k0
abbrev term_Arena_Width_43b4_Ty : Type 1 := {R : Type} → (Int) → (List ((Int) × ((Int) × ((Int) × ((Int) × ((Int) × (Int))))))) → (List (((Int) × ((Int) × ((Int) × ((Int) × ((Int) × (Int)))))) × (Int))) → (List ((Int) × (Int))) → ((Int) → (List ((Int) × ((Int) × ((Int) × ((Int) × ((Int) × (Int))))))) → (List (((Int) × ((Int) × ((Int) × ((Int) × ((Int) × (Int)))))) × (Int))) → (List ((Int) × (Int))) → Option R) → Option R
noncomputable def term_Arena_Width_43b4_T (N : Nat) (c0 : term_Arena_Node_43b4_Ty) {R : Type} (x0 : Int) (x1 : List ((Int) × ((Int) × ((Int) × ((Int) × ((Int) × (Int))))))) (x2 : List (((Int) × ((Int) × ((Int) × ((Int) × ((Int) × (Int)))))) × (Int))) (x3 : List ((Int) × (Int))) (k0 : (Int) → (List ((Int) × ((Int) × ((Int) × ((Int) × ((Int) × (Int))))))) → (List (((Int) × ((Int) × ((Int) × ((Int) × ((Int) × (Int)))))) × (Int))) → (List ((Int) × (Int))) → Option R) : Option R :=
  c0 x0 x1 x2 x3
  (fun i972 i973 i974 i975 i976 i977 b978 l979 l980 l981 => k0 i973 l979 l980 l981)
noncomputable def term_Arena_Width_43b4 (N : Nat) {R : Type} (x0 : Int) (x1 : List ((Int) × ((Int) × ((Int) × ((Int) × ((Int) × (Int))))))) (x2 : List (((Int) × ((Int) × ((Int) × ((Int) × ((Int) × (Int)))))) × (Int))) (x3 : List ((Int) × (Int))) (k0 : (Int) → (List ((Int) × ((Int) × ((Int) × ((Int) × ((Int) × (Int))))))) → (List (((Int) × ((Int) × ((Int) × ((Int) × ((Int) × (Int)))))) × (Int))) → (List ((Int) × (Int))) → Option R) : Option R := term_Arena_Width_43b4_T N (@term_Arena_Node_43b4 N) x0 x1 x2 x3 k0
abbrev term_Arena_Known_43b4_Ty : Type 1 := {R : Type} → (Int) → (List ((Int) × ((Int) × ((Int) × ((Int) × ((Int) × (Int))))))) → (List (((Int) × ((Int) × ((Int) × ((Int) × ((Int) × (Int)))))) × (Int))) → (List ((Int) × (Int))) → ((Int) → (Bool) → (List ((Int) × ((Int) × ((Int) × ((Int) × ((Int) × (Int))))))) → (List (((Int) × ((Int) × ((Int) × ((Int) × ((Int) × (Int)))))) × (Int))) → (List ((Int) × (Int))) → Option R) → Option R
noncomputable def term_Arena_Known_43b4_T (N : Nat) (c0 : term_Arena_Node_43b4_Ty) {R : Type} (x0 : Int) (x1 : List ((Int) × ((Int) × ((Int) × ((Int) × ((Int) × (Int))))))) (x2 : List (((Int) × ((Int) × ((Int) × ((Int) × ((Int) × (Int)))))) × (Int))) (x3 : List ((Int) × (Int))) (k0 : (Int) → (Bool) → (List ((Int) × ((Int) × ((Int) × ((Int) × ((Int) × (Int))))))) → (List (((Int) × ((Int) × ((Int) × ((Int) × ((Int) × (Int)))))) × (Int))) → (List ((Int) × (Int))) → Option R) : Option R :=
  c0 x0 x1 x2 x3
  (fun i990 i991 i992 i993 i994 i995 b996 l997 l998 l999 => br (decide (i990 = (1 : Int)))
   (k0 i992 (decide ((0 : Int) < i991)) l997 l998 l999)
   (k0 i992 false l997 l998 l999))
noncomputable def term_Arena_Known_43b4 (N : Nat) {R : Type} (x0 : Int) (x1 : List ((Int) × ((Int) × ((Int) × ((Int) × ((Int) × (Int))))))) (x2 : List (((Int) × ((Int) × ((Int) × ((Int) × ((Int) × (Int)))))) × (Int))) (x3 : List ((Int) × (Int))) (k0 : (Int) → (Bool) → (List ((Int) × ((Int) × ((Int) × ((Int) × ((Int) × (Int))))))) → (List (((Int) × ((Int) × ((Int) × ((Int) × ((Int) × (Int)))))) × (Int))) → (List ((Int) × (Int))) → Option R) : Option R := term_Arena_Known_43b4_T N (@term_Arena_Node_43b4 N) x0 x1 x2 x3 k0
abbrev wide_divided_Ty : Type 1 := {R : Type} → (Int) → (Int) → (Int) → ((Int) → Option R) → Option R
noncomputable def wide_divided_T (N : Nat) (c0 : wide_Mask_Ty) {R : Type} (x0 : Int) (x1 : Int) (x2 : Int) (k0 : (Int) → Option R) : Option R :=
  br (decide (x2 = (0 : Int)))
  (c0 x0
   (fun i1016 => k0 i1016))
  (br (decide (x2 = (0 : Int)))
   (none)
   (k0 (IntKind.wrap .u16 (Int.tdiv x1 x2))))
noncomputable def wide_divided (N : Nat) {R : Type} (x0 : Int) (x1 : Int) (x2 : Int) (k0 : (Int) → Option R) : Option R := wide_divided_T N (@wide_Mask N) x0 x1 x2 k0
abbrev wide_rest_Ty : Type 1 := {R : Type} → (Int) → (Int) → ((Int) → Option R) → Option R
noncomputable def wide_rest_T (N : Nat) {R : Type} (x0 : Int) (x1 : Int) (k0 : (Int) → Option R) : Option R :=
  br (decide (x1 = (0 : Int)))
  (k0 x0)
  (br (decide (x1 = (0 : Int)))
   (none)
   (k0 (Int.tmod x0 x1)))
noncomputable def wide_rest (N : Nat) {R : Type} (x0 : Int) (x1 : Int) (k0 : (Int) → Option R) : Option R := wide_rest_T N x0 x1 k0
abbrev wide_truth_Ty : Type 1 := {R : Type} → (Bool) → ((Int) → Option R) → Option R
noncomputable def wide_truth_T (N : Nat) {R : Type} (x0 : Bool) (k0 : (Int) → Option R) : Option R :=
  br x0
  (k0 (1 : Int))
  (k0 (0 : Int))
noncomputable def wide_truth (N : Nat) {R : Type} (x0 : Bool) (k0 : (Int) → Option R) : Option R := wide_truth_T N x0 k0
abbrev wide_reckon_Ty : Type 1 := {R : Type} → (Int) → (Int) → (Int) → (Int) → ((Int) → (Bool) → Option R) → Option R
noncomputable def wide_reckon_T (N : Nat) (c0 : wide_truth_Ty) (c1 : wide_rest_Ty) (c2 : wide_divided_Ty) {R : Type} (x0 : Int) (x1 : Int) (x2 : Int) (x3 : Int) (k0 : (Int) → (Bool) → Option R) : Option R :=
  br (decide (x0 = (3 : Int)))
  (k0 (bxor .u16 (if ((IntKind.signed .u16) = true) then (-1 : Int) else (IntKind.max .u16)) x2) true)
  (br (decide (x0 = (4 : Int)))
   (k0 (band .u16 x2 x3) true)
   (br (decide (x0 = (5 : Int)))
    (k0 (bor .u16 x2 x3) true)
    (br (decide (x0 = (6 : Int)))
     (k0 (bxor .u16 x2 x3) true)
     (br (decide (x0 = (7 : Int)))
      (k0 (IntKind.wrap .u16 (x2 + x3)) true)
      (br (decide (x0 = (8 : Int)))
       (k0 (IntKind.wrap .u16 (x2 - x3)) true)
       (br (decide (x0 = (9 : Int)))
        (k0 (IntKind.wrap .u16 (x2 * x3)) true)
        (br (decide (x0 = (10 : Int)))
         (c2 x1 x2 x3
          (fun i1017 => k0 i1017 true))
         (br (decide (x0 = (11 : Int)))
          (c1 x2 x3
           (fun i1018 => k0 i1018 true))
          (br (decide (x0 = (12 : Int)))
           (br (decide (x3 < (0 : Int)))
            (none)
            (k0 (shlI .u16 x2 x3) true))
           (br (decide (x0 = (13 : Int)))
            (br (decide (x3 < (0 : Int)))
             (none)
             (k0 (shrI .u16 x2 x3) true))
            (br (decide (x0 = (14 : Int)))
             (c0 (decide (x2 = x3))
              (fun i1019 => k0 i1019 true))
             (br (decide (x0 = (15 : Int)))
              (c0 (decide (x2 < x3))
               (fun i1020 => k0 i1020 true))
              (k0 (0 : Int) false)))))))))))))
noncomputable def wide_reckon (N : Nat) {R : Type} (x0 : Int) (x1 : Int) (x2 : Int) (x3 : Int) (k0 : (Int) → (Bool) → Option R) : Option R := wide_reckon_T N (@wide_truth N) (@wide_rest N) (@wide_divided N) x0 x1 x2 x3 k0
abbrev wide_Do_Ty : Type 1 := {R : Type} → (Int) → (Int) → (Int) → (Int) → ((Int) → (Int) → Option R) → Option R
noncomputable def wide_Do_T (N : Nat) (c0 : wide_reckon_Ty) (c1 : wide_Mask_Ty) (c2 : wide_May_Ty) {R : Type} (x0 : Int) (x1 : Int) (x2 : Int) (x3 : Int) (k0 : (Int) → (Int) → Option R) : Option R :=
  c2 x1
  (fun b1014 => br (!b1014)
   (k0 (0 : Int) (2 : Int))
   (c1 x1
    (fun i1015 => c0 x0 x1 (band .u16 x2 i1015) (band .u16 x3 i1015)
     (fun i1021 b1022 => br (!b1022)
      (k0 (0 : Int) (5 : Int))
      (k0 (band .u16 i1021 i1015) (0 : Int))))))
noncomputable def wide_Do (N : Nat) {R : Type} (x0 : Int) (x1 : Int) (x2 : Int) (x3 : Int) (k0 : (Int) → (Int) → Option R) : Option R := wide_Do_T N (@wide_reckon N) (@wide_Mask N) (@wide_May N) x0 x1 x2 x3 k0
abbrev wide_Out_Ty : Type 1 := {R : Type} → (Int) → (Int) → ((Int) → Option R) → Option R
noncomputable def wide_Out_T (N : Nat) (c0 : wide_Do_Ty) {R : Type} (x0 : Int) (x1 : Int) (k0 : (Int) → Option R) : Option R :=
  c0 x0 x1 (0 : Int) (0 : Int)
  (fun i1029 i1030 => br (!(decide (i1030 = (0 : Int))))
   (k0 (0 : Int))
   (br (!(decide (x0 = (14 : Int))))
    (br (decide (x0 = (15 : Int)))
     (k0 (1 : Int))
     (k0 x1))
    (k0 (1 : Int))))
noncomputable def wide_Out (N : Nat) {R : Type} (x0 : Int) (x1 : Int) (k0 : (Int) → Option R) : Option R := wide_Out_T N (@wide_Do N) x0 x1 k0
abbrev term_turns_Ty : Type 1 := {R : Type} → (Int) → ((Bool) → Option R) → Option R
noncomputable def term_turns_T (N : Nat) {R : Type} (x0 : Int) (k0 : (Bool) → Option R) : Option R :=
  br (decide (x0 = (4 : Int)))
  (k0 true)
  (br (decide (x0 = (5 : Int)))
   (k0 true)
   (br (decide (x0 = (6 : Int)))
    (k0 true)
    (br (decide (x0 = (7 : Int)))
     (k0 true)
     (br (decide (x0 = (9 : Int)))
      (k0 true)
      (br (decide (x0 = (14 : Int)))
       (k0 true)
       (k0 false))))))
noncomputable def term_turns (N : Nat) {R : Type} (x0 : Int) (k0 : (Bool) → Option R) : Option R := term_turns_T N x0 k0
abbrev term_Arena_alike_99d8_Ty : Type 1 := {R : Type} → (Int) → (Int) → (List ((Int) × ((Int) × ((Int) × ((Int) × ((Int) × (Int))))))) → (List (((Int) × ((Int) × ((Int) × ((Int) × ((Int) × (Int)))))) × (Int))) → (List ((Int) × (Int))) → ((Int) → (Int) → (Bool) → (List (((Int) × ((Int) × ((Int) × ((Int) × ((Int) × (Int)))))) × (Int))) → (List ((Int) × (Int))) → (List ((Int) × ((Int) × ((Int) × ((Int) × ((Int) × (Int))))))) → Option R) → Option R
noncomputable def term_Arena_alike_99d8_T (N : Nat) (c0 : wide_Do_Ty) (c1 : term_Arena_Const_2c81_Ty) (c2 : term_Arena_Width_43b4_Ty) {R : Type} (x0 : Int) (x1 : Int) (x2 : List ((Int) × ((Int) × ((Int) × ((Int) × ((Int) × (Int))))))) (x3 : List (((Int) × ((Int) × ((Int) × ((Int) × ((Int) × (Int)))))) × (Int))) (x4 : List ((Int) × (Int))) (k0 : (Int) → (Int) → (Bool) → (List (((Int) × ((Int) × ((Int) × ((Int) × ((Int) × (Int)))))) × (Int))) → (List ((Int) × (Int))) → (List ((Int) × ((Int) × ((Int) × ((Int) × ((Int) × (Int))))))) → Option R) : Option R :=
  c2 x1 x2 x3 x4
  (fun i1087 l1088 l1089 l1090 => br (decide (x0 = (4 : Int)))
   (k0 x1 (0 : Int) true l1089 l1090 l1088)
   (br (decide (x0 = (5 : Int)))
    (k0 x1 (0 : Int) true l1089 l1090 l1088)
    (br (decide (x0 = (6 : Int)))
     (c1 i1087 (0 : Int) l1088 l1089 l1090
      (fun i1091 i1092 l1093 l1094 l1095 => k0 i1091 i1092 true l1093 l1094 l1095))
     (br (decide (x0 = (8 : Int)))
      (c1 i1087 (0 : Int) l1088 l1089 l1090
       (fun i1096 i1097 l1098 l1099 l1100 => k0 i1096 i1097 true l1098 l1099 l1100))
      (br (decide (x0 = (14 : Int)))
       (c0 x0 i1087 (0 : Int) (0 : Int)
        (fun i1101 i1102 => c1 (1 : Int) i1101 l1088 l1089 l1090
         (fun i1103 i1104 l1105 l1106 l1107 => k0 i1103 i1104 true l1105 l1106 l1107)))
       (br (decide (x0 = (15 : Int)))
        (c0 x0 i1087 (0 : Int) (0 : Int)
         (fun i1108 i1109 => c1 (1 : Int) i1108 l1088 l1089 l1090
          (fun i1110 i1111 l1112 l1113 l1114 => k0 i1110 i1111 true l1112 l1113 l1114)))
        (k0 (0 : Int) (0 : Int) false l1089 l1090 l1088)))))))
noncomputable def term_Arena_alike_99d8 (N : Nat) {R : Type} (x0 : Int) (x1 : Int) (x2 : List ((Int) × ((Int) × ((Int) × ((Int) × ((Int) × (Int))))))) (x3 : List (((Int) × ((Int) × ((Int) × ((Int) × ((Int) × (Int)))))) × (Int))) (x4 : List ((Int) × (Int))) (k0 : (Int) → (Int) → (Bool) → (List (((Int) × ((Int) × ((Int) × ((Int) × ((Int) × (Int)))))) × (Int))) → (List ((Int) × (Int))) → (List ((Int) × ((Int) × ((Int) × ((Int) × ((Int) × (Int))))))) → Option R) : Option R := term_Arena_alike_99d8_T N (@wide_Do N) (@term_Arena_Const_2c81 N) (@term_Arena_Width_43b4 N) x0 x1 x2 x3 x4 k0
abbrev term_Arena_Not_43b4_Ty : Type 1 := {R : Type} → (Int) → (List ((Int) × ((Int) × ((Int) × ((Int) × ((Int) × (Int))))))) → (List (((Int) × ((Int) × ((Int) × ((Int) × ((Int) × (Int)))))) × (Int))) → (List ((Int) × (Int))) → ((Int) → (Int) → (List (((Int) × ((Int) × ((Int) × ((Int) × ((Int) × (Int)))))) × (Int))) → (List ((Int) × (Int))) → (List ((Int) × ((Int) × ((Int) × ((Int) × ((Int) × (Int))))))) → Option R) → Option R
noncomputable def term_Arena_Not_43b4_T (N : Nat) (c0 : term_Arena_keep_a25e_Ty) (c1 : term_Arena_Const_2c81_Ty) (c2 : term_Arena_Node_43b4_Ty) (c3 : term_Arena_there_2549_Ty) {R : Type} (x0 : Int) (x1 : List ((Int) × ((Int) × ((Int) × ((Int) × ((Int) × (Int))))))) (x2 : List (((Int) × ((Int) × ((Int) × ((Int) × ((Int) × (Int)))))) × (Int))) (x3 : List ((Int) × (Int))) (k0 : (Int) → (Int) → (List (((Int) × ((Int) × ((Int) × ((Int) × ((Int) × (Int)))))) × (Int))) → (List ((Int) × (Int))) → (List ((Int) × ((Int) × ((Int) × ((Int) × ((Int) × (Int))))))) → Option R) : Option R :=
  c3 x1 x2 x3 (x0 :: ([] : List ((Sh.int IntKind.i64).T)))
  (fun b1178 l1179 l1180 l1181 l1182 => br (!b1178)
   (k0 (0 : Int) (1 : Int) l1180 l1181 l1179)
   (c2 x0 l1179 l1180 l1181
    (fun i1183 i1184 i1185 i1186 i1187 i1188 b1189 l1190 l1191 l1192 => br (decide (i1183 = (1 : Int)))
     (c1 i1184 (bxor .u16 (if ((IntKind.signed .u16) = true) then (-1 : Int) else (IntKind.max .u16)) i1185) l1190 l1191 l1192
      (fun i1193 i1194 l1195 l1196 l1197 => k0 i1193 i1194 l1195 l1196 l1197))
     (br (decide (i1183 = (3 : Int)))
      (k0 i1186 (0 : Int) l1191 l1192 l1190)
      (c0 (3 : Int) i1184 (0 : Int) x0 (0 : Int) (0 : Int) l1190 l1191 l1192
       (fun i1198 i1199 l1200 l1201 l1202 => k0 i1198 i1199 l1200 l1201 l1202))))))
noncomputable def term_Arena_Not_43b4 (N : Nat) {R : Type} (x0 : Int) (x1 : List ((Int) × ((Int) × ((Int) × ((Int) × ((Int) × (Int))))))) (x2 : List (((Int) × ((Int) × ((Int) × ((Int) × ((Int) × (Int)))))) × (Int))) (x3 : List ((Int) × (Int))) (k0 : (Int) → (Int) → (List (((Int) × ((Int) × ((Int) × ((Int) × ((Int) × (Int)))))) × (Int))) → (List ((Int) × (Int))) → (List ((Int) × ((Int) × ((Int) × ((Int) × ((Int) × (Int))))))) → Option R) : Option R := term_Arena_Not_43b4_T N (@term_Arena_keep_a25e N) (@term_Arena_Const_2c81 N) (@term_Arena_Node_43b4 N) (@term_Arena_there_2549 N) x0 x1 x2 x3 k0
abbrev term_Arena_Two_12d2_Ty : Type 1 := {R : Type} → (Int) → (Int) → (Int) → (List ((Int) × ((Int) × ((Int) × ((Int) × ((Int) × (Int))))))) → (List (((Int) × ((Int) × ((Int) × ((Int) × ((Int) × (Int)))))) × (Int))) → (List ((Int) × (Int))) → ((Int) → (Int) → (List (((Int) × ((Int) × ((Int) × ((Int) × ((Int) × (Int)))))) × (Int))) → (List ((Int) × (Int))) → (List ((Int) × ((Int) × ((Int) × ((Int) × ((Int) × (Int))))))) → Option R) → Option R
abbrev term_Arena_less_12d2_Ty : Type 1 := {R : Type} → (Int) → (Int) → (Int) → (List ((Int) × ((Int) × ((Int) × ((Int) × ((Int) × (Int))))))) → (List (((Int) × ((Int) × ((Int) × ((Int) × ((Int) × (Int)))))) × (Int))) → (List ((Int) × (Int))) → ((Int) → (Int) → (Bool) → (List (((Int) × ((Int) × ((Int) × ((Int) × ((Int) × (Int)))))) × (Int))) → (List ((Int) × (Int))) → (List ((Int) × ((Int) × ((Int) × ((Int) × ((Int) × (Int))))))) → Option R) → Option R
abbrev term_Arena_with_7a2f_Ty : Type 1 := {R : Type} → (Int) → (Int) → (Int) → (List ((Int) × ((Int) × ((Int) × ((Int) × ((Int) × (Int))))))) → (List (((Int) × ((Int) × ((Int) × ((Int) × ((Int) × (Int)))))) × (Int))) → (List ((Int) × (Int))) → ((Int) → (Int) → (Bool) → (List (((Int) × ((Int) × ((Int) × ((Int) × ((Int) × (Int)))))) × (Int))) → (List ((Int) × (Int))) → (List ((Int) × ((Int) × ((Int) × ((Int) × ((Int) × (Int))))))) → Option R) → Option R
abbrev term_Arena_equal_2c81_Ty : Type 1 := {R : Type} → (Int) → (Int) → (List ((Int) × ((Int) × ((Int) × ((Int) × ((Int) × (Int))))))) → (List (((Int) × ((Int) × ((Int) × ((Int) × ((Int) × (Int)))))) × (Int))) → (List ((Int) × (Int))) → ((Int) → (Int) → (Bool) → (List (((Int) × ((Int) × ((Int) × ((Int) × ((Int) × (Int)))))) × (Int))) → (List ((Int) × (Int))) → (List ((Int) × ((Int) × ((Int) × ((Int) × ((Int) × (Int))))))) → Option R) → Option R
noncomputable def term_Arena_Two_12d2_T (N : Nat) (c0 : term_Arena_keep_a25e_Ty) (c1 : term_Arena_less_12d2_Ty) (c2 : term_turns_Ty) (c3 : term_Arena_Const_2c81_Ty) (c4 : wide_Out_Ty) (c5 : wide_Do_Ty) (c6 : term_Arena_Known_43b4_Ty) (c7 : term_Arena_Width_43b4_Ty) (c8 : term_Arena_there_2549_Ty) (c9 : term_two_Ty) {R : Type} (x0 : Int) (x1 : Int) (x2 : Int) (x3 : List ((Int) × ((Int) × ((Int) × ((Int) × ((Int) × (Int))))))) (x4 : List (((Int) × ((Int) × ((Int) × ((Int) × ((Int) × (Int)))))) × (Int))) (x5 : List ((Int) × (Int))) (k0 : (Int) → (Int) → (List (((Int) × ((Int) × ((Int) × ((Int) × ((Int) × (Int)))))) × (Int))) → (List ((Int) × (Int))) → (List ((Int) × ((Int) × ((Int) × ((Int) × ((Int) × (Int))))))) → Option R) : Option R :=
  c9 x0
  (fun b1037 => br (!b1037)
   (k0 (0 : Int) (5 : Int) x4 x5 x3)
   (c8 x3 x4 x5 (x1 :: (x2 :: ([] : List ((Sh.int IntKind.i64).T))))
    (fun b1038 l1039 l1040 l1041 l1042 => br (!b1038)
     (k0 (0 : Int) (1 : Int) l1040 l1041 l1039)
     (c7 x1 l1039 l1040 l1041
      (fun i1043 l1044 l1045 l1046 => c7 x2 l1044 l1045 l1046
       (fun i1047 l1048 l1049 l1050 => br (!(decide (i1043 = i1047)))
        (k0 (0 : Int) (2 : Int) l1049 l1050 l1048)
        (c6 x1 l1048 l1049 l1050
         (fun i1051 b1052 l1053 l1054 l1055 => c6 x2 l1053 l1054 l1055
          (fun i1056 b1057 l1058 l1059 l1060 => br b1052
           (br b1057
            (c7 x1 l1058 l1059 l1060
             (fun i1061 l1062 l1063 l1064 => c5 x0 i1061 i1051 i1056
              (fun i1065 i1066 => c7 x1 l1062 l1063 l1064
               (fun i1067 l1068 l1069 l1070 => c4 x0 i1067
                (fun i1071 => c3 i1071 i1065 l1068 l1069 l1070
                 (fun i1072 i1073 l1074 l1075 l1076 => k0 i1072 i1073 l1074 l1075 l1076))))))
            (c2 x0
             (fun b1077 => br b1077
              (br (decide (x2 < x1))
               (c1 x0 x2 x1 l1058 l1059 l1060
                (fun i1472 i1473 b1474 l1475 l1476 l1477 => br b1474
                 (k0 i1472 i1473 l1475 l1476 l1477)
                 (c7 x2 l1477 l1475 l1476
                  (fun i1478 l1479 l1480 l1481 => c4 x0 i1478
                   (fun i1482 => c0 x0 i1482 (0 : Int) x2 x1 (0 : Int) l1479 l1480 l1481
                    (fun i1483 i1484 l1485 l1486 l1487 => k0 i1483 i1484 l1485 l1486 l1487))))))
               (c1 x0 x1 x2 l1058 l1059 l1060
                (fun i1488 i1489 b1490 l1491 l1492 l1493 => br b1490
                 (k0 i1488 i1489 l1491 l1492 l1493)
                 (c7 x1 l1493 l1491 l1492
                  (fun i1494 l1495 l1496 l1497 => c4 x0 i1494
                   (fun i1498 => c0 x0 i1498 (0 : Int) x1 x2 (0 : Int) l1495 l1496 l1497
                    (fun i1499 i1500 l1501 l1502 l1503 => k0 i1499 i1500 l1501 l1502 l1503)))))))
              (c1 x0 x1 x2 l1058 l1059 l1060
               (fun i1504 i1505 b1506 l1507 l1508 l1509 => br b1506
                (k0 i1504 i1505 l1507 l1508 l1509)
                (c7 x1 l1509 l1507 l1508
                 (fun i1510 l1511 l1512 l1513 => c4 x0 i1510
                  (fun i1514 => c0 x0 i1514 (0 : Int) x1 x2 (0 : Int) l1511 l1512 l1513
                   (fun i1515 i1516 l1517 l1518 l1519 => k0 i1515 i1516 l1517 l1518 l1519)))))))))
           (c2 x0
            (fun b1520 => br b1520
             (br (decide (x2 < x1))
              (c1 x0 x2 x1 l1058 l1059 l1060
               (fun i1521 i1522 b1523 l1524 l1525 l1526 => br b1523
                (k0 i1521 i1522 l1524 l1525 l1526)
                (c7 x2 l1526 l1524 l1525
                 (fun i1527 l1528 l1529 l1530 => c4 x0 i1527
                  (fun i1531 => c0 x0 i1531 (0 : Int) x2 x1 (0 : Int) l1528 l1529 l1530
                   (fun i1532 i1533 l1534 l1535 l1536 => k0 i1532 i1533 l1534 l1535 l1536))))))
              (c1 x0 x1 x2 l1058 l1059 l1060
               (fun i1537 i1538 b1539 l1540 l1541 l1542 => br b1539
                (k0 i1537 i1538 l1540 l1541 l1542)
                (c7 x1 l1542 l1540 l1541
                 (fun i1543 l1544 l1545 l1546 => c4 x0 i1543
                  (fun i1547 => c0 x0 i1547 (0 : Int) x1 x2 (0 : Int) l1544 l1545 l1546
                   (fun i1548 i1549 l1550 l1551 l1552 => k0 i1548 i1549 l1550 l1551 l1552)))))))
             (c1 x0 x1 x2 l1058 l1059 l1060
              (fun i1553 i1554 b1555 l1556 l1557 l1558 => br b1555
               (k0 i1553 i1554 l1556 l1557 l1558)
               (c7 x1 l1558 l1556 l1557
                (fun i1559 l1560 l1561 l1562 => c4 x0 i1559
                 (fun i1563 => c0 x0 i1563 (0 : Int) x1 x2 (0 : Int) l1560 l1561 l1562
                  (fun i1564 i1565 l1566 l1567 l1568 => k0 i1564 i1565 l1566 l1567 l1568)))))))))))))))))
noncomputable def term_Arena_less_12d2_T (N : Nat) (c0 : term_Arena_with_7a2f_Ty) (c1 : term_turns_Ty) (c2 : term_Arena_Known_43b4_Ty) (c3 : term_Arena_alike_99d8_Ty) {R : Type} (x0 : Int) (x1 : Int) (x2 : Int) (x3 : List ((Int) × ((Int) × ((Int) × ((Int) × ((Int) × (Int))))))) (x4 : List (((Int) × ((Int) × ((Int) × ((Int) × ((Int) × (Int)))))) × (Int))) (x5 : List ((Int) × (Int))) (k0 : (Int) → (Int) → (Bool) → (List (((Int) × ((Int) × ((Int) × ((Int) × ((Int) × (Int)))))) × (Int))) → (List ((Int) × (Int))) → (List ((Int) × ((Int) × ((Int) × ((Int) × ((Int) × (Int))))))) → Option R) : Option R :=
  br (decide (x1 = x2))
  (c3 x0 x1 x3 x4 x5
   (fun i1432 i1433 b1434 l1435 l1436 l1437 => k0 i1432 i1433 b1434 l1435 l1436 l1437))
  (c2 x1 x3 x4 x5
   (fun i1438 b1439 l1440 l1441 l1442 => br b1439
    (c1 x0
     (fun b1443 => br b1443
      (c0 x0 x2 i1438 l1440 l1441 l1442
       (fun i1444 i1445 b1446 l1447 l1448 l1449 => k0 i1444 i1445 b1446 l1447 l1448 l1449))
      (c2 x2 l1440 l1441 l1442
       (fun i1450 b1451 l1452 l1453 l1454 => br b1451
        (c0 x0 x1 i1450 l1452 l1453 l1454
         (fun i1455 i1456 b1457 l1458 l1459 l1460 => k0 i1455 i1456 b1457 l1458 l1459 l1460))
        (k0 (0 : Int) (0 : Int) false l1453 l1454 l1452)))))
    (c2 x2 l1440 l1441 l1442
     (fun i1461 b1462 l1463 l1464 l1465 => br b1462
      (c0 x0 x1 i1461 l1463 l1464 l1465
       (fun i1466 i1467 b1468 l1469 l1470 l1471 => k0 i1466 i1467 b1468 l1469 l1470 l1471))
      (k0 (0 : Int) (0 : Int) false l1464 l1465 l1463)))))
noncomputable def term_Arena_with_7a2f_T (N : Nat) (c0 : term_Arena_equal_2c81_Ty) (c1 : wide_Mask_Ty) (c2 : term_Arena_Const_2c81_Ty) (c3 : wide_Out_Ty) (c4 : term_Arena_Width_43b4_Ty) {R : Type} (x0 : Int) (x1 : Int) (x2 : Int) (x3 : List ((Int) × ((Int) × ((Int) × ((Int) × ((Int) × (Int))))))) (x4 : List (((Int) × ((Int) × ((Int) × ((Int) × ((Int) × (Int)))))) × (Int))) (x5 : List ((Int) × (Int))) (k0 : (Int) → (Int) → (Bool) → (List (((Int) × ((Int) × ((Int) × ((Int) × ((Int) × (Int)))))) × (Int))) → (List ((Int) × (Int))) → (List ((Int) × ((Int) × ((Int) × ((Int) × ((Int) × (Int))))))) → Option R) : Option R :=
  c4 x1 x3 x4 x5
  (fun i1137 l1138 l1139 l1140 => br (decide (x2 = (0 : Int)))
   (br (!(decide (x0 = (4 : Int))))
    (br (!(decide (x0 = (9 : Int))))
     (br (decide (x0 = (15 : Int)))
      (c3 x0 i1137
       (fun i1141 => c2 i1141 (0 : Int) l1138 l1139 l1140
        (fun i1142 i1143 l1144 l1145 l1146 => k0 i1142 i1143 true l1144 l1145 l1146)))
      (br (decide (x2 = (0 : Int)))
       (br (!(decide (x0 = (5 : Int))))
        (br (!(decide (x0 = (6 : Int))))
         (br (!(decide (x0 = (7 : Int))))
          (br (!(decide (x0 = (8 : Int))))
           (br (!(decide (x0 = (12 : Int))))
            (br (!(decide (x0 = (13 : Int))))
             (br (decide (x0 = (11 : Int)))
              (k0 x1 (0 : Int) true l1139 l1140 l1138)
              (c1 i1137
               (fun i1147 => br (decide (x2 = i1147))
                (br (!(decide (x0 = (4 : Int))))
                 (br (decide (x2 = (1 : Int)))
                  (br (!(decide (x0 = (9 : Int))))
                   (br (decide (x0 = (10 : Int)))
                    (k0 x1 (0 : Int) true l1139 l1140 l1138)
                    (br (decide (x0 = (14 : Int)))
                     (c0 x1 x2 l1138 l1139 l1140
                      (fun i1304 i1305 b1306 l1307 l1308 l1309 => k0 i1304 i1305 b1306 l1307 l1308 l1309))
                     (k0 (0 : Int) (0 : Int) false l1139 l1140 l1138)))
                   (k0 x1 (0 : Int) true l1139 l1140 l1138))
                  (br (decide (x0 = (14 : Int)))
                   (c0 x1 x2 l1138 l1139 l1140
                    (fun i1310 i1311 b1312 l1313 l1314 l1315 => k0 i1310 i1311 b1312 l1313 l1314 l1315))
                   (k0 (0 : Int) (0 : Int) false l1139 l1140 l1138)))
                 (k0 x1 (0 : Int) true l1139 l1140 l1138))
                (br (decide (x2 = (1 : Int)))
                 (br (!(decide (x0 = (9 : Int))))
                  (br (decide (x0 = (10 : Int)))
                   (k0 x1 (0 : Int) true l1139 l1140 l1138)
                   (br (decide (x0 = (14 : Int)))
                    (c0 x1 x2 l1138 l1139 l1140
                     (fun i1316 i1317 b1318 l1319 l1320 l1321 => k0 i1316 i1317 b1318 l1319 l1320 l1321))
                    (k0 (0 : Int) (0 : Int) false l1139 l1140 l1138)))
                  (k0 x1 (0 : Int) true l1139 l1140 l1138))
                 (br (decide (x0 = (14 : Int)))
                  (c0 x1 x2 l1138 l1139 l1140
                   (fun i1322 i1323 b1324 l1325 l1326 l1327 => k0 i1322 i1323 b1324 l1325 l1326 l1327))
                  (k0 (0 : Int) (0 : Int) false l1139 l1140 l1138))))))
             (k0 x1 (0 : Int) true l1139 l1140 l1138))
            (k0 x1 (0 : Int) true l1139 l1140 l1138))
           (k0 x1 (0 : Int) true l1139 l1140 l1138))
          (k0 x1 (0 : Int) true l1139 l1140 l1138))
         (k0 x1 (0 : Int) true l1139 l1140 l1138))
        (k0 x1 (0 : Int) true l1139 l1140 l1138))
       (c1 i1137
        (fun i1328 => br (decide (x2 = i1328))
         (br (!(decide (x0 = (4 : Int))))
          (br (decide (x2 = (1 : Int)))
           (br (!(decide (x0 = (9 : Int))))
            (br (decide (x0 = (10 : Int)))
             (k0 x1 (0 : Int) true l1139 l1140 l1138)
             (br (decide (x0 = (14 : Int)))
              (c0 x1 x2 l1138 l1139 l1140
               (fun i1329 i1330 b1331 l1332 l1333 l1334 => k0 i1329 i1330 b1331 l1332 l1333 l1334))
              (k0 (0 : Int) (0 : Int) false l1139 l1140 l1138)))
            (k0 x1 (0 : Int) true l1139 l1140 l1138))
           (br (decide (x0 = (14 : Int)))
            (c0 x1 x2 l1138 l1139 l1140
             (fun i1335 i1336 b1337 l1338 l1339 l1340 => k0 i1335 i1336 b1337 l1338 l1339 l1340))
            (k0 (0 : Int) (0 : Int) false l1139 l1140 l1138)))
          (k0 x1 (0 : Int) true l1139 l1140 l1138))
         (br (decide (x2 = (1 : Int)))
          (br (!(decide (x0 = (9 : Int))))
           (br (decide (x0 = (10 : Int)))
            (k0 x1 (0 : Int) true l1139 l1140 l1138)
            (br (decide (x0 = (14 : Int)))
             (c0 x1 x2 l1138 l1139 l1140
              (fun i1341 i1342 b1343 l1344 l1345 l1346 => k0 i1341 i1342 b1343 l1344 l1345 l1346))
             (k0 (0 : Int) (0 : Int) false l1139 l1140 l1138)))
           (k0 x1 (0 : Int) true l1139 l1140 l1138))
          (br (decide (x0 = (14 : Int)))
           (c0 x1 x2 l1138 l1139 l1140
            (fun i1347 i1348 b1349 l1350 l1351 l1352 => k0 i1347 i1348 b1349 l1350 l1351 l1352))
           (k0 (0 : Int) (0 : Int) false l1139 l1140 l1138)))))))
     (c3 x0 i1137
      (fun i1353 => c2 i1353 (0 : Int) l1138 l1139 l1140
       (fun i1354 i1355 l1356 l1357 l1358 => k0 i1354 i1355 true l1356 l1357 l1358))))
    (c3 x0 i1137
     (fun i1359 => c2 i1359 (0 : Int) l1138 l1139 l1140
      (fun i1360 i1361 l1362 l1363 l1364 => k0 i1360 i1361 true l1362 l1363 l1364))))
   (br (decide (x2 = (0 : Int)))
    (br (!(decide (x0 = (5 : Int))))
     (br (!(decide (x0 = (6 : Int))))
      (br (!(decide (x0 = (7 : Int))))
       (br (!(decide (x0 = (8 : Int))))
        (br (!(decide (x0 = (12 : Int))))
         (br (!(decide (x0 = (13 : Int))))
          (br (decide (x0 = (11 : Int)))
           (k0 x1 (0 : Int) true l1139 l1140 l1138)
           (c1 i1137
            (fun i1365 => br (decide (x2 = i1365))
             (br (!(decide (x0 = (4 : Int))))
              (br (decide (x2 = (1 : Int)))
               (br (!(decide (x0 = (9 : Int))))
                (br (decide (x0 = (10 : Int)))
                 (k0 x1 (0 : Int) true l1139 l1140 l1138)
                 (br (decide (x0 = (14 : Int)))
                  (c0 x1 x2 l1138 l1139 l1140
                   (fun i1366 i1367 b1368 l1369 l1370 l1371 => k0 i1366 i1367 b1368 l1369 l1370 l1371))
                  (k0 (0 : Int) (0 : Int) false l1139 l1140 l1138)))
                (k0 x1 (0 : Int) true l1139 l1140 l1138))
               (br (decide (x0 = (14 : Int)))
                (c0 x1 x2 l1138 l1139 l1140
                 (fun i1372 i1373 b1374 l1375 l1376 l1377 => k0 i1372 i1373 b1374 l1375 l1376 l1377))
                (k0 (0 : Int) (0 : Int) false l1139 l1140 l1138)))
              (k0 x1 (0 : Int) true l1139 l1140 l1138))
             (br (decide (x2 = (1 : Int)))
              (br (!(decide (x0 = (9 : Int))))
               (br (decide (x0 = (10 : Int)))
                (k0 x1 (0 : Int) true l1139 l1140 l1138)
                (br (decide (x0 = (14 : Int)))
                 (c0 x1 x2 l1138 l1139 l1140
                  (fun i1378 i1379 b1380 l1381 l1382 l1383 => k0 i1378 i1379 b1380 l1381 l1382 l1383))
                 (k0 (0 : Int) (0 : Int) false l1139 l1140 l1138)))
               (k0 x1 (0 : Int) true l1139 l1140 l1138))
              (br (decide (x0 = (14 : Int)))
               (c0 x1 x2 l1138 l1139 l1140
                (fun i1384 i1385 b1386 l1387 l1388 l1389 => k0 i1384 i1385 b1386 l1387 l1388 l1389))
               (k0 (0 : Int) (0 : Int) false l1139 l1140 l1138))))))
          (k0 x1 (0 : Int) true l1139 l1140 l1138))
         (k0 x1 (0 : Int) true l1139 l1140 l1138))
        (k0 x1 (0 : Int) true l1139 l1140 l1138))
       (k0 x1 (0 : Int) true l1139 l1140 l1138))
      (k0 x1 (0 : Int) true l1139 l1140 l1138))
     (k0 x1 (0 : Int) true l1139 l1140 l1138))
    (c1 i1137
     (fun i1390 => br (decide (x2 = i1390))
      (br (!(decide (x0 = (4 : Int))))
       (br (decide (x2 = (1 : Int)))
        (br (!(decide (x0 = (9 : Int))))
         (br (decide (x0 = (10 : Int)))
          (k0 x1 (0 : Int) true l1139 l1140 l1138)
          (br (decide (x0 = (14 : Int)))
           (c0 x1 x2 l1138 l1139 l1140
            (fun i1391 i1392 b1393 l1394 l1395 l1396 => k0 i1391 i1392 b1393 l1394 l1395 l1396))
           (k0 (0 : Int) (0 : Int) false l1139 l1140 l1138)))
         (k0 x1 (0 : Int) true l1139 l1140 l1138))
        (br (decide (x0 = (14 : Int)))
         (c0 x1 x2 l1138 l1139 l1140
          (fun i1397 i1398 b1399 l1400 l1401 l1402 => k0 i1397 i1398 b1399 l1400 l1401 l1402))
         (k0 (0 : Int) (0 : Int) false l1139 l1140 l1138)))
       (k0 x1 (0 : Int) true l1139 l1140 l1138))
      (br (decide (x2 = (1 : Int)))
       (br (!(decide (x0 = (9 : Int))))
        (br (decide (x0 = (10 : Int)))
         (k0 x1 (0 : Int) true l1139 l1140 l1138)
         (br (decide (x0 = (14 : Int)))
          (c0 x1 x2 l1138 l1139 l1140
           (fun i1403 i1404 b1405 l1406 l1407 l1408 => k0 i1403 i1404 b1405 l1406 l1407 l1408))
          (k0 (0 : Int) (0 : Int) false l1139 l1140 l1138)))
        (k0 x1 (0 : Int) true l1139 l1140 l1138))
       (br (decide (x0 = (14 : Int)))
        (c0 x1 x2 l1138 l1139 l1140
         (fun i1409 i1410 b1411 l1412 l1413 l1414 => k0 i1409 i1410 b1411 l1412 l1413 l1414))
        (k0 (0 : Int) (0 : Int) false l1139 l1140 l1138)))))))
noncomputable def term_Arena_equal_2c81_T (N : Nat) (c0 : term_Arena_Two_12d2_Ty) (c1 : term_Arena_Const_2c81_Ty) (c2 : wide_Mask_Ty) (c3 : term_Arena_Width_43b4_Ty) (c4 : term_Arena_Not_43b4_Ty) (c5 : term_Arena_Node_43b4_Ty) {R : Type} (x0 : Int) (x1 : Int) (x2 : List ((Int) × ((Int) × ((Int) × ((Int) × ((Int) × (Int))))))) (x3 : List (((Int) × ((Int) × ((Int) × ((Int) × ((Int) × (Int)))))) × (Int))) (x4 : List ((Int) × (Int))) (k0 : (Int) → (Int) → (Bool) → (List (((Int) × ((Int) × ((Int) × ((Int) × ((Int) × (Int)))))) × (Int))) → (List ((Int) × (Int))) → (List ((Int) × ((Int) × ((Int) × ((Int) × ((Int) × (Int))))))) → Option R) : Option R :=
  c5 x0 x2 x3 x4
  (fun i1208 i1209 i1210 i1211 i1212 i1213 b1214 l1215 l1216 l1217 => br (decide (i1209 = (1 : Int)))
   (br (decide (x1 = (1 : Int)))
    (k0 x0 (0 : Int) true l1216 l1217 l1215)
    (br (decide (i1209 = (1 : Int)))
     (c4 x0 l1215 l1216 l1217
      (fun i1218 i1219 l1220 l1221 l1222 => k0 i1218 i1219 true l1220 l1221 l1222))
     (br (decide (i1208 = (17 : Int)))
      (c3 i1211 l1215 l1216 l1217
       (fun i1223 l1224 l1225 l1226 => c2 i1223
        (fun i1227 => br (decide (i1227 < x1))
         (c1 (1 : Int) (0 : Int) l1224 l1225 l1226
          (fun i1228 i1229 l1230 l1231 l1232 => k0 i1228 i1229 true l1230 l1231 l1232))
         (br (decide (i1208 = (17 : Int)))
          (c3 i1211 l1224 l1225 l1226
           (fun i1233 l1234 l1235 l1236 => c1 i1233 x1 l1234 l1235 l1236
            (fun i1237 i1238 l1239 l1240 l1241 => br (!(decide (i1238 = (0 : Int))))
             (k0 (0 : Int) i1238 true l1239 l1240 l1241)
             (c0 (14 : Int) i1211 i1237 l1241 l1239 l1240
              (fun i1242 i1243 l1244 l1245 l1246 => k0 i1242 i1243 true l1244 l1245 l1246)))))
          (k0 (0 : Int) (0 : Int) false l1225 l1226 l1224)))))
      (br (decide (i1208 = (17 : Int)))
       (c3 i1211 l1215 l1216 l1217
        (fun i1247 l1248 l1249 l1250 => c1 i1247 x1 l1248 l1249 l1250
         (fun i1251 i1252 l1253 l1254 l1255 => br (!(decide (i1252 = (0 : Int))))
          (k0 (0 : Int) i1252 true l1253 l1254 l1255)
          (c0 (14 : Int) i1211 i1251 l1255 l1253 l1254
           (fun i1256 i1257 l1258 l1259 l1260 => k0 i1256 i1257 true l1258 l1259 l1260)))))
       (k0 (0 : Int) (0 : Int) false l1216 l1217 l1215)))))
   (br (decide (i1209 = (1 : Int)))
    (c4 x0 l1215 l1216 l1217
     (fun i1261 i1262 l1263 l1264 l1265 => k0 i1261 i1262 true l1263 l1264 l1265))
    (br (decide (i1208 = (17 : Int)))
     (c3 i1211 l1215 l1216 l1217
      (fun i1266 l1267 l1268 l1269 => c2 i1266
       (fun i1270 => br (decide (i1270 < x1))
        (c1 (1 : Int) (0 : Int) l1267 l1268 l1269
         (fun i1271 i1272 l1273 l1274 l1275 => k0 i1271 i1272 true l1273 l1274 l1275))
        (br (decide (i1208 = (17 : Int)))
         (c3 i1211 l1267 l1268 l1269
          (fun i1276 l1277 l1278 l1279 => c1 i1276 x1 l1277 l1278 l1279
           (fun i1280 i1281 l1282 l1283 l1284 => br (!(decide (i1281 = (0 : Int))))
            (k0 (0 : Int) i1281 true l1282 l1283 l1284)
            (c0 (14 : Int) i1211 i1280 l1284 l1282 l1283
             (fun i1285 i1286 l1287 l1288 l1289 => k0 i1285 i1286 true l1287 l1288 l1289)))))
         (k0 (0 : Int) (0 : Int) false l1268 l1269 l1267)))))
     (br (decide (i1208 = (17 : Int)))
      (c3 i1211 l1215 l1216 l1217
       (fun i1290 l1291 l1292 l1293 => c1 i1290 x1 l1291 l1292 l1293
        (fun i1294 i1295 l1296 l1297 l1298 => br (!(decide (i1295 = (0 : Int))))
         (k0 (0 : Int) i1295 true l1296 l1297 l1298)
         (c0 (14 : Int) i1211 i1294 l1298 l1296 l1297
          (fun i1299 i1300 l1301 l1302 l1303 => k0 i1299 i1300 true l1301 l1302 l1303)))))
      (k0 (0 : Int) (0 : Int) false l1216 l1217 l1215)))))
structure G_term_Arena_Two_Rec : Type 1 where
  term_Arena_Two_12d2 : term_Arena_Two_12d2_Ty
  term_Arena_less_12d2 : term_Arena_less_12d2_Ty
  term_Arena_with_7a2f : term_Arena_with_7a2f_Ty
  term_Arena_equal_2c81 : term_Arena_equal_2c81_Ty
noncomputable def G_term_Arena_Two_rec (N : Nat) : Nat → G_term_Arena_Two_Rec
  | 0 => ⟨fun {R} _ _ _ _ _ _ _ => none, fun {R} _ _ _ _ _ _ _ => none, fun {R} _ _ _ _ _ _ _ => none, fun {R} _ _ _ _ _ _ => none⟩
  | n + 1 => ⟨fun {R} x0 x1 x2 x3 x4 x5 k0 => term_Arena_Two_12d2_T N (@term_Arena_keep_a25e N) (@G_term_Arena_Two_Rec.term_Arena_less_12d2 (G_term_Arena_Two_rec N n)) (@term_turns N) (@term_Arena_Const_2c81 N) (@wide_Out N) (@wide_Do N) (@term_Arena_Known_43b4 N) (@term_Arena_Width_43b4 N) (@term_Arena_there_2549 N) (@term_two N) x0 x1 x2 x3 x4 x5 k0,
    fun {R} x0 x1 x2 x3 x4 x5 k0 => term_Arena_less_12d2_T N (@G_term_Arena_Two_Rec.term_Arena_with_7a2f (G_term_Arena_Two_rec N n)) (@term_turns N) (@term_Arena_Known_43b4 N) (@term_Arena_alike_99d8 N) x0 x1 x2 x3 x4 x5 k0,
    fun {R} x0 x1 x2 x3 x4 x5 k0 => term_Arena_with_7a2f_T N (@G_term_Arena_Two_Rec.term_Arena_equal_2c81 (G_term_Arena_Two_rec N n)) (@wide_Mask N) (@term_Arena_Const_2c81 N) (@wide_Out N) (@term_Arena_Width_43b4 N) x0 x1 x2 x3 x4 x5 k0,
    fun {R} x0 x1 x2 x3 x4 k0 => term_Arena_equal_2c81_T N (@G_term_Arena_Two_Rec.term_Arena_Two_12d2 (G_term_Arena_Two_rec N n)) (@term_Arena_Const_2c81 N) (@wide_Mask N) (@term_Arena_Width_43b4 N) (@term_Arena_Not_43b4 N) (@term_Arena_Node_43b4 N) x0 x1 x2 x3 x4 k0⟩
noncomputable def term_Arena_Two_12d2 (N : Nat) {R : Type} (x0 : Int) (x1 : Int) (x2 : Int) (x3 : List ((Int) × ((Int) × ((Int) × ((Int) × ((Int) × (Int))))))) (x4 : List (((Int) × ((Int) × ((Int) × ((Int) × ((Int) × (Int)))))) × (Int))) (x5 : List ((Int) × (Int))) (k0 : (Int) → (Int) → (List (((Int) × ((Int) × ((Int) × ((Int) × ((Int) × (Int)))))) × (Int))) → (List ((Int) × (Int))) → (List ((Int) × ((Int) × ((Int) × ((Int) × ((Int) × (Int))))))) → Option R) : Option R := (G_term_Arena_Two_rec N N).term_Arena_Two_12d2 x0 x1 x2 x3 x4 x5 k0
noncomputable def term_Arena_less_12d2 (N : Nat) {R : Type} (x0 : Int) (x1 : Int) (x2 : Int) (x3 : List ((Int) × ((Int) × ((Int) × ((Int) × ((Int) × (Int))))))) (x4 : List (((Int) × ((Int) × ((Int) × ((Int) × ((Int) × (Int)))))) × (Int))) (x5 : List ((Int) × (Int))) (k0 : (Int) → (Int) → (Bool) → (List (((Int) × ((Int) × ((Int) × ((Int) × ((Int) × (Int)))))) × (Int))) → (List ((Int) × (Int))) → (List ((Int) × ((Int) × ((Int) × ((Int) × ((Int) × (Int))))))) → Option R) : Option R := (G_term_Arena_Two_rec N N).term_Arena_less_12d2 x0 x1 x2 x3 x4 x5 k0
noncomputable def term_Arena_with_7a2f (N : Nat) {R : Type} (x0 : Int) (x1 : Int) (x2 : Int) (x3 : List ((Int) × ((Int) × ((Int) × ((Int) × ((Int) × (Int))))))) (x4 : List (((Int) × ((Int) × ((Int) × ((Int) × ((Int) × (Int)))))) × (Int))) (x5 : List ((Int) × (Int))) (k0 : (Int) → (Int) → (Bool) → (List (((Int) × ((Int) × ((Int) × ((Int) × ((Int) × (Int)))))) × (Int))) → (List ((Int) × (Int))) → (List ((Int) × ((Int) × ((Int) × ((Int) × ((Int) × (Int))))))) → Option R) : Option R := (G_term_Arena_Two_rec N N).term_Arena_with_7a2f x0 x1 x2 x3 x4 x5 k0
noncomputable def term_Arena_equal_2c81 (N : Nat) {R : Type} (x0 : Int) (x1 : Int) (x2 : List ((Int) × ((Int) × ((Int) × ((Int) × ((Int) × (Int))))))) (x3 : List (((Int) × ((Int) × ((Int) × ((Int) × ((Int) × (Int)))))) × (Int))) (x4 : List ((Int) × (Int))) (k0 : (Int) → (Int) → (Bool) → (List (((Int) × ((Int) × ((Int) × ((Int) × ((Int) × (Int)))))) × (Int))) → (List ((Int) × (Int))) → (List ((Int) × ((Int) × ((Int) × ((Int) × ((Int) × (Int))))))) → Option R) : Option R := (G_term_Arena_Two_rec N N).term_Arena_equal_2c81 x0 x1 x2 x3 x4 k0
abbrev cast_maker_two_8916_Ty : Type 1 := {R : Type} → (Int) → (Int) → (Int) → (Int) → (List ((Int) × ((Int) × ((Int) × ((Int) × ((Int) × (Int))))))) → (List (((Int) × ((Int) × ((Int) × ((Int) × ((Int) × (Int)))))) × (Int))) → (List ((Int) × (Int))) → ((Int) → (Int) → (List (((Int) × ((Int) × ((Int) × ((Int) × ((Int) × (Int)))))) × (Int))) → (List ((Int) × (Int))) → (List ((Int) × ((Int) × ((Int) × ((Int) × ((Int) × (Int))))))) → Option R) → Option R
noncomputable def cast_maker_two_8916_T (N : Nat) (c0 : cast_maker_keep_9e9f_Ty) (c1 : term_Arena_Two_12d2_Ty) {R : Type} (x0 : Int) (x1 : Int) (x2 : Int) (x3 : Int) (x4 : List ((Int) × ((Int) × ((Int) × ((Int) × ((Int) × (Int))))))) (x5 : List (((Int) × ((Int) × ((Int) × ((Int) × ((Int) × (Int)))))) × (Int))) (x6 : List ((Int) × (Int))) (k0 : (Int) → (Int) → (List (((Int) × ((Int) × ((Int) × ((Int) × ((Int) × (Int)))))) × (Int))) → (List ((Int) × (Int))) → (List ((Int) × ((Int) × ((Int) × ((Int) × ((Int) × (Int))))))) → Option R) : Option R :=
  br (!(decide (x3 = (0 : Int))))
  (k0 (0 : Int) x3 x5 x6 x4)
  (c1 x0 x1 x2 x4 x5 x6
   (fun i1579 i1580 l1581 l1582 l1583 => c0 i1579 i1580 x3 l1583 l1581 l1582
    (fun i1584 i1585 l1586 l1587 l1588 => k0 i1584 i1585 l1587 l1588 l1586)))
noncomputable def cast_maker_two_8916 (N : Nat) {R : Type} (x0 : Int) (x1 : Int) (x2 : Int) (x3 : Int) (x4 : List ((Int) × ((Int) × ((Int) × ((Int) × ((Int) × (Int))))))) (x5 : List (((Int) × ((Int) × ((Int) × ((Int) × ((Int) × (Int)))))) × (Int))) (x6 : List ((Int) × (Int))) (k0 : (Int) → (Int) → (List (((Int) × ((Int) × ((Int) × ((Int) × ((Int) × (Int)))))) × (Int))) → (List ((Int) × (Int))) → (List ((Int) × ((Int) × ((Int) × ((Int) × ((Int) × (Int))))))) → Option R) : Option R := cast_maker_two_8916_T N (@cast_maker_keep_9e9f N) (@term_Arena_Two_12d2 N) x0 x1 x2 x3 x4 x5 x6 k0
abbrev term_Arena_Ext_99d8_Ty : Type 1 := {R : Type} → (Int) → (Int) → (List ((Int) × ((Int) × ((Int) × ((Int) × ((Int) × (Int))))))) → (List (((Int) × ((Int) × ((Int) × ((Int) × ((Int) × (Int)))))) × (Int))) → (List ((Int) × (Int))) → ((Int) → (Int) → (List (((Int) × ((Int) × ((Int) × ((Int) × ((Int) × (Int)))))) × (Int))) → (List ((Int) × (Int))) → (List ((Int) × ((Int) × ((Int) × ((Int) × ((Int) × (Int))))))) → Option R) → Option R
noncomputable def term_Arena_Ext_99d8_T (N : Nat) (c0 : term_Arena_keep_a25e_Ty) (c1 : term_Arena_Ext_99d8_Ty) (c2 : term_Arena_Const_2c81_Ty) (c3 : wide_May_Ty) (c4 : term_Arena_Node_43b4_Ty) {R : Type} (x0 : Int) (x1 : Int) (x2 : List ((Int) × ((Int) × ((Int) × ((Int) × ((Int) × (Int))))))) (x3 : List (((Int) × ((Int) × ((Int) × ((Int) × ((Int) × (Int)))))) × (Int))) (x4 : List ((Int) × (Int))) (k0 : (Int) → (Int) → (List (((Int) × ((Int) × ((Int) × ((Int) × ((Int) × (Int)))))) × (Int))) → (List ((Int) × (Int))) → (List ((Int) × ((Int) × ((Int) × ((Int) × ((Int) × (Int))))))) → Option R) : Option R :=
  c4 x1 x2 x3 x4
  (fun i1744 i1745 i1746 i1747 i1748 i1749 b1750 l1751 l1752 l1753 => br (!b1750)
   (k0 (0 : Int) (1 : Int) l1752 l1753 l1751)
   (c3 x0
    (fun b1754 => br (!(!b1754))
     (br (decide (x0 < i1745))
      (k0 (0 : Int) (2 : Int) l1752 l1753 l1751)
      (br (decide (x0 = i1745))
       (k0 x1 (0 : Int) l1752 l1753 l1751)
       (br (decide (i1744 = (1 : Int)))
        (c2 x0 i1746 l1751 l1752 l1753
         (fun i1755 i1756 l1757 l1758 l1759 => k0 i1755 i1756 l1757 l1758 l1759))
        (br (decide (i1744 = (17 : Int)))
         (c1 x0 i1747 l1751 l1752 l1753
          (fun i1760 i1761 l1762 l1763 l1764 => k0 i1760 i1761 l1762 l1763 l1764))
         (c0 (17 : Int) x0 (0 : Int) x1 (0 : Int) (0 : Int) l1751 l1752 l1753
          (fun i1765 i1766 l1767 l1768 l1769 => k0 i1765 i1766 l1767 l1768 l1769))))))
     (k0 (0 : Int) (2 : Int) l1752 l1753 l1751))))
structure G_term_Arena_Ext_Rec : Type 1 where
  term_Arena_Ext_99d8 : term_Arena_Ext_99d8_Ty
noncomputable def G_term_Arena_Ext_rec (N : Nat) : Nat → G_term_Arena_Ext_Rec
  | 0 => ⟨fun {R} _ _ _ _ _ _ => none⟩
  | n + 1 => ⟨fun {R} x0 x1 x2 x3 x4 k0 => term_Arena_Ext_99d8_T N (@term_Arena_keep_a25e N) (@G_term_Arena_Ext_Rec.term_Arena_Ext_99d8 (G_term_Arena_Ext_rec N n)) (@term_Arena_Const_2c81 N) (@wide_May N) (@term_Arena_Node_43b4 N) x0 x1 x2 x3 x4 k0⟩
noncomputable def term_Arena_Ext_99d8 (N : Nat) {R : Type} (x0 : Int) (x1 : Int) (x2 : List ((Int) × ((Int) × ((Int) × ((Int) × ((Int) × (Int))))))) (x3 : List (((Int) × ((Int) × ((Int) × ((Int) × ((Int) × (Int)))))) × (Int))) (x4 : List ((Int) × (Int))) (k0 : (Int) → (Int) → (List (((Int) × ((Int) × ((Int) × ((Int) × ((Int) × (Int)))))) × (Int))) → (List ((Int) × (Int))) → (List ((Int) × ((Int) × ((Int) × ((Int) × ((Int) × (Int))))))) → Option R) : Option R := (G_term_Arena_Ext_rec N N).term_Arena_Ext_99d8 x0 x1 x2 x3 x4 k0
abbrev cast_Premise_d8eb_l0_Ty : Type 1 := {R : Type} → ((List (((Int) × ((Int) × ((Int) × ((Int) × ((Int) × (Int)))))) × (Int))) → (List ((Int) × (Int))) → (List ((Int) × ((Int) × ((Int) × ((Int) × ((Int) × (Int))))))) → (Int) → (Int) → (Int) → (List ((ByteArray) × ((Bool) × (Int)))) → (List (Int)) → (Int) → (List (Int)) → Option R) → Nat → (Int) → (Int) → (List (((Int) × ((Int) × ((Int) × ((Int) × ((Int) × (Int)))))) × (Int))) → (List ((Int) × (Int))) → (List ((Int) × ((Int) × ((Int) × ((Int) × ((Int) × (Int))))))) → (Int) → (Int) → (Int) → (List ((ByteArray) × ((Bool) × (Int)))) → (List (Int)) → (Int) → (List (Int)) → (List (Int)) → Option R
abbrev cast_Premise_d8eb_l1_Ty : Type 1 := {R : Type} → ((Int) → (Int) → (List (((Int) × ((Int) × ((Int) × ((Int) × ((Int) × (Int)))))) × (Int))) → (List ((Int) × (Int))) → (List ((Int) × ((Int) × ((Int) × ((Int) × ((Int) × (Int))))))) → (Int) → (Int) → (Int) → (List ((ByteArray) × ((Bool) × (Int)))) → (List (Int)) → (Int) → (List (Int)) → (List (Int)) → Option R) → Nat → (Int) → (Int) → (Int) → (Int) → (Int) → (Int) → (List (((Int) × ((Int) × ((Int) × ((Int) × ((Int) × (Int)))))) × (Int))) → (List ((Int) × (Int))) → (List ((Int) × ((Int) × ((Int) × ((Int) × ((Int) × (Int))))))) → (Int) → (Int) → (Int) → (List ((ByteArray) × ((Bool) × (Int)))) → (List (Int)) → (Int) → (List (Int)) → (List (Int)) → Option R
abbrev cast_Premise_d8eb_l2_Ty : Type 1 := {R : Type} → ((Int) → (List (((Int) × ((Int) × ((Int) × ((Int) × ((Int) × (Int)))))) × (Int))) → (List ((Int) × (Int))) → (List ((Int) × ((Int) × ((Int) × ((Int) × ((Int) × (Int))))))) → (Int) → (Int) → (Int) → (List ((ByteArray) × ((Bool) × (Int)))) → (List (Int)) → (Int) → (List (Int)) → Option R) → Nat → (Int) → (Int) → (Int) → (List (((Int) × ((Int) × ((Int) × ((Int) × ((Int) × (Int)))))) × (Int))) → (List ((Int) × (Int))) → (List ((Int) × ((Int) × ((Int) × ((Int) × ((Int) × (Int))))))) → (Int) → (Int) → (Int) → (List ((ByteArray) × ((Bool) × (Int)))) → (List (Int)) → (Int) → (List (Int)) → Option R
abbrev cast_Premise_d8eb_Ty : Type 1 := {R : Type} → (Int) → (Int) → (Int) → (List ((Int) × ((Int) × ((Int) × ((Int) × ((Int) × (Int))))))) → (List (((Int) × ((Int) × ((Int) × ((Int) × ((Int) × (Int)))))) × (Int))) → (List ((Int) × (Int))) → ((Int) → (List (((Int) × ((Int) × ((Int) × ((Int) × ((Int) × (Int)))))) × (Int))) → (List ((Int) × (Int))) → (List ((Int) × ((Int) × ((Int) × ((Int) × ((Int) × (Int))))))) → (List (Int)) → Option R) → Option R
noncomputable def cast_Premise_d8eb_l0_T0 (N : Nat) (c0 : cast_maker_keep_9e9f_Ty) (c1 : term_Arena_Ext_99d8_Ty) (c2 : cast_Fail_9e58_Ty) (c3 : cast_maker_two_8916_Ty) (c4 : cast_maker_number_2f2a_Ty) (c5 : cast_maker_variable_9e9f_Ty) (c6 : cast_Size_9e58_Ty) (c7 : class_Caps_66e6_Ty) (c8 : class_May_66e6_Ty) (w1 : cast_Premise_d8eb_l1_Ty) (w2 : cast_Premise_d8eb_l2_Ty) {R : Type} (nx : (Int) → (Int) → (List (((Int) × ((Int) × ((Int) × ((Int) × ((Int) × (Int)))))) × (Int))) → (List ((Int) × (Int))) → (List ((Int) × ((Int) × ((Int) × ((Int) × ((Int) × (Int))))))) → (Int) → (Int) → (Int) → (List ((ByteArray) × ((Bool) × (Int)))) → (List (Int)) → (Int) → (List (Int)) → (List (Int)) → Option R) (k0 : (List (((Int) × ((Int) × ((Int) × ((Int) × ((Int) × (Int)))))) × (Int))) → (List ((Int) × (Int))) → (List ((Int) × ((Int) × ((Int) × ((Int) × ((Int) × (Int))))))) → (Int) → (Int) → (Int) → (List ((ByteArray) × ((Bool) × (Int)))) → (List (Int)) → (Int) → (List (Int)) → Option R) (x0 : Int) (x1 : Int) (x2 : List (((Int) × ((Int) × ((Int) × ((Int) × ((Int) × (Int)))))) × (Int))) (x3 : List ((Int) × (Int))) (x4 : List ((Int) × ((Int) × ((Int) × ((Int) × ((Int) × (Int))))))) (x5 : Int) (x6 : Int) (x7 : Int) (x8 : List ((ByteArray) × ((Bool) × (Int)))) (x9 : List (Int)) (x10 : Int) (x11 : List (Int)) (x12 : List (Int)) : Option R :=
  br (decide (x1 < x0))
  (br (inB x1 (List.length x12))
   (br (decide ((Int.toNat x1) < (List.length x12)))
    (c6 x5 x6 x7 x1 x8 x9
     (fun i1939 l1940 l1941 => c5 (8 : Int) i1939 x10 x4 x2 x3
      (fun i1942 i1943 l1944 l1945 l1946 => c4 (IntKind.wrap .i64 ((List.getD x12 (Int.toNat x1) (0 : Int)) + (1 : Int))) i1943 l1946 l1944 l1945
       (fun i1947 i1948 l1949 l1950 l1951 => c3 (15 : Int) i1942 i1947 i1948 l1951 l1949 l1950
        (fun i1952 i1953 l1954 l1955 l1956 => br (((fits (0 : Nat) (List.length x11) x11) && (decide ((((List.length x11) + (1 : Nat)) * (8 : Nat)) ≤ (70368744177664 : Nat)))) && true)
         (w1
          (fun i1987 i1988 l1989 l1990 l1991 i1992 i1993 i1994 l1995 l1996 i1997 l1998 l1999 => nx i1987 (IntKind.wrap .i64 (i1988 + (1 : Int))) l1989 l1990 l1991 i1992 i1993 i1994 l1995 l1996 i1997 l1998 l1999)
          N i1939 i1942 x0 x1 (List.getD x12 (Int.toNat x1) (0 : Int)) (0 : Int) l1954 l1955 l1956 x5 x6 x7 l1940 l1941 i1953 ((sub x11 (0 : Nat) (List.length x11)) ++ (i1952 :: ([] : List ((Sh.int IntKind.i64).T)))) x12)
         (none))))))
    (none))
   (none))
  (k0 x2 x3 x4 x5 x6 x7 x8 x9 x10 x11)
noncomputable def cast_Premise_d8eb_l1_T0 (N : Nat) (c0 : cast_maker_keep_9e9f_Ty) (c1 : term_Arena_Ext_99d8_Ty) (c2 : cast_Fail_9e58_Ty) (c3 : cast_maker_two_8916_Ty) (c4 : cast_maker_number_2f2a_Ty) (c5 : cast_maker_variable_9e9f_Ty) (c6 : cast_Size_9e58_Ty) (c7 : class_Caps_66e6_Ty) (c8 : class_May_66e6_Ty) (w2 : cast_Premise_d8eb_l2_Ty) {R : Type} (nx : (Int) → (Int) → (Int) → (Int) → (Int) → (Int) → (List (((Int) × ((Int) × ((Int) × ((Int) × ((Int) × (Int)))))) × (Int))) → (List ((Int) × (Int))) → (List ((Int) × ((Int) × ((Int) × ((Int) × ((Int) × (Int))))))) → (Int) → (Int) → (Int) → (List ((ByteArray) × ((Bool) × (Int)))) → (List (Int)) → (Int) → (List (Int)) → (List (Int)) → Option R) (k0 : (Int) → (Int) → (List (((Int) × ((Int) × ((Int) × ((Int) × ((Int) × (Int)))))) × (Int))) → (List ((Int) × (Int))) → (List ((Int) × ((Int) × ((Int) × ((Int) × ((Int) × (Int))))))) → (Int) → (Int) → (Int) → (List ((ByteArray) × ((Bool) × (Int)))) → (List (Int)) → (Int) → (List (Int)) → (List (Int)) → Option R) (x0 : Int) (x1 : Int) (x2 : Int) (x3 : Int) (x4 : Int) (x5 : Int) (x6 : List (((Int) × ((Int) × ((Int) × ((Int) × ((Int) × (Int)))))) × (Int))) (x7 : List ((Int) × (Int))) (x8 : List ((Int) × ((Int) × ((Int) × ((Int) × ((Int) × (Int))))))) (x9 : Int) (x10 : Int) (x11 : Int) (x12 : List ((ByteArray) × ((Bool) × (Int)))) (x13 : List (Int)) (x14 : Int) (x15 : List (Int)) (x16 : List (Int)) : Option R :=
  br (decide (x5 < x4))
  (c4 x5 x14 x8 x6 x7
   (fun i1957 i1958 l1959 l1960 l1961 => c3 (15 : Int) i1957 x1 i1958 l1961 l1959 l1960
    (fun i1962 i1963 l1964 l1965 l1966 => c5 (8 : Int) (IntKind.wrap .i64 ((IntKind.wrap .i64 (x0 + (1 : Int))) + x5)) i1963 l1966 l1964 l1965
     (fun i1967 i1968 l1969 l1970 l1971 => c4 (0 : Int) i1968 l1971 l1969 l1970
      (fun i1972 i1973 l1974 l1975 l1976 => c3 (14 : Int) i1967 i1972 i1973 l1976 l1974 l1975
       (fun i1977 i1978 l1979 l1980 l1981 => c3 (5 : Int) i1962 i1977 i1978 l1981 l1979 l1980
        (fun i1982 i1983 l1984 l1985 l1986 => br (((fits (0 : Nat) (List.length x15) x15) && (decide ((((List.length x15) + (1 : Nat)) * (8 : Nat)) ≤ (70368744177664 : Nat)))) && true)
         (nx x0 x1 x2 x3 x4 (IntKind.wrap .i64 (x5 + (1 : Int))) l1984 l1985 l1986 x9 x10 x11 x12 x13 i1983 ((sub x15 (0 : Nat) (List.length x15)) ++ (i1982 :: ([] : List ((Sh.int IntKind.i64).T)))) x16)
         (none))))))))
  (k0 x2 x3 x6 x7 x8 x9 x10 x11 x12 x13 x14 x15 x16)
noncomputable def cast_Premise_d8eb_l2_T0 (N : Nat) (c0 : cast_maker_keep_9e9f_Ty) (c1 : term_Arena_Ext_99d8_Ty) (c2 : cast_Fail_9e58_Ty) (c3 : cast_maker_two_8916_Ty) (c4 : cast_maker_number_2f2a_Ty) (c5 : cast_maker_variable_9e9f_Ty) (c6 : cast_Size_9e58_Ty) (c7 : class_Caps_66e6_Ty) (c8 : class_May_66e6_Ty) {R : Type} (nx : (Int) → (Int) → (Int) → (List (((Int) × ((Int) × ((Int) × ((Int) × ((Int) × (Int)))))) × (Int))) → (List ((Int) × (Int))) → (List ((Int) × ((Int) × ((Int) × ((Int) × ((Int) × (Int))))))) → (Int) → (Int) → (Int) → (List ((ByteArray) × ((Bool) × (Int)))) → (List (Int)) → (Int) → (List (Int)) → Option R) (k0 : (Int) → (List (((Int) × ((Int) × ((Int) × ((Int) × ((Int) × (Int)))))) × (Int))) → (List ((Int) × (Int))) → (List ((Int) × ((Int) × ((Int) × ((Int) × ((Int) × (Int))))))) → (Int) → (Int) → (Int) → (List ((ByteArray) × ((Bool) × (Int)))) → (List (Int)) → (Int) → (List (Int)) → Option R) (x0 : Int) (x1 : Int) (x2 : Int) (x3 : List (((Int) × ((Int) × ((Int) × ((Int) × ((Int) × (Int)))))) × (Int))) (x4 : List ((Int) × (Int))) (x5 : List ((Int) × ((Int) × ((Int) × ((Int) × ((Int) × (Int))))))) (x6 : Int) (x7 : Int) (x8 : Int) (x9 : List ((ByteArray) × ((Bool) × (Int)))) (x10 : List (Int)) (x11 : Int) (x12 : List (Int)) : Option R :=
  br (decide (x2 < x1))
  (c2 x6 x7 x8 x2 x9 x10
   (fun i2015 b2016 l2017 l2018 => c5 (1 : Int) i2015 x11 x5 x3 x4
    (fun i2019 i2020 l2021 l2022 l2023 => br (decide (i2020 = (0 : Int)))
     (c1 (8 : Int) i2019 l2023 l2021 l2022
      (fun i2024 i2025 l2026 l2027 l2028 => c0 i2024 i2025 i2020 l2028 l2026 l2027
       (fun i2029 i2030 l2031 l2032 l2033 => c3 (7 : Int) x0 i2029 i2030 l2031 l2032 l2033
        (fun i2034 i2035 l2036 l2037 l2038 => nx i2034 x1 (IntKind.wrap .i64 (x2 + (1 : Int))) l2036 l2037 l2038 x6 x7 x8 l2017 l2018 i2035 x12))))
     (nx x0 x1 (IntKind.wrap .i64 (x2 + (1 : Int))) l2021 l2022 l2023 x6 x7 x8 l2017 l2018 i2020 x12))))
  (k0 x0 x3 x4 x5 x6 x7 x8 x9 x10 x11 x12)
noncomputable def cast_Premise_d8eb_l2 (N : Nat) {R : Type} (k0 : (Int) → (List (((Int) × ((Int) × ((Int) × ((Int) × ((Int) × (Int)))))) × (Int))) → (List ((Int) × (Int))) → (List ((Int) × ((Int) × ((Int) × ((Int) × ((Int) × (Int))))))) → (Int) → (Int) → (Int) → (List ((ByteArray) × ((Bool) × (Int)))) → (List (Int)) → (Int) → (List (Int)) → Option R) : Nat → (Int) → (Int) → (Int) → (List (((Int) × ((Int) × ((Int) × ((Int) × ((Int) × (Int)))))) × (Int))) → (List ((Int) × (Int))) → (List ((Int) × ((Int) × ((Int) × ((Int) × ((Int) × (Int))))))) → (Int) → (Int) → (Int) → (List ((ByteArray) × ((Bool) × (Int)))) → (List (Int)) → (Int) → (List (Int)) → Option R
  | 0, _, _, _, _, _, _, _, _, _, _, _, _, _ => none
  | n + 1, x0, x1, x2, x3, x4, x5, x6, x7, x8, x9, x10, x11, x12 => cast_Premise_d8eb_l2_T0 N (@cast_maker_keep_9e9f N) (@term_Arena_Ext_99d8 N) (@cast_Fail_9e58 N) (@cast_maker_two_8916 N) (@cast_maker_number_2f2a N) (@cast_maker_variable_9e9f N) (@cast_Size_9e58 N) (@class_Caps_66e6 N) (@class_May_66e6 N) (fun x0 x1 x2 x3 x4 x5 x6 x7 x8 x9 x10 x11 x12 => cast_Premise_d8eb_l2 N k0 n x0 x1 x2 x3 x4 x5 x6 x7 x8 x9 x10 x11 x12) k0 x0 x1 x2 x3 x4 x5 x6 x7 x8 x9 x10 x11 x12
noncomputable def cast_Premise_d8eb_l1 (N : Nat) {R : Type} (k0 : (Int) → (Int) → (List (((Int) × ((Int) × ((Int) × ((Int) × ((Int) × (Int)))))) × (Int))) → (List ((Int) × (Int))) → (List ((Int) × ((Int) × ((Int) × ((Int) × ((Int) × (Int))))))) → (Int) → (Int) → (Int) → (List ((ByteArray) × ((Bool) × (Int)))) → (List (Int)) → (Int) → (List (Int)) → (List (Int)) → Option R) : Nat → (Int) → (Int) → (Int) → (Int) → (Int) → (Int) → (List (((Int) × ((Int) × ((Int) × ((Int) × ((Int) × (Int)))))) × (Int))) → (List ((Int) × (Int))) → (List ((Int) × ((Int) × ((Int) × ((Int) × ((Int) × (Int))))))) → (Int) → (Int) → (Int) → (List ((ByteArray) × ((Bool) × (Int)))) → (List (Int)) → (Int) → (List (Int)) → (List (Int)) → Option R
  | 0, _, _, _, _, _, _, _, _, _, _, _, _, _, _, _, _, _ => none
  | n + 1, x0, x1, x2, x3, x4, x5, x6, x7, x8, x9, x10, x11, x12, x13, x14, x15, x16 => cast_Premise_d8eb_l1_T0 N (@cast_maker_keep_9e9f N) (@term_Arena_Ext_99d8 N) (@cast_Fail_9e58 N) (@cast_maker_two_8916 N) (@cast_maker_number_2f2a N) (@cast_maker_variable_9e9f N) (@cast_Size_9e58 N) (@class_Caps_66e6 N) (@class_May_66e6 N) (@cast_Premise_d8eb_l2 N) (fun x0 x1 x2 x3 x4 x5 x6 x7 x8 x9 x10 x11 x12 x13 x14 x15 x16 => cast_Premise_d8eb_l1 N k0 n x0 x1 x2 x3 x4 x5 x6 x7 x8 x9 x10 x11 x12 x13 x14 x15 x16) k0 x0 x1 x2 x3 x4 x5 x6 x7 x8 x9 x10 x11 x12 x13 x14 x15 x16
noncomputable def cast_Premise_d8eb_l0 (N : Nat) {R : Type} (k0 : (List (((Int) × ((Int) × ((Int) × ((Int) × ((Int) × (Int)))))) × (Int))) → (List ((Int) × (Int))) → (List ((Int) × ((Int) × ((Int) × ((Int) × ((Int) × (Int))))))) → (Int) → (Int) → (Int) → (List ((ByteArray) × ((Bool) × (Int)))) → (List (Int)) → (Int) → (List (Int)) → Option R) : Nat → (Int) → (Int) → (List (((Int) × ((Int) × ((Int) × ((Int) × ((Int) × (Int)))))) × (Int))) → (List ((Int) × (Int))) → (List ((Int) × ((Int) × ((Int) × ((Int) × ((Int) × (Int))))))) → (Int) → (Int) → (Int) → (List ((ByteArray) × ((Bool) × (Int)))) → (List (Int)) → (Int) → (List (Int)) → (List (Int)) → Option R
  | 0, _, _, _, _, _, _, _, _, _, _, _, _, _ => none
  | n + 1, x0, x1, x2, x3, x4, x5, x6, x7, x8, x9, x10, x11, x12 => cast_Premise_d8eb_l0_T0 N (@cast_maker_keep_9e9f N) (@term_Arena_Ext_99d8 N) (@cast_Fail_9e58 N) (@cast_maker_two_8916 N) (@cast_maker_number_2f2a N) (@cast_maker_variable_9e9f N) (@cast_Size_9e58 N) (@class_Caps_66e6 N) (@class_May_66e6 N) (@cast_Premise_d8eb_l1 N) (@cast_Premise_d8eb_l2 N) (fun x0 x1 x2 x3 x4 x5 x6 x7 x8 x9 x10 x11 x12 => cast_Premise_d8eb_l0 N k0 n x0 x1 x2 x3 x4 x5 x6 x7 x8 x9 x10 x11 x12) k0 x0 x1 x2 x3 x4 x5 x6 x7 x8 x9 x10 x11 x12
noncomputable def cast_Premise_d8eb_T (N : Nat) (c0 : cast_maker_keep_9e9f_Ty) (c1 : term_Arena_Ext_99d8_Ty) (c2 : cast_Fail_9e58_Ty) (c3 : cast_maker_two_8916_Ty) (c4 : cast_maker_number_2f2a_Ty) (c5 : cast_maker_variable_9e9f_Ty) (c6 : cast_Size_9e58_Ty) (c7 : class_Caps_66e6_Ty) (c8 : class_May_66e6_Ty) (w0 : cast_Premise_d8eb_l0_Ty) (w1 : cast_Premise_d8eb_l1_Ty) (w2 : cast_Premise_d8eb_l2_Ty) {R : Type} (x0 : Int) (x1 : Int) (x2 : Int) (x3 : List ((Int) × ((Int) × ((Int) × ((Int) × ((Int) × (Int))))))) (x4 : List (((Int) × ((Int) × ((Int) × ((Int) × ((Int) × (Int)))))) × (Int))) (x5 : List ((Int) × (Int))) (k0 : (Int) → (List (((Int) × ((Int) × ((Int) × ((Int) × ((Int) × (Int)))))) × (Int))) → (List ((Int) × (Int))) → (List ((Int) × ((Int) × ((Int) × ((Int) × ((Int) × (Int))))))) → (List (Int)) → Option R) : Option R :=
  c8 x0 x1 x2 ([] : List ((Sh.str.pair (Sh.bool.pair (Sh.int IntKind.i64))).T)) ([] : List ((Sh.int IntKind.i64).T))
  (fun b1933 l1934 l1935 => br (!b1933)
   (k0 (11 : Int) x4 x5 x3 ([] : List ((Sh.int IntKind.i64).T)))
   (c7 x0 x1 x2 l1934 l1935
    (fun l1936 l1937 l1938 => w0
     (fun l2000 l2001 l2002 i2003 i2004 i2005 l2006 l2007 i2008 l2009 => c4 (0 : Int) i2008 l2002 l2000 l2001
      (fun i2010 i2011 l2012 l2013 l2014 => w2
       (fun i2039 l2040 l2041 l2042 i2043 i2044 i2045 l2046 l2047 i2048 l2049 => c4 (IntKind.wrap .i64 (i2044 + (1 : Int))) i2048 l2042 l2040 l2041
        (fun i2050 i2051 l2052 l2053 l2054 => c3 (15 : Int) i2039 i2050 i2051 l2054 l2052 l2053
         (fun i2055 i2056 l2057 l2058 l2059 => br (((fits (0 : Nat) (List.length l2049) l2049) && (decide ((((List.length l2049) + (1 : Nat)) * (8 : Nat)) ≤ (70368744177664 : Nat)))) && true)
          (br (!(decide (i2056 = (0 : Int))))
           (k0 i2056 l2057 l2058 l2059 ([] : List ((Sh.int IntKind.i64).T)))
           (k0 (0 : Int) l2057 l2058 l2059 ((sub l2049 (0 : Nat) (List.length l2049)) ++ (i2055 :: ([] : List ((Sh.int IntKind.i64).T))))))
          (none))))
       N i2010 i2003 (0 : Int) l2012 l2013 l2014 i2003 i2004 i2005 l2006 l2007 i2011 l2009))
     N (Nat.cast (List.length l1938) : Int) (0 : Int) x4 x5 x3 x0 x1 x2 l1936 l1937 (0 : Int) ([] : List ((Sh.int IntKind.i64).T)) l1938)))
noncomputable def cast_Premise_d8eb (N : Nat) {R : Type} (x0 : Int) (x1 : Int) (x2 : Int) (x3 : List ((Int) × ((Int) × ((Int) × ((Int) × ((Int) × (Int))))))) (x4 : List (((Int) × ((Int) × ((Int) × ((Int) × ((Int) × (Int)))))) × (Int))) (x5 : List ((Int) × (Int))) (k0 : (Int) → (List (((Int) × ((Int) × ((Int) × ((Int) × ((Int) × (Int)))))) × (Int))) → (List ((Int) × (Int))) → (List ((Int) × ((Int) × ((Int) × ((Int) × ((Int) × (Int))))))) → (List (Int)) → Option R) : Option R := cast_Premise_d8eb_T N (@cast_maker_keep_9e9f N) (@term_Arena_Ext_99d8 N) (@cast_Fail_9e58 N) (@cast_maker_two_8916 N) (@cast_maker_number_2f2a N) (@cast_maker_variable_9e9f N) (@cast_Size_9e58 N) (@class_Caps_66e6 N) (@class_May_66e6 N) (@cast_Premise_d8eb_l0 N) (@cast_Premise_d8eb_l1 N) (@cast_Premise_d8eb_l2 N) x0 x1 x2 x3 x4 x5 k0
abbrev cast_Premise_1e04_Ty : Type 1 := {R : Type} → (Int) → (Int) → (Int) → (List ((ByteArray) × ((Bool) × (Int)))) → (List (Int)) → ((Int) → (List ((ByteArray) × ((Bool) × (Int)))) → (List (Int)) → Option R) → Option R
noncomputable def cast_Premise_1e04_T (N : Nat) (c0 : cast_maker_keep_9e9f_Ty) (c1 : term_Arena_Ext_99d8_Ty) (c2 : cast_Fail_9e58_Ty) (c3 : cast_maker_two_8916_Ty) (c4 : cast_maker_number_2f2a_Ty) (c5 : cast_maker_variable_9e9f_Ty) (c6 : cast_Size_9e58_Ty) (c7 : class_Caps_66e6_Ty) (c8 : class_May_66e6_Ty) {R : Type} (x0 : Int) (x1 : Int) (x2 : Int) (x3 : List ((ByteArray) × ((Bool) × (Int)))) (x4 : List (Int)) (k0 : (Int) → (List ((ByteArray) × ((Bool) × (Int)))) → (List (Int)) → Option R) : Option R :=
  k0 (1 : Int) x3 x4
noncomputable def cast_Premise_1e04 (N : Nat) {R : Type} (x0 : Int) (x1 : Int) (x2 : Int) (x3 : List ((ByteArray) × ((Bool) × (Int)))) (x4 : List (Int)) (k0 : (Int) → (List ((ByteArray) × ((Bool) × (Int)))) → (List (Int)) → Option R) : Option R := cast_Premise_1e04_T N (@cast_maker_keep_9e9f N) (@term_Arena_Ext_99d8 N) (@cast_Fail_9e58 N) (@cast_maker_two_8916 N) (@cast_maker_number_2f2a N) (@cast_maker_variable_9e9f N) (@cast_Size_9e58 N) (@class_Caps_66e6 N) (@class_May_66e6 N) x0 x1 x2 x3 x4 k0
inductive law18_CastKnown_S0 where
  | v0 (x0 : Int) (x1 : Int) (x2 : Int) (x3 : Int) (x4 : Int) (x5 : List ((ByteArray) × ((Bool) × (Int)))) (x6 : List (Int)) (x7 : List (Int)) (x8 : List (List (Int))) (x9 : List (List (Int))) (x10 : List (Bool)) (x11 : List (List (Int)))
  | v1 (x0 : Int) (x1 : Int) (x2 : Int) (x3 : Int) (x4 : Int) (x5 : List ((ByteArray) × ((Bool) × (Int)))) (x6 : List (Int)) (x7 : List (Int)) (x8 : Nat) (x9 : Nat) (x10 : Nat) (x11 : Nat) (x12 : Nat) (x13 : List (List (Int))) (x14 : List (Bool)) (x15 : List (List (Int)))
  | v2 (x0 : Int) (x1 : Int) (x2 : Int) (x3 : Int) (x4 : Int) (x5 : List ((ByteArray) × ((Bool) × (Int)))) (x6 : List (Int)) (x7 : List (Int)) (x8 : Nat) (x9 : Nat) (x10 : Nat) (x11 : Nat) (x12 : List (List (Int))) (x13 : List (Bool)) (x14 : List (List (Int)))
abbrev law18_CastKnown_l0_Ty : Type 1 := {R : Type} → ((Bool) → (Int) → (Int) → (Int) → (Int) → (List ((ByteArray) × ((Bool) × (Int)))) → (List (Int)) → (List (Int)) → (List (List (Int))) → (List (List (Int))) → (List (Bool)) → Option R) → ((Int) → (Int) → (Int) → (Int) → (List ((ByteArray) × ((Bool) × (Int)))) → (List (Int)) → (List (Int)) → (List (List (Int))) → (List (List (Int))) → (List (Bool)) → Option R) → ((Bool) → (Int) → (Int) → (Int) → (Int) → (List ((ByteArray) × ((Bool) × (Int)))) → (List (Int)) → (List (Int)) → (Nat) → (Nat) → (Nat) → (Nat) → (Nat) → (List (List (Int))) → (List (Bool)) → Option R) → ((Int) → (Int) → (Int) → (Int) → (List ((ByteArray) × ((Bool) × (Int)))) → (List (Int)) → (List (Int)) → (Nat) → (Nat) → (Nat) → (Nat) → (Nat) → (List (List (Int))) → (List (Bool)) → Option R) → ((Bool) → (Int) → (Int) → (Int) → (Int) → (List ((ByteArray) × ((Bool) × (Int)))) → (List (Int)) → (List (Int)) → (Nat) → (Nat) → (Nat) → (Nat) → (List (List (Int))) → (List (Bool)) → Option R) → ((Int) → (Int) → (Int) → (Int) → (List ((ByteArray) × ((Bool) × (Int)))) → (List (Int)) → (List (Int)) → (Nat) → (Nat) → (Nat) → (Nat) → (List (List (Int))) → (List (Bool)) → Option R) → Nat → law18_CastKnown_S0 → Option R
end Go.Proofs.Ytlfhmecdgfennaa
