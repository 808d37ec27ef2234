/-
  The functions that the statement reaches, each as a function of Lean (printed by a program of this work).
-/
import Derived.Test.YtlfhmecdgfennaaGx5
set_option linter.unusedVariables false
set_option maxRecDepth 100000
namespace Go.Proofs.Ytlfhmecdgfennaa
open Go.Gx
abbrev stringslite_IndexByte_Ty : Type 1 := {R : Type} → (ByteArray) → (Int) → ((Int) → Option R) → Option R
abbrev stringslite_Index_Ty : Type 1 := {R : Type} → (ByteArray) → (ByteArray) → ((Int) → Option R) → Option R
noncomputable def stringslite_Index_T (N : Nat) (c0 : stringslite_IndexByte_Ty) {R : Type} (x0 : ByteArray) (x1 : ByteArray) (k0 : (Int) → Option R) : Option R :=
  br (!(decide ((Nat.cast (ByteArray.size x1) : Int) = (0 : Int))))
  (br (decide (x1 = x0))
   (k0 (0 : Int))
   (br (decide ((Nat.cast (ByteArray.size x1) : Int) = (1 : Int)))
    (br (inB (0 : Int) (ByteArray.size x1))
     (c0 x0 (bt x1 (0 : Int))
      (fun i0 => k0 i0))
     (none))
    (br (decide ((Nat.cast (ByteArray.size x0) : Int) ≤ (Nat.cast (ByteArray.size x1) : Int)))
     (k0 (-1 : Int))
     (none))))
  (k0 (0 : Int))
noncomputable def stringslite_Index (N : Nat) {R : Type} (x0 : ByteArray) (x1 : ByteArray) (k0 : (Int) → Option R) : Option R := stringslite_Index_T N @stringslite_IndexByte x0 x1 k0
abbrev stringslite_Cut_Ty : Type 1 := {R : Type} → (ByteArray) → (ByteArray) → ((ByteArray) → (ByteArray) → (Bool) → Option R) → Option R
noncomputable def stringslite_Cut_T (N : Nat) (c0 : stringslite_Index_Ty) {R : Type} (x0 : ByteArray) (x1 : ByteArray) (k0 : (ByteArray) → (ByteArray) → (Bool) → Option R) : Option R :=
  c0 x0 x1
  (fun i1 => br (decide ((0 : Int) ≤ i1))
   (br (leB i1 (ByteArray.size x0))
    (br (leB (IntKind.wrap .i64 (i1 + (Nat.cast (ByteArray.size x1) : Int))) (ByteArray.size x0))
     (k0 (ByteArray.extract x0 (0 : Nat) (Int.toNat i1)) (ByteArray.extract x0 (Int.toNat (IntKind.wrap .i64 (i1 + (Nat.cast (ByteArray.size x1) : Int)))) (ByteArray.size x0)) true)
     (none))
    (none))
   (k0 x0 (bs []) false))
noncomputable def stringslite_Cut (N : Nat) {R : Type} (x0 : ByteArray) (x1 : ByteArray) (k0 : (ByteArray) → (ByteArray) → (Bool) → Option R) : Option R := stringslite_Cut_T N (@stringslite_Index N) x0 x1 k0
abbrev strings_Cut_Ty : Type 1 := {R : Type} → (ByteArray) → (ByteArray) → ((ByteArray) → (ByteArray) → (Bool) → Option R) → Option R
noncomputable def strings_Cut_T (N : Nat) (c0 : stringslite_Cut_Ty) {R : Type} (x0 : ByteArray) (x1 : ByteArray) (k0 : (ByteArray) → (ByteArray) → (Bool) → Option R) : Option R :=
  c0 x0 x1
  (fun s2 s3 b4 => k0 s2 s3 b4)
noncomputable def strings_Cut (N : Nat) {R : Type} (x0 : ByteArray) (x1 : ByteArray) (k0 : (ByteArray) → (ByteArray) → (Bool) → Option R) : Option R := strings_Cut_T N (@stringslite_Cut N) x0 x1 k0
abbrev check_letter_Ty : Type 1 := {R : Type} → (Int) → ((Bool) → Option R) → Option R
noncomputable def check_letter_T (N : Nat) {R : Type} (x0 : Int) (k0 : (Bool) → Option R) : Option R :=
  br (decide ((97 : Int) ≤ x0))
  (br (!(decide (x0 ≤ (122 : Int))))
   (br (decide ((48 : Int) ≤ x0))
    (br (!(decide (x0 ≤ (57 : Int))))
     (br (!(decide (x0 = (46 : Int))))
      (k0 (decide (x0 = (95 : Int))))
      (k0 true))
     (k0 true))
    (br (!(decide (x0 = (46 : Int))))
     (k0 (decide (x0 = (95 : Int))))
     (k0 true)))
   (k0 true))
  (br (decide ((48 : Int) ≤ x0))
   (br (!(decide (x0 ≤ (57 : Int))))
    (br (!(decide (x0 = (46 : Int))))
     (k0 (decide (x0 = (95 : Int))))
     (k0 true))
    (k0 true))
   (br (!(decide (x0 = (46 : Int))))
    (k0 (decide (x0 = (95 : Int))))
    (k0 true)))
noncomputable def check_letter (N : Nat) {R : Type} (x0 : Int) (k0 : (Bool) → Option R) : Option R := check_letter_T N x0 k0
abbrev check_part_l0_Ty : Type 1 := {R : Type} → ((ByteArray) → (Bool) → Option R) → ((ByteArray) → Option R) → Nat → (ByteArray) → (Int) → (Int) → Option R
abbrev check_part_Ty : Type 1 := {R : Type} → (ByteArray) → ((Bool) → Option R) → Option R
noncomputable def check_part_l0_T0 (N : Nat) (c0 : check_letter_Ty) {R : Type} (nx : (ByteArray) → (Int) → (Int) → Option R) (k0 : (ByteArray) → (Bool) → Option R) (k1 : (ByteArray) → Option R) (x0 : ByteArray) (x1 : Int) (x2 : Int) : Option R :=
  br (decide (x2 < x1))
  (br (inB x2 (ByteArray.size x0))
   (c0 (bt x0 x2)
    (fun b8 => br (!b8)
     (k0 x0 false)
     (nx x0 x1 (IntKind.wrap .i64 (x2 + (1 : Int))))))
   (none))
  (k1 x0)
noncomputable def check_part_l0 (N : Nat) {R : Type} (k0 : (ByteArray) → (Bool) → Option R) (k1 : (ByteArray) → Option R) : Nat → (ByteArray) → (Int) → (Int) → Option R
  | 0, _, _, _ => none
  | n + 1, x0, x1, x2 => check_part_l0_T0 N (@check_letter N) (fun x0 x1 x2 => check_part_l0 N k0 k1 n x0 x1 x2) k0 k1 x0 x1 x2
noncomputable def check_part_T (N : Nat) (c0 : check_letter_Ty) (w0 : check_part_l0_Ty) {R : Type} (x0 : ByteArray) (k0 : (Bool) → Option R) : Option R :=
  w0
  (fun s9 b10 => k0 b10)
  (fun s11 => br (!(decide (s11 = (bs []))))
   (br (!(decide (s11 = (bs [46]))))
    (k0 (!(decide (s11 = (bs [46, 46])))))
    (k0 false))
   (k0 false))
  N x0 (Nat.cast (ByteArray.size x0) : Int) (0 : Int)
noncomputable def check_part (N : Nat) {R : Type} (x0 : ByteArray) (k0 : (Bool) → Option R) : Option R := check_part_T N (@check_letter N) (@check_part_l0 N) x0 k0
abbrev check_Name_Ty : Type 1 := {R : Type} → (ByteArray) → ((Bool) → Option R) → Option R
noncomputable def check_Name_T (N : Nat) (c0 : check_part_Ty) (c1 : strings_Cut_Ty) {R : Type} (x0 : ByteArray) (k0 : (Bool) → Option R) : Option R :=
  br (decide ((8 : Int) < (Nat.cast (ByteArray.size x0) : Int)))
  (k0 false)
  (c1 x0 (bs [47])
   (fun s5 s6 b7 => c0 s5
    (fun b12 => br b12
     (br (!(!b7))
      (c0 s6
       (fun b13 => k0 b13))
      (k0 true))
     (k0 false))))
noncomputable def check_Name (N : Nat) {R : Type} (x0 : ByteArray) (k0 : (Bool) → Option R) : Option R := check_Name_T N (@check_part N) (@strings_Cut N) x0 k0
abbrev names_May_Ty : Type 1 := {R : Type} → (ByteArray) → ((Bool) → Option R) → Option R
noncomputable def names_May_T (N : Nat) (c0 : check_Name_Ty) {R : Type} (x0 : ByteArray) (k0 : (Bool) → Option R) : Option R :=
  c0 x0
  (fun b14 => k0 b14)
noncomputable def names_May (N : Nat) {R : Type} (x0 : ByteArray) (k0 : (Bool) → Option R) : Option R := names_May_T N (@check_Name N) x0 k0
abbrev names_Split_Ty : Type 1 := {R : Type} → (ByteArray) → ((ByteArray) → (ByteArray) → Option R) → Option R
noncomputable def names_Split_T (N : Nat) (c0 : strings_Cut_Ty) (c1 : names_May_Ty) {R : Type} (x0 : ByteArray) (k0 : (ByteArray) → (ByteArray) → Option R) : Option R :=
  c1 x0
  (fun b16 => br (!b16)
   (k0 (bs []) (bs []))
   (c0 x0 (bs [47])
    (fun s17 s18 b19 => br (!b19)
     (k0 (bs []) s17)
     (k0 s17 s18))))
noncomputable def names_Split (N : Nat) {R : Type} (x0 : ByteArray) (k0 : (ByteArray) → (ByteArray) → Option R) : Option R := names_Split_T N (@strings_Cut N) (@names_May N) x0 k0
abbrev tree_of_Ty : Type 1 := {R : Type} → (ByteArray) → ((ByteArray) → (ByteArray) → Option R) → Option R
noncomputable def tree_of_T (N : Nat) (c0 : names_Split_Ty) {R : Type} (x0 : ByteArray) (k0 : (ByteArray) → (ByteArray) → Option R) : Option R :=
  c0 x0
  (fun s20 s21 => k0 s20 s21)
noncomputable def tree_of (N : Nat) {R : Type} (x0 : ByteArray) (k0 : (ByteArray) → (ByteArray) → Option R) : Option R := tree_of_T N (@names_Split N) x0 k0
abbrev tree_Tree_above_2de7_Ty : Type 1 := {R : Type} → (ByteArray) → (ByteArray) → (Int) → (List (((ByteArray) × (ByteArray)) × ((Int) × (Bool)))) → ((Int) → (Int) → (List (((ByteArray) × (ByteArray)) × ((Int) × (Bool)))) → Option R) → Option R
noncomputable def tree_Tree_above_2de7_T (N : Nat) {R : Type} (x0 : ByteArray) (x1 : ByteArray) (x2 : Int) (x3 : List (((ByteArray) × (ByteArray)) × ((Int) × (Bool)))) (k0 : (Int) → (Int) → (List (((ByteArray) × (ByteArray)) × ((Int) × (Bool)))) → Option R) : Option R :=
  br (decide (x1 = (bs [])))
  (k0 (65282 : Int) x2 x3)
  (br (decide (x0 = (bs [])))
   (k0 (0 : Int) x2 x3)
   (br ((Option.isSome (mfind (.pair .str .str) (.pair (.int .i64) .bool) x3 ((bs []) , x0))) == (Option.isSome (mfind (.pair .str .str) (.pair (.int .i64) .bool) x3 ((bs []) , x0))))
    (br (!(Option.isSome (mfind (.pair .str .str) (.pair (.int .i64) .bool) x3 ((bs []) , x0))))
     (k0 (65282 : Int) x2 x3)
     (br (!(Option.getD (mfind (.pair .str .str) (.pair (.int .i64) .bool) x3 ((bs []) , x0)) ((0 : Int) , false)).2)
      (k0 (65300 : Int) x2 x3)
      (k0 (0 : Int) x2 x3)))
    (none)))
noncomputable def tree_Tree_above_2de7 (N : Nat) {R : Type} (x0 : ByteArray) (x1 : ByteArray) (x2 : Int) (x3 : List (((ByteArray) × (ByteArray)) × ((Int) × (Bool)))) (k0 : (Int) → (Int) → (List (((ByteArray) × (ByteArray)) × ((Int) × (Bool)))) → Option R) : Option R := tree_Tree_above_2de7_T N x0 x1 x2 x3 k0
abbrev tree_Tree_Make_c502_Ty : Type 1 := {R : Type} → (ByteArray) → (Bool) → (Int) → (List (((ByteArray) × (ByteArray)) × ((Int) × (Bool)))) → ((Int) → (Int) → (Int) → (List (((ByteArray) × (ByteArray)) × ((Int) × (Bool)))) → Option R) → Option R
noncomputable def tree_Tree_Make_c502_T (N : Nat) (c0 : tree_Tree_above_2de7_Ty) (c1 : tree_of_Ty) {R : Type} (x0 : ByteArray) (x1 : Bool) (x2 : Int) (x3 : List (((ByteArray) × (ByteArray)) × ((Int) × (Bool)))) (k0 : (Int) → (Int) → (Int) → (List (((ByteArray) × (ByteArray)) × ((Int) × (Bool)))) → Option R) : Option R :=
  c1 x0
  (fun s22 s23 => c0 s22 s23 x2 x3
   (fun i24 i25 l26 => br (!(decide (i24 = (0 : Int))))
    (k0 (-1 : Int) i24 i25 l26)
    (br ((Option.isSome (mfind (.pair .str .str) (.pair (.int .i64) .bool) l26 (s22 , s23))) == (Option.isSome (mfind (.pair .str .str) (.pair (.int .i64) .bool) l26 (s22 , s23))))
     (br (Option.isSome (mfind (.pair .str .str) (.pair (.int .i64) .bool) l26 (s22 , s23)))
      (k0 (-1 : Int) (65297 : Int) i25 l26)
      (br x1
       (br (!(decide (s22 = (bs []))))
        (k0 (-1 : Int) (65302 : Int) i25 l26)
        (br (decide ((8 : Int) ≤ (Nat.cast (List.length l26) : Int)))
         (k0 (-1 : Int) (65308 : Int) i25 l26)
         (k0 (IntKind.wrap .i64 ((IntKind.wrap .i64 (i25 + (1 : Int))) - (1 : Int))) (0 : Int) (IntKind.wrap .i64 (i25 + (1 : Int))) (mput (.pair .str .str) (.pair (.int .i64) .bool) l26 (s22 , s23) (i25 , x1)))))
       (br (decide ((8 : Int) ≤ (Nat.cast (List.length l26) : Int)))
        (k0 (-1 : Int) (65308 : Int) i25 l26)
        (k0 (IntKind.wrap .i64 ((IntKind.wrap .i64 (i25 + (1 : Int))) - (1 : Int))) (0 : Int) (IntKind.wrap .i64 (i25 + (1 : Int))) (mput (.pair .str .str) (.pair (.int .i64) .bool) l26 (s22 , s23) (i25 , x1))))))
     (none))))
noncomputable def tree_Tree_Make_c502 (N : Nat) {R : Type} (x0 : ByteArray) (x1 : Bool) (x2 : Int) (x3 : List (((ByteArray) × (ByteArray)) × ((Int) × (Bool)))) (k0 : (Int) → (Int) → (Int) → (List (((ByteArray) × (ByteArray)) × ((Int) × (Bool)))) → Option R) : Option R := tree_Tree_Make_c502_T N (@tree_Tree_above_2de7 N) (@tree_of N) x0 x1 x2 x3 k0
abbrev tree_New_644a_l0_Ty : Type 1 := {R : Type} → ((Int) → (List ((ByteArray) × ((Bool) × (Int)))) → (Int) → (List (((ByteArray) × (ByteArray)) × ((Int) × (Bool)))) → Option R) → ((List ((ByteArray) × ((Bool) × (Int)))) → (Int) → (List (((ByteArray) × (ByteArray)) × ((Int) × (Bool)))) → Option R) → Nat → (Int) → (Int) → (List ((ByteArray) × ((Bool) × (Int)))) → (Int) → (List (((ByteArray) × (ByteArray)) × ((Int) × (Bool)))) → Option R
abbrev tree_New_644a_Ty : Type 1 := {R : Type} → (List ((ByteArray) × ((Bool) × (Int)))) → ((Int) → (List ((ByteArray) × ((Bool) × (Int)))) → Option R) → ((Int) → (List ((ByteArray) × ((Bool) × (Int)))) → (Int) → (List (((ByteArray) × (ByteArray)) × ((Int) × (Bool)))) → Option R) → Option R
noncomputable def tree_New_644a_l0_T0 (N : Nat) (c0 : tree_Tree_Make_c502_Ty) (c1 : names_May_Ty) {R : Type} (nx : (Int) → (Int) → (List ((ByteArray) × ((Bool) × (Int)))) → (Int) → (List (((ByteArray) × (ByteArray)) × ((Int) × (Bool)))) → Option R) (k0 : (Int) → (List ((ByteArray) × ((Bool) × (Int)))) → (Int) → (List (((ByteArray) × (ByteArray)) × ((Int) × (Bool)))) → Option R) (k1 : (List ((ByteArray) × ((Bool) × (Int)))) → (Int) → (List (((ByteArray) × (ByteArray)) × ((Int) × (Bool)))) → Option R) (x0 : Int) (x1 : Int) (x2 : List ((ByteArray) × ((Bool) × (Int)))) (x3 : Int) (x4 : List (((ByteArray) × (ByteArray)) × ((Int) × (Bool)))) : Option R :=
  br (decide (x1 < x0))
  (br (inB x1 (List.length x2))
   (br (decide ((Int.toNat x1) < (List.length x2)))
    (c1 (List.getD x2 (Int.toNat x1) ((bs []) , (false , (0 : Int)))).1
     (fun b15 => br (!b15)
      (k0 (11 : Int) x2 x3 x4)
      (c0 (List.getD x2 (Int.toNat x1) ((bs []) , (false , (0 : Int)))).1 (List.getD x2 (Int.toNat x1) ((bs []) , (false , (0 : Int)))).2.1 x3 x4
       (fun i27 i28 i29 l30 => br (!(decide (i28 = (0 : Int))))
        (k0 (11 : Int) x2 i29 l30)
        (nx x0 (IntKind.wrap .i64 (x1 + (1 : Int))) x2 i29 l30)))))
    (none))
   (none))
  (k1 x2 x3 x4)
noncomputable def tree_New_644a_l0 (N : Nat) {R : Type} (k0 : (Int) → (List ((ByteArray) × ((Bool) × (Int)))) → (Int) → (List (((ByteArray) × (ByteArray)) × ((Int) × (Bool)))) → Option R) (k1 : (List ((ByteArray) × ((Bool) × (Int)))) → (Int) → (List (((ByteArray) × (ByteArray)) × ((Int) × (Bool)))) → Option R) : Nat → (Int) → (Int) → (List ((ByteArray) × ((Bool) × (Int)))) → (Int) → (List (((ByteArray) × (ByteArray)) × ((Int) × (Bool)))) → Option R
  | 0, _, _, _, _, _ => none
  | n + 1, x0, x1, x2, x3, x4 => tree_New_644a_l0_T0 N (@tree_Tree_Make_c502 N) (@names_May N) (fun x0 x1 x2 x3 x4 => tree_New_644a_l0 N k0 k1 n x0 x1 x2 x3 x4) k0 k1 x0 x1 x2 x3 x4
noncomputable def tree_New_644a_T (N : Nat) (c0 : tree_Tree_Make_c502_Ty) (c1 : names_May_Ty) (w0 : tree_New_644a_l0_Ty) {R : Type} (x0 : List ((ByteArray) × ((Bool) × (Int)))) (k0 : (Int) → (List ((ByteArray) × ((Bool) × (Int)))) → Option R) (k1 : (Int) → (List ((ByteArray) × ((Bool) × (Int)))) → (Int) → (List (((ByteArray) × (ByteArray)) × ((Int) × (Bool)))) → Option R) : Option R :=
  br (decide ((8 : Int) < (Nat.cast (List.length x0) : Int)))
  (k0 (11 : Int) x0)
  (w0
   (fun i31 l32 i33 l34 => k0 i31 l32)
   (fun l35 i36 l37 => k1 (0 : Int) l35 i36 l37)
   N (Nat.cast (List.length x0) : Int) (0 : Int) x0 (0 : Int) ([] : List (((Sh.str.pair Sh.str).T) × (((Sh.int IntKind.i64).pair Sh.bool).T))))
noncomputable def tree_New_644a (N : Nat) {R : Type} (x0 : List ((ByteArray) × ((Bool) × (Int)))) (k0 : (Int) → (List ((ByteArray) × ((Bool) × (Int)))) → Option R) (k1 : (Int) → (List ((ByteArray) × ((Bool) × (Int)))) → (Int) → (List (((ByteArray) × (ByteArray)) × ((Int) × (Bool)))) → Option R) : Option R := tree_New_644a_T N (@tree_Tree_Make_c502 N) (@names_May N) (@tree_New_644a_l0 N) x0 k0 k1
abbrev tree_New_l0_Ty : Type 1 := {R : Type} → ((Int) → (Int) → (List (((ByteArray) × (ByteArray)) × ((Int) × (Bool)))) → Option R) → ((Int) → (List (((ByteArray) × (ByteArray)) × ((Int) × (Bool)))) → Option R) → Nat → (List ((ByteArray) × ((Bool) × (Int)))) → (Int) → (Int) → (Int) → (List (((ByteArray) × (ByteArray)) × ((Int) × (Bool)))) → Option R
abbrev tree_New_Ty : Type 1 := {R : Type} → (List ((ByteArray) × ((Bool) × (Int)))) → ((Int) → Option R) → ((Int) → (Int) → (List (((ByteArray) × (ByteArray)) × ((Int) × (Bool)))) → Option R) → Option R
noncomputable def tree_New_l0_T0 (N : Nat) (c0 : tree_Tree_Make_c502_Ty) (c1 : names_May_Ty) {R : Type} (nx : (List ((ByteArray) × ((Bool) × (Int)))) → (Int) → (Int) → (Int) → (List (((ByteArray) × (ByteArray)) × ((Int) × (Bool)))) → Option R) (k0 : (Int) → (Int) → (List (((ByteArray) × (ByteArray)) × ((Int) × (Bool)))) → Option R) (k1 : (Int) → (List (((ByteArray) × (ByteArray)) × ((Int) × (Bool)))) → Option R) (x0 : List ((ByteArray) × ((Bool) × (Int)))) (x1 : Int) (x2 : Int) (x3 : Int) (x4 : List (((ByteArray) × (ByteArray)) × ((Int) × (Bool)))) : Option R :=
  br (decide (x2 < x1))
  (br (inB x2 (List.length x0))
   (c1 (List.getD x0 (Int.toNat x2) ((bs []) , (false , (0 : Int)))).1
    (fun b473 => br (!b473)
     (k0 (11 : Int) x3 x4)
     (c0 (List.getD x0 (Int.toNat x2) ((bs []) , (false , (0 : Int)))).1 (List.getD x0 (Int.toNat x2) ((bs []) , (false , (0 : Int)))).2.1 x3 x4
      (fun i474 i475 i476 l477 => br (!(decide (i475 = (0 : Int))))
       (k0 (11 : Int) i476 l477)
       (nx x0 x1 (IntKind.wrap .i64 (x2 + (1 : Int))) i476 l477)))))
   (none))
  (k1 x3 x4)
noncomputable def tree_New_l0 (N : Nat) {R : Type} (k0 : (Int) → (Int) → (List (((ByteArray) × (ByteArray)) × ((Int) × (Bool)))) → Option R) (k1 : (Int) → (List (((ByteArray) × (ByteArray)) × ((Int) × (Bool)))) → Option R) : Nat → (List ((ByteArray) × ((Bool) × (Int)))) → (Int) → (Int) → (Int) → (List (((ByteArray) × (ByteArray)) × ((Int) × (Bool)))) → Option R
  | 0, _, _, _, _, _ => none
  | n + 1, x0, x1, x2, x3, x4 => tree_New_l0_T0 N (@tree_Tree_Make_c502 N) (@names_May N) (fun x0 x1 x2 x3 x4 => tree_New_l0 N k0 k1 n x0 x1 x2 x3 x4) k0 k1 x0 x1 x2 x3 x4
noncomputable def tree_New_T (N : Nat) (c0 : tree_Tree_Make_c502_Ty) (c1 : names_May_Ty) (w0 : tree_New_l0_Ty) {R : Type} (x0 : List ((ByteArray) × ((Bool) × (Int)))) (k0 : (Int) → Option R) (k1 : (Int) → (Int) → (List (((ByteArray) × (ByteArray)) × ((Int) × (Bool)))) → Option R) : Option R :=
  br (decide ((8 : Int) < (Nat.cast (List.length x0) : Int)))
  (k0 (11 : Int))
  (w0
   (fun i478 i479 l480 => k0 i478)
   (fun i481 l482 => k1 (0 : Int) i481 l482)
   N x0 (Nat.cast (List.length x0) : Int) (0 : Int) (0 : Int) ([] : List (((Sh.str.pair Sh.str).T) × (((Sh.int IntKind.i64).pair Sh.bool).T))))
noncomputable def tree_New (N : Nat) {R : Type} (x0 : List ((ByteArray) × ((Bool) × (Int)))) (k0 : (Int) → Option R) (k1 : (Int) → (Int) → (List (((ByteArray) × (ByteArray)) × ((Int) × (Bool)))) → Option R) : Option R := tree_New_T N (@tree_Tree_Make_c502 N) (@names_May N) (@tree_New_l0 N) x0 k0 k1
abbrev class_Files_66e6_l0_Ty : Type 1 := {R : Type} → ((List ((ByteArray) × ((Bool) × (Int)))) → (List (Int)) → (List (Int)) → Option R) → Nat → (Int) → (Int) → (List ((ByteArray) × ((Bool) × (Int)))) → (List (Int)) → (List (Int)) → Option R
abbrev class_Files_66e6_Ty : Type 1 := {R : Type} → (Int) → (Int) → (Int) → (List ((ByteArray) × ((Bool) × (Int)))) → (List (Int)) → ((List ((ByteArray) × ((Bool) × (Int)))) → (List (Int)) → (List (Int)) → Option R) → Option R
noncomputable def class_Files_66e6_l0_T0 (N : Nat) {R : Type} (nx : (Int) → (Int) → (List ((ByteArray) × ((Bool) × (Int)))) → (List (Int)) → (List (Int)) → Option R) (k0 : (List ((ByteArray) × ((Bool) × (Int)))) → (List (Int)) → (List (Int)) → Option R) (x0 : Int) (x1 : Int) (x2 : List ((ByteArray) × ((Bool) × (Int)))) (x3 : List (Int)) (x4 : List (Int)) : Option R :=
  br (decide (x1 < x0))
  (br (inB x1 (List.length x2))
   (br (decide ((Int.toNat x1) < (List.length x2)))
    (br (!(List.getD x2 (Int.toNat x1) ((bs []) , (false , (0 : Int)))).2.1)
     (br (((fits (0 : Nat) (List.length x4) x4) && (decide ((((List.length x4) + (1 : Nat)) * (8 : Nat)) ≤ (70368744177664 : Nat)))) && true)
      (nx x0 (IntKind.wrap .i64 (x1 + (1 : Int))) x2 x3 ((sub x4 (0 : Nat) (List.length x4)) ++ (x1 :: ([] : List ((Sh.int IntKind.i64).T)))))
      (none))
     (nx x0 (IntKind.wrap .i64 (x1 + (1 : Int))) x2 x3 x4))
    (none))
   (none))
  (k0 x2 x3 x4)
noncomputable def class_Files_66e6_l0 (N : Nat) {R : Type} (k0 : (List ((ByteArray) × ((Bool) × (Int)))) → (List (Int)) → (List (Int)) → Option R) : Nat → (Int) → (Int) → (List ((ByteArray) × ((Bool) × (Int)))) → (List (Int)) → (List (Int)) → Option R
  | 0, _, _, _, _, _ => none
  | n + 1, x0, x1, x2, x3, x4 => class_Files_66e6_l0_T0 N (fun x0 x1 x2 x3 x4 => class_Files_66e6_l0 N k0 n x0 x1 x2 x3 x4) k0 x0 x1 x2 x3 x4
noncomputable def class_Files_66e6_T (N : Nat) (w0 : class_Files_66e6_l0_Ty) {R : Type} (x0 : Int) (x1 : Int) (x2 : Int) (x3 : List ((ByteArray) × ((Bool) × (Int)))) (x4 : List (Int)) (k0 : (List ((ByteArray) × ((Bool) × (Int)))) → (List (Int)) → (List (Int)) → Option R) : Option R :=
  w0
  (fun l40 l41 l42 => k0 l40 l41 l42)
  N (Nat.cast (List.length x3) : Int) (0 : Int) x3 x4 ([] : List ((Sh.int IntKind.i64).T))
noncomputable def class_Files_66e6 (N : Nat) {R : Type} (x0 : Int) (x1 : Int) (x2 : Int) (x3 : List ((ByteArray) × ((Bool) × (Int)))) (x4 : List (Int)) (k0 : (List ((ByteArray) × ((Bool) × (Int)))) → (List (Int)) → (List (Int)) → Option R) : Option R := class_Files_66e6_T N (@class_Files_66e6_l0 N) x0 x1 x2 x3 x4 k0
abbrev class_Files_l0_Ty : Type 1 := {R : Type} → ((List (Int)) → Option R) → Nat → (List ((ByteArray) × ((Bool) × (Int)))) → (Int) → (Int) → (List (Int)) → Option R
abbrev class_Files_Ty : Type 1 := {R : Type} → (List ((ByteArray) × ((Bool) × (Int)))) → (List (Int)) → (Int) → (Int) → (Int) → ((List (Int)) → Option R) → Option R
noncomputable def class_Files_l0_T0 (N : Nat) {R : Type} (nx : (List ((ByteArray) × ((Bool) × (Int)))) → (Int) → (Int) → (List (Int)) → Option R) (k0 : (List (Int)) → Option R) (x0 : List ((ByteArray) × ((Bool) × (Int)))) (x1 : Int) (x2 : Int) (x3 : List (Int)) : Option R :=
  br (decide (x2 < x1))
  (br (inB x2 (List.length x0))
   (br (!(List.getD x0 (Int.toNat x2) ((bs []) , (false , (0 : Int)))).2.1)
    (br (((fits (0 : Nat) (List.length x3) x3) && (decide ((((List.length x3) + (1 : Nat)) * (8 : Nat)) ≤ (70368744177664 : Nat)))) && true)
     (nx x0 x1 (IntKind.wrap .i64 (x2 + (1 : Int))) ((sub x3 (0 : Nat) (List.length x3)) ++ (x2 :: ([] : List ((Sh.int IntKind.i64).T)))))
     (none))
    (nx x0 x1 (IntKind.wrap .i64 (x2 + (1 : Int))) x3))
   (none))
  (k0 x3)
noncomputable def class_Files_l0 (N : Nat) {R : Type} (k0 : (List (Int)) → Option R) : Nat → (List ((ByteArray) × ((Bool) × (Int)))) → (Int) → (Int) → (List (Int)) → Option R
  | 0, _, _, _, _ => none
  | n + 1, x0, x1, x2, x3 => class_Files_l0_T0 N (fun x0 x1 x2 x3 => class_Files_l0 N k0 n x0 x1 x2 x3) k0 x0 x1 x2 x3
noncomputable def class_Files_T (N : Nat) (w0 : class_Files_l0_Ty) {R : Type} (x0 : List ((ByteArray) × ((Bool) × (Int)))) (x1 : List (Int)) (x2 : Int) (x3 : Int) (x4 : Int) (k0 : (List (Int)) → Option R) : Option R :=
  w0
  (fun l484 => k0 l484)
  N x0 (Nat.cast (List.length x0) : Int) (0 : Int) ([] : List ((Sh.int IntKind.i64).T))
noncomputable def class_Files (N : Nat) {R : Type} (x0 : List ((ByteArray) × ((Bool) × (Int)))) (x1 : List (Int)) (x2 : Int) (x3 : Int) (x4 : Int) (k0 : (List (Int)) → Option R) : Option R := class_Files_T N (@class_Files_l0 N) x0 x1 x2 x3 x4 k0
abbrev class_fits_Ty : Type 1 := {R : Type} → (Int) → (Int) → ((Bool) → Option R) → Option R
noncomputable def class_fits_T (N : Nat) {R : Type} (x0 : Int) (x1 : Int) (k0 : (Bool) → Option R) : Option R :=
  br (decide ((0 : Int) ≤ x0))
  (k0 (decide (x0 ≤ x1)))
  (k0 false)
noncomputable def class_fits (N : Nat) {R : Type} (x0 : Int) (x1 : Int) (k0 : (Bool) → Option R) : Option R := class_fits_T N x0 x1 k0
abbrev class_May_66e6_l0_Ty : Type 1 := {R : Type} → ((Bool) → (List ((ByteArray) × ((Bool) × (Int)))) → (List (Int)) → (Int) → (Int) → (Int) → Option R) → ((List ((ByteArray) × ((Bool) × (Int)))) → (List (Int)) → (Int) → (Int) → (Int) → Option R) → Nat → (Int) → (Int) → (List ((ByteArray) × ((Bool) × (Int)))) → (List (Int)) → (Int) → (Int) → (Int) → Option R
abbrev class_May_66e6_l1_Ty : Type 1 := {R : Type} → ((Bool) → (List ((ByteArray) × ((Bool) × (Int)))) → (List (Int)) → (Int) → (Int) → (Int) → Option R) → ((List ((ByteArray) × ((Bool) × (Int)))) → (List (Int)) → (Int) → (Int) → (Int) → Option R) → Nat → (Int) → (Int) → (List ((ByteArray) × ((Bool) × (Int)))) → (List (Int)) → (Int) → (Int) → (Int) → Option R
abbrev class_May_66e6_Ty : Type 1 := {R : Type} → (Int) → (Int) → (Int) → (List ((ByteArray) × ((Bool) × (Int)))) → (List (Int)) → ((Bool) → (List ((ByteArray) × ((Bool) × (Int)))) → (List (Int)) → Option R) → Option R
noncomputable def class_May_66e6_l0_T0 (N : Nat) (c0 : class_fits_Ty) (c1 : class_Files_66e6_Ty) (c2 : class_Files_Ty) (c3 : tree_New_644a_Ty) (c4 : tree_New_Ty) (w1 : class_May_66e6_l1_Ty) {R : Type} (nx : (Int) → (Int) → (List ((ByteArray) × ((Bool) × (Int)))) → (List (Int)) → (Int) → (Int) → (Int) → Option R) (k0 : (Bool) → (List ((ByteArray) × ((Bool) × (Int)))) → (List (Int)) → (Int) → (Int) → (Int) → Option R) (k1 : (List ((ByteArray) × ((Bool) × (Int)))) → (List (Int)) → (Int) → (Int) → (Int) → Option R) (x0 : Int) (x1 : Int) (x2 : List ((ByteArray) × ((Bool) × (Int)))) (x3 : List (Int)) (x4 : Int) (x5 : Int) (x6 : Int) : Option R :=
  br (decide (x1 < x0))
  (br (inB x1 (List.length x2))
   (br (decide ((Int.toNat x1) < (List.length x2)))
    (c0 (List.getD x2 (Int.toNat x1) ((bs []) , (false , (0 : Int)))).2.2 (3 : Int)
     (fun b46 => br (!(!b46))
      (br (List.getD x2 (Int.toNat x1) ((bs []) , (false , (0 : Int)))).2.1
       (br (!(decide ((List.getD x2 (Int.toNat x1) ((bs []) , (false , (0 : Int)))).2.2 = (0 : Int))))
        (k0 false x2 x3 x4 x5 x6)
        (nx x0 (IntKind.wrap .i64 (x1 + (1 : Int))) x2 x3 x4 x5 x6))
       (nx x0 (IntKind.wrap .i64 (x1 + (1 : Int))) x2 x3 x4 x5 x6))
      (k0 false x2 x3 x4 x5 x6)))
    (none))
   (none))
  (k1 x2 x3 x4 x5 x6)
noncomputable def class_May_66e6_l1_T0 (N : Nat) (c0 : class_fits_Ty) (c1 : class_Files_66e6_Ty) (c2 : class_Files_Ty) (c3 : tree_New_644a_Ty) (c4 : tree_New_Ty) {R : Type} (nx : (Int) → (Int) → (List ((ByteArray) × ((Bool) × (Int)))) → (List (Int)) → (Int) → (Int) → (Int) → Option R) (k0 : (Bool) → (List ((ByteArray) × ((Bool) × (Int)))) → (List (Int)) → (Int) → (Int) → (Int) → Option R) (k1 : (List ((ByteArray) × ((Bool) × (Int)))) → (List (Int)) → (Int) → (Int) → (Int) → Option R) (x0 : Int) (x1 : Int) (x2 : List ((ByteArray) × ((Bool) × (Int)))) (x3 : List (Int)) (x4 : Int) (x5 : Int) (x6 : Int) : Option R :=
  br (decide (x1 < x0))
  (br (inB x1 (List.length x3))
   (br (decide ((Int.toNat x1) < (List.length x3)))
    (c0 (List.getD x3 (Int.toNat x1) (0 : Int)) (3 : Int)
     (fun b58 => br (!b58)
      (k0 false x2 x3 x4 x5 x6)
      (nx x0 (IntKind.wrap .i64 (x1 + (1 : Int))) x2 x3 x4 x5 x6)))
    (none))
   (none))
  (k1 x2 x3 x4 x5 x6)
noncomputable def class_May_66e6_l1 (N : Nat) {R : Type} (k0 : (Bool) → (List ((ByteArray) × ((Bool) × (Int)))) → (List (Int)) → (Int) → (Int) → (Int) → Option R) (k1 : (List ((ByteArray) × ((Bool) × (Int)))) → (List (Int)) → (Int) → (Int) → (Int) → Option R) : Nat → (Int) → (Int) → (List ((ByteArray) × ((Bool) × (Int)))) → (List (Int)) → (Int) → (Int) → (Int) → Option R
  | 0, _, _, _, _, _, _, _ => none
  | n + 1, x0, x1, x2, x3, x4, x5, x6 => class_May_66e6_l1_T0 N (@class_fits N) (@class_Files_66e6 N) (@class_Files N) (@tree_New_644a N) (@tree_New N) (fun x0 x1 x2 x3 x4 x5 x6 => class_May_66e6_l1 N k0 k1 n x0 x1 x2 x3 x4 x5 x6) k0 k1 x0 x1 x2 x3 x4 x5 x6
noncomputable def class_May_66e6_l0 (N : Nat) {R : Type} (k0 : (Bool) → (List ((ByteArray) × ((Bool) × (Int)))) → (List (Int)) → (Int) → (Int) → (Int) → Option R) (k1 : (List ((ByteArray) × ((Bool) × (Int)))) → (List (Int)) → (Int) → (Int) → (Int) → Option R) : Nat → (Int) → (Int) → (List ((ByteArray) × ((Bool) × (Int)))) → (List (Int)) → (Int) → (Int) → (Int) → Option R
  | 0, _, _, _, _, _, _, _ => none
  | n + 1, x0, x1, x2, x3, x4, x5, x6 => class_May_66e6_l0_T0 N (@class_fits N) (@class_Files_66e6 N) (@class_Files N) (@tree_New_644a N) (@tree_New N) (@class_May_66e6_l1 N) (fun x0 x1 x2 x3 x4 x5 x6 => class_May_66e6_l0 N k0 k1 n x0 x1 x2 x3 x4 x5 x6) k0 k1 x0 x1 x2 x3 x4 x5 x6
noncomputable def class_May_66e6_T (N : Nat) (c0 : class_fits_Ty) (c1 : class_Files_66e6_Ty) (c2 : class_Files_Ty) (c3 : tree_New_644a_Ty) (c4 : tree_New_Ty) (w0 : class_May_66e6_l0_Ty) (w1 : class_May_66e6_l1_Ty) {R : Type} (x0 : Int) (x1 : Int) (x2 : Int) (x3 : List ((ByteArray) × ((Bool) × (Int)))) (x4 : List (Int)) (k0 : (Bool) → (List ((ByteArray) × ((Bool) × (Int)))) → (List (Int)) → Option R) : Option R :=
  c3 x3
  (fun i38 l39 => br (!(!(decide (i38 = (0 : Int)))))
   (c1 x0 x1 x2 l39 x4
    (fun l43 l44 l45 => br (!(decide ((4 : Int) < (Nat.cast (List.length l45) : Int))))
     (br (decide ((2 : Int) < (Nat.cast (List.length l44) : Int)))
      (k0 false l43 l44)
      (w0
       (fun b47 l48 l49 i50 i51 i52 => k0 b47 l48 l49)
       (fun l53 l54 i55 i56 i57 => w1
        (fun b59 l60 l61 i62 i63 i64 => k0 b59 l60 l61)
        (fun l65 l66 i67 i68 i69 => c0 i67 (6 : Int)
         (fun b70 => br b70
          (c0 i68 i67
           (fun b71 => br b71
            (c0 i69 (400 : Int)
             (fun b72 => k0 b72 l65 l66))
            (k0 false l65 l66)))
          (k0 false l65 l66)))
        N (Nat.cast (List.length l54) : Int) (0 : Int) l53 l54 i55 i56 i57)
       N (Nat.cast (List.length l43) : Int) (0 : Int) l43 l44 x0 x1 x2))
     (k0 false l43 l44)))
   (k0 false l39 x4))
  (fun i73 l74 i75 l76 => br (!(!(decide (i73 = (0 : Int)))))
   (c1 x0 x1 x2 l74 x4
    (fun l77 l78 l79 => br (!(decide ((4 : Int) < (Nat.cast (List.length l79) : Int))))
     (br (decide ((2 : Int) < (Nat.cast (List.length l78) : Int)))
      (k0 false l77 l78)
      (w0
       (fun b80 l81 l82 i83 i84 i85 => k0 b80 l81 l82)
       (fun l86 l87 i88 i89 i90 => w1
        (fun b91 l92 l93 i94 i95 i96 => k0 b91 l92 l93)
        (fun l97 l98 i99 i100 i101 => c0 i99 (6 : Int)
         (fun b102 => br b102
          (c0 i100 i99
           (fun b103 => br b103
            (c0 i101 (400 : Int)
             (fun b104 => k0 b104 l97 l98))
            (k0 false l97 l98)))
          (k0 false l97 l98)))
        N (Nat.cast (List.length l87) : Int) (0 : Int) l86 l87 i88 i89 i90)
       N (Nat.cast (List.length l77) : Int) (0 : Int) l77 l78 x0 x1 x2))
     (k0 false l77 l78)))
   (k0 false l74 x4))
noncomputable def class_May_66e6 (N : Nat) {R : Type} (x0 : Int) (x1 : Int) (x2 : Int) (x3 : List ((ByteArray) × ((Bool) × (Int)))) (x4 : List (Int)) (k0 : (Bool) → (List ((ByteArray) × ((Bool) × (Int)))) → (List (Int)) → Option R) : Option R := class_May_66e6_T N (@class_fits N) (@class_Files_66e6 N) (@class_Files N) (@tree_New_644a N) (@tree_New N) (@class_May_66e6_l0 N) (@class_May_66e6_l1 N) x0 x1 x2 x3 x4 k0
abbrev class_May_l0_Ty : Type 1 := {R : Type} → ((Bool) → (List ((ByteArray) × ((Bool) × (Int)))) → (List (Int)) → (Int) → (Int) → (Int) → Option R) → ((List ((ByteArray) × ((Bool) × (Int)))) → (List (Int)) → (Int) → (Int) → (Int) → Option R) → Nat → (List ((ByteArray) × ((Bool) × (Int)))) → (Int) → (Int) → (List ((ByteArray) × ((Bool) × (Int)))) → (List (Int)) → (Int) → (Int) → (Int) → Option R
abbrev class_May_l1_Ty : Type 1 := {R : Type} → ((Bool) → (List ((ByteArray) × ((Bool) × (Int)))) → (List (Int)) → (Int) → (Int) → (Int) → Option R) → ((List ((ByteArray) × ((Bool) × (Int)))) → (List (Int)) → (Int) → (Int) → (Int) → Option R) → Nat → (List (Int)) → (Int) → (Int) → (List ((ByteArray) × ((Bool) × (Int)))) → (List (Int)) → (Int) → (Int) → (Int) → Option R
abbrev class_May_Ty : Type 1 := {R : Type} → (List ((ByteArray) × ((Bool) × (Int)))) → (List (Int)) → (Int) → (Int) → (Int) → ((Bool) → Option R) → Option R
noncomputable def class_May_l0_T0 (N : Nat) (c0 : class_fits_Ty) (c1 : class_Files_66e6_Ty) (c2 : class_Files_Ty) (c3 : tree_New_644a_Ty) (c4 : tree_New_Ty) (w1 : class_May_l1_Ty) {R : Type} (nx : (List ((ByteArray) × ((Bool) × (Int)))) → (Int) → (Int) → (List ((ByteArray) × ((Bool) × (Int)))) → (List (Int)) → (Int) → (Int) → (Int) → Option R) (k0 : (Bool) → (List ((ByteArray) × ((Bool) × (Int)))) → (List (Int)) → (Int) → (Int) → (Int) → Option R) (k1 : (List ((ByteArray) × ((Bool) × (Int)))) → (List (Int)) → (Int) → (Int) → (Int) → Option R) (x0 : List ((ByteArray) × ((Bool) × (Int)))) (x1 : Int) (x2 : Int) (x3 : List ((ByteArray) × ((Bool) × (Int)))) (x4 : List (Int)) (x5 : Int) (x6 : Int) (x7 : Int) : Option R :=
  br (decide (x2 < x1))
  (br (inB x2 (List.length x0))
   (c0 (List.getD x0 (Int.toNat x2) ((bs []) , (false , (0 : Int)))).2.2 (3 : Int)
    (fun b486 => br (!(!b486))
     (br (List.getD x0 (Int.toNat x2) ((bs []) , (false , (0 : Int)))).2.1
      (br (!(decide ((List.getD x0 (Int.toNat x2) ((bs []) , (false , (0 : Int)))).2.2 = (0 : Int))))
       (k0 false x3 x4 x5 x6 x7)
       (nx x0 x1 (IntKind.wrap .i64 (x2 + (1 : Int))) x3 x4 x5 x6 x7))
      (nx x0 x1 (IntKind.wrap .i64 (x2 + (1 : Int))) x3 x4 x5 x6 x7))
     (k0 false x3 x4 x5 x6 x7)))
   (none))
  (k1 x3 x4 x5 x6 x7)
noncomputable def class_May_l1_T0 (N : Nat) (c0 : class_fits_Ty) (c1 : class_Files_66e6_Ty) (c2 : class_Files_Ty) (c3 : tree_New_644a_Ty) (c4 : tree_New_Ty) {R : Type} (nx : (List (Int)) → (Int) → (Int) → (List ((ByteArray) × ((Bool) × (Int)))) → (List (Int)) → (Int) → (Int) → (Int) → Option R) (k0 : (Bool) → (List ((ByteArray) × ((Bool) × (Int)))) → (List (Int)) → (Int) → (Int) → (Int) → Option R) (k1 : (List ((ByteArray) × ((Bool) × (Int)))) → (List (Int)) → (Int) → (Int) → (Int) → Option R) (x0 : List (Int)) (x1 : Int) (x2 : Int) (x3 : List ((ByteArray) × ((Bool) × (Int)))) (x4 : List (Int)) (x5 : Int) (x6 : Int) (x7 : Int) : Option R :=
  br (decide (x2 < x1))
  (br (inB x2 (List.length x0))
   (c0 (List.getD x0 (Int.toNat x2) (0 : Int)) (3 : Int)
    (fun b498 => br (!b498)
     (k0 false x3 x4 x5 x6 x7)
     (nx x0 x1 (IntKind.wrap .i64 (x2 + (1 : Int))) x3 x4 x5 x6 x7)))
   (none))
  (k1 x3 x4 x5 x6 x7)
noncomputable def class_May_l1 (N : Nat) {R : Type} (k0 : (Bool) → (List ((ByteArray) × ((Bool) × (Int)))) → (List (Int)) → (Int) → (Int) → (Int) → Option R) (k1 : (List ((ByteArray) × ((Bool) × (Int)))) → (List (Int)) → (Int) → (Int) → (Int) → Option R) : Nat → (List (Int)) → (Int) → (Int) → (List ((ByteArray) × ((Bool) × (Int)))) → (List (Int)) → (Int) → (Int) → (Int) → Option R
  | 0, _, _, _, _, _, _, _, _ => none
  | n + 1, x0, x1, x2, x3, x4, x5, x6, x7 => class_May_l1_T0 N (@class_fits N) (@class_Files_66e6 N) (@class_Files N) (@tree_New_644a N) (@tree_New N) (fun x0 x1 x2 x3 x4 x5 x6 x7 => class_May_l1 N k0 k1 n x0 x1 x2 x3 x4 x5 x6 x7) k0 k1 x0 x1 x2 x3 x4 x5 x6 x7
noncomputable def class_May_l0 (N : Nat) {R : Type} (k0 : (Bool) → (List ((ByteArray) × ((Bool) × (Int)))) → (List (Int)) → (Int) → (Int) → (Int) → Option R) (k1 : (List ((ByteArray) × ((Bool) × (Int)))) → (List (Int)) → (Int) → (Int) → (Int) → Option R) : Nat → (List ((ByteArray) × ((Bool) × (Int)))) → (Int) → (Int) → (List ((ByteArray) × ((Bool) × (Int)))) → (List (Int)) → (Int) → (Int) → (Int) → Option R
  | 0, _, _, _, _, _, _, _, _ => none
  | n + 1, x0, x1, x2, x3, x4, x5, x6, x7 => class_May_l0_T0 N (@class_fits N) (@class_Files_66e6 N) (@class_Files N) (@tree_New_644a N) (@tree_New N) (@class_May_l1 N) (fun x0 x1 x2 x3 x4 x5 x6 x7 => class_May_l0 N k0 k1 n x0 x1 x2 x3 x4 x5 x6 x7) k0 k1 x0 x1 x2 x3 x4 x5 x6 x7
noncomputable def class_May_T (N : Nat) (c0 : class_fits_Ty) (c1 : class_Files_66e6_Ty) (c2 : class_Files_Ty) (c3 : tree_New_644a_Ty) (c4 : tree_New_Ty) (w0 : class_May_l0_Ty) (w1 : class_May_l1_Ty) {R : Type} (x0 : List ((ByteArray) × ((Bool) × (Int)))) (x1 : List (Int)) (x2 : Int) (x3 : Int) (x4 : Int) (k0 : (Bool) → Option R) : Option R :=
  c4 x0
  (fun i483 => br (!(!(decide (i483 = (0 : Int)))))
   (c2 x0 x1 x2 x3 x4
    (fun l485 => br (!(decide ((4 : Int) < (Nat.cast (List.length l485) : Int))))
     (br (decide ((2 : Int) < (Nat.cast (List.length x1) : Int)))
      (k0 false)
      (w0
       (fun b487 l488 l489 i490 i491 i492 => k0 b487)
       (fun l493 l494 i495 i496 i497 => w1
        (fun b499 l500 l501 i502 i503 i504 => k0 b499)
        (fun l505 l506 i507 i508 i509 => c0 i507 (6 : Int)
         (fun b510 => br b510
          (c0 i508 i507
           (fun b511 => br b511
            (c0 i509 (400 : Int)
             (fun b512 => k0 b512))
            (k0 false)))
          (k0 false)))
        N l494 (Nat.cast (List.length l494) : Int) (0 : Int) l493 l494 i495 i496 i497)
       N x0 (Nat.cast (List.length x0) : Int) (0 : Int) x0 x1 x2 x3 x4))
     (k0 false)))
   (k0 false))
  (fun i513 i514 l515 => br (!(!(decide (i513 = (0 : Int)))))
   (c2 x0 x1 x2 x3 x4
    (fun l516 => br (!(decide ((4 : Int) < (Nat.cast (List.length l516) : Int))))
     (br (decide ((2 : Int) < (Nat.cast (List.length x1) : Int)))
      (k0 false)
      (w0
       (fun b517 l518 l519 i520 i521 i522 => k0 b517)
       (fun l523 l524 i525 i526 i527 => w1
        (fun b528 l529 l530 i531 i532 i533 => k0 b528)
        (fun l534 l535 i536 i537 i538 => c0 i536 (6 : Int)
         (fun b539 => br b539
          (c0 i537 i536
           (fun b540 => br b540
            (c0 i538 (400 : Int)
             (fun b541 => k0 b541))
            (k0 false)))
          (k0 false)))
        N l524 (Nat.cast (List.length l524) : Int) (0 : Int) l523 l524 i525 i526 i527)
       N x0 (Nat.cast (List.length x0) : Int) (0 : Int) x0 x1 x2 x3 x4))
     (k0 false)))
   (k0 false))
noncomputable def class_May (N : Nat) {R : Type} (x0 : List ((ByteArray) × ((Bool) × (Int)))) (x1 : List (Int)) (x2 : Int) (x3 : Int) (x4 : Int) (k0 : (Bool) → Option R) : Option R := class_May_T N (@class_fits N) (@class_Files_66e6 N) (@class_Files N) (@tree_New_644a N) (@tree_New N) (@class_May_l0 N) (@class_May_l1 N) x0 x1 x2 x3 x4 k0
abbrev fails_May_e7e3_l0_Ty : Type 1 := {R : Type} → ((Int) → (Int) → (Int) → (List (Bool)) → Option R) → Nat → (Int) → (Int) → (Int) → (Int) → (Int) → (List (Bool)) → Option R
abbrev fails_May_e7e3_Ty : Type 1 := {R : Type} → (Int) → (Int) → (List (Bool)) → ((Bool) → (List (Bool)) → Option R) → Option R
noncomputable def fails_May_e7e3_l0_T0 (N : Nat) {R : Type} (nx : (Int) → (Int) → (Int) → (Int) → (Int) → (List (Bool)) → Option R) (k0 : (Int) → (Int) → (Int) → (List (Bool)) → Option R) (x0 : Int) (x1 : Int) (x2 : Int) (x3 : Int) (x4 : Int) (x5 : List (Bool)) : Option R :=
  br (decide (x4 < x3))
  (br (inB x4 (List.length x5))
   (br (decide ((Int.toNat x4) < (List.length x5)))
    (br (List.getD x5 (Int.toNat x4) false)
     (nx x0 x1 (IntKind.wrap .i64 (x2 + (1 : Int))) x3 (IntKind.wrap .i64 (x4 + (1 : Int))) x5)
     (nx x0 x1 x2 x3 (IntKind.wrap .i64 (x4 + (1 : Int))) x5))
    (none))
   (none))
  (k0 x0 x1 x2 x5)
noncomputable def fails_May_e7e3_l0 (N : Nat) {R : Type} (k0 : (Int) → (Int) → (Int) → (List (Bool)) → Option R) : Nat → (Int) → (Int) → (Int) → (Int) → (Int) → (List (Bool)) → Option R
  | 0, _, _, _, _, _, _ => none
  | n + 1, x0, x1, x2, x3, x4, x5 => fails_May_e7e3_l0_T0 N (fun x0 x1 x2 x3 x4 x5 => fails_May_e7e3_l0 N k0 n x0 x1 x2 x3 x4 x5) k0 x0 x1 x2 x3 x4 x5
noncomputable def fails_May_e7e3_T (N : Nat) (w0 : fails_May_e7e3_l0_Ty) {R : Type} (x0 : Int) (x1 : Int) (x2 : List (Bool)) (k0 : (Bool) → (List (Bool)) → Option R) : Option R :=
  w0
  (fun i114 i115 i116 l117 => br (decide ((Nat.cast (List.length l117) : Int) = i114))
   (br (decide (i114 ≤ (6 : Int)))
    (k0 (decide (i116 ≤ i115)) l117)
    (k0 false l117))
   (k0 false l117))
  N x0 x1 (0 : Int) (Nat.cast (List.length x2) : Int) (0 : Int) x2
noncomputable def fails_May_e7e3 (N : Nat) {R : Type} (x0 : Int) (x1 : Int) (x2 : List (Bool)) (k0 : (Bool) → (List (Bool)) → Option R) : Option R := fails_May_e7e3_T N (@fails_May_e7e3_l0 N) x0 x1 x2 k0
abbrev fails_May_l0_Ty : Type 1 := {R : Type} → ((List (Bool)) → (Int) → (Int) → (Int) → Option R) → Nat → (List (Bool)) → (Int) → (Int) → (Int) → (List (Bool)) → (Int) → (Int) → Option R
abbrev fails_May_Ty : Type 1 := {R : Type} → (List (Bool)) → (Int) → (Int) → ((Bool) → Option R) → Option R
noncomputable def fails_May_l0_T0 (N : Nat) {R : Type} (nx : (List (Bool)) → (Int) → (Int) → (Int) → (List (Bool)) → (Int) → (Int) → Option R) (k0 : (List (Bool)) → (Int) → (Int) → (Int) → Option R) (x0 : List (Bool)) (x1 : Int) (x2 : Int) (x3 : Int) (x4 : List (Bool)) (x5 : Int) (x6 : Int) : Option R :=
  br (decide (x6 < x5))
  (br (inB x6 (List.length x4))
   (br (List.getD x4 (Int.toNat x6) false)
    (nx x0 x1 x2 (IntKind.wrap .i64 (x3 + (1 : Int))) x4 x5 (IntKind.wrap .i64 (x6 + (1 : Int))))
    (nx x0 x1 x2 x3 x4 x5 (IntKind.wrap .i64 (x6 + (1 : Int)))))
   (none))
  (k0 x0 x1 x2 x3)
noncomputable def fails_May_l0 (N : Nat) {R : Type} (k0 : (List (Bool)) → (Int) → (Int) → (Int) → Option R) : Nat → (List (Bool)) → (Int) → (Int) → (Int) → (List (Bool)) → (Int) → (Int) → Option R
  | 0, _, _, _, _, _, _, _ => none
  | n + 1, x0, x1, x2, x3, x4, x5, x6 => fails_May_l0_T0 N (fun x0 x1 x2 x3 x4 x5 x6 => fails_May_l0 N k0 n x0 x1 x2 x3 x4 x5 x6) k0 x0 x1 x2 x3 x4 x5 x6
noncomputable def fails_May_T (N : Nat) (w0 : fails_May_l0_Ty) {R : Type} (x0 : List (Bool)) (x1 : Int) (x2 : Int) (k0 : (Bool) → Option R) : Option R :=
  w0
  (fun l545 i546 i547 i548 => br (decide ((Nat.cast (List.length l545) : Int) = i546))
   (br (decide (i546 ≤ (6 : Int)))
    (k0 (decide (i548 ≤ i547)))
    (k0 false))
   (k0 false))
  N x0 x1 x2 (0 : Int) x0 (Nat.cast (List.length x0) : Int) (0 : Int)
noncomputable def fails_May (N : Nat) {R : Type} (x0 : List (Bool)) (x1 : Int) (x2 : Int) (k0 : (Bool) → Option R) : Option R := fails_May_T N (@fails_May_l0 N) x0 x1 x2 k0
abbrev class_Caps_66e6_l0_Ty : Type 1 := {R : Type} → ((List ((ByteArray) × ((Bool) × (Int)))) → (List (Int)) → (Int) → (Int) → (Int) → (List (Int)) → Option R) → Nat → (Int) → (Int) → (List ((ByteArray) × ((Bool) × (Int)))) → (List (Int)) → (Int) → (Int) → (Int) → (List (Int)) → (List (Int)) → Option R
abbrev class_Caps_66e6_Ty : Type 1 := {R : Type} → (Int) → (Int) → (Int) → (List ((ByteArray) × ((Bool) × (Int)))) → (List (Int)) → ((List ((ByteArray) × ((Bool) × (Int)))) → (List (Int)) → (List (Int)) → Option R) → Option R
noncomputable def class_Caps_66e6_l0_T0 (N : Nat) (c0 : class_Files_66e6_Ty) (c1 : class_Files_Ty) {R : Type} (nx : (Int) → (Int) → (List ((ByteArray) × ((Bool) × (Int)))) → (List (Int)) → (Int) → (Int) → (Int) → (List (Int)) → (List (Int)) → Option R) (k0 : (List ((ByteArray) × ((Bool) × (Int)))) → (List (Int)) → (Int) → (Int) → (Int) → (List (Int)) → Option R) (x0 : Int) (x1 : Int) (x2 : List ((ByteArray) × ((Bool) × (Int)))) (x3 : List (Int)) (x4 : Int) (x5 : Int) (x6 : Int) (x7 : List (Int)) (x8 : List (Int)) : Option R :=
  br (decide (x1 < x0))
  (br (inB x1 (List.length x8))
   (br (decide ((Int.toNat x1) < (List.length x8)))
    (br (inB (List.getD x8 (Int.toNat x1) (0 : Int)) (List.length x2))
     (br (decide ((Int.toNat (List.getD x8 (Int.toNat x1) (0 : Int))) < (List.length x2)))
      (br (((fits (0 : Nat) (List.length x7) x7) && (decide ((((List.length x7) + (1 : Nat)) * (8 : Nat)) ≤ (70368744177664 : Nat)))) && true)
       (nx x0 (IntKind.wrap .i64 (x1 + (1 : Int))) x2 x3 x4 x5 x6 ((sub x7 (0 : Nat) (List.length x7)) ++ ((List.getD x2 (Int.toNat (List.getD x8 (Int.toNat x1) (0 : Int))) ((bs []) , (false , (0 : Int)))).2.2 :: ([] : List ((Sh.int IntKind.i64).T)))) x8)
       (none))
      (none))
     (none))
    (none))
   (none))
  (k0 x2 x3 x4 x5 x6 x7)
noncomputable def class_Caps_66e6_l0 (N : Nat) {R : Type} (k0 : (List ((ByteArray) × ((Bool) × (Int)))) → (List (Int)) → (Int) → (Int) → (Int) → (List (Int)) → Option R) : Nat → (Int) → (Int) → (List ((ByteArray) × ((Bool) × (Int)))) → (List (Int)) → (Int) → (Int) → (Int) → (List (Int)) → (List (Int)) → Option R
  | 0, _, _, _, _, _, _, _, _, _ => none
  | n + 1, x0, x1, x2, x3, x4, x5, x6, x7, x8 => class_Caps_66e6_l0_T0 N (@class_Files_66e6 N) (@class_Files N) (fun x0 x1 x2 x3 x4 x5 x6 x7 x8 => class_Caps_66e6_l0 N k0 n x0 x1 x2 x3 x4 x5 x6 x7 x8) k0 x0 x1 x2 x3 x4 x5 x6 x7 x8
noncomputable def class_Caps_66e6_T (N : Nat) (c0 : class_Files_66e6_Ty) (c1 : class_Files_Ty) (w0 : class_Caps_66e6_l0_Ty) {R : Type} (x0 : Int) (x1 : Int) (x2 : Int) (x3 : List ((ByteArray) × ((Bool) × (Int)))) (x4 : List (Int)) (k0 : (List ((ByteArray) × ((Bool) × (Int)))) → (List (Int)) → (List (Int)) → Option R) : Option R :=
  c0 x0 x1 x2 x3 x4
  (fun l123 l124 l125 => w0
   (fun l126 l127 i128 i129 i130 l131 => br (fits (0 : Nat) (List.length l127) l127)
    (br (((fits (0 : Nat) (List.length l131) l131) && (decide ((((List.length l131) + (List.length (sub l127 (0 : Nat) (List.length l127)))) * (8 : Nat)) ≤ (70368744177664 : Nat)))) && true)
     (k0 l126 l127 ((sub l131 (0 : Nat) (List.length l131)) ++ (sub l127 (0 : Nat) (List.length l127))))
     (none))
    (none))
   N (Nat.cast (List.length l125) : Int) (0 : Int) l123 l124 x0 x1 x2 ([] : List ((Sh.int IntKind.i64).T)) l125)
noncomputable def class_Caps_66e6 (N : Nat) {R : Type} (x0 : Int) (x1 : Int) (x2 : Int) (x3 : List ((ByteArray) × ((Bool) × (Int)))) (x4 : List (Int)) (k0 : (List ((ByteArray) × ((Bool) × (Int)))) → (List (Int)) → (List (Int)) → Option R) : Option R := class_Caps_66e6_T N (@class_Files_66e6 N) (@class_Files N) (@class_Caps_66e6_l0 N) x0 x1 x2 x3 x4 k0
abbrev class_Caps_l0_Ty : Type 1 := {R : Type} → ((List ((ByteArray) × ((Bool) × (Int)))) → (List (Int)) → (Int) → (Int) → (Int) → (List (Int)) → Option R) → Nat → (Int) → (Int) → (List ((ByteArray) × ((Bool) × (Int)))) → (List (Int)) → (Int) → (Int) → (Int) → (List (Int)) → (List (Int)) → Option R
abbrev class_Caps_Ty : Type 1 := {R : Type} → (List ((ByteArray) × ((Bool) × (Int)))) → (List (Int)) → (Int) → (Int) → (Int) → ((List (Int)) → Option R) → Option R
noncomputable def class_Caps_l0_T0 (N : Nat) (c0 : class_Files_66e6_Ty) (c1 : class_Files_Ty) {R : Type} (nx : (Int) → (Int) → (List ((ByteArray) × ((Bool) × (Int)))) → (List (Int)) → (Int) → (Int) → (Int) → (List (Int)) → (List (Int)) → Option R) (k0 : (List ((ByteArray) × ((Bool) × (Int)))) → (List (Int)) → (Int) → (Int) → (Int) → (List (Int)) → Option R) (x0 : Int) (x1 : Int) (x2 : List ((ByteArray) × ((Bool) × (Int)))) (x3 : List (Int)) (x4 : Int) (x5 : Int) (x6 : Int) (x7 : List (Int)) (x8 : List (Int)) : Option R :=
  br (decide (x1 < x0))
  (br (inB x1 (List.length x8))
   (br (decide ((Int.toNat x1) < (List.length x8)))
    (br (inB (List.getD x8 (Int.toNat x1) (0 : Int)) (List.length x2))
     (br (((fits (0 : Nat) (List.length x7) x7) && (decide ((((List.length x7) + (1 : Nat)) * (8 : Nat)) ≤ (70368744177664 : Nat)))) && true)
      (nx x0 (IntKind.wrap .i64 (x1 + (1 : Int))) x2 x3 x4 x5 x6 ((sub x7 (0 : Nat) (List.length x7)) ++ ((List.getD x2 (Int.toNat (List.getD x8 (Int.toNat x1) (0 : Int))) ((bs []) , (false , (0 : Int)))).2.2 :: ([] : List ((Sh.int IntKind.i64).T)))) x8)
      (none))
     (none))
    (none))
   (none))
  (k0 x2 x3 x4 x5 x6 x7)
noncomputable def class_Caps_l0 (N : Nat) {R : Type} (k0 : (List ((ByteArray) × ((Bool) × (Int)))) → (List (Int)) → (Int) → (Int) → (Int) → (List (Int)) → Option R) : Nat → (Int) → (Int) → (List ((ByteArray) × ((Bool) × (Int)))) → (List (Int)) → (Int) → (Int) → (Int) → (List (Int)) → (List (Int)) → Option R
  | 0, _, _, _, _, _, _, _, _, _ => none
  | n + 1, x0, x1, x2, x3, x4, x5, x6, x7, x8 => class_Caps_l0_T0 N (@class_Files_66e6 N) (@class_Files N) (fun x0 x1 x2 x3 x4 x5 x6 x7 x8 => class_Caps_l0 N k0 n x0 x1 x2 x3 x4 x5 x6 x7 x8) k0 x0 x1 x2 x3 x4 x5 x6 x7 x8
noncomputable def class_Caps_T (N : Nat) (c0 : class_Files_66e6_Ty) (c1 : class_Files_Ty) (w0 : class_Caps_l0_Ty) {R : Type} (x0 : List ((ByteArray) × ((Bool) × (Int)))) (x1 : List (Int)) (x2 : Int) (x3 : Int) (x4 : Int) (k0 : (List (Int)) → Option R) : Option R :=
  c1 x0 x1 x2 x3 x4
  (fun l551 => w0
   (fun l552 l553 i554 i555 i556 l557 => br (((fits (0 : Nat) (List.length l557) l557) && (decide ((((List.length l557) + (List.length l553)) * (8 : Nat)) ≤ (70368744177664 : Nat)))) && true)
    (k0 ((sub l557 (0 : Nat) (List.length l557)) ++ l553))
    (none))
   N (Nat.cast (List.length l551) : Int) (0 : Int) x0 x1 x2 x3 x4 ([] : List ((Sh.int IntKind.i64).T)) l551)
noncomputable def class_Caps (N : Nat) {R : Type} (x0 : List ((ByteArray) × ((Bool) × (Int)))) (x1 : List (Int)) (x2 : Int) (x3 : Int) (x4 : Int) (k0 : (List (Int)) → Option R) : Option R := class_Caps_T N (@class_Files_66e6 N) (@class_Files N) (@class_Caps_l0 N) x0 x1 x2 x3 x4 k0
abbrev class_Has_1e53_l0_Ty : Type 1 := {R : Type} → ((Bool) → (List ((ByteArray) × ((Bool) × (Int)))) → (List (Int)) → (List (List (Int))) → (List (List (Int))) → (List (Bool)) → Option R) → ((List ((ByteArray) × ((Bool) × (Int)))) → (List (Int)) → (List (List (Int))) → (List (List (Int))) → (List (Bool)) → Option R) → Nat → (Int) → (Int) → (Int) → (List ((ByteArray) × ((Bool) × (Int)))) → (List (Int)) → (List (List (Int))) → (List (List (Int))) → (List (Bool)) → (List (Int)) → Option R
abbrev class_Has_1e53_Ty : Type 1 := {R : Type} → (Int) → (Int) → (Int) → (List ((ByteArray) × ((Bool) × (Int)))) → (List (Int)) → (List (List (Int))) → (List (List (Int))) → (List (Bool)) → ((Bool) → (List ((ByteArray) × ((Bool) × (Int)))) → (List (Int)) → (List (List (Int))) → (List (List (Int))) → (List (Bool)) → Option R) → Option R
noncomputable def class_Has_1e53_l0_T0 (N : Nat) (c0 : class_Caps_66e6_Ty) (c1 : class_Caps_Ty) (c2 : fails_May_e7e3_Ty) (c3 : fails_May_Ty) (c4 : class_May_66e6_Ty) (c5 : class_May_Ty) (c6 : class_Files_66e6_Ty) (c7 : class_Files_Ty) {R : Type} (nx : (Int) → (Int) → (Int) → (List ((ByteArray) × ((Bool) × (Int)))) → (List (Int)) → (List (List (Int))) → (List (List (Int))) → (List (Bool)) → (List (Int)) → Option R) (k0 : (Bool) → (List ((ByteArray) × ((Bool) × (Int)))) → (List (Int)) → (List (List (Int))) → (List (List (Int))) → (List (Bool)) → Option R) (k1 : (List ((ByteArray) × ((Bool) × (Int)))) → (List (Int)) → (List (List (Int))) → (List (List (Int))) → (List (Bool)) → Option R) (x0 : Int) (x1 : Int) (x2 : Int) (x3 : List ((ByteArray) × ((Bool) × (Int)))) (x4 : List (Int)) (x5 : List (List (Int))) (x6 : List (List (Int))) (x7 : List (Bool)) (x8 : List (Int)) : Option R :=
  br (decide (x2 < x1))
  (br (inB x2 (List.length x8))
   (br (decide ((Int.toNat x2) < (List.length x8)))
    (br (decide (x2 < x0))
     (br (inB x2 (List.length x5))
      (br (decide ((Int.toNat x2) < (List.length x5)))
       (br (!(decide ((List.getD x8 (Int.toNat x2) (0 : Int)) < (Nat.cast (List.length (List.getD x5 (Int.toNat x2) (Sh.zero (.isl (.int .u8))))) : Int))))
        (br (decide (x0 ≤ x2))
         (br (inB (IntKind.wrap .i64 (x2 - x0)) (List.length x6))
          (br (decide ((Int.toNat (IntKind.wrap .i64 (x2 - x0))) < (List.length x6)))
           (br (decide ((List.getD x8 (Int.toNat x2) (0 : Int)) < (Nat.cast (List.length (List.getD x6 (Int.toNat (IntKind.wrap .i64 (x2 - x0))) (Sh.zero (.isl (.int .u8))))) : Int)))
            (k0 false x3 x4 x5 x6 x7)
            (nx x0 x1 (IntKind.wrap .i64 (x2 + (1 : Int))) x3 x4 x5 x6 x7 x8))
           (none))
          (none))
         (nx x0 x1 (IntKind.wrap .i64 (x2 + (1 : Int))) x3 x4 x5 x6 x7 x8))
        (k0 false x3 x4 x5 x6 x7))
       (none))
      (none))
     (br (decide (x0 ≤ x2))
      (br (inB (IntKind.wrap .i64 (x2 - x0)) (List.length x6))
       (br (decide ((Int.toNat (IntKind.wrap .i64 (x2 - x0))) < (List.length x6)))
        (br (decide ((List.getD x8 (Int.toNat x2) (0 : Int)) < (Nat.cast (List.length (List.getD x6 (Int.toNat (IntKind.wrap .i64 (x2 - x0))) (Sh.zero (.isl (.int .u8))))) : Int)))
         (k0 false x3 x4 x5 x6 x7)
         (nx x0 x1 (IntKind.wrap .i64 (x2 + (1 : Int))) x3 x4 x5 x6 x7 x8))
        (none))
       (none))
      (nx x0 x1 (IntKind.wrap .i64 (x2 + (1 : Int))) x3 x4 x5 x6 x7 x8)))
    (none))
   (none))
  (k1 x3 x4 x5 x6 x7)
noncomputable def class_Has_1e53_l0 (N : Nat) {R : Type} (k0 : (Bool) → (List ((ByteArray) × ((Bool) × (Int)))) → (List (Int)) → (List (List (Int))) → (List (List (Int))) → (List (Bool)) → Option R) (k1 : (List ((ByteArray) × ((Bool) × (Int)))) → (List (Int)) → (List (List (Int))) → (List (List (Int))) → (List (Bool)) → Option R) : Nat → (Int) → (Int) → (Int) → (List ((ByteArray) × ((Bool) × (Int)))) → (List (Int)) → (List (List (Int))) → (List (List (Int))) → (List (Bool)) → (List (Int)) → Option R
  | 0, _, _, _, _, _, _, _, _, _ => none
  | n + 1, x0, x1, x2, x3, x4, x5, x6, x7, x8 => class_Has_1e53_l0_T0 N (@class_Caps_66e6 N) (@class_Caps N) (@fails_May_e7e3 N) (@fails_May N) (@class_May_66e6 N) (@class_May N) (@class_Files_66e6 N) (@class_Files N) (fun x0 x1 x2 x3 x4 x5 x6 x7 x8 => class_Has_1e53_l0 N k0 k1 n x0 x1 x2 x3 x4 x5 x6 x7 x8) k0 k1 x0 x1 x2 x3 x4 x5 x6 x7 x8
noncomputable def class_Has_1e53_T (N : Nat) (c0 : class_Caps_66e6_Ty) (c1 : class_Caps_Ty) (c2 : fails_May_e7e3_Ty) (c3 : fails_May_Ty) (c4 : class_May_66e6_Ty) (c5 : class_May_Ty) (c6 : class_Files_66e6_Ty) (c7 : class_Files_Ty) (w0 : class_Has_1e53_l0_Ty) {R : Type} (x0 : Int) (x1 : Int) (x2 : Int) (x3 : List ((ByteArray) × ((Bool) × (Int)))) (x4 : List (Int)) (x5 : List (List (Int))) (x6 : List (List (Int))) (x7 : List (Bool)) (k0 : (Bool) → (List ((ByteArray) × ((Bool) × (Int)))) → (List (Int)) → (List (List (Int))) → (List (List (Int))) → (List (Bool)) → Option R) : Option R :=
  c6 x0 x1 x2 x3 x4
  (fun l108 l109 l110 => c4 x0 x1 x2 l108 l109
   (fun b111 l112 l113 => br (!(!b111))
    (br (!(!(decide ((Nat.cast (List.length x5) : Int) = (Nat.cast (List.length l110) : Int)))))
     (br (!(!(decide ((Nat.cast (List.length x6) : Int) = (Nat.cast (List.length l113) : Int)))))
      (c2 x0 x1 x7
       (fun b118 l119 => br (!b118)
        (k0 false l112 l113 x5 x6 l119)
        (c0 x0 x1 x2 l112 l113
         (fun l132 l133 l134 => w0
          (fun b135 l136 l137 l138 l139 l140 => k0 b135 l136 l137 l138 l139 l140)
          (fun l141 l142 l143 l144 l145 => k0 true l141 l142 l143 l144 l145)
          N (Nat.cast (List.length l110) : Int) (Nat.cast (List.length l134) : Int) (0 : Int) l132 l133 x5 x6 l119 l134))))
      (k0 false l112 l113 x5 x6 x7))
     (k0 false l112 l113 x5 x6 x7))
    (k0 false l112 l113 x5 x6 x7)))
noncomputable def class_Has_1e53 (N : Nat) {R : Type} (x0 : Int) (x1 : Int) (x2 : Int) (x3 : List ((ByteArray) × ((Bool) × (Int)))) (x4 : List (Int)) (x5 : List (List (Int))) (x6 : List (List (Int))) (x7 : List (Bool)) (k0 : (Bool) → (List ((ByteArray) × ((Bool) × (Int)))) → (List (Int)) → (List (List (Int))) → (List (List (Int))) → (List (Bool)) → Option R) : Option R := class_Has_1e53_T N (@class_Caps_66e6 N) (@class_Caps N) (@fails_May_e7e3 N) (@fails_May N) (@class_May_66e6 N) (@class_May N) (@class_Files_66e6 N) (@class_Files N) (@class_Has_1e53_l0 N) x0 x1 x2 x3 x4 x5 x6 x7 k0
abbrev class_Has_0c40_l0_Ty : Type 1 := {R : Type} → ((Bool) → (List (List (Int))) → (List (List (Int))) → Option R) → ((List (List (Int))) → (List (List (Int))) → Option R) → Nat → (Int) → (Int) → (Int) → (List (List (Int))) → (List (List (Int))) → (List (Bool)) → (List (Int)) → Option R
abbrev class_Has_0c40_Ty : Type 1 := {R : Type} → (List ((ByteArray) × ((Bool) × (Int)))) → (List (Int)) → (Int) → (Int) → (Int) → (List (Bool)) → (List (List (Int))) → (List (List (Int))) → ((Bool) → (List (List (Int))) → (List (List (Int))) → Option R) → Option R
noncomputable def class_Has_0c40_l0_T0 (N : Nat) (c0 : class_Caps_66e6_Ty) (c1 : class_Caps_Ty) (c2 : fails_May_e7e3_Ty) (c3 : fails_May_Ty) (c4 : class_May_66e6_Ty) (c5 : class_May_Ty) (c6 : class_Files_66e6_Ty) (c7 : class_Files_Ty) {R : Type} (nx : (Int) → (Int) → (Int) → (List (List (Int))) → (List (List (Int))) → (List (Bool)) → (List (Int)) → Option R) (k0 : (Bool) → (List (List (Int))) → (List (List (Int))) → Option R) (k1 : (List (List (Int))) → (List (List (Int))) → Option R) (x0 : Int) (x1 : Int) (x2 : Int) (x3 : List (List (Int))) (x4 : List (List (Int))) (x5 : List (Bool)) (x6 : List (Int)) : Option R :=
  br (decide (x2 < x1))
  (br (inB x2 (List.length x6))
   (br (decide ((Int.toNat x2) < (List.length x6)))
    (br (decide (x2 < x0))
     (br (inB x2 (List.length x3))
      (br (decide ((Int.toNat x2) < (List.length x3)))
       (br (!(decide ((List.getD x6 (Int.toNat x2) (0 : Int)) < (Nat.cast (List.length (List.getD x3 (Int.toNat x2) (Sh.zero (.isl (.int .u8))))) : Int))))
        (br (decide (x0 ≤ x2))
         (br (inB (IntKind.wrap .i64 (x2 - x0)) (List.length x4))
          (br (decide ((Int.toNat (IntKind.wrap .i64 (x2 - x0))) < (List.length x4)))
           (br (decide ((List.getD x6 (Int.toNat x2) (0 : Int)) < (Nat.cast (List.length (List.getD x4 (Int.toNat (IntKind.wrap .i64 (x2 - x0))) (Sh.zero (.isl (.int .u8))))) : Int)))
            (k0 false x3 x4)
            (nx x0 x1 (IntKind.wrap .i64 (x2 + (1 : Int))) x3 x4 x5 x6))
           (none))
          (none))
         (nx x0 x1 (IntKind.wrap .i64 (x2 + (1 : Int))) x3 x4 x5 x6))
        (k0 false x3 x4))
       (none))
      (none))
     (br (decide (x0 ≤ x2))
      (br (inB (IntKind.wrap .i64 (x2 - x0)) (List.length x4))
       (br (decide ((Int.toNat (IntKind.wrap .i64 (x2 - x0))) < (List.length x4)))
        (br (decide ((List.getD x6 (Int.toNat x2) (0 : Int)) < (Nat.cast (List.length (List.getD x4 (Int.toNat (IntKind.wrap .i64 (x2 - x0))) (Sh.zero (.isl (.int .u8))))) : Int)))
         (k0 false x3 x4)
         (nx x0 x1 (IntKind.wrap .i64 (x2 + (1 : Int))) x3 x4 x5 x6))
        (none))
       (none))
      (nx x0 x1 (IntKind.wrap .i64 (x2 + (1 : Int))) x3 x4 x5 x6)))
    (none))
   (none))
  (k1 x3 x4)
noncomputable def class_Has_0c40_l0 (N : Nat) {R : Type} (k0 : (Bool) → (List (List (Int))) → (List (List (Int))) → Option R) (k1 : (List (List (Int))) → (List (List (Int))) → Option R) : Nat → (Int) → (Int) → (Int) → (List (List (Int))) → (List (List (Int))) → (List (Bool)) → (List (Int)) → Option R
  | 0, _, _, _, _, _, _, _ => none
  | n + 1, x0, x1, x2, x3, x4, x5, x6 => class_Has_0c40_l0_T0 N (@class_Caps_66e6 N) (@class_Caps N) (@fails_May_e7e3 N) (@fails_May N) (@class_May_66e6 N) (@class_May N) (@class_Files_66e6 N) (@class_Files N) (fun x0 x1 x2 x3 x4 x5 x6 => class_Has_0c40_l0 N k0 k1 n x0 x1 x2 x3 x4 x5 x6) k0 k1 x0 x1 x2 x3 x4 x5 x6
noncomputable def class_Has_0c40_T (N : Nat) (c0 : class_Caps_66e6_Ty) (c1 : class_Caps_Ty) (c2 : fails_May_e7e3_Ty) (c3 : fails_May_Ty) (c4 : class_May_66e6_Ty) (c5 : class_May_Ty) (c6 : class_Files_66e6_Ty) (c7 : class_Files_Ty) (w0 : class_Has_0c40_l0_Ty) {R : Type} (x0 : List ((ByteArray) × ((Bool) × (Int)))) (x1 : List (Int)) (x2 : Int) (x3 : Int) (x4 : Int) (x5 : List (Bool)) (x6 : List (List (Int))) (x7 : List (List (Int))) (k0 : (Bool) → (List (List (Int))) → (List (List (Int))) → Option R) : Option R :=
  c7 x0 x1 x2 x3 x4
  (fun l543 => c5 x0 x1 x2 x3 x4
   (fun b544 => br (!(!b544))
    (br (!(!(decide ((Nat.cast (List.length x6) : Int) = (Nat.cast (List.length l543) : Int)))))
     (br (!(!(decide ((Nat.cast (List.length x7) : Int) = (Nat.cast (List.length x1) : Int)))))
      (c3 x5 x2 x3
       (fun b549 => br (!b549)
        (k0 false x6 x7)
        (c1 x0 x1 x2 x3 x4
         (fun l558 => w0
          (fun b559 l560 l561 => k0 b559 l560 l561)
          (fun l562 l563 => k0 true l562 l563)
          N (Nat.cast (List.length l543) : Int) (Nat.cast (List.length l558) : Int) (0 : Int) x6 x7 x5 l558))))
      (k0 false x6 x7))
     (k0 false x6 x7))
    (k0 false x6 x7)))
noncomputable def class_Has_0c40 (N : Nat) {R : Type} (x0 : List ((ByteArray) × ((Bool) × (Int)))) (x1 : List (Int)) (x2 : Int) (x3 : Int) (x4 : Int) (x5 : List (Bool)) (x6 : List (List (Int))) (x7 : List (List (Int))) (k0 : (Bool) → (List (List (Int))) → (List (List (Int))) → Option R) : Option R := class_Has_0c40_T N (@class_Caps_66e6 N) (@class_Caps N) (@fails_May_e7e3 N) (@fails_May N) (@class_May_66e6 N) (@class_May N) (@class_Files_66e6 N) (@class_Files N) (@class_Has_0c40_l0 N) x0 x1 x2 x3 x4 x5 x6 x7 k0
abbrev class_Has_e92d_l0_Ty : Type 1 := {R : Type} → ((Bool) → (Nat) → (List (List (Int))) → Option R) → ((Nat) → (List (List (Int))) → Option R) → Nat → (Int) → (Int) → (Int) → (Nat) → (List (List (Int))) → (Nat) → (Nat) → (Nat) → (Nat) → (List (Bool)) → (List (Int)) → Option R
abbrev class_Has_e92d_Ty : Type 1 := {R : Type} → (List ((ByteArray) × ((Bool) × (Int)))) → (List (Int)) → (Int) → (Int) → (Int) → (Nat) → (Nat) → (Nat) → (Nat) → (List (Bool)) → (Nat) → (List (List (Int))) → ((Bool) → (Nat) → (List (List (Int))) → Option R) → Option R
noncomputable def class_Has_e92d_l0_T0 (N : Nat) (c0 : class_Caps_66e6_Ty) (c1 : class_Caps_Ty) (c2 : fails_May_e7e3_Ty) (c3 : fails_May_Ty) (c4 : class_May_66e6_Ty) (c5 : class_May_Ty) (c6 : class_Files_66e6_Ty) (c7 : class_Files_Ty) {R : Type} (nx : (Int) → (Int) → (Int) → (Nat) → (List (List (Int))) → (Nat) → (Nat) → (Nat) → (Nat) → (List (Bool)) → (List (Int)) → Option R) (k0 : (Bool) → (Nat) → (List (List (Int))) → Option R) (k1 : (Nat) → (List (List (Int))) → Option R) (x0 : Int) (x1 : Int) (x2 : Int) (x3 : Nat) (x4 : List (List (Int))) (x5 : Nat) (x6 : Nat) (x7 : Nat) (x8 : Nat) (x9 : List (Bool)) (x10 : List (Int)) : Option R :=
  br (decide (x2 < x1))
  (br (inB x2 (List.length x10))
   (br (decide ((Int.toNat x2) < (List.length x10)))
    (br (decide (x2 < x0))
     (br (inB x2 x5)
      (br (decide ((Int.toNat x2) < x3))
       (br (!(decide ((List.getD x10 (Int.toNat x2) (0 : Int)) < (Nat.cast (List.length (List.getD x4 (Int.toNat x2) (Sh.zero (.isl (.int .u8))))) : Int))))
        (br (decide (x0 ≤ x2))
         (br (inB (IntKind.wrap .i64 (x2 - x0)) x8)
          (br (decide ((Int.toNat (addLo x7 (IntKind.wrap .i64 (x2 - x0)))) < x3))
           (br (decide ((List.getD x10 (Int.toNat x2) (0 : Int)) < (Nat.cast (List.length (List.getD x4 (Int.toNat (addLo x7 (IntKind.wrap .i64 (x2 - x0)))) (Sh.zero (.isl (.int .u8))))) : Int)))
            (k0 false x3 x4)
            (nx x0 x1 (IntKind.wrap .i64 (x2 + (1 : Int))) x3 x4 x5 x6 x7 x8 x9 x10))
           (none))
          (none))
         (nx x0 x1 (IntKind.wrap .i64 (x2 + (1 : Int))) x3 x4 x5 x6 x7 x8 x9 x10))
        (k0 false x3 x4))
       (none))
      (none))
     (br (decide (x0 ≤ x2))
      (br (inB (IntKind.wrap .i64 (x2 - x0)) x8)
       (br (decide ((Int.toNat (addLo x7 (IntKind.wrap .i64 (x2 - x0)))) < x3))
        (br (decide ((List.getD x10 (Int.toNat x2) (0 : Int)) < (Nat.cast (List.length (List.getD x4 (Int.toNat (addLo x7 (IntKind.wrap .i64 (x2 - x0)))) (Sh.zero (.isl (.int .u8))))) : Int)))
         (k0 false x3 x4)
         (nx x0 x1 (IntKind.wrap .i64 (x2 + (1 : Int))) x3 x4 x5 x6 x7 x8 x9 x10))
        (none))
       (none))
      (nx x0 x1 (IntKind.wrap .i64 (x2 + (1 : Int))) x3 x4 x5 x6 x7 x8 x9 x10)))
    (none))
   (none))
  (k1 x3 x4)
noncomputable def class_Has_e92d_l0 (N : Nat) {R : Type} (k0 : (Bool) → (Nat) → (List (List (Int))) → Option R) (k1 : (Nat) → (List (List (Int))) → Option R) : Nat → (Int) → (Int) → (Int) → (Nat) → (List (List (Int))) → (Nat) → (Nat) → (Nat) → (Nat) → (List (Bool)) → (List (Int)) → Option R
  | 0, _, _, _, _, _, _, _, _, _, _, _ => none
  | n + 1, x0, x1, x2, x3, x4, x5, x6, x7, x8, x9, x10 => class_Has_e92d_l0_T0 N (@class_Caps_66e6 N) (@class_Caps N) (@fails_May_e7e3 N) (@fails_May N) (@class_May_66e6 N) (@class_May N) (@class_Files_66e6 N) (@class_Files N) (fun x0 x1 x2 x3 x4 x5 x6 x7 x8 x9 x10 => class_Has_e92d_l0 N k0 k1 n x0 x1 x2 x3 x4 x5 x6 x7 x8 x9 x10) k0 k1 x0 x1 x2 x3 x4 x5 x6 x7 x8 x9 x10
noncomputable def class_Has_e92d_T (N : Nat) (c0 : class_Caps_66e6_Ty) (c1 : class_Caps_Ty) (c2 : fails_May_e7e3_Ty) (c3 : fails_May_Ty) (c4 : class_May_66e6_Ty) (c5 : class_May_Ty) (c6 : class_Files_66e6_Ty) (c7 : class_Files_Ty) (w0 : class_Has_e92d_l0_Ty) {R : Type} (x0 : List ((ByteArray) × ((Bool) × (Int)))) (x1 : List (Int)) (x2 : Int) (x3 : Int) (x4 : Int) (x5 : Nat) (x6 : Nat) (x7 : Nat) (x8 : Nat) (x9 : List (Bool)) (x10 : Nat) (x11 : List (List (Int))) (k0 : (Bool) → (Nat) → (List (List (Int))) → Option R) : Option R :=
  c7 x0 x1 x2 x3 x4
  (fun l684 => c5 x0 x1 x2 x3 x4
   (fun b685 => br (!(!b685))
    (br (!(!(decide ((Nat.cast x5 : Int) = (Nat.cast (List.length l684) : Int)))))
     (br (!(!(decide ((Nat.cast x8 : Int) = (Nat.cast (List.length x1) : Int)))))
      (c3 x9 x2 x3
       (fun b686 => br (!b686)
        (k0 false x10 x11)
        (c1 x0 x1 x2 x3 x4
         (fun l687 => w0
          (fun b688 n689 l690 => k0 b688 n689 l690)
          (fun n691 l692 => k0 true n691 l692)
          N (Nat.cast (List.length l684) : Int) (Nat.cast (List.length l687) : Int) (0 : Int) x10 x11 x5 x6 x7 x8 x9 l687))))
      (k0 false x10 x11))
     (k0 false x10 x11))
    (k0 false x10 x11)))
noncomputable def class_Has_e92d (N : Nat) {R : Type} (x0 : List ((ByteArray) × ((Bool) × (Int)))) (x1 : List (Int)) (x2 : Int) (x3 : Int) (x4 : Int) (x5 : Nat) (x6 : Nat) (x7 : Nat) (x8 : Nat) (x9 : List (Bool)) (x10 : Nat) (x11 : List (List (Int))) (k0 : (Bool) → (Nat) → (List (List (Int))) → Option R) : Option R := class_Has_e92d_T N (@class_Caps_66e6 N) (@class_Caps N) (@fails_May_e7e3 N) (@fails_May N) (@class_May_66e6 N) (@class_May N) (@class_Files_66e6 N) (@class_Files N) (@class_Has_e92d_l0 N) x0 x1 x2 x3 x4 x5 x6 x7 x8 x9 x10 x11 k0
abbrev slices_Grow___byte__byte_06c2_Ty : Type 1 := {R : Type} → (Int) → ((List (List (Int))) → Option R) → Option R
noncomputable def slices_Grow___byte__byte_06c2_T (N : Nat) {R : Type} (x0 : Int) (k0 : (List (List (Int))) → Option R) : Option R :=
  br (decide (x0 < (0 : Int)))
  (none)
  (br (decide ((0 : Int) < (IntKind.wrap .i64 (x0 - (IntKind.wrap .i64 ((0 : Int) - (0 : Int)))))))
   (br (((decide ((0 : Int) ≤ (IntKind.wrap .i64 (x0 - (IntKind.wrap .i64 ((0 : Int) - (0 : Int))))))) && (decide (((Int.toNat (IntKind.wrap .i64 (x0 - (IntKind.wrap .i64 ((0 : Int) - (0 : Int)))))) * (24 : Nat)) ≤ (70368744177664 : Nat)))) && true)
    (br (leB (0 : Int) (Int.toNat (IntKind.wrap .i64 (x0 - (IntKind.wrap .i64 ((0 : Int) - (0 : Int)))))))
     (br (fits (0 : Nat) (0 : Nat) (List.replicate (Int.toNat (IntKind.wrap .i64 (x0 - (IntKind.wrap .i64 ((0 : Int) - (0 : Int)))))) (Sh.zero (.isl (.int .u8)))))
      (k0 (sub (List.replicate (Int.toNat (IntKind.wrap .i64 (x0 - (IntKind.wrap .i64 ((0 : Int) - (0 : Int)))))) (Sh.zero (.isl (.int .u8)))) (0 : Nat) (0 : Nat)))
      (none))
     (none))
    (none))
   (k0 ([] : List ((Sh.int IntKind.u8).isl.T))))
noncomputable def slices_Grow___byte__byte_06c2 (N : Nat) {R : Type} (x0 : Int) (k0 : (List (List (Int))) → Option R) : Option R := slices_Grow___byte__byte_06c2_T N x0 k0
abbrev slices_Concat___byte__byte_1789_l0_Ty : Type 1 := {R : Type} → ((Int) → (List (List (List (Int)))) → Option R) → Nat → (Int) → (Int) → (Int) → (List (List (List (Int)))) → Option R
abbrev slices_Concat___byte__byte_1789_l1_Ty : Type 1 := {R : Type} → ((List (List (List (Int)))) → (List (List (Int))) → Option R) → Nat → (Int) → (Int) → (List (List (List (Int)))) → (List (List (Int))) → Option R
abbrev slices_Concat___byte__byte_1789_Ty : Type 1 := {R : Type} → (List (List (List (Int)))) → ((List (List (List (Int)))) → (List (List (Int))) → Option R) → Option R
noncomputable def slices_Concat___byte__byte_1789_l0_T0 (N : Nat) (c0 : slices_Grow___byte__byte_06c2_Ty) (w1 : slices_Concat___byte__byte_1789_l1_Ty) {R : Type} (nx : (Int) → (Int) → (Int) → (List (List (List (Int)))) → Option R) (k0 : (Int) → (List (List (List (Int)))) → Option R) (x0 : Int) (x1 : Int) (x2 : Int) (x3 : List (List (List (Int)))) : Option R :=
  br (decide (x2 < x1))
  (br (inB x2 (List.length x3))
   (br (decide ((Int.toNat x2) < (List.length x3)))
    (br (decide ((IntKind.wrap .i64 (x0 + (Nat.cast (List.length (List.getD x3 (Int.toNat x2) (Sh.zero (.isl (.isl (.int .u8)))))) : Int))) < (0 : Int)))
     (none)
     (nx (IntKind.wrap .i64 (x0 + (Nat.cast (List.length (List.getD x3 (Int.toNat x2) (Sh.zero (.isl (.isl (.int .u8)))))) : Int))) x1 (IntKind.wrap .i64 (x2 + (1 : Int))) x3))
    (none))
   (none))
  (k0 x0 x3)
noncomputable def slices_Concat___byte__byte_1789_l1_T0 (N : Nat) (c0 : slices_Grow___byte__byte_06c2_Ty) {R : Type} (nx : (Int) → (Int) → (List (List (List (Int)))) → (List (List (Int))) → Option R) (k0 : (List (List (List (Int)))) → (List (List (Int))) → Option R) (x0 : Int) (x1 : Int) (x2 : List (List (List (Int)))) (x3 : List (List (Int))) : Option R :=
  br (decide (x1 < x0))
  (br (inB x1 (List.length x2))
   (br (decide ((Int.toNat x1) < (List.length x2)))
    (br (((fits (0 : Nat) (List.length x3) x3) && (decide ((((List.length x3) + (List.length (List.getD x2 (Int.toNat x1) (Sh.zero (.isl (.isl (.int .u8))))))) * (24 : Nat)) ≤ (70368744177664 : Nat)))) && true)
     (nx x0 (IntKind.wrap .i64 (x1 + (1 : Int))) x2 ((sub x3 (0 : Nat) (List.length x3)) ++ (List.getD x2 (Int.toNat x1) (Sh.zero (.isl (.isl (.int .u8)))))))
     (none))
    (none))
   (none))
  (k0 x2 x3)
noncomputable def slices_Concat___byte__byte_1789_l1 (N : Nat) {R : Type} (k0 : (List (List (List (Int)))) → (List (List (Int))) → Option R) : Nat → (Int) → (Int) → (List (List (List (Int)))) → (List (List (Int))) → Option R
  | 0, _, _, _, _ => none
  | n + 1, x0, x1, x2, x3 => slices_Concat___byte__byte_1789_l1_T0 N (@slices_Grow___byte__byte_06c2 N) (fun x0 x1 x2 x3 => slices_Concat___byte__byte_1789_l1 N k0 n x0 x1 x2 x3) k0 x0 x1 x2 x3
noncomputable def slices_Concat___byte__byte_1789_l0 (N : Nat) {R : Type} (k0 : (Int) → (List (List (List (Int)))) → Option R) : Nat → (Int) → (Int) → (Int) → (List (List (List (Int)))) → Option R
  | 0, _, _, _, _ => none
  | n + 1, x0, x1, x2, x3 => slices_Concat___byte__byte_1789_l0_T0 N (@slices_Grow___byte__byte_06c2 N) (@slices_Concat___byte__byte_1789_l1 N) (fun x0 x1 x2 x3 => slices_Concat___byte__byte_1789_l0 N k0 n x0 x1 x2 x3) k0 x0 x1 x2 x3
noncomputable def slices_Concat___byte__byte_1789_T (N : Nat) (c0 : slices_Grow___byte__byte_06c2_Ty) (w0 : slices_Concat___byte__byte_1789_l0_Ty) (w1 : slices_Concat___byte__byte_1789_l1_Ty) {R : Type} (x0 : List (List (List (Int)))) (k0 : (List (List (List (Int)))) → (List (List (Int))) → Option R) : Option R :=
  w0
  (fun i152 l153 => c0 i152
   (fun l154 => w1
    (fun l155 l156 => k0 l155 l156)
    N (Nat.cast (List.length l153) : Int) (0 : Int) l153 l154))
  N (0 : Int) (Nat.cast (List.length x0) : Int) (0 : Int) x0
noncomputable def slices_Concat___byte__byte_1789 (N : Nat) {R : Type} (x0 : List (List (List (Int)))) (k0 : (List (List (List (Int)))) → (List (List (Int))) → Option R) : Option R := slices_Concat___byte__byte_1789_T N (@slices_Grow___byte__byte_06c2 N) (@slices_Concat___byte__byte_1789_l0 N) (@slices_Concat___byte__byte_1789_l1 N) x0 k0
abbrev cast_Env_727c_l0_Ty : Type 1 := {R : Type} → ((List ((ByteArray) × ((Bool) × (Int)))) → (List (Int)) → (List (List (Int))) → (List (Bool)) → (List (List (Int))) → (List (Int)) → Option R) → Nat → (Int) → (Int) → (List ((ByteArray) × ((Bool) × (Int)))) → (List (Int)) → (List (List (Int))) → (List (Bool)) → (Int) → (Int) → (Int) → (List (List (Int))) → (List (Int)) → (List (List (Int))) → Option R
abbrev cast_Env_727c_l1_Ty : Type 1 := {R : Type} → ((Int) → (Int) → (List ((ByteArray) × ((Bool) × (Int)))) → (List (Int)) → (List (List (Int))) → (List (Bool)) → (Int) → (Int) → (Int) → (List (List (Int))) → (List (Int)) → (List (List (Int))) → Option R) → Nat → (List (Int)) → (Int) → (Int) → (Int) → (Int) → (List ((ByteArray) × ((Bool) × (Int)))) → (List (Int)) → (List (List (Int))) → (List (Bool)) → (Int) → (Int) → (Int) → (List (List (Int))) → (List (Int)) → (List (List (Int))) → Option R
abbrev cast_Env_727c_l2_Ty : Type 1 := {R : Type} → ((List ((ByteArray) × ((Bool) × (Int)))) → (List (Int)) → (List (List (Int))) → (List (Bool)) → (List (Int)) → Option R) → Nat → (Int) → (Int) → (List ((ByteArray) × ((Bool) × (Int)))) → (List (Int)) → (List (List (Int))) → (List (Bool)) → (List (Int)) → Option R
abbrev cast_Env_727c_Ty : Type 1 := {R : Type} → (Int) → (Int) → (Int) → (List ((ByteArray) × ((Bool) × (Int)))) → (List (Int)) → (List (List (Int))) → (List (Bool)) → ((Int) → (List ((ByteArray) × ((Bool) × (Int)))) → (List (Int)) → (List (List (Int))) → (List (Bool)) → (List (Int)) → Option R) → ((Int) → (List ((ByteArray) × ((Bool) × (Int)))) → (List (Int)) → (List (List (Int))) → (List (Bool)) → (List (Int)) → Option R) → Option R
noncomputable def cast_Env_727c_l0_T0 (N : Nat) (c0 : class_Caps_66e6_Ty) (c1 : class_Caps_Ty) (c2 : slices_Concat___byte__byte_1789_Ty) (c3 : class_Has_1e53_Ty) (c4 : class_Has_0c40_Ty) (c5 : class_Has_e92d_Ty) (c6 : class_May_66e6_Ty) (c7 : class_May_Ty) (w1 : cast_Env_727c_l1_Ty) (w2 : cast_Env_727c_l2_Ty) {R : Type} (nx : (Int) → (Int) → (List ((ByteArray) × ((Bool) × (Int)))) → (List (Int)) → (List (List (Int))) → (List (Bool)) → (Int) → (Int) → (Int) → (List (List (Int))) → (List (Int)) → (List (List (Int))) → Option R) (k0 : (List ((ByteArray) × ((Bool) × (Int)))) → (List (Int)) → (List (List (Int))) → (List (Bool)) → (List (List (Int))) → (List (Int)) → Option R) (x0 : Int) (x1 : Int) (x2 : List ((ByteArray) × ((Bool) × (Int)))) (x3 : List (Int)) (x4 : List (List (Int))) (x5 : List (Bool)) (x6 : Int) (x7 : Int) (x8 : Int) (x9 : List (List (Int))) (x10 : List (Int)) (x11 : List (List (Int))) : Option R :=
  br (decide (x1 < x0))
  (br (inB x1 (List.length x11))
   (br (decide ((Int.toNat x1) < (List.length x11)))
    (br (((fits (0 : Nat) (List.length x10) x10) && (decide ((((List.length x10) + (1 : Nat)) * (2 : Nat)) ≤ (70368744177664 : Nat)))) && true)
     (c0 x6 x7 x8 x2 x3
      (fun l222 l223 l224 => br (inB x1 (List.length l224))
       (br (decide ((Int.toNat x1) < (List.length l224)))
        (w1
         (fun i225 i226 l227 l228 l229 l230 i231 i232 i233 l234 l235 l236 => nx i225 (IntKind.wrap .i64 (i226 + (1 : Int))) l227 l228 l229 l230 i231 i232 i233 l234 l235 l236)
         N (List.getD x11 (Int.toNat x1) (Sh.zero (.isl (.int .u8)))) x0 x1 (List.getD l224 (Int.toNat x1) (0 : Int)) (0 : Int) l222 l223 x4 x5 x6 x7 x8 x9 ((sub x10 (0 : Nat) (List.length x10)) ++ ((IntKind.wrap .u16 (Nat.cast (List.length (List.getD x11 (Int.toNat x1) (Sh.zero (.isl (.int .u8))))) : Int)) :: ([] : List ((Sh.int IntKind.u16).T)))) x11)
        (none))
       (none)))
     (none))
    (none))
   (none))
  (k0 x2 x3 x4 x5 x9 x10)
noncomputable def cast_Env_727c_l1_T0 (N : Nat) (c0 : class_Caps_66e6_Ty) (c1 : class_Caps_Ty) (c2 : slices_Concat___byte__byte_1789_Ty) (c3 : class_Has_1e53_Ty) (c4 : class_Has_0c40_Ty) (c5 : class_Has_e92d_Ty) (c6 : class_May_66e6_Ty) (c7 : class_May_Ty) (w2 : cast_Env_727c_l2_Ty) {R : Type} (nx : (List (Int)) → (Int) → (Int) → (Int) → (Int) → (List ((ByteArray) × ((Bool) × (Int)))) → (List (Int)) → (List (List (Int))) → (List (Bool)) → (Int) → (Int) → (Int) → (List (List (Int))) → (List (Int)) → (List (List (Int))) → Option R) (k0 : (Int) → (Int) → (List ((ByteArray) × ((Bool) × (Int)))) → (List (Int)) → (List (List (Int))) → (List (Bool)) → (Int) → (Int) → (Int) → (List (List (Int))) → (List (Int)) → (List (List (Int))) → Option R) (x0 : List (Int)) (x1 : Int) (x2 : Int) (x3 : Int) (x4 : Int) (x5 : List ((ByteArray) × ((Bool) × (Int)))) (x6 : List (Int)) (x7 : List (List (Int))) (x8 : List (Bool)) (x9 : Int) (x10 : Int) (x11 : Int) (x12 : List (List (Int))) (x13 : List (Int)) (x14 : List (List (Int))) : Option R :=
  br (decide (x4 < x3))
  (br (decide (x4 < (Nat.cast (List.length x0) : Int)))
   (br (inB x4 (List.length x0))
    (br (((fits (0 : Nat) (List.length x13) x13) && (decide ((((List.length x13) + (1 : Nat)) * (2 : Nat)) ≤ (70368744177664 : Nat)))) && true)
     (nx x0 x1 x2 x3 (IntKind.wrap .i64 (x4 + (1 : Int))) x5 x6 x7 x8 x9 x10 x11 x12 ((sub x13 (0 : Nat) (List.length x13)) ++ ((IntKind.wrap .u16 (List.getD x0 (Int.toNat x4) (0 : Int))) :: ([] : List ((Sh.int IntKind.u16).T)))) x14)
     (none))
    (none))
   (br (((fits (0 : Nat) (List.length x13) x13) && (decide ((((List.length x13) + (1 : Nat)) * (2 : Nat)) ≤ (70368744177664 : Nat)))) && true)
    (nx x0 x1 x2 x3 (IntKind.wrap .i64 (x4 + (1 : Int))) x5 x6 x7 x8 x9 x10 x11 x12 ((sub x13 (0 : Nat) (List.length x13)) ++ ((IntKind.wrap .u16 (0 : Int)) :: ([] : List ((Sh.int IntKind.u16).T)))) x14)
    (none)))
  (k0 x1 x2 x5 x6 x7 x8 x9 x10 x11 x12 x13 x14)
noncomputable def cast_Env_727c_l2_T0 (N : Nat) (c0 : class_Caps_66e6_Ty) (c1 : class_Caps_Ty) (c2 : slices_Concat___byte__byte_1789_Ty) (c3 : class_Has_1e53_Ty) (c4 : class_Has_0c40_Ty) (c5 : class_Has_e92d_Ty) (c6 : class_May_66e6_Ty) (c7 : class_May_Ty) {R : Type} (nx : (Int) → (Int) → (List ((ByteArray) × ((Bool) × (Int)))) → (List (Int)) → (List (List (Int))) → (List (Bool)) → (List (Int)) → Option R) (k0 : (List ((ByteArray) × ((Bool) × (Int)))) → (List (Int)) → (List (List (Int))) → (List (Bool)) → (List (Int)) → Option R) (x0 : Int) (x1 : Int) (x2 : List ((ByteArray) × ((Bool) × (Int)))) (x3 : List (Int)) (x4 : List (List (Int))) (x5 : List (Bool)) (x6 : List (Int)) : Option R :=
  br (decide (x1 < x0))
  (br (inB x1 (List.length x5))
   (br (decide ((Int.toNat x1) < (List.length x5)))
    (br (List.getD x5 (Int.toNat x1) false)
     (br (((fits (0 : Nat) (List.length x6) x6) && (decide ((((List.length x6) + (1 : Nat)) * (2 : Nat)) ≤ (70368744177664 : Nat)))) && true)
      (nx x0 (IntKind.wrap .i64 (x1 + (1 : Int))) x2 x3 x4 x5 ((sub x6 (0 : Nat) (List.length x6)) ++ ((1 : Int) :: ([] : List ((Sh.int IntKind.u16).T)))))
      (none))
     (br (((fits (0 : Nat) (List.length x6) x6) && (decide ((((List.length x6) + (1 : Nat)) * (2 : Nat)) ≤ (70368744177664 : Nat)))) && true)
      (nx x0 (IntKind.wrap .i64 (x1 + (1 : Int))) x2 x3 x4 x5 ((sub x6 (0 : Nat) (List.length x6)) ++ ((0 : Int) :: ([] : List ((Sh.int IntKind.u16).T)))))
      (none)))
    (none))
   (none))
  (k0 x2 x3 x4 x5 x6)
noncomputable def cast_Env_727c_l2 (N : Nat) {R : Type} (k0 : (List ((ByteArray) × ((Bool) × (Int)))) → (List (Int)) → (List (List (Int))) → (List (Bool)) → (List (Int)) → Option R) : Nat → (Int) → (Int) → (List ((ByteArray) × ((Bool) × (Int)))) → (List (Int)) → (List (List (Int))) → (List (Bool)) → (List (Int)) → Option R
  | 0, _, _, _, _, _, _, _ => none
  | n + 1, x0, x1, x2, x3, x4, x5, x6 => cast_Env_727c_l2_T0 N (@class_Caps_66e6 N) (@class_Caps N) (@slices_Concat___byte__byte_1789 N) (@class_Has_1e53 N) (@class_Has_0c40 N) (@class_Has_e92d N) (@class_May_66e6 N) (@class_May N) (fun x0 x1 x2 x3 x4 x5 x6 => cast_Env_727c_l2 N k0 n x0 x1 x2 x3 x4 x5 x6) k0 x0 x1 x2 x3 x4 x5 x6
noncomputable def cast_Env_727c_l1 (N : Nat) {R : Type} (k0 : (Int) → (Int) → (List ((ByteArray) × ((Bool) × (Int)))) → (List (Int)) → (List (List (Int))) → (List (Bool)) → (Int) → (Int) → (Int) → (List (List (Int))) → (List (Int)) → (List (List (Int))) → Option R) : Nat → (List (Int)) → (Int) → (Int) → (Int) → (Int) → (List ((ByteArray) × ((Bool) × (Int)))) → (List (Int)) → (List (List (Int))) → (List (Bool)) → (Int) → (Int) → (Int) → (List (List (Int))) → (List (Int)) → (List (List (Int))) → Option R
  | 0, _, _, _, _, _, _, _, _, _, _, _, _, _, _, _ => none
  | n + 1, x0, x1, x2, x3, x4, x5, x6, x7, x8, x9, x10, x11, x12, x13, x14 => cast_Env_727c_l1_T0 N (@class_Caps_66e6 N) (@class_Caps N) (@slices_Concat___byte__byte_1789 N) (@class_Has_1e53 N) (@class_Has_0c40 N) (@class_Has_e92d N) (@class_May_66e6 N) (@class_May N) (@cast_Env_727c_l2 N) (fun x0 x1 x2 x3 x4 x5 x6 x7 x8 x9 x10 x11 x12 x13 x14 => cast_Env_727c_l1 N k0 n x0 x1 x2 x3 x4 x5 x6 x7 x8 x9 x10 x11 x12 x13 x14) k0 x0 x1 x2 x3 x4 x5 x6 x7 x8 x9 x10 x11 x12 x13 x14
noncomputable def cast_Env_727c_l0 (N : Nat) {R : Type} (k0 : (List ((ByteArray) × ((Bool) × (Int)))) → (List (Int)) → (List (List (Int))) → (List (Bool)) → (List (List (Int))) → (List (Int)) → Option R) : Nat → (Int) → (Int) → (List ((ByteArray) × ((Bool) × (Int)))) → (List (Int)) → (List (List (Int))) → (List (Bool)) → (Int) → (Int) → (Int) → (List (List (Int))) → (List (Int)) → (List (List (Int))) → Option R
  | 0, _, _, _, _, _, _, _, _, _, _, _, _ => none
  | n + 1, x0, x1, x2, x3, x4, x5, x6, x7, x8, x9, x10, x11 => cast_Env_727c_l0_T0 N (@class_Caps_66e6 N) (@class_Caps N) (@slices_Concat___byte__byte_1789 N) (@class_Has_1e53 N) (@class_Has_0c40 N) (@class_Has_e92d N) (@class_May_66e6 N) (@class_May N) (@cast_Env_727c_l1 N) (@cast_Env_727c_l2 N) (fun x0 x1 x2 x3 x4 x5 x6 x7 x8 x9 x10 x11 => cast_Env_727c_l0 N k0 n x0 x1 x2 x3 x4 x5 x6 x7 x8 x9 x10 x11) k0 x0 x1 x2 x3 x4 x5 x6 x7 x8 x9 x10 x11
noncomputable def cast_Env_727c_T (N : Nat) (c0 : class_Caps_66e6_Ty) (c1 : class_Caps_Ty) (c2 : slices_Concat___byte__byte_1789_Ty) (c3 : class_Has_1e53_Ty) (c4 : class_Has_0c40_Ty) (c5 : class_Has_e92d_Ty) (c6 : class_May_66e6_Ty) (c7 : class_May_Ty) (w0 : cast_Env_727c_l0_Ty) (w1 : cast_Env_727c_l1_Ty) (w2 : cast_Env_727c_l2_Ty) {R : Type} (x0 : Int) (x1 : Int) (x2 : Int) (x3 : List ((ByteArray) × ((Bool) × (Int)))) (x4 : List (Int)) (x5 : List (List (Int))) (x6 : List (Bool)) (k0 : (Int) → (List ((ByteArray) × ((Bool) × (Int)))) → (List (Int)) → (List (List (Int))) → (List (Bool)) → (List (Int)) → Option R) (k1 : (Int) → (List ((ByteArray) × ((Bool) × (Int)))) → (List (Int)) → (List (List (Int))) → (List (Bool)) → (List (Int)) → Option R) : Option R :=
  c6 x0 x1 x2 x3 x4
  (fun b211 l212 l213 => br (!b211)
   (k0 (11 : Int) l212 l213 x5 x6 ([] : List ((Sh.int IntKind.u16).T)))
   (c3 x0 x1 x2 l212 l213 x5 ([] : List ((Sh.int IntKind.u8).isl.T)) x6
    (fun b214 l215 l216 l217 l218 l219 => br (!b214)
     (k0 (12 : Int) l215 l216 l217 l219 ([] : List ((Sh.int IntKind.u16).T)))
     (br (fits (0 : Nat) (List.length l217) l217)
      (br (fits (0 : Nat) (List.length l218) l218)
       (c2 ((sub l217 (0 : Nat) (List.length l217)) :: ((sub l218 (0 : Nat) (List.length l218)) :: ([] : List ((Sh.int IntKind.u8).isl.isl.T))))
        (fun l220 l221 => w0
         (fun l237 l238 l239 l240 l241 l242 => w2
          (fun l243 l244 l245 l246 l247 => k1 (0 : Int) l243 l244 l245 l246 l247)
          N (Nat.cast (List.length l240) : Int) (0 : Int) l237 l238 l239 l240 l242)
         N (Nat.cast (List.length l221) : Int) (0 : Int) l215 l216 l217 l219 x0 x1 x2 l218 ([] : List ((Sh.int IntKind.u16).T)) l221))
       (none))
      (none)))))
noncomputable def cast_Env_727c (N : Nat) {R : Type} (x0 : Int) (x1 : Int) (x2 : Int) (x3 : List ((ByteArray) × ((Bool) × (Int)))) (x4 : List (Int)) (x5 : List (List (Int))) (x6 : List (Bool)) (k0 : (Int) → (List ((ByteArray) × ((Bool) × (Int)))) → (List (Int)) → (List (List (Int))) → (List (Bool)) → (List (Int)) → Option R) (k1 : (Int) → (List ((ByteArray) × ((Bool) × (Int)))) → (List (Int)) → (List (List (Int))) → (List (Bool)) → (List (Int)) → Option R) : Option R := cast_Env_727c_T N (@class_Caps_66e6 N) (@class_Caps N) (@slices_Concat___byte__byte_1789 N) (@class_Has_1e53 N) (@class_Has_0c40 N) (@class_Has_e92d N) (@class_May_66e6 N) (@class_May N) (@cast_Env_727c_l0 N) (@cast_Env_727c_l1 N) (@cast_Env_727c_l2 N) x0 x1 x2 x3 x4 x5 x6 k0 k1
abbrev cast_Env_0c40_l0_Ty : Type 1 := {R : Type} → ((List (List (Int))) → (List (List (Int))) → (List (Bool)) → (List (Int)) → Option R) → Nat → (Int) → (Int) → (List (List (Int))) → (List (List (Int))) → (List ((ByteArray) × ((Bool) × (Int)))) → (List (Int)) → (Int) → (Int) → (Int) → (List (Bool)) → (List (Int)) → (List (List (Int))) → Option R
abbrev cast_Env_0c40_l1_Ty : Type 1 := {R : Type} → ((Int) → (Int) → (List (List (Int))) → (List (List (Int))) → (List ((ByteArray) × ((Bool) × (Int)))) → (List (Int)) → (Int) → (Int) → (Int) → (List (Bool)) → (List (Int)) → (List (List (Int))) → Option R) → Nat → (List (Int)) → (Int) → (Int) → (Int) → (Int) → (List (List (Int))) → (List (List (Int))) → (List ((ByteArray) × ((Bool) × (Int)))) → (List (Int)) → (Int) → (Int) → (Int) → (List (Bool)) → (List (Int)) → (List (List (Int))) → Option R
abbrev cast_Env_0c40_l2_Ty : Type 1 := {R : Type} → ((List (List (Int))) → (List (List (Int))) → (List (Int)) → Option R) → Nat → (List (Bool)) → (Int) → (Int) → (List (List (Int))) → (List (List (Int))) → (List (Int)) → Option R
abbrev cast_Env_0c40_Ty : Type 1 := {R : Type} → (List ((ByteArray) × ((Bool) × (Int)))) → (List (Int)) → (Int) → (Int) → (Int) → (List (Bool)) → (List (List (Int))) → (List (List (Int))) → ((Int) → (List (List (Int))) → (List (List (Int))) → (List (Int)) → Option R) → ((Int) → (List (List (Int))) → (List (List (Int))) → (List (Int)) → Option R) → Option R
noncomputable def cast_Env_0c40_l0_T0 (N : Nat) (c0 : class_Caps_66e6_Ty) (c1 : class_Caps_Ty) (c2 : slices_Concat___byte__byte_1789_Ty) (c3 : class_Has_1e53_Ty) (c4 : class_Has_0c40_Ty) (c5 : class_Has_e92d_Ty) (c6 : class_May_66e6_Ty) (c7 : class_May_Ty) (w1 : cast_Env_0c40_l1_Ty) (w2 : cast_Env_0c40_l2_Ty) {R : Type} (nx : (Int) → (Int) → (List (List (Int))) → (List (List (Int))) → (List ((ByteArray) × ((Bool) × (Int)))) → (List (Int)) → (Int) → (Int) → (Int) → (List (Bool)) → (List (Int)) → (List (List (Int))) → Option R) (k0 : (List (List (Int))) → (List (List (Int))) → (List (Bool)) → (List (Int)) → Option R) (x0 : Int) (x1 : Int) (x2 : List (List (Int))) (x3 : List (List (Int))) (x4 : List ((ByteArray) × ((Bool) × (Int)))) (x5 : List (Int)) (x6 : Int) (x7 : Int) (x8 : Int) (x9 : List (Bool)) (x10 : List (Int)) (x11 : List (List (Int))) : Option R :=
  br (decide (x1 < x0))
  (br (inB x1 (List.length x11))
   (br (decide ((Int.toNat x1) < (List.length x11)))
    (br (((fits (0 : Nat) (List.length x10) x10) && (decide ((((List.length x10) + (1 : Nat)) * (2 : Nat)) ≤ (70368744177664 : Nat)))) && true)
     (c1 x4 x5 x6 x7 x8
      (fun l614 => br (inB x1 (List.length l614))
       (br (decide ((Int.toNat x1) < (List.length l614)))
        (w1
         (fun i615 i616 l617 l618 l619 l620 i621 i622 i623 l624 l625 l626 => nx i615 (IntKind.wrap .i64 (i616 + (1 : Int))) l617 l618 l619 l620 i621 i622 i623 l624 l625 l626)
         N (List.getD x11 (Int.toNat x1) (Sh.zero (.isl (.int .u8)))) x0 x1 (List.getD l614 (Int.toNat x1) (0 : Int)) (0 : Int) x2 x3 x4 x5 x6 x7 x8 x9 ((sub x10 (0 : Nat) (List.length x10)) ++ ((IntKind.wrap .u16 (Nat.cast (List.length (List.getD x11 (Int.toNat x1) (Sh.zero (.isl (.int .u8))))) : Int)) :: ([] : List ((Sh.int IntKind.u16).T)))) x11)
        (none))
       (none)))
     (none))
    (none))
   (none))
  (k0 x2 x3 x9 x10)
noncomputable def cast_Env_0c40_l1_T0 (N : Nat) (c0 : class_Caps_66e6_Ty) (c1 : class_Caps_Ty) (c2 : slices_Concat___byte__byte_1789_Ty) (c3 : class_Has_1e53_Ty) (c4 : class_Has_0c40_Ty) (c5 : class_Has_e92d_Ty) (c6 : class_May_66e6_Ty) (c7 : class_May_Ty) (w2 : cast_Env_0c40_l2_Ty) {R : Type} (nx : (List (Int)) → (Int) → (Int) → (Int) → (Int) → (List (List (Int))) → (List (List (Int))) → (List ((ByteArray) × ((Bool) × (Int)))) → (List (Int)) → (Int) → (Int) → (Int) → (List (Bool)) → (List (Int)) → (List (List (Int))) → Option R) (k0 : (Int) → (Int) → (List (List (Int))) → (List (List (Int))) → (List ((ByteArray) × ((Bool) × (Int)))) → (List (Int)) → (Int) → (Int) → (Int) → (List (Bool)) → (List (Int)) → (List (List (Int))) → Option R) (x0 : List (Int)) (x1 : Int) (x2 : Int) (x3 : Int) (x4 : Int) (x5 : List (List (Int))) (x6 : List (List (Int))) (x7 : List ((ByteArray) × ((Bool) × (Int)))) (x8 : List (Int)) (x9 : Int) (x10 : Int) (x11 : Int) (x12 : List (Bool)) (x13 : List (Int)) (x14 : List (List (Int))) : Option R :=
  br (decide (x4 < x3))
  (br (decide (x4 < (Nat.cast (List.length x0) : Int)))
   (br (inB x4 (List.length x0))
    (br (((fits (0 : Nat) (List.length x13) x13) && (decide ((((List.length x13) + (1 : Nat)) * (2 : Nat)) ≤ (70368744177664 : Nat)))) && true)
     (nx x0 x1 x2 x3 (IntKind.wrap .i64 (x4 + (1 : Int))) x5 x6 x7 x8 x9 x10 x11 x12 ((sub x13 (0 : Nat) (List.length x13)) ++ ((IntKind.wrap .u16 (List.getD x0 (Int.toNat x4) (0 : Int))) :: ([] : List ((Sh.int IntKind.u16).T)))) x14)
     (none))
    (none))
   (br (((fits (0 : Nat) (List.length x13) x13) && (decide ((((List.length x13) + (1 : Nat)) * (2 : Nat)) ≤ (70368744177664 : Nat)))) && true)
    (nx x0 x1 x2 x3 (IntKind.wrap .i64 (x4 + (1 : Int))) x5 x6 x7 x8 x9 x10 x11 x12 ((sub x13 (0 : Nat) (List.length x13)) ++ ((IntKind.wrap .u16 (0 : Int)) :: ([] : List ((Sh.int IntKind.u16).T)))) x14)
    (none)))
  (k0 x1 x2 x5 x6 x7 x8 x9 x10 x11 x12 x13 x14)
noncomputable def cast_Env_0c40_l2_T0 (N : Nat) (c0 : class_Caps_66e6_Ty) (c1 : class_Caps_Ty) (c2 : slices_Concat___byte__byte_1789_Ty) (c3 : class_Has_1e53_Ty) (c4 : class_Has_0c40_Ty) (c5 : class_Has_e92d_Ty) (c6 : class_May_66e6_Ty) (c7 : class_May_Ty) {R : Type} (nx : (List (Bool)) → (Int) → (Int) → (List (List (Int))) → (List (List (Int))) → (List (Int)) → Option R) (k0 : (List (List (Int))) → (List (List (Int))) → (List (Int)) → Option R) (x0 : List (Bool)) (x1 : Int) (x2 : Int) (x3 : List (List (Int))) (x4 : List (List (Int))) (x5 : List (Int)) : Option R :=
  br (decide (x2 < x1))
  (br (inB x2 (List.length x0))
   (br (List.getD x0 (Int.toNat x2) false)
    (br (((fits (0 : Nat) (List.length x5) x5) && (decide ((((List.length x5) + (1 : Nat)) * (2 : Nat)) ≤ (70368744177664 : Nat)))) && true)
     (nx x0 x1 (IntKind.wrap .i64 (x2 + (1 : Int))) x3 x4 ((sub x5 (0 : Nat) (List.length x5)) ++ ((1 : Int) :: ([] : List ((Sh.int IntKind.u16).T)))))
     (none))
    (br (((fits (0 : Nat) (List.length x5) x5) && (decide ((((List.length x5) + (1 : Nat)) * (2 : Nat)) ≤ (70368744177664 : Nat)))) && true)
     (nx x0 x1 (IntKind.wrap .i64 (x2 + (1 : Int))) x3 x4 ((sub x5 (0 : Nat) (List.length x5)) ++ ((0 : Int) :: ([] : List ((Sh.int IntKind.u16).T)))))
     (none)))
   (none))
  (k0 x3 x4 x5)
noncomputable def cast_Env_0c40_l2 (N : Nat) {R : Type} (k0 : (List (List (Int))) → (List (List (Int))) → (List (Int)) → Option R) : Nat → (List (Bool)) → (Int) → (Int) → (List (List (Int))) → (List (List (Int))) → (List (Int)) → Option R
  | 0, _, _, _, _, _, _ => none
  | n + 1, x0, x1, x2, x3, x4, x5 => cast_Env_0c40_l2_T0 N (@class_Caps_66e6 N) (@class_Caps N) (@slices_Concat___byte__byte_1789 N) (@class_Has_1e53 N) (@class_Has_0c40 N) (@class_Has_e92d N) (@class_May_66e6 N) (@class_May N) (fun x0 x1 x2 x3 x4 x5 => cast_Env_0c40_l2 N k0 n x0 x1 x2 x3 x4 x5) k0 x0 x1 x2 x3 x4 x5
noncomputable def cast_Env_0c40_l1 (N : Nat) {R : Type} (k0 : (Int) → (Int) → (List (List (Int))) → (List (List (Int))) → (List ((ByteArray) × ((Bool) × (Int)))) → (List (Int)) → (Int) → (Int) → (Int) → (List (Bool)) → (List (Int)) → (List (List (Int))) → Option R) : Nat → (List (Int)) → (Int) → (Int) → (Int) → (Int) → (List (List (Int))) → (List (List (Int))) → (List ((ByteArray) × ((Bool) × (Int)))) → (List (Int)) → (Int) → (Int) → (Int) → (List (Bool)) → (List (Int)) → (List (List (Int))) → Option R
  | 0, _, _, _, _, _, _, _, _, _, _, _, _, _, _, _ => none
  | n + 1, x0, x1, x2, x3, x4, x5, x6, x7, x8, x9, x10, x11, x12, x13, x14 => cast_Env_0c40_l1_T0 N (@class_Caps_66e6 N) (@class_Caps N) (@slices_Concat___byte__byte_1789 N) (@class_Has_1e53 N) (@class_Has_0c40 N) (@class_Has_e92d N) (@class_May_66e6 N) (@class_May N) (@cast_Env_0c40_l2 N) (fun x0 x1 x2 x3 x4 x5 x6 x7 x8 x9 x10 x11 x12 x13 x14 => cast_Env_0c40_l1 N k0 n x0 x1 x2 x3 x4 x5 x6 x7 x8 x9 x10 x11 x12 x13 x14) k0 x0 x1 x2 x3 x4 x5 x6 x7 x8 x9 x10 x11 x12 x13 x14
noncomputable def cast_Env_0c40_l0 (N : Nat) {R : Type} (k0 : (List (List (Int))) → (List (List (Int))) → (List (Bool)) → (List (Int)) → Option R) : Nat → (Int) → (Int) → (List (List (Int))) → (List (List (Int))) → (List ((ByteArray) × ((Bool) × (Int)))) → (List (Int)) → (Int) → (Int) → (Int) → (List (Bool)) → (List (Int)) → (List (List (Int))) → Option R
  | 0, _, _, _, _, _, _, _, _, _, _, _, _ => none
  | n + 1, x0, x1, x2, x3, x4, x5, x6, x7, x8, x9, x10, x11 => cast_Env_0c40_l0_T0 N (@class_Caps_66e6 N) (@class_Caps N) (@slices_Concat___byte__byte_1789 N) (@class_Has_1e53 N) (@class_Has_0c40 N) (@class_Has_e92d N) (@class_May_66e6 N) (@class_May N) (@cast_Env_0c40_l1 N) (@cast_Env_0c40_l2 N) (fun x0 x1 x2 x3 x4 x5 x6 x7 x8 x9 x10 x11 => cast_Env_0c40_l0 N k0 n x0 x1 x2 x3 x4 x5 x6 x7 x8 x9 x10 x11) k0 x0 x1 x2 x3 x4 x5 x6 x7 x8 x9 x10 x11
noncomputable def cast_Env_0c40_T (N : Nat) (c0 : class_Caps_66e6_Ty) (c1 : class_Caps_Ty) (c2 : slices_Concat___byte__byte_1789_Ty) (c3 : class_Has_1e53_Ty) (c4 : class_Has_0c40_Ty) (c5 : class_Has_e92d_Ty) (c6 : class_May_66e6_Ty) (c7 : class_May_Ty) (w0 : cast_Env_0c40_l0_Ty) (w1 : cast_Env_0c40_l1_Ty) (w2 : cast_Env_0c40_l2_Ty) {R : Type} (x0 : List ((ByteArray) × ((Bool) × (Int)))) (x1 : List (Int)) (x2 : Int) (x3 : Int) (x4 : Int) (x5 : List (Bool)) (x6 : List (List (Int))) (x7 : List (List (Int))) (k0 : (Int) → (List (List (Int))) → (List (List (Int))) → (List (Int)) → Option R) (k1 : (Int) → (List (List (Int))) → (List (List (Int))) → (List (Int)) → Option R) : Option R :=
  c7 x0 x1 x2 x3 x4
  (fun b608 => br (!b608)
   (k0 (11 : Int) x6 x7 ([] : List ((Sh.int IntKind.u16).T)))
   (c4 x0 x1 x2 x3 x4 x5 x6 x7
    (fun b609 l610 l611 => br (!b609)
     (k0 (12 : Int) l610 l611 ([] : List ((Sh.int IntKind.u16).T)))
     (br (fits (0 : Nat) (List.length l610) l610)
      (br (fits (0 : Nat) (List.length l611) l611)
       (c2 ((sub l610 (0 : Nat) (List.length l610)) :: ((sub l611 (0 : Nat) (List.length l611)) :: ([] : List ((Sh.int IntKind.u8).isl.isl.T))))
        (fun l612 l613 => w0
         (fun l627 l628 l629 l630 => w2
          (fun l631 l632 l633 => k1 (0 : Int) l631 l632 l633)
          N l629 (Nat.cast (List.length l629) : Int) (0 : Int) l627 l628 l630)
         N (Nat.cast (List.length l613) : Int) (0 : Int) l610 l611 x0 x1 x2 x3 x4 x5 ([] : List ((Sh.int IntKind.u16).T)) l613))
       (none))
      (none)))))
noncomputable def cast_Env_0c40 (N : Nat) {R : Type} (x0 : List ((ByteArray) × ((Bool) × (Int)))) (x1 : List (Int)) (x2 : Int) (x3 : Int) (x4 : Int) (x5 : List (Bool)) (x6 : List (List (Int))) (x7 : List (List (Int))) (k0 : (Int) → (List (List (Int))) → (List (List (Int))) → (List (Int)) → Option R) (k1 : (Int) → (List (List (Int))) → (List (List (Int))) → (List (Int)) → Option R) : Option R := cast_Env_0c40_T N (@class_Caps_66e6 N) (@class_Caps N) (@slices_Concat___byte__byte_1789 N) (@class_Has_1e53 N) (@class_Has_0c40 N) (@class_Has_e92d N) (@class_May_66e6 N) (@class_May N) (@cast_Env_0c40_l0 N) (@cast_Env_0c40_l1 N) (@cast_Env_0c40_l2 N) x0 x1 x2 x3 x4 x5 x6 x7 k0 k1
abbrev cast_Env_e92d_l0_Ty : Type 1 := {R : Type} → ((List (List (Int))) → (Nat) → (Nat) → (Nat) → (Nat) → (List (Bool)) → (List (Int)) → Option R) → Nat → (Int) → (Int) → (List (List (Int))) → (List ((ByteArray) × ((Bool) × (Int)))) → (List (Int)) → (Int) → (Int) → (Int) → (Nat) → (Nat) → (Nat) → (Nat) → (List (Bool)) → (List (Int)) → (List (List (Int))) → Option R
abbrev cast_Env_e92d_l1_Ty : Type 1 := {R : Type} → ((Int) → (Int) → (List (List (Int))) → (List ((ByteArray) × ((Bool) × (Int)))) → (List (Int)) → (Int) → (Int) → (Int) → (Nat) → (Nat) → (Nat) → (Nat) → (List (Bool)) → (List (Int)) → (List (List (Int))) → Option R) → Nat → (List (Int)) → (Int) → (Int) → (Int) → (Int) → (List (List (Int))) → (List ((ByteArray) × ((Bool) × (Int)))) → (List (Int)) → (Int) → (Int) → (Int) → (Nat) → (Nat) → (Nat) → (Nat) → (List (Bool)) → (List (Int)) → (List (List (Int))) → Option R
abbrev cast_Env_e92d_l2_Ty : Type 1 := {R : Type} → ((List (List (Int))) → (List (Int)) → Option R) → Nat → (List (Bool)) → (Int) → (Int) → (List (List (Int))) → (List (Int)) → Option R
abbrev cast_Env_e92d_Ty : Type 1 := {R : Type} → (List ((ByteArray) × ((Bool) × (Int)))) → (List (Int)) → (Int) → (Int) → (Int) → (Nat) → (Nat) → (Nat) → (Nat) → (List (Bool)) → (Nat) → (List (List (Int))) → ((Int) → (Nat) → (List (List (Int))) → (List (Int)) → Option R) → ((Int) → (List (List (Int))) → (List (Int)) → Option R) → Option R
noncomputable def cast_Env_e92d_l0_T0 (N : Nat) (c0 : class_Caps_66e6_Ty) (c1 : class_Caps_Ty) (c2 : slices_Concat___byte__byte_1789_Ty) (c3 : class_Has_1e53_Ty) (c4 : class_Has_0c40_Ty) (c5 : class_Has_e92d_Ty) (c6 : class_May_66e6_Ty) (c7 : class_May_Ty) (w1 : cast_Env_e92d_l1_Ty) (w2 : cast_Env_e92d_l2_Ty) {R : Type} (nx : (Int) → (Int) → (List (List (Int))) → (List ((ByteArray) × ((Bool) × (Int)))) → (List (Int)) → (Int) → (Int) → (Int) → (Nat) → (Nat) → (Nat) → (Nat) → (List (Bool)) → (List (Int)) → (List (List (Int))) → Option R) (k0 : (List (List (Int))) → (Nat) → (Nat) → (Nat) → (Nat) → (List (Bool)) → (List (Int)) → Option R) (x0 : Int) (x1 : Int) (x2 : List (List (Int))) (x3 : List ((ByteArray) × ((Bool) × (Int)))) (x4 : List (Int)) (x5 : Int) (x6 : Int) (x7 : Int) (x8 : Nat) (x9 : Nat) (x10 : Nat) (x11 : Nat) (x12 : List (Bool)) (x13 : List (Int)) (x14 : List (List (Int))) : Option R :=
  br (decide (x1 < x0))
  (br (inB x1 (List.length x14))
   (br (decide ((Int.toNat x1) < (List.length x14)))
    (br (((fits (0 : Nat) (List.length x13) x13) && (decide ((((List.length x13) + (1 : Nat)) * (2 : Nat)) ≤ (70368744177664 : Nat)))) && true)
     (c1 x3 x4 x5 x6 x7
      (fun l751 => br (inB x1 (List.length l751))
       (br (decide ((Int.toNat x1) < (List.length l751)))
        (w1
         (fun i752 i753 l754 l755 l756 i757 i758 i759 n760 n761 n762 n763 l764 l765 l766 => nx i752 (IntKind.wrap .i64 (i753 + (1 : Int))) l754 l755 l756 i757 i758 i759 n760 n761 n762 n763 l764 l765 l766)
         N (List.getD x14 (Int.toNat x1) (Sh.zero (.isl (.int .u8)))) x0 x1 (List.getD l751 (Int.toNat x1) (0 : Int)) (0 : Int) x2 x3 x4 x5 x6 x7 x8 x9 x10 x11 x12 ((sub x13 (0 : Nat) (List.length x13)) ++ ((IntKind.wrap .u16 (Nat.cast (List.length (List.getD x14 (Int.toNat x1) (Sh.zero (.isl (.int .u8))))) : Int)) :: ([] : List ((Sh.int IntKind.u16).T)))) x14)
        (none))
       (none)))
     (none))
    (none))
   (none))
  (k0 x2 x8 x9 x10 x11 x12 x13)
noncomputable def cast_Env_e92d_l1_T0 (N : Nat) (c0 : class_Caps_66e6_Ty) (c1 : class_Caps_Ty) (c2 : slices_Concat___byte__byte_1789_Ty) (c3 : class_Has_1e53_Ty) (c4 : class_Has_0c40_Ty) (c5 : class_Has_e92d_Ty) (c6 : class_May_66e6_Ty) (c7 : class_May_Ty) (w2 : cast_Env_e92d_l2_Ty) {R : Type} (nx : (List (Int)) → (Int) → (Int) → (Int) → (Int) → (List (List (Int))) → (List ((ByteArray) × ((Bool) × (Int)))) → (List (Int)) → (Int) → (Int) → (Int) → (Nat) → (Nat) → (Nat) → (Nat) → (List (Bool)) → (List (Int)) → (List (List (Int))) → Option R) (k0 : (Int) → (Int) → (List (List (Int))) → (List ((ByteArray) × ((Bool) × (Int)))) → (List (Int)) → (Int) → (Int) → (Int) → (Nat) → (Nat) → (Nat) → (Nat) → (List (Bool)) → (List (Int)) → (List (List (Int))) → Option R) (x0 : List (Int)) (x1 : Int) (x2 : Int) (x3 : Int) (x4 : Int) (x5 : List (List (Int))) (x6 : List ((ByteArray) × ((Bool) × (Int)))) (x7 : List (Int)) (x8 : Int) (x9 : Int) (x10 : Int) (x11 : Nat) (x12 : Nat) (x13 : Nat) (x14 : Nat) (x15 : List (Bool)) (x16 : List (Int)) (x17 : List (List (Int))) : Option R :=
  br (decide (x4 < x3))
  (br (decide (x4 < (Nat.cast (List.length x0) : Int)))
   (br (inB x4 (List.length x0))
    (br (((fits (0 : Nat) (List.length x16) x16) && (decide ((((List.length x16) + (1 : Nat)) * (2 : Nat)) ≤ (70368744177664 : Nat)))) && true)
     (nx x0 x1 x2 x3 (IntKind.wrap .i64 (x4 + (1 : Int))) x5 x6 x7 x8 x9 x10 x11 x12 x13 x14 x15 ((sub x16 (0 : Nat) (List.length x16)) ++ ((IntKind.wrap .u16 (List.getD x0 (Int.toNat x4) (0 : Int))) :: ([] : List ((Sh.int IntKind.u16).T)))) x17)
     (none))
    (none))
   (br (((fits (0 : Nat) (List.length x16) x16) && (decide ((((List.length x16) + (1 : Nat)) * (2 : Nat)) ≤ (70368744177664 : Nat)))) && true)
    (nx x0 x1 x2 x3 (IntKind.wrap .i64 (x4 + (1 : Int))) x5 x6 x7 x8 x9 x10 x11 x12 x13 x14 x15 ((sub x16 (0 : Nat) (List.length x16)) ++ ((IntKind.wrap .u16 (0 : Int)) :: ([] : List ((Sh.int IntKind.u16).T)))) x17)
    (none)))
  (k0 x1 x2 x5 x6 x7 x8 x9 x10 x11 x12 x13 x14 x15 x16 x17)
noncomputable def cast_Env_e92d_l2_T0 (N : Nat) (c0 : class_Caps_66e6_Ty) (c1 : class_Caps_Ty) (c2 : slices_Concat___byte__byte_1789_Ty) (c3 : class_Has_1e53_Ty) (c4 : class_Has_0c40_Ty) (c5 : class_Has_e92d_Ty) (c6 : class_May_66e6_Ty) (c7 : class_May_Ty) {R : Type} (nx : (List (Bool)) → (Int) → (Int) → (List (List (Int))) → (List (Int)) → Option R) (k0 : (List (List (Int))) → (List (Int)) → Option R) (x0 : List (Bool)) (x1 : Int) (x2 : Int) (x3 : List (List (Int))) (x4 : List (Int)) : Option R :=
  br (decide (x2 < x1))
  (br (inB x2 (List.length x0))
   (br (List.getD x0 (Int.toNat x2) false)
    (br (((fits (0 : Nat) (List.length x4) x4) && (decide ((((List.length x4) + (1 : Nat)) * (2 : Nat)) ≤ (70368744177664 : Nat)))) && true)
     (nx x0 x1 (IntKind.wrap .i64 (x2 + (1 : Int))) x3 ((sub x4 (0 : Nat) (List.length x4)) ++ ((1 : Int) :: ([] : List ((Sh.int IntKind.u16).T)))))
     (none))
    (br (((fits (0 : Nat) (List.length x4) x4) && (decide ((((List.length x4) + (1 : Nat)) * (2 : Nat)) ≤ (70368744177664 : Nat)))) && true)
     (nx x0 x1 (IntKind.wrap .i64 (x2 + (1 : Int))) x3 ((sub x4 (0 : Nat) (List.length x4)) ++ ((0 : Int) :: ([] : List ((Sh.int IntKind.u16).T)))))
     (none)))
   (none))
  (k0 x3 x4)
noncomputable def cast_Env_e92d_l2 (N : Nat) {R : Type} (k0 : (List (List (Int))) → (List (Int)) → Option R) : Nat → (List (Bool)) → (Int) → (Int) → (List (List (Int))) → (List (Int)) → Option R
  | 0, _, _, _, _, _ => none
  | n + 1, x0, x1, x2, x3, x4 => cast_Env_e92d_l2_T0 N (@class_Caps_66e6 N) (@class_Caps N) (@slices_Concat___byte__byte_1789 N) (@class_Has_1e53 N) (@class_Has_0c40 N) (@class_Has_e92d N) (@class_May_66e6 N) (@class_May N) (fun x0 x1 x2 x3 x4 => cast_Env_e92d_l2 N k0 n x0 x1 x2 x3 x4) k0 x0 x1 x2 x3 x4
noncomputable def cast_Env_e92d_l1 (N : Nat) {R : Type} (k0 : (Int) → (Int) → (List (List (Int))) → (List ((ByteArray) × ((Bool) × (Int)))) → (List (Int)) → (Int) → (Int) → (Int) → (Nat) → (Nat) → (Nat) → (Nat) → (List (Bool)) → (List (Int)) → (List (List (Int))) → Option R) : Nat → (List (Int)) → (Int) → (Int) → (Int) → (Int) → (List (List (Int))) → (List ((ByteArray) × ((Bool) × (Int)))) → (List (Int)) → (Int) → (Int) → (Int) → (Nat) → (Nat) → (Nat) → (Nat) → (List (Bool)) → (List (Int)) → (List (List (Int))) → Option R
  | 0, _, _, _, _, _, _, _, _, _, _, _, _, _, _, _, _, _, _ => none
  | n + 1, x0, x1, x2, x3, x4, x5, x6, x7, x8, x9, x10, x11, x12, x13, x14, x15, x16, x17 => cast_Env_e92d_l1_T0 N (@class_Caps_66e6 N) (@class_Caps N) (@slices_Concat___byte__byte_1789 N) (@class_Has_1e53 N) (@class_Has_0c40 N) (@class_Has_e92d N) (@class_May_66e6 N) (@class_May N) (@cast_Env_e92d_l2 N) (fun x0 x1 x2 x3 x4 x5 x6 x7 x8 x9 x10 x11 x12 x13 x14 x15 x16 x17 => cast_Env_e92d_l1 N k0 n x0 x1 x2 x3 x4 x5 x6 x7 x8 x9 x10 x11 x12 x13 x14 x15 x16 x17) k0 x0 x1 x2 x3 x4 x5 x6 x7 x8 x9 x10 x11 x12 x13 x14 x15 x16 x17
noncomputable def cast_Env_e92d_l0 (N : Nat) {R : Type} (k0 : (List (List (Int))) → (Nat) → (Nat) → (Nat) → (Nat) → (List (Bool)) → (List (Int)) → Option R) : Nat → (Int) → (Int) → (List (List (Int))) → (List ((ByteArray) × ((Bool) × (Int)))) → (List (Int)) → (Int) → (Int) → (Int) → (Nat) → (Nat) → (Nat) → (Nat) → (List (Bool)) → (List (Int)) → (List (List (Int))) → Option R
  | 0, _, _, _, _, _, _, _, _, _, _, _, _, _, _, _ => none
  | n + 1, x0, x1, x2, x3, x4, x5, x6, x7, x8, x9, x10, x11, x12, x13, x14 => cast_Env_e92d_l0_T0 N (@class_Caps_66e6 N) (@class_Caps N) (@slices_Concat___byte__byte_1789 N) (@class_Has_1e53 N) (@class_Has_0c40 N) (@class_Has_e92d N) (@class_May_66e6 N) (@class_May N) (@cast_Env_e92d_l1 N) (@cast_Env_e92d_l2 N) (fun x0 x1 x2 x3 x4 x5 x6 x7 x8 x9 x10 x11 x12 x13 x14 => cast_Env_e92d_l0 N k0 n x0 x1 x2 x3 x4 x5 x6 x7 x8 x9 x10 x11 x12 x13 x14) k0 x0 x1 x2 x3 x4 x5 x6 x7 x8 x9 x10 x11 x12 x13 x14
noncomputable def cast_Env_e92d_T (N : Nat) (c0 : class_Caps_66e6_Ty) (c1 : class_Caps_Ty) (c2 : slices_Concat___byte__byte_1789_Ty) (c3 : class_Has_1e53_Ty) (c4 : class_Has_0c40_Ty) (c5 : class_Has_e92d_Ty) (c6 : class_May_66e6_Ty) (c7 : class_May_Ty) (w0 : cast_Env_e92d_l0_Ty) (w1 : cast_Env_e92d_l1_Ty) (w2 : cast_Env_e92d_l2_Ty) {R : Type} (x0 : List ((ByteArray) × ((Bool) × (Int)))) (x1 : List (Int)) (x2 : Int) (x3 : Int) (x4 : Int) (x5 : Nat) (x6 : Nat) (x7 : Nat) (x8 : Nat) (x9 : List (Bool)) (x10 : Nat) (x11 : List (List (Int))) (k0 : (Int) → (Nat) → (List (List (Int))) → (List (Int)) → Option R) (k1 : (Int) → (List (List (Int))) → (List (Int)) → Option R) : Option R :=
  c7 x0 x1 x2 x3 x4
  (fun b745 => br (!b745)
   (k0 (11 : Int) x10 x11 ([] : List ((Sh.int IntKind.u16).T)))
   (c5 x0 x1 x2 x3 x4 x5 x6 x7 x8 x9 x10 x11
    (fun b746 n747 l748 => br (!b746)
     (k0 (12 : Int) n747 l748 ([] : List ((Sh.int IntKind.u16).T)))
     (br (fits (0 : Nat) x5 l748)
      (br (fits x7 x8 l748)
       (c2 ((sub l748 (0 : Nat) x5) :: ((sub l748 x7 x8) :: ([] : List ((Sh.int IntKind.u8).isl.isl.T))))
        (fun l749 l750 => w0
         (fun l767 n768 n769 n770 n771 l772 l773 => w2
          (fun l774 l775 => k1 (0 : Int) l774 l775)
          N l772 (Nat.cast (List.length l772) : Int) (0 : Int) l767 l773)
         N (Nat.cast (List.length l750) : Int) (0 : Int) l748 x0 x1 x2 x3 x4 x5 x6 x7 x8 x9 ([] : List ((Sh.int IntKind.u16).T)) l750))
       (none))
      (none)))))
noncomputable def cast_Env_e92d (N : Nat) {R : Type} (x0 : List ((ByteArray) × ((Bool) × (Int)))) (x1 : List (Int)) (x2 : Int) (x3 : Int) (x4 : Int) (x5 : Nat) (x6 : Nat) (x7 : Nat) (x8 : Nat) (x9 : List (Bool)) (x10 : Nat) (x11 : List (List (Int))) (k0 : (Int) → (Nat) → (List (List (Int))) → (List (Int)) → Option R) (k1 : (Int) → (List (List (Int))) → (List (Int)) → Option R) : Option R := cast_Env_e92d_T N (@class_Caps_66e6 N) (@class_Caps N) (@slices_Concat___byte__byte_1789 N) (@class_Has_1e53 N) (@class_Has_0c40 N) (@class_Has_e92d N) (@class_May_66e6 N) (@class_May N) (@cast_Env_e92d_l0 N) (@cast_Env_e92d_l1 N) (@cast_Env_e92d_l2 N) x0 x1 x2 x3 x4 x5 x6 x7 x8 x9 x10 x11 k0 k1
abbrev cast_Size_9e58_l0_Ty : Type 1 := {R : Type} → ((Int) → (List ((ByteArray) × ((Bool) × (Int)))) → (List (Int)) → Option R) → Nat → (Int) → (Int) → (Int) → (List ((ByteArray) × ((Bool) × (Int)))) → (List (Int)) → (List (Int)) → Option R
abbrev cast_Size_9e58_Ty : Type 1 := {R : Type} → (Int) → (Int) → (Int) → (Int) → (List ((ByteArray) × ((Bool) × (Int)))) → (List (Int)) → ((Int) → (List ((ByteArray) × ((Bool) × (Int)))) → (List (Int)) → Option R) → Option R
noncomputable def cast_Size_9e58_l0_T0 (N : Nat) (c0 : class_May_66e6_Ty) (c1 : class_May_Ty) (c2 : class_Caps_66e6_Ty) (c3 : class_Caps_Ty) {R : Type} (nx : (Int) → (Int) → (Int) → (List ((ByteArray) × ((Bool) × (Int)))) → (List (Int)) → (List (Int)) → Option R) (k0 : (Int) → (List ((ByteArray) × ((Bool) × (Int)))) → (List (Int)) → Option R) (x0 : Int) (x1 : Int) (x2 : Int) (x3 : List ((ByteArray) × ((Bool) × (Int)))) (x4 : List (Int)) (x5 : List (Int)) : Option R :=
  br (decide (x2 < x1))
  (br (inB x2 (List.length x5))
   (br (decide ((Int.toNat x2) < (List.length x5)))
    (nx (IntKind.wrap .i64 (x0 + (IntKind.wrap .i64 ((1 : Int) + (List.getD x5 (Int.toNat x2) (0 : Int)))))) x1 (IntKind.wrap .i64 (x2 + (1 : Int))) x3 x4 x5)
    (none))
   (none))
  (k0 x0 x3 x4)
noncomputable def cast_Size_9e58_l0 (N : Nat) {R : Type} (k0 : (Int) → (List ((ByteArray) × ((Bool) × (Int)))) → (List (Int)) → Option R) : Nat → (Int) → (Int) → (Int) → (List ((ByteArray) × ((Bool) × (Int)))) → (List (Int)) → (List (Int)) → Option R
  | 0, _, _, _, _, _, _ => none
  | n + 1, x0, x1, x2, x3, x4, x5 => cast_Size_9e58_l0_T0 N (@class_May_66e6 N) (@class_May N) (@class_Caps_66e6 N) (@class_Caps N) (fun x0 x1 x2 x3 x4 x5 => cast_Size_9e58_l0 N k0 n x0 x1 x2 x3 x4 x5) k0 x0 x1 x2 x3 x4 x5
noncomputable def cast_Size_9e58_T (N : Nat) (c0 : class_May_66e6_Ty) (c1 : class_May_Ty) (c2 : class_Caps_66e6_Ty) (c3 : class_Caps_Ty) (w0 : cast_Size_9e58_l0_Ty) {R : Type} (x0 : Int) (x1 : Int) (x2 : Int) (x3 : Int) (x4 : List ((ByteArray) × ((Bool) × (Int)))) (x5 : List (Int)) (k0 : (Int) → (List ((ByteArray) × ((Bool) × (Int)))) → (List (Int)) → Option R) : Option R :=
  c2 x0 x1 x2 x4 x5
  (fun l254 l255 l256 => c0 x0 x1 x2 l254 l255
   (fun b257 l258 l259 => br (!(!b257))
    (br (!(decide (x3 < (0 : Int))))
     (br (decide ((Nat.cast (List.length l256) : Int) ≤ x3))
      (k0 (-1 : Int) l258 l259)
      (br (leB x3 (List.length l256))
       (br (fits (0 : Nat) ((Int.toNat x3) - (0 : Nat)) l256)
        (w0
         (fun i260 l261 l262 => k0 i260 l261 l262)
         N (0 : Int) (Nat.cast ((Int.toNat x3) - (0 : Nat)) : Int) (0 : Int) l258 l259 (sub l256 (0 : Nat) ((Int.toNat x3) - (0 : Nat))))
        (none))
       (none)))
     (k0 (-1 : Int) l258 l259))
    (k0 (-1 : Int) l258 l259)))
noncomputable def cast_Size_9e58 (N : Nat) {R : Type} (x0 : Int) (x1 : Int) (x2 : Int) (x3 : Int) (x4 : List ((ByteArray) × ((Bool) × (Int)))) (x5 : List (Int)) (k0 : (Int) → (List ((ByteArray) × ((Bool) × (Int)))) → (List (Int)) → Option R) : Option R := cast_Size_9e58_T N (@class_May_66e6 N) (@class_May N) (@class_Caps_66e6 N) (@class_Caps N) (@cast_Size_9e58_l0 N) x0 x1 x2 x3 x4 x5 k0
abbrev cast_Byte_dbd4_Ty : Type 1 := {R : Type} → (Int) → (Int) → (Int) → (Int) → (Int) → (List ((ByteArray) × ((Bool) × (Int)))) → (List (Int)) → ((Int) → (Bool) → (List ((ByteArray) × ((Bool) × (Int)))) → (List (Int)) → Option R) → Option R
noncomputable def cast_Byte_dbd4_T (N : Nat) (c0 : class_Caps_66e6_Ty) (c1 : class_Caps_Ty) (c2 : cast_Size_9e58_Ty) {R : Type} (x0 : Int) (x1 : Int) (x2 : Int) (x3 : Int) (x4 : Int) (x5 : List ((ByteArray) × ((Bool) × (Int)))) (x6 : List (Int)) (k0 : (Int) → (Bool) → (List ((ByteArray) × ((Bool) × (Int)))) → (List (Int)) → Option R) : Option R :=
  c2 x0 x1 x2 x3 x5 x6
  (fun i263 l264 l265 => br (!(decide (i263 = (-1 : Int))))
   (br (!(decide (x4 < (0 : Int))))
    (c0 x0 x1 x2 l264 l265
     (fun l266 l267 l268 => br (inB x3 (List.length l268))
      (br (decide ((Int.toNat x3) < (List.length l268)))
       (br (decide ((List.getD l268 (Int.toNat x3) (0 : Int)) ≤ x4))
        (k0 (0 : Int) false l266 l267)
        (k0 (IntKind.wrap .i64 ((IntKind.wrap .i64 (i263 + (1 : Int))) + x4)) true l266 l267))
       (none))
      (none)))
    (k0 (0 : Int) false l264 l265))
   (k0 (0 : Int) false l264 l265))
noncomputable def cast_Byte_dbd4 (N : Nat) {R : Type} (x0 : Int) (x1 : Int) (x2 : Int) (x3 : Int) (x4 : Int) (x5 : List ((ByteArray) × ((Bool) × (Int)))) (x6 : List (Int)) (k0 : (Int) → (Bool) → (List ((ByteArray) × ((Bool) × (Int)))) → (List (Int)) → Option R) : Option R := cast_Byte_dbd4_T N (@class_Caps_66e6 N) (@class_Caps N) (@cast_Size_9e58 N) x0 x1 x2 x3 x4 x5 x6 k0
abbrev cast_Vars_66e6_l0_Ty : Type 1 := {R : Type} → ((Int) → (List ((ByteArray) × ((Bool) × (Int)))) → (List (Int)) → Option R) → Nat → (Int) → (Int) → (Int) → (List ((ByteArray) × ((Bool) × (Int)))) → (List (Int)) → (List (Int)) → Option R
abbrev cast_Vars_66e6_Ty : Type 1 := {R : Type} → (Int) → (Int) → (Int) → (List ((ByteArray) × ((Bool) × (Int)))) → (List (Int)) → ((Int) → (List ((ByteArray) × ((Bool) × (Int)))) → (List (Int)) → Option R) → Option R
noncomputable def cast_Vars_66e6_l0_T0 (N : Nat) (c0 : class_Caps_66e6_Ty) (c1 : class_Caps_Ty) (c2 : class_May_66e6_Ty) (c3 : class_May_Ty) {R : Type} (nx : (Int) → (Int) → (Int) → (List ((ByteArray) × ((Bool) × (Int)))) → (List (Int)) → (List (Int)) → Option R) (k0 : (Int) → (List ((ByteArray) × ((Bool) × (Int)))) → (List (Int)) → Option R) (x0 : Int) (x1 : Int) (x2 : Int) (x3 : List ((ByteArray) × ((Bool) × (Int)))) (x4 : List (Int)) (x5 : List (Int)) : Option R :=
  br (decide (x2 < x1))
  (br (inB x2 (List.length x5))
   (br (decide ((Int.toNat x2) < (List.length x5)))
    (nx (IntKind.wrap .i64 (x0 + (IntKind.wrap .i64 ((1 : Int) + (List.getD x5 (Int.toNat x2) (0 : Int)))))) x1 (IntKind.wrap .i64 (x2 + (1 : Int))) x3 x4 x5)
    (none))
   (none))
  (k0 x0 x3 x4)
noncomputable def cast_Vars_66e6_l0 (N : Nat) {R : Type} (k0 : (Int) → (List ((ByteArray) × ((Bool) × (Int)))) → (List (Int)) → Option R) : Nat → (Int) → (Int) → (Int) → (List ((ByteArray) × ((Bool) × (Int)))) → (List (Int)) → (List (Int)) → Option R
  | 0, _, _, _, _, _, _ => none
  | n + 1, x0, x1, x2, x3, x4, x5 => cast_Vars_66e6_l0_T0 N (@class_Caps_66e6 N) (@class_Caps N) (@class_May_66e6 N) (@class_May N) (fun x0 x1 x2 x3 x4 x5 => cast_Vars_66e6_l0 N k0 n x0 x1 x2 x3 x4 x5) k0 x0 x1 x2 x3 x4 x5
noncomputable def cast_Vars_66e6_T (N : Nat) (c0 : class_Caps_66e6_Ty) (c1 : class_Caps_Ty) (c2 : class_May_66e6_Ty) (c3 : class_May_Ty) (w0 : cast_Vars_66e6_l0_Ty) {R : Type} (x0 : Int) (x1 : Int) (x2 : Int) (x3 : List ((ByteArray) × ((Bool) × (Int)))) (x4 : List (Int)) (k0 : (Int) → (List ((ByteArray) × ((Bool) × (Int)))) → (List (Int)) → Option R) : Option R :=
  c2 x0 x1 x2 x3 x4
  (fun b276 l277 l278 => br (!b276)
   (k0 (0 : Int) l277 l278)
   (c0 x0 x1 x2 l277 l278
    (fun l279 l280 l281 => w0
     (fun i282 l283 l284 => k0 i282 l283 l284)
     N x0 (Nat.cast (List.length l281) : Int) (0 : Int) l279 l280 l281)))
noncomputable def cast_Vars_66e6 (N : Nat) {R : Type} (x0 : Int) (x1 : Int) (x2 : Int) (x3 : List ((ByteArray) × ((Bool) × (Int)))) (x4 : List (Int)) (k0 : (Int) → (List ((ByteArray) × ((Bool) × (Int)))) → (List (Int)) → Option R) : Option R := cast_Vars_66e6_T N (@class_Caps_66e6 N) (@class_Caps N) (@class_May_66e6 N) (@class_May N) (@cast_Vars_66e6_l0 N) x0 x1 x2 x3 x4 k0
abbrev cast_Fail_9e58_Ty : Type 1 := {R : Type} → (Int) → (Int) → (Int) → (Int) → (List ((ByteArray) × ((Bool) × (Int)))) → (List (Int)) → ((Int) → (Bool) → (List ((ByteArray) × ((Bool) × (Int)))) → (List (Int)) → Option R) → Option R
noncomputable def cast_Fail_9e58_T (N : Nat) (c0 : cast_Vars_66e6_Ty) (c1 : class_May_66e6_Ty) (c2 : class_May_Ty) {R : Type} (x0 : Int) (x1 : Int) (x2 : Int) (x3 : Int) (x4 : List ((ByteArray) × ((Bool) × (Int)))) (x5 : List (Int)) (k0 : (Int) → (Bool) → (List ((ByteArray) × ((Bool) × (Int)))) → (List (Int)) → Option R) : Option R :=
  c1 x0 x1 x2 x4 x5
  (fun b273 l274 l275 => br (!(!b273))
   (br (!(decide (x3 < (0 : Int))))
    (br (decide (x0 ≤ x3))
     (k0 (0 : Int) false l274 l275)
     (c0 x0 x1 x2 l274 l275
      (fun i285 l286 l287 => br (decide (x0 = x0))
       (br (decide (x3 = x3))
        (k0 (IntKind.wrap .i64 ((IntKind.wrap .i64 (i285 - x0)) + x3)) true l286 l287)
        (none))
       (none))))
    (k0 (0 : Int) false l274 l275))
   (k0 (0 : Int) false l274 l275))
noncomputable def cast_Fail_9e58 (N : Nat) {R : Type} (x0 : Int) (x1 : Int) (x2 : Int) (x3 : Int) (x4 : List ((ByteArray) × ((Bool) × (Int)))) (x5 : List (Int)) (k0 : (Int) → (Bool) → (List ((ByteArray) × ((Bool) × (Int)))) → (List (Int)) → Option R) : Option R := cast_Fail_9e58_T N (@cast_Vars_66e6 N) (@class_May_66e6 N) (@class_May N) x0 x1 x2 x3 x4 x5 k0
abbrev law18_same_894e_l0_Ty : Type 1 := {R : Type} → ((Bool) → (List (Int)) → (List (Int)) → Option R) → ((List (Int)) → (List (Int)) → Option R) → Nat → (Int) → (List (Int)) → (List (Int)) → Option R
abbrev law18_same_894e_Ty : Type 1 := {R : Type} → (List (Int)) → (List (Int)) → ((Bool) → (List (Int)) → (List (Int)) → Option R) → Option R
noncomputable def law18_same_894e_l0_T0 (N : Nat) {R : Type} (nx : (Int) → (List (Int)) → (List (Int)) → Option R) (k0 : (Bool) → (List (Int)) → (List (Int)) → Option R) (k1 : (List (Int)) → (List (Int)) → Option R) (x0 : Int) (x1 : List (Int)) (x2 : List (Int)) : Option R :=
  br (decide (x0 < (Nat.cast (List.length x1) : Int)))
  (br (inB x0 (List.length x1))
   (br (decide ((Int.toNat x0) < (List.length x1)))
    (br (inB x0 (List.length x2))
     (br (decide ((Int.toNat x0) < (List.length x2)))
      (br (!(decide ((List.getD x1 (Int.toNat x0) (0 : Int)) = (List.getD x2 (Int.toNat x0) (0 : Int)))))
       (k0 false x1 x2)
       (nx (IntKind.wrap .i64 (x0 + (1 : Int))) x1 x2))
      (none))
     (none))
    (none))
   (none))
  (k1 x1 x2)
noncomputable def law18_same_894e_l0 (N : Nat) {R : Type} (k0 : (Bool) → (List (Int)) → (List (Int)) → Option R) (k1 : (List (Int)) → (List (Int)) → Option R) : Nat → (Int) → (List (Int)) → (List (Int)) → Option R
  | 0, _, _, _ => none
  | n + 1, x0, x1, x2 => law18_same_894e_l0_T0 N (fun x0 x1 x2 => law18_same_894e_l0 N k0 k1 n x0 x1 x2) k0 k1 x0 x1 x2
noncomputable def law18_same_894e_T (N : Nat) (w0 : law18_same_894e_l0_Ty) {R : Type} (x0 : List (Int)) (x1 : List (Int)) (k0 : (Bool) → (List (Int)) → (List (Int)) → Option R) : Option R :=
  br (!(decide ((Nat.cast (List.length x0) : Int) = (Nat.cast (List.length x1) : Int))))
  (k0 false x0 x1)
  (w0
   (fun b292 l293 l294 => k0 b292 l293 l294)
   (fun l295 l296 => k0 true l295 l296)
   N (0 : Int) x0 x1)
noncomputable def law18_same_894e (N : Nat) {R : Type} (x0 : List (Int)) (x1 : List (Int)) (k0 : (Bool) → (List (Int)) → (List (Int)) → Option R) : Option R := law18_same_894e_T N (@law18_same_894e_l0 N) x0 x1 k0
abbrev law18_awake_Ty : Type 1 := {R : Type} → ((Bool) → Option R) → Option R
noncomputable def law18_awake_T (N : Nat) (c0 : cast_Size_9e58_Ty) (c1 : cast_Vars_66e6_Ty) (c2 : law18_same_894e_Ty) (c3 : cast_Fail_9e58_Ty) (c4 : cast_Byte_dbd4_Ty) (c5 : cast_Env_727c_Ty) (c6 : cast_Env_0c40_Ty) (c7 : cast_Env_e92d_Ty) {R : Type} (k0 : (Bool) → Option R) : Option R :=
  c5 (1 : Int) (1 : Int) (0 : Int) (((bs [97]) , (false , (1 : Int))) :: ([] : List ((Sh.str.pair (Sh.bool.pair (Sh.int IntKind.i64))).T))) ([] : List ((Sh.int IntKind.i64).T)) (((9 : Int) :: ([] : List ((Sh.int IntKind.u8).T))) :: ([] : List ((Sh.int IntKind.u8).isl.T))) (true :: ([] : List (Sh.bool.T)))
  (fun i248 l249 l250 l251 l252 l253 => c4 (1 : Int) (1 : Int) (0 : Int) (0 : Int) (0 : Int) l249 l250
   (fun i269 b270 l271 l272 => c3 (1 : Int) (1 : Int) (0 : Int) (0 : Int) l271 l272
    (fun i288 b289 l290 l291 => br (decide (i248 = (0 : Int)))
     (c2 l253 ((1 : Int) :: ((9 : Int) :: ((1 : Int) :: ([] : List ((Sh.int IntKind.u16).T)))))
      (fun b297 l298 l299 => br b297
       (c1 (1 : Int) (1 : Int) (0 : Int) l290 l291
        (fun i300 l301 l302 => br (decide (i300 = (3 : Int)))
         (c0 (1 : Int) (1 : Int) (0 : Int) (0 : Int) l301 l302
          (fun i303 l304 l305 => br (decide (i303 = (0 : Int)))
           (br b270
            (br (decide (i269 = (1 : Int)))
             (br b289
              (k0 (decide (i288 = (2 : Int))))
              (k0 false))
             (k0 false))
            (k0 false))
           (k0 false)))
         (k0 false)))
       (k0 false)))
     (k0 false))))
  (fun i306 l307 l308 l309 l310 l311 => c4 (1 : Int) (1 : Int) (0 : Int) (0 : Int) (0 : Int) l307 l308
   (fun i312 b313 l314 l315 => c3 (1 : Int) (1 : Int) (0 : Int) (0 : Int) l314 l315
    (fun i316 b317 l318 l319 => br (decide (i306 = (0 : Int)))
     (c2 l311 ((1 : Int) :: ((9 : Int) :: ((1 : Int) :: ([] : List ((Sh.int IntKind.u16).T)))))
      (fun b320 l321 l322 => br b320
       (c1 (1 : Int) (1 : Int) (0 : Int) l318 l319
        (fun i323 l324 l325 => br (decide (i323 = (3 : Int)))
         (c0 (1 : Int) (1 : Int) (0 : Int) (0 : Int) l324 l325
          (fun i326 l327 l328 => br (decide (i326 = (0 : Int)))
           (br b313
            (br (decide (i312 = (1 : Int)))
             (br b317
              (k0 (decide (i316 = (2 : Int))))
              (k0 false))
             (k0 false))
            (k0 false))
           (k0 false)))
         (k0 false)))
       (k0 false)))
     (k0 false))))
noncomputable def law18_awake (N : Nat) {R : Type} (k0 : (Bool) → Option R) : Option R := law18_awake_T N (@cast_Size_9e58 N) (@cast_Vars_66e6 N) (@law18_same_894e N) (@cast_Fail_9e58 N) (@cast_Byte_dbd4 N) (@cast_Env_727c N) (@cast_Env_0c40 N) (@cast_Env_e92d N) k0
abbrev ref12_NameMay_l0_Ty : Type 1 := {R : Type} → ((Bool) → (List (ByteArray)) → Option R) → ((List (ByteArray)) → Option R) → Nat → (ByteArray) → (Int) → (List (ByteArray)) → Option R
abbrev ref12_NameMay_l1_Ty : Type 1 := {R : Type} → ((Bool) → (List (ByteArray)) → Option R) → ((List (ByteArray)) → Option R) → Nat → (Int) → (List (ByteArray)) → Option R
abbrev ref12_NameMay_Ty : Type 1 := {R : Type} → (ByteArray) → ((Bool) → Option R) → Option R
noncomputable def ref12_NameMay_l0_T0 (N : Nat) (w1 : ref12_NameMay_l1_Ty) {R : Type} (nx : (ByteArray) → (Int) → (List (ByteArray)) → Option R) (k0 : (Bool) → (List (ByteArray)) → Option R) (k1 : (List (ByteArray)) → Option R) (x0 : ByteArray) (x1 : Int) (x2 : List (ByteArray)) : Option R :=
  br (decide (x1 < (Nat.cast (ByteArray.size x0) : Int)))
  (br (inB x1 (ByteArray.size x0))
   (br (decide ((bt x0 x1) = (47 : Int)))
    (br (((fits (0 : Nat) (List.length x2) x2) && (decide ((((List.length x2) + (1 : Nat)) * (16 : Nat)) ≤ (70368744177664 : Nat)))) && true)
     (nx x0 (IntKind.wrap .i64 (x1 + (1 : Int))) ((sub x2 (0 : Nat) (List.length x2)) ++ ((bs []) :: ([] : List (Sh.str.T)))))
     (none))
    (br (decide ((97 : Int) ≤ (bt x0 x1)))
     (br (decide ((bt x0 x1) ≤ (122 : Int)))
      (br (inB (IntKind.wrap .i64 ((Nat.cast (List.length x2) : Int) - (1 : Int))) (List.length x2))
       (br (decide ((Int.toNat (IntKind.wrap .i64 ((Nat.cast (List.length x2) : Int) - (1 : Int)))) < (List.length x2)))
        (br (decide (((ByteArray.size (List.getD x2 (Int.toNat (IntKind.wrap .i64 ((Nat.cast (List.length x2) : Int) - (1 : Int)))) (bs []))) + (ByteArray.size (mkStr ((bt x0 x1) :: ([] : List ((Sh.int IntKind.u8).T)))))) < (1099511627776 : Nat)))
         (br (inB (IntKind.wrap .i64 ((Nat.cast (List.length x2) : Int) - (1 : Int))) (List.length x2))
          (br (decide ((Int.toNat (IntKind.wrap .i64 ((Nat.cast (List.length x2) : Int) - (1 : Int)))) < (List.length x2)))
           (nx x0 (IntKind.wrap .i64 (x1 + (1 : Int))) (List.set x2 (Int.toNat (IntKind.wrap .i64 ((Nat.cast (List.length x2) : Int) - (1 : Int)))) ((List.getD x2 (Int.toNat (IntKind.wrap .i64 ((Nat.cast (List.length x2) : Int) - (1 : Int)))) (bs [])) ++ (mkStr ((bt x0 x1) :: ([] : List ((Sh.int IntKind.u8).T)))))))
           (none))
          (none))
         (none))
        (none))
       (none))
      (br (decide ((48 : Int) ≤ (bt x0 x1)))
       (br (decide ((bt x0 x1) ≤ (57 : Int)))
        (br (inB (IntKind.wrap .i64 ((Nat.cast (List.length x2) : Int) - (1 : Int))) (List.length x2))
         (br (decide ((Int.toNat (IntKind.wrap .i64 ((Nat.cast (List.length x2) : Int) - (1 : Int)))) < (List.length x2)))
          (br (decide (((ByteArray.size (List.getD x2 (Int.toNat (IntKind.wrap .i64 ((Nat.cast (List.length x2) : Int) - (1 : Int)))) (bs []))) + (ByteArray.size (mkStr ((bt x0 x1) :: ([] : List ((Sh.int IntKind.u8).T)))))) < (1099511627776 : Nat)))
           (br (inB (IntKind.wrap .i64 ((Nat.cast (List.length x2) : Int) - (1 : Int))) (List.length x2))
            (br (decide ((Int.toNat (IntKind.wrap .i64 ((Nat.cast (List.length x2) : Int) - (1 : Int)))) < (List.length x2)))
             (nx x0 (IntKind.wrap .i64 (x1 + (1 : Int))) (List.set x2 (Int.toNat (IntKind.wrap .i64 ((Nat.cast (List.length x2) : Int) - (1 : Int)))) ((List.getD x2 (Int.toNat (IntKind.wrap .i64 ((Nat.cast (List.length x2) : Int) - (1 : Int)))) (bs [])) ++ (mkStr ((bt x0 x1) :: ([] : List ((Sh.int IntKind.u8).T)))))))
             (none))
            (none))
           (none))
          (none))
         (none))
        (br (decide ((bt x0 x1) = (46 : Int)))
         (br (inB (IntKind.wrap .i64 ((Nat.cast (List.length x2) : Int) - (1 : Int))) (List.length x2))
          (br (decide ((Int.toNat (IntKind.wrap .i64 ((Nat.cast (List.length x2) : Int) - (1 : Int)))) < (List.length x2)))
           (br (decide (((ByteArray.size (List.getD x2 (Int.toNat (IntKind.wrap .i64 ((Nat.cast (List.length x2) : Int) - (1 : Int)))) (bs []))) + (ByteArray.size (mkStr ((bt x0 x1) :: ([] : List ((Sh.int IntKind.u8).T)))))) < (1099511627776 : Nat)))
            (br (inB (IntKind.wrap .i64 ((Nat.cast (List.length x2) : Int) - (1 : Int))) (List.length x2))
             (br (decide ((Int.toNat (IntKind.wrap .i64 ((Nat.cast (List.length x2) : Int) - (1 : Int)))) < (List.length x2)))
              (nx x0 (IntKind.wrap .i64 (x1 + (1 : Int))) (List.set x2 (Int.toNat (IntKind.wrap .i64 ((Nat.cast (List.length x2) : Int) - (1 : Int)))) ((List.getD x2 (Int.toNat (IntKind.wrap .i64 ((Nat.cast (List.length x2) : Int) - (1 : Int)))) (bs [])) ++ (mkStr ((bt x0 x1) :: ([] : List ((Sh.int IntKind.u8).T)))))))
              (none))
             (none))
            (none))
           (none))
          (none))
         (br (decide ((bt x0 x1) = (95 : Int)))
          (br (inB (IntKind.wrap .i64 ((Nat.cast (List.length x2) : Int) - (1 : Int))) (List.length x2))
           (br (decide ((Int.toNat (IntKind.wrap .i64 ((Nat.cast (List.length x2) : Int) - (1 : Int)))) < (List.length x2)))
            (br (decide (((ByteArray.size (List.getD x2 (Int.toNat (IntKind.wrap .i64 ((Nat.cast (List.length x2) : Int) - (1 : Int)))) (bs []))) + (ByteArray.size (mkStr ((bt x0 x1) :: ([] : List ((Sh.int IntKind.u8).T)))))) < (1099511627776 : Nat)))
             (br (inB (IntKind.wrap .i64 ((Nat.cast (List.length x2) : Int) - (1 : Int))) (List.length x2))
              (br (decide ((Int.toNat (IntKind.wrap .i64 ((Nat.cast (List.length x2) : Int) - (1 : Int)))) < (List.length x2)))
               (nx x0 (IntKind.wrap .i64 (x1 + (1 : Int))) (List.set x2 (Int.toNat (IntKind.wrap .i64 ((Nat.cast (List.length x2) : Int) - (1 : Int)))) ((List.getD x2 (Int.toNat (IntKind.wrap .i64 ((Nat.cast (List.length x2) : Int) - (1 : Int)))) (bs [])) ++ (mkStr ((bt x0 x1) :: ([] : List ((Sh.int IntKind.u8).T)))))))
               (none))
              (none))
             (none))
            (none))
           (none))
          (k0 false x2))))
       (br (decide ((bt x0 x1) = (46 : Int)))
        (br (inB (IntKind.wrap .i64 ((Nat.cast (List.length x2) : Int) - (1 : Int))) (List.length x2))
         (br (decide ((Int.toNat (IntKind.wrap .i64 ((Nat.cast (List.length x2) : Int) - (1 : Int)))) < (List.length x2)))
          (br (decide (((ByteArray.size (List.getD x2 (Int.toNat (IntKind.wrap .i64 ((Nat.cast (List.length x2) : Int) - (1 : Int)))) (bs []))) + (ByteArray.size (mkStr ((bt x0 x1) :: ([] : List ((Sh.int IntKind.u8).T)))))) < (1099511627776 : Nat)))
           (br (inB (IntKind.wrap .i64 ((Nat.cast (List.length x2) : Int) - (1 : Int))) (List.length x2))
            (br (decide ((Int.toNat (IntKind.wrap .i64 ((Nat.cast (List.length x2) : Int) - (1 : Int)))) < (List.length x2)))
             (nx x0 (IntKind.wrap .i64 (x1 + (1 : Int))) (List.set x2 (Int.toNat (IntKind.wrap .i64 ((Nat.cast (List.length x2) : Int) - (1 : Int)))) ((List.getD x2 (Int.toNat (IntKind.wrap .i64 ((Nat.cast (List.length x2) : Int) - (1 : Int)))) (bs [])) ++ (mkStr ((bt x0 x1) :: ([] : List ((Sh.int IntKind.u8).T)))))))
             (none))
            (none))
           (none))
          (none))
         (none))
        (br (decide ((bt x0 x1) = (95 : Int)))
         (br (inB (IntKind.wrap .i64 ((Nat.cast (List.length x2) : Int) - (1 : Int))) (List.length x2))
          (br (decide ((Int.toNat (IntKind.wrap .i64 ((Nat.cast (List.length x2) : Int) - (1 : Int)))) < (List.length x2)))
           (br (decide (((ByteArray.size (List.getD x2 (Int.toNat (IntKind.wrap .i64 ((Nat.cast (List.length x2) : Int) - (1 : Int)))) (bs []))) + (ByteArray.size (mkStr ((bt x0 x1) :: ([] : List ((Sh.int IntKind.u8).T)))))) < (1099511627776 : Nat)))
            (br (inB (IntKind.wrap .i64 ((Nat.cast (List.length x2) : Int) - (1 : Int))) (List.length x2))
             (br (decide ((Int.toNat (IntKind.wrap .i64 ((Nat.cast (List.length x2) : Int) - (1 : Int)))) < (List.length x2)))
              (nx x0 (IntKind.wrap .i64 (x1 + (1 : Int))) (List.set x2 (Int.toNat (IntKind.wrap .i64 ((Nat.cast (List.length x2) : Int) - (1 : Int)))) ((List.getD x2 (Int.toNat (IntKind.wrap .i64 ((Nat.cast (List.length x2) : Int) - (1 : Int)))) (bs [])) ++ (mkStr ((bt x0 x1) :: ([] : List ((Sh.int IntKind.u8).T)))))))
              (none))
             (none))
            (none))
           (none))
          (none))
         (k0 false x2)))))
     (br (decide ((48 : Int) ≤ (bt x0 x1)))
      (br (decide ((bt x0 x1) ≤ (57 : Int)))
       (br (inB (IntKind.wrap .i64 ((Nat.cast (List.length x2) : Int) - (1 : Int))) (List.length x2))
        (br (decide ((Int.toNat (IntKind.wrap .i64 ((Nat.cast (List.length x2) : Int) - (1 : Int)))) < (List.length x2)))
         (br (decide (((ByteArray.size (List.getD x2 (Int.toNat (IntKind.wrap .i64 ((Nat.cast (List.length x2) : Int) - (1 : Int)))) (bs []))) + (ByteArray.size (mkStr ((bt x0 x1) :: ([] : List ((Sh.int IntKind.u8).T)))))) < (1099511627776 : Nat)))
          (br (inB (IntKind.wrap .i64 ((Nat.cast (List.length x2) : Int) - (1 : Int))) (List.length x2))
           (br (decide ((Int.toNat (IntKind.wrap .i64 ((Nat.cast (List.length x2) : Int) - (1 : Int)))) < (List.length x2)))
            (nx x0 (IntKind.wrap .i64 (x1 + (1 : Int))) (List.set x2 (Int.toNat (IntKind.wrap .i64 ((Nat.cast (List.length x2) : Int) - (1 : Int)))) ((List.getD x2 (Int.toNat (IntKind.wrap .i64 ((Nat.cast (List.length x2) : Int) - (1 : Int)))) (bs [])) ++ (mkStr ((bt x0 x1) :: ([] : List ((Sh.int IntKind.u8).T)))))))
            (none))
           (none))
          (none))
         (none))
        (none))
       (br (decide ((bt x0 x1) = (46 : Int)))
        (br (inB (IntKind.wrap .i64 ((Nat.cast (List.length x2) : Int) - (1 : Int))) (List.length x2))
         (br (decide ((Int.toNat (IntKind.wrap .i64 ((Nat.cast (List.length x2) : Int) - (1 : Int)))) < (List.length x2)))
          (br (decide (((ByteArray.size (List.getD x2 (Int.toNat (IntKind.wrap .i64 ((Nat.cast (List.length x2) : Int) - (1 : Int)))) (bs []))) + (ByteArray.size (mkStr ((bt x0 x1) :: ([] : List ((Sh.int IntKind.u8).T)))))) < (1099511627776 : Nat)))
           (br (inB (IntKind.wrap .i64 ((Nat.cast (List.length x2) : Int) - (1 : Int))) (List.length x2))
            (br (decide ((Int.toNat (IntKind.wrap .i64 ((Nat.cast (List.length x2) : Int) - (1 : Int)))) < (List.length x2)))
             (nx x0 (IntKind.wrap .i64 (x1 + (1 : Int))) (List.set x2 (Int.toNat (IntKind.wrap .i64 ((Nat.cast (List.length x2) : Int) - (1 : Int)))) ((List.getD x2 (Int.toNat (IntKind.wrap .i64 ((Nat.cast (List.length x2) : Int) - (1 : Int)))) (bs [])) ++ (mkStr ((bt x0 x1) :: ([] : List ((Sh.int IntKind.u8).T)))))))
             (none))
            (none))
           (none))
          (none))
         (none))
        (br (decide ((bt x0 x1) = (95 : Int)))
         (br (inB (IntKind.wrap .i64 ((Nat.cast (List.length x2) : Int) - (1 : Int))) (List.length x2))
          (br (decide ((Int.toNat (IntKind.wrap .i64 ((Nat.cast (List.length x2) : Int) - (1 : Int)))) < (List.length x2)))
           (br (decide (((ByteArray.size (List.getD x2 (Int.toNat (IntKind.wrap .i64 ((Nat.cast (List.length x2) : Int) - (1 : Int)))) (bs []))) + (ByteArray.size (mkStr ((bt x0 x1) :: ([] : List ((Sh.int IntKind.u8).T)))))) < (1099511627776 : Nat)))
            (br (inB (IntKind.wrap .i64 ((Nat.cast (List.length x2) : Int) - (1 : Int))) (List.length x2))
             (br (decide ((Int.toNat (IntKind.wrap .i64 ((Nat.cast (List.length x2) : Int) - (1 : Int)))) < (List.length x2)))
              (nx x0 (IntKind.wrap .i64 (x1 + (1 : Int))) (List.set x2 (Int.toNat (IntKind.wrap .i64 ((Nat.cast (List.length x2) : Int) - (1 : Int)))) ((List.getD x2 (Int.toNat (IntKind.wrap .i64 ((Nat.cast (List.length x2) : Int) - (1 : Int)))) (bs [])) ++ (mkStr ((bt x0 x1) :: ([] : List ((Sh.int IntKind.u8).T)))))))
              (none))
             (none))
            (none))
           (none))
          (none))
         (k0 false x2))))
      (br (decide ((bt x0 x1) = (46 : Int)))
       (br (inB (IntKind.wrap .i64 ((Nat.cast (List.length x2) : Int) - (1 : Int))) (List.length x2))
        (br (decide ((Int.toNat (IntKind.wrap .i64 ((Nat.cast (List.length x2) : Int) - (1 : Int)))) < (List.length x2)))
         (br (decide (((ByteArray.size (List.getD x2 (Int.toNat (IntKind.wrap .i64 ((Nat.cast (List.length x2) : Int) - (1 : Int)))) (bs []))) + (ByteArray.size (mkStr ((bt x0 x1) :: ([] : List ((Sh.int IntKind.u8).T)))))) < (1099511627776 : Nat)))
          (br (inB (IntKind.wrap .i64 ((Nat.cast (List.length x2) : Int) - (1 : Int))) (List.length x2))
           (br (decide ((Int.toNat (IntKind.wrap .i64 ((Nat.cast (List.length x2) : Int) - (1 : Int)))) < (List.length x2)))
            (nx x0 (IntKind.wrap .i64 (x1 + (1 : Int))) (List.set x2 (Int.toNat (IntKind.wrap .i64 ((Nat.cast (List.length x2) : Int) - (1 : Int)))) ((List.getD x2 (Int.toNat (IntKind.wrap .i64 ((Nat.cast (List.length x2) : Int) - (1 : Int)))) (bs [])) ++ (mkStr ((bt x0 x1) :: ([] : List ((Sh.int IntKind.u8).T)))))))
            (none))
           (none))
          (none))
         (none))
        (none))
       (br (decide ((bt x0 x1) = (95 : Int)))
        (br (inB (IntKind.wrap .i64 ((Nat.cast (List.length x2) : Int) - (1 : Int))) (List.length x2))
         (br (decide ((Int.toNat (IntKind.wrap .i64 ((Nat.cast (List.length x2) : Int) - (1 : Int)))) < (List.length x2)))
          (br (decide (((ByteArray.size (List.getD x2 (Int.toNat (IntKind.wrap .i64 ((Nat.cast (List.length x2) : Int) - (1 : Int)))) (bs []))) + (ByteArray.size (mkStr ((bt x0 x1) :: ([] : List ((Sh.int IntKind.u8).T)))))) < (1099511627776 : Nat)))
           (br (inB (IntKind.wrap .i64 ((Nat.cast (List.length x2) : Int) - (1 : Int))) (List.length x2))
            (br (decide ((Int.toNat (IntKind.wrap .i64 ((Nat.cast (List.length x2) : Int) - (1 : Int)))) < (List.length x2)))
             (nx x0 (IntKind.wrap .i64 (x1 + (1 : Int))) (List.set x2 (Int.toNat (IntKind.wrap .i64 ((Nat.cast (List.length x2) : Int) - (1 : Int)))) ((List.getD x2 (Int.toNat (IntKind.wrap .i64 ((Nat.cast (List.length x2) : Int) - (1 : Int)))) (bs [])) ++ (mkStr ((bt x0 x1) :: ([] : List ((Sh.int IntKind.u8).T)))))))
             (none))
            (none))
           (none))
          (none))
         (none))
        (k0 false x2))))))
   (none))
  (k1 x2)
noncomputable def ref12_NameMay_l1_T0 (N : Nat) {R : Type} (nx : (Int) → (List (ByteArray)) → Option R) (k0 : (Bool) → (List (ByteArray)) → Option R) (k1 : (List (ByteArray)) → Option R) (x0 : Int) (x1 : List (ByteArray)) : Option R :=
  br (decide (x0 < (Nat.cast (List.length x1) : Int)))
  (br (inB x0 (List.length x1))
   (br (decide ((Int.toNat x0) < (List.length x1)))
    (br (!(decide ((List.getD x1 (Int.toNat x0) (bs [])) = (bs []))))
     (br (inB x0 (List.length x1))
      (br (decide ((Int.toNat x0) < (List.length x1)))
       (br (!(decide ((List.getD x1 (Int.toNat x0) (bs [])) = (bs [46]))))
        (br (inB x0 (List.length x1))
         (br (decide ((Int.toNat x0) < (List.length x1)))
          (br (decide ((List.getD x1 (Int.toNat x0) (bs [])) = (bs [46, 46])))
           (k0 false x1)
           (nx (IntKind.wrap .i64 (x0 + (1 : Int))) x1))
          (none))
         (none))
        (k0 false x1))
       (none))
      (none))
     (k0 false x1))
    (none))
   (none))
  (k1 x1)
noncomputable def ref12_NameMay_l1 (N : Nat) {R : Type} (k0 : (Bool) → (List (ByteArray)) → Option R) (k1 : (List (ByteArray)) → Option R) : Nat → (Int) → (List (ByteArray)) → Option R
  | 0, _, _ => none
  | n + 1, x0, x1 => ref12_NameMay_l1_T0 N (fun x0 x1 => ref12_NameMay_l1 N k0 k1 n x0 x1) k0 k1 x0 x1
noncomputable def ref12_NameMay_l0 (N : Nat) {R : Type} (k0 : (Bool) → (List (ByteArray)) → Option R) (k1 : (List (ByteArray)) → Option R) : Nat → (ByteArray) → (Int) → (List (ByteArray)) → Option R
  | 0, _, _, _ => none
  | n + 1, x0, x1, x2 => ref12_NameMay_l0_T0 N (@ref12_NameMay_l1 N) (fun x0 x1 x2 => ref12_NameMay_l0 N k0 k1 n x0 x1 x2) k0 k1 x0 x1 x2
noncomputable def ref12_NameMay_T (N : Nat) (w0 : ref12_NameMay_l0_Ty) (w1 : ref12_NameMay_l1_Ty) {R : Type} (x0 : ByteArray) (k0 : (Bool) → Option R) : Option R :=
  br (!(decide ((Nat.cast (ByteArray.size x0) : Int) < (1 : Int))))
  (br (decide ((8 : Int) < (Nat.cast (ByteArray.size x0) : Int)))
   (k0 false)
   (w0
    (fun b330 l331 => k0 b330)
    (fun l332 => w1
     (fun b333 l334 => k0 b333)
     (fun l335 => k0 (decide ((Nat.cast (List.length l335) : Int) ≤ (2 : Int))))
     N (0 : Int) l332)
    N x0 (0 : Int) ((bs []) :: ([] : List (Sh.str.T)))))
  (k0 false)
noncomputable def ref12_NameMay (N : Nat) {R : Type} (x0 : ByteArray) (k0 : (Bool) → Option R) : Option R := ref12_NameMay_T N (@ref12_NameMay_l0 N) (@ref12_NameMay_l1 N) x0 k0
abbrev ref12_Tree_at_7d70_l0_Ty : Type 1 := {R : Type} → ((Int) → (Int) → (List ((ByteArray) × ((Bool) × (Int)))) → Option R) → ((Int) → (List ((ByteArray) × ((Bool) × (Int)))) → Option R) → Nat → (ByteArray) → (Int) → (Int) → (List ((ByteArray) × ((Bool) × (Int)))) → Option R
abbrev ref12_Tree_at_7d70_Ty : Type 1 := {R : Type} → (ByteArray) → (Int) → (List ((ByteArray) × ((Bool) × (Int)))) → ((Int) → (Int) → (List ((ByteArray) × ((Bool) × (Int)))) → Option R) → Option R
noncomputable def ref12_Tree_at_7d70_l0_T0 (N : Nat) {R : Type} (nx : (ByteArray) → (Int) → (Int) → (List ((ByteArray) × ((Bool) × (Int)))) → Option R) (k0 : (Int) → (Int) → (List ((ByteArray) × ((Bool) × (Int)))) → Option R) (k1 : (Int) → (List ((ByteArray) × ((Bool) × (Int)))) → Option R) (x0 : ByteArray) (x1 : Int) (x2 : Int) (x3 : List ((ByteArray) × ((Bool) × (Int)))) : Option R :=
  br (decide (x1 < (Nat.cast (List.length x3) : Int)))
  (br (inB x1 (List.length x3))
   (br (decide ((Int.toNat x1) < (List.length x3)))
    (br (decide ((List.getD x3 (Int.toNat x1) ((bs []) , (false , (0 : Int)))).1 = x0))
     (k0 x1 x2 x3)
     (nx x0 (IntKind.wrap .i64 (x1 + (1 : Int))) x2 x3))
    (none))
   (none))
  (k1 x2 x3)
noncomputable def ref12_Tree_at_7d70_l0 (N : Nat) {R : Type} (k0 : (Int) → (Int) → (List ((ByteArray) × ((Bool) × (Int)))) → Option R) (k1 : (Int) → (List ((ByteArray) × ((Bool) × (Int)))) → Option R) : Nat → (ByteArray) → (Int) → (Int) → (List ((ByteArray) × ((Bool) × (Int)))) → Option R
  | 0, _, _, _, _ => none
  | n + 1, x0, x1, x2, x3 => ref12_Tree_at_7d70_l0_T0 N (fun x0 x1 x2 x3 => ref12_Tree_at_7d70_l0 N k0 k1 n x0 x1 x2 x3) k0 k1 x0 x1 x2 x3
noncomputable def ref12_Tree_at_7d70_T (N : Nat) (w0 : ref12_Tree_at_7d70_l0_Ty) {R : Type} (x0 : ByteArray) (x1 : Int) (x2 : List ((ByteArray) × ((Bool) × (Int)))) (k0 : (Int) → (Int) → (List ((ByteArray) × ((Bool) × (Int)))) → Option R) : Option R :=
  w0
  (fun i337 i338 l339 => k0 i337 i338 l339)
  (fun i340 l341 => k0 (-1 : Int) i340 l341)
  N x0 (0 : Int) x1 x2
noncomputable def ref12_Tree_at_7d70 (N : Nat) {R : Type} (x0 : ByteArray) (x1 : Int) (x2 : List ((ByteArray) × ((Bool) × (Int)))) (k0 : (Int) → (Int) → (List ((ByteArray) × ((Bool) × (Int)))) → Option R) : Option R := ref12_Tree_at_7d70_T N (@ref12_Tree_at_7d70_l0 N) x0 x1 x2 k0
abbrev ref12_Split_l0_Ty : Type 1 := {R : Type} → ((ByteArray) → (ByteArray) → (ByteArray) → Option R) → ((ByteArray) → Option R) → Nat → (ByteArray) → (Int) → Option R
abbrev ref12_Split_Ty : Type 1 := {R : Type} → (ByteArray) → ((ByteArray) → (ByteArray) → Option R) → Option R
noncomputable def ref12_Split_l0_T0 (N : Nat) (c0 : ref12_NameMay_Ty) {R : Type} (nx : (ByteArray) → (Int) → Option R) (k0 : (ByteArray) → (ByteArray) → (ByteArray) → Option R) (k1 : (ByteArray) → Option R) (x0 : ByteArray) (x1 : Int) : Option R :=
  br (decide (x1 < (Nat.cast (ByteArray.size x0) : Int)))
  (br (inB x1 (ByteArray.size x0))
   (br (decide ((bt x0 x1) = (47 : Int)))
    (br (leB x1 (ByteArray.size x0))
     (br (leB (IntKind.wrap .i64 (x1 + (1 : Int))) (ByteArray.size x0))
      (k0 x0 (ByteArray.extract x0 (0 : Nat) (Int.toNat x1)) (ByteArray.extract x0 (Int.toNat (IntKind.wrap .i64 (x1 + (1 : Int)))) (ByteArray.size x0)))
      (none))
     (none))
    (nx x0 (IntKind.wrap .i64 (x1 + (1 : Int)))))
   (none))
  (k1 x0)
noncomputable def ref12_Split_l0 (N : Nat) {R : Type} (k0 : (ByteArray) → (ByteArray) → (ByteArray) → Option R) (k1 : (ByteArray) → Option R) : Nat → (ByteArray) → (Int) → Option R
  | 0, _, _ => none
  | n + 1, x0, x1 => ref12_Split_l0_T0 N (@ref12_NameMay N) (fun x0 x1 => ref12_Split_l0 N k0 k1 n x0 x1) k0 k1 x0 x1
noncomputable def ref12_Split_T (N : Nat) (c0 : ref12_NameMay_Ty) (w0 : ref12_Split_l0_Ty) {R : Type} (x0 : ByteArray) (k0 : (ByteArray) → (ByteArray) → Option R) : Option R :=
  c0 x0
  (fun b345 => br (!b345)
   (k0 (bs []) (bs []))
   (w0
    (fun s346 s347 s348 => k0 s347 s348)
    (fun s349 => k0 (bs []) s349)
    N x0 (0 : Int)))
noncomputable def ref12_Split (N : Nat) {R : Type} (x0 : ByteArray) (k0 : (ByteArray) → (ByteArray) → Option R) : Option R := ref12_Split_T N (@ref12_NameMay N) (@ref12_Split_l0 N) x0 k0
abbrev ref12_NewTree_l0_Ty : Type 1 := {R : Type} → ((List ((ByteArray) × ((Bool) × (Int)))) → (Int) → (Int) → (List ((ByteArray) × ((Bool) × (Int)))) → Option R) → ((List ((ByteArray) × ((Bool) × (Int)))) → (Int) → (List ((ByteArray) × ((Bool) × (Int)))) → Option R) → Nat → (List ((ByteArray) × ((Bool) × (Int)))) → (Int) → (Int) → (List ((ByteArray) × ((Bool) × (Int)))) → Option R
abbrev ref12_NewTree_Ty : Type 1 := {R : Type} → (List ((ByteArray) × ((Bool) × (Int)))) → ((Int) → Option R) → ((Int) → (Int) → (List ((ByteArray) × ((Bool) × (Int)))) → Option R) → Option R
noncomputable def ref12_NewTree_l0_T0 (N : Nat) (c0 : ref12_Split_Ty) (c1 : ref12_Tree_at_7d70_Ty) (c2 : ref12_NameMay_Ty) {R : Type} (nx : (List ((ByteArray) × ((Bool) × (Int)))) → (Int) → (Int) → (List ((ByteArray) × ((Bool) × (Int)))) → Option R) (k0 : (List ((ByteArray) × ((Bool) × (Int)))) → (Int) → (Int) → (List ((ByteArray) × ((Bool) × (Int)))) → Option R) (k1 : (List ((ByteArray) × ((Bool) × (Int)))) → (Int) → (List ((ByteArray) × ((Bool) × (Int)))) → Option R) (x0 : List ((ByteArray) × ((Bool) × (Int)))) (x1 : Int) (x2 : Int) (x3 : List ((ByteArray) × ((Bool) × (Int)))) : Option R :=
  br (decide (x1 < (Nat.cast (List.length x0) : Int)))
  (br (inB x1 (List.length x0))
   (c2 (List.getD x0 (Int.toNat x1) ((bs []) , (false , (0 : Int)))).1
    (fun b336 => br (!(!b336))
     (br (inB x1 (List.length x0))
      (c1 (List.getD x0 (Int.toNat x1) ((bs []) , (false , (0 : Int)))).1 x2 x3
       (fun i342 i343 l344 => br (decide ((0 : Int) ≤ i342))
        (k0 x0 (11 : Int) i343 l344)
        (br (inB x1 (List.length x0))
         (c0 (List.getD x0 (Int.toNat x1) ((bs []) , (false , (0 : Int)))).1
          (fun s350 s351 => br (!(decide (s350 = (bs []))))
           (br (inB x1 (List.length x0))
            (br (!(List.getD x0 (Int.toNat x1) ((bs []) , (false , (0 : Int)))).2.1)
             (c1 s350 i343 l344
              (fun i352 i353 l354 => br (!(decide (i352 < (0 : Int))))
               (c1 s350 i353 l354
                (fun i355 i356 l357 => br (inB i355 (List.length l357))
                 (br (decide ((Int.toNat i355) < (List.length l357)))
                  (br (!(List.getD l357 (Int.toNat i355) ((bs []) , (false , (0 : Int)))).2.1)
                   (k0 x0 (11 : Int) i356 l357)
                   (br (inB x1 (List.length x0))
                    (br (inB x1 (List.length x0))
                     (br (((fits (0 : Nat) (List.length l357) l357) && (decide ((((List.length l357) + (1 : Nat)) * (32 : Nat)) ≤ (70368744177664 : Nat)))) && true)
                      (nx x0 (IntKind.wrap .i64 (x1 + (1 : Int))) i356 ((sub l357 (0 : Nat) (List.length l357)) ++ (((List.getD x0 (Int.toNat x1) ((bs []) , (false , (0 : Int)))).1 , ((List.getD x0 (Int.toNat x1) ((bs []) , (false , (0 : Int)))).2.1 , x1)) :: ([] : List ((Sh.str.pair (Sh.bool.pair (Sh.int IntKind.i64))).T)))))
                      (none))
                     (none))
                    (none)))
                  (none))
                 (none)))
               (k0 x0 (11 : Int) i353 l354)))
             (k0 x0 (11 : Int) i343 l344))
            (none))
           (br (inB x1 (List.length x0))
            (br (inB x1 (List.length x0))
             (br (((fits (0 : Nat) (List.length l344) l344) && (decide ((((List.length l344) + (1 : Nat)) * (32 : Nat)) ≤ (70368744177664 : Nat)))) && true)
              (nx x0 (IntKind.wrap .i64 (x1 + (1 : Int))) i343 ((sub l344 (0 : Nat) (List.length l344)) ++ (((List.getD x0 (Int.toNat x1) ((bs []) , (false , (0 : Int)))).1 , ((List.getD x0 (Int.toNat x1) ((bs []) , (false , (0 : Int)))).2.1 , x1)) :: ([] : List ((Sh.str.pair (Sh.bool.pair (Sh.int IntKind.i64))).T)))))
              (none))
             (none))
            (none))))
         (none))))
      (none))
     (k0 x0 (11 : Int) x2 x3)))
   (none))
  (k1 x0 x2 x3)
noncomputable def ref12_NewTree_l0 (N : Nat) {R : Type} (k0 : (List ((ByteArray) × ((Bool) × (Int)))) → (Int) → (Int) → (List ((ByteArray) × ((Bool) × (Int)))) → Option R) (k1 : (List ((ByteArray) × ((Bool) × (Int)))) → (Int) → (List ((ByteArray) × ((Bool) × (Int)))) → Option R) : Nat → (List ((ByteArray) × ((Bool) × (Int)))) → (Int) → (Int) → (List ((ByteArray) × ((Bool) × (Int)))) → Option R
  | 0, _, _, _, _ => none
  | n + 1, x0, x1, x2, x3 => ref12_NewTree_l0_T0 N (@ref12_Split N) (@ref12_Tree_at_7d70 N) (@ref12_NameMay N) (fun x0 x1 x2 x3 => ref12_NewTree_l0 N k0 k1 n x0 x1 x2 x3) k0 k1 x0 x1 x2 x3
noncomputable def ref12_NewTree_T (N : Nat) (c0 : ref12_Split_Ty) (c1 : ref12_Tree_at_7d70_Ty) (c2 : ref12_NameMay_Ty) (w0 : ref12_NewTree_l0_Ty) {R : Type} (x0 : List ((ByteArray) × ((Bool) × (Int)))) (k0 : (Int) → Option R) (k1 : (Int) → (Int) → (List ((ByteArray) × ((Bool) × (Int)))) → Option R) : Option R :=
  br (decide ((8 : Int) < (Nat.cast (List.length x0) : Int)))
  (k0 (11 : Int))
  (w0
   (fun l358 i359 i360 l361 => k0 i359)
   (fun l362 i363 l364 => k1 (0 : Int) (Nat.cast (List.length l362) : Int) l364)
   N x0 (0 : Int) (0 : Int) ([] : List ((Sh.str.pair (Sh.bool.pair (Sh.int IntKind.i64))).T)))
noncomputable def ref12_NewTree (N : Nat) {R : Type} (x0 : List ((ByteArray) × ((Bool) × (Int)))) (k0 : (Int) → Option R) (k1 : (Int) → (Int) → (List ((ByteArray) × ((Bool) × (Int)))) → Option R) : Option R := ref12_NewTree_T N (@ref12_Split N) (@ref12_Tree_at_7d70 N) (@ref12_NameMay N) (@ref12_NewTree_l0 N) x0 k0 k1
abbrev ref17_Caps_l0_Ty : Type 1 := {R : Type} → ((List ((ByteArray) × ((Bool) × (Int)))) → (List (Int)) → (Int) → (Int) → (Int) → (List (Int)) → Option R) → Nat → (Int) → (List ((ByteArray) × ((Bool) × (Int)))) → (List (Int)) → (Int) → (Int) → (Int) → (List (Int)) → Option R
abbrev ref17_Caps_Ty : Type 1 := {R : Type} → (List ((ByteArray) × ((Bool) × (Int)))) → (List (Int)) → (Int) → (Int) → (Int) → ((List (Int)) → Option R) → Option R
noncomputable def ref17_Caps_l0_T0 (N : Nat) {R : Type} (nx : (Int) → (List ((ByteArray) × ((Bool) × (Int)))) → (List (Int)) → (Int) → (Int) → (Int) → (List (Int)) → Option R) (k0 : (List ((ByteArray) × ((Bool) × (Int)))) → (List (Int)) → (Int) → (Int) → (Int) → (List (Int)) → Option R) (x0 : Int) (x1 : List ((ByteArray) × ((Bool) × (Int)))) (x2 : List (Int)) (x3 : Int) (x4 : Int) (x5 : Int) (x6 : List (Int)) : Option R :=
  br (decide (x0 < (Nat.cast (List.length x1) : Int)))
  (br (inB x0 (List.length x1))
   (br (!(List.getD x1 (Int.toNat x0) ((bs []) , (false , (0 : Int)))).2.1)
    (br (inB x0 (List.length x1))
     (br (((fits (0 : Nat) (List.length x6) x6) && (decide ((((List.length x6) + (1 : Nat)) * (8 : Nat)) ≤ (70368744177664 : Nat)))) && true)
      (nx (IntKind.wrap .i64 (x0 + (1 : Int))) x1 x2 x3 x4 x5 ((sub x6 (0 : Nat) (List.length x6)) ++ ((List.getD x1 (Int.toNat x0) ((bs []) , (false , (0 : Int)))).2.2 :: ([] : List ((Sh.int IntKind.i64).T)))))
      (none))
     (none))
    (nx (IntKind.wrap .i64 (x0 + (1 : Int))) x1 x2 x3 x4 x5 x6))
   (none))
  (k0 x1 x2 x3 x4 x5 x6)
noncomputable def ref17_Caps_l0 (N : Nat) {R : Type} (k0 : (List ((ByteArray) × ((Bool) × (Int)))) → (List (Int)) → (Int) → (Int) → (Int) → (List (Int)) → Option R) : Nat → (Int) → (List ((ByteArray) × ((Bool) × (Int)))) → (List (Int)) → (Int) → (Int) → (Int) → (List (Int)) → Option R
  | 0, _, _, _, _, _, _, _ => none
  | n + 1, x0, x1, x2, x3, x4, x5, x6 => ref17_Caps_l0_T0 N (fun x0 x1 x2 x3 x4 x5 x6 => ref17_Caps_l0 N k0 n x0 x1 x2 x3 x4 x5 x6) k0 x0 x1 x2 x3 x4 x5 x6
noncomputable def ref17_Caps_T (N : Nat) (w0 : ref17_Caps_l0_Ty) {R : Type} (x0 : List ((ByteArray) × ((Bool) × (Int)))) (x1 : List (Int)) (x2 : Int) (x3 : Int) (x4 : Int) (k0 : (List (Int)) → Option R) : Option R :=
  w0
  (fun l366 l367 i368 i369 i370 l371 => br (((fits (0 : Nat) (List.length l371) l371) && (decide ((((List.length l371) + (List.length l367)) * (8 : Nat)) ≤ (70368744177664 : Nat)))) && true)
   (k0 ((sub l371 (0 : Nat) (List.length l371)) ++ l367))
   (none))
  N (0 : Int) x0 x1 x2 x3 x4 ([] : List ((Sh.int IntKind.i64).T))
noncomputable def ref17_Caps (N : Nat) {R : Type} (x0 : List ((ByteArray) × ((Bool) × (Int)))) (x1 : List (Int)) (x2 : Int) (x3 : Int) (x4 : Int) (k0 : (List (Int)) → Option R) : Option R := ref17_Caps_T N (@ref17_Caps_l0 N) x0 x1 x2 x3 x4 k0
abbrev ref17_files_Ty : Type 1 := {R : Type} → (List ((ByteArray) × ((Bool) × (Int)))) → (List (Int)) → (Int) → (Int) → (Int) → ((Int) → Option R) → Option R
noncomputable def ref17_files_T (N : Nat) (c0 : ref17_Caps_Ty) {R : Type} (x0 : List ((ByteArray) × ((Bool) × (Int)))) (x1 : List (Int)) (x2 : Int) (x3 : Int) (x4 : Int) (k0 : (Int) → Option R) : Option R :=
  c0 x0 x1 x2 x3 x4
  (fun l372 => br (listDec (Sh.dec (.int .i64)) x1 x1)
   (br (decide ((Nat.cast (List.length x1) : Int) = (Nat.cast (List.length x1) : Int)))
    (k0 (IntKind.wrap .i64 ((Nat.cast (List.length l372) : Int) - (Nat.cast (List.length x1) : Int))))
    (none))
   (none))
noncomputable def ref17_files (N : Nat) {R : Type} (x0 : List ((ByteArray) × ((Bool) × (Int)))) (x1 : List (Int)) (x2 : Int) (x3 : Int) (x4 : Int) (k0 : (Int) → Option R) : Option R := ref17_files_T N (@ref17_Caps N) x0 x1 x2 x3 x4 k0
abbrev ref17_May_l0_Ty : Type 1 := {R : Type} → ((Bool) → (List ((ByteArray) × ((Bool) × (Int)))) → (List (Int)) → (Int) → (Int) → (Int) → Option R) → ((List ((ByteArray) × ((Bool) × (Int)))) → (List (Int)) → (Int) → (Int) → (Int) → Option R) → Nat → (Int) → (List ((ByteArray) × ((Bool) × (Int)))) → (List (Int)) → (Int) → (Int) → (Int) → Option R
abbrev ref17_May_l1_Ty : Type 1 := {R : Type} → ((Bool) → Option R) → (Option R) → Nat → (Int) → (List (Int)) → Option R
abbrev ref17_May_Ty : Type 1 := {R : Type} → (List ((ByteArray) × ((Bool) × (Int)))) → (List (Int)) → (Int) → (Int) → (Int) → ((Bool) → Option R) → Option R
noncomputable def ref17_May_l0_T0 (N : Nat) (c0 : ref17_Caps_Ty) (c1 : ref17_files_Ty) (c2 : ref12_NewTree_Ty) (w1 : ref17_May_l1_Ty) {R : Type} (nx : (Int) → (List ((ByteArray) × ((Bool) × (Int)))) → (List (Int)) → (Int) → (Int) → (Int) → Option R) (k0 : (Bool) → (List ((ByteArray) × ((Bool) × (Int)))) → (List (Int)) → (Int) → (Int) → (Int) → Option R) (k1 : (List ((ByteArray) × ((Bool) × (Int)))) → (List (Int)) → (Int) → (Int) → (Int) → Option R) (x0 : Int) (x1 : List ((ByteArray) × ((Bool) × (Int)))) (x2 : List (Int)) (x3 : Int) (x4 : Int) (x5 : Int) : Option R :=
  br (decide (x0 < (Nat.cast (List.length x1) : Int)))
  (br (inB x0 (List.length x1))
   (br (List.getD x1 (Int.toNat x0) ((bs []) , (false , (0 : Int)))).2.1
    (br (inB x0 (List.length x1))
     (br (!(decide ((List.getD x1 (Int.toNat x0) ((bs []) , (false , (0 : Int)))).2.2 = (0 : Int))))
      (k0 false x1 x2 x3 x4 x5)
      (nx (IntKind.wrap .i64 (x0 + (1 : Int))) x1 x2 x3 x4 x5))
     (none))
    (nx (IntKind.wrap .i64 (x0 + (1 : Int))) x1 x2 x3 x4 x5))
   (none))
  (k1 x1 x2 x3 x4 x5)
noncomputable def ref17_May_l1_T0 (N : Nat) (c0 : ref17_Caps_Ty) (c1 : ref17_files_Ty) (c2 : ref12_NewTree_Ty) {R : Type} (nx : (Int) → (List (Int)) → Option R) (k0 : (Bool) → Option R) (k1 : Option R) (x0 : Int) (x1 : List (Int)) : Option R :=
  br (decide (x0 < (Nat.cast (List.length x1) : Int)))
  (br (inB x0 (List.length x1))
   (br (decide ((Int.toNat x0) < (List.length x1)))
    (br (!(decide ((List.getD x1 (Int.toNat x0) (0 : Int)) < (0 : Int))))
     (br (inB x0 (List.length x1))
      (br (decide ((Int.toNat x0) < (List.length x1)))
       (br (decide ((3 : Int) < (List.getD x1 (Int.toNat x0) (0 : Int))))
        (k0 false)
        (nx (IntKind.wrap .i64 (x0 + (1 : Int))) x1))
       (none))
      (none))
     (k0 false))
    (none))
   (none))
  (k1)
noncomputable def ref17_May_l1 (N : Nat) {R : Type} (k0 : (Bool) → Option R) (k1 : Option R) : Nat → (Int) → (List (Int)) → Option R
  | 0, _, _ => none
  | n + 1, x0, x1 => ref17_May_l1_T0 N (@ref17_Caps N) (@ref17_files N) (@ref12_NewTree N) (fun x0 x1 => ref17_May_l1 N k0 k1 n x0 x1) k0 k1 x0 x1
noncomputable def ref17_May_l0 (N : Nat) {R : Type} (k0 : (Bool) → (List ((ByteArray) × ((Bool) × (Int)))) → (List (Int)) → (Int) → (Int) → (Int) → Option R) (k1 : (List ((ByteArray) × ((Bool) × (Int)))) → (List (Int)) → (Int) → (Int) → (Int) → Option R) : Nat → (Int) → (List ((ByteArray) × ((Bool) × (Int)))) → (List (Int)) → (Int) → (Int) → (Int) → Option R
  | 0, _, _, _, _, _, _ => none
  | n + 1, x0, x1, x2, x3, x4, x5 => ref17_May_l0_T0 N (@ref17_Caps N) (@ref17_files N) (@ref12_NewTree N) (@ref17_May_l1 N) (fun x0 x1 x2 x3 x4 x5 => ref17_May_l0 N k0 k1 n x0 x1 x2 x3 x4 x5) k0 k1 x0 x1 x2 x3 x4 x5
noncomputable def ref17_May_T (N : Nat) (c0 : ref17_Caps_Ty) (c1 : ref17_files_Ty) (c2 : ref12_NewTree_Ty) (w0 : ref17_May_l0_Ty) (w1 : ref17_May_l1_Ty) {R : Type} (x0 : List ((ByteArray) × ((Bool) × (Int)))) (x1 : List (Int)) (x2 : Int) (x3 : Int) (x4 : Int) (k0 : (Bool) → Option R) : Option R :=
  c2 x0
  (fun i365 => br (!(!(decide (i365 = (0 : Int)))))
   (c1 x0 x1 x2 x3 x4
    (fun i373 => br (!(decide ((4 : Int) < i373)))
     (br (!(decide ((2 : Int) < (Nat.cast (List.length x1) : Int))))
      (br (!(decide (x2 < (0 : Int))))
       (br (!(decide ((6 : Int) < x2)))
        (br (!(decide (x3 < (0 : Int))))
         (br (!(decide (x2 < x3)))
          (br (!(decide (x4 < (0 : Int))))
           (br (decide ((400 : Int) < x4))
            (k0 false)
            (w0
             (fun b374 l375 l376 i377 i378 i379 => k0 b374)
             (fun l380 l381 i382 i383 i384 => c0 l380 l381 i382 i383 i384
              (fun l385 => w1
               (fun b386 => k0 b386)
               (k0 true)
               N (0 : Int) l385))
             N (0 : Int) x0 x1 x2 x3 x4))
           (k0 false))
          (k0 false))
         (k0 false))
        (k0 false))
       (k0 false))
      (k0 false))
     (k0 false)))
   (k0 false))
  (fun i387 i388 l389 => br (!(!(decide (i387 = (0 : Int)))))
   (c1 x0 x1 x2 x3 x4
    (fun i390 => br (!(decide ((4 : Int) < i390)))
     (br (!(decide ((2 : Int) < (Nat.cast (List.length x1) : Int))))
      (br (!(decide (x2 < (0 : Int))))
       (br (!(decide ((6 : Int) < x2)))
        (br (!(decide (x3 < (0 : Int))))
         (br (!(decide (x2 < x3)))
          (br (!(decide (x4 < (0 : Int))))
           (br (decide ((400 : Int) < x4))
            (k0 false)
            (w0
             (fun b391 l392 l393 i394 i395 i396 => k0 b391)
             (fun l397 l398 i399 i400 i401 => c0 l397 l398 i399 i400 i401
              (fun l402 => w1
               (fun b403 => k0 b403)
               (k0 true)
               N (0 : Int) l402))
             N (0 : Int) x0 x1 x2 x3 x4))
           (k0 false))
          (k0 false))
         (k0 false))
        (k0 false))
       (k0 false))
      (k0 false))
     (k0 false)))
   (k0 false))
noncomputable def ref17_May (N : Nat) {R : Type} (x0 : List ((ByteArray) × ((Bool) × (Int)))) (x1 : List (Int)) (x2 : Int) (x3 : Int) (x4 : Int) (k0 : (Bool) → Option R) : Option R := ref17_May_T N (@ref17_Caps N) (@ref17_files N) (@ref12_NewTree N) (@ref17_May_l0 N) (@ref17_May_l1 N) x0 x1 x2 x3 x4 k0
abbrev ref17_texts_l0_Ty : Type 1 := {R : Type} → ((Int) → Option R) → Nat → (Int) → (Int) → (Int) → (Int) → Option R
abbrev ref17_texts_Ty : Type 1 := {R : Type} → (Int) → ((Int) → Option R) → Option R
noncomputable def ref17_texts_l0_T0 (N : Nat) {R : Type} (nx : (Int) → (Int) → (Int) → (Int) → Option R) (k0 : (Int) → Option R) (x0 : Int) (x1 : Int) (x2 : Int) (x3 : Int) : Option R :=
  br (decide (x3 < x0))
  (nx x0 (IntKind.wrap .i64 (x1 + (IntKind.wrap .i64 (x2 * (256 : Int))))) (IntKind.wrap .i64 (x2 * (256 : Int))) (IntKind.wrap .i64 (x3 + (1 : Int))))
  (k0 x1)
noncomputable def ref17_texts_l0 (N : Nat) {R : Type} (k0 : (Int) → Option R) : Nat → (Int) → (Int) → (Int) → (Int) → Option R
  | 0, _, _, _, _ => none
  | n + 1, x0, x1, x2, x3 => ref17_texts_l0_T0 N (fun x0 x1 x2 x3 => ref17_texts_l0 N k0 n x0 x1 x2 x3) k0 x0 x1 x2 x3
noncomputable def ref17_texts_T (N : Nat) (w0 : ref17_texts_l0_Ty) {R : Type} (x0 : Int) (k0 : (Int) → Option R) : Option R :=
  w0
  (fun i414 => k0 i414)
  N x0 (1 : Int) (1 : Int) (0 : Int)
noncomputable def ref17_texts (N : Nat) {R : Type} (x0 : Int) (k0 : (Int) → Option R) : Option R := ref17_texts_T N (@ref17_texts_l0 N) x0 k0
abbrev ref17_text_l0_Ty : Type 1 := {R : Type} → ((Int) → (Int) → Option R) → Nat → (Int) → (Int) → (Int) → Option R
abbrev ref17_text_l1_Ty : Type 1 := {R : Type} → ((List (Int)) → Option R) → Nat → (Int) → (Int) → (List (Int)) → Option R
abbrev ref17_text_Ty : Type 1 := {R : Type} → (Int) → ((List (Int)) → Option R) → Option R
noncomputable def ref17_text_l0_T0 (N : Nat) (w1 : ref17_text_l1_Ty) {R : Type} (nx : (Int) → (Int) → (Int) → Option R) (k0 : (Int) → (Int) → Option R) (x0 : Int) (x1 : Int) (x2 : Int) : Option R :=
  br (decide (x2 ≤ x0))
  (nx (IntKind.wrap .i64 (x0 - x2)) (IntKind.wrap .i64 (x1 + (1 : Int))) (IntKind.wrap .i64 (x2 * (256 : Int))))
  (k0 x0 x1)
noncomputable def ref17_text_l1_T0 (N : Nat) {R : Type} (nx : (Int) → (Int) → (List (Int)) → Option R) (k0 : (List (Int)) → Option R) (x0 : Int) (x1 : Int) (x2 : List (Int)) : Option R :=
  br (decide ((0 : Int) ≤ x1))
  (br (inB x1 (List.length x2))
   (br (decide ((Int.toNat x1) < (List.length x2)))
    (nx (IntKind.wrap .i64 (Int.tdiv x0 (256 : Int))) (IntKind.wrap .i64 (x1 - (1 : Int))) (List.set x2 (Int.toNat x1) (IntKind.wrap .u8 x0)))
    (none))
   (none))
  (k0 x2)
noncomputable def ref17_text_l1 (N : Nat) {R : Type} (k0 : (List (Int)) → Option R) : Nat → (Int) → (Int) → (List (Int)) → Option R
  | 0, _, _, _ => none
  | n + 1, x0, x1, x2 => ref17_text_l1_T0 N (fun x0 x1 x2 => ref17_text_l1 N k0 n x0 x1 x2) k0 x0 x1 x2
noncomputable def ref17_text_l0 (N : Nat) {R : Type} (k0 : (Int) → (Int) → Option R) : Nat → (Int) → (Int) → (Int) → Option R
  | 0, _, _, _ => none
  | n + 1, x0, x1, x2 => ref17_text_l0_T0 N (@ref17_text_l1 N) (fun x0 x1 x2 => ref17_text_l0 N k0 n x0 x1 x2) k0 x0 x1 x2
noncomputable def ref17_text_T (N : Nat) (w0 : ref17_text_l0_Ty) (w1 : ref17_text_l1_Ty) {R : Type} (x0 : Int) (k0 : (List (Int)) → Option R) : Option R :=
  w0
  (fun i421 i422 => br ((((decide ((0 : Int) ≤ i422)) && (decide (i422 ≤ i422))) && (decide ((i422 * (1 : Int)) ≤ ((2 : Int) ^ (46 : Nat))))) && true)
   (w1
    (fun l423 => k0 l423)
    N i421 (IntKind.wrap .i64 (i422 - (1 : Int))) (List.replicate (Int.toNat i422) (0 : Int)))
   (none))
  N x0 (0 : Int) (1 : Int)
noncomputable def ref17_text (N : Nat) {R : Type} (x0 : Int) (k0 : (List (Int)) → Option R) : Option R := ref17_text_T N (@ref17_text_l0 N) (@ref17_text_l1 N) x0 k0
abbrev law17_Small_l0_Ty : Type 1 := {R : Type} → ((Int) → (List ((ByteArray) × ((Bool) × (Int)))) → (List (Int)) → (Int) → (Int) → (Int) → Option R) → Nat → (Int) → (Int) → (List ((ByteArray) × ((Bool) × (Int)))) → (List (Int)) → (Int) → (Int) → (Int) → Option R
abbrev law17_Small_Ty : Type 1 := {R : Type} → (List ((ByteArray) × ((Bool) × (Int)))) → (List (Int)) → (Int) → (Int) → (Int) → ((Bool) → Option R) → Option R
noncomputable def law17_Small_l0_T0 (N : Nat) {R : Type} (nx : (Int) → (Int) → (List ((ByteArray) × ((Bool) × (Int)))) → (List (Int)) → (Int) → (Int) → (Int) → Option R) (k0 : (Int) → (List ((ByteArray) × ((Bool) × (Int)))) → (List (Int)) → (Int) → (Int) → (Int) → Option R) (x0 : Int) (x1 : Int) (x2 : List ((ByteArray) × ((Bool) × (Int)))) (x3 : List (Int)) (x4 : Int) (x5 : Int) (x6 : Int) : Option R :=
  br (decide (x1 < (Nat.cast (List.length x2) : Int)))
  (br (inB x1 (List.length x2))
   (nx (IntKind.wrap .i64 (x0 + (Nat.cast (ByteArray.size (List.getD x2 (Int.toNat x1) ((bs []) , (false , (0 : Int)))).1) : Int))) (IntKind.wrap .i64 (x1 + (1 : Int))) x2 x3 x4 x5 x6)
   (none))
  (k0 x0 x2 x3 x4 x5 x6)
noncomputable def law17_Small_l0 (N : Nat) {R : Type} (k0 : (Int) → (List ((ByteArray) × ((Bool) × (Int)))) → (List (Int)) → (Int) → (Int) → (Int) → Option R) : Nat → (Int) → (Int) → (List ((ByteArray) × ((Bool) × (Int)))) → (List (Int)) → (Int) → (Int) → (Int) → Option R
  | 0, _, _, _, _, _, _, _ => none
  | n + 1, x0, x1, x2, x3, x4, x5, x6 => law17_Small_l0_T0 N (fun x0 x1 x2 x3 x4 x5 x6 => law17_Small_l0 N k0 n x0 x1 x2 x3 x4 x5 x6) k0 x0 x1 x2 x3 x4 x5 x6
noncomputable def law17_Small_T (N : Nat) (w0 : law17_Small_l0_Ty) {R : Type} (x0 : List ((ByteArray) × ((Bool) × (Int)))) (x1 : List (Int)) (x2 : Int) (x3 : Int) (x4 : Int) (k0 : (Bool) → Option R) : Option R :=
  w0
  (fun i466 l467 l468 i469 i470 i471 => br (decide ((Nat.cast (List.length l467) : Int) ≤ (60 : Int)))
   (br (decide (i466 ≤ (2000 : Int)))
    (k0 (decide ((Nat.cast (List.length l468) : Int) ≤ (60 : Int))))
    (k0 false))
   (k0 false))
  N (0 : Int) (0 : Int) x0 x1 x2 x3 x4
noncomputable def law17_Small (N : Nat) {R : Type} (x0 : List ((ByteArray) × ((Bool) × (Int)))) (x1 : List (Int)) (x2 : Int) (x3 : Int) (x4 : Int) (k0 : (Bool) → Option R) : Option R := law17_Small_T N (@law17_Small_l0 N) x0 x1 x2 x3 x4 k0
abbrev ref17_rows_l0_Ty : Type 1 := {R : Type} → ((Int) → (Int) → (List (List (Bool))) → Option R) → Nat → (Int) → (Int) → (Int) → (List (List (Bool))) → (List (List (Bool))) → Option R
abbrev ref17_rows_l1_Ty : Type 1 := {R : Type} → ((List (List (Bool))) → Option R) → Nat → (Int) → (List (List (Bool))) → (List (List (Bool))) → Option R
abbrev ref17_rows_Ty : Type 1 := {R : Type} → (Int) → (Int) → ((List (List (Bool))) → Option R) → Option R
noncomputable def ref17_rows_l0_T0 (N : Nat) (c0 : ref17_rows_Ty) (w1 : ref17_rows_l1_Ty) {R : Type} (nx : (Int) → (Int) → (Int) → (List (List (Bool))) → (List (List (Bool))) → Option R) (k0 : (Int) → (Int) → (List (List (Bool))) → Option R) (x0 : Int) (x1 : Int) (x2 : Int) (x3 : List (List (Bool))) (x4 : List (List (Bool))) : Option R :=
  br (decide (x2 < (Nat.cast (List.length x4) : Int)))
  (br (inB x2 (List.length x4))
   (br (decide ((Int.toNat x2) < (List.length x4)))
    (br ((decide ((((1 : Nat) + (List.length (List.getD x4 (Int.toNat x2) (Sh.zero (.isl .bool))))) * (1 : Nat)) ≤ (70368744177664 : Nat))) && true)
     (br (fits (0 : Nat) ((1 : Nat) + (List.length (List.getD x4 (Int.toNat x2) (Sh.zero (.isl .bool))))) ((false :: ([] : List (Sh.bool.T))) ++ (List.getD x4 (Int.toNat x2) (Sh.zero (.isl .bool)))))
      (br (((fits (0 : Nat) (List.length x3) x3) && (decide ((((List.length x3) + (1 : Nat)) * (24 : Nat)) ≤ (70368744177664 : Nat)))) && true)
       (nx x0 x1 (IntKind.wrap .i64 (x2 + (1 : Int))) ((sub x3 (0 : Nat) (List.length x3)) ++ ((sub ((false :: ([] : List (Sh.bool.T))) ++ (List.getD x4 (Int.toNat x2) (Sh.zero (.isl .bool)))) (0 : Nat) ((1 : Nat) + (List.length (List.getD x4 (Int.toNat x2) (Sh.zero (.isl .bool)))))) :: ([] : List (Sh.bool.isl.T)))) x4)
       (none))
      (none))
     (none))
    (none))
   (none))
  (k0 x0 x1 x3)
noncomputable def ref17_rows_l1_T0 (N : Nat) (c0 : ref17_rows_Ty) {R : Type} (nx : (Int) → (List (List (Bool))) → (List (List (Bool))) → Option R) (k0 : (List (List (Bool))) → Option R) (x0 : Int) (x1 : List (List (Bool))) (x2 : List (List (Bool))) : Option R :=
  br (decide (x0 < (Nat.cast (List.length x2) : Int)))
  (br (inB x0 (List.length x2))
   (br (decide ((Int.toNat x0) < (List.length x2)))
    (br ((decide ((((1 : Nat) + (List.length (List.getD x2 (Int.toNat x0) (Sh.zero (.isl .bool))))) * (1 : Nat)) ≤ (70368744177664 : Nat))) && true)
     (br (fits (0 : Nat) ((1 : Nat) + (List.length (List.getD x2 (Int.toNat x0) (Sh.zero (.isl .bool))))) ((true :: ([] : List (Sh.bool.T))) ++ (List.getD x2 (Int.toNat x0) (Sh.zero (.isl .bool)))))
      (br (((fits (0 : Nat) (List.length x1) x1) && (decide ((((List.length x1) + (1 : Nat)) * (24 : Nat)) ≤ (70368744177664 : Nat)))) && true)
       (nx (IntKind.wrap .i64 (x0 + (1 : Int))) ((sub x1 (0 : Nat) (List.length x1)) ++ ((sub ((true :: ([] : List (Sh.bool.T))) ++ (List.getD x2 (Int.toNat x0) (Sh.zero (.isl .bool)))) (0 : Nat) ((1 : Nat) + (List.length (List.getD x2 (Int.toNat x0) (Sh.zero (.isl .bool)))))) :: ([] : List (Sh.bool.isl.T)))) x2)
       (none))
      (none))
     (none))
    (none))
   (none))
  (k0 x1)
noncomputable def ref17_rows_l1 (N : Nat) (c0 : ref17_rows_Ty) {R : Type} (k0 : (List (List (Bool))) → Option R) : Nat → (Int) → (List (List (Bool))) → (List (List (Bool))) → Option R
  | 0, _, _, _ => none
  | n + 1, x0, x1, x2 => ref17_rows_l1_T0 N @c0 (fun x0 x1 x2 => ref17_rows_l1 N c0 k0 n x0 x1 x2) k0 x0 x1 x2
noncomputable def ref17_rows_l0 (N : Nat) (c0 : ref17_rows_Ty) {R : Type} (k0 : (Int) → (Int) → (List (List (Bool))) → Option R) : Nat → (Int) → (Int) → (Int) → (List (List (Bool))) → (List (List (Bool))) → Option R
  | 0, _, _, _, _, _ => none
  | n + 1, x0, x1, x2, x3, x4 => ref17_rows_l0_T0 N @c0 (@ref17_rows_l1 N @c0) (fun x0 x1 x2 x3 x4 => ref17_rows_l0 N c0 k0 n x0 x1 x2 x3 x4) k0 x0 x1 x2 x3 x4
noncomputable def ref17_rows_T (N : Nat) (c0 : ref17_rows_Ty) (w0 : ref17_rows_l0_Ty) (w1 : ref17_rows_l1_Ty) {R : Type} (x0 : Int) (x1 : Int) (k0 : (List (List (Bool))) → Option R) : Option R :=
  br (decide (x0 = (0 : Int)))
  (k0 (([] : List (Sh.bool.T)) :: ([] : List (Sh.bool.isl.T))))
  (c0 (IntKind.wrap .i64 (x0 - (1 : Int))) x1
   (fun l406 => w0
    (fun i407 i408 l409 => br (decide ((0 : Int) < i408))
     (c0 (IntKind.wrap .i64 (i407 - (1 : Int))) (IntKind.wrap .i64 (i408 - (1 : Int)))
      (fun l410 => w1
       (fun l411 => k0 l411)
       N (0 : Int) l409 l410))
     (k0 l409))
    N x0 x1 (0 : Int) ([] : List (Sh.bool.isl.T)) l406))
structure G_ref17_rows_Rec : Type 1 where
  ref17_rows : ref17_rows_Ty
noncomputable def G_ref17_rows_rec (N : Nat) : Nat → G_ref17_rows_Rec
  | 0 => ⟨fun {R} _ _ _ => none⟩
  | n + 1 => ⟨fun {R} x0 x1 k0 => ref17_rows_T N (@G_ref17_rows_Rec.ref17_rows (G_ref17_rows_rec N n)) (@ref17_rows_l0 N (@G_ref17_rows_Rec.ref17_rows (G_ref17_rows_rec N n))) (@ref17_rows_l1 N (@G_ref17_rows_Rec.ref17_rows (G_ref17_rows_rec N n))) x0 x1 k0⟩
noncomputable def ref17_rows (N : Nat) {R : Type} (x0 : Int) (x1 : Int) (k0 : (List (List (Bool))) → Option R) : Option R := (G_ref17_rows_rec N N).ref17_rows x0 x1 k0
abbrev ref17_Count_l0_Ty : Type 1 := {R : Type} → ((Int) → Option R) → Nat → (Int) → (Int) → (List (Int)) → Option R
abbrev ref17_Count_Ty : Type 1 := {R : Type} → (List ((ByteArray) × ((Bool) × (Int)))) → (List (Int)) → (Int) → (Int) → (Int) → ((Int) → Option R) → Option R
noncomputable def ref17_Count_l0_T0 (N : Nat) (c0 : ref17_texts_Ty) (c1 : ref17_Caps_Ty) (c2 : ref17_rows_Ty) (c3 : ref17_May_Ty) {R : Type} (nx : (Int) → (Int) → (List (Int)) → Option R) (k0 : (Int) → Option R) (x0 : Int) (x1 : Int) (x2 : List (Int)) : Option R :=
  br (decide (x1 < (Nat.cast (List.length x2) : Int)))
  (br (inB x1 (List.length x2))
   (br (decide ((Int.toNat x1) < (List.length x2)))
    (c0 (List.getD x2 (Int.toNat x1) (0 : Int))
     (fun i415 => nx (if ((1099511627776 : Int) < (IntKind.wrap .i64 (x0 * i415))) then (1099511627776 : Int) else (IntKind.wrap .i64 (x0 * i415))) (IntKind.wrap .i64 (x1 + (1 : Int))) x2))
    (none))
   (none))
  (k0 x0)
noncomputable def ref17_Count_l0 (N : Nat) {R : Type} (k0 : (Int) → Option R) : Nat → (Int) → (Int) → (List (Int)) → Option R
  | 0, _, _, _ => none
  | n + 1, x0, x1, x2 => ref17_Count_l0_T0 N (@ref17_texts N) (@ref17_Caps N) (@ref17_rows N) (@ref17_May N) (fun x0 x1 x2 => ref17_Count_l0 N k0 n x0 x1 x2) k0 x0 x1 x2
noncomputable def ref17_Count_T (N : Nat) (c0 : ref17_texts_Ty) (c1 : ref17_Caps_Ty) (c2 : ref17_rows_Ty) (c3 : ref17_May_Ty) (w0 : ref17_Count_l0_Ty) {R : Type} (x0 : List ((ByteArray) × ((Bool) × (Int)))) (x1 : List (Int)) (x2 : Int) (x3 : Int) (x4 : Int) (k0 : (Int) → Option R) : Option R :=
  c3 x0 x1 x2 x3 x4
  (fun b404 => br (!b404)
   (k0 (0 : Int))
   (c2 x2 x3
    (fun l412 => c1 x0 x1 x2 x3 x4
     (fun l413 => w0
      (fun i416 => k0 i416)
      N (Nat.cast (List.length l412) : Int) (0 : Int) l413))))
noncomputable def ref17_Count (N : Nat) {R : Type} (x0 : List ((ByteArray) × ((Bool) × (Int)))) (x1 : List (Int)) (x2 : Int) (x3 : Int) (x4 : Int) (k0 : (Int) → Option R) : Option R := ref17_Count_T N (@ref17_texts N) (@ref17_Caps N) (@ref17_rows N) (@ref17_May N) (@ref17_Count_l0 N) x0 x1 x2 x3 x4 k0
abbrev ref17_Nth_l0_Ty : Type 1 := {R : Type} → ((List ((ByteArray) × ((Bool) × (Int)))) → (List (Int)) → (Int) → (Int) → (Int) → (List (List (Int))) → (List (List (Int))) → (List (Bool)) → (List (Bool)) → (List (List (Int))) → (List (List (Int))) → (List (List (Int))) → Option R) → Nat → (Int) → (Int) → (List ((ByteArray) × ((Bool) × (Int)))) → (List (Int)) → (Int) → (Int) → (Int) → (List (List (Int))) → (List (List (Int))) → (List (Bool)) → (List (Bool)) → (List (List (Int))) → (List (List (Int))) → (List (Int)) → (List (List (Int))) → Option R
abbrev ref17_Nth_Ty : Type 1 := {R : Type} → (List ((ByteArray) × ((Bool) × (Int)))) → (List (Int)) → (Int) → (Int) → (Int) → (Int) → ((List (Bool)) → (Bool) → (List (List (Int))) → (List (List (Int))) → Option R) → ((Nat) → (Nat) → (Nat) → (Nat) → (List (Bool)) → (Bool) → (Nat) → (List (List (Int))) → Option R) → Option R
noncomputable def ref17_Nth_l0_T0 (N : Nat) (c0 : ref17_files_Ty) (c1 : ref17_text_Ty) (c2 : ref17_texts_Ty) (c3 : ref17_Caps_Ty) (c4 : ref17_rows_Ty) (c5 : ref17_Count_Ty) {R : Type} (nx : (Int) → (Int) → (List ((ByteArray) × ((Bool) × (Int)))) → (List (Int)) → (Int) → (Int) → (Int) → (List (List (Int))) → (List (List (Int))) → (List (Bool)) → (List (Bool)) → (List (List (Int))) → (List (List (Int))) → (List (Int)) → (List (List (Int))) → Option R) (k0 : (List ((ByteArray) × ((Bool) × (Int)))) → (List (Int)) → (Int) → (Int) → (Int) → (List (List (Int))) → (List (List (Int))) → (List (Bool)) → (List (Bool)) → (List (List (Int))) → (List (List (Int))) → (List (List (Int))) → Option R) (x0 : Int) (x1 : Int) (x2 : List ((ByteArray) × ((Bool) × (Int)))) (x3 : List (Int)) (x4 : Int) (x5 : Int) (x6 : Int) (x7 : List (List (Int))) (x8 : List (List (Int))) (x9 : List (Bool)) (x10 : List (Bool)) (x11 : List (List (Int))) (x12 : List (List (Int))) (x13 : List (Int)) (x14 : List (List (Int))) : Option R :=
  br (decide ((0 : Int) ≤ x1))
  (br (inB x1 (List.length x13))
   (br (decide ((Int.toNat x1) < (List.length x13)))
    (c2 (List.getD x13 (Int.toNat x1) (0 : Int))
     (fun i442 => br (decide (i442 = (0 : Int)))
      (none)
      (c1 (Int.tmod x0 i442)
       (fun l443 => br (inB x1 (List.length x14))
        (br (fits (0 : Nat) (List.length l443) l443)
         (br (decide ((Int.toNat x1) < (List.length x14)))
          (br (decide (i442 = (0 : Int)))
           (none)
           (nx (IntKind.wrap .i64 (Int.tdiv x0 i442)) (IntKind.wrap .i64 (x1 - (1 : Int))) x2 x3 x4 x5 x6 x7 x8 x9 x10 x11 x12 x13 (List.set x14 (Int.toNat x1) (sub l443 (0 : Nat) (List.length l443)))))
          (none))
         (none))
        (none)))))
    (none))
   (none))
  (k0 x2 x3 x4 x5 x6 x7 x8 x9 x10 x11 x12 x14)
noncomputable def ref17_Nth_l0 (N : Nat) {R : Type} (k0 : (List ((ByteArray) × ((Bool) × (Int)))) → (List (Int)) → (Int) → (Int) → (Int) → (List (List (Int))) → (List (List (Int))) → (List (Bool)) → (List (Bool)) → (List (List (Int))) → (List (List (Int))) → (List (List (Int))) → Option R) : Nat → (Int) → (Int) → (List ((ByteArray) × ((Bool) × (Int)))) → (List (Int)) → (Int) → (Int) → (Int) → (List (List (Int))) → (List (List (Int))) → (List (Bool)) → (List (Bool)) → (List (List (Int))) → (List (List (Int))) → (List (Int)) → (List (List (Int))) → Option R
  | 0, _, _, _, _, _, _, _, _, _, _, _, _, _, _, _ => none
  | n + 1, x0, x1, x2, x3, x4, x5, x6, x7, x8, x9, x10, x11, x12, x13, x14 => ref17_Nth_l0_T0 N (@ref17_files N) (@ref17_text N) (@ref17_texts N) (@ref17_Caps N) (@ref17_rows N) (@ref17_Count N) (fun x0 x1 x2 x3 x4 x5 x6 x7 x8 x9 x10 x11 x12 x13 x14 => ref17_Nth_l0 N k0 n x0 x1 x2 x3 x4 x5 x6 x7 x8 x9 x10 x11 x12 x13 x14) k0 x0 x1 x2 x3 x4 x5 x6 x7 x8 x9 x10 x11 x12 x13 x14
noncomputable def ref17_Nth_T (N : Nat) (c0 : ref17_files_Ty) (c1 : ref17_text_Ty) (c2 : ref17_texts_Ty) (c3 : ref17_Caps_Ty) (c4 : ref17_rows_Ty) (c5 : ref17_Count_Ty) (w0 : ref17_Nth_l0_Ty) {R : Type} (x0 : List ((ByteArray) × ((Bool) × (Int)))) (x1 : List (Int)) (x2 : Int) (x3 : Int) (x4 : Int) (x5 : Int) (k0 : (List (Bool)) → (Bool) → (List (List (Int))) → (List (List (Int))) → Option R) (k1 : (Nat) → (Nat) → (Nat) → (Nat) → (List (Bool)) → (Bool) → (Nat) → (List (List (Int))) → Option R) : Option R :=
  c5 x0 x1 x2 x3 x4
  (fun i439 => br (!(decide (x5 < (0 : Int))))
   (br (!(decide (i439 ≤ x5)))
    (br (decide ((1099511627776 : Int) ≤ i439))
     (k0 ([] : List (Sh.bool.T)) false ([] : List ((Sh.int IntKind.u8).isl.T)) ([] : List ((Sh.int IntKind.u8).isl.T)))
     (c4 x2 x3
      (fun l440 => br (decide ((Nat.cast (List.length l440) : Int) = (0 : Int)))
       (none)
       (br (inB (Int.tmod x5 (Nat.cast (List.length l440) : Int)) (List.length l440))
        (br (decide ((Int.toNat (Int.tmod x5 (Nat.cast (List.length l440) : Int))) < (List.length l440)))
         (br (decide ((Nat.cast (List.length l440) : Int) = (0 : Int)))
          (none)
          (c3 x0 x1 x2 x3 x4
           (fun l441 => br ((((decide ((0 : Int) ≤ (Nat.cast (List.length l441) : Int))) && (decide ((Nat.cast (List.length l441) : Int) ≤ (Nat.cast (List.length l441) : Int)))) && (decide (((Nat.cast (List.length l441) : Int) * (24 : Int)) ≤ ((2 : Int) ^ (46 : Nat))))) && true)
            (w0
             (fun l444 l445 i446 i447 i448 l449 l450 l451 l452 l453 l454 l455 => c0 l444 l445 i446 i447 i448
              (fun i456 => br (listDec (Sh.dec (.pair .str (.pair .bool (.int .i64)))) l444 l444)
               (br (listDec (Sh.dec (.int .i64)) l445 l445)
                (br (decide (i446 = i446))
                 (br (decide (i447 = i447))
                  (br (decide (i448 = i448))
                   (br (leB i456 (List.length l455))
                    (c0 l444 l445 i446 i447 i448
                     (fun i457 => br (leB i456 (List.length l455))
                      (br (decide (((Int.toNat i456) - (0 : Nat)) = ((Int.toNat i456) - (0 : Nat))))
                       (br (decide (((List.length l455) - (0 : Nat)) = ((List.length l455) - (0 : Nat))))
                        (br (leB i457 (List.length l455))
                         (br (leB i457 (List.length l455))
                          (br ((decide ((Int.toNat i457) = (Int.toNat i457))) && (decide (((List.length l455) - (Int.toNat i457)) = ((List.length l455) - (Int.toNat i457)))))
                           (k1 ((Int.toNat i456) - (0 : Nat)) ((List.length l455) - (0 : Nat)) (Int.toNat i457) ((List.length l455) - (Int.toNat i457)) l452 true (List.length l455) l455)
                           (none))
                          (none))
                         (none))
                        (none))
                       (none))
                      (none)))
                    (none))
                   (none))
                  (none))
                 (none))
                (none))
               (none)))
             N (IntKind.wrap .i64 (Int.tdiv x5 (Nat.cast (List.length l440) : Int))) (IntKind.wrap .i64 ((Nat.cast (List.length l441) : Int) - (1 : Int))) x0 x1 x2 x3 x4 ([] : List ((Sh.int IntKind.u8).isl.T)) ([] : List ((Sh.int IntKind.u8).isl.T)) ([] : List (Sh.bool.T)) (List.getD l440 (Int.toNat (Int.tmod x5 (Nat.cast (List.length l440) : Int))) (Sh.zero (.isl .bool))) ([] : List ((Sh.int IntKind.u8).isl.T)) ([] : List ((Sh.int IntKind.u8).isl.T)) l441 (List.replicate (Int.toNat (Nat.cast (List.length l441) : Int)) (Sh.zero (.isl (.int .u8)))))
            (none))))
         (none))
        (none)))))
    (k0 ([] : List (Sh.bool.T)) false ([] : List ((Sh.int IntKind.u8).isl.T)) ([] : List ((Sh.int IntKind.u8).isl.T))))
   (k0 ([] : List (Sh.bool.T)) false ([] : List ((Sh.int IntKind.u8).isl.T)) ([] : List ((Sh.int IntKind.u8).isl.T))))
noncomputable def ref17_Nth (N : Nat) {R : Type} (x0 : List ((ByteArray) × ((Bool) × (Int)))) (x1 : List (Int)) (x2 : Int) (x3 : Int) (x4 : Int) (x5 : Int) (k0 : (List (Bool)) → (Bool) → (List (List (Int))) → (List (List (Int))) → Option R) (k1 : (Nat) → (Nat) → (Nat) → (Nat) → (List (Bool)) → (Bool) → (Nat) → (List (List (Int))) → Option R) : Option R := ref17_Nth_T N (@ref17_files N) (@ref17_text N) (@ref17_texts N) (@ref17_Caps N) (@ref17_rows N) (@ref17_Count N) (@ref17_Nth_l0 N) x0 x1 x2 x3 x4 x5 k0 k1
abbrev law18_CastApart_Ty : Type 1 := {R : Type} → (List ((ByteArray) × ((Bool) × (Int)))) → (List (Int)) → (Int) → (Int) → (Int) → (Int) → (Int) → ((Bool) → Option R) → Option R
noncomputable def law18_CastApart_T (N : Nat) (c0 : cast_Env_727c_Ty) (c1 : cast_Env_0c40_Ty) (c2 : cast_Env_e92d_Ty) (c3 : law18_same_894e_Ty) (c4 : law17_Small_Ty) (c5 : ref17_Nth_Ty) (c6 : law18_awake_Ty) {R : Type} (x0 : List ((ByteArray) × ((Bool) × (Int)))) (x1 : List (Int)) (x2 : Int) (x3 : Int) (x4 : Int) (x5 : Int) (x6 : Int) (k0 : (Bool) → Option R) : Option R :=
  c6
  (fun b329 => br (!b329)
   (k0 false)
   (c5 x0 x1 x2 x3 x4 (IntKind.wrap .i64 x5)
    (fun l458 b459 l460 l461 => c5 x0 x1 x2 x3 x4 (IntKind.wrap .i64 x6)
     (fun l462 b463 l464 l465 => c4 x0 x1 x2 x3 x4
      (fun b472 => br (!(!b472))
       (br (!(!b459))
        (br (!b463)
         (k0 true)
         (c1 x0 x1 x2 x3 x4 l458 l460 l461
          (fun i634 l635 l636 l637 => c1 x0 x1 x2 x3 x4 l462 l464 l465
           (fun i638 l639 l640 l641 => br (decide (i634 = (0 : Int)))
            (br (decide (i638 = (0 : Int)))
             (c3 l637 l641
              (fun b642 l643 l644 => k0 (b642 == (decide (x5 = x6)))))
             (k0 false))
            (k0 false))
           (fun i645 l646 l647 l648 => br (decide (i634 = (0 : Int)))
            (br (decide (i645 = (0 : Int)))
             (c3 l637 l648
              (fun b649 l650 l651 => k0 (b649 == (decide (x5 = x6)))))
             (k0 false))
            (k0 false)))
          (fun i652 l653 l654 l655 => c1 x0 x1 x2 x3 x4 l462 l464 l465
           (fun i656 l657 l658 l659 => br (decide (i652 = (0 : Int)))
            (br (decide (i656 = (0 : Int)))
             (c3 l655 l659
              (fun b660 l661 l662 => k0 (b660 == (decide (x5 = x6)))))
             (k0 false))
            (k0 false))
           (fun i663 l664 l665 l666 => br (decide (i652 = (0 : Int)))
            (br (decide (i663 = (0 : Int)))
             (c3 l655 l666
              (fun b667 l668 l669 => k0 (b667 == (decide (x5 = x6)))))
             (k0 false))
            (k0 false)))))
        (k0 true))
       (k0 true)))
     (fun n670 n671 n672 n673 l674 b675 n676 l677 => c4 x0 x1 x2 x3 x4
      (fun b678 => br (!(!b678))
       (br (!(!b459))
        (br (!b675)
         (k0 true)
         (c1 x0 x1 x2 x3 x4 l458 l460 l461
          (fun i679 l680 l681 l682 => c2 x0 x1 x2 x3 x4 n670 n671 n672 n673 l674 n676 l677
           (fun i776 n777 l778 l779 => br (decide (i679 = (0 : Int)))
            (br (decide (i776 = (0 : Int)))
             (c3 l682 l779
              (fun b780 l781 l782 => k0 (b780 == (decide (x5 = x6)))))
             (k0 false))
            (k0 false))
           (fun i783 l784 l785 => br (decide (i679 = (0 : Int)))
            (br (decide (i783 = (0 : Int)))
             (c3 l682 l785
              (fun b786 l787 l788 => k0 (b786 == (decide (x5 = x6)))))
             (k0 false))
            (k0 false)))
          (fun i789 l790 l791 l792 => c2 x0 x1 x2 x3 x4 n670 n671 n672 n673 l674 n676 l677
           (fun i793 n794 l795 l796 => br (decide (i789 = (0 : Int)))
            (br (decide (i793 = (0 : Int)))
             (c3 l792 l796
              (fun b797 l798 l799 => k0 (b797 == (decide (x5 = x6)))))
             (k0 false))
            (k0 false))
           (fun i800 l801 l802 => br (decide (i789 = (0 : Int)))
            (br (decide (i800 = (0 : Int)))
             (c3 l792 l802
              (fun b803 l804 l805 => k0 (b803 == (decide (x5 = x6)))))
             (k0 false))
            (k0 false)))))
        (k0 true))
       (k0 true))))
    (fun n806 n807 n808 n809 l810 b811 n812 l813 => c5 x0 x1 x2 x3 x4 (IntKind.wrap .i64 x6)
     (fun l814 b815 l816 l817 => c4 x0 x1 x2 x3 x4
      (fun b818 => br (!(!b818))
       (br (!(!b811))
        (br (!b815)
         (k0 true)
         (c2 x0 x1 x2 x3 x4 n806 n807 n808 n809 l810 n812 l813
          (fun i819 n820 l821 l822 => c1 x0 x1 x2 x3 x4 l814 l816 l817
           (fun i823 l824 l825 l826 => br (decide (i819 = (0 : Int)))
            (br (decide (i823 = (0 : Int)))
             (c3 l822 l826
              (fun b827 l828 l829 => k0 (b827 == (decide (x5 = x6)))))
             (k0 false))
            (k0 false))
           (fun i830 l831 l832 l833 => br (decide (i819 = (0 : Int)))
            (br (decide (i830 = (0 : Int)))
             (c3 l822 l833
              (fun b834 l835 l836 => k0 (b834 == (decide (x5 = x6)))))
             (k0 false))
            (k0 false)))
          (fun i837 l838 l839 => c1 x0 x1 x2 x3 x4 l814 l816 l817
           (fun i840 l841 l842 l843 => br (decide (i837 = (0 : Int)))
            (br (decide (i840 = (0 : Int)))
             (c3 l839 l843
              (fun b844 l845 l846 => k0 (b844 == (decide (x5 = x6)))))
             (k0 false))
            (k0 false))
           (fun i847 l848 l849 l850 => br (decide (i837 = (0 : Int)))
            (br (decide (i847 = (0 : Int)))
             (c3 l839 l850
              (fun b851 l852 l853 => k0 (b851 == (decide (x5 = x6)))))
             (k0 false))
            (k0 false)))))
        (k0 true))
       (k0 true)))
     (fun n854 n855 n856 n857 l858 b859 n860 l861 => c4 x0 x1 x2 x3 x4
      (fun b862 => br (!(!b862))
       (br (!(!b811))
        (br (!b859)
         (k0 true)
         (c2 x0 x1 x2 x3 x4 n806 n807 n808 n809 l810 n812 l813
          (fun i863 n864 l865 l866 => c2 x0 x1 x2 x3 x4 n854 n855 n856 n857 l858 n860 l861
           (fun i867 n868 l869 l870 => br (decide (i863 = (0 : Int)))
            (br (decide (i867 = (0 : Int)))
             (c3 l866 l870
              (fun b871 l872 l873 => k0 (b871 == (decide (x5 = x6)))))
             (k0 false))
            (k0 false))
           (fun i874 l875 l876 => br (decide (i863 = (0 : Int)))
            (br (decide (i874 = (0 : Int)))
             (c3 l866 l876
              (fun b877 l878 l879 => k0 (b877 == (decide (x5 = x6)))))
             (k0 false))
            (k0 false)))
          (fun i880 l881 l882 => c2 x0 x1 x2 x3 x4 n854 n855 n856 n857 l858 n860 l861
           (fun i883 n884 l885 l886 => br (decide (i880 = (0 : Int)))
            (br (decide (i883 = (0 : Int)))
             (c3 l882 l886
              (fun b887 l888 l889 => k0 (b887 == (decide (x5 = x6)))))
             (k0 false))
            (k0 false))
           (fun i890 l891 l892 => br (decide (i880 = (0 : Int)))
            (br (decide (i890 = (0 : Int)))
             (c3 l882 l892
              (fun b893 l894 l895 => k0 (b893 == (decide (x5 = x6)))))
             (k0 false))
            (k0 false)))))
        (k0 true))
       (k0 true))))))
noncomputable def law18_CastApart (N : Nat) {R : Type} (x0 : List ((ByteArray) × ((Bool) × (Int)))) (x1 : List (Int)) (x2 : Int) (x3 : Int) (x4 : Int) (x5 : Int) (x6 : Int) (k0 : (Bool) → Option R) : Option R := law18_CastApart_T N (@cast_Env_727c N) (@cast_Env_0c40 N) (@cast_Env_e92d N) (@law18_same_894e N) (@law17_Small N) (@ref17_Nth N) (@law18_awake N) x0 x1 x2 x3 x4 x5 x6 k0
end Go.Proofs.Ytlfhmecdgfennaa
