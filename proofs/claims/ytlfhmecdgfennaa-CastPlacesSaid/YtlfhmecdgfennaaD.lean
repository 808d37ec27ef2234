/-
  The functions that the statement reaches, each as a function of Lean (printed by a program of this work).
-/
import Derived.Test.YtlfhmecdgfennaaGx5
set_option linter.unusedVariables false
set_option maxRecDepth 100000
namespace Go.Proofs.Ytlfhmecdgfennaa
open Go.Gx
abbrev stringslite_IndexByte_Ty : Type 1 := {R : Type} → (ByteArray) → (Int) → ((Int) → Option R) → Option R
abbrev stringslite_Index_Ty : Type 1 := {R : Type} → (ByteArray) → (ByteArray) → ((Int) → Option R) → Option R
noncomputable def stringslite_Index_T (N : Nat) (c0 : stringslite_IndexByte_Ty) {R : Type} (x0 : ByteArray) (x1 : ByteArray) (k0 : (Int) → Option R) : Option R :=
  br (!(decide ((Nat.cast (ByteArray.size x1) : Int) = (0 : Int))))
  (br (decide (x1 = x0))
   (k0 (0 : Int))
   (br (decide ((Nat.cast (ByteArray.size x1) : Int) = (1 : Int)))
    (br (inB (0 : Int) (ByteArray.size x1))
     (c0 x0 (bt x1 (0 : Int))
      (fun i0 => k0 i0))
     (none))
    (br (decide ((Nat.cast (ByteArray.size x0) : Int) ≤ (Nat.cast (ByteArray.size x1) : Int)))
     (k0 (-1 : Int))
     (none))))
  (k0 (0 : Int))
noncomputable def stringslite_Index (N : Nat) {R : Type} (x0 : ByteArray) (x1 : ByteArray) (k0 : (Int) → Option R) : Option R := stringslite_Index_T N @stringslite_IndexByte x0 x1 k0
abbrev stringslite_Cut_Ty : Type 1 := {R : Type} → (ByteArray) → (ByteArray) → ((ByteArray) → (ByteArray) → (Bool) → Option R) → Option R
noncomputable def stringslite_Cut_T (N : Nat) (c0 : stringslite_Index_Ty) {R : Type} (x0 : ByteArray) (x1 : ByteArray) (k0 : (ByteArray) → (ByteArray) → (Bool) → Option R) : Option R :=
  c0 x0 x1
  (fun i1 => br (decide ((0 : Int) ≤ i1))
   (br (leB i1 (ByteArray.size x0))
    (br (leB (IntKind.wrap .i64 (i1 + (Nat.cast (ByteArray.size x1) : Int))) (ByteArray.size x0))
     (k0 (ByteArray.extract x0 (0 : Nat) (Int.toNat i1)) (ByteArray.extract x0 (Int.toNat (IntKind.wrap .i64 (i1 + (Nat.cast (ByteArray.size x1) : Int)))) (ByteArray.size x0)) true)
     (none))
    (none))
   (k0 x0 (bs []) false))
noncomputable def stringslite_Cut (N : Nat) {R : Type} (x0 : ByteArray) (x1 : ByteArray) (k0 : (ByteArray) → (ByteArray) → (Bool) → Option R) : Option R := stringslite_Cut_T N (@stringslite_Index N) x0 x1 k0
abbrev strings_Cut_Ty : Type 1 := {R : Type} → (ByteArray) → (ByteArray) → ((ByteArray) → (ByteArray) → (Bool) → Option R) → Option R
noncomputable def strings_Cut_T (N : Nat) (c0 : stringslite_Cut_Ty) {R : Type} (x0 : ByteArray) (x1 : ByteArray) (k0 : (ByteArray) → (ByteArray) → (Bool) → Option R) : Option R :=
  c0 x0 x1
  (fun s2 s3 b4 => k0 s2 s3 b4)
noncomputable def strings_Cut (N : Nat) {R : Type} (x0 : ByteArray) (x1 : ByteArray) (k0 : (ByteArray) → (ByteArray) → (Bool) → Option R) : Option R := strings_Cut_T N (@stringslite_Cut N) x0 x1 k0
abbrev check_letter_Ty : Type 1 := {R : Type} → (Int) → ((Bool) → Option R) → Option R
noncomputable def check_letter_T (N : Nat) {R : Type} (x0 : Int) (k0 : (Bool) → Option R) : Option R :=
  br (decide ((97 : Int) ≤ x0))
  (br (!(decide (x0 ≤ (122 : Int))))
   (br (decide ((48 : Int) ≤ x0))
    (br (!(decide (x0 ≤ (57 : Int))))
     (br (!(decide (x0 = (46 : Int))))
      (k0 (decide (x0 = (95 : Int))))
      (k0 true))
     (k0 true))
    (br (!(decide (x0 = (46 : Int))))
     (k0 (decide (x0 = (95 : Int))))
     (k0 true)))
   (k0 true))
  (br (decide ((48 : Int) ≤ x0))
   (br (!(decide (x0 ≤ (57 : Int))))
    (br (!(decide (x0 = (46 : Int))))
     (k0 (decide (x0 = (95 : Int))))
     (k0 true))
    (k0 true))
   (br (!(decide (x0 = (46 : Int))))
    (k0 (decide (x0 = (95 : Int))))
    (k0 true)))
noncomputable def check_letter (N : Nat) {R : Type} (x0 : Int) (k0 : (Bool) → Option R) : Option R := check_letter_T N x0 k0
abbrev check_part_l0_Ty : Type 1 := {R : Type} → ((ByteArray) → (Bool) → Option R) → ((ByteArray) → Option R) → Nat → (ByteArray) → (Int) → (Int) → Option R
abbrev check_part_Ty : Type 1 := {R : Type} → (ByteArray) → ((Bool) → Option R) → Option R
noncomputable def check_part_l0_T0 (N : Nat) (c0 : check_letter_Ty) {R : Type} (nx : (ByteArray) → (Int) → (Int) → Option R) (k0 : (ByteArray) → (Bool) → Option R) (k1 : (ByteArray) → Option R) (x0 : ByteArray) (x1 : Int) (x2 : Int) : Option R :=
  br (decide (x2 < x1))
  (br (inB x2 (ByteArray.size x0))
   (c0 (bt x0 x2)
    (fun b8 => br (!b8)
     (k0 x0 false)
     (nx x0 x1 (IntKind.wrap .i64 (x2 + (1 : Int))))))
   (none))
  (k1 x0)
noncomputable def check_part_l0 (N : Nat) {R : Type} (k0 : (ByteArray) → (Bool) → Option R) (k1 : (ByteArray) → Option R) : Nat → (ByteArray) → (Int) → (Int) → Option R
  | 0, _, _, _ => none
  | n + 1, x0, x1, x2 => check_part_l0_T0 N (@check_letter N) (fun x0 x1 x2 => check_part_l0 N k0 k1 n x0 x1 x2) k0 k1 x0 x1 x2
noncomputable def check_part_T (N : Nat) (c0 : check_letter_Ty) (w0 : check_part_l0_Ty) {R : Type} (x0 : ByteArray) (k0 : (Bool) → Option R) : Option R :=
  w0
  (fun s9 b10 => k0 b10)
  (fun s11 => br (!(decide (s11 = (bs []))))
   (br (!(decide (s11 = (bs [46]))))
    (k0 (!(decide (s11 = (bs [46, 46])))))
    (k0 false))
   (k0 false))
  N x0 (Nat.cast (ByteArray.size x0) : Int) (0 : Int)
noncomputable def check_part (N : Nat) {R : Type} (x0 : ByteArray) (k0 : (Bool) → Option R) : Option R := check_part_T N (@check_letter N) (@check_part_l0 N) x0 k0
abbrev check_Name_Ty : Type 1 := {R : Type} → (ByteArray) → ((Bool) → Option R) → Option R
noncomputable def check_Name_T (N : Nat) (c0 : check_part_Ty) (c1 : strings_Cut_Ty) {R : Type} (x0 : ByteArray) (k0 : (Bool) → Option R) : Option R :=
  br (decide ((8 : Int) < (Nat.cast (ByteArray.size x0) : Int)))
  (k0 false)
  (c1 x0 (bs [47])
   (fun s5 s6 b7 => c0 s5
    (fun b12 => br b12
     (br (!(!b7))
      (c0 s6
       (fun b13 => k0 b13))
      (k0 true))
     (k0 false))))
noncomputable def check_Name (N : Nat) {R : Type} (x0 : ByteArray) (k0 : (Bool) → Option R) : Option R := check_Name_T N (@check_part N) (@strings_Cut N) x0 k0
abbrev names_May_Ty : Type 1 := {R : Type} → (ByteArray) → ((Bool) → Option R) → Option R
noncomputable def names_May_T (N : Nat) (c0 : check_Name_Ty) {R : Type} (x0 : ByteArray) (k0 : (Bool) → Option R) : Option R :=
  c0 x0
  (fun b14 => k0 b14)
noncomputable def names_May (N : Nat) {R : Type} (x0 : ByteArray) (k0 : (Bool) → Option R) : Option R := names_May_T N (@check_Name N) x0 k0
abbrev names_Split_Ty : Type 1 := {R : Type} → (ByteArray) → ((ByteArray) → (ByteArray) → Option R) → Option R
noncomputable def names_Split_T (N : Nat) (c0 : strings_Cut_Ty) (c1 : names_May_Ty) {R : Type} (x0 : ByteArray) (k0 : (ByteArray) → (ByteArray) → Option R) : Option R :=
  c1 x0
  (fun b16 => br (!b16)
   (k0 (bs []) (bs []))
   (c0 x0 (bs [47])
    (fun s17 s18 b19 => br (!b19)
     (k0 (bs []) s17)
     (k0 s17 s18))))
noncomputable def names_Split (N : Nat) {R : Type} (x0 : ByteArray) (k0 : (ByteArray) → (ByteArray) → Option R) : Option R := names_Split_T N (@strings_Cut N) (@names_May N) x0 k0
abbrev tree_of_Ty : Type 1 := {R : Type} → (ByteArray) → ((ByteArray) → (ByteArray) → Option R) → Option R
noncomputable def tree_of_T (N : Nat) (c0 : names_Split_Ty) {R : Type} (x0 : ByteArray) (k0 : (ByteArray) → (ByteArray) → Option R) : Option R :=
  c0 x0
  (fun s20 s21 => k0 s20 s21)
noncomputable def tree_of (N : Nat) {R : Type} (x0 : ByteArray) (k0 : (ByteArray) → (ByteArray) → Option R) : Option R := tree_of_T N (@names_Split N) x0 k0
abbrev tree_Tree_above_2de7_Ty : Type 1 := {R : Type} → (ByteArray) → (ByteArray) → (Int) → (List (((ByteArray) × (ByteArray)) × ((Int) × (Bool)))) → ((Int) → (Int) → (List (((ByteArray) × (ByteArray)) × ((Int) × (Bool)))) → Option R) → Option R
noncomputable def tree_Tree_above_2de7_T (N : Nat) {R : Type} (x0 : ByteArray) (x1 : ByteArray) (x2 : Int) (x3 : List (((ByteArray) × (ByteArray)) × ((Int) × (Bool)))) (k0 : (Int) → (Int) → (List (((ByteArray) × (ByteArray)) × ((Int) × (Bool)))) → Option R) : Option R :=
  br (decide (x1 = (bs [])))
  (k0 (65282 : Int) x2 x3)
  (br (decide (x0 = (bs [])))
   (k0 (0 : Int) x2 x3)
   (br ((Option.isSome (mfind (.pair .str .str) (.pair (.int .i64) .bool) x3 ((bs []) , x0))) == (Option.isSome (mfind (.pair .str .str) (.pair (.int .i64) .bool) x3 ((bs []) , x0))))
    (br (!(Option.isSome (mfind (.pair .str .str) (.pair (.int .i64) .bool) x3 ((bs []) , x0))))
     (k0 (65282 : Int) x2 x3)
     (br (!(Option.getD (mfind (.pair .str .str) (.pair (.int .i64) .bool) x3 ((bs []) , x0)) ((0 : Int) , false)).2)
      (k0 (65300 : Int) x2 x3)
      (k0 (0 : Int) x2 x3)))
    (none)))
noncomputable def tree_Tree_above_2de7 (N : Nat) {R : Type} (x0 : ByteArray) (x1 : ByteArray) (x2 : Int) (x3 : List (((ByteArray) × (ByteArray)) × ((Int) × (Bool)))) (k0 : (Int) → (Int) → (List (((ByteArray) × (ByteArray)) × ((Int) × (Bool)))) → Option R) : Option R := tree_Tree_above_2de7_T N x0 x1 x2 x3 k0
abbrev tree_Tree_Make_c502_Ty : Type 1 := {R : Type} → (ByteArray) → (Bool) → (Int) → (List (((ByteArray) × (ByteArray)) × ((Int) × (Bool)))) → ((Int) → (Int) → (Int) → (List (((ByteArray) × (ByteArray)) × ((Int) × (Bool)))) → Option R) → Option R
noncomputable def tree_Tree_Make_c502_T (N : Nat) (c0 : tree_Tree_above_2de7_Ty) (c1 : tree_of_Ty) {R : Type} (x0 : ByteArray) (x1 : Bool) (x2 : Int) (x3 : List (((ByteArray) × (ByteArray)) × ((Int) × (Bool)))) (k0 : (Int) → (Int) → (Int) → (List (((ByteArray) × (ByteArray)) × ((Int) × (Bool)))) → Option R) : Option R :=
  c1 x0
  (fun s22 s23 => c0 s22 s23 x2 x3
   (fun i24 i25 l26 => br (!(decide (i24 = (0 : Int))))
    (k0 (-1 : Int) i24 i25 l26)
    (br ((Option.isSome (mfind (.pair .str .str) (.pair (.int .i64) .bool) l26 (s22 , s23))) == (Option.isSome (mfind (.pair .str .str) (.pair (.int .i64) .bool) l26 (s22 , s23))))
     (br (Option.isSome (mfind (.pair .str .str) (.pair (.int .i64) .bool) l26 (s22 , s23)))
      (k0 (-1 : Int) (65297 : Int) i25 l26)
      (br x1
       (br (!(decide (s22 = (bs []))))
        (k0 (-1 : Int) (65302 : Int) i25 l26)
        (br (decide ((8 : Int) ≤ (Nat.cast (List.length l26) : Int)))
         (k0 (-1 : Int) (65308 : Int) i25 l26)
         (k0 (IntKind.wrap .i64 ((IntKind.wrap .i64 (i25 + (1 : Int))) - (1 : Int))) (0 : Int) (IntKind.wrap .i64 (i25 + (1 : Int))) (mput (.pair .str .str) (.pair (.int .i64) .bool) l26 (s22 , s23) (i25 , x1)))))
       (br (decide ((8 : Int) ≤ (Nat.cast (List.length l26) : Int)))
        (k0 (-1 : Int) (65308 : Int) i25 l26)
        (k0 (IntKind.wrap .i64 ((IntKind.wrap .i64 (i25 + (1 : Int))) - (1 : Int))) (0 : Int) (IntKind.wrap .i64 (i25 + (1 : Int))) (mput (.pair .str .str) (.pair (.int .i64) .bool) l26 (s22 , s23) (i25 , x1))))))
     (none))))
noncomputable def tree_Tree_Make_c502 (N : Nat) {R : Type} (x0 : ByteArray) (x1 : Bool) (x2 : Int) (x3 : List (((ByteArray) × (ByteArray)) × ((Int) × (Bool)))) (k0 : (Int) → (Int) → (Int) → (List (((ByteArray) × (ByteArray)) × ((Int) × (Bool)))) → Option R) : Option R := tree_Tree_Make_c502_T N (@tree_Tree_above_2de7 N) (@tree_of N) x0 x1 x2 x3 k0
abbrev tree_New_644a_l0_Ty : Type 1 := {R : Type} → ((Int) → (List ((ByteArray) × ((Bool) × (Int)))) → (Int) → (List (((ByteArray) × (ByteArray)) × ((Int) × (Bool)))) → Option R) → ((List ((ByteArray) × ((Bool) × (Int)))) → (Int) → (List (((ByteArray) × (ByteArray)) × ((Int) × (Bool)))) → Option R) → Nat → (Int) → (Int) → (List ((ByteArray) × ((Bool) × (Int)))) → (Int) → (List (((ByteArray) × (ByteArray)) × ((Int) × (Bool)))) → Option R
abbrev tree_New_644a_Ty : Type 1 := {R : Type} → (List ((ByteArray) × ((Bool) × (Int)))) → ((Int) → (List ((ByteArray) × ((Bool) × (Int)))) → Option R) → ((Int) → (List ((ByteArray) × ((Bool) × (Int)))) → (Int) → (List (((ByteArray) × (ByteArray)) × ((Int) × (Bool)))) → Option R) → Option R
noncomputable def tree_New_644a_l0_T0 (N : Nat) (c0 : tree_Tree_Make_c502_Ty) (c1 : names_May_Ty) {R : Type} (nx : (Int) → (Int) → (List ((ByteArray) × ((Bool) × (Int)))) → (Int) → (List (((ByteArray) × (ByteArray)) × ((Int) × (Bool)))) → Option R) (k0 : (Int) → (List ((ByteArray) × ((Bool) × (Int)))) → (Int) → (List (((ByteArray) × (ByteArray)) × ((Int) × (Bool)))) → Option R) (k1 : (List ((ByteArray) × ((Bool) × (Int)))) → (Int) → (List (((ByteArray) × (ByteArray)) × ((Int) × (Bool)))) → Option R) (x0 : Int) (x1 : Int) (x2 : List ((ByteArray) × ((Bool) × (Int)))) (x3 : Int) (x4 : List (((ByteArray) × (ByteArray)) × ((Int) × (Bool)))) : Option R :=
  br (decide (x1 < x0))
  (br (inB x1 (List.length x2))
   (br (decide ((Int.toNat x1) < (List.length x2)))
    (c1 (List.getD x2 (Int.toNat x1) ((bs []) , (false , (0 : Int)))).1
     (fun b15 => br (!b15)
      (k0 (11 : Int) x2 x3 x4)
      (c0 (List.getD x2 (Int.toNat x1) ((bs []) , (false , (0 : Int)))).1 (List.getD x2 (Int.toNat x1) ((bs []) , (false , (0 : Int)))).2.1 x3 x4
       (fun i27 i28 i29 l30 => br (!(decide (i28 = (0 : Int))))
        (k0 (11 : Int) x2 i29 l30)
        (nx x0 (IntKind.wrap .i64 (x1 + (1 : Int))) x2 i29 l30)))))
    (none))
   (none))
  (k1 x2 x3 x4)
noncomputable def tree_New_644a_l0 (N : Nat) {R : Type} (k0 : (Int) → (List ((ByteArray) × ((Bool) × (Int)))) → (Int) → (List (((ByteArray) × (ByteArray)) × ((Int) × (Bool)))) → Option R) (k1 : (List ((ByteArray) × ((Bool) × (Int)))) → (Int) → (List (((ByteArray) × (ByteArray)) × ((Int) × (Bool)))) → Option R) : Nat → (Int) → (Int) → (List ((ByteArray) × ((Bool) × (Int)))) → (Int) → (List (((ByteArray) × (ByteArray)) × ((Int) × (Bool)))) → Option R
  | 0, _, _, _, _, _ => none
  | n + 1, x0, x1, x2, x3, x4 => tree_New_644a_l0_T0 N (@tree_Tree_Make_c502 N) (@names_May N) (fun x0 x1 x2 x3 x4 => tree_New_644a_l0 N k0 k1 n x0 x1 x2 x3 x4) k0 k1 x0 x1 x2 x3 x4
noncomputable def tree_New_644a_T (N : Nat) (c0 : tree_Tree_Make_c502_Ty) (c1 : names_May_Ty) (w0 : tree_New_644a_l0_Ty) {R : Type} (x0 : List ((ByteArray) × ((Bool) × (Int)))) (k0 : (Int) → (List ((ByteArray) × ((Bool) × (Int)))) → Option R) (k1 : (Int) → (List ((ByteArray) × ((Bool) × (Int)))) → (Int) → (List (((ByteArray) × (ByteArray)) × ((Int) × (Bool)))) → Option R) : Option R :=
  br (decide ((8 : Int) < (Nat.cast (List.length x0) : Int)))
  (k0 (11 : Int) x0)
  (w0
   (fun i31 l32 i33 l34 => k0 i31 l32)
   (fun l35 i36 l37 => k1 (0 : Int) l35 i36 l37)
   N (Nat.cast (List.length x0) : Int) (0 : Int) x0 (0 : Int) ([] : List (((Sh.str.pair Sh.str).T) × (((Sh.int IntKind.i64).pair Sh.bool).T))))
noncomputable def tree_New_644a (N : Nat) {R : Type} (x0 : List ((ByteArray) × ((Bool) × (Int)))) (k0 : (Int) → (List ((ByteArray) × ((Bool) × (Int)))) → Option R) (k1 : (Int) → (List ((ByteArray) × ((Bool) × (Int)))) → (Int) → (List (((ByteArray) × (ByteArray)) × ((Int) × (Bool)))) → Option R) : Option R := tree_New_644a_T N (@tree_Tree_Make_c502 N) (@names_May N) (@tree_New_644a_l0 N) x0 k0 k1
abbrev tree_New_l0_Ty : Type 1 := {R : Type} → ((Int) → (Int) → (List (((ByteArray) × (ByteArray)) × ((Int) × (Bool)))) → Option R) → ((Int) → (List (((ByteArray) × (ByteArray)) × ((Int) × (Bool)))) → Option R) → Nat → (List ((ByteArray) × ((Bool) × (Int)))) → (Int) → (Int) → (Int) → (List (((ByteArray) × (ByteArray)) × ((Int) × (Bool)))) → Option R
abbrev tree_New_Ty : Type 1 := {R : Type} → (List ((ByteArray) × ((Bool) × (Int)))) → ((Int) → Option R) → ((Int) → (Int) → (List (((ByteArray) × (ByteArray)) × ((Int) × (Bool)))) → Option R) → Option R
noncomputable def tree_New_l0_T0 (N : Nat) (c0 : tree_Tree_Make_c502_Ty) (c1 : names_May_Ty) {R : Type} (nx : (List ((ByteArray) × ((Bool) × (Int)))) → (Int) → (Int) → (Int) → (List (((ByteArray) × (ByteArray)) × ((Int) × (Bool)))) → Option R) (k0 : (Int) → (Int) → (List (((ByteArray) × (ByteArray)) × ((Int) × (Bool)))) → Option R) (k1 : (Int) → (List (((ByteArray) × (ByteArray)) × ((Int) × (Bool)))) → Option R) (x0 : List ((ByteArray) × ((Bool) × (Int)))) (x1 : Int) (x2 : Int) (x3 : Int) (x4 : List (((ByteArray) × (ByteArray)) × ((Int) × (Bool)))) : Option R :=
  br (decide (x2 < x1))
  (br (inB x2 (List.length x0))
   (c1 (List.getD x0 (Int.toNat x2) ((bs []) , (false , (0 : Int)))).1
    (fun b423 => br (!b423)
     (k0 (11 : Int) x3 x4)
     (c0 (List.getD x0 (Int.toNat x2) ((bs []) , (false , (0 : Int)))).1 (List.getD x0 (Int.toNat x2) ((bs []) , (false , (0 : Int)))).2.1 x3 x4
      (fun i424 i425 i426 l427 => br (!(decide (i425 = (0 : Int))))
       (k0 (11 : Int) i426 l427)
       (nx x0 x1 (IntKind.wrap .i64 (x2 + (1 : Int))) i426 l427)))))
   (none))
  (k1 x3 x4)
noncomputable def tree_New_l0 (N : Nat) {R : Type} (k0 : (Int) → (Int) → (List (((ByteArray) × (ByteArray)) × ((Int) × (Bool)))) → Option R) (k1 : (Int) → (List (((ByteArray) × (ByteArray)) × ((Int) × (Bool)))) → Option R) : Nat → (List ((ByteArray) × ((Bool) × (Int)))) → (Int) → (Int) → (Int) → (List (((ByteArray) × (ByteArray)) × ((Int) × (Bool)))) → Option R
  | 0, _, _, _, _, _ => none
  | n + 1, x0, x1, x2, x3, x4 => tree_New_l0_T0 N (@tree_Tree_Make_c502 N) (@names_May N) (fun x0 x1 x2 x3 x4 => tree_New_l0 N k0 k1 n x0 x1 x2 x3 x4) k0 k1 x0 x1 x2 x3 x4
noncomputable def tree_New_T (N : Nat) (c0 : tree_Tree_Make_c502_Ty) (c1 : names_May_Ty) (w0 : tree_New_l0_Ty) {R : Type} (x0 : List ((ByteArray) × ((Bool) × (Int)))) (k0 : (Int) → Option R) (k1 : (Int) → (Int) → (List (((ByteArray) × (ByteArray)) × ((Int) × (Bool)))) → Option R) : Option R :=
  br (decide ((8 : Int) < (Nat.cast (List.length x0) : Int)))
  (k0 (11 : Int))
  (w0
   (fun i428 i429 l430 => k0 i428)
   (fun i431 l432 => k1 (0 : Int) i431 l432)
   N x0 (Nat.cast (List.length x0) : Int) (0 : Int) (0 : Int) ([] : List (((Sh.str.pair Sh.str).T) × (((Sh.int IntKind.i64).pair Sh.bool).T))))
noncomputable def tree_New (N : Nat) {R : Type} (x0 : List ((ByteArray) × ((Bool) × (Int)))) (k0 : (Int) → Option R) (k1 : (Int) → (Int) → (List (((ByteArray) × (ByteArray)) × ((Int) × (Bool)))) → Option R) : Option R := tree_New_T N (@tree_Tree_Make_c502 N) (@names_May N) (@tree_New_l0 N) x0 k0 k1
abbrev class_Files_66e6_l0_Ty : Type 1 := {R : Type} → ((List ((ByteArray) × ((Bool) × (Int)))) → (List (Int)) → (List (Int)) → Option R) → Nat → (Int) → (Int) → (List ((ByteArray) × ((Bool) × (Int)))) → (List (Int)) → (List (Int)) → Option R
abbrev class_Files_66e6_Ty : Type 1 := {R : Type} → (Int) → (Int) → (Int) → (List ((ByteArray) × ((Bool) × (Int)))) → (List (Int)) → ((List ((ByteArray) × ((Bool) × (Int)))) → (List (Int)) → (List (Int)) → Option R) → Option R
noncomputable def class_Files_66e6_l0_T0 (N : Nat) {R : Type} (nx : (Int) → (Int) → (List ((ByteArray) × ((Bool) × (Int)))) → (List (Int)) → (List (Int)) → Option R) (k0 : (List ((ByteArray) × ((Bool) × (Int)))) → (List (Int)) → (List (Int)) → Option R) (x0 : Int) (x1 : Int) (x2 : List ((ByteArray) × ((Bool) × (Int)))) (x3 : List (Int)) (x4 : List (Int)) : Option R :=
  br (decide (x1 < x0))
  (br (inB x1 (List.length x2))
   (br (decide ((Int.toNat x1) < (List.length x2)))
    (br (!(List.getD x2 (Int.toNat x1) ((bs []) , (false , (0 : Int)))).2.1)
     (br (((fits (0 : Nat) (List.length x4) x4) && (decide ((((List.length x4) + (1 : Nat)) * (8 : Nat)) ≤ (70368744177664 : Nat)))) && true)
      (nx x0 (IntKind.wrap .i64 (x1 + (1 : Int))) x2 x3 ((sub x4 (0 : Nat) (List.length x4)) ++ (x1 :: ([] : List ((Sh.int IntKind.i64).T)))))
      (none))
     (nx x0 (IntKind.wrap .i64 (x1 + (1 : Int))) x2 x3 x4))
    (none))
   (none))
  (k0 x2 x3 x4)
noncomputable def class_Files_66e6_l0 (N : Nat) {R : Type} (k0 : (List ((ByteArray) × ((Bool) × (Int)))) → (List (Int)) → (List (Int)) → Option R) : Nat → (Int) → (Int) → (List ((ByteArray) × ((Bool) × (Int)))) → (List (Int)) → (List (Int)) → Option R
  | 0, _, _, _, _, _ => none
  | n + 1, x0, x1, x2, x3, x4 => class_Files_66e6_l0_T0 N (fun x0 x1 x2 x3 x4 => class_Files_66e6_l0 N k0 n x0 x1 x2 x3 x4) k0 x0 x1 x2 x3 x4
noncomputable def class_Files_66e6_T (N : Nat) (w0 : class_Files_66e6_l0_Ty) {R : Type} (x0 : Int) (x1 : Int) (x2 : Int) (x3 : List ((ByteArray) × ((Bool) × (Int)))) (x4 : List (Int)) (k0 : (List ((ByteArray) × ((Bool) × (Int)))) → (List (Int)) → (List (Int)) → Option R) : Option R :=
  w0
  (fun l40 l41 l42 => k0 l40 l41 l42)
  N (Nat.cast (List.length x3) : Int) (0 : Int) x3 x4 ([] : List ((Sh.int IntKind.i64).T))
noncomputable def class_Files_66e6 (N : Nat) {R : Type} (x0 : Int) (x1 : Int) (x2 : Int) (x3 : List ((ByteArray) × ((Bool) × (Int)))) (x4 : List (Int)) (k0 : (List ((ByteArray) × ((Bool) × (Int)))) → (List (Int)) → (List (Int)) → Option R) : Option R := class_Files_66e6_T N (@class_Files_66e6_l0 N) x0 x1 x2 x3 x4 k0
abbrev class_Files_l0_Ty : Type 1 := {R : Type} → ((List (Int)) → Option R) → Nat → (List ((ByteArray) × ((Bool) × (Int)))) → (Int) → (Int) → (List (Int)) → Option R
abbrev class_Files_Ty : Type 1 := {R : Type} → (List ((ByteArray) × ((Bool) × (Int)))) → (List (Int)) → (Int) → (Int) → (Int) → ((List (Int)) → Option R) → Option R
noncomputable def class_Files_l0_T0 (N : Nat) {R : Type} (nx : (List ((ByteArray) × ((Bool) × (Int)))) → (Int) → (Int) → (List (Int)) → Option R) (k0 : (List (Int)) → Option R) (x0 : List ((ByteArray) × ((Bool) × (Int)))) (x1 : Int) (x2 : Int) (x3 : List (Int)) : Option R :=
  br (decide (x2 < x1))
  (br (inB x2 (List.length x0))
   (br (!(List.getD x0 (Int.toNat x2) ((bs []) , (false , (0 : Int)))).2.1)
    (br (((fits (0 : Nat) (List.length x3) x3) && (decide ((((List.length x3) + (1 : Nat)) * (8 : Nat)) ≤ (70368744177664 : Nat)))) && true)
     (nx x0 x1 (IntKind.wrap .i64 (x2 + (1 : Int))) ((sub x3 (0 : Nat) (List.length x3)) ++ (x2 :: ([] : List ((Sh.int IntKind.i64).T)))))
     (none))
    (nx x0 x1 (IntKind.wrap .i64 (x2 + (1 : Int))) x3))
   (none))
  (k0 x3)
noncomputable def class_Files_l0 (N : Nat) {R : Type} (k0 : (List (Int)) → Option R) : Nat → (List ((ByteArray) × ((Bool) × (Int)))) → (Int) → (Int) → (List (Int)) → Option R
  | 0, _, _, _, _ => none
  | n + 1, x0, x1, x2, x3 => class_Files_l0_T0 N (fun x0 x1 x2 x3 => class_Files_l0 N k0 n x0 x1 x2 x3) k0 x0 x1 x2 x3
noncomputable def class_Files_T (N : Nat) (w0 : class_Files_l0_Ty) {R : Type} (x0 : List ((ByteArray) × ((Bool) × (Int)))) (x1 : List (Int)) (x2 : Int) (x3 : Int) (x4 : Int) (k0 : (List (Int)) → Option R) : Option R :=
  w0
  (fun l413 => k0 l413)
  N x0 (Nat.cast (List.length x0) : Int) (0 : Int) ([] : List ((Sh.int IntKind.i64).T))
noncomputable def class_Files (N : Nat) {R : Type} (x0 : List ((ByteArray) × ((Bool) × (Int)))) (x1 : List (Int)) (x2 : Int) (x3 : Int) (x4 : Int) (k0 : (List (Int)) → Option R) : Option R := class_Files_T N (@class_Files_l0 N) x0 x1 x2 x3 x4 k0
abbrev class_fits_Ty : Type 1 := {R : Type} → (Int) → (Int) → ((Bool) → Option R) → Option R
noncomputable def class_fits_T (N : Nat) {R : Type} (x0 : Int) (x1 : Int) (k0 : (Bool) → Option R) : Option R :=
  br (decide ((0 : Int) ≤ x0))
  (k0 (decide (x0 ≤ x1)))
  (k0 false)
noncomputable def class_fits (N : Nat) {R : Type} (x0 : Int) (x1 : Int) (k0 : (Bool) → Option R) : Option R := class_fits_T N x0 x1 k0
abbrev class_May_66e6_l0_Ty : Type 1 := {R : Type} → ((Bool) → (List ((ByteArray) × ((Bool) × (Int)))) → (List (Int)) → (Int) → (Int) → (Int) → Option R) → ((List ((ByteArray) × ((Bool) × (Int)))) → (List (Int)) → (Int) → (Int) → (Int) → Option R) → Nat → (Int) → (Int) → (List ((ByteArray) × ((Bool) × (Int)))) → (List (Int)) → (Int) → (Int) → (Int) → Option R
abbrev class_May_66e6_l1_Ty : Type 1 := {R : Type} → ((Bool) → (List ((ByteArray) × ((Bool) × (Int)))) → (List (Int)) → (Int) → (Int) → (Int) → Option R) → ((List ((ByteArray) × ((Bool) × (Int)))) → (List (Int)) → (Int) → (Int) → (Int) → Option R) → Nat → (Int) → (Int) → (List ((ByteArray) × ((Bool) × (Int)))) → (List (Int)) → (Int) → (Int) → (Int) → Option R
abbrev class_May_66e6_Ty : Type 1 := {R : Type} → (Int) → (Int) → (Int) → (List ((ByteArray) × ((Bool) × (Int)))) → (List (Int)) → ((Bool) → (List ((ByteArray) × ((Bool) × (Int)))) → (List (Int)) → Option R) → Option R
noncomputable def class_May_66e6_l0_T0 (N : Nat) (c0 : class_fits_Ty) (c1 : class_Files_66e6_Ty) (c2 : class_Files_Ty) (c3 : tree_New_644a_Ty) (c4 : tree_New_Ty) (w1 : class_May_66e6_l1_Ty) {R : Type} (nx : (Int) → (Int) → (List ((ByteArray) × ((Bool) × (Int)))) → (List (Int)) → (Int) → (Int) → (Int) → Option R) (k0 : (Bool) → (List ((ByteArray) × ((Bool) × (Int)))) → (List (Int)) → (Int) → (Int) → (Int) → Option R) (k1 : (List ((ByteArray) × ((Bool) × (Int)))) → (List (Int)) → (Int) → (Int) → (Int) → Option R) (x0 : Int) (x1 : Int) (x2 : List ((ByteArray) × ((Bool) × (Int)))) (x3 : List (Int)) (x4 : Int) (x5 : Int) (x6 : Int) : Option R :=
  br (decide (x1 < x0))
  (br (inB x1 (List.length x2))
   (br (decide ((Int.toNat x1) < (List.length x2)))
    (c0 (List.getD x2 (Int.toNat x1) ((bs []) , (false , (0 : Int)))).2.2 (3 : Int)
     (fun b46 => br (!(!b46))
      (br (List.getD x2 (Int.toNat x1) ((bs []) , (false , (0 : Int)))).2.1
       (br (!(decide ((List.getD x2 (Int.toNat x1) ((bs []) , (false , (0 : Int)))).2.2 = (0 : Int))))
        (k0 false x2 x3 x4 x5 x6)
        (nx x0 (IntKind.wrap .i64 (x1 + (1 : Int))) x2 x3 x4 x5 x6))
       (nx x0 (IntKind.wrap .i64 (x1 + (1 : Int))) x2 x3 x4 x5 x6))
      (k0 false x2 x3 x4 x5 x6)))
    (none))
   (none))
  (k1 x2 x3 x4 x5 x6)
noncomputable def class_May_66e6_l1_T0 (N : Nat) (c0 : class_fits_Ty) (c1 : class_Files_66e6_Ty) (c2 : class_Files_Ty) (c3 : tree_New_644a_Ty) (c4 : tree_New_Ty) {R : Type} (nx : (Int) → (Int) → (List ((ByteArray) × ((Bool) × (Int)))) → (List (Int)) → (Int) → (Int) → (Int) → Option R) (k0 : (Bool) → (List ((ByteArray) × ((Bool) × (Int)))) → (List (Int)) → (Int) → (Int) → (Int) → Option R) (k1 : (List ((ByteArray) × ((Bool) × (Int)))) → (List (Int)) → (Int) → (Int) → (Int) → Option R) (x0 : Int) (x1 : Int) (x2 : List ((ByteArray) × ((Bool) × (Int)))) (x3 : List (Int)) (x4 : Int) (x5 : Int) (x6 : Int) : Option R :=
  br (decide (x1 < x0))
  (br (inB x1 (List.length x3))
   (br (decide ((Int.toNat x1) < (List.length x3)))
    (c0 (List.getD x3 (Int.toNat x1) (0 : Int)) (3 : Int)
     (fun b58 => br (!b58)
      (k0 false x2 x3 x4 x5 x6)
      (nx x0 (IntKind.wrap .i64 (x1 + (1 : Int))) x2 x3 x4 x5 x6)))
    (none))
   (none))
  (k1 x2 x3 x4 x5 x6)
noncomputable def class_May_66e6_l1 (N : Nat) {R : Type} (k0 : (Bool) → (List ((ByteArray) × ((Bool) × (Int)))) → (List (Int)) → (Int) → (Int) → (Int) → Option R) (k1 : (List ((ByteArray) × ((Bool) × (Int)))) → (List (Int)) → (Int) → (Int) → (Int) → Option R) : Nat → (Int) → (Int) → (List ((ByteArray) × ((Bool) × (Int)))) → (List (Int)) → (Int) → (Int) → (Int) → Option R
  | 0, _, _, _, _, _, _, _ => none
  | n + 1, x0, x1, x2, x3, x4, x5, x6 => class_May_66e6_l1_T0 N (@class_fits N) (@class_Files_66e6 N) (@class_Files N) (@tree_New_644a N) (@tree_New N) (fun x0 x1 x2 x3 x4 x5 x6 => class_May_66e6_l1 N k0 k1 n x0 x1 x2 x3 x4 x5 x6) k0 k1 x0 x1 x2 x3 x4 x5 x6
noncomputable def class_May_66e6_l0 (N : Nat) {R : Type} (k0 : (Bool) → (List ((ByteArray) × ((Bool) × (Int)))) → (List (Int)) → (Int) → (Int) → (Int) → Option R) (k1 : (List ((ByteArray) × ((Bool) × (Int)))) → (List (Int)) → (Int) → (Int) → (Int) → Option R) : Nat → (Int) → (Int) → (List ((ByteArray) × ((Bool) × (Int)))) → (List (Int)) → (Int) → (Int) → (Int) → Option R
  | 0, _, _, _, _, _, _, _ => none
  | n + 1, x0, x1, x2, x3, x4, x5, x6 => class_May_66e6_l0_T0 N (@class_fits N) (@class_Files_66e6 N) (@class_Files N) (@tree_New_644a N) (@tree_New N) (@class_May_66e6_l1 N) (fun x0 x1 x2 x3 x4 x5 x6 => class_May_66e6_l0 N k0 k1 n x0 x1 x2 x3 x4 x5 x6) k0 k1 x0 x1 x2 x3 x4 x5 x6
noncomputable def class_May_66e6_T (N : Nat) (c0 : class_fits_Ty) (c1 : class_Files_66e6_Ty) (c2 : class_Files_Ty) (c3 : tree_New_644a_Ty) (c4 : tree_New_Ty) (w0 : class_May_66e6_l0_Ty) (w1 : class_May_66e6_l1_Ty) {R : Type} (x0 : Int) (x1 : Int) (x2 : Int) (x3 : List ((ByteArray) × ((Bool) × (Int)))) (x4 : List (Int)) (k0 : (Bool) → (List ((ByteArray) × ((Bool) × (Int)))) → (List (Int)) → Option R) : Option R :=
  c3 x3
  (fun i38 l39 => br (!(!(decide (i38 = (0 : Int)))))
   (c1 x0 x1 x2 l39 x4
    (fun l43 l44 l45 => br (!(decide ((4 : Int) < (Nat.cast (List.length l45) : Int))))
     (br (decide ((2 : Int) < (Nat.cast (List.length l44) : Int)))
      (k0 false l43 l44)
      (w0
       (fun b47 l48 l49 i50 i51 i52 => k0 b47 l48 l49)
       (fun l53 l54 i55 i56 i57 => w1
        (fun b59 l60 l61 i62 i63 i64 => k0 b59 l60 l61)
        (fun l65 l66 i67 i68 i69 => c0 i67 (6 : Int)
         (fun b70 => br b70
          (c0 i68 i67
           (fun b71 => br b71
            (c0 i69 (400 : Int)
             (fun b72 => k0 b72 l65 l66))
            (k0 false l65 l66)))
          (k0 false l65 l66)))
        N (Nat.cast (List.length l54) : Int) (0 : Int) l53 l54 i55 i56 i57)
       N (Nat.cast (List.length l43) : Int) (0 : Int) l43 l44 x0 x1 x2))
     (k0 false l43 l44)))
   (k0 false l39 x4))
  (fun i73 l74 i75 l76 => br (!(!(decide (i73 = (0 : Int)))))
   (c1 x0 x1 x2 l74 x4
    (fun l77 l78 l79 => br (!(decide ((4 : Int) < (Nat.cast (List.length l79) : Int))))
     (br (decide ((2 : Int) < (Nat.cast (List.length l78) : Int)))
      (k0 false l77 l78)
      (w0
       (fun b80 l81 l82 i83 i84 i85 => k0 b80 l81 l82)
       (fun l86 l87 i88 i89 i90 => w1
        (fun b91 l92 l93 i94 i95 i96 => k0 b91 l92 l93)
        (fun l97 l98 i99 i100 i101 => c0 i99 (6 : Int)
         (fun b102 => br b102
          (c0 i100 i99
           (fun b103 => br b103
            (c0 i101 (400 : Int)
             (fun b104 => k0 b104 l97 l98))
            (k0 false l97 l98)))
          (k0 false l97 l98)))
        N (Nat.cast (List.length l87) : Int) (0 : Int) l86 l87 i88 i89 i90)
       N (Nat.cast (List.length l77) : Int) (0 : Int) l77 l78 x0 x1 x2))
     (k0 false l77 l78)))
   (k0 false l74 x4))
noncomputable def class_May_66e6 (N : Nat) {R : Type} (x0 : Int) (x1 : Int) (x2 : Int) (x3 : List ((ByteArray) × ((Bool) × (Int)))) (x4 : List (Int)) (k0 : (Bool) → (List ((ByteArray) × ((Bool) × (Int)))) → (List (Int)) → Option R) : Option R := class_May_66e6_T N (@class_fits N) (@class_Files_66e6 N) (@class_Files N) (@tree_New_644a N) (@tree_New N) (@class_May_66e6_l0 N) (@class_May_66e6_l1 N) x0 x1 x2 x3 x4 k0
abbrev class_May_l0_Ty : Type 1 := {R : Type} → ((Bool) → (List ((ByteArray) × ((Bool) × (Int)))) → (List (Int)) → (Int) → (Int) → (Int) → Option R) → ((List ((ByteArray) × ((Bool) × (Int)))) → (List (Int)) → (Int) → (Int) → (Int) → Option R) → Nat → (List ((ByteArray) × ((Bool) × (Int)))) → (Int) → (Int) → (List ((ByteArray) × ((Bool) × (Int)))) → (List (Int)) → (Int) → (Int) → (Int) → Option R
abbrev class_May_l1_Ty : Type 1 := {R : Type} → ((Bool) → (List ((ByteArray) × ((Bool) × (Int)))) → (List (Int)) → (Int) → (Int) → (Int) → Option R) → ((List ((ByteArray) × ((Bool) × (Int)))) → (List (Int)) → (Int) → (Int) → (Int) → Option R) → Nat → (List (Int)) → (Int) → (Int) → (List ((ByteArray) × ((Bool) × (Int)))) → (List (Int)) → (Int) → (Int) → (Int) → Option R
abbrev class_May_Ty : Type 1 := {R : Type} → (List ((ByteArray) × ((Bool) × (Int)))) → (List (Int)) → (Int) → (Int) → (Int) → ((Bool) → Option R) → Option R
noncomputable def class_May_l0_T0 (N : Nat) (c0 : class_fits_Ty) (c1 : class_Files_66e6_Ty) (c2 : class_Files_Ty) (c3 : tree_New_644a_Ty) (c4 : tree_New_Ty) (w1 : class_May_l1_Ty) {R : Type} (nx : (List ((ByteArray) × ((Bool) × (Int)))) → (Int) → (Int) → (List ((ByteArray) × ((Bool) × (Int)))) → (List (Int)) → (Int) → (Int) → (Int) → Option R) (k0 : (Bool) → (List ((ByteArray) × ((Bool) × (Int)))) → (List (Int)) → (Int) → (Int) → (Int) → Option R) (k1 : (List ((ByteArray) × ((Bool) × (Int)))) → (List (Int)) → (Int) → (Int) → (Int) → Option R) (x0 : List ((ByteArray) × ((Bool) × (Int)))) (x1 : Int) (x2 : Int) (x3 : List ((ByteArray) × ((Bool) × (Int)))) (x4 : List (Int)) (x5 : Int) (x6 : Int) (x7 : Int) : Option R :=
  br (decide (x2 < x1))
  (br (inB x2 (List.length x0))
   (c0 (List.getD x0 (Int.toNat x2) ((bs []) , (false , (0 : Int)))).2.2 (3 : Int)
    (fun b435 => br (!(!b435))
     (br (List.getD x0 (Int.toNat x2) ((bs []) , (false , (0 : Int)))).2.1
      (br (!(decide ((List.getD x0 (Int.toNat x2) ((bs []) , (false , (0 : Int)))).2.2 = (0 : Int))))
       (k0 false x3 x4 x5 x6 x7)
       (nx x0 x1 (IntKind.wrap .i64 (x2 + (1 : Int))) x3 x4 x5 x6 x7))
      (nx x0 x1 (IntKind.wrap .i64 (x2 + (1 : Int))) x3 x4 x5 x6 x7))
     (k0 false x3 x4 x5 x6 x7)))
   (none))
  (k1 x3 x4 x5 x6 x7)
noncomputable def class_May_l1_T0 (N : Nat) (c0 : class_fits_Ty) (c1 : class_Files_66e6_Ty) (c2 : class_Files_Ty) (c3 : tree_New_644a_Ty) (c4 : tree_New_Ty) {R : Type} (nx : (List (Int)) → (Int) → (Int) → (List ((ByteArray) × ((Bool) × (Int)))) → (List (Int)) → (Int) → (Int) → (Int) → Option R) (k0 : (Bool) → (List ((ByteArray) × ((Bool) × (Int)))) → (List (Int)) → (Int) → (Int) → (Int) → Option R) (k1 : (List ((ByteArray) × ((Bool) × (Int)))) → (List (Int)) → (Int) → (Int) → (Int) → Option R) (x0 : List (Int)) (x1 : Int) (x2 : Int) (x3 : List ((ByteArray) × ((Bool) × (Int)))) (x4 : List (Int)) (x5 : Int) (x6 : Int) (x7 : Int) : Option R :=
  br (decide (x2 < x1))
  (br (inB x2 (List.length x0))
   (c0 (List.getD x0 (Int.toNat x2) (0 : Int)) (3 : Int)
    (fun b447 => br (!b447)
     (k0 false x3 x4 x5 x6 x7)
     (nx x0 x1 (IntKind.wrap .i64 (x2 + (1 : Int))) x3 x4 x5 x6 x7)))
   (none))
  (k1 x3 x4 x5 x6 x7)
noncomputable def class_May_l1 (N : Nat) {R : Type} (k0 : (Bool) → (List ((ByteArray) × ((Bool) × (Int)))) → (List (Int)) → (Int) → (Int) → (Int) → Option R) (k1 : (List ((ByteArray) × ((Bool) × (Int)))) → (List (Int)) → (Int) → (Int) → (Int) → Option R) : Nat → (List (Int)) → (Int) → (Int) → (List ((ByteArray) × ((Bool) × (Int)))) → (List (Int)) → (Int) → (Int) → (Int) → Option R
  | 0, _, _, _, _, _, _, _, _ => none
  | n + 1, x0, x1, x2, x3, x4, x5, x6, x7 => class_May_l1_T0 N (@class_fits N) (@class_Files_66e6 N) (@class_Files N) (@tree_New_644a N) (@tree_New N) (fun x0 x1 x2 x3 x4 x5 x6 x7 => class_May_l1 N k0 k1 n x0 x1 x2 x3 x4 x5 x6 x7) k0 k1 x0 x1 x2 x3 x4 x5 x6 x7
noncomputable def class_May_l0 (N : Nat) {R : Type} (k0 : (Bool) → (List ((ByteArray) × ((Bool) × (Int)))) → (List (Int)) → (Int) → (Int) → (Int) → Option R) (k1 : (List ((ByteArray) × ((Bool) × (Int)))) → (List (Int)) → (Int) → (Int) → (Int) → Option R) : Nat → (List ((ByteArray) × ((Bool) × (Int)))) → (Int) → (Int) → (List ((ByteArray) × ((Bool) × (Int)))) → (List (Int)) → (Int) → (Int) → (Int) → Option R
  | 0, _, _, _, _, _, _, _, _ => none
  | n + 1, x0, x1, x2, x3, x4, x5, x6, x7 => class_May_l0_T0 N (@class_fits N) (@class_Files_66e6 N) (@class_Files N) (@tree_New_644a N) (@tree_New N) (@class_May_l1 N) (fun x0 x1 x2 x3 x4 x5 x6 x7 => class_May_l0 N k0 k1 n x0 x1 x2 x3 x4 x5 x6 x7) k0 k1 x0 x1 x2 x3 x4 x5 x6 x7
noncomputable def class_May_T (N : Nat) (c0 : class_fits_Ty) (c1 : class_Files_66e6_Ty) (c2 : class_Files_Ty) (c3 : tree_New_644a_Ty) (c4 : tree_New_Ty) (w0 : class_May_l0_Ty) (w1 : class_May_l1_Ty) {R : Type} (x0 : List ((ByteArray) × ((Bool) × (Int)))) (x1 : List (Int)) (x2 : Int) (x3 : Int) (x4 : Int) (k0 : (Bool) → Option R) : Option R :=
  c4 x0
  (fun i433 => br (!(!(decide (i433 = (0 : Int)))))
   (c2 x0 x1 x2 x3 x4
    (fun l434 => br (!(decide ((4 : Int) < (Nat.cast (List.length l434) : Int))))
     (br (decide ((2 : Int) < (Nat.cast (List.length x1) : Int)))
      (k0 false)
      (w0
       (fun b436 l437 l438 i439 i440 i441 => k0 b436)
       (fun l442 l443 i444 i445 i446 => w1
        (fun b448 l449 l450 i451 i452 i453 => k0 b448)
        (fun l454 l455 i456 i457 i458 => c0 i456 (6 : Int)
         (fun b459 => br b459
          (c0 i457 i456
           (fun b460 => br b460
            (c0 i458 (400 : Int)
             (fun b461 => k0 b461))
            (k0 false)))
          (k0 false)))
        N l443 (Nat.cast (List.length l443) : Int) (0 : Int) l442 l443 i444 i445 i446)
       N x0 (Nat.cast (List.length x0) : Int) (0 : Int) x0 x1 x2 x3 x4))
     (k0 false)))
   (k0 false))
  (fun i462 i463 l464 => br (!(!(decide (i462 = (0 : Int)))))
   (c2 x0 x1 x2 x3 x4
    (fun l465 => br (!(decide ((4 : Int) < (Nat.cast (List.length l465) : Int))))
     (br (decide ((2 : Int) < (Nat.cast (List.length x1) : Int)))
      (k0 false)
      (w0
       (fun b466 l467 l468 i469 i470 i471 => k0 b466)
       (fun l472 l473 i474 i475 i476 => w1
        (fun b477 l478 l479 i480 i481 i482 => k0 b477)
        (fun l483 l484 i485 i486 i487 => c0 i485 (6 : Int)
         (fun b488 => br b488
          (c0 i486 i485
           (fun b489 => br b489
            (c0 i487 (400 : Int)
             (fun b490 => k0 b490))
            (k0 false)))
          (k0 false)))
        N l473 (Nat.cast (List.length l473) : Int) (0 : Int) l472 l473 i474 i475 i476)
       N x0 (Nat.cast (List.length x0) : Int) (0 : Int) x0 x1 x2 x3 x4))
     (k0 false)))
   (k0 false))
noncomputable def class_May (N : Nat) {R : Type} (x0 : List ((ByteArray) × ((Bool) × (Int)))) (x1 : List (Int)) (x2 : Int) (x3 : Int) (x4 : Int) (k0 : (Bool) → Option R) : Option R := class_May_T N (@class_fits N) (@class_Files_66e6 N) (@class_Files N) (@tree_New_644a N) (@tree_New N) (@class_May_l0 N) (@class_May_l1 N) x0 x1 x2 x3 x4 k0
abbrev fails_May_e7e3_l0_Ty : Type 1 := {R : Type} → ((Int) → (Int) → (Int) → (List (Bool)) → Option R) → Nat → (Int) → (Int) → (Int) → (Int) → (Int) → (List (Bool)) → Option R
abbrev fails_May_e7e3_Ty : Type 1 := {R : Type} → (Int) → (Int) → (List (Bool)) → ((Bool) → (List (Bool)) → Option R) → Option R
noncomputable def fails_May_e7e3_l0_T0 (N : Nat) {R : Type} (nx : (Int) → (Int) → (Int) → (Int) → (Int) → (List (Bool)) → Option R) (k0 : (Int) → (Int) → (Int) → (List (Bool)) → Option R) (x0 : Int) (x1 : Int) (x2 : Int) (x3 : Int) (x4 : Int) (x5 : List (Bool)) : Option R :=
  br (decide (x4 < x3))
  (br (inB x4 (List.length x5))
   (br (decide ((Int.toNat x4) < (List.length x5)))
    (br (List.getD x5 (Int.toNat x4) false)
     (nx x0 x1 (IntKind.wrap .i64 (x2 + (1 : Int))) x3 (IntKind.wrap .i64 (x4 + (1 : Int))) x5)
     (nx x0 x1 x2 x3 (IntKind.wrap .i64 (x4 + (1 : Int))) x5))
    (none))
   (none))
  (k0 x0 x1 x2 x5)
noncomputable def fails_May_e7e3_l0 (N : Nat) {R : Type} (k0 : (Int) → (Int) → (Int) → (List (Bool)) → Option R) : Nat → (Int) → (Int) → (Int) → (Int) → (Int) → (List (Bool)) → Option R
  | 0, _, _, _, _, _, _ => none
  | n + 1, x0, x1, x2, x3, x4, x5 => fails_May_e7e3_l0_T0 N (fun x0 x1 x2 x3 x4 x5 => fails_May_e7e3_l0 N k0 n x0 x1 x2 x3 x4 x5) k0 x0 x1 x2 x3 x4 x5
noncomputable def fails_May_e7e3_T (N : Nat) (w0 : fails_May_e7e3_l0_Ty) {R : Type} (x0 : Int) (x1 : Int) (x2 : List (Bool)) (k0 : (Bool) → (List (Bool)) → Option R) : Option R :=
  w0
  (fun i114 i115 i116 l117 => br (decide ((Nat.cast (List.length l117) : Int) = i114))
   (br (decide (i114 ≤ (6 : Int)))
    (k0 (decide (i116 ≤ i115)) l117)
    (k0 false l117))
   (k0 false l117))
  N x0 x1 (0 : Int) (Nat.cast (List.length x2) : Int) (0 : Int) x2
noncomputable def fails_May_e7e3 (N : Nat) {R : Type} (x0 : Int) (x1 : Int) (x2 : List (Bool)) (k0 : (Bool) → (List (Bool)) → Option R) : Option R := fails_May_e7e3_T N (@fails_May_e7e3_l0 N) x0 x1 x2 k0
abbrev class_Caps_66e6_l0_Ty : Type 1 := {R : Type} → ((List ((ByteArray) × ((Bool) × (Int)))) → (List (Int)) → (Int) → (Int) → (Int) → (List (Int)) → Option R) → Nat → (Int) → (Int) → (List ((ByteArray) × ((Bool) × (Int)))) → (List (Int)) → (Int) → (Int) → (Int) → (List (Int)) → (List (Int)) → Option R
abbrev class_Caps_66e6_Ty : Type 1 := {R : Type} → (Int) → (Int) → (Int) → (List ((ByteArray) × ((Bool) × (Int)))) → (List (Int)) → ((List ((ByteArray) × ((Bool) × (Int)))) → (List (Int)) → (List (Int)) → Option R) → Option R
noncomputable def class_Caps_66e6_l0_T0 (N : Nat) (c0 : class_Files_66e6_Ty) (c1 : class_Files_Ty) {R : Type} (nx : (Int) → (Int) → (List ((ByteArray) × ((Bool) × (Int)))) → (List (Int)) → (Int) → (Int) → (Int) → (List (Int)) → (List (Int)) → Option R) (k0 : (List ((ByteArray) × ((Bool) × (Int)))) → (List (Int)) → (Int) → (Int) → (Int) → (List (Int)) → Option R) (x0 : Int) (x1 : Int) (x2 : List ((ByteArray) × ((Bool) × (Int)))) (x3 : List (Int)) (x4 : Int) (x5 : Int) (x6 : Int) (x7 : List (Int)) (x8 : List (Int)) : Option R :=
  br (decide (x1 < x0))
  (br (inB x1 (List.length x8))
   (br (decide ((Int.toNat x1) < (List.length x8)))
    (br (inB (List.getD x8 (Int.toNat x1) (0 : Int)) (List.length x2))
     (br (decide ((Int.toNat (List.getD x8 (Int.toNat x1) (0 : Int))) < (List.length x2)))
      (br (((fits (0 : Nat) (List.length x7) x7) && (decide ((((List.length x7) + (1 : Nat)) * (8 : Nat)) ≤ (70368744177664 : Nat)))) && true)
       (nx x0 (IntKind.wrap .i64 (x1 + (1 : Int))) x2 x3 x4 x5 x6 ((sub x7 (0 : Nat) (List.length x7)) ++ ((List.getD x2 (Int.toNat (List.getD x8 (Int.toNat x1) (0 : Int))) ((bs []) , (false , (0 : Int)))).2.2 :: ([] : List ((Sh.int IntKind.i64).T)))) x8)
       (none))
      (none))
     (none))
    (none))
   (none))
  (k0 x2 x3 x4 x5 x6 x7)
noncomputable def class_Caps_66e6_l0 (N : Nat) {R : Type} (k0 : (List ((ByteArray) × ((Bool) × (Int)))) → (List (Int)) → (Int) → (Int) → (Int) → (List (Int)) → Option R) : Nat → (Int) → (Int) → (List ((ByteArray) × ((Bool) × (Int)))) → (List (Int)) → (Int) → (Int) → (Int) → (List (Int)) → (List (Int)) → Option R
  | 0, _, _, _, _, _, _, _, _, _ => none
  | n + 1, x0, x1, x2, x3, x4, x5, x6, x7, x8 => class_Caps_66e6_l0_T0 N (@class_Files_66e6 N) (@class_Files N) (fun x0 x1 x2 x3 x4 x5 x6 x7 x8 => class_Caps_66e6_l0 N k0 n x0 x1 x2 x3 x4 x5 x6 x7 x8) k0 x0 x1 x2 x3 x4 x5 x6 x7 x8
noncomputable def class_Caps_66e6_T (N : Nat) (c0 : class_Files_66e6_Ty) (c1 : class_Files_Ty) (w0 : class_Caps_66e6_l0_Ty) {R : Type} (x0 : Int) (x1 : Int) (x2 : Int) (x3 : List ((ByteArray) × ((Bool) × (Int)))) (x4 : List (Int)) (k0 : (List ((ByteArray) × ((Bool) × (Int)))) → (List (Int)) → (List (Int)) → Option R) : Option R :=
  c0 x0 x1 x2 x3 x4
  (fun l123 l124 l125 => w0
   (fun l126 l127 i128 i129 i130 l131 => br (fits (0 : Nat) (List.length l127) l127)
    (br (((fits (0 : Nat) (List.length l131) l131) && (decide ((((List.length l131) + (List.length (sub l127 (0 : Nat) (List.length l127)))) * (8 : Nat)) ≤ (70368744177664 : Nat)))) && true)
     (k0 l126 l127 ((sub l131 (0 : Nat) (List.length l131)) ++ (sub l127 (0 : Nat) (List.length l127))))
     (none))
    (none))
   N (Nat.cast (List.length l125) : Int) (0 : Int) l123 l124 x0 x1 x2 ([] : List ((Sh.int IntKind.i64).T)) l125)
noncomputable def class_Caps_66e6 (N : Nat) {R : Type} (x0 : Int) (x1 : Int) (x2 : Int) (x3 : List ((ByteArray) × ((Bool) × (Int)))) (x4 : List (Int)) (k0 : (List ((ByteArray) × ((Bool) × (Int)))) → (List (Int)) → (List (Int)) → Option R) : Option R := class_Caps_66e6_T N (@class_Files_66e6 N) (@class_Files N) (@class_Caps_66e6_l0 N) x0 x1 x2 x3 x4 k0
abbrev class_Caps_l0_Ty : Type 1 := {R : Type} → ((List ((ByteArray) × ((Bool) × (Int)))) → (List (Int)) → (Int) → (Int) → (Int) → (List (Int)) → Option R) → Nat → (Int) → (Int) → (List ((ByteArray) × ((Bool) × (Int)))) → (List (Int)) → (Int) → (Int) → (Int) → (List (Int)) → (List (Int)) → Option R
abbrev class_Caps_Ty : Type 1 := {R : Type} → (List ((ByteArray) × ((Bool) × (Int)))) → (List (Int)) → (Int) → (Int) → (Int) → ((List (Int)) → Option R) → Option R
noncomputable def class_Caps_l0_T0 (N : Nat) (c0 : class_Files_66e6_Ty) (c1 : class_Files_Ty) {R : Type} (nx : (Int) → (Int) → (List ((ByteArray) × ((Bool) × (Int)))) → (List (Int)) → (Int) → (Int) → (Int) → (List (Int)) → (List (Int)) → Option R) (k0 : (List ((ByteArray) × ((Bool) × (Int)))) → (List (Int)) → (Int) → (Int) → (Int) → (List (Int)) → Option R) (x0 : Int) (x1 : Int) (x2 : List ((ByteArray) × ((Bool) × (Int)))) (x3 : List (Int)) (x4 : Int) (x5 : Int) (x6 : Int) (x7 : List (Int)) (x8 : List (Int)) : Option R :=
  br (decide (x1 < x0))
  (br (inB x1 (List.length x8))
   (br (decide ((Int.toNat x1) < (List.length x8)))
    (br (inB (List.getD x8 (Int.toNat x1) (0 : Int)) (List.length x2))
     (br (((fits (0 : Nat) (List.length x7) x7) && (decide ((((List.length x7) + (1 : Nat)) * (8 : Nat)) ≤ (70368744177664 : Nat)))) && true)
      (nx x0 (IntKind.wrap .i64 (x1 + (1 : Int))) x2 x3 x4 x5 x6 ((sub x7 (0 : Nat) (List.length x7)) ++ ((List.getD x2 (Int.toNat (List.getD x8 (Int.toNat x1) (0 : Int))) ((bs []) , (false , (0 : Int)))).2.2 :: ([] : List ((Sh.int IntKind.i64).T)))) x8)
      (none))
     (none))
    (none))
   (none))
  (k0 x2 x3 x4 x5 x6 x7)
noncomputable def class_Caps_l0 (N : Nat) {R : Type} (k0 : (List ((ByteArray) × ((Bool) × (Int)))) → (List (Int)) → (Int) → (Int) → (Int) → (List (Int)) → Option R) : Nat → (Int) → (Int) → (List ((ByteArray) × ((Bool) × (Int)))) → (List (Int)) → (Int) → (Int) → (Int) → (List (Int)) → (List (Int)) → Option R
  | 0, _, _, _, _, _, _, _, _, _ => none
  | n + 1, x0, x1, x2, x3, x4, x5, x6, x7, x8 => class_Caps_l0_T0 N (@class_Files_66e6 N) (@class_Files N) (fun x0 x1 x2 x3 x4 x5 x6 x7 x8 => class_Caps_l0 N k0 n x0 x1 x2 x3 x4 x5 x6 x7 x8) k0 x0 x1 x2 x3 x4 x5 x6 x7 x8
noncomputable def class_Caps_T (N : Nat) (c0 : class_Files_66e6_Ty) (c1 : class_Files_Ty) (w0 : class_Caps_l0_Ty) {R : Type} (x0 : List ((ByteArray) × ((Bool) × (Int)))) (x1 : List (Int)) (x2 : Int) (x3 : Int) (x4 : Int) (k0 : (List (Int)) → Option R) : Option R :=
  c1 x0 x1 x2 x3 x4
  (fun l415 => w0
   (fun l416 l417 i418 i419 i420 l421 => br (((fits (0 : Nat) (List.length l421) l421) && (decide ((((List.length l421) + (List.length l417)) * (8 : Nat)) ≤ (70368744177664 : Nat)))) && true)
    (k0 ((sub l421 (0 : Nat) (List.length l421)) ++ l417))
    (none))
   N (Nat.cast (List.length l415) : Int) (0 : Int) x0 x1 x2 x3 x4 ([] : List ((Sh.int IntKind.i64).T)) l415)
noncomputable def class_Caps (N : Nat) {R : Type} (x0 : List ((ByteArray) × ((Bool) × (Int)))) (x1 : List (Int)) (x2 : Int) (x3 : Int) (x4 : Int) (k0 : (List (Int)) → Option R) : Option R := class_Caps_T N (@class_Files_66e6 N) (@class_Files N) (@class_Caps_l0 N) x0 x1 x2 x3 x4 k0
abbrev class_Has_1e53_l0_Ty : Type 1 := {R : Type} → ((Bool) → (List ((ByteArray) × ((Bool) × (Int)))) → (List (Int)) → (List (List (Int))) → (List (List (Int))) → (List (Bool)) → Option R) → ((List ((ByteArray) × ((Bool) × (Int)))) → (List (Int)) → (List (List (Int))) → (List (List (Int))) → (List (Bool)) → Option R) → Nat → (Int) → (Int) → (Int) → (List ((ByteArray) × ((Bool) × (Int)))) → (List (Int)) → (List (List (Int))) → (List (List (Int))) → (List (Bool)) → (List (Int)) → Option R
abbrev class_Has_1e53_Ty : Type 1 := {R : Type} → (Int) → (Int) → (Int) → (List ((ByteArray) × ((Bool) × (Int)))) → (List (Int)) → (List (List (Int))) → (List (List (Int))) → (List (Bool)) → ((Bool) → (List ((ByteArray) × ((Bool) × (Int)))) → (List (Int)) → (List (List (Int))) → (List (List (Int))) → (List (Bool)) → Option R) → Option R
noncomputable def class_Has_1e53_l0_T0 (N : Nat) (c0 : class_Caps_66e6_Ty) (c1 : class_Caps_Ty) (c2 : fails_May_e7e3_Ty) (c3 : class_May_66e6_Ty) (c4 : class_May_Ty) (c5 : class_Files_66e6_Ty) (c6 : class_Files_Ty) {R : Type} (nx : (Int) → (Int) → (Int) → (List ((ByteArray) × ((Bool) × (Int)))) → (List (Int)) → (List (List (Int))) → (List (List (Int))) → (List (Bool)) → (List (Int)) → Option R) (k0 : (Bool) → (List ((ByteArray) × ((Bool) × (Int)))) → (List (Int)) → (List (List (Int))) → (List (List (Int))) → (List (Bool)) → Option R) (k1 : (List ((ByteArray) × ((Bool) × (Int)))) → (List (Int)) → (List (List (Int))) → (List (List (Int))) → (List (Bool)) → Option R) (x0 : Int) (x1 : Int) (x2 : Int) (x3 : List ((ByteArray) × ((Bool) × (Int)))) (x4 : List (Int)) (x5 : List (List (Int))) (x6 : List (List (Int))) (x7 : List (Bool)) (x8 : List (Int)) : Option R :=
  br (decide (x2 < x1))
  (br (inB x2 (List.length x8))
   (br (decide ((Int.toNat x2) < (List.length x8)))
    (br (decide (x2 < x0))
     (br (inB x2 (List.length x5))
      (br (decide ((Int.toNat x2) < (List.length x5)))
       (br (!(decide ((List.getD x8 (Int.toNat x2) (0 : Int)) < (Nat.cast (List.length (List.getD x5 (Int.toNat x2) (Sh.zero (.isl (.int .u8))))) : Int))))
        (br (decide (x0 ≤ x2))
         (br (inB (IntKind.wrap .i64 (x2 - x0)) (List.length x6))
          (br (decide ((Int.toNat (IntKind.wrap .i64 (x2 - x0))) < (List.length x6)))
           (br (decide ((List.getD x8 (Int.toNat x2) (0 : Int)) < (Nat.cast (List.length (List.getD x6 (Int.toNat (IntKind.wrap .i64 (x2 - x0))) (Sh.zero (.isl (.int .u8))))) : Int)))
            (k0 false x3 x4 x5 x6 x7)
            (nx x0 x1 (IntKind.wrap .i64 (x2 + (1 : Int))) x3 x4 x5 x6 x7 x8))
           (none))
          (none))
         (nx x0 x1 (IntKind.wrap .i64 (x2 + (1 : Int))) x3 x4 x5 x6 x7 x8))
        (k0 false x3 x4 x5 x6 x7))
       (none))
      (none))
     (br (decide (x0 ≤ x2))
      (br (inB (IntKind.wrap .i64 (x2 - x0)) (List.length x6))
       (br (decide ((Int.toNat (IntKind.wrap .i64 (x2 - x0))) < (List.length x6)))
        (br (decide ((List.getD x8 (Int.toNat x2) (0 : Int)) < (Nat.cast (List.length (List.getD x6 (Int.toNat (IntKind.wrap .i64 (x2 - x0))) (Sh.zero (.isl (.int .u8))))) : Int)))
         (k0 false x3 x4 x5 x6 x7)
         (nx x0 x1 (IntKind.wrap .i64 (x2 + (1 : Int))) x3 x4 x5 x6 x7 x8))
        (none))
       (none))
      (nx x0 x1 (IntKind.wrap .i64 (x2 + (1 : Int))) x3 x4 x5 x6 x7 x8)))
    (none))
   (none))
  (k1 x3 x4 x5 x6 x7)
noncomputable def class_Has_1e53_l0 (N : Nat) {R : Type} (k0 : (Bool) → (List ((ByteArray) × ((Bool) × (Int)))) → (List (Int)) → (List (List (Int))) → (List (List (Int))) → (List (Bool)) → Option R) (k1 : (List ((ByteArray) × ((Bool) × (Int)))) → (List (Int)) → (List (List (Int))) → (List (List (Int))) → (List (Bool)) → Option R) : Nat → (Int) → (Int) → (Int) → (List ((ByteArray) × ((Bool) × (Int)))) → (List (Int)) → (List (List (Int))) → (List (List (Int))) → (List (Bool)) → (List (Int)) → Option R
  | 0, _, _, _, _, _, _, _, _, _ => none
  | n + 1, x0, x1, x2, x3, x4, x5, x6, x7, x8 => class_Has_1e53_l0_T0 N (@class_Caps_66e6 N) (@class_Caps N) (@fails_May_e7e3 N) (@class_May_66e6 N) (@class_May N) (@class_Files_66e6 N) (@class_Files N) (fun x0 x1 x2 x3 x4 x5 x6 x7 x8 => class_Has_1e53_l0 N k0 k1 n x0 x1 x2 x3 x4 x5 x6 x7 x8) k0 k1 x0 x1 x2 x3 x4 x5 x6 x7 x8
noncomputable def class_Has_1e53_T (N : Nat) (c0 : class_Caps_66e6_Ty) (c1 : class_Caps_Ty) (c2 : fails_May_e7e3_Ty) (c3 : class_May_66e6_Ty) (c4 : class_May_Ty) (c5 : class_Files_66e6_Ty) (c6 : class_Files_Ty) (w0 : class_Has_1e53_l0_Ty) {R : Type} (x0 : Int) (x1 : Int) (x2 : Int) (x3 : List ((ByteArray) × ((Bool) × (Int)))) (x4 : List (Int)) (x5 : List (List (Int))) (x6 : List (List (Int))) (x7 : List (Bool)) (k0 : (Bool) → (List ((ByteArray) × ((Bool) × (Int)))) → (List (Int)) → (List (List (Int))) → (List (List (Int))) → (List (Bool)) → Option R) : Option R :=
  c5 x0 x1 x2 x3 x4
  (fun l108 l109 l110 => c3 x0 x1 x2 l108 l109
   (fun b111 l112 l113 => br (!(!b111))
    (br (!(!(decide ((Nat.cast (List.length x5) : Int) = (Nat.cast (List.length l110) : Int)))))
     (br (!(!(decide ((Nat.cast (List.length x6) : Int) = (Nat.cast (List.length l113) : Int)))))
      (c2 x0 x1 x7
       (fun b118 l119 => br (!b118)
        (k0 false l112 l113 x5 x6 l119)
        (c0 x0 x1 x2 l112 l113
         (fun l132 l133 l134 => w0
          (fun b135 l136 l137 l138 l139 l140 => k0 b135 l136 l137 l138 l139 l140)
          (fun l141 l142 l143 l144 l145 => k0 true l141 l142 l143 l144 l145)
          N (Nat.cast (List.length l110) : Int) (Nat.cast (List.length l134) : Int) (0 : Int) l132 l133 x5 x6 l119 l134))))
      (k0 false l112 l113 x5 x6 x7))
     (k0 false l112 l113 x5 x6 x7))
    (k0 false l112 l113 x5 x6 x7)))
noncomputable def class_Has_1e53 (N : Nat) {R : Type} (x0 : Int) (x1 : Int) (x2 : Int) (x3 : List ((ByteArray) × ((Bool) × (Int)))) (x4 : List (Int)) (x5 : List (List (Int))) (x6 : List (List (Int))) (x7 : List (Bool)) (k0 : (Bool) → (List ((ByteArray) × ((Bool) × (Int)))) → (List (Int)) → (List (List (Int))) → (List (List (Int))) → (List (Bool)) → Option R) : Option R := class_Has_1e53_T N (@class_Caps_66e6 N) (@class_Caps N) (@fails_May_e7e3 N) (@class_May_66e6 N) (@class_May N) (@class_Files_66e6 N) (@class_Files N) (@class_Has_1e53_l0 N) x0 x1 x2 x3 x4 x5 x6 x7 k0
abbrev slices_Grow___byte__byte_06c2_Ty : Type 1 := {R : Type} → (Int) → ((List (List (Int))) → Option R) → Option R
noncomputable def slices_Grow___byte__byte_06c2_T (N : Nat) {R : Type} (x0 : Int) (k0 : (List (List (Int))) → Option R) : Option R :=
  br (decide (x0 < (0 : Int)))
  (none)
  (br (decide ((0 : Int) < (IntKind.wrap .i64 (x0 - (IntKind.wrap .i64 ((0 : Int) - (0 : Int)))))))
   (br (((decide ((0 : Int) ≤ (IntKind.wrap .i64 (x0 - (IntKind.wrap .i64 ((0 : Int) - (0 : Int))))))) && (decide (((Int.toNat (IntKind.wrap .i64 (x0 - (IntKind.wrap .i64 ((0 : Int) - (0 : Int)))))) * (24 : Nat)) ≤ (70368744177664 : Nat)))) && true)
    (br (leB (0 : Int) (Int.toNat (IntKind.wrap .i64 (x0 - (IntKind.wrap .i64 ((0 : Int) - (0 : Int)))))))
     (br (fits (0 : Nat) (0 : Nat) (List.replicate (Int.toNat (IntKind.wrap .i64 (x0 - (IntKind.wrap .i64 ((0 : Int) - (0 : Int)))))) (Sh.zero (.isl (.int .u8)))))
      (k0 (sub (List.replicate (Int.toNat (IntKind.wrap .i64 (x0 - (IntKind.wrap .i64 ((0 : Int) - (0 : Int)))))) (Sh.zero (.isl (.int .u8)))) (0 : Nat) (0 : Nat)))
      (none))
     (none))
    (none))
   (k0 ([] : List ((Sh.int IntKind.u8).isl.T))))
noncomputable def slices_Grow___byte__byte_06c2 (N : Nat) {R : Type} (x0 : Int) (k0 : (List (List (Int))) → Option R) : Option R := slices_Grow___byte__byte_06c2_T N x0 k0
abbrev slices_Concat___byte__byte_1789_l0_Ty : Type 1 := {R : Type} → ((Int) → (List (List (List (Int)))) → Option R) → Nat → (Int) → (Int) → (Int) → (List (List (List (Int)))) → Option R
abbrev slices_Concat___byte__byte_1789_l1_Ty : Type 1 := {R : Type} → ((List (List (List (Int)))) → (List (List (Int))) → Option R) → Nat → (Int) → (Int) → (List (List (List (Int)))) → (List (List (Int))) → Option R
abbrev slices_Concat___byte__byte_1789_Ty : Type 1 := {R : Type} → (List (List (List (Int)))) → ((List (List (List (Int)))) → (List (List (Int))) → Option R) → Option R
noncomputable def slices_Concat___byte__byte_1789_l0_T0 (N : Nat) (c0 : slices_Grow___byte__byte_06c2_Ty) (w1 : slices_Concat___byte__byte_1789_l1_Ty) {R : Type} (nx : (Int) → (Int) → (Int) → (List (List (List (Int)))) → Option R) (k0 : (Int) → (List (List (List (Int)))) → Option R) (x0 : Int) (x1 : Int) (x2 : Int) (x3 : List (List (List (Int)))) : Option R :=
  br (decide (x2 < x1))
  (br (inB x2 (List.length x3))
   (br (decide ((Int.toNat x2) < (List.length x3)))
    (br (decide ((IntKind.wrap .i64 (x0 + (Nat.cast (List.length (List.getD x3 (Int.toNat x2) (Sh.zero (.isl (.isl (.int .u8)))))) : Int))) < (0 : Int)))
     (none)
     (nx (IntKind.wrap .i64 (x0 + (Nat.cast (List.length (List.getD x3 (Int.toNat x2) (Sh.zero (.isl (.isl (.int .u8)))))) : Int))) x1 (IntKind.wrap .i64 (x2 + (1 : Int))) x3))
    (none))
   (none))
  (k0 x0 x3)
noncomputable def slices_Concat___byte__byte_1789_l1_T0 (N : Nat) (c0 : slices_Grow___byte__byte_06c2_Ty) {R : Type} (nx : (Int) → (Int) → (List (List (List (Int)))) → (List (List (Int))) → Option R) (k0 : (List (List (List (Int)))) → (List (List (Int))) → Option R) (x0 : Int) (x1 : Int) (x2 : List (List (List (Int)))) (x3 : List (List (Int))) : Option R :=
  br (decide (x1 < x0))
  (br (inB x1 (List.length x2))
   (br (decide ((Int.toNat x1) < (List.length x2)))
    (br (((fits (0 : Nat) (List.length x3) x3) && (decide ((((List.length x3) + (List.length (List.getD x2 (Int.toNat x1) (Sh.zero (.isl (.isl (.int .u8))))))) * (24 : Nat)) ≤ (70368744177664 : Nat)))) && true)
     (nx x0 (IntKind.wrap .i64 (x1 + (1 : Int))) x2 ((sub x3 (0 : Nat) (List.length x3)) ++ (List.getD x2 (Int.toNat x1) (Sh.zero (.isl (.isl (.int .u8)))))))
     (none))
    (none))
   (none))
  (k0 x2 x3)
noncomputable def slices_Concat___byte__byte_1789_l1 (N : Nat) {R : Type} (k0 : (List (List (List (Int)))) → (List (List (Int))) → Option R) : Nat → (Int) → (Int) → (List (List (List (Int)))) → (List (List (Int))) → Option R
  | 0, _, _, _, _ => none
  | n + 1, x0, x1, x2, x3 => slices_Concat___byte__byte_1789_l1_T0 N (@slices_Grow___byte__byte_06c2 N) (fun x0 x1 x2 x3 => slices_Concat___byte__byte_1789_l1 N k0 n x0 x1 x2 x3) k0 x0 x1 x2 x3
noncomputable def slices_Concat___byte__byte_1789_l0 (N : Nat) {R : Type} (k0 : (Int) → (List (List (List (Int)))) → Option R) : Nat → (Int) → (Int) → (Int) → (List (List (List (Int)))) → Option R
  | 0, _, _, _, _ => none
  | n + 1, x0, x1, x2, x3 => slices_Concat___byte__byte_1789_l0_T0 N (@slices_Grow___byte__byte_06c2 N) (@slices_Concat___byte__byte_1789_l1 N) (fun x0 x1 x2 x3 => slices_Concat___byte__byte_1789_l0 N k0 n x0 x1 x2 x3) k0 x0 x1 x2 x3
noncomputable def slices_Concat___byte__byte_1789_T (N : Nat) (c0 : slices_Grow___byte__byte_06c2_Ty) (w0 : slices_Concat___byte__byte_1789_l0_Ty) (w1 : slices_Concat___byte__byte_1789_l1_Ty) {R : Type} (x0 : List (List (List (Int)))) (k0 : (List (List (List (Int)))) → (List (List (Int))) → Option R) : Option R :=
  w0
  (fun i152 l153 => c0 i152
   (fun l154 => w1
    (fun l155 l156 => k0 l155 l156)
    N (Nat.cast (List.length l153) : Int) (0 : Int) l153 l154))
  N (0 : Int) (Nat.cast (List.length x0) : Int) (0 : Int) x0
noncomputable def slices_Concat___byte__byte_1789 (N : Nat) {R : Type} (x0 : List (List (List (Int)))) (k0 : (List (List (List (Int)))) → (List (List (Int))) → Option R) : Option R := slices_Concat___byte__byte_1789_T N (@slices_Grow___byte__byte_06c2 N) (@slices_Concat___byte__byte_1789_l0 N) (@slices_Concat___byte__byte_1789_l1 N) x0 k0
abbrev cast_Env_727c_l0_Ty : Type 1 := {R : Type} → ((List ((ByteArray) × ((Bool) × (Int)))) → (List (Int)) → (List (List (Int))) → (List (Bool)) → (List (List (Int))) → (List (Int)) → Option R) → Nat → (Int) → (Int) → (List ((ByteArray) × ((Bool) × (Int)))) → (List (Int)) → (List (List (Int))) → (List (Bool)) → (Int) → (Int) → (Int) → (List (List (Int))) → (List (Int)) → (List (List (Int))) → Option R
abbrev cast_Env_727c_l1_Ty : Type 1 := {R : Type} → ((Int) → (Int) → (List ((ByteArray) × ((Bool) × (Int)))) → (List (Int)) → (List (List (Int))) → (List (Bool)) → (Int) → (Int) → (Int) → (List (List (Int))) → (List (Int)) → (List (List (Int))) → Option R) → Nat → (List (Int)) → (Int) → (Int) → (Int) → (Int) → (List ((ByteArray) × ((Bool) × (Int)))) → (List (Int)) → (List (List (Int))) → (List (Bool)) → (Int) → (Int) → (Int) → (List (List (Int))) → (List (Int)) → (List (List (Int))) → Option R
abbrev cast_Env_727c_l2_Ty : Type 1 := {R : Type} → ((List ((ByteArray) × ((Bool) × (Int)))) → (List (Int)) → (List (List (Int))) → (List (Bool)) → (List (Int)) → Option R) → Nat → (Int) → (Int) → (List ((ByteArray) × ((Bool) × (Int)))) → (List (Int)) → (List (List (Int))) → (List (Bool)) → (List (Int)) → Option R
abbrev cast_Env_727c_Ty : Type 1 := {R : Type} → (Int) → (Int) → (Int) → (List ((ByteArray) × ((Bool) × (Int)))) → (List (Int)) → (List (List (Int))) → (List (Bool)) → ((Int) → (List ((ByteArray) × ((Bool) × (Int)))) → (List (Int)) → (List (List (Int))) → (List (Bool)) → (List (Int)) → Option R) → ((Int) → (List ((ByteArray) × ((Bool) × (Int)))) → (List (Int)) → (List (List (Int))) → (List (Bool)) → (List (Int)) → Option R) → Option R
noncomputable def cast_Env_727c_l0_T0 (N : Nat) (c0 : class_Caps_66e6_Ty) (c1 : class_Caps_Ty) (c2 : slices_Concat___byte__byte_1789_Ty) (c3 : class_Has_1e53_Ty) (c4 : class_May_66e6_Ty) (c5 : class_May_Ty) (w1 : cast_Env_727c_l1_Ty) (w2 : cast_Env_727c_l2_Ty) {R : Type} (nx : (Int) → (Int) → (List ((ByteArray) × ((Bool) × (Int)))) → (List (Int)) → (List (List (Int))) → (List (Bool)) → (Int) → (Int) → (Int) → (List (List (Int))) → (List (Int)) → (List (List (Int))) → Option R) (k0 : (List ((ByteArray) × ((Bool) × (Int)))) → (List (Int)) → (List (List (Int))) → (List (Bool)) → (List (List (Int))) → (List (Int)) → Option R) (x0 : Int) (x1 : Int) (x2 : List ((ByteArray) × ((Bool) × (Int)))) (x3 : List (Int)) (x4 : List (List (Int))) (x5 : List (Bool)) (x6 : Int) (x7 : Int) (x8 : Int) (x9 : List (List (Int))) (x10 : List (Int)) (x11 : List (List (Int))) : Option R :=
  br (decide (x1 < x0))
  (br (inB x1 (List.length x11))
   (br (decide ((Int.toNat x1) < (List.length x11)))
    (br (((fits (0 : Nat) (List.length x10) x10) && (decide ((((List.length x10) + (1 : Nat)) * (2 : Nat)) ≤ (70368744177664 : Nat)))) && true)
     (c0 x6 x7 x8 x2 x3
      (fun l222 l223 l224 => br (inB x1 (List.length l224))
       (br (decide ((Int.toNat x1) < (List.length l224)))
        (w1
         (fun i225 i226 l227 l228 l229 l230 i231 i232 i233 l234 l235 l236 => nx i225 (IntKind.wrap .i64 (i226 + (1 : Int))) l227 l228 l229 l230 i231 i232 i233 l234 l235 l236)
         N (List.getD x11 (Int.toNat x1) (Sh.zero (.isl (.int .u8)))) x0 x1 (List.getD l224 (Int.toNat x1) (0 : Int)) (0 : Int) l222 l223 x4 x5 x6 x7 x8 x9 ((sub x10 (0 : Nat) (List.length x10)) ++ ((IntKind.wrap .u16 (Nat.cast (List.length (List.getD x11 (Int.toNat x1) (Sh.zero (.isl (.int .u8))))) : Int)) :: ([] : List ((Sh.int IntKind.u16).T)))) x11)
        (none))
       (none)))
     (none))
    (none))
   (none))
  (k0 x2 x3 x4 x5 x9 x10)
noncomputable def cast_Env_727c_l1_T0 (N : Nat) (c0 : class_Caps_66e6_Ty) (c1 : class_Caps_Ty) (c2 : slices_Concat___byte__byte_1789_Ty) (c3 : class_Has_1e53_Ty) (c4 : class_May_66e6_Ty) (c5 : class_May_Ty) (w2 : cast_Env_727c_l2_Ty) {R : Type} (nx : (List (Int)) → (Int) → (Int) → (Int) → (Int) → (List ((ByteArray) × ((Bool) × (Int)))) → (List (Int)) → (List (List (Int))) → (List (Bool)) → (Int) → (Int) → (Int) → (List (List (Int))) → (List (Int)) → (List (List (Int))) → Option R) (k0 : (Int) → (Int) → (List ((ByteArray) × ((Bool) × (Int)))) → (List (Int)) → (List (List (Int))) → (List (Bool)) → (Int) → (Int) → (Int) → (List (List (Int))) → (List (Int)) → (List (List (Int))) → Option R) (x0 : List (Int)) (x1 : Int) (x2 : Int) (x3 : Int) (x4 : Int) (x5 : List ((ByteArray) × ((Bool) × (Int)))) (x6 : List (Int)) (x7 : List (List (Int))) (x8 : List (Bool)) (x9 : Int) (x10 : Int) (x11 : Int) (x12 : List (List (Int))) (x13 : List (Int)) (x14 : List (List (Int))) : Option R :=
  br (decide (x4 < x3))
  (br (decide (x4 < (Nat.cast (List.length x0) : Int)))
   (br (inB x4 (List.length x0))
    (br (((fits (0 : Nat) (List.length x13) x13) && (decide ((((List.length x13) + (1 : Nat)) * (2 : Nat)) ≤ (70368744177664 : Nat)))) && true)
     (nx x0 x1 x2 x3 (IntKind.wrap .i64 (x4 + (1 : Int))) x5 x6 x7 x8 x9 x10 x11 x12 ((sub x13 (0 : Nat) (List.length x13)) ++ ((IntKind.wrap .u16 (List.getD x0 (Int.toNat x4) (0 : Int))) :: ([] : List ((Sh.int IntKind.u16).T)))) x14)
     (none))
    (none))
   (br (((fits (0 : Nat) (List.length x13) x13) && (decide ((((List.length x13) + (1 : Nat)) * (2 : Nat)) ≤ (70368744177664 : Nat)))) && true)
    (nx x0 x1 x2 x3 (IntKind.wrap .i64 (x4 + (1 : Int))) x5 x6 x7 x8 x9 x10 x11 x12 ((sub x13 (0 : Nat) (List.length x13)) ++ ((IntKind.wrap .u16 (0 : Int)) :: ([] : List ((Sh.int IntKind.u16).T)))) x14)
    (none)))
  (k0 x1 x2 x5 x6 x7 x8 x9 x10 x11 x12 x13 x14)
noncomputable def cast_Env_727c_l2_T0 (N : Nat) (c0 : class_Caps_66e6_Ty) (c1 : class_Caps_Ty) (c2 : slices_Concat___byte__byte_1789_Ty) (c3 : class_Has_1e53_Ty) (c4 : class_May_66e6_Ty) (c5 : class_May_Ty) {R : Type} (nx : (Int) → (Int) → (List ((ByteArray) × ((Bool) × (Int)))) → (List (Int)) → (List (List (Int))) → (List (Bool)) → (List (Int)) → Option R) (k0 : (List ((ByteArray) × ((Bool) × (Int)))) → (List (Int)) → (List (List (Int))) → (List (Bool)) → (List (Int)) → Option R) (x0 : Int) (x1 : Int) (x2 : List ((ByteArray) × ((Bool) × (Int)))) (x3 : List (Int)) (x4 : List (List (Int))) (x5 : List (Bool)) (x6 : List (Int)) : Option R :=
  br (decide (x1 < x0))
  (br (inB x1 (List.length x5))
   (br (decide ((Int.toNat x1) < (List.length x5)))
    (br (List.getD x5 (Int.toNat x1) false)
     (br (((fits (0 : Nat) (List.length x6) x6) && (decide ((((List.length x6) + (1 : Nat)) * (2 : Nat)) ≤ (70368744177664 : Nat)))) && true)
      (nx x0 (IntKind.wrap .i64 (x1 + (1 : Int))) x2 x3 x4 x5 ((sub x6 (0 : Nat) (List.length x6)) ++ ((1 : Int) :: ([] : List ((Sh.int IntKind.u16).T)))))
      (none))
     (br (((fits (0 : Nat) (List.length x6) x6) && (decide ((((List.length x6) + (1 : Nat)) * (2 : Nat)) ≤ (70368744177664 : Nat)))) && true)
      (nx x0 (IntKind.wrap .i64 (x1 + (1 : Int))) x2 x3 x4 x5 ((sub x6 (0 : Nat) (List.length x6)) ++ ((0 : Int) :: ([] : List ((Sh.int IntKind.u16).T)))))
      (none)))
    (none))
   (none))
  (k0 x2 x3 x4 x5 x6)
noncomputable def cast_Env_727c_l2 (N : Nat) {R : Type} (k0 : (List ((ByteArray) × ((Bool) × (Int)))) → (List (Int)) → (List (List (Int))) → (List (Bool)) → (List (Int)) → Option R) : Nat → (Int) → (Int) → (List ((ByteArray) × ((Bool) × (Int)))) → (List (Int)) → (List (List (Int))) → (List (Bool)) → (List (Int)) → Option R
  | 0, _, _, _, _, _, _, _ => none
  | n + 1, x0, x1, x2, x3, x4, x5, x6 => cast_Env_727c_l2_T0 N (@class_Caps_66e6 N) (@class_Caps N) (@slices_Concat___byte__byte_1789 N) (@class_Has_1e53 N) (@class_May_66e6 N) (@class_May N) (fun x0 x1 x2 x3 x4 x5 x6 => cast_Env_727c_l2 N k0 n x0 x1 x2 x3 x4 x5 x6) k0 x0 x1 x2 x3 x4 x5 x6
noncomputable def cast_Env_727c_l1 (N : Nat) {R : Type} (k0 : (Int) → (Int) → (List ((ByteArray) × ((Bool) × (Int)))) → (List (Int)) → (List (List (Int))) → (List (Bool)) → (Int) → (Int) → (Int) → (List (List (Int))) → (List (Int)) → (List (List (Int))) → Option R) : Nat → (List (Int)) → (Int) → (Int) → (Int) → (Int) → (List ((ByteArray) × ((Bool) × (Int)))) → (List (Int)) → (List (List (Int))) → (List (Bool)) → (Int) → (Int) → (Int) → (List (List (Int))) → (List (Int)) → (List (List (Int))) → Option R
  | 0, _, _, _, _, _, _, _, _, _, _, _, _, _, _, _ => none
  | n + 1, x0, x1, x2, x3, x4, x5, x6, x7, x8, x9, x10, x11, x12, x13, x14 => cast_Env_727c_l1_T0 N (@class_Caps_66e6 N) (@class_Caps N) (@slices_Concat___byte__byte_1789 N) (@class_Has_1e53 N) (@class_May_66e6 N) (@class_May N) (@cast_Env_727c_l2 N) (fun x0 x1 x2 x3 x4 x5 x6 x7 x8 x9 x10 x11 x12 x13 x14 => cast_Env_727c_l1 N k0 n x0 x1 x2 x3 x4 x5 x6 x7 x8 x9 x10 x11 x12 x13 x14) k0 x0 x1 x2 x3 x4 x5 x6 x7 x8 x9 x10 x11 x12 x13 x14
noncomputable def cast_Env_727c_l0 (N : Nat) {R : Type} (k0 : (List ((ByteArray) × ((Bool) × (Int)))) → (List (Int)) → (List (List (Int))) → (List (Bool)) → (List (List (Int))) → (List (Int)) → Option R) : Nat → (Int) → (Int) → (List ((ByteArray) × ((Bool) × (Int)))) → (List (Int)) → (List (List (Int))) → (List (Bool)) → (Int) → (Int) → (Int) → (List (List (Int))) → (List (Int)) → (List (List (Int))) → Option R
  | 0, _, _, _, _, _, _, _, _, _, _, _, _ => none
  | n + 1, x0, x1, x2, x3, x4, x5, x6, x7, x8, x9, x10, x11 => cast_Env_727c_l0_T0 N (@class_Caps_66e6 N) (@class_Caps N) (@slices_Concat___byte__byte_1789 N) (@class_Has_1e53 N) (@class_May_66e6 N) (@class_May N) (@cast_Env_727c_l1 N) (@cast_Env_727c_l2 N) (fun x0 x1 x2 x3 x4 x5 x6 x7 x8 x9 x10 x11 => cast_Env_727c_l0 N k0 n x0 x1 x2 x3 x4 x5 x6 x7 x8 x9 x10 x11) k0 x0 x1 x2 x3 x4 x5 x6 x7 x8 x9 x10 x11
noncomputable def cast_Env_727c_T (N : Nat) (c0 : class_Caps_66e6_Ty) (c1 : class_Caps_Ty) (c2 : slices_Concat___byte__byte_1789_Ty) (c3 : class_Has_1e53_Ty) (c4 : class_May_66e6_Ty) (c5 : class_May_Ty) (w0 : cast_Env_727c_l0_Ty) (w1 : cast_Env_727c_l1_Ty) (w2 : cast_Env_727c_l2_Ty) {R : Type} (x0 : Int) (x1 : Int) (x2 : Int) (x3 : List ((ByteArray) × ((Bool) × (Int)))) (x4 : List (Int)) (x5 : List (List (Int))) (x6 : List (Bool)) (k0 : (Int) → (List ((ByteArray) × ((Bool) × (Int)))) → (List (Int)) → (List (List (Int))) → (List (Bool)) → (List (Int)) → Option R) (k1 : (Int) → (List ((ByteArray) × ((Bool) × (Int)))) → (List (Int)) → (List (List (Int))) → (List (Bool)) → (List (Int)) → Option R) : Option R :=
  c4 x0 x1 x2 x3 x4
  (fun b211 l212 l213 => br (!b211)
   (k0 (11 : Int) l212 l213 x5 x6 ([] : List ((Sh.int IntKind.u16).T)))
   (c3 x0 x1 x2 l212 l213 x5 ([] : List ((Sh.int IntKind.u8).isl.T)) x6
    (fun b214 l215 l216 l217 l218 l219 => br (!b214)
     (k0 (12 : Int) l215 l216 l217 l219 ([] : List ((Sh.int IntKind.u16).T)))
     (br (fits (0 : Nat) (List.length l217) l217)
      (br (fits (0 : Nat) (List.length l218) l218)
       (c2 ((sub l217 (0 : Nat) (List.length l217)) :: ((sub l218 (0 : Nat) (List.length l218)) :: ([] : List ((Sh.int IntKind.u8).isl.isl.T))))
        (fun l220 l221 => w0
         (fun l237 l238 l239 l240 l241 l242 => w2
          (fun l243 l244 l245 l246 l247 => k1 (0 : Int) l243 l244 l245 l246 l247)
          N (Nat.cast (List.length l240) : Int) (0 : Int) l237 l238 l239 l240 l242)
         N (Nat.cast (List.length l221) : Int) (0 : Int) l215 l216 l217 l219 x0 x1 x2 l218 ([] : List ((Sh.int IntKind.u16).T)) l221))
       (none))
      (none)))))
noncomputable def cast_Env_727c (N : Nat) {R : Type} (x0 : Int) (x1 : Int) (x2 : Int) (x3 : List ((ByteArray) × ((Bool) × (Int)))) (x4 : List (Int)) (x5 : List (List (Int))) (x6 : List (Bool)) (k0 : (Int) → (List ((ByteArray) × ((Bool) × (Int)))) → (List (Int)) → (List (List (Int))) → (List (Bool)) → (List (Int)) → Option R) (k1 : (Int) → (List ((ByteArray) × ((Bool) × (Int)))) → (List (Int)) → (List (List (Int))) → (List (Bool)) → (List (Int)) → Option R) : Option R := cast_Env_727c_T N (@class_Caps_66e6 N) (@class_Caps N) (@slices_Concat___byte__byte_1789 N) (@class_Has_1e53 N) (@class_May_66e6 N) (@class_May N) (@cast_Env_727c_l0 N) (@cast_Env_727c_l1 N) (@cast_Env_727c_l2 N) x0 x1 x2 x3 x4 x5 x6 k0 k1
abbrev cast_Size_9e58_l0_Ty : Type 1 := {R : Type} → ((Int) → (List ((ByteArray) × ((Bool) × (Int)))) → (List (Int)) → Option R) → Nat → (Int) → (Int) → (Int) → (List ((ByteArray) × ((Bool) × (Int)))) → (List (Int)) → (List (Int)) → Option R
abbrev cast_Size_9e58_Ty : Type 1 := {R : Type} → (Int) → (Int) → (Int) → (Int) → (List ((ByteArray) × ((Bool) × (Int)))) → (List (Int)) → ((Int) → (List ((ByteArray) × ((Bool) × (Int)))) → (List (Int)) → Option R) → Option R
noncomputable def cast_Size_9e58_l0_T0 (N : Nat) (c0 : class_May_66e6_Ty) (c1 : class_May_Ty) (c2 : class_Caps_66e6_Ty) (c3 : class_Caps_Ty) {R : Type} (nx : (Int) → (Int) → (Int) → (List ((ByteArray) × ((Bool) × (Int)))) → (List (Int)) → (List (Int)) → Option R) (k0 : (Int) → (List ((ByteArray) × ((Bool) × (Int)))) → (List (Int)) → Option R) (x0 : Int) (x1 : Int) (x2 : Int) (x3 : List ((ByteArray) × ((Bool) × (Int)))) (x4 : List (Int)) (x5 : List (Int)) : Option R :=
  br (decide (x2 < x1))
  (br (inB x2 (List.length x5))
   (br (decide ((Int.toNat x2) < (List.length x5)))
    (nx (IntKind.wrap .i64 (x0 + (IntKind.wrap .i64 ((1 : Int) + (List.getD x5 (Int.toNat x2) (0 : Int)))))) x1 (IntKind.wrap .i64 (x2 + (1 : Int))) x3 x4 x5)
    (none))
   (none))
  (k0 x0 x3 x4)
noncomputable def cast_Size_9e58_l0 (N : Nat) {R : Type} (k0 : (Int) → (List ((ByteArray) × ((Bool) × (Int)))) → (List (Int)) → Option R) : Nat → (Int) → (Int) → (Int) → (List ((ByteArray) × ((Bool) × (Int)))) → (List (Int)) → (List (Int)) → Option R
  | 0, _, _, _, _, _, _ => none
  | n + 1, x0, x1, x2, x3, x4, x5 => cast_Size_9e58_l0_T0 N (@class_May_66e6 N) (@class_May N) (@class_Caps_66e6 N) (@class_Caps N) (fun x0 x1 x2 x3 x4 x5 => cast_Size_9e58_l0 N k0 n x0 x1 x2 x3 x4 x5) k0 x0 x1 x2 x3 x4 x5
noncomputable def cast_Size_9e58_T (N : Nat) (c0 : class_May_66e6_Ty) (c1 : class_May_Ty) (c2 : class_Caps_66e6_Ty) (c3 : class_Caps_Ty) (w0 : cast_Size_9e58_l0_Ty) {R : Type} (x0 : Int) (x1 : Int) (x2 : Int) (x3 : Int) (x4 : List ((ByteArray) × ((Bool) × (Int)))) (x5 : List (Int)) (k0 : (Int) → (List ((ByteArray) × ((Bool) × (Int)))) → (List (Int)) → Option R) : Option R :=
  c2 x0 x1 x2 x4 x5
  (fun l254 l255 l256 => c0 x0 x1 x2 l254 l255
   (fun b257 l258 l259 => br (!(!b257))
    (br (!(decide (x3 < (0 : Int))))
     (br (decide ((Nat.cast (List.length l256) : Int) ≤ x3))
      (k0 (-1 : Int) l258 l259)
      (br (leB x3 (List.length l256))
       (br (fits (0 : Nat) ((Int.toNat x3) - (0 : Nat)) l256)
        (w0
         (fun i260 l261 l262 => k0 i260 l261 l262)
         N (0 : Int) (Nat.cast ((Int.toNat x3) - (0 : Nat)) : Int) (0 : Int) l258 l259 (sub l256 (0 : Nat) ((Int.toNat x3) - (0 : Nat))))
        (none))
       (none)))
     (k0 (-1 : Int) l258 l259))
    (k0 (-1 : Int) l258 l259)))
noncomputable def cast_Size_9e58 (N : Nat) {R : Type} (x0 : Int) (x1 : Int) (x2 : Int) (x3 : Int) (x4 : List ((ByteArray) × ((Bool) × (Int)))) (x5 : List (Int)) (k0 : (Int) → (List ((ByteArray) × ((Bool) × (Int)))) → (List (Int)) → Option R) : Option R := cast_Size_9e58_T N (@class_May_66e6 N) (@class_May N) (@class_Caps_66e6 N) (@class_Caps N) (@cast_Size_9e58_l0 N) x0 x1 x2 x3 x4 x5 k0
abbrev cast_Size_l0_Ty : Type 1 := {R : Type} → ((Int) → Option R) → Nat → (Int) → (Int) → (Int) → (List (Int)) → Option R
abbrev cast_Size_Ty : Type 1 := {R : Type} → (List ((ByteArray) × ((Bool) × (Int)))) → (List (Int)) → (Int) → (Int) → (Int) → (Int) → ((Int) → Option R) → Option R
noncomputable def cast_Size_l0_T0 (N : Nat) (c0 : class_May_66e6_Ty) (c1 : class_May_Ty) (c2 : class_Caps_66e6_Ty) (c3 : class_Caps_Ty) {R : Type} (nx : (Int) → (Int) → (Int) → (List (Int)) → Option R) (k0 : (Int) → Option R) (x0 : Int) (x1 : Int) (x2 : Int) (x3 : List (Int)) : Option R :=
  br (decide (x2 < x1))
  (br (inB x2 (List.length x3))
   (br (decide ((Int.toNat x2) < (List.length x3)))
    (nx (IntKind.wrap .i64 (x0 + (IntKind.wrap .i64 ((1 : Int) + (List.getD x3 (Int.toNat x2) (0 : Int)))))) x1 (IntKind.wrap .i64 (x2 + (1 : Int))) x3)
    (none))
   (none))
  (k0 x0)
noncomputable def cast_Size_l0 (N : Nat) {R : Type} (k0 : (Int) → Option R) : Nat → (Int) → (Int) → (Int) → (List (Int)) → Option R
  | 0, _, _, _, _ => none
  | n + 1, x0, x1, x2, x3 => cast_Size_l0_T0 N (@class_May_66e6 N) (@class_May N) (@class_Caps_66e6 N) (@class_Caps N) (fun x0 x1 x2 x3 => cast_Size_l0 N k0 n x0 x1 x2 x3) k0 x0 x1 x2 x3
noncomputable def cast_Size_T (N : Nat) (c0 : class_May_66e6_Ty) (c1 : class_May_Ty) (c2 : class_Caps_66e6_Ty) (c3 : class_Caps_Ty) (w0 : cast_Size_l0_Ty) {R : Type} (x0 : List ((ByteArray) × ((Bool) × (Int)))) (x1 : List (Int)) (x2 : Int) (x3 : Int) (x4 : Int) (x5 : Int) (k0 : (Int) → Option R) : Option R :=
  c3 x0 x1 x2 x3 x4
  (fun l422 => c1 x0 x1 x2 x3 x4
   (fun b491 => br (!(!b491))
    (br (!(decide (x5 < (0 : Int))))
     (br (decide ((Nat.cast (List.length l422) : Int) ≤ x5))
      (k0 (-1 : Int))
      (br (leB x5 (List.length l422))
       (br (fits (0 : Nat) ((Int.toNat x5) - (0 : Nat)) l422)
        (w0
         (fun i492 => k0 i492)
         N (0 : Int) (Nat.cast ((Int.toNat x5) - (0 : Nat)) : Int) (0 : Int) (sub l422 (0 : Nat) ((Int.toNat x5) - (0 : Nat))))
        (none))
       (none)))
     (k0 (-1 : Int)))
    (k0 (-1 : Int))))
noncomputable def cast_Size (N : Nat) {R : Type} (x0 : List ((ByteArray) × ((Bool) × (Int)))) (x1 : List (Int)) (x2 : Int) (x3 : Int) (x4 : Int) (x5 : Int) (k0 : (Int) → Option R) : Option R := cast_Size_T N (@class_May_66e6 N) (@class_May N) (@class_Caps_66e6 N) (@class_Caps N) (@cast_Size_l0 N) x0 x1 x2 x3 x4 x5 k0
abbrev cast_Byte_dbd4_Ty : Type 1 := {R : Type} → (Int) → (Int) → (Int) → (Int) → (Int) → (List ((ByteArray) × ((Bool) × (Int)))) → (List (Int)) → ((Int) → (Bool) → (List ((ByteArray) × ((Bool) × (Int)))) → (List (Int)) → Option R) → Option R
noncomputable def cast_Byte_dbd4_T (N : Nat) (c0 : class_Caps_66e6_Ty) (c1 : class_Caps_Ty) (c2 : cast_Size_9e58_Ty) (c3 : cast_Size_Ty) {R : Type} (x0 : Int) (x1 : Int) (x2 : Int) (x3 : Int) (x4 : Int) (x5 : List ((ByteArray) × ((Bool) × (Int)))) (x6 : List (Int)) (k0 : (Int) → (Bool) → (List ((ByteArray) × ((Bool) × (Int)))) → (List (Int)) → Option R) : Option R :=
  c2 x0 x1 x2 x3 x5 x6
  (fun i263 l264 l265 => br (!(decide (i263 = (-1 : Int))))
   (br (!(decide (x4 < (0 : Int))))
    (c0 x0 x1 x2 l264 l265
     (fun l266 l267 l268 => br (inB x3 (List.length l268))
      (br (decide ((Int.toNat x3) < (List.length l268)))
       (br (decide ((List.getD l268 (Int.toNat x3) (0 : Int)) ≤ x4))
        (k0 (0 : Int) false l266 l267)
        (k0 (IntKind.wrap .i64 ((IntKind.wrap .i64 (i263 + (1 : Int))) + x4)) true l266 l267))
       (none))
      (none)))
    (k0 (0 : Int) false l264 l265))
   (k0 (0 : Int) false l264 l265))
noncomputable def cast_Byte_dbd4 (N : Nat) {R : Type} (x0 : Int) (x1 : Int) (x2 : Int) (x3 : Int) (x4 : Int) (x5 : List ((ByteArray) × ((Bool) × (Int)))) (x6 : List (Int)) (k0 : (Int) → (Bool) → (List ((ByteArray) × ((Bool) × (Int)))) → (List (Int)) → Option R) : Option R := cast_Byte_dbd4_T N (@class_Caps_66e6 N) (@class_Caps N) (@cast_Size_9e58 N) (@cast_Size N) x0 x1 x2 x3 x4 x5 x6 k0
abbrev cast_Byte_Ty : Type 1 := {R : Type} → (List ((ByteArray) × ((Bool) × (Int)))) → (List (Int)) → (Int) → (Int) → (Int) → (Int) → (Int) → ((Int) → (Bool) → Option R) → Option R
noncomputable def cast_Byte_T (N : Nat) (c0 : class_Caps_66e6_Ty) (c1 : class_Caps_Ty) (c2 : cast_Size_9e58_Ty) (c3 : cast_Size_Ty) {R : Type} (x0 : List ((ByteArray) × ((Bool) × (Int)))) (x1 : List (Int)) (x2 : Int) (x3 : Int) (x4 : Int) (x5 : Int) (x6 : Int) (k0 : (Int) → (Bool) → Option R) : Option R :=
  c3 x0 x1 x2 x3 x4 x5
  (fun i494 => br (!(decide (i494 = (-1 : Int))))
   (br (!(decide (x6 < (0 : Int))))
    (c1 x0 x1 x2 x3 x4
     (fun l495 => br (inB x5 (List.length l495))
      (br (decide ((Int.toNat x5) < (List.length l495)))
       (br (decide ((List.getD l495 (Int.toNat x5) (0 : Int)) ≤ x6))
        (k0 (0 : Int) false)
        (k0 (IntKind.wrap .i64 ((IntKind.wrap .i64 (i494 + (1 : Int))) + x6)) true))
       (none))
      (none)))
    (k0 (0 : Int) false))
   (k0 (0 : Int) false))
noncomputable def cast_Byte (N : Nat) {R : Type} (x0 : List ((ByteArray) × ((Bool) × (Int)))) (x1 : List (Int)) (x2 : Int) (x3 : Int) (x4 : Int) (x5 : Int) (x6 : Int) (k0 : (Int) → (Bool) → Option R) : Option R := cast_Byte_T N (@class_Caps_66e6 N) (@class_Caps N) (@cast_Size_9e58 N) (@cast_Size N) x0 x1 x2 x3 x4 x5 x6 k0
abbrev cast_Vars_66e6_l0_Ty : Type 1 := {R : Type} → ((Int) → (List ((ByteArray) × ((Bool) × (Int)))) → (List (Int)) → Option R) → Nat → (Int) → (Int) → (Int) → (List ((ByteArray) × ((Bool) × (Int)))) → (List (Int)) → (List (Int)) → Option R
abbrev cast_Vars_66e6_Ty : Type 1 := {R : Type} → (Int) → (Int) → (Int) → (List ((ByteArray) × ((Bool) × (Int)))) → (List (Int)) → ((Int) → (List ((ByteArray) × ((Bool) × (Int)))) → (List (Int)) → Option R) → Option R
noncomputable def cast_Vars_66e6_l0_T0 (N : Nat) (c0 : class_Caps_66e6_Ty) (c1 : class_Caps_Ty) (c2 : class_May_66e6_Ty) (c3 : class_May_Ty) {R : Type} (nx : (Int) → (Int) → (Int) → (List ((ByteArray) × ((Bool) × (Int)))) → (List (Int)) → (List (Int)) → Option R) (k0 : (Int) → (List ((ByteArray) × ((Bool) × (Int)))) → (List (Int)) → Option R) (x0 : Int) (x1 : Int) (x2 : Int) (x3 : List ((ByteArray) × ((Bool) × (Int)))) (x4 : List (Int)) (x5 : List (Int)) : Option R :=
  br (decide (x2 < x1))
  (br (inB x2 (List.length x5))
   (br (decide ((Int.toNat x2) < (List.length x5)))
    (nx (IntKind.wrap .i64 (x0 + (IntKind.wrap .i64 ((1 : Int) + (List.getD x5 (Int.toNat x2) (0 : Int)))))) x1 (IntKind.wrap .i64 (x2 + (1 : Int))) x3 x4 x5)
    (none))
   (none))
  (k0 x0 x3 x4)
noncomputable def cast_Vars_66e6_l0 (N : Nat) {R : Type} (k0 : (Int) → (List ((ByteArray) × ((Bool) × (Int)))) → (List (Int)) → Option R) : Nat → (Int) → (Int) → (Int) → (List ((ByteArray) × ((Bool) × (Int)))) → (List (Int)) → (List (Int)) → Option R
  | 0, _, _, _, _, _, _ => none
  | n + 1, x0, x1, x2, x3, x4, x5 => cast_Vars_66e6_l0_T0 N (@class_Caps_66e6 N) (@class_Caps N) (@class_May_66e6 N) (@class_May N) (fun x0 x1 x2 x3 x4 x5 => cast_Vars_66e6_l0 N k0 n x0 x1 x2 x3 x4 x5) k0 x0 x1 x2 x3 x4 x5
noncomputable def cast_Vars_66e6_T (N : Nat) (c0 : class_Caps_66e6_Ty) (c1 : class_Caps_Ty) (c2 : class_May_66e6_Ty) (c3 : class_May_Ty) (w0 : cast_Vars_66e6_l0_Ty) {R : Type} (x0 : Int) (x1 : Int) (x2 : Int) (x3 : List ((ByteArray) × ((Bool) × (Int)))) (x4 : List (Int)) (k0 : (Int) → (List ((ByteArray) × ((Bool) × (Int)))) → (List (Int)) → Option R) : Option R :=
  c2 x0 x1 x2 x3 x4
  (fun b276 l277 l278 => br (!b276)
   (k0 (0 : Int) l277 l278)
   (c0 x0 x1 x2 l277 l278
    (fun l279 l280 l281 => w0
     (fun i282 l283 l284 => k0 i282 l283 l284)
     N x0 (Nat.cast (List.length l281) : Int) (0 : Int) l279 l280 l281)))
noncomputable def cast_Vars_66e6 (N : Nat) {R : Type} (x0 : Int) (x1 : Int) (x2 : Int) (x3 : List ((ByteArray) × ((Bool) × (Int)))) (x4 : List (Int)) (k0 : (Int) → (List ((ByteArray) × ((Bool) × (Int)))) → (List (Int)) → Option R) : Option R := cast_Vars_66e6_T N (@class_Caps_66e6 N) (@class_Caps N) (@class_May_66e6 N) (@class_May N) (@cast_Vars_66e6_l0 N) x0 x1 x2 x3 x4 k0
abbrev cast_Vars_l0_Ty : Type 1 := {R : Type} → ((Int) → Option R) → Nat → (Int) → (Int) → (Int) → (List (Int)) → Option R
abbrev cast_Vars_Ty : Type 1 := {R : Type} → (List ((ByteArray) × ((Bool) × (Int)))) → (List (Int)) → (Int) → (Int) → (Int) → ((Int) → Option R) → Option R
noncomputable def cast_Vars_l0_T0 (N : Nat) (c0 : class_Caps_66e6_Ty) (c1 : class_Caps_Ty) (c2 : class_May_66e6_Ty) (c3 : class_May_Ty) {R : Type} (nx : (Int) → (Int) → (Int) → (List (Int)) → Option R) (k0 : (Int) → Option R) (x0 : Int) (x1 : Int) (x2 : Int) (x3 : List (Int)) : Option R :=
  br (decide (x2 < x1))
  (br (inB x2 (List.length x3))
   (br (decide ((Int.toNat x2) < (List.length x3)))
    (nx (IntKind.wrap .i64 (x0 + (IntKind.wrap .i64 ((1 : Int) + (List.getD x3 (Int.toNat x2) (0 : Int)))))) x1 (IntKind.wrap .i64 (x2 + (1 : Int))) x3)
    (none))
   (none))
  (k0 x0)
noncomputable def cast_Vars_l0 (N : Nat) {R : Type} (k0 : (Int) → Option R) : Nat → (Int) → (Int) → (Int) → (List (Int)) → Option R
  | 0, _, _, _, _ => none
  | n + 1, x0, x1, x2, x3 => cast_Vars_l0_T0 N (@class_Caps_66e6 N) (@class_Caps N) (@class_May_66e6 N) (@class_May N) (fun x0 x1 x2 x3 => cast_Vars_l0 N k0 n x0 x1 x2 x3) k0 x0 x1 x2 x3
noncomputable def cast_Vars_T (N : Nat) (c0 : class_Caps_66e6_Ty) (c1 : class_Caps_Ty) (c2 : class_May_66e6_Ty) (c3 : class_May_Ty) (w0 : cast_Vars_l0_Ty) {R : Type} (x0 : List ((ByteArray) × ((Bool) × (Int)))) (x1 : List (Int)) (x2 : Int) (x3 : Int) (x4 : Int) (k0 : (Int) → Option R) : Option R :=
  c3 x0 x1 x2 x3 x4
  (fun b533 => br (!b533)
   (k0 (0 : Int))
   (c1 x0 x1 x2 x3 x4
    (fun l534 => w0
     (fun i535 => k0 i535)
     N x2 (Nat.cast (List.length l534) : Int) (0 : Int) l534)))
noncomputable def cast_Vars (N : Nat) {R : Type} (x0 : List ((ByteArray) × ((Bool) × (Int)))) (x1 : List (Int)) (x2 : Int) (x3 : Int) (x4 : Int) (k0 : (Int) → Option R) : Option R := cast_Vars_T N (@class_Caps_66e6 N) (@class_Caps N) (@class_May_66e6 N) (@class_May N) (@cast_Vars_l0 N) x0 x1 x2 x3 x4 k0
abbrev cast_Fail_9e58_Ty : Type 1 := {R : Type} → (Int) → (Int) → (Int) → (Int) → (List ((ByteArray) × ((Bool) × (Int)))) → (List (Int)) → ((Int) → (Bool) → (List ((ByteArray) × ((Bool) × (Int)))) → (List (Int)) → Option R) → Option R
noncomputable def cast_Fail_9e58_T (N : Nat) (c0 : cast_Vars_66e6_Ty) (c1 : cast_Vars_Ty) (c2 : class_May_66e6_Ty) (c3 : class_May_Ty) {R : Type} (x0 : Int) (x1 : Int) (x2 : Int) (x3 : Int) (x4 : List ((ByteArray) × ((Bool) × (Int)))) (x5 : List (Int)) (k0 : (Int) → (Bool) → (List ((ByteArray) × ((Bool) × (Int)))) → (List (Int)) → Option R) : Option R :=
  c2 x0 x1 x2 x4 x5
  (fun b273 l274 l275 => br (!(!b273))
   (br (!(decide (x3 < (0 : Int))))
    (br (decide (x0 ≤ x3))
     (k0 (0 : Int) false l274 l275)
     (c0 x0 x1 x2 l274 l275
      (fun i285 l286 l287 => br (decide (x0 = x0))
       (br (decide (x3 = x3))
        (k0 (IntKind.wrap .i64 ((IntKind.wrap .i64 (i285 - x0)) + x3)) true l286 l287)
        (none))
       (none))))
    (k0 (0 : Int) false l274 l275))
   (k0 (0 : Int) false l274 l275))
noncomputable def cast_Fail_9e58 (N : Nat) {R : Type} (x0 : Int) (x1 : Int) (x2 : Int) (x3 : Int) (x4 : List ((ByteArray) × ((Bool) × (Int)))) (x5 : List (Int)) (k0 : (Int) → (Bool) → (List ((ByteArray) × ((Bool) × (Int)))) → (List (Int)) → Option R) : Option R := cast_Fail_9e58_T N (@cast_Vars_66e6 N) (@cast_Vars N) (@class_May_66e6 N) (@class_May N) x0 x1 x2 x3 x4 x5 k0
abbrev cast_Fail_Ty : Type 1 := {R : Type} → (List ((ByteArray) × ((Bool) × (Int)))) → (List (Int)) → (Int) → (Int) → (Int) → (Int) → ((Int) → (Bool) → Option R) → Option R
noncomputable def cast_Fail_T (N : Nat) (c0 : cast_Vars_66e6_Ty) (c1 : cast_Vars_Ty) (c2 : class_May_66e6_Ty) (c3 : class_May_Ty) {R : Type} (x0 : List ((ByteArray) × ((Bool) × (Int)))) (x1 : List (Int)) (x2 : Int) (x3 : Int) (x4 : Int) (x5 : Int) (k0 : (Int) → (Bool) → Option R) : Option R :=
  c3 x0 x1 x2 x3 x4
  (fun b532 => br (!(!b532))
   (br (!(decide (x5 < (0 : Int))))
    (br (decide (x2 ≤ x5))
     (k0 (0 : Int) false)
     (c1 x0 x1 x2 x3 x4
      (fun i536 => br (decide (x2 = x2))
       (br (decide (x5 = x5))
        (k0 (IntKind.wrap .i64 ((IntKind.wrap .i64 (i536 - x2)) + x5)) true)
        (none))
       (none))))
    (k0 (0 : Int) false))
   (k0 (0 : Int) false))
noncomputable def cast_Fail (N : Nat) {R : Type} (x0 : List ((ByteArray) × ((Bool) × (Int)))) (x1 : List (Int)) (x2 : Int) (x3 : Int) (x4 : Int) (x5 : Int) (k0 : (Int) → (Bool) → Option R) : Option R := cast_Fail_T N (@cast_Vars_66e6 N) (@cast_Vars N) (@class_May_66e6 N) (@class_May N) x0 x1 x2 x3 x4 x5 k0
abbrev law18_same_894e_l0_Ty : Type 1 := {R : Type} → ((Bool) → (List (Int)) → (List (Int)) → Option R) → ((List (Int)) → (List (Int)) → Option R) → Nat → (Int) → (List (Int)) → (List (Int)) → Option R
abbrev law18_same_894e_Ty : Type 1 := {R : Type} → (List (Int)) → (List (Int)) → ((Bool) → (List (Int)) → (List (Int)) → Option R) → Option R
noncomputable def law18_same_894e_l0_T0 (N : Nat) {R : Type} (nx : (Int) → (List (Int)) → (List (Int)) → Option R) (k0 : (Bool) → (List (Int)) → (List (Int)) → Option R) (k1 : (List (Int)) → (List (Int)) → Option R) (x0 : Int) (x1 : List (Int)) (x2 : List (Int)) : Option R :=
  br (decide (x0 < (Nat.cast (List.length x1) : Int)))
  (br (inB x0 (List.length x1))
   (br (decide ((Int.toNat x0) < (List.length x1)))
    (br (inB x0 (List.length x2))
     (br (decide ((Int.toNat x0) < (List.length x2)))
      (br (!(decide ((List.getD x1 (Int.toNat x0) (0 : Int)) = (List.getD x2 (Int.toNat x0) (0 : Int)))))
       (k0 false x1 x2)
       (nx (IntKind.wrap .i64 (x0 + (1 : Int))) x1 x2))
      (none))
     (none))
    (none))
   (none))
  (k1 x1 x2)
noncomputable def law18_same_894e_l0 (N : Nat) {R : Type} (k0 : (Bool) → (List (Int)) → (List (Int)) → Option R) (k1 : (List (Int)) → (List (Int)) → Option R) : Nat → (Int) → (List (Int)) → (List (Int)) → Option R
  | 0, _, _, _ => none
  | n + 1, x0, x1, x2 => law18_same_894e_l0_T0 N (fun x0 x1 x2 => law18_same_894e_l0 N k0 k1 n x0 x1 x2) k0 k1 x0 x1 x2
noncomputable def law18_same_894e_T (N : Nat) (w0 : law18_same_894e_l0_Ty) {R : Type} (x0 : List (Int)) (x1 : List (Int)) (k0 : (Bool) → (List (Int)) → (List (Int)) → Option R) : Option R :=
  br (!(decide ((Nat.cast (List.length x0) : Int) = (Nat.cast (List.length x1) : Int))))
  (k0 false x0 x1)
  (w0
   (fun b292 l293 l294 => k0 b292 l293 l294)
   (fun l295 l296 => k0 true l295 l296)
   N (0 : Int) x0 x1)
noncomputable def law18_same_894e (N : Nat) {R : Type} (x0 : List (Int)) (x1 : List (Int)) (k0 : (Bool) → (List (Int)) → (List (Int)) → Option R) : Option R := law18_same_894e_T N (@law18_same_894e_l0 N) x0 x1 k0
abbrev law18_awake_Ty : Type 1 := {R : Type} → ((Bool) → Option R) → Option R
noncomputable def law18_awake_T (N : Nat) (c0 : cast_Size_9e58_Ty) (c1 : cast_Size_Ty) (c2 : cast_Vars_66e6_Ty) (c3 : cast_Vars_Ty) (c4 : law18_same_894e_Ty) (c5 : cast_Fail_9e58_Ty) (c6 : cast_Fail_Ty) (c7 : cast_Byte_dbd4_Ty) (c8 : cast_Byte_Ty) (c9 : cast_Env_727c_Ty) {R : Type} (k0 : (Bool) → Option R) : Option R :=
  c9 (1 : Int) (1 : Int) (0 : Int) (((bs [97]) , (false , (1 : Int))) :: ([] : List ((Sh.str.pair (Sh.bool.pair (Sh.int IntKind.i64))).T))) ([] : List ((Sh.int IntKind.i64).T)) (((9 : Int) :: ([] : List ((Sh.int IntKind.u8).T))) :: ([] : List ((Sh.int IntKind.u8).isl.T))) (true :: ([] : List (Sh.bool.T)))
  (fun i248 l249 l250 l251 l252 l253 => c7 (1 : Int) (1 : Int) (0 : Int) (0 : Int) (0 : Int) l249 l250
   (fun i269 b270 l271 l272 => c5 (1 : Int) (1 : Int) (0 : Int) (0 : Int) l271 l272
    (fun i288 b289 l290 l291 => br (decide (i248 = (0 : Int)))
     (c4 l253 ((1 : Int) :: ((9 : Int) :: ((1 : Int) :: ([] : List ((Sh.int IntKind.u16).T)))))
      (fun b297 l298 l299 => br b297
       (c2 (1 : Int) (1 : Int) (0 : Int) l290 l291
        (fun i300 l301 l302 => br (decide (i300 = (3 : Int)))
         (c0 (1 : Int) (1 : Int) (0 : Int) (0 : Int) l301 l302
          (fun i303 l304 l305 => br (decide (i303 = (0 : Int)))
           (br b270
            (br (decide (i269 = (1 : Int)))
             (br b289
              (k0 (decide (i288 = (2 : Int))))
              (k0 false))
             (k0 false))
            (k0 false))
           (k0 false)))
         (k0 false)))
       (k0 false)))
     (k0 false))))
  (fun i306 l307 l308 l309 l310 l311 => c7 (1 : Int) (1 : Int) (0 : Int) (0 : Int) (0 : Int) l307 l308
   (fun i312 b313 l314 l315 => c5 (1 : Int) (1 : Int) (0 : Int) (0 : Int) l314 l315
    (fun i316 b317 l318 l319 => br (decide (i306 = (0 : Int)))
     (c4 l311 ((1 : Int) :: ((9 : Int) :: ((1 : Int) :: ([] : List ((Sh.int IntKind.u16).T)))))
      (fun b320 l321 l322 => br b320
       (c2 (1 : Int) (1 : Int) (0 : Int) l318 l319
        (fun i323 l324 l325 => br (decide (i323 = (3 : Int)))
         (c0 (1 : Int) (1 : Int) (0 : Int) (0 : Int) l324 l325
          (fun i326 l327 l328 => br (decide (i326 = (0 : Int)))
           (br b313
            (br (decide (i312 = (1 : Int)))
             (br b317
              (k0 (decide (i316 = (2 : Int))))
              (k0 false))
             (k0 false))
            (k0 false))
           (k0 false)))
         (k0 false)))
       (k0 false)))
     (k0 false))))
noncomputable def law18_awake (N : Nat) {R : Type} (k0 : (Bool) → Option R) : Option R := law18_awake_T N (@cast_Size_9e58 N) (@cast_Size N) (@cast_Vars_66e6 N) (@cast_Vars N) (@law18_same_894e N) (@cast_Fail_9e58 N) (@cast_Fail N) (@cast_Byte_dbd4 N) (@cast_Byte N) (@cast_Env_727c N) k0
abbrev law17_Small_l0_Ty : Type 1 := {R : Type} → ((Int) → (List ((ByteArray) × ((Bool) × (Int)))) → (List (Int)) → (Int) → (Int) → (Int) → Option R) → Nat → (Int) → (Int) → (List ((ByteArray) × ((Bool) × (Int)))) → (List (Int)) → (Int) → (Int) → (Int) → Option R
abbrev law17_Small_Ty : Type 1 := {R : Type} → (List ((ByteArray) × ((Bool) × (Int)))) → (List (Int)) → (Int) → (Int) → (Int) → ((Bool) → Option R) → Option R
noncomputable def law17_Small_l0_T0 (N : Nat) {R : Type} (nx : (Int) → (Int) → (List ((ByteArray) × ((Bool) × (Int)))) → (List (Int)) → (Int) → (Int) → (Int) → Option R) (k0 : (Int) → (List ((ByteArray) × ((Bool) × (Int)))) → (List (Int)) → (Int) → (Int) → (Int) → Option R) (x0 : Int) (x1 : Int) (x2 : List ((ByteArray) × ((Bool) × (Int)))) (x3 : List (Int)) (x4 : Int) (x5 : Int) (x6 : Int) : Option R :=
  br (decide (x1 < (Nat.cast (List.length x2) : Int)))
  (br (inB x1 (List.length x2))
   (nx (IntKind.wrap .i64 (x0 + (Nat.cast (ByteArray.size (List.getD x2 (Int.toNat x1) ((bs []) , (false , (0 : Int)))).1) : Int))) (IntKind.wrap .i64 (x1 + (1 : Int))) x2 x3 x4 x5 x6)
   (none))
  (k0 x0 x2 x3 x4 x5 x6)
noncomputable def law17_Small_l0 (N : Nat) {R : Type} (k0 : (Int) → (List ((ByteArray) × ((Bool) × (Int)))) → (List (Int)) → (Int) → (Int) → (Int) → Option R) : Nat → (Int) → (Int) → (List ((ByteArray) × ((Bool) × (Int)))) → (List (Int)) → (Int) → (Int) → (Int) → Option R
  | 0, _, _, _, _, _, _, _ => none
  | n + 1, x0, x1, x2, x3, x4, x5, x6 => law17_Small_l0_T0 N (fun x0 x1 x2 x3 x4 x5 x6 => law17_Small_l0 N k0 n x0 x1 x2 x3 x4 x5 x6) k0 x0 x1 x2 x3 x4 x5 x6
noncomputable def law17_Small_T (N : Nat) (w0 : law17_Small_l0_Ty) {R : Type} (x0 : List ((ByteArray) × ((Bool) × (Int)))) (x1 : List (Int)) (x2 : Int) (x3 : Int) (x4 : Int) (k0 : (Bool) → Option R) : Option R :=
  w0
  (fun i330 l331 l332 i333 i334 i335 => br (decide ((Nat.cast (List.length l331) : Int) ≤ (60 : Int)))
   (br (decide (i330 ≤ (2000 : Int)))
    (k0 (decide ((Nat.cast (List.length l332) : Int) ≤ (60 : Int))))
    (k0 false))
   (k0 false))
  N (0 : Int) (0 : Int) x0 x1 x2 x3 x4
noncomputable def law17_Small (N : Nat) {R : Type} (x0 : List ((ByteArray) × ((Bool) × (Int)))) (x1 : List (Int)) (x2 : Int) (x3 : Int) (x4 : Int) (k0 : (Bool) → Option R) : Option R := law17_Small_T N (@law17_Small_l0 N) x0 x1 x2 x3 x4 k0
abbrev ref12_NameMay_l0_Ty : Type 1 := {R : Type} → ((Bool) → (List (ByteArray)) → Option R) → ((List (ByteArray)) → Option R) → Nat → (ByteArray) → (Int) → (List (ByteArray)) → Option R
abbrev ref12_NameMay_l1_Ty : Type 1 := {R : Type} → ((Bool) → (List (ByteArray)) → Option R) → ((List (ByteArray)) → Option R) → Nat → (Int) → (List (ByteArray)) → Option R
abbrev ref12_NameMay_Ty : Type 1 := {R : Type} → (ByteArray) → ((Bool) → Option R) → Option R
noncomputable def ref12_NameMay_l0_T0 (N : Nat) (w1 : ref12_NameMay_l1_Ty) {R : Type} (nx : (ByteArray) → (Int) → (List (ByteArray)) → Option R) (k0 : (Bool) → (List (ByteArray)) → Option R) (k1 : (List (ByteArray)) → Option R) (x0 : ByteArray) (x1 : Int) (x2 : List (ByteArray)) : Option R :=
  br (decide (x1 < (Nat.cast (ByteArray.size x0) : Int)))
  (br (inB x1 (ByteArray.size x0))
   (br (decide ((bt x0 x1) = (47 : Int)))
    (br (((fits (0 : Nat) (List.length x2) x2) && (decide ((((List.length x2) + (1 : Nat)) * (16 : Nat)) ≤ (70368744177664 : Nat)))) && true)
     (nx x0 (IntKind.wrap .i64 (x1 + (1 : Int))) ((sub x2 (0 : Nat) (List.length x2)) ++ ((bs []) :: ([] : List (Sh.str.T)))))
     (none))
    (br (decide ((97 : Int) ≤ (bt x0 x1)))
     (br (decide ((bt x0 x1) ≤ (122 : Int)))
      (br (inB (IntKind.wrap .i64 ((Nat.cast (List.length x2) : Int) - (1 : Int))) (List.length x2))
       (br (decide ((Int.toNat (IntKind.wrap .i64 ((Nat.cast (List.length x2) : Int) - (1 : Int)))) < (List.length x2)))
        (br (decide (((ByteArray.size (List.getD x2 (Int.toNat (IntKind.wrap .i64 ((Nat.cast (List.length x2) : Int) - (1 : Int)))) (bs []))) + (ByteArray.size (mkStr ((bt x0 x1) :: ([] : List ((Sh.int IntKind.u8).T)))))) < (1099511627776 : Nat)))
         (br (inB (IntKind.wrap .i64 ((Nat.cast (List.length x2) : Int) - (1 : Int))) (List.length x2))
          (br (decide ((Int.toNat (IntKind.wrap .i64 ((Nat.cast (List.length x2) : Int) - (1 : Int)))) < (List.length x2)))
           (nx x0 (IntKind.wrap .i64 (x1 + (1 : Int))) (List.set x2 (Int.toNat (IntKind.wrap .i64 ((Nat.cast (List.length x2) : Int) - (1 : Int)))) ((List.getD x2 (Int.toNat (IntKind.wrap .i64 ((Nat.cast (List.length x2) : Int) - (1 : Int)))) (bs [])) ++ (mkStr ((bt x0 x1) :: ([] : List ((Sh.int IntKind.u8).T)))))))
           (none))
          (none))
         (none))
        (none))
       (none))
      (br (decide ((48 : Int) ≤ (bt x0 x1)))
       (br (decide ((bt x0 x1) ≤ (57 : Int)))
        (br (inB (IntKind.wrap .i64 ((Nat.cast (List.length x2) : Int) - (1 : Int))) (List.length x2))
         (br (decide ((Int.toNat (IntKind.wrap .i64 ((Nat.cast (List.length x2) : Int) - (1 : Int)))) < (List.length x2)))
          (br (decide (((ByteArray.size (List.getD x2 (Int.toNat (IntKind.wrap .i64 ((Nat.cast (List.length x2) : Int) - (1 : Int)))) (bs []))) + (ByteArray.size (mkStr ((bt x0 x1) :: ([] : List ((Sh.int IntKind.u8).T)))))) < (1099511627776 : Nat)))
           (br (inB (IntKind.wrap .i64 ((Nat.cast (List.length x2) : Int) - (1 : Int))) (List.length x2))
            (br (decide ((Int.toNat (IntKind.wrap .i64 ((Nat.cast (List.length x2) : Int) - (1 : Int)))) < (List.length x2)))
             (nx x0 (IntKind.wrap .i64 (x1 + (1 : Int))) (List.set x2 (Int.toNat (IntKind.wrap .i64 ((Nat.cast (List.length x2) : Int) - (1 : Int)))) ((List.getD x2 (Int.toNat (IntKind.wrap .i64 ((Nat.cast (List.length x2) : Int) - (1 : Int)))) (bs [])) ++ (mkStr ((bt x0 x1) :: ([] : List ((Sh.int IntKind.u8).T)))))))
             (none))
            (none))
           (none))
          (none))
         (none))
        (br (decide ((bt x0 x1) = (46 : Int)))
         (br (inB (IntKind.wrap .i64 ((Nat.cast (List.length x2) : Int) - (1 : Int))) (List.length x2))
          (br (decide ((Int.toNat (IntKind.wrap .i64 ((Nat.cast (List.length x2) : Int) - (1 : Int)))) < (List.length x2)))
           (br (decide (((ByteArray.size (List.getD x2 (Int.toNat (IntKind.wrap .i64 ((Nat.cast (List.length x2) : Int) - (1 : Int)))) (bs []))) + (ByteArray.size (mkStr ((bt x0 x1) :: ([] : List ((Sh.int IntKind.u8).T)))))) < (1099511627776 : Nat)))
            (br (inB (IntKind.wrap .i64 ((Nat.cast (List.length x2) : Int) - (1 : Int))) (List.length x2))
             (br (decide ((Int.toNat (IntKind.wrap .i64 ((Nat.cast (List.length x2) : Int) - (1 : Int)))) < (List.length x2)))
              (nx x0 (IntKind.wrap .i64 (x1 + (1 : Int))) (List.set x2 (Int.toNat (IntKind.wrap .i64 ((Nat.cast (List.length x2) : Int) - (1 : Int)))) ((List.getD x2 (Int.toNat (IntKind.wrap .i64 ((Nat.cast (List.length x2) : Int) - (1 : Int)))) (bs [])) ++ (mkStr ((bt x0 x1) :: ([] : List ((Sh.int IntKind.u8).T)))))))
              (none))
             (none))
            (none))
           (none))
          (none))
         (br (decide ((bt x0 x1) = (95 : Int)))
          (br (inB (IntKind.wrap .i64 ((Nat.cast (List.length x2) : Int) - (1 : Int))) (List.length x2))
           (br (decide ((Int.toNat (IntKind.wrap .i64 ((Nat.cast (List.length x2) : Int) - (1 : Int)))) < (List.length x2)))
            (br (decide (((ByteArray.size (List.getD x2 (Int.toNat (IntKind.wrap .i64 ((Nat.cast (List.length x2) : Int) - (1 : Int)))) (bs []))) + (ByteArray.size (mkStr ((bt x0 x1) :: ([] : List ((Sh.int IntKind.u8).T)))))) < (1099511627776 : Nat)))
             (br (inB (IntKind.wrap .i64 ((Nat.cast (List.length x2) : Int) - (1 : Int))) (List.length x2))
              (br (decide ((Int.toNat (IntKind.wrap .i64 ((Nat.cast (List.length x2) : Int) - (1 : Int)))) < (List.length x2)))
               (nx x0 (IntKind.wrap .i64 (x1 + (1 : Int))) (List.set x2 (Int.toNat (IntKind.wrap .i64 ((Nat.cast (List.length x2) : Int) - (1 : Int)))) ((List.getD x2 (Int.toNat (IntKind.wrap .i64 ((Nat.cast (List.length x2) : Int) - (1 : Int)))) (bs [])) ++ (mkStr ((bt x0 x1) :: ([] : List ((Sh.int IntKind.u8).T)))))))
               (none))
              (none))
             (none))
            (none))
           (none))
          (k0 false x2))))
       (br (decide ((bt x0 x1) = (46 : Int)))
        (br (inB (IntKind.wrap .i64 ((Nat.cast (List.length x2) : Int) - (1 : Int))) (List.length x2))
         (br (decide ((Int.toNat (IntKind.wrap .i64 ((Nat.cast (List.length x2) : Int) - (1 : Int)))) < (List.length x2)))
          (br (decide (((ByteArray.size (List.getD x2 (Int.toNat (IntKind.wrap .i64 ((Nat.cast (List.length x2) : Int) - (1 : Int)))) (bs []))) + (ByteArray.size (mkStr ((bt x0 x1) :: ([] : List ((Sh.int IntKind.u8).T)))))) < (1099511627776 : Nat)))
           (br (inB (IntKind.wrap .i64 ((Nat.cast (List.length x2) : Int) - (1 : Int))) (List.length x2))
            (br (decide ((Int.toNat (IntKind.wrap .i64 ((Nat.cast (List.length x2) : Int) - (1 : Int)))) < (List.length x2)))
             (nx x0 (IntKind.wrap .i64 (x1 + (1 : Int))) (List.set x2 (Int.toNat (IntKind.wrap .i64 ((Nat.cast (List.length x2) : Int) - (1 : Int)))) ((List.getD x2 (Int.toNat (IntKind.wrap .i64 ((Nat.cast (List.length x2) : Int) - (1 : Int)))) (bs [])) ++ (mkStr ((bt x0 x1) :: ([] : List ((Sh.int IntKind.u8).T)))))))
             (none))
            (none))
           (none))
          (none))
         (none))
        (br (decide ((bt x0 x1) = (95 : Int)))
         (br (inB (IntKind.wrap .i64 ((Nat.cast (List.length x2) : Int) - (1 : Int))) (List.length x2))
          (br (decide ((Int.toNat (IntKind.wrap .i64 ((Nat.cast (List.length x2) : Int) - (1 : Int)))) < (List.length x2)))
           (br (decide (((ByteArray.size (List.getD x2 (Int.toNat (IntKind.wrap .i64 ((Nat.cast (List.length x2) : Int) - (1 : Int)))) (bs []))) + (ByteArray.size (mkStr ((bt x0 x1) :: ([] : List ((Sh.int IntKind.u8).T)))))) < (1099511627776 : Nat)))
            (br (inB (IntKind.wrap .i64 ((Nat.cast (List.length x2) : Int) - (1 : Int))) (List.length x2))
             (br (decide ((Int.toNat (IntKind.wrap .i64 ((Nat.cast (List.length x2) : Int) - (1 : Int)))) < (List.length x2)))
              (nx x0 (IntKind.wrap .i64 (x1 + (1 : Int))) (List.set x2 (Int.toNat (IntKind.wrap .i64 ((Nat.cast (List.length x2) : Int) - (1 : Int)))) ((List.getD x2 (Int.toNat (IntKind.wrap .i64 ((Nat.cast (List.length x2) : Int) - (1 : Int)))) (bs [])) ++ (mkStr ((bt x0 x1) :: ([] : List ((Sh.int IntKind.u8).T)))))))
              (none))
             (none))
            (none))
           (none))
          (none))
         (k0 false x2)))))
     (br (decide ((48 : Int) ≤ (bt x0 x1)))
      (br (decide ((bt x0 x1) ≤ (57 : Int)))
       (br (inB (IntKind.wrap .i64 ((Nat.cast (List.length x2) : Int) - (1 : Int))) (List.length x2))
        (br (decide ((Int.toNat (IntKind.wrap .i64 ((Nat.cast (List.length x2) : Int) - (1 : Int)))) < (List.length x2)))
         (br (decide (((ByteArray.size (List.getD x2 (Int.toNat (IntKind.wrap .i64 ((Nat.cast (List.length x2) : Int) - (1 : Int)))) (bs []))) + (ByteArray.size (mkStr ((bt x0 x1) :: ([] : List ((Sh.int IntKind.u8).T)))))) < (1099511627776 : Nat)))
          (br (inB (IntKind.wrap .i64 ((Nat.cast (List.length x2) : Int) - (1 : Int))) (List.length x2))
           (br (decide ((Int.toNat (IntKind.wrap .i64 ((Nat.cast (List.length x2) : Int) - (1 : Int)))) < (List.length x2)))
            (nx x0 (IntKind.wrap .i64 (x1 + (1 : Int))) (List.set x2 (Int.toNat (IntKind.wrap .i64 ((Nat.cast (List.length x2) : Int) - (1 : Int)))) ((List.getD x2 (Int.toNat (IntKind.wrap .i64 ((Nat.cast (List.length x2) : Int) - (1 : Int)))) (bs [])) ++ (mkStr ((bt x0 x1) :: ([] : List ((Sh.int IntKind.u8).T)))))))
            (none))
           (none))
          (none))
         (none))
        (none))
       (br (decide ((bt x0 x1) = (46 : Int)))
        (br (inB (IntKind.wrap .i64 ((Nat.cast (List.length x2) : Int) - (1 : Int))) (List.length x2))
         (br (decide ((Int.toNat (IntKind.wrap .i64 ((Nat.cast (List.length x2) : Int) - (1 : Int)))) < (List.length x2)))
          (br (decide (((ByteArray.size (List.getD x2 (Int.toNat (IntKind.wrap .i64 ((Nat.cast (List.length x2) : Int) - (1 : Int)))) (bs []))) + (ByteArray.size (mkStr ((bt x0 x1) :: ([] : List ((Sh.int IntKind.u8).T)))))) < (1099511627776 : Nat)))
           (br (inB (IntKind.wrap .i64 ((Nat.cast (List.length x2) : Int) - (1 : Int))) (List.length x2))
            (br (decide ((Int.toNat (IntKind.wrap .i64 ((Nat.cast (List.length x2) : Int) - (1 : Int)))) < (List.length x2)))
             (nx x0 (IntKind.wrap .i64 (x1 + (1 : Int))) (List.set x2 (Int.toNat (IntKind.wrap .i64 ((Nat.cast (List.length x2) : Int) - (1 : Int)))) ((List.getD x2 (Int.toNat (IntKind.wrap .i64 ((Nat.cast (List.length x2) : Int) - (1 : Int)))) (bs [])) ++ (mkStr ((bt x0 x1) :: ([] : List ((Sh.int IntKind.u8).T)))))))
             (none))
            (none))
           (none))
          (none))
         (none))
        (br (decide ((bt x0 x1) = (95 : Int)))
         (br (inB (IntKind.wrap .i64 ((Nat.cast (List.length x2) : Int) - (1 : Int))) (List.length x2))
          (br (decide ((Int.toNat (IntKind.wrap .i64 ((Nat.cast (List.length x2) : Int) - (1 : Int)))) < (List.length x2)))
           (br (decide (((ByteArray.size (List.getD x2 (Int.toNat (IntKind.wrap .i64 ((Nat.cast (List.length x2) : Int) - (1 : Int)))) (bs []))) + (ByteArray.size (mkStr ((bt x0 x1) :: ([] : List ((Sh.int IntKind.u8).T)))))) < (1099511627776 : Nat)))
            (br (inB (IntKind.wrap .i64 ((Nat.cast (List.length x2) : Int) - (1 : Int))) (List.length x2))
             (br (decide ((Int.toNat (IntKind.wrap .i64 ((Nat.cast (List.length x2) : Int) - (1 : Int)))) < (List.length x2)))
              (nx x0 (IntKind.wrap .i64 (x1 + (1 : Int))) (List.set x2 (Int.toNat (IntKind.wrap .i64 ((Nat.cast (List.length x2) : Int) - (1 : Int)))) ((List.getD x2 (Int.toNat (IntKind.wrap .i64 ((Nat.cast (List.length x2) : Int) - (1 : Int)))) (bs [])) ++ (mkStr ((bt x0 x1) :: ([] : List ((Sh.int IntKind.u8).T)))))))
              (none))
             (none))
            (none))
           (none))
          (none))
         (k0 false x2))))
      (br (decide ((bt x0 x1) = (46 : Int)))
       (br (inB (IntKind.wrap .i64 ((Nat.cast (List.length x2) : Int) - (1 : Int))) (List.length x2))
        (br (decide ((Int.toNat (IntKind.wrap .i64 ((Nat.cast (List.length x2) : Int) - (1 : Int)))) < (List.length x2)))
         (br (decide (((ByteArray.size (List.getD x2 (Int.toNat (IntKind.wrap .i64 ((Nat.cast (List.length x2) : Int) - (1 : Int)))) (bs []))) + (ByteArray.size (mkStr ((bt x0 x1) :: ([] : List ((Sh.int IntKind.u8).T)))))) < (1099511627776 : Nat)))
          (br (inB (IntKind.wrap .i64 ((Nat.cast (List.length x2) : Int) - (1 : Int))) (List.length x2))
           (br (decide ((Int.toNat (IntKind.wrap .i64 ((Nat.cast (List.length x2) : Int) - (1 : Int)))) < (List.length x2)))
            (nx x0 (IntKind.wrap .i64 (x1 + (1 : Int))) (List.set x2 (Int.toNat (IntKind.wrap .i64 ((Nat.cast (List.length x2) : Int) - (1 : Int)))) ((List.getD x2 (Int.toNat (IntKind.wrap .i64 ((Nat.cast (List.length x2) : Int) - (1 : Int)))) (bs [])) ++ (mkStr ((bt x0 x1) :: ([] : List ((Sh.int IntKind.u8).T)))))))
            (none))
           (none))
          (none))
         (none))
        (none))
       (br (decide ((bt x0 x1) = (95 : Int)))
        (br (inB (IntKind.wrap .i64 ((Nat.cast (List.length x2) : Int) - (1 : Int))) (List.length x2))
         (br (decide ((Int.toNat (IntKind.wrap .i64 ((Nat.cast (List.length x2) : Int) - (1 : Int)))) < (List.length x2)))
          (br (decide (((ByteArray.size (List.getD x2 (Int.toNat (IntKind.wrap .i64 ((Nat.cast (List.length x2) : Int) - (1 : Int)))) (bs []))) + (ByteArray.size (mkStr ((bt x0 x1) :: ([] : List ((Sh.int IntKind.u8).T)))))) < (1099511627776 : Nat)))
           (br (inB (IntKind.wrap .i64 ((Nat.cast (List.length x2) : Int) - (1 : Int))) (List.length x2))
            (br (decide ((Int.toNat (IntKind.wrap .i64 ((Nat.cast (List.length x2) : Int) - (1 : Int)))) < (List.length x2)))
             (nx x0 (IntKind.wrap .i64 (x1 + (1 : Int))) (List.set x2 (Int.toNat (IntKind.wrap .i64 ((Nat.cast (List.length x2) : Int) - (1 : Int)))) ((List.getD x2 (Int.toNat (IntKind.wrap .i64 ((Nat.cast (List.length x2) : Int) - (1 : Int)))) (bs [])) ++ (mkStr ((bt x0 x1) :: ([] : List ((Sh.int IntKind.u8).T)))))))
             (none))
            (none))
           (none))
          (none))
         (none))
        (k0 false x2))))))
   (none))
  (k1 x2)
noncomputable def ref12_NameMay_l1_T0 (N : Nat) {R : Type} (nx : (Int) → (List (ByteArray)) → Option R) (k0 : (Bool) → (List (ByteArray)) → Option R) (k1 : (List (ByteArray)) → Option R) (x0 : Int) (x1 : List (ByteArray)) : Option R :=
  br (decide (x0 < (Nat.cast (List.length x1) : Int)))
  (br (inB x0 (List.length x1))
   (br (decide ((Int.toNat x0) < (List.length x1)))
    (br (!(decide ((List.getD x1 (Int.toNat x0) (bs [])) = (bs []))))
     (br (inB x0 (List.length x1))
      (br (decide ((Int.toNat x0) < (List.length x1)))
       (br (!(decide ((List.getD x1 (Int.toNat x0) (bs [])) = (bs [46]))))
        (br (inB x0 (List.length x1))
         (br (decide ((Int.toNat x0) < (List.length x1)))
          (br (decide ((List.getD x1 (Int.toNat x0) (bs [])) = (bs [46, 46])))
           (k0 false x1)
           (nx (IntKind.wrap .i64 (x0 + (1 : Int))) x1))
          (none))
         (none))
        (k0 false x1))
       (none))
      (none))
     (k0 false x1))
    (none))
   (none))
  (k1 x1)
noncomputable def ref12_NameMay_l1 (N : Nat) {R : Type} (k0 : (Bool) → (List (ByteArray)) → Option R) (k1 : (List (ByteArray)) → Option R) : Nat → (Int) → (List (ByteArray)) → Option R
  | 0, _, _ => none
  | n + 1, x0, x1 => ref12_NameMay_l1_T0 N (fun x0 x1 => ref12_NameMay_l1 N k0 k1 n x0 x1) k0 k1 x0 x1
noncomputable def ref12_NameMay_l0 (N : Nat) {R : Type} (k0 : (Bool) → (List (ByteArray)) → Option R) (k1 : (List (ByteArray)) → Option R) : Nat → (ByteArray) → (Int) → (List (ByteArray)) → Option R
  | 0, _, _, _ => none
  | n + 1, x0, x1, x2 => ref12_NameMay_l0_T0 N (@ref12_NameMay_l1 N) (fun x0 x1 x2 => ref12_NameMay_l0 N k0 k1 n x0 x1 x2) k0 k1 x0 x1 x2
noncomputable def ref12_NameMay_T (N : Nat) (w0 : ref12_NameMay_l0_Ty) (w1 : ref12_NameMay_l1_Ty) {R : Type} (x0 : ByteArray) (k0 : (Bool) → Option R) : Option R :=
  br (!(decide ((Nat.cast (ByteArray.size x0) : Int) < (1 : Int))))
  (br (decide ((8 : Int) < (Nat.cast (ByteArray.size x0) : Int)))
   (k0 false)
   (w0
    (fun b337 l338 => k0 b337)
    (fun l339 => w1
     (fun b340 l341 => k0 b340)
     (fun l342 => k0 (decide ((Nat.cast (List.length l342) : Int) ≤ (2 : Int))))
     N (0 : Int) l339)
    N x0 (0 : Int) ((bs []) :: ([] : List (Sh.str.T)))))
  (k0 false)
noncomputable def ref12_NameMay (N : Nat) {R : Type} (x0 : ByteArray) (k0 : (Bool) → Option R) : Option R := ref12_NameMay_T N (@ref12_NameMay_l0 N) (@ref12_NameMay_l1 N) x0 k0
abbrev ref12_Tree_at_7d70_l0_Ty : Type 1 := {R : Type} → ((Int) → (Int) → (List ((ByteArray) × ((Bool) × (Int)))) → Option R) → ((Int) → (List ((ByteArray) × ((Bool) × (Int)))) → Option R) → Nat → (ByteArray) → (Int) → (Int) → (List ((ByteArray) × ((Bool) × (Int)))) → Option R
abbrev ref12_Tree_at_7d70_Ty : Type 1 := {R : Type} → (ByteArray) → (Int) → (List ((ByteArray) × ((Bool) × (Int)))) → ((Int) → (Int) → (List ((ByteArray) × ((Bool) × (Int)))) → Option R) → Option R
noncomputable def ref12_Tree_at_7d70_l0_T0 (N : Nat) {R : Type} (nx : (ByteArray) → (Int) → (Int) → (List ((ByteArray) × ((Bool) × (Int)))) → Option R) (k0 : (Int) → (Int) → (List ((ByteArray) × ((Bool) × (Int)))) → Option R) (k1 : (Int) → (List ((ByteArray) × ((Bool) × (Int)))) → Option R) (x0 : ByteArray) (x1 : Int) (x2 : Int) (x3 : List ((ByteArray) × ((Bool) × (Int)))) : Option R :=
  br (decide (x1 < (Nat.cast (List.length x3) : Int)))
  (br (inB x1 (List.length x3))
   (br (decide ((Int.toNat x1) < (List.length x3)))
    (br (decide ((List.getD x3 (Int.toNat x1) ((bs []) , (false , (0 : Int)))).1 = x0))
     (k0 x1 x2 x3)
     (nx x0 (IntKind.wrap .i64 (x1 + (1 : Int))) x2 x3))
    (none))
   (none))
  (k1 x2 x3)
noncomputable def ref12_Tree_at_7d70_l0 (N : Nat) {R : Type} (k0 : (Int) → (Int) → (List ((ByteArray) × ((Bool) × (Int)))) → Option R) (k1 : (Int) → (List ((ByteArray) × ((Bool) × (Int)))) → Option R) : Nat → (ByteArray) → (Int) → (Int) → (List ((ByteArray) × ((Bool) × (Int)))) → Option R
  | 0, _, _, _, _ => none
  | n + 1, x0, x1, x2, x3 => ref12_Tree_at_7d70_l0_T0 N (fun x0 x1 x2 x3 => ref12_Tree_at_7d70_l0 N k0 k1 n x0 x1 x2 x3) k0 k1 x0 x1 x2 x3
noncomputable def ref12_Tree_at_7d70_T (N : Nat) (w0 : ref12_Tree_at_7d70_l0_Ty) {R : Type} (x0 : ByteArray) (x1 : Int) (x2 : List ((ByteArray) × ((Bool) × (Int)))) (k0 : (Int) → (Int) → (List ((ByteArray) × ((Bool) × (Int)))) → Option R) : Option R :=
  w0
  (fun i344 i345 l346 => k0 i344 i345 l346)
  (fun i347 l348 => k0 (-1 : Int) i347 l348)
  N x0 (0 : Int) x1 x2
noncomputable def ref12_Tree_at_7d70 (N : Nat) {R : Type} (x0 : ByteArray) (x1 : Int) (x2 : List ((ByteArray) × ((Bool) × (Int)))) (k0 : (Int) → (Int) → (List ((ByteArray) × ((Bool) × (Int)))) → Option R) : Option R := ref12_Tree_at_7d70_T N (@ref12_Tree_at_7d70_l0 N) x0 x1 x2 k0
abbrev ref12_Split_l0_Ty : Type 1 := {R : Type} → ((ByteArray) → (ByteArray) → (ByteArray) → Option R) → ((ByteArray) → Option R) → Nat → (ByteArray) → (Int) → Option R
abbrev ref12_Split_Ty : Type 1 := {R : Type} → (ByteArray) → ((ByteArray) → (ByteArray) → Option R) → Option R
noncomputable def ref12_Split_l0_T0 (N : Nat) (c0 : ref12_NameMay_Ty) {R : Type} (nx : (ByteArray) → (Int) → Option R) (k0 : (ByteArray) → (ByteArray) → (ByteArray) → Option R) (k1 : (ByteArray) → Option R) (x0 : ByteArray) (x1 : Int) : Option R :=
  br (decide (x1 < (Nat.cast (ByteArray.size x0) : Int)))
  (br (inB x1 (ByteArray.size x0))
   (br (decide ((bt x0 x1) = (47 : Int)))
    (br (leB x1 (ByteArray.size x0))
     (br (leB (IntKind.wrap .i64 (x1 + (1 : Int))) (ByteArray.size x0))
      (k0 x0 (ByteArray.extract x0 (0 : Nat) (Int.toNat x1)) (ByteArray.extract x0 (Int.toNat (IntKind.wrap .i64 (x1 + (1 : Int)))) (ByteArray.size x0)))
      (none))
     (none))
    (nx x0 (IntKind.wrap .i64 (x1 + (1 : Int)))))
   (none))
  (k1 x0)
noncomputable def ref12_Split_l0 (N : Nat) {R : Type} (k0 : (ByteArray) → (ByteArray) → (ByteArray) → Option R) (k1 : (ByteArray) → Option R) : Nat → (ByteArray) → (Int) → Option R
  | 0, _, _ => none
  | n + 1, x0, x1 => ref12_Split_l0_T0 N (@ref12_NameMay N) (fun x0 x1 => ref12_Split_l0 N k0 k1 n x0 x1) k0 k1 x0 x1
noncomputable def ref12_Split_T (N : Nat) (c0 : ref12_NameMay_Ty) (w0 : ref12_Split_l0_Ty) {R : Type} (x0 : ByteArray) (k0 : (ByteArray) → (ByteArray) → Option R) : Option R :=
  c0 x0
  (fun b352 => br (!b352)
   (k0 (bs []) (bs []))
   (w0
    (fun s353 s354 s355 => k0 s354 s355)
    (fun s356 => k0 (bs []) s356)
    N x0 (0 : Int)))
noncomputable def ref12_Split (N : Nat) {R : Type} (x0 : ByteArray) (k0 : (ByteArray) → (ByteArray) → Option R) : Option R := ref12_Split_T N (@ref12_NameMay N) (@ref12_Split_l0 N) x0 k0
abbrev ref12_NewTree_l0_Ty : Type 1 := {R : Type} → ((List ((ByteArray) × ((Bool) × (Int)))) → (Int) → (Int) → (List ((ByteArray) × ((Bool) × (Int)))) → Option R) → ((List ((ByteArray) × ((Bool) × (Int)))) → (Int) → (List ((ByteArray) × ((Bool) × (Int)))) → Option R) → Nat → (List ((ByteArray) × ((Bool) × (Int)))) → (Int) → (Int) → (List ((ByteArray) × ((Bool) × (Int)))) → Option R
abbrev ref12_NewTree_Ty : Type 1 := {R : Type} → (List ((ByteArray) × ((Bool) × (Int)))) → ((Int) → Option R) → ((Int) → (Int) → (List ((ByteArray) × ((Bool) × (Int)))) → Option R) → Option R
noncomputable def ref12_NewTree_l0_T0 (N : Nat) (c0 : ref12_Split_Ty) (c1 : ref12_Tree_at_7d70_Ty) (c2 : ref12_NameMay_Ty) {R : Type} (nx : (List ((ByteArray) × ((Bool) × (Int)))) → (Int) → (Int) → (List ((ByteArray) × ((Bool) × (Int)))) → Option R) (k0 : (List ((ByteArray) × ((Bool) × (Int)))) → (Int) → (Int) → (List ((ByteArray) × ((Bool) × (Int)))) → Option R) (k1 : (List ((ByteArray) × ((Bool) × (Int)))) → (Int) → (List ((ByteArray) × ((Bool) × (Int)))) → Option R) (x0 : List ((ByteArray) × ((Bool) × (Int)))) (x1 : Int) (x2 : Int) (x3 : List ((ByteArray) × ((Bool) × (Int)))) : Option R :=
  br (decide (x1 < (Nat.cast (List.length x0) : Int)))
  (br (inB x1 (List.length x0))
   (c2 (List.getD x0 (Int.toNat x1) ((bs []) , (false , (0 : Int)))).1
    (fun b343 => br (!(!b343))
     (br (inB x1 (List.length x0))
      (c1 (List.getD x0 (Int.toNat x1) ((bs []) , (false , (0 : Int)))).1 x2 x3
       (fun i349 i350 l351 => br (decide ((0 : Int) ≤ i349))
        (k0 x0 (11 : Int) i350 l351)
        (br (inB x1 (List.length x0))
         (c0 (List.getD x0 (Int.toNat x1) ((bs []) , (false , (0 : Int)))).1
          (fun s357 s358 => br (!(decide (s357 = (bs []))))
           (br (inB x1 (List.length x0))
            (br (!(List.getD x0 (Int.toNat x1) ((bs []) , (false , (0 : Int)))).2.1)
             (c1 s357 i350 l351
              (fun i359 i360 l361 => br (!(decide (i359 < (0 : Int))))
               (c1 s357 i360 l361
                (fun i362 i363 l364 => br (inB i362 (List.length l364))
                 (br (decide ((Int.toNat i362) < (List.length l364)))
                  (br (!(List.getD l364 (Int.toNat i362) ((bs []) , (false , (0 : Int)))).2.1)
                   (k0 x0 (11 : Int) i363 l364)
                   (br (inB x1 (List.length x0))
                    (br (inB x1 (List.length x0))
                     (br (((fits (0 : Nat) (List.length l364) l364) && (decide ((((List.length l364) + (1 : Nat)) * (32 : Nat)) ≤ (70368744177664 : Nat)))) && true)
                      (nx x0 (IntKind.wrap .i64 (x1 + (1 : Int))) i363 ((sub l364 (0 : Nat) (List.length l364)) ++ (((List.getD x0 (Int.toNat x1) ((bs []) , (false , (0 : Int)))).1 , ((List.getD x0 (Int.toNat x1) ((bs []) , (false , (0 : Int)))).2.1 , x1)) :: ([] : List ((Sh.str.pair (Sh.bool.pair (Sh.int IntKind.i64))).T)))))
                      (none))
                     (none))
                    (none)))
                  (none))
                 (none)))
               (k0 x0 (11 : Int) i360 l361)))
             (k0 x0 (11 : Int) i350 l351))
            (none))
           (br (inB x1 (List.length x0))
            (br (inB x1 (List.length x0))
             (br (((fits (0 : Nat) (List.length l351) l351) && (decide ((((List.length l351) + (1 : Nat)) * (32 : Nat)) ≤ (70368744177664 : Nat)))) && true)
              (nx x0 (IntKind.wrap .i64 (x1 + (1 : Int))) i350 ((sub l351 (0 : Nat) (List.length l351)) ++ (((List.getD x0 (Int.toNat x1) ((bs []) , (false , (0 : Int)))).1 , ((List.getD x0 (Int.toNat x1) ((bs []) , (false , (0 : Int)))).2.1 , x1)) :: ([] : List ((Sh.str.pair (Sh.bool.pair (Sh.int IntKind.i64))).T)))))
              (none))
             (none))
            (none))))
         (none))))
      (none))
     (k0 x0 (11 : Int) x2 x3)))
   (none))
  (k1 x0 x2 x3)
noncomputable def ref12_NewTree_l0 (N : Nat) {R : Type} (k0 : (List ((ByteArray) × ((Bool) × (Int)))) → (Int) → (Int) → (List ((ByteArray) × ((Bool) × (Int)))) → Option R) (k1 : (List ((ByteArray) × ((Bool) × (Int)))) → (Int) → (List ((ByteArray) × ((Bool) × (Int)))) → Option R) : Nat → (List ((ByteArray) × ((Bool) × (Int)))) → (Int) → (Int) → (List ((ByteArray) × ((Bool) × (Int)))) → Option R
  | 0, _, _, _, _ => none
  | n + 1, x0, x1, x2, x3 => ref12_NewTree_l0_T0 N (@ref12_Split N) (@ref12_Tree_at_7d70 N) (@ref12_NameMay N) (fun x0 x1 x2 x3 => ref12_NewTree_l0 N k0 k1 n x0 x1 x2 x3) k0 k1 x0 x1 x2 x3
noncomputable def ref12_NewTree_T (N : Nat) (c0 : ref12_Split_Ty) (c1 : ref12_Tree_at_7d70_Ty) (c2 : ref12_NameMay_Ty) (w0 : ref12_NewTree_l0_Ty) {R : Type} (x0 : List ((ByteArray) × ((Bool) × (Int)))) (k0 : (Int) → Option R) (k1 : (Int) → (Int) → (List ((ByteArray) × ((Bool) × (Int)))) → Option R) : Option R :=
  br (decide ((8 : Int) < (Nat.cast (List.length x0) : Int)))
  (k0 (11 : Int))
  (w0
   (fun l365 i366 i367 l368 => k0 i366)
   (fun l369 i370 l371 => k1 (0 : Int) (Nat.cast (List.length l369) : Int) l371)
   N x0 (0 : Int) (0 : Int) ([] : List ((Sh.str.pair (Sh.bool.pair (Sh.int IntKind.i64))).T)))
noncomputable def ref12_NewTree (N : Nat) {R : Type} (x0 : List ((ByteArray) × ((Bool) × (Int)))) (k0 : (Int) → Option R) (k1 : (Int) → (Int) → (List ((ByteArray) × ((Bool) × (Int)))) → Option R) : Option R := ref12_NewTree_T N (@ref12_Split N) (@ref12_Tree_at_7d70 N) (@ref12_NameMay N) (@ref12_NewTree_l0 N) x0 k0 k1
abbrev ref17_Caps_l0_Ty : Type 1 := {R : Type} → ((List ((ByteArray) × ((Bool) × (Int)))) → (List (Int)) → (Int) → (Int) → (Int) → (List (Int)) → Option R) → Nat → (Int) → (List ((ByteArray) × ((Bool) × (Int)))) → (List (Int)) → (Int) → (Int) → (Int) → (List (Int)) → Option R
abbrev ref17_Caps_Ty : Type 1 := {R : Type} → (List ((ByteArray) × ((Bool) × (Int)))) → (List (Int)) → (Int) → (Int) → (Int) → ((List (Int)) → Option R) → Option R
noncomputable def ref17_Caps_l0_T0 (N : Nat) {R : Type} (nx : (Int) → (List ((ByteArray) × ((Bool) × (Int)))) → (List (Int)) → (Int) → (Int) → (Int) → (List (Int)) → Option R) (k0 : (List ((ByteArray) × ((Bool) × (Int)))) → (List (Int)) → (Int) → (Int) → (Int) → (List (Int)) → Option R) (x0 : Int) (x1 : List ((ByteArray) × ((Bool) × (Int)))) (x2 : List (Int)) (x3 : Int) (x4 : Int) (x5 : Int) (x6 : List (Int)) : Option R :=
  br (decide (x0 < (Nat.cast (List.length x1) : Int)))
  (br (inB x0 (List.length x1))
   (br (!(List.getD x1 (Int.toNat x0) ((bs []) , (false , (0 : Int)))).2.1)
    (br (inB x0 (List.length x1))
     (br (((fits (0 : Nat) (List.length x6) x6) && (decide ((((List.length x6) + (1 : Nat)) * (8 : Nat)) ≤ (70368744177664 : Nat)))) && true)
      (nx (IntKind.wrap .i64 (x0 + (1 : Int))) x1 x2 x3 x4 x5 ((sub x6 (0 : Nat) (List.length x6)) ++ ((List.getD x1 (Int.toNat x0) ((bs []) , (false , (0 : Int)))).2.2 :: ([] : List ((Sh.int IntKind.i64).T)))))
      (none))
     (none))
    (nx (IntKind.wrap .i64 (x0 + (1 : Int))) x1 x2 x3 x4 x5 x6))
   (none))
  (k0 x1 x2 x3 x4 x5 x6)
noncomputable def ref17_Caps_l0 (N : Nat) {R : Type} (k0 : (List ((ByteArray) × ((Bool) × (Int)))) → (List (Int)) → (Int) → (Int) → (Int) → (List (Int)) → Option R) : Nat → (Int) → (List ((ByteArray) × ((Bool) × (Int)))) → (List (Int)) → (Int) → (Int) → (Int) → (List (Int)) → Option R
  | 0, _, _, _, _, _, _, _ => none
  | n + 1, x0, x1, x2, x3, x4, x5, x6 => ref17_Caps_l0_T0 N (fun x0 x1 x2 x3 x4 x5 x6 => ref17_Caps_l0 N k0 n x0 x1 x2 x3 x4 x5 x6) k0 x0 x1 x2 x3 x4 x5 x6
noncomputable def ref17_Caps_T (N : Nat) (w0 : ref17_Caps_l0_Ty) {R : Type} (x0 : List ((ByteArray) × ((Bool) × (Int)))) (x1 : List (Int)) (x2 : Int) (x3 : Int) (x4 : Int) (k0 : (List (Int)) → Option R) : Option R :=
  w0
  (fun l373 l374 i375 i376 i377 l378 => br (((fits (0 : Nat) (List.length l378) l378) && (decide ((((List.length l378) + (List.length l374)) * (8 : Nat)) ≤ (70368744177664 : Nat)))) && true)
   (k0 ((sub l378 (0 : Nat) (List.length l378)) ++ l374))
   (none))
  N (0 : Int) x0 x1 x2 x3 x4 ([] : List ((Sh.int IntKind.i64).T))
noncomputable def ref17_Caps (N : Nat) {R : Type} (x0 : List ((ByteArray) × ((Bool) × (Int)))) (x1 : List (Int)) (x2 : Int) (x3 : Int) (x4 : Int) (k0 : (List (Int)) → Option R) : Option R := ref17_Caps_T N (@ref17_Caps_l0 N) x0 x1 x2 x3 x4 k0
abbrev ref17_files_Ty : Type 1 := {R : Type} → (List ((ByteArray) × ((Bool) × (Int)))) → (List (Int)) → (Int) → (Int) → (Int) → ((Int) → Option R) → Option R
noncomputable def ref17_files_T (N : Nat) (c0 : ref17_Caps_Ty) {R : Type} (x0 : List ((ByteArray) × ((Bool) × (Int)))) (x1 : List (Int)) (x2 : Int) (x3 : Int) (x4 : Int) (k0 : (Int) → Option R) : Option R :=
  c0 x0 x1 x2 x3 x4
  (fun l379 => br (listDec (Sh.dec (.int .i64)) x1 x1)
   (br (decide ((Nat.cast (List.length x1) : Int) = (Nat.cast (List.length x1) : Int)))
    (k0 (IntKind.wrap .i64 ((Nat.cast (List.length l379) : Int) - (Nat.cast (List.length x1) : Int))))
    (none))
   (none))
noncomputable def ref17_files (N : Nat) {R : Type} (x0 : List ((ByteArray) × ((Bool) × (Int)))) (x1 : List (Int)) (x2 : Int) (x3 : Int) (x4 : Int) (k0 : (Int) → Option R) : Option R := ref17_files_T N (@ref17_Caps N) x0 x1 x2 x3 x4 k0
abbrev ref17_May_l0_Ty : Type 1 := {R : Type} → ((Bool) → (List ((ByteArray) × ((Bool) × (Int)))) → (List (Int)) → (Int) → (Int) → (Int) → Option R) → ((List ((ByteArray) × ((Bool) × (Int)))) → (List (Int)) → (Int) → (Int) → (Int) → Option R) → Nat → (Int) → (List ((ByteArray) × ((Bool) × (Int)))) → (List (Int)) → (Int) → (Int) → (Int) → Option R
abbrev ref17_May_l1_Ty : Type 1 := {R : Type} → ((Bool) → Option R) → (Option R) → Nat → (Int) → (List (Int)) → Option R
abbrev ref17_May_Ty : Type 1 := {R : Type} → (List ((ByteArray) × ((Bool) × (Int)))) → (List (Int)) → (Int) → (Int) → (Int) → ((Bool) → Option R) → Option R
noncomputable def ref17_May_l0_T0 (N : Nat) (c0 : ref17_Caps_Ty) (c1 : ref17_files_Ty) (c2 : ref12_NewTree_Ty) (w1 : ref17_May_l1_Ty) {R : Type} (nx : (Int) → (List ((ByteArray) × ((Bool) × (Int)))) → (List (Int)) → (Int) → (Int) → (Int) → Option R) (k0 : (Bool) → (List ((ByteArray) × ((Bool) × (Int)))) → (List (Int)) → (Int) → (Int) → (Int) → Option R) (k1 : (List ((ByteArray) × ((Bool) × (Int)))) → (List (Int)) → (Int) → (Int) → (Int) → Option R) (x0 : Int) (x1 : List ((ByteArray) × ((Bool) × (Int)))) (x2 : List (Int)) (x3 : Int) (x4 : Int) (x5 : Int) : Option R :=
  br (decide (x0 < (Nat.cast (List.length x1) : Int)))
  (br (inB x0 (List.length x1))
   (br (List.getD x1 (Int.toNat x0) ((bs []) , (false , (0 : Int)))).2.1
    (br (inB x0 (List.length x1))
     (br (!(decide ((List.getD x1 (Int.toNat x0) ((bs []) , (false , (0 : Int)))).2.2 = (0 : Int))))
      (k0 false x1 x2 x3 x4 x5)
      (nx (IntKind.wrap .i64 (x0 + (1 : Int))) x1 x2 x3 x4 x5))
     (none))
    (nx (IntKind.wrap .i64 (x0 + (1 : Int))) x1 x2 x3 x4 x5))
   (none))
  (k1 x1 x2 x3 x4 x5)
noncomputable def ref17_May_l1_T0 (N : Nat) (c0 : ref17_Caps_Ty) (c1 : ref17_files_Ty) (c2 : ref12_NewTree_Ty) {R : Type} (nx : (Int) → (List (Int)) → Option R) (k0 : (Bool) → Option R) (k1 : Option R) (x0 : Int) (x1 : List (Int)) : Option R :=
  br (decide (x0 < (Nat.cast (List.length x1) : Int)))
  (br (inB x0 (List.length x1))
   (br (decide ((Int.toNat x0) < (List.length x1)))
    (br (!(decide ((List.getD x1 (Int.toNat x0) (0 : Int)) < (0 : Int))))
     (br (inB x0 (List.length x1))
      (br (decide ((Int.toNat x0) < (List.length x1)))
       (br (decide ((3 : Int) < (List.getD x1 (Int.toNat x0) (0 : Int))))
        (k0 false)
        (nx (IntKind.wrap .i64 (x0 + (1 : Int))) x1))
       (none))
      (none))
     (k0 false))
    (none))
   (none))
  (k1)
noncomputable def ref17_May_l1 (N : Nat) {R : Type} (k0 : (Bool) → Option R) (k1 : Option R) : Nat → (Int) → (List (Int)) → Option R
  | 0, _, _ => none
  | n + 1, x0, x1 => ref17_May_l1_T0 N (@ref17_Caps N) (@ref17_files N) (@ref12_NewTree N) (fun x0 x1 => ref17_May_l1 N k0 k1 n x0 x1) k0 k1 x0 x1
noncomputable def ref17_May_l0 (N : Nat) {R : Type} (k0 : (Bool) → (List ((ByteArray) × ((Bool) × (Int)))) → (List (Int)) → (Int) → (Int) → (Int) → Option R) (k1 : (List ((ByteArray) × ((Bool) × (Int)))) → (List (Int)) → (Int) → (Int) → (Int) → Option R) : Nat → (Int) → (List ((ByteArray) × ((Bool) × (Int)))) → (List (Int)) → (Int) → (Int) → (Int) → Option R
  | 0, _, _, _, _, _, _ => none
  | n + 1, x0, x1, x2, x3, x4, x5 => ref17_May_l0_T0 N (@ref17_Caps N) (@ref17_files N) (@ref12_NewTree N) (@ref17_May_l1 N) (fun x0 x1 x2 x3 x4 x5 => ref17_May_l0 N k0 k1 n x0 x1 x2 x3 x4 x5) k0 k1 x0 x1 x2 x3 x4 x5
noncomputable def ref17_May_T (N : Nat) (c0 : ref17_Caps_Ty) (c1 : ref17_files_Ty) (c2 : ref12_NewTree_Ty) (w0 : ref17_May_l0_Ty) (w1 : ref17_May_l1_Ty) {R : Type} (x0 : List ((ByteArray) × ((Bool) × (Int)))) (x1 : List (Int)) (x2 : Int) (x3 : Int) (x4 : Int) (k0 : (Bool) → Option R) : Option R :=
  c2 x0
  (fun i372 => br (!(!(decide (i372 = (0 : Int)))))
   (c1 x0 x1 x2 x3 x4
    (fun i380 => br (!(decide ((4 : Int) < i380)))
     (br (!(decide ((2 : Int) < (Nat.cast (List.length x1) : Int))))
      (br (!(decide (x2 < (0 : Int))))
       (br (!(decide ((6 : Int) < x2)))
        (br (!(decide (x3 < (0 : Int))))
         (br (!(decide (x2 < x3)))
          (br (!(decide (x4 < (0 : Int))))
           (br (decide ((400 : Int) < x4))
            (k0 false)
            (w0
             (fun b381 l382 l383 i384 i385 i386 => k0 b381)
             (fun l387 l388 i389 i390 i391 => c0 l387 l388 i389 i390 i391
              (fun l392 => w1
               (fun b393 => k0 b393)
               (k0 true)
               N (0 : Int) l392))
             N (0 : Int) x0 x1 x2 x3 x4))
           (k0 false))
          (k0 false))
         (k0 false))
        (k0 false))
       (k0 false))
      (k0 false))
     (k0 false)))
   (k0 false))
  (fun i394 i395 l396 => br (!(!(decide (i394 = (0 : Int)))))
   (c1 x0 x1 x2 x3 x4
    (fun i397 => br (!(decide ((4 : Int) < i397)))
     (br (!(decide ((2 : Int) < (Nat.cast (List.length x1) : Int))))
      (br (!(decide (x2 < (0 : Int))))
       (br (!(decide ((6 : Int) < x2)))
        (br (!(decide (x3 < (0 : Int))))
         (br (!(decide (x2 < x3)))
          (br (!(decide (x4 < (0 : Int))))
           (br (decide ((400 : Int) < x4))
            (k0 false)
            (w0
             (fun b398 l399 l400 i401 i402 i403 => k0 b398)
             (fun l404 l405 i406 i407 i408 => c0 l404 l405 i406 i407 i408
              (fun l409 => w1
               (fun b410 => k0 b410)
               (k0 true)
               N (0 : Int) l409))
             N (0 : Int) x0 x1 x2 x3 x4))
           (k0 false))
          (k0 false))
         (k0 false))
        (k0 false))
       (k0 false))
      (k0 false))
     (k0 false)))
   (k0 false))
noncomputable def ref17_May (N : Nat) {R : Type} (x0 : List ((ByteArray) × ((Bool) × (Int)))) (x1 : List (Int)) (x2 : Int) (x3 : Int) (x4 : Int) (k0 : (Bool) → Option R) : Option R := ref17_May_T N (@ref17_Caps N) (@ref17_files N) (@ref12_NewTree N) (@ref17_May_l0 N) (@ref17_May_l1 N) x0 x1 x2 x3 x4 k0
abbrev law18_CastPlaces_l0_Ty : Type 1 := {R : Type} → ((Bool) → (Int) → (List ((ByteArray) × ((Bool) × (Int)))) → (List (Int)) → (Int) → (Int) → (Int) → (List (Int)) → Option R) → ((Int) → (List ((ByteArray) × ((Bool) × (Int)))) → (List (Int)) → (Int) → (Int) → (Int) → (List (Int)) → Option R) → Nat → (Int) → (Int) → (List ((ByteArray) × ((Bool) × (Int)))) → (List (Int)) → (Int) → (Int) → (Int) → (List (Int)) → Option R
abbrev law18_CastPlaces_l1_Ty : Type 1 := {R : Type} → ((Bool) → (Int) → (Int) → (List ((ByteArray) × ((Bool) × (Int)))) → (List (Int)) → (Int) → (Int) → (Int) → (List (Int)) → Option R) → ((Int) → (Int) → (List ((ByteArray) × ((Bool) × (Int)))) → (List (Int)) → (Int) → (Int) → (Int) → (List (Int)) → Option R) → Nat → (Int) → (Int) → (Int) → (List ((ByteArray) × ((Bool) × (Int)))) → (List (Int)) → (Int) → (Int) → (Int) → (List (Int)) → Option R
abbrev law18_CastPlaces_l2_Ty : Type 1 := {R : Type} → ((Bool) → (Int) → (List ((ByteArray) × ((Bool) × (Int)))) → (List (Int)) → (Int) → (Int) → (Int) → (List (Int)) → Option R) → ((Int) → (List ((ByteArray) × ((Bool) × (Int)))) → (List (Int)) → (Int) → (Int) → (Int) → (List (Int)) → Option R) → Nat → (Int) → (Int) → (List ((ByteArray) × ((Bool) × (Int)))) → (List (Int)) → (Int) → (Int) → (Int) → (List (Int)) → Option R
abbrev law18_CastPlaces_Ty : Type 1 := {R : Type} → (List ((ByteArray) × ((Bool) × (Int)))) → (List (Int)) → (Int) → (Int) → (Int) → ((Bool) → Option R) → Option R
noncomputable def law18_CastPlaces_l0_T0 (N : Nat) (c0 : cast_Vars_66e6_Ty) (c1 : cast_Vars_Ty) (c2 : cast_Fail_9e58_Ty) (c3 : cast_Fail_Ty) (c4 : cast_Byte_dbd4_Ty) (c5 : cast_Byte_Ty) (c6 : cast_Size_9e58_Ty) (c7 : cast_Size_Ty) (c8 : ref17_Caps_Ty) (c9 : ref17_May_Ty) (c10 : law17_Small_Ty) (c11 : law18_awake_Ty) (w1 : law18_CastPlaces_l1_Ty) (w2 : law18_CastPlaces_l2_Ty) {R : Type} (nx : (Int) → (Int) → (List ((ByteArray) × ((Bool) × (Int)))) → (List (Int)) → (Int) → (Int) → (Int) → (List (Int)) → Option R) (k0 : (Bool) → (Int) → (List ((ByteArray) × ((Bool) × (Int)))) → (List (Int)) → (Int) → (Int) → (Int) → (List (Int)) → Option R) (k1 : (Int) → (List ((ByteArray) × ((Bool) × (Int)))) → (List (Int)) → (Int) → (Int) → (Int) → (List (Int)) → Option R) (x0 : Int) (x1 : Int) (x2 : List ((ByteArray) × ((Bool) × (Int)))) (x3 : List (Int)) (x4 : Int) (x5 : Int) (x6 : Int) (x7 : List (Int)) : Option R :=
  br (decide (x1 < (Nat.cast (List.length x7) : Int)))
  (c7 x2 x3 x4 x5 x6 x1
   (fun i493 => br (!(decide (i493 = x0)))
    (k0 false x0 x2 x3 x4 x5 x6 x7)
    (w1
     (fun b498 i499 i500 l501 l502 i503 i504 i505 l506 => k0 b498 i499 l501 l502 i503 i504 i505 l506)
     (fun i507 i508 l509 l510 i511 i512 i513 l514 => br (inB i508 (List.length l514))
      (br (decide ((Int.toNat i508) < (List.length l514)))
       (c5 l509 l510 i511 i512 i513 i508 (List.getD l514 (Int.toNat i508) (0 : Int))
        (fun i515 b516 => br b516
         (k0 false i507 l509 l510 i511 i512 i513 l514)
         (nx i507 (IntKind.wrap .i64 (i508 + (1 : Int))) l509 l510 i511 i512 i513 l514)))
       (none))
      (none))
     N (IntKind.wrap .i64 (x0 + (1 : Int))) x1 (0 : Int) x2 x3 x4 x5 x6 x7)))
  (k1 x0 x2 x3 x4 x5 x6 x7)
noncomputable def law18_CastPlaces_l1_T0 (N : Nat) (c0 : cast_Vars_66e6_Ty) (c1 : cast_Vars_Ty) (c2 : cast_Fail_9e58_Ty) (c3 : cast_Fail_Ty) (c4 : cast_Byte_dbd4_Ty) (c5 : cast_Byte_Ty) (c6 : cast_Size_9e58_Ty) (c7 : cast_Size_Ty) (c8 : ref17_Caps_Ty) (c9 : ref17_May_Ty) (c10 : law17_Small_Ty) (c11 : law18_awake_Ty) (w2 : law18_CastPlaces_l2_Ty) {R : Type} (nx : (Int) → (Int) → (Int) → (List ((ByteArray) × ((Bool) × (Int)))) → (List (Int)) → (Int) → (Int) → (Int) → (List (Int)) → Option R) (k0 : (Bool) → (Int) → (Int) → (List ((ByteArray) × ((Bool) × (Int)))) → (List (Int)) → (Int) → (Int) → (Int) → (List (Int)) → Option R) (k1 : (Int) → (Int) → (List ((ByteArray) × ((Bool) × (Int)))) → (List (Int)) → (Int) → (Int) → (Int) → (List (Int)) → Option R) (x0 : Int) (x1 : Int) (x2 : Int) (x3 : List ((ByteArray) × ((Bool) × (Int)))) (x4 : List (Int)) (x5 : Int) (x6 : Int) (x7 : Int) (x8 : List (Int)) : Option R :=
  br (inB x1 (List.length x8))
  (br (decide ((Int.toNat x1) < (List.length x8)))
   (br (decide (x2 < (List.getD x8 (Int.toNat x1) (0 : Int))))
    (c5 x3 x4 x5 x6 x7 x1 x2
     (fun i496 b497 => br (!(!b497))
      (br (!(decide (i496 = x0)))
       (k0 false x0 x1 x3 x4 x5 x6 x7 x8)
       (nx (IntKind.wrap .i64 (x0 + (1 : Int))) x1 (IntKind.wrap .i64 (x2 + (1 : Int))) x3 x4 x5 x6 x7 x8))
      (k0 false x0 x1 x3 x4 x5 x6 x7 x8)))
    (k1 x0 x1 x3 x4 x5 x6 x7 x8))
   (none))
  (none)
noncomputable def law18_CastPlaces_l2_T0 (N : Nat) (c0 : cast_Vars_66e6_Ty) (c1 : cast_Vars_Ty) (c2 : cast_Fail_9e58_Ty) (c3 : cast_Fail_Ty) (c4 : cast_Byte_dbd4_Ty) (c5 : cast_Byte_Ty) (c6 : cast_Size_9e58_Ty) (c7 : cast_Size_Ty) (c8 : ref17_Caps_Ty) (c9 : ref17_May_Ty) (c10 : law17_Small_Ty) (c11 : law18_awake_Ty) {R : Type} (nx : (Int) → (Int) → (List ((ByteArray) × ((Bool) × (Int)))) → (List (Int)) → (Int) → (Int) → (Int) → (List (Int)) → Option R) (k0 : (Bool) → (Int) → (List ((ByteArray) × ((Bool) × (Int)))) → (List (Int)) → (Int) → (Int) → (Int) → (List (Int)) → Option R) (k1 : (Int) → (List ((ByteArray) × ((Bool) × (Int)))) → (List (Int)) → (Int) → (Int) → (Int) → (List (Int)) → Option R) (x0 : Int) (x1 : Int) (x2 : List ((ByteArray) × ((Bool) × (Int)))) (x3 : List (Int)) (x4 : Int) (x5 : Int) (x6 : Int) (x7 : List (Int)) : Option R :=
  br (decide (x1 < x4))
  (c3 x2 x3 x4 x5 x6 x1
   (fun i537 b538 => br (!(!b538))
    (br (!(decide (i537 = x0)))
     (k0 false x0 x2 x3 x4 x5 x6 x7)
     (nx (IntKind.wrap .i64 (x0 + (1 : Int))) (IntKind.wrap .i64 (x1 + (1 : Int))) x2 x3 x4 x5 x6 x7))
    (k0 false x0 x2 x3 x4 x5 x6 x7)))
  (k1 x0 x2 x3 x4 x5 x6 x7)
noncomputable def law18_CastPlaces_l2 (N : Nat) {R : Type} (k0 : (Bool) → (Int) → (List ((ByteArray) × ((Bool) × (Int)))) → (List (Int)) → (Int) → (Int) → (Int) → (List (Int)) → Option R) (k1 : (Int) → (List ((ByteArray) × ((Bool) × (Int)))) → (List (Int)) → (Int) → (Int) → (Int) → (List (Int)) → Option R) : Nat → (Int) → (Int) → (List ((ByteArray) × ((Bool) × (Int)))) → (List (Int)) → (Int) → (Int) → (Int) → (List (Int)) → Option R
  | 0, _, _, _, _, _, _, _, _ => none
  | n + 1, x0, x1, x2, x3, x4, x5, x6, x7 => law18_CastPlaces_l2_T0 N (@cast_Vars_66e6 N) (@cast_Vars N) (@cast_Fail_9e58 N) (@cast_Fail N) (@cast_Byte_dbd4 N) (@cast_Byte N) (@cast_Size_9e58 N) (@cast_Size N) (@ref17_Caps N) (@ref17_May N) (@law17_Small N) (@law18_awake N) (fun x0 x1 x2 x3 x4 x5 x6 x7 => law18_CastPlaces_l2 N k0 k1 n x0 x1 x2 x3 x4 x5 x6 x7) k0 k1 x0 x1 x2 x3 x4 x5 x6 x7
noncomputable def law18_CastPlaces_l1 (N : Nat) {R : Type} (k0 : (Bool) → (Int) → (Int) → (List ((ByteArray) × ((Bool) × (Int)))) → (List (Int)) → (Int) → (Int) → (Int) → (List (Int)) → Option R) (k1 : (Int) → (Int) → (List ((ByteArray) × ((Bool) × (Int)))) → (List (Int)) → (Int) → (Int) → (Int) → (List (Int)) → Option R) : Nat → (Int) → (Int) → (Int) → (List ((ByteArray) × ((Bool) × (Int)))) → (List (Int)) → (Int) → (Int) → (Int) → (List (Int)) → Option R
  | 0, _, _, _, _, _, _, _, _, _ => none
  | n + 1, x0, x1, x2, x3, x4, x5, x6, x7, x8 => law18_CastPlaces_l1_T0 N (@cast_Vars_66e6 N) (@cast_Vars N) (@cast_Fail_9e58 N) (@cast_Fail N) (@cast_Byte_dbd4 N) (@cast_Byte N) (@cast_Size_9e58 N) (@cast_Size N) (@ref17_Caps N) (@ref17_May N) (@law17_Small N) (@law18_awake N) (@law18_CastPlaces_l2 N) (fun x0 x1 x2 x3 x4 x5 x6 x7 x8 => law18_CastPlaces_l1 N k0 k1 n x0 x1 x2 x3 x4 x5 x6 x7 x8) k0 k1 x0 x1 x2 x3 x4 x5 x6 x7 x8
noncomputable def law18_CastPlaces_l0 (N : Nat) {R : Type} (k0 : (Bool) → (Int) → (List ((ByteArray) × ((Bool) × (Int)))) → (List (Int)) → (Int) → (Int) → (Int) → (List (Int)) → Option R) (k1 : (Int) → (List ((ByteArray) × ((Bool) × (Int)))) → (List (Int)) → (Int) → (Int) → (Int) → (List (Int)) → Option R) : Nat → (Int) → (Int) → (List ((ByteArray) × ((Bool) × (Int)))) → (List (Int)) → (Int) → (Int) → (Int) → (List (Int)) → Option R
  | 0, _, _, _, _, _, _, _, _ => none
  | n + 1, x0, x1, x2, x3, x4, x5, x6, x7 => law18_CastPlaces_l0_T0 N (@cast_Vars_66e6 N) (@cast_Vars N) (@cast_Fail_9e58 N) (@cast_Fail N) (@cast_Byte_dbd4 N) (@cast_Byte N) (@cast_Size_9e58 N) (@cast_Size N) (@ref17_Caps N) (@ref17_May N) (@law17_Small N) (@law18_awake N) (@law18_CastPlaces_l1 N) (@law18_CastPlaces_l2 N) (fun x0 x1 x2 x3 x4 x5 x6 x7 => law18_CastPlaces_l0 N k0 k1 n x0 x1 x2 x3 x4 x5 x6 x7) k0 k1 x0 x1 x2 x3 x4 x5 x6 x7
noncomputable def law18_CastPlaces_T (N : Nat) (c0 : cast_Vars_66e6_Ty) (c1 : cast_Vars_Ty) (c2 : cast_Fail_9e58_Ty) (c3 : cast_Fail_Ty) (c4 : cast_Byte_dbd4_Ty) (c5 : cast_Byte_Ty) (c6 : cast_Size_9e58_Ty) (c7 : cast_Size_Ty) (c8 : ref17_Caps_Ty) (c9 : ref17_May_Ty) (c10 : law17_Small_Ty) (c11 : law18_awake_Ty) (w0 : law18_CastPlaces_l0_Ty) (w1 : law18_CastPlaces_l1_Ty) (w2 : law18_CastPlaces_l2_Ty) {R : Type} (x0 : List ((ByteArray) × ((Bool) × (Int)))) (x1 : List (Int)) (x2 : Int) (x3 : Int) (x4 : Int) (k0 : (Bool) → Option R) : Option R :=
  c11
  (fun b329 => br (!b329)
   (k0 false)
   (c10 x0 x1 x2 x3 x4
    (fun b336 => br (!(!b336))
     (c9 x0 x1 x2 x3 x4
      (fun b411 => br (!b411)
       (k0 true)
       (c8 x0 x1 x2 x3 x4
        (fun l412 => w0
         (fun b517 i518 l519 l520 i521 i522 i523 l524 => k0 b517)
         (fun i525 l526 l527 i528 i529 i530 l531 => w2
          (fun b539 i540 l541 l542 i543 i544 i545 l546 => k0 b539)
          (fun i547 l548 l549 i550 i551 i552 l553 => c3 l548 l549 i550 i551 i552 i550
           (fun i554 b555 => c5 l548 l549 i550 i551 i552 (Nat.cast (List.length l553) : Int) (0 : Int)
            (fun i556 b557 => c1 l548 l549 i550 i551 i552
             (fun i558 => br (decide (i547 = i558))
              (br (!b555)
               (br (!b557)
                (c7 l548 l549 i550 i551 i552 (Nat.cast (List.length l553) : Int)
                 (fun i559 => br (decide (i559 = (-1 : Int)))
                  (c7 l548 l549 i550 i551 i552 (-1 : Int)
                   (fun i560 => k0 (decide (i560 = (-1 : Int)))))
                  (k0 false)))
                (k0 false))
               (k0 false))
              (k0 false)))))
          N i525 (0 : Int) l526 l527 i528 i529 i530 l531)
         N (0 : Int) (0 : Int) x0 x1 x2 x3 x4 l412))))
     (k0 true))))
noncomputable def law18_CastPlaces (N : Nat) {R : Type} (x0 : List ((ByteArray) × ((Bool) × (Int)))) (x1 : List (Int)) (x2 : Int) (x3 : Int) (x4 : Int) (k0 : (Bool) → Option R) : Option R := law18_CastPlaces_T N (@cast_Vars_66e6 N) (@cast_Vars N) (@cast_Fail_9e58 N) (@cast_Fail N) (@cast_Byte_dbd4 N) (@cast_Byte N) (@cast_Size_9e58 N) (@cast_Size N) (@ref17_Caps N) (@ref17_May N) (@law17_Small N) (@law18_awake N) (@law18_CastPlaces_l0 N) (@law18_CastPlaces_l1 N) (@law18_CastPlaces_l2 N) x0 x1 x2 x3 x4 k0
end Go.Proofs.Ytlfhmecdgfennaa
