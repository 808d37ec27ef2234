/-
  The functions that the statement reaches, each as a function of Lean (printed by a program of this work).
-/
import Derived.Test.YtlfhmecdgfennaaGx5
set_option linter.unusedVariables false
set_option maxRecDepth 100000
namespace Go.Proofs.Ytlfhmecdgfennaa
open Go.Gx
abbrev stringslite_IndexByte_Ty : Type 1 := {R : Type} → (ByteArray) → (Int) → ((Int) → Option R) → Option R
abbrev stringslite_Index_Ty : Type 1 := {R : Type} → (ByteArray) → (ByteArray) → ((Int) → Option R) → Option R
noncomputable def stringslite_Index_T (N : Nat) (c0 : stringslite_IndexByte_Ty) {R : Type} (x0 : ByteArray) (x1 : ByteArray) (k0 : (Int) → Option R) : Option R :=
  br (!(decide ((Nat.cast (ByteArray.size x1) : Int) = (0 : Int))))
  (br (decide (x1 = x0))
   (k0 (0 : Int))
   (br (decide ((Nat.cast (ByteArray.size x1) : Int) = (1 : Int)))
    (br (inB (0 : Int) (ByteArray.size x1))
     (c0 x0 (bt x1 (0 : Int))
      (fun i0 => k0 i0))
     (none))
    (br (decide ((Nat.cast (ByteArray.size x0) : Int) ≤ (Nat.cast (ByteArray.size x1) : Int)))
     (k0 (-1 : Int))
     (none))))
  (k0 (0 : Int))
noncomputable def stringslite_Index (N : Nat) {R : Type} (x0 : ByteArray) (x1 : ByteArray) (k0 : (Int) → Option R) : Option R := stringslite_Index_T N @stringslite_IndexByte x0 x1 k0
abbrev stringslite_Cut_Ty : Type 1 := {R : Type} → (ByteArray) → (ByteArray) → ((ByteArray) → (ByteArray) → (Bool) → Option R) → Option R
noncomputable def stringslite_Cut_T (N : Nat) (c0 : stringslite_Index_Ty) {R : Type} (x0 : ByteArray) (x1 : ByteArray) (k0 : (ByteArray) → (ByteArray) → (Bool) → Option R) : Option R :=
  c0 x0 x1
  (fun i1 => br (decide ((0 : Int) ≤ i1))
   (br (leB i1 (ByteArray.size x0))
    (br (leB (IntKind.wrap .i64 (i1 + (Nat.cast (ByteArray.size x1) : Int))) (ByteArray.size x0))
     (k0 (ByteArray.extract x0 (0 : Nat) (Int.toNat i1)) (ByteArray.extract x0 (Int.toNat (IntKind.wrap .i64 (i1 + (Nat.cast (ByteArray.size x1) : Int)))) (ByteArray.size x0)) true)
     (none))
    (none))
   (k0 x0 (bs []) false))
noncomputable def stringslite_Cut (N : Nat) {R : Type} (x0 : ByteArray) (x1 : ByteArray) (k0 : (ByteArray) → (ByteArray) → (Bool) → Option R) : Option R := stringslite_Cut_T N (@stringslite_Index N) x0 x1 k0
abbrev strings_Cut_Ty : Type 1 := {R : Type} → (ByteArray) → (ByteArray) → ((ByteArray) → (ByteArray) → (Bool) → Option R) → Option R
noncomputable def strings_Cut_T (N : Nat) (c0 : stringslite_Cut_Ty) {R : Type} (x0 : ByteArray) (x1 : ByteArray) (k0 : (ByteArray) → (ByteArray) → (Bool) → Option R) : Option R :=
  c0 x0 x1
  (fun s2 s3 b4 => k0 s2 s3 b4)
noncomputable def strings_Cut (N : Nat) {R : Type} (x0 : ByteArray) (x1 : ByteArray) (k0 : (ByteArray) → (ByteArray) → (Bool) → Option R) : Option R := strings_Cut_T N (@stringslite_Cut N) x0 x1 k0
abbrev check_letter_Ty : Type 1 := {R : Type} → (Int) → ((Bool) → Option R) → Option R
noncomputable def check_letter_T (N : Nat) {R : Type} (x0 : Int) (k0 : (Bool) → Option R) : Option R :=
  br (decide ((97 : Int) ≤ x0))
  (br (!(decide (x0 ≤ (122 : Int))))
   (br (decide ((48 : Int) ≤ x0))
    (br (!(decide (x0 ≤ (57 : Int))))
     (br (!(decide (x0 = (46 : Int))))
      (k0 (decide (x0 = (95 : Int))))
      (k0 true))
     (k0 true))
    (br (!(decide (x0 = (46 : Int))))
     (k0 (decide (x0 = (95 : Int))))
     (k0 true)))
   (k0 true))
  (br (decide ((48 : Int) ≤ x0))
   (br (!(decide (x0 ≤ (57 : Int))))
    (br (!(decide (x0 = (46 : Int))))
     (k0 (decide (x0 = (95 : Int))))
     (k0 true))
    (k0 true))
   (br (!(decide (x0 = (46 : Int))))
    (k0 (decide (x0 = (95 : Int))))
    (k0 true)))
noncomputable def check_letter (N : Nat) {R : Type} (x0 : Int) (k0 : (Bool) → Option R) : Option R := check_letter_T N x0 k0
abbrev check_part_l0_Ty : Type 1 := {R : Type} → ((ByteArray) → (Bool) → Option R) → ((ByteArray) → Option R) → Nat → (ByteArray) → (Int) → (Int) → Option R
abbrev check_part_Ty : Type 1 := {R : Type} → (ByteArray) → ((Bool) → Option R) → Option R
noncomputable def check_part_l0_T0 (N : Nat) (c0 : check_letter_Ty) {R : Type} (nx : (ByteArray) → (Int) → (Int) → Option R) (k0 : (ByteArray) → (Bool) → Option R) (k1 : (ByteArray) → Option R) (x0 : ByteArray) (x1 : Int) (x2 : Int) : Option R :=
  br (decide (x2 < x1))
  (br (inB x2 (ByteArray.size x0))
   (c0 (bt x0 x2)
    (fun b8 => br (!b8)
     (k0 x0 false)
     (nx x0 x1 (IntKind.wrap .i64 (x2 + (1 : Int))))))
   (none))
  (k1 x0)
noncomputable def check_part_l0 (N : Nat) {R : Type} (k0 : (ByteArray) → (Bool) → Option R) (k1 : (ByteArray) → Option R) : Nat → (ByteArray) → (Int) → (Int) → Option R
  | 0, _, _, _ => none
  | n + 1, x0, x1, x2 => check_part_l0_T0 N (@check_letter N) (fun x0 x1 x2 => check_part_l0 N k0 k1 n x0 x1 x2) k0 k1 x0 x1 x2
noncomputable def check_part_T (N : Nat) (c0 : check_letter_Ty) (w0 : check_part_l0_Ty) {R : Type} (x0 : ByteArray) (k0 : (Bool) → Option R) : Option R :=
  w0
  (fun s9 b10 => k0 b10)
  (fun s11 => br (!(decide (s11 = (bs []))))
   (br (!(decide (s11 = (bs [46]))))
    (k0 (!(decide (s11 = (bs [46, 46])))))
    (k0 false))
   (k0 false))
  N x0 (Nat.cast (ByteArray.size x0) : Int) (0 : Int)
noncomputable def check_part (N : Nat) {R : Type} (x0 : ByteArray) (k0 : (Bool) → Option R) : Option R := check_part_T N (@check_letter N) (@check_part_l0 N) x0 k0
abbrev check_Name_Ty : Type 1 := {R : Type} → (ByteArray) → ((Bool) → Option R) → Option R
noncomputable def check_Name_T (N : Nat) (c0 : check_part_Ty) (c1 : strings_Cut_Ty) {R : Type} (x0 : ByteArray) (k0 : (Bool) → Option R) : Option R :=
  br (decide ((8 : Int) < (Nat.cast (ByteArray.size x0) : Int)))
  (k0 false)
  (c1 x0 (bs [47])
   (fun s5 s6 b7 => c0 s5
    (fun b12 => br b12
     (br (!(!b7))
      (c0 s6
       (fun b13 => k0 b13))
      (k0 true))
     (k0 false))))
noncomputable def check_Name (N : Nat) {R : Type} (x0 : ByteArray) (k0 : (Bool) → Option R) : Option R := check_Name_T N (@check_part N) (@strings_Cut N) x0 k0
abbrev names_May_Ty : Type 1 := {R : Type} → (ByteArray) → ((Bool) → Option R) → Option R
noncomputable def names_May_T (N : Nat) (c0 : check_Name_Ty) {R : Type} (x0 : ByteArray) (k0 : (Bool) → Option R) : Option R :=
  c0 x0
  (fun b14 => k0 b14)
noncomputable def names_May (N : Nat) {R : Type} (x0 : ByteArray) (k0 : (Bool) → Option R) : Option R := names_May_T N (@check_Name N) x0 k0
abbrev names_Split_Ty : Type 1 := {R : Type} → (ByteArray) → ((ByteArray) → (ByteArray) → Option R) → Option R
noncomputable def names_Split_T (N : Nat) (c0 : strings_Cut_Ty) (c1 : names_May_Ty) {R : Type} (x0 : ByteArray) (k0 : (ByteArray) → (ByteArray) → Option R) : Option R :=
  c1 x0
  (fun b16 => br (!b16)
   (k0 (bs []) (bs []))
   (c0 x0 (bs [47])
    (fun s17 s18 b19 => br (!b19)
     (k0 (bs []) s17)
     (k0 s17 s18))))
noncomputable def names_Split (N : Nat) {R : Type} (x0 : ByteArray) (k0 : (ByteArray) → (ByteArray) → Option R) : Option R := names_Split_T N (@strings_Cut N) (@names_May N) x0 k0
abbrev tree_of_Ty : Type 1 := {R : Type} → (ByteArray) → ((ByteArray) → (ByteArray) → Option R) → Option R
noncomputable def tree_of_T (N : Nat) (c0 : names_Split_Ty) {R : Type} (x0 : ByteArray) (k0 : (ByteArray) → (ByteArray) → Option R) : Option R :=
  c0 x0
  (fun s20 s21 => k0 s20 s21)
noncomputable def tree_of (N : Nat) {R : Type} (x0 : ByteArray) (k0 : (ByteArray) → (ByteArray) → Option R) : Option R := tree_of_T N (@names_Split N) x0 k0
abbrev tree_Tree_above_2de7_Ty : Type 1 := {R : Type} → (ByteArray) → (ByteArray) → (Int) → (List (((ByteArray) × (ByteArray)) × ((Int) × (Bool)))) → ((Int) → (Int) → (List (((ByteArray) × (ByteArray)) × ((Int) × (Bool)))) → Option R) → Option R
noncomputable def tree_Tree_above_2de7_T (N : Nat) {R : Type} (x0 : ByteArray) (x1 : ByteArray) (x2 : Int) (x3 : List (((ByteArray) × (ByteArray)) × ((Int) × (Bool)))) (k0 : (Int) → (Int) → (List (((ByteArray) × (ByteArray)) × ((Int) × (Bool)))) → Option R) : Option R :=
  br (decide (x1 = (bs [])))
  (k0 (65282 : Int) x2 x3)
  (br (decide (x0 = (bs [])))
   (k0 (0 : Int) x2 x3)
   (br ((Option.isSome (mfind (.pair .str .str) (.pair (.int .i64) .bool) x3 ((bs []) , x0))) == (Option.isSome (mfind (.pair .str .str) (.pair (.int .i64) .bool) x3 ((bs []) , x0))))
    (br (!(Option.isSome (mfind (.pair .str .str) (.pair (.int .i64) .bool) x3 ((bs []) , x0))))
     (k0 (65282 : Int) x2 x3)
     (br (!(Option.getD (mfind (.pair .str .str) (.pair (.int .i64) .bool) x3 ((bs []) , x0)) ((0 : Int) , false)).2)
      (k0 (65300 : Int) x2 x3)
      (k0 (0 : Int) x2 x3)))
    (none)))
noncomputable def tree_Tree_above_2de7 (N : Nat) {R : Type} (x0 : ByteArray) (x1 : ByteArray) (x2 : Int) (x3 : List (((ByteArray) × (ByteArray)) × ((Int) × (Bool)))) (k0 : (Int) → (Int) → (List (((ByteArray) × (ByteArray)) × ((Int) × (Bool)))) → Option R) : Option R := tree_Tree_above_2de7_T N x0 x1 x2 x3 k0
abbrev tree_Tree_Make_c502_Ty : Type 1 := {R : Type} → (ByteArray) → (Bool) → (Int) → (List (((ByteArray) × (ByteArray)) × ((Int) × (Bool)))) → ((Int) → (Int) → (Int) → (List (((ByteArray) × (ByteArray)) × ((Int) × (Bool)))) → Option R) → Option R
noncomputable def tree_Tree_Make_c502_T (N : Nat) (c0 : tree_Tree_above_2de7_Ty) (c1 : tree_of_Ty) {R : Type} (x0 : ByteArray) (x1 : Bool) (x2 : Int) (x3 : List (((ByteArray) × (ByteArray)) × ((Int) × (Bool)))) (k0 : (Int) → (Int) → (Int) → (List (((ByteArray) × (ByteArray)) × ((Int) × (Bool)))) → Option R) : Option R :=
  c1 x0
  (fun s22 s23 => c0 s22 s23 x2 x3
   (fun i24 i25 l26 => br (!(decide (i24 = (0 : Int))))
    (k0 (-1 : Int) i24 i25 l26)
    (br ((Option.isSome (mfind (.pair .str .str) (.pair (.int .i64) .bool) l26 (s22 , s23))) == (Option.isSome (mfind (.pair .str .str) (.pair (.int .i64) .bool) l26 (s22 , s23))))
     (br (Option.isSome (mfind (.pair .str .str) (.pair (.int .i64) .bool) l26 (s22 , s23)))
      (k0 (-1 : Int) (65297 : Int) i25 l26)
      (br x1
       (br (!(decide (s22 = (bs []))))
        (k0 (-1 : Int) (65302 : Int) i25 l26)
        (br (decide ((8 : Int) ≤ (Nat.cast (List.length l26) : Int)))
         (k0 (-1 : Int) (65308 : Int) i25 l26)
         (k0 (IntKind.wrap .i64 ((IntKind.wrap .i64 (i25 + (1 : Int))) - (1 : Int))) (0 : Int) (IntKind.wrap .i64 (i25 + (1 : Int))) (mput (.pair .str .str) (.pair (.int .i64) .bool) l26 (s22 , s23) (i25 , x1)))))
       (br (decide ((8 : Int) ≤ (Nat.cast (List.length l26) : Int)))
        (k0 (-1 : Int) (65308 : Int) i25 l26)
        (k0 (IntKind.wrap .i64 ((IntKind.wrap .i64 (i25 + (1 : Int))) - (1 : Int))) (0 : Int) (IntKind.wrap .i64 (i25 + (1 : Int))) (mput (.pair .str .str) (.pair (.int .i64) .bool) l26 (s22 , s23) (i25 , x1))))))
     (none))))
noncomputable def tree_Tree_Make_c502 (N : Nat) {R : Type} (x0 : ByteArray) (x1 : Bool) (x2 : Int) (x3 : List (((ByteArray) × (ByteArray)) × ((Int) × (Bool)))) (k0 : (Int) → (Int) → (Int) → (List (((ByteArray) × (ByteArray)) × ((Int) × (Bool)))) → Option R) : Option R := tree_Tree_Make_c502_T N (@tree_Tree_above_2de7 N) (@tree_of N) x0 x1 x2 x3 k0
abbrev tree_New_644a_l0_Ty : Type 1 := {R : Type} → ((Int) → (List ((ByteArray) × ((Bool) × (Int)))) → (Int) → (List (((ByteArray) × (ByteArray)) × ((Int) × (Bool)))) → Option R) → ((List ((ByteArray) × ((Bool) × (Int)))) → (Int) → (List (((ByteArray) × (ByteArray)) × ((Int) × (Bool)))) → Option R) → Nat → (Int) → (Int) → (List ((ByteArray) × ((Bool) × (Int)))) → (Int) → (List (((ByteArray) × (ByteArray)) × ((Int) × (Bool)))) → Option R
abbrev tree_New_644a_Ty : Type 1 := {R : Type} → (List ((ByteArray) × ((Bool) × (Int)))) → ((Int) → (List ((ByteArray) × ((Bool) × (Int)))) → Option R) → ((Int) → (List ((ByteArray) × ((Bool) × (Int)))) → (Int) → (List (((ByteArray) × (ByteArray)) × ((Int) × (Bool)))) → Option R) → Option R
noncomputable def tree_New_644a_l0_T0 (N : Nat) (c0 : tree_Tree_Make_c502_Ty) (c1 : names_May_Ty) {R : Type} (nx : (Int) → (Int) → (List ((ByteArray) × ((Bool) × (Int)))) → (Int) → (List (((ByteArray) × (ByteArray)) × ((Int) × (Bool)))) → Option R) (k0 : (Int) → (List ((ByteArray) × ((Bool) × (Int)))) → (Int) → (List (((ByteArray) × (ByteArray)) × ((Int) × (Bool)))) → Option R) (k1 : (List ((ByteArray) × ((Bool) × (Int)))) → (Int) → (List (((ByteArray) × (ByteArray)) × ((Int) × (Bool)))) → Option R) (x0 : Int) (x1 : Int) (x2 : List ((ByteArray) × ((Bool) × (Int)))) (x3 : Int) (x4 : List (((ByteArray) × (ByteArray)) × ((Int) × (Bool)))) : Option R :=
  br (decide (x1 < x0))
  (br (inB x1 (List.length x2))
   (br (decide ((Int.toNat x1) < (List.length x2)))
    (c1 (List.getD x2 (Int.toNat x1) ((bs []) , (false , (0 : Int)))).1
     (fun b15 => br (!b15)
      (k0 (11 : Int) x2 x3 x4)
      (c0 (List.getD x2 (Int.toNat x1) ((bs []) , (false , (0 : Int)))).1 (List.getD x2 (Int.toNat x1) ((bs []) , (false , (0 : Int)))).2.1 x3 x4
       (fun i27 i28 i29 l30 => br (!(decide (i28 = (0 : Int))))
        (k0 (11 : Int) x2 i29 l30)
        (nx x0 (IntKind.wrap .i64 (x1 + (1 : Int))) x2 i29 l30)))))
    (none))
   (none))
  (k1 x2 x3 x4)
noncomputable def tree_New_644a_l0 (N : Nat) {R : Type} (k0 : (Int) → (List ((ByteArray) × ((Bool) × (Int)))) → (Int) → (List (((ByteArray) × (ByteArray)) × ((Int) × (Bool)))) → Option R) (k1 : (List ((ByteArray) × ((Bool) × (Int)))) → (Int) → (List (((ByteArray) × (ByteArray)) × ((Int) × (Bool)))) → Option R) : Nat → (Int) → (Int) → (List ((ByteArray) × ((Bool) × (Int)))) → (Int) → (List (((ByteArray) × (ByteArray)) × ((Int) × (Bool)))) → Option R
  | 0, _, _, _, _, _ => none
  | n + 1, x0, x1, x2, x3, x4 => tree_New_644a_l0_T0 N (@tree_Tree_Make_c502 N) (@names_May N) (fun x0 x1 x2 x3 x4 => tree_New_644a_l0 N k0 k1 n x0 x1 x2 x3 x4) k0 k1 x0 x1 x2 x3 x4
noncomputable def tree_New_644a_T (N : Nat) (c0 : tree_Tree_Make_c502_Ty) (c1 : names_May_Ty) (w0 : tree_New_644a_l0_Ty) {R : Type} (x0 : List ((ByteArray) × ((Bool) × (Int)))) (k0 : (Int) → (List ((ByteArray) × ((Bool) × (Int)))) → Option R) (k1 : (Int) → (List ((ByteArray) × ((Bool) × (Int)))) → (Int) → (List (((ByteArray) × (ByteArray)) × ((Int) × (Bool)))) → Option R) : Option R :=
  br (decide ((8 : Int) < (Nat.cast (List.length x0) : Int)))
  (k0 (11 : Int) x0)
  (w0
   (fun i31 l32 i33 l34 => k0 i31 l32)
   (fun l35 i36 l37 => k1 (0 : Int) l35 i36 l37)
   N (Nat.cast (List.length x0) : Int) (0 : Int) x0 (0 : Int) ([] : List (((Sh.str.pair Sh.str).T) × (((Sh.int IntKind.i64).pair Sh.bool).T))))
noncomputable def tree_New_644a (N : Nat) {R : Type} (x0 : List ((ByteArray) × ((Bool) × (Int)))) (k0 : (Int) → (List ((ByteArray) × ((Bool) × (Int)))) → Option R) (k1 : (Int) → (List ((ByteArray) × ((Bool) × (Int)))) → (Int) → (List (((ByteArray) × (ByteArray)) × ((Int) × (Bool)))) → Option R) : Option R := tree_New_644a_T N (@tree_Tree_Make_c502 N) (@names_May N) (@tree_New_644a_l0 N) x0 k0 k1
abbrev tree_New_l0_Ty : Type 1 := {R : Type} → ((Int) → (Int) → (List (((ByteArray) × (ByteArray)) × ((Int) × (Bool)))) → Option R) → ((Int) → (List (((ByteArray) × (ByteArray)) × ((Int) × (Bool)))) → Option R) → Nat → (List ((ByteArray) × ((Bool) × (Int)))) → (Int) → (Int) → (Int) → (List (((ByteArray) × (ByteArray)) × ((Int) × (Bool)))) → Option R
abbrev tree_New_Ty : Type 1 := {R : Type} → (List ((ByteArray) × ((Bool) × (Int)))) → ((Int) → Option R) → ((Int) → (Int) → (List (((ByteArray) × (ByteArray)) × ((Int) × (Bool)))) → Option R) → Option R
noncomputable def tree_New_l0_T0 (N : Nat) (c0 : tree_Tree_Make_c502_Ty) (c1 : names_May_Ty) {R : Type} (nx : (List ((ByteArray) × ((Bool) × (Int)))) → (Int) → (Int) → (Int) → (List (((ByteArray) × (ByteArray)) × ((Int) × (Bool)))) → Option R) (k0 : (Int) → (Int) → (List (((ByteArray) × (ByteArray)) × ((Int) × (Bool)))) → Option R) (k1 : (Int) → (List (((ByteArray) × (ByteArray)) × ((Int) × (Bool)))) → Option R) (x0 : List ((ByteArray) × ((Bool) × (Int)))) (x1 : Int) (x2 : Int) (x3 : Int) (x4 : List (((ByteArray) × (ByteArray)) × ((Int) × (Bool)))) : Option R :=
  br (decide (x2 < x1))
  (br (inB x2 (List.length x0))
   (c1 (List.getD x0 (Int.toNat x2) ((bs []) , (false , (0 : Int)))).1
    (fun b469 => br (!b469)
     (k0 (11 : Int) x3 x4)
     (c0 (List.getD x0 (Int.toNat x2) ((bs []) , (false , (0 : Int)))).1 (List.getD x0 (Int.toNat x2) ((bs []) , (false , (0 : Int)))).2.1 x3 x4
      (fun i470 i471 i472 l473 => br (!(decide (i471 = (0 : Int))))
       (k0 (11 : Int) i472 l473)
       (nx x0 x1 (IntKind.wrap .i64 (x2 + (1 : Int))) i472 l473)))))
   (none))
  (k1 x3 x4)
noncomputable def tree_New_l0 (N : Nat) {R : Type} (k0 : (Int) → (Int) → (List (((ByteArray) × (ByteArray)) × ((Int) × (Bool)))) → Option R) (k1 : (Int) → (List (((ByteArray) × (ByteArray)) × ((Int) × (Bool)))) → Option R) : Nat → (List ((ByteArray) × ((Bool) × (Int)))) → (Int) → (Int) → (Int) → (List (((ByteArray) × (ByteArray)) × ((Int) × (Bool)))) → Option R
  | 0, _, _, _, _, _ => none
  | n + 1, x0, x1, x2, x3, x4 => tree_New_l0_T0 N (@tree_Tree_Make_c502 N) (@names_May N) (fun x0 x1 x2 x3 x4 => tree_New_l0 N k0 k1 n x0 x1 x2 x3 x4) k0 k1 x0 x1 x2 x3 x4
noncomputable def tree_New_T (N : Nat) (c0 : tree_Tree_Make_c502_Ty) (c1 : names_May_Ty) (w0 : tree_New_l0_Ty) {R : Type} (x0 : List ((ByteArray) × ((Bool) × (Int)))) (k0 : (Int) → Option R) (k1 : (Int) → (Int) → (List (((ByteArray) × (ByteArray)) × ((Int) × (Bool)))) → Option R) : Option R :=
  br (decide ((8 : Int) < (Nat.cast (List.length x0) : Int)))
  (k0 (11 : Int))
  (w0
   (fun i474 i475 l476 => k0 i474)
   (fun i477 l478 => k1 (0 : Int) i477 l478)
   N x0 (Nat.cast (List.length x0) : Int) (0 : Int) (0 : Int) ([] : List (((Sh.str.pair Sh.str).T) × (((Sh.int IntKind.i64).pair Sh.bool).T))))
noncomputable def tree_New (N : Nat) {R : Type} (x0 : List ((ByteArray) × ((Bool) × (Int)))) (k0 : (Int) → Option R) (k1 : (Int) → (Int) → (List (((ByteArray) × (ByteArray)) × ((Int) × (Bool)))) → Option R) : Option R := tree_New_T N (@tree_Tree_Make_c502 N) (@names_May N) (@tree_New_l0 N) x0 k0 k1
abbrev class_Files_66e6_l0_Ty : Type 1 := {R : Type} → ((List ((ByteArray) × ((Bool) × (Int)))) → (List (Int)) → (List (Int)) → Option R) → Nat → (Int) → (Int) → (List ((ByteArray) × ((Bool) × (Int)))) → (List (Int)) → (List (Int)) → Option R
abbrev class_Files_66e6_Ty : Type 1 := {R : Type} → (Int) → (Int) → (Int) → (List ((ByteArray) × ((Bool) × (Int)))) → (List (Int)) → ((List ((ByteArray) × ((Bool) × (Int)))) → (List (Int)) → (List (Int)) → Option R) → Option R
noncomputable def class_Files_66e6_l0_T0 (N : Nat) {R : Type} (nx : (Int) → (Int) → (List ((ByteArray) × ((Bool) × (Int)))) → (List (Int)) → (List (Int)) → Option R) (k0 : (List ((ByteArray) × ((Bool) × (Int)))) → (List (Int)) → (List (Int)) → Option R) (x0 : Int) (x1 : Int) (x2 : List ((ByteArray) × ((Bool) × (Int)))) (x3 : List (Int)) (x4 : List (Int)) : Option R :=
  br (decide (x1 < x0))
  (br (inB x1 (List.length x2))
   (br (decide ((Int.toNat x1) < (List.length x2)))
    (br (!(List.getD x2 (Int.toNat x1) ((bs []) , (false , (0 : Int)))).2.1)
     (br (((fits (0 : Nat) (List.length x4) x4) && (decide ((((List.length x4) + (1 : Nat)) * (8 : Nat)) ≤ (70368744177664 : Nat)))) && true)
      (nx x0 (IntKind.wrap .i64 (x1 + (1 : Int))) x2 x3 ((sub x4 (0 : Nat) (List.length x4)) ++ (x1 :: ([] : List ((Sh.int IntKind.i64).T)))))
      (none))
     (nx x0 (IntKind.wrap .i64 (x1 + (1 : Int))) x2 x3 x4))
    (none))
   (none))
  (k0 x2 x3 x4)
noncomputable def class_Files_66e6_l0 (N : Nat) {R : Type} (k0 : (List ((ByteArray) × ((Bool) × (Int)))) → (List (Int)) → (List (Int)) → Option R) : Nat → (Int) → (Int) → (List ((ByteArray) × ((Bool) × (Int)))) → (List (Int)) → (List (Int)) → Option R
  | 0, _, _, _, _, _ => none
  | n + 1, x0, x1, x2, x3, x4 => class_Files_66e6_l0_T0 N (fun x0 x1 x2 x3 x4 => class_Files_66e6_l0 N k0 n x0 x1 x2 x3 x4) k0 x0 x1 x2 x3 x4
noncomputable def class_Files_66e6_T (N : Nat) (w0 : class_Files_66e6_l0_Ty) {R : Type} (x0 : Int) (x1 : Int) (x2 : Int) (x3 : List ((ByteArray) × ((Bool) × (Int)))) (x4 : List (Int)) (k0 : (List ((ByteArray) × ((Bool) × (Int)))) → (List (Int)) → (List (Int)) → Option R) : Option R :=
  w0
  (fun l40 l41 l42 => k0 l40 l41 l42)
  N (Nat.cast (List.length x3) : Int) (0 : Int) x3 x4 ([] : List ((Sh.int IntKind.i64).T))
noncomputable def class_Files_66e6 (N : Nat) {R : Type} (x0 : Int) (x1 : Int) (x2 : Int) (x3 : List ((ByteArray) × ((Bool) × (Int)))) (x4 : List (Int)) (k0 : (List ((ByteArray) × ((Bool) × (Int)))) → (List (Int)) → (List (Int)) → Option R) : Option R := class_Files_66e6_T N (@class_Files_66e6_l0 N) x0 x1 x2 x3 x4 k0
abbrev class_Files_l0_Ty : Type 1 := {R : Type} → ((List (Int)) → Option R) → Nat → (List ((ByteArray) × ((Bool) × (Int)))) → (Int) → (Int) → (List (Int)) → Option R
abbrev class_Files_Ty : Type 1 := {R : Type} → (List ((ByteArray) × ((Bool) × (Int)))) → (List (Int)) → (Int) → (Int) → (Int) → ((List (Int)) → Option R) → Option R
noncomputable def class_Files_l0_T0 (N : Nat) {R : Type} (nx : (List ((ByteArray) × ((Bool) × (Int)))) → (Int) → (Int) → (List (Int)) → Option R) (k0 : (List (Int)) → Option R) (x0 : List ((ByteArray) × ((Bool) × (Int)))) (x1 : Int) (x2 : Int) (x3 : List (Int)) : Option R :=
  br (decide (x2 < x1))
  (br (inB x2 (List.length x0))
   (br (!(List.getD x0 (Int.toNat x2) ((bs []) , (false , (0 : Int)))).2.1)
    (br (((fits (0 : Nat) (List.length x3) x3) && (decide ((((List.length x3) + (1 : Nat)) * (8 : Nat)) ≤ (70368744177664 : Nat)))) && true)
     (nx x0 x1 (IntKind.wrap .i64 (x2 + (1 : Int))) ((sub x3 (0 : Nat) (List.length x3)) ++ (x2 :: ([] : List ((Sh.int IntKind.i64).T)))))
     (none))
    (nx x0 x1 (IntKind.wrap .i64 (x2 + (1 : Int))) x3))
   (none))
  (k0 x3)
noncomputable def class_Files_l0 (N : Nat) {R : Type} (k0 : (List (Int)) → Option R) : Nat → (List ((ByteArray) × ((Bool) × (Int)))) → (Int) → (Int) → (List (Int)) → Option R
  | 0, _, _, _, _ => none
  | n + 1, x0, x1, x2, x3 => class_Files_l0_T0 N (fun x0 x1 x2 x3 => class_Files_l0 N k0 n x0 x1 x2 x3) k0 x0 x1 x2 x3
noncomputable def class_Files_T (N : Nat) (w0 : class_Files_l0_Ty) {R : Type} (x0 : List ((ByteArray) × ((Bool) × (Int)))) (x1 : List (Int)) (x2 : Int) (x3 : Int) (x4 : Int) (k0 : (List (Int)) → Option R) : Option R :=
  w0
  (fun l480 => k0 l480)
  N x0 (Nat.cast (List.length x0) : Int) (0 : Int) ([] : List ((Sh.int IntKind.i64).T))
noncomputable def class_Files (N : Nat) {R : Type} (x0 : List ((ByteArray) × ((Bool) × (Int)))) (x1 : List (Int)) (x2 : Int) (x3 : Int) (x4 : Int) (k0 : (List (Int)) → Option R) : Option R := class_Files_T N (@class_Files_l0 N) x0 x1 x2 x3 x4 k0
abbrev class_fits_Ty : Type 1 := {R : Type} → (Int) → (Int) → ((Bool) → Option R) → Option R
noncomputable def class_fits_T (N : Nat) {R : Type} (x0 : Int) (x1 : Int) (k0 : (Bool) → Option R) : Option R :=
  br (decide ((0 : Int) ≤ x0))
  (k0 (decide (x0 ≤ x1)))
  (k0 false)
noncomputable def class_fits (N : Nat) {R : Type} (x0 : Int) (x1 : Int) (k0 : (Bool) → Option R) : Option R := class_fits_T N x0 x1 k0
abbrev class_May_66e6_l0_Ty : Type 1 := {R : Type} → ((Bool) → (List ((ByteArray) × ((Bool) × (Int)))) → (List (Int)) → (Int) → (Int) → (Int) → Option R) → ((List ((ByteArray) × ((Bool) × (Int)))) → (List (Int)) → (Int) → (Int) → (Int) → Option R) → Nat → (Int) → (Int) → (List ((ByteArray) × ((Bool) × (Int)))) → (List (Int)) → (Int) → (Int) → (Int) → Option R
abbrev class_May_66e6_l1_Ty : Type 1 := {R : Type} → ((Bool) → (List ((ByteArray) × ((Bool) × (Int)))) → (List (Int)) → (Int) → (Int) → (Int) → Option R) → ((List ((ByteArray) × ((Bool) × (Int)))) → (List (Int)) → (Int) → (Int) → (Int) → Option R) → Nat → (Int) → (Int) → (List ((ByteArray) × ((Bool) × (Int)))) → (List (Int)) → (Int) → (Int) → (Int) → Option R
abbrev class_May_66e6_Ty : Type 1 := {R : Type} → (Int) → (Int) → (Int) → (List ((ByteArray) × ((Bool) × (Int)))) → (List (Int)) → ((Bool) → (List ((ByteArray) × ((Bool) × (Int)))) → (List (Int)) → Option R) → Option R
noncomputable def class_May_66e6_l0_T0 (N : Nat) (c0 : class_fits_Ty) (c1 : class_Files_66e6_Ty) (c2 : class_Files_Ty) (c3 : tree_New_644a_Ty) (c4 : tree_New_Ty) (w1 : class_May_66e6_l1_Ty) {R : Type} (nx : (Int) → (Int) → (List ((ByteArray) × ((Bool) × (Int)))) → (List (Int)) → (Int) → (Int) → (Int) → Option R) (k0 : (Bool) → (List ((ByteArray) × ((Bool) × (Int)))) → (List (Int)) → (Int) → (Int) → (Int) → Option R) (k1 : (List ((ByteArray) × ((Bool) × (Int)))) → (List (Int)) → (Int) → (Int) → (Int) → Option R) (x0 : Int) (x1 : Int) (x2 : List ((ByteArray) × ((Bool) × (Int)))) (x3 : List (Int)) (x4 : Int) (x5 : Int) (x6 : Int) : Option R :=
  br (decide (x1 < x0))
  (br (inB x1 (List.length x2))
   (br (decide ((Int.toNat x1) < (List.length x2)))
    (c0 (List.getD x2 (Int.toNat x1) ((bs []) , (false , (0 : Int)))).2.2 (3 : Int)
     (fun b46 => br (!(!b46))
      (br (List.getD x2 (Int.toNat x1) ((bs []) , (false , (0 : Int)))).2.1
       (br (!(decide ((List.getD x2 (Int.toNat x1) ((bs []) , (false , (0 : Int)))).2.2 = (0 : Int))))
        (k0 false x2 x3 x4 x5 x6)
        (nx x0 (IntKind.wrap .i64 (x1 + (1 : Int))) x2 x3 x4 x5 x6))
       (nx x0 (IntKind.wrap .i64 (x1 + (1 : Int))) x2 x3 x4 x5 x6))
      (k0 false x2 x3 x4 x5 x6)))
    (none))
   (none))
  (k1 x2 x3 x4 x5 x6)
noncomputable def class_May_66e6_l1_T0 (N : Nat) (c0 : class_fits_Ty) (c1 : class_Files_66e6_Ty) (c2 : class_Files_Ty) (c3 : tree_New_644a_Ty) (c4 : tree_New_Ty) {R : Type} (nx : (Int) → (Int) → (List ((ByteArray) × ((Bool) × (Int)))) → (List (Int)) → (Int) → (Int) → (Int) → Option R) (k0 : (Bool) → (List ((ByteArray) × ((Bool) × (Int)))) → (List (Int)) → (Int) → (Int) → (Int) → Option R) (k1 : (List ((ByteArray) × ((Bool) × (Int)))) → (List (Int)) → (Int) → (Int) → (Int) → Option R) (x0 : Int) (x1 : Int) (x2 : List ((ByteArray) × ((Bool) × (Int)))) (x3 : List (Int)) (x4 : Int) (x5 : Int) (x6 : Int) : Option R :=
  br (decide (x1 < x0))
  (br (inB x1 (List.length x3))
   (br (decide ((Int.toNat x1) < (List.length x3)))
    (c0 (List.getD x3 (Int.toNat x1) (0 : Int)) (3 : Int)
     (fun b58 => br (!b58)
      (k0 false x2 x3 x4 x5 x6)
      (nx x0 (IntKind.wrap .i64 (x1 + (1 : Int))) x2 x3 x4 x5 x6)))
    (none))
   (none))
  (k1 x2 x3 x4 x5 x6)
noncomputable def class_May_66e6_l1 (N : Nat) {R : Type} (k0 : (Bool) → (List ((ByteArray) × ((Bool) × (Int)))) → (List (Int)) → (Int) → (Int) → (Int) → Option R) (k1 : (List ((ByteArray) × ((Bool) × (Int)))) → (List (Int)) → (Int) → (Int) → (Int) → Option R) : Nat → (Int) → (Int) → (List ((ByteArray) × ((Bool) × (Int)))) → (List (Int)) → (Int) → (Int) → (Int) → Option R
  | 0, _, _, _, _, _, _, _ => none
  | n + 1, x0, x1, x2, x3, x4, x5, x6 => class_May_66e6_l1_T0 N (@class_fits N) (@class_Files_66e6 N) (@class_Files N) (@tree_New_644a N) (@tree_New N) (fun x0 x1 x2 x3 x4 x5 x6 => class_May_66e6_l1 N k0 k1 n x0 x1 x2 x3 x4 x5 x6) k0 k1 x0 x1 x2 x3 x4 x5 x6
noncomputable def class_May_66e6_l0 (N : Nat) {R : Type} (k0 : (Bool) → (List ((ByteArray) × ((Bool) × (Int)))) → (List (Int)) → (Int) → (Int) → (Int) → Option R) (k1 : (List ((ByteArray) × ((Bool) × (Int)))) → (List (Int)) → (Int) → (Int) → (Int) → Option R) : Nat → (Int) → (Int) → (List ((ByteArray) × ((Bool) × (Int)))) → (List (Int)) → (Int) → (Int) → (Int) → Option R
  | 0, _, _, _, _, _, _, _ => none
  | n + 1, x0, x1, x2, x3, x4, x5, x6 => class_May_66e6_l0_T0 N (@class_fits N) (@class_Files_66e6 N) (@class_Files N) (@tree_New_644a N) (@tree_New N) (@class_May_66e6_l1 N) (fun x0 x1 x2 x3 x4 x5 x6 => class_May_66e6_l0 N k0 k1 n x0 x1 x2 x3 x4 x5 x6) k0 k1 x0 x1 x2 x3 x4 x5 x6
noncomputable def class_May_66e6_T (N : Nat) (c0 : class_fits_Ty) (c1 : class_Files_66e6_Ty) (c2 : class_Files_Ty) (c3 : tree_New_644a_Ty) (c4 : tree_New_Ty) (w0 : class_May_66e6_l0_Ty) (w1 : class_May_66e6_l1_Ty) {R : Type} (x0 : Int) (x1 : Int) (x2 : Int) (x3 : List ((ByteArray) × ((Bool) × (Int)))) (x4 : List (Int)) (k0 : (Bool) → (List ((ByteArray) × ((Bool) × (Int)))) → (List (Int)) → Option R) : Option R :=
  c3 x3
  (fun i38 l39 => br (!(!(decide (i38 = (0 : Int)))))
   (c1 x0 x1 x2 l39 x4
    (fun l43 l44 l45 => br (!(decide ((4 : Int) < (Nat.cast (List.length l45) : Int))))
     (br (decide ((2 : Int) < (Nat.cast (List.length l44) : Int)))
      (k0 false l43 l44)
      (w0
       (fun b47 l48 l49 i50 i51 i52 => k0 b47 l48 l49)
       (fun l53 l54 i55 i56 i57 => w1
        (fun b59 l60 l61 i62 i63 i64 => k0 b59 l60 l61)
        (fun l65 l66 i67 i68 i69 => c0 i67 (6 : Int)
         (fun b70 => br b70
          (c0 i68 i67
           (fun b71 => br b71
            (c0 i69 (400 : Int)
             (fun b72 => k0 b72 l65 l66))
            (k0 false l65 l66)))
          (k0 false l65 l66)))
        N (Nat.cast (List.length l54) : Int) (0 : Int) l53 l54 i55 i56 i57)
       N (Nat.cast (List.length l43) : Int) (0 : Int) l43 l44 x0 x1 x2))
     (k0 false l43 l44)))
   (k0 false l39 x4))
  (fun i73 l74 i75 l76 => br (!(!(decide (i73 = (0 : Int)))))
   (c1 x0 x1 x2 l74 x4
    (fun l77 l78 l79 => br (!(decide ((4 : Int) < (Nat.cast (List.length l79) : Int))))
     (br (decide ((2 : Int) < (Nat.cast (List.length l78) : Int)))
      (k0 false l77 l78)
      (w0
       (fun b80 l81 l82 i83 i84 i85 => k0 b80 l81 l82)
       (fun l86 l87 i88 i89 i90 => w1
        (fun b91 l92 l93 i94 i95 i96 => k0 b91 l92 l93)
        (fun l97 l98 i99 i100 i101 => c0 i99 (6 : Int)
         (fun b102 => br b102
          (c0 i100 i99
           (fun b103 => br b103
            (c0 i101 (400 : Int)
             (fun b104 => k0 b104 l97 l98))
            (k0 false l97 l98)))
          (k0 false l97 l98)))
        N (Nat.cast (List.length l87) : Int) (0 : Int) l86 l87 i88 i89 i90)
       N (Nat.cast (List.length l77) : Int) (0 : Int) l77 l78 x0 x1 x2))
     (k0 false l77 l78)))
   (k0 false l74 x4))
noncomputable def class_May_66e6 (N : Nat) {R : Type} (x0 : Int) (x1 : Int) (x2 : Int) (x3 : List ((ByteArray) × ((Bool) × (Int)))) (x4 : List (Int)) (k0 : (Bool) → (List ((ByteArray) × ((Bool) × (Int)))) → (List (Int)) → Option R) : Option R := class_May_66e6_T N (@class_fits N) (@class_Files_66e6 N) (@class_Files N) (@tree_New_644a N) (@tree_New N) (@class_May_66e6_l0 N) (@class_May_66e6_l1 N) x0 x1 x2 x3 x4 k0
abbrev class_May_l0_Ty : Type 1 := {R : Type} → ((Bool) → (List ((ByteArray) × ((Bool) × (Int)))) → (List (Int)) → (Int) → (Int) → (Int) → Option R) → ((List ((ByteArray) × ((Bool) × (Int)))) → (List (Int)) → (Int) → (Int) → (Int) → Option R) → Nat → (List ((ByteArray) × ((Bool) × (Int)))) → (Int) → (Int) → (List ((ByteArray) × ((Bool) × (Int)))) → (List (Int)) → (Int) → (Int) → (Int) → Option R
abbrev class_May_l1_Ty : Type 1 := {R : Type} → ((Bool) → (List ((ByteArray) × ((Bool) × (Int)))) → (List (Int)) → (Int) → (Int) → (Int) → Option R) → ((List ((ByteArray) × ((Bool) × (Int)))) → (List (Int)) → (Int) → (Int) → (Int) → Option R) → Nat → (List (Int)) → (Int) → (Int) → (List ((ByteArray) × ((Bool) × (Int)))) → (List (Int)) → (Int) → (Int) → (Int) → Option R
abbrev class_May_Ty : Type 1 := {R : Type} → (List ((ByteArray) × ((Bool) × (Int)))) → (List (Int)) → (Int) → (Int) → (Int) → ((Bool) → Option R) → Option R
noncomputable def class_May_l0_T0 (N : Nat) (c0 : class_fits_Ty) (c1 : class_Files_66e6_Ty) (c2 : class_Files_Ty) (c3 : tree_New_644a_Ty) (c4 : tree_New_Ty) (w1 : class_May_l1_Ty) {R : Type} (nx : (List ((ByteArray) × ((Bool) × (Int)))) → (Int) → (Int) → (List ((ByteArray) × ((Bool) × (Int)))) → (List (Int)) → (Int) → (Int) → (Int) → Option R) (k0 : (Bool) → (List ((ByteArray) × ((Bool) × (Int)))) → (List (Int)) → (Int) → (Int) → (Int) → Option R) (k1 : (List ((ByteArray) × ((Bool) × (Int)))) → (List (Int)) → (Int) → (Int) → (Int) → Option R) (x0 : List ((ByteArray) × ((Bool) × (Int)))) (x1 : Int) (x2 : Int) (x3 : List ((ByteArray) × ((Bool) × (Int)))) (x4 : List (Int)) (x5 : Int) (x6 : Int) (x7 : Int) : Option R :=
  br (decide (x2 < x1))
  (br (inB x2 (List.length x0))
   (c0 (List.getD x0 (Int.toNat x2) ((bs []) , (false , (0 : Int)))).2.2 (3 : Int)
    (fun b482 => br (!(!b482))
     (br (List.getD x0 (Int.toNat x2) ((bs []) , (false , (0 : Int)))).2.1
      (br (!(decide ((List.getD x0 (Int.toNat x2) ((bs []) , (false , (0 : Int)))).2.2 = (0 : Int))))
       (k0 false x3 x4 x5 x6 x7)
       (nx x0 x1 (IntKind.wrap .i64 (x2 + (1 : Int))) x3 x4 x5 x6 x7))
      (nx x0 x1 (IntKind.wrap .i64 (x2 + (1 : Int))) x3 x4 x5 x6 x7))
     (k0 false x3 x4 x5 x6 x7)))
   (none))
  (k1 x3 x4 x5 x6 x7)
noncomputable def class_May_l1_T0 (N : Nat) (c0 : class_fits_Ty) (c1 : class_Files_66e6_Ty) (c2 : class_Files_Ty) (c3 : tree_New_644a_Ty) (c4 : tree_New_Ty) {R : Type} (nx : (List (Int)) → (Int) → (Int) → (List ((ByteArray) × ((Bool) × (Int)))) → (List (Int)) → (Int) → (Int) → (Int) → Option R) (k0 : (Bool) → (List ((ByteArray) × ((Bool) × (Int)))) → (List (Int)) → (Int) → (Int) → (Int) → Option R) (k1 : (List ((ByteArray) × ((Bool) × (Int)))) → (List (Int)) → (Int) → (Int) → (Int) → Option R) (x0 : List (Int)) (x1 : Int) (x2 : Int) (x3 : List ((ByteArray) × ((Bool) × (Int)))) (x4 : List (Int)) (x5 : Int) (x6 : Int) (x7 : Int) : Option R :=
  br (decide (x2 < x1))
  (br (inB x2 (List.length x0))
   (c0 (List.getD x0 (Int.toNat x2) (0 : Int)) (3 : Int)
    (fun b494 => br (!b494)
     (k0 false x3 x4 x5 x6 x7)
     (nx x0 x1 (IntKind.wrap .i64 (x2 + (1 : Int))) x3 x4 x5 x6 x7)))
   (none))
  (k1 x3 x4 x5 x6 x7)
noncomputable def class_May_l1 (N : Nat) {R : Type} (k0 : (Bool) → (List ((ByteArray) × ((Bool) × (Int)))) → (List (Int)) → (Int) → (Int) → (Int) → Option R) (k1 : (List ((ByteArray) × ((Bool) × (Int)))) → (List (Int)) → (Int) → (Int) → (Int) → Option R) : Nat → (List (Int)) → (Int) → (Int) → (List ((ByteArray) × ((Bool) × (Int)))) → (List (Int)) → (Int) → (Int) → (Int) → Option R
  | 0, _, _, _, _, _, _, _, _ => none
  | n + 1, x0, x1, x2, x3, x4, x5, x6, x7 => class_May_l1_T0 N (@class_fits N) (@class_Files_66e6 N) (@class_Files N) (@tree_New_644a N) (@tree_New N) (fun x0 x1 x2 x3 x4 x5 x6 x7 => class_May_l1 N k0 k1 n x0 x1 x2 x3 x4 x5 x6 x7) k0 k1 x0 x1 x2 x3 x4 x5 x6 x7
noncomputable def class_May_l0 (N : Nat) {R : Type} (k0 : (Bool) → (List ((ByteArray) × ((Bool) × (Int)))) → (List (Int)) → (Int) → (Int) → (Int) → Option R) (k1 : (List ((ByteArray) × ((Bool) × (Int)))) → (List (Int)) → (Int) → (Int) → (Int) → Option R) : Nat → (List ((ByteArray) × ((Bool) × (Int)))) → (Int) → (Int) → (List ((ByteArray) × ((Bool) × (Int)))) → (List (Int)) → (Int) → (Int) → (Int) → Option R
  | 0, _, _, _, _, _, _, _, _ => none
  | n + 1, x0, x1, x2, x3, x4, x5, x6, x7 => class_May_l0_T0 N (@class_fits N) (@class_Files_66e6 N) (@class_Files N) (@tree_New_644a N) (@tree_New N) (@class_May_l1 N) (fun x0 x1 x2 x3 x4 x5 x6 x7 => class_May_l0 N k0 k1 n x0 x1 x2 x3 x4 x5 x6 x7) k0 k1 x0 x1 x2 x3 x4 x5 x6 x7
noncomputable def class_May_T (N : Nat) (c0 : class_fits_Ty) (c1 : class_Files_66e6_Ty) (c2 : class_Files_Ty) (c3 : tree_New_644a_Ty) (c4 : tree_New_Ty) (w0 : class_May_l0_Ty) (w1 : class_May_l1_Ty) {R : Type} (x0 : List ((ByteArray) × ((Bool) × (Int)))) (x1 : List (Int)) (x2 : Int) (x3 : Int) (x4 : Int) (k0 : (Bool) → Option R) : Option R :=
  c4 x0
  (fun i479 => br (!(!(decide (i479 = (0 : Int)))))
   (c2 x0 x1 x2 x3 x4
    (fun l481 => br (!(decide ((4 : Int) < (Nat.cast (List.length l481) : Int))))
     (br (decide ((2 : Int) < (Nat.cast (List.length x1) : Int)))
      (k0 false)
      (w0
       (fun b483 l484 l485 i486 i487 i488 => k0 b483)
       (fun l489 l490 i491 i492 i493 => w1
        (fun b495 l496 l497 i498 i499 i500 => k0 b495)
        (fun l501 l502 i503 i504 i505 => c0 i503 (6 : Int)
         (fun b506 => br b506
          (c0 i504 i503
           (fun b507 => br b507
            (c0 i505 (400 : Int)
             (fun b508 => k0 b508))
            (k0 false)))
          (k0 false)))
        N l490 (Nat.cast (List.length l490) : Int) (0 : Int) l489 l490 i491 i492 i493)
       N x0 (Nat.cast (List.length x0) : Int) (0 : Int) x0 x1 x2 x3 x4))
     (k0 false)))
   (k0 false))
  (fun i509 i510 l511 => br (!(!(decide (i509 = (0 : Int)))))
   (c2 x0 x1 x2 x3 x4
    (fun l512 => br (!(decide ((4 : Int) < (Nat.cast (List.length l512) : Int))))
     (br (decide ((2 : Int) < (Nat.cast (List.length x1) : Int)))
      (k0 false)
      (w0
       (fun b513 l514 l515 i516 i517 i518 => k0 b513)
       (fun l519 l520 i521 i522 i523 => w1
        (fun b524 l525 l526 i527 i528 i529 => k0 b524)
        (fun l530 l531 i532 i533 i534 => c0 i532 (6 : Int)
         (fun b535 => br b535
          (c0 i533 i532
           (fun b536 => br b536
            (c0 i534 (400 : Int)
             (fun b537 => k0 b537))
            (k0 false)))
          (k0 false)))
        N l520 (Nat.cast (List.length l520) : Int) (0 : Int) l519 l520 i521 i522 i523)
       N x0 (Nat.cast (List.length x0) : Int) (0 : Int) x0 x1 x2 x3 x4))
     (k0 false)))
   (k0 false))
noncomputable def class_May (N : Nat) {R : Type} (x0 : List ((ByteArray) × ((Bool) × (Int)))) (x1 : List (Int)) (x2 : Int) (x3 : Int) (x4 : Int) (k0 : (Bool) → Option R) : Option R := class_May_T N (@class_fits N) (@class_Files_66e6 N) (@class_Files N) (@tree_New_644a N) (@tree_New N) (@class_May_l0 N) (@class_May_l1 N) x0 x1 x2 x3 x4 k0
abbrev fails_May_e7e3_l0_Ty : Type 1 := {R : Type} → ((Int) → (Int) → (Int) → (List (Bool)) → Option R) → Nat → (Int) → (Int) → (Int) → (Int) → (Int) → (List (Bool)) → Option R
abbrev fails_May_e7e3_Ty : Type 1 := {R : Type} → (Int) → (Int) → (List (Bool)) → ((Bool) → (List (Bool)) → Option R) → Option R
noncomputable def fails_May_e7e3_l0_T0 (N : Nat) {R : Type} (nx : (Int) → (Int) → (Int) → (Int) → (Int) → (List (Bool)) → Option R) (k0 : (Int) → (Int) → (Int) → (List (Bool)) → Option R) (x0 : Int) (x1 : Int) (x2 : Int) (x3 : Int) (x4 : Int) (x5 : List (Bool)) : Option R :=
  br (decide (x4 < x3))
  (br (inB x4 (List.length x5))
   (br (decide ((Int.toNat x4) < (List.length x5)))
    (br (List.getD x5 (Int.toNat x4) false)
     (nx x0 x1 (IntKind.wrap .i64 (x2 + (1 : Int))) x3 (IntKind.wrap .i64 (x4 + (1 : Int))) x5)
     (nx x0 x1 x2 x3 (IntKind.wrap .i64 (x4 + (1 : Int))) x5))
    (none))
   (none))
  (k0 x0 x1 x2 x5)
noncomputable def fails_May_e7e3_l0 (N : Nat) {R : Type} (k0 : (Int) → (Int) → (Int) → (List (Bool)) → Option R) : Nat → (Int) → (Int) → (Int) → (Int) → (Int) → (List (Bool)) → Option R
  | 0, _, _, _, _, _, _ => none
  | n + 1, x0, x1, x2, x3, x4, x5 => fails_May_e7e3_l0_T0 N (fun x0 x1 x2 x3 x4 x5 => fails_May_e7e3_l0 N k0 n x0 x1 x2 x3 x4 x5) k0 x0 x1 x2 x3 x4 x5
noncomputable def fails_May_e7e3_T (N : Nat) (w0 : fails_May_e7e3_l0_Ty) {R : Type} (x0 : Int) (x1 : Int) (x2 : List (Bool)) (k0 : (Bool) → (List (Bool)) → Option R) : Option R :=
  w0
  (fun i114 i115 i116 l117 => br (decide ((Nat.cast (List.length l117) : Int) = i114))
   (br (decide (i114 ≤ (6 : Int)))
    (k0 (decide (i116 ≤ i115)) l117)
    (k0 false l117))
   (k0 false l117))
  N x0 x1 (0 : Int) (Nat.cast (List.length x2) : Int) (0 : Int) x2
noncomputable def fails_May_e7e3 (N : Nat) {R : Type} (x0 : Int) (x1 : Int) (x2 : List (Bool)) (k0 : (Bool) → (List (Bool)) → Option R) : Option R := fails_May_e7e3_T N (@fails_May_e7e3_l0 N) x0 x1 x2 k0
abbrev fails_May_l0_Ty : Type 1 := {R : Type} → ((List (Bool)) → (Int) → (Int) → (Int) → Option R) → Nat → (List (Bool)) → (Int) → (Int) → (Int) → (List (Bool)) → (Int) → (Int) → Option R
abbrev fails_May_Ty : Type 1 := {R : Type} → (List (Bool)) → (Int) → (Int) → ((Bool) → Option R) → Option R
noncomputable def fails_May_l0_T0 (N : Nat) {R : Type} (nx : (List (Bool)) → (Int) → (Int) → (Int) → (List (Bool)) → (Int) → (Int) → Option R) (k0 : (List (Bool)) → (Int) → (Int) → (Int) → Option R) (x0 : List (Bool)) (x1 : Int) (x2 : Int) (x3 : Int) (x4 : List (Bool)) (x5 : Int) (x6 : Int) : Option R :=
  br (decide (x6 < x5))
  (br (inB x6 (List.length x4))
   (br (List.getD x4 (Int.toNat x6) false)
    (nx x0 x1 x2 (IntKind.wrap .i64 (x3 + (1 : Int))) x4 x5 (IntKind.wrap .i64 (x6 + (1 : Int))))
    (nx x0 x1 x2 x3 x4 x5 (IntKind.wrap .i64 (x6 + (1 : Int)))))
   (none))
  (k0 x0 x1 x2 x3)
noncomputable def fails_May_l0 (N : Nat) {R : Type} (k0 : (List (Bool)) → (Int) → (Int) → (Int) → Option R) : Nat → (List (Bool)) → (Int) → (Int) → (Int) → (List (Bool)) → (Int) → (Int) → Option R
  | 0, _, _, _, _, _, _, _ => none
  | n + 1, x0, x1, x2, x3, x4, x5, x6 => fails_May_l0_T0 N (fun x0 x1 x2 x3 x4 x5 x6 => fails_May_l0 N k0 n x0 x1 x2 x3 x4 x5 x6) k0 x0 x1 x2 x3 x4 x5 x6
noncomputable def fails_May_T (N : Nat) (w0 : fails_May_l0_Ty) {R : Type} (x0 : List (Bool)) (x1 : Int) (x2 : Int) (k0 : (Bool) → Option R) : Option R :=
  w0
  (fun l541 i542 i543 i544 => br (decide ((Nat.cast (List.length l541) : Int) = i542))
   (br (decide (i542 ≤ (6 : Int)))
    (k0 (decide (i544 ≤ i543)))
    (k0 false))
   (k0 false))
  N x0 x1 x2 (0 : Int) x0 (Nat.cast (List.length x0) : Int) (0 : Int)
noncomputable def fails_May (N : Nat) {R : Type} (x0 : List (Bool)) (x1 : Int) (x2 : Int) (k0 : (Bool) → Option R) : Option R := fails_May_T N (@fails_May_l0 N) x0 x1 x2 k0
abbrev class_Caps_66e6_l0_Ty : Type 1 := {R : Type} → ((List ((ByteArray) × ((Bool) × (Int)))) → (List (Int)) → (Int) → (Int) → (Int) → (List (Int)) → Option R) → Nat → (Int) → (Int) → (List ((ByteArray) × ((Bool) × (Int)))) → (List (Int)) → (Int) → (Int) → (Int) → (List (Int)) → (List (Int)) → Option R
abbrev class_Caps_66e6_Ty : Type 1 := {R : Type} → (Int) → (Int) → (Int) → (List ((ByteArray) × ((Bool) × (Int)))) → (List (Int)) → ((List ((ByteArray) × ((Bool) × (Int)))) → (List (Int)) → (List (Int)) → Option R) → Option R
noncomputable def class_Caps_66e6_l0_T0 (N : Nat) (c0 : class_Files_66e6_Ty) (c1 : class_Files_Ty) {R : Type} (nx : (Int) → (Int) → (List ((ByteArray) × ((Bool) × (Int)))) → (List (Int)) → (Int) → (Int) → (Int) → (List (Int)) → (List (Int)) → Option R) (k0 : (List ((ByteArray) × ((Bool) × (Int)))) → (List (Int)) → (Int) → (Int) → (Int) → (List (Int)) → Option R) (x0 : Int) (x1 : Int) (x2 : List ((ByteArray) × ((Bool) × (Int)))) (x3 : List (Int)) (x4 : Int) (x5 : Int) (x6 : Int) (x7 : List (Int)) (x8 : List (Int)) : Option R :=
  br (decide (x1 < x0))
  (br (inB x1 (List.length x8))
   (br (decide ((Int.toNat x1) < (List.length x8)))
    (br (inB (List.getD x8 (Int.toNat x1) (0 : Int)) (List.length x2))
     (br (decide ((Int.toNat (List.getD x8 (Int.toNat x1) (0 : Int))) < (List.length x2)))
      (br (((fits (0 : Nat) (List.length x7) x7) && (decide ((((List.length x7) + (1 : Nat)) * (8 : Nat)) ≤ (70368744177664 : Nat)))) && true)
       (nx x0 (IntKind.wrap .i64 (x1 + (1 : Int))) x2 x3 x4 x5 x6 ((sub x7 (0 : Nat) (List.length x7)) ++ ((List.getD x2 (Int.toNat (List.getD x8 (Int.toNat x1) (0 : Int))) ((bs []) , (false , (0 : Int)))).2.2 :: ([] : List ((Sh.int IntKind.i64).T)))) x8)
       (none))
      (none))
     (none))
    (none))
   (none))
  (k0 x2 x3 x4 x5 x6 x7)
noncomputable def class_Caps_66e6_l0 (N : Nat) {R : Type} (k0 : (List ((ByteArray) × ((Bool) × (Int)))) → (List (Int)) → (Int) → (Int) → (Int) → (List (Int)) → Option R) : Nat → (Int) → (Int) → (List ((ByteArray) × ((Bool) × (Int)))) → (List (Int)) → (Int) → (Int) → (Int) → (List (Int)) → (List (Int)) → Option R
  | 0, _, _, _, _, _, _, _, _, _ => none
  | n + 1, x0, x1, x2, x3, x4, x5, x6, x7, x8 => class_Caps_66e6_l0_T0 N (@class_Files_66e6 N) (@class_Files N) (fun x0 x1 x2 x3 x4 x5 x6 x7 x8 => class_Caps_66e6_l0 N k0 n x0 x1 x2 x3 x4 x5 x6 x7 x8) k0 x0 x1 x2 x3 x4 x5 x6 x7 x8
noncomputable def class_Caps_66e6_T (N : Nat) (c0 : class_Files_66e6_Ty) (c1 : class_Files_Ty) (w0 : class_Caps_66e6_l0_Ty) {R : Type} (x0 : Int) (x1 : Int) (x2 : Int) (x3 : List ((ByteArray) × ((Bool) × (Int)))) (x4 : List (Int)) (k0 : (List ((ByteArray) × ((Bool) × (Int)))) → (List (Int)) → (List (Int)) → Option R) : Option R :=
  c0 x0 x1 x2 x3 x4
  (fun l123 l124 l125 => w0
   (fun l126 l127 i128 i129 i130 l131 => br (fits (0 : Nat) (List.length l127) l127)
    (br (((fits (0 : Nat) (List.length l131) l131) && (decide ((((List.length l131) + (List.length (sub l127 (0 : Nat) (List.length l127)))) * (8 : Nat)) ≤ (70368744177664 : Nat)))) && true)
     (k0 l126 l127 ((sub l131 (0 : Nat) (List.length l131)) ++ (sub l127 (0 : Nat) (List.length l127))))
     (none))
    (none))
   N (Nat.cast (List.length l125) : Int) (0 : Int) l123 l124 x0 x1 x2 ([] : List ((Sh.int IntKind.i64).T)) l125)
noncomputable def class_Caps_66e6 (N : Nat) {R : Type} (x0 : Int) (x1 : Int) (x2 : Int) (x3 : List ((ByteArray) × ((Bool) × (Int)))) (x4 : List (Int)) (k0 : (List ((ByteArray) × ((Bool) × (Int)))) → (List (Int)) → (List (Int)) → Option R) : Option R := class_Caps_66e6_T N (@class_Files_66e6 N) (@class_Files N) (@class_Caps_66e6_l0 N) x0 x1 x2 x3 x4 k0
abbrev class_Caps_l0_Ty : Type 1 := {R : Type} → ((List ((ByteArray) × ((Bool) × (Int)))) → (List (Int)) → (Int) → (Int) → (Int) → (List (Int)) → Option R) → Nat → (Int) → (Int) → (List ((ByteArray) × ((Bool) × (Int)))) → (List (Int)) → (Int) → (Int) → (Int) → (List (Int)) → (List (Int)) → Option R
abbrev class_Caps_Ty : Type 1 := {R : Type} → (List ((ByteArray) × ((Bool) × (Int)))) → (List (Int)) → (Int) → (Int) → (Int) → ((List (Int)) → Option R) → Option R
noncomputable def class_Caps_l0_T0 (N : Nat) (c0 : class_Files_66e6_Ty) (c1 : class_Files_Ty) {R : Type} (nx : (Int) → (Int) → (List ((ByteArray) × ((Bool) × (Int)))) → (List (Int)) → (Int) → (Int) → (Int) → (List (Int)) → (List (Int)) → Option R) (k0 : (List ((ByteArray) × ((Bool) × (Int)))) → (List (Int)) → (Int) → (Int) → (Int) → (List (Int)) → Option R) (x0 : Int) (x1 : Int) (x2 : List ((ByteArray) × ((Bool) × (Int)))) (x3 : List (Int)) (x4 : Int) (x5 : Int) (x6 : Int) (x7 : List (Int)) (x8 : List (Int)) : Option R :=
  br (decide (x1 < x0))
  (br (inB x1 (List.length x8))
   (br (decide ((Int.toNat x1) < (List.length x8)))
    (br (inB (List.getD x8 (Int.toNat x1) (0 : Int)) (List.length x2))
     (br (((fits (0 : Nat) (List.length x7) x7) && (decide ((((List.length x7) + (1 : Nat)) * (8 : Nat)) ≤ (70368744177664 : Nat)))) && true)
      (nx x0 (IntKind.wrap .i64 (x1 + (1 : Int))) x2 x3 x4 x5 x6 ((sub x7 (0 : Nat) (List.length x7)) ++ ((List.getD x2 (Int.toNat (List.getD x8 (Int.toNat x1) (0 : Int))) ((bs []) , (false , (0 : Int)))).2.2 :: ([] : List ((Sh.int IntKind.i64).T)))) x8)
      (none))
     (none))
    (none))
   (none))
  (k0 x2 x3 x4 x5 x6 x7)
noncomputable def class_Caps_l0 (N : Nat) {R : Type} (k0 : (List ((ByteArray) × ((Bool) × (Int)))) → (List (Int)) → (Int) → (Int) → (Int) → (List (Int)) → Option R) : Nat → (Int) → (Int) → (List ((ByteArray) × ((Bool) × (Int)))) → (List (Int)) → (Int) → (Int) → (Int) → (List (Int)) → (List (Int)) → Option R
  | 0, _, _, _, _, _, _, _, _, _ => none
  | n + 1, x0, x1, x2, x3, x4, x5, x6, x7, x8 => class_Caps_l0_T0 N (@class_Files_66e6 N) (@class_Files N) (fun x0 x1 x2 x3 x4 x5 x6 x7 x8 => class_Caps_l0 N k0 n x0 x1 x2 x3 x4 x5 x6 x7 x8) k0 x0 x1 x2 x3 x4 x5 x6 x7 x8
noncomputable def class_Caps_T (N : Nat) (c0 : class_Files_66e6_Ty) (c1 : class_Files_Ty) (w0 : class_Caps_l0_Ty) {R : Type} (x0 : List ((ByteArray) × ((Bool) × (Int)))) (x1 : List (Int)) (x2 : Int) (x3 : Int) (x4 : Int) (k0 : (List (Int)) → Option R) : Option R :=
  c1 x0 x1 x2 x3 x4
  (fun l547 => w0
   (fun l548 l549 i550 i551 i552 l553 => br (((fits (0 : Nat) (List.length l553) l553) && (decide ((((List.length l553) + (List.length l549)) * (8 : Nat)) ≤ (70368744177664 : Nat)))) && true)
    (k0 ((sub l553 (0 : Nat) (List.length l553)) ++ l549))
    (none))
   N (Nat.cast (List.length l547) : Int) (0 : Int) x0 x1 x2 x3 x4 ([] : List ((Sh.int IntKind.i64).T)) l547)
noncomputable def class_Caps (N : Nat) {R : Type} (x0 : List ((ByteArray) × ((Bool) × (Int)))) (x1 : List (Int)) (x2 : Int) (x3 : Int) (x4 : Int) (k0 : (List (Int)) → Option R) : Option R := class_Caps_T N (@class_Files_66e6 N) (@class_Files N) (@class_Caps_l0 N) x0 x1 x2 x3 x4 k0
abbrev class_Has_1e53_l0_Ty : Type 1 := {R : Type} → ((Bool) → (List ((ByteArray) × ((Bool) × (Int)))) → (List (Int)) → (List (List (Int))) → (List (List (Int))) → (List (Bool)) → Option R) → ((List ((ByteArray) × ((Bool) × (Int)))) → (List (Int)) → (List (List (Int))) → (List (List (Int))) → (List (Bool)) → Option R) → Nat → (Int) → (Int) → (Int) → (List ((ByteArray) × ((Bool) × (Int)))) → (List (Int)) → (List (List (Int))) → (List (List (Int))) → (List (Bool)) → (List (Int)) → Option R
abbrev class_Has_1e53_Ty : Type 1 := {R : Type} → (Int) → (Int) → (Int) → (List ((ByteArray) × ((Bool) × (Int)))) → (List (Int)) → (List (List (Int))) → (List (List (Int))) → (List (Bool)) → ((Bool) → (List ((ByteArray) × ((Bool) × (Int)))) → (List (Int)) → (List (List (Int))) → (List (List (Int))) → (List (Bool)) → Option R) → Option R
noncomputable def class_Has_1e53_l0_T0 (N : Nat) (c0 : class_Caps_66e6_Ty) (c1 : class_Caps_Ty) (c2 : fails_May_e7e3_Ty) (c3 : fails_May_Ty) (c4 : class_May_66e6_Ty) (c5 : class_May_Ty) (c6 : class_Files_66e6_Ty) (c7 : class_Files_Ty) {R : Type} (nx : (Int) → (Int) → (Int) → (List ((ByteArray) × ((Bool) × (Int)))) → (List (Int)) → (List (List (Int))) → (List (List (Int))) → (List (Bool)) → (List (Int)) → Option R) (k0 : (Bool) → (List ((ByteArray) × ((Bool) × (Int)))) → (List (Int)) → (List (List (Int))) → (List (List (Int))) → (List (Bool)) → Option R) (k1 : (List ((ByteArray) × ((Bool) × (Int)))) → (List (Int)) → (List (List (Int))) → (List (List (Int))) → (List (Bool)) → Option R) (x0 : Int) (x1 : Int) (x2 : Int) (x3 : List ((ByteArray) × ((Bool) × (Int)))) (x4 : List (Int)) (x5 : List (List (Int))) (x6 : List (List (Int))) (x7 : List (Bool)) (x8 : List (Int)) : Option R :=
  br (decide (x2 < x1))
  (br (inB x2 (List.length x8))
   (br (decide ((Int.toNat x2) < (List.length x8)))
    (br (decide (x2 < x0))
     (br (inB x2 (List.length x5))
      (br (decide ((Int.toNat x2) < (List.length x5)))
       (br (!(decide ((List.getD x8 (Int.toNat x2) (0 : Int)) < (Nat.cast (List.length (List.getD x5 (Int.toNat x2) (Sh.zero (.isl (.int .u8))))) : Int))))
        (br (decide (x0 ≤ x2))
         (br (inB (IntKind.wrap .i64 (x2 - x0)) (List.length x6))
          (br (decide ((Int.toNat (IntKind.wrap .i64 (x2 - x0))) < (List.length x6)))
           (br (decide ((List.getD x8 (Int.toNat x2) (0 : Int)) < (Nat.cast (List.length (List.getD x6 (Int.toNat (IntKind.wrap .i64 (x2 - x0))) (Sh.zero (.isl (.int .u8))))) : Int)))
            (k0 false x3 x4 x5 x6 x7)
            (nx x0 x1 (IntKind.wrap .i64 (x2 + (1 : Int))) x3 x4 x5 x6 x7 x8))
           (none))
          (none))
         (nx x0 x1 (IntKind.wrap .i64 (x2 + (1 : Int))) x3 x4 x5 x6 x7 x8))
        (k0 false x3 x4 x5 x6 x7))
       (none))
      (none))
     (br (decide (x0 ≤ x2))
      (br (inB (IntKind.wrap .i64 (x2 - x0)) (List.length x6))
       (br (decide ((Int.toNat (IntKind.wrap .i64 (x2 - x0))) < (List.length x6)))
        (br (decide ((List.getD x8 (Int.toNat x2) (0 : Int)) < (Nat.cast (List.length (List.getD x6 (Int.toNat (IntKind.wrap .i64 (x2 - x0))) (Sh.zero (.isl (.int .u8))))) : Int)))
         (k0 false x3 x4 x5 x6 x7)
         (nx x0 x1 (IntKind.wrap .i64 (x2 + (1 : Int))) x3 x4 x5 x6 x7 x8))
        (none))
       (none))
      (nx x0 x1 (IntKind.wrap .i64 (x2 + (1 : Int))) x3 x4 x5 x6 x7 x8)))
    (none))
   (none))
  (k1 x3 x4 x5 x6 x7)
noncomputable def class_Has_1e53_l0 (N : Nat) {R : Type} (k0 : (Bool) → (List ((ByteArray) × ((Bool) × (Int)))) → (List (Int)) → (List (List (Int))) → (List (List (Int))) → (List (Bool)) → Option R) (k1 : (List ((ByteArray) × ((Bool) × (Int)))) → (List (Int)) → (List (List (Int))) → (List (List (Int))) → (List (Bool)) → Option R) : Nat → (Int) → (Int) → (Int) → (List ((ByteArray) × ((Bool) × (Int)))) → (List (Int)) → (List (List (Int))) → (List (List (Int))) → (List (Bool)) → (List (Int)) → Option R
  | 0, _, _, _, _, _, _, _, _, _ => none
  | n + 1, x0, x1, x2, x3, x4, x5, x6, x7, x8 => class_Has_1e53_l0_T0 N (@class_Caps_66e6 N) (@class_Caps N) (@fails_May_e7e3 N) (@fails_May N) (@class_May_66e6 N) (@class_May N) (@class_Files_66e6 N) (@class_Files N) (fun x0 x1 x2 x3 x4 x5 x6 x7 x8 => class_Has_1e53_l0 N k0 k1 n x0 x1 x2 x3 x4 x5 x6 x7 x8) k0 k1 x0 x1 x2 x3 x4 x5 x6 x7 x8
noncomputable def class_Has_1e53_T (N : Nat) (c0 : class_Caps_66e6_Ty) (c1 : class_Caps_Ty) (c2 : fails_May_e7e3_Ty) (c3 : fails_May_Ty) (c4 : class_May_66e6_Ty) (c5 : class_May_Ty) (c6 : class_Files_66e6_Ty) (c7 : class_Files_Ty) (w0 : class_Has_1e53_l0_Ty) {R : Type} (x0 : Int) (x1 : Int) (x2 : Int) (x3 : List ((ByteArray) × ((Bool) × (Int)))) (x4 : List (Int)) (x5 : List (List (Int))) (x6 : List (List (Int))) (x7 : List (Bool)) (k0 : (Bool) → (List ((ByteArray) × ((Bool) × (Int)))) → (List (Int)) → (List (List (Int))) → (List (List (Int))) → (List (Bool)) → Option R) : Option R :=
  c6 x0 x1 x2 x3 x4
  (fun l108 l109 l110 => c4 x0 x1 x2 l108 l109
   (fun b111 l112 l113 => br (!(!b111))
    (br (!(!(decide ((Nat.cast (List.length x5) : Int) = (Nat.cast (List.length l110) : Int)))))
     (br (!(!(decide ((Nat.cast (List.length x6) : Int) = (Nat.cast (List.length l113) : Int)))))
      (c2 x0 x1 x7
       (fun b118 l119 => br (!b118)
        (k0 false l112 l113 x5 x6 l119)
        (c0 x0 x1 x2 l112 l113
         (fun l132 l133 l134 => w0
          (fun b135 l136 l137 l138 l139 l140 => k0 b135 l136 l137 l138 l139 l140)
          (fun l141 l142 l143 l144 l145 => k0 true l141 l142 l143 l144 l145)
          N (Nat.cast (List.length l110) : Int) (Nat.cast (List.length l134) : Int) (0 : Int) l132 l133 x5 x6 l119 l134))))
      (k0 false l112 l113 x5 x6 x7))
     (k0 false l112 l113 x5 x6 x7))
    (k0 false l112 l113 x5 x6 x7)))
noncomputable def class_Has_1e53 (N : Nat) {R : Type} (x0 : Int) (x1 : Int) (x2 : Int) (x3 : List ((ByteArray) × ((Bool) × (Int)))) (x4 : List (Int)) (x5 : List (List (Int))) (x6 : List (List (Int))) (x7 : List (Bool)) (k0 : (Bool) → (List ((ByteArray) × ((Bool) × (Int)))) → (List (Int)) → (List (List (Int))) → (List (List (Int))) → (List (Bool)) → Option R) : Option R := class_Has_1e53_T N (@class_Caps_66e6 N) (@class_Caps N) (@fails_May_e7e3 N) (@fails_May N) (@class_May_66e6 N) (@class_May N) (@class_Files_66e6 N) (@class_Files N) (@class_Has_1e53_l0 N) x0 x1 x2 x3 x4 x5 x6 x7 k0
abbrev class_Has_0c40_l0_Ty : Type 1 := {R : Type} → ((Bool) → (List (List (Int))) → (List (List (Int))) → Option R) → ((List (List (Int))) → (List (List (Int))) → Option R) → Nat → (Int) → (Int) → (Int) → (List (List (Int))) → (List (List (Int))) → (List (Bool)) → (List (Int)) → Option R
abbrev class_Has_0c40_Ty : Type 1 := {R : Type} → (List ((ByteArray) × ((Bool) × (Int)))) → (List (Int)) → (Int) → (Int) → (Int) → (List (Bool)) → (List (List (Int))) → (List (List (Int))) → ((Bool) → (List (List (Int))) → (List (List (Int))) → Option R) → Option R
noncomputable def class_Has_0c40_l0_T0 (N : Nat) (c0 : class_Caps_66e6_Ty) (c1 : class_Caps_Ty) (c2 : fails_May_e7e3_Ty) (c3 : fails_May_Ty) (c4 : class_May_66e6_Ty) (c5 : class_May_Ty) (c6 : class_Files_66e6_Ty) (c7 : class_Files_Ty) {R : Type} (nx : (Int) → (Int) → (Int) → (List (List (Int))) → (List (List (Int))) → (List (Bool)) → (List (Int)) → Option R) (k0 : (Bool) → (List (List (Int))) → (List (List (Int))) → Option R) (k1 : (List (List (Int))) → (List (List (Int))) → Option R) (x0 : Int) (x1 : Int) (x2 : Int) (x3 : List (List (Int))) (x4 : List (List (Int))) (x5 : List (Bool)) (x6 : List (Int)) : Option R :=
  br (decide (x2 < x1))
  (br (inB x2 (List.length x6))
   (br (decide ((Int.toNat x2) < (List.length x6)))
    (br (decide (x2 < x0))
     (br (inB x2 (List.length x3))
      (br (decide ((Int.toNat x2) < (List.length x3)))
       (br (!(decide ((List.getD x6 (Int.toNat x2) (0 : Int)) < (Nat.cast (List.length (List.getD x3 (Int.toNat x2) (Sh.zero (.isl (.int .u8))))) : Int))))
        (br (decide (x0 ≤ x2))
         (br (inB (IntKind.wrap .i64 (x2 - x0)) (List.length x4))
          (br (decide ((Int.toNat (IntKind.wrap .i64 (x2 - x0))) < (List.length x4)))
           (br (decide ((List.getD x6 (Int.toNat x2) (0 : Int)) < (Nat.cast (List.length (List.getD x4 (Int.toNat (IntKind.wrap .i64 (x2 - x0))) (Sh.zero (.isl (.int .u8))))) : Int)))
            (k0 false x3 x4)
            (nx x0 x1 (IntKind.wrap .i64 (x2 + (1 : Int))) x3 x4 x5 x6))
           (none))
          (none))
         (nx x0 x1 (IntKind.wrap .i64 (x2 + (1 : Int))) x3 x4 x5 x6))
        (k0 false x3 x4))
       (none))
      (none))
     (br (decide (x0 ≤ x2))
      (br (inB (IntKind.wrap .i64 (x2 - x0)) (List.length x4))
       (br (decide ((Int.toNat (IntKind.wrap .i64 (x2 - x0))) < (List.length x4)))
        (br (decide ((List.getD x6 (Int.toNat x2) (0 : Int)) < (Nat.cast (List.length (List.getD x4 (Int.toNat (IntKind.wrap .i64 (x2 - x0))) (Sh.zero (.isl (.int .u8))))) : Int)))
         (k0 false x3 x4)
         (nx x0 x1 (IntKind.wrap .i64 (x2 + (1 : Int))) x3 x4 x5 x6))
        (none))
       (none))
      (nx x0 x1 (IntKind.wrap .i64 (x2 + (1 : Int))) x3 x4 x5 x6)))
    (none))
   (none))
  (k1 x3 x4)
noncomputable def class_Has_0c40_l0 (N : Nat) {R : Type} (k0 : (Bool) → (List (List (Int))) → (List (List (Int))) → Option R) (k1 : (List (List (Int))) → (List (List (Int))) → Option R) : Nat → (Int) → (Int) → (Int) → (List (List (Int))) → (List (List (Int))) → (List (Bool)) → (List (Int)) → Option R
  | 0, _, _, _, _, _, _, _ => none
  | n + 1, x0, x1, x2, x3, x4, x5, x6 => class_Has_0c40_l0_T0 N (@class_Caps_66e6 N) (@class_Caps N) (@fails_May_e7e3 N) (@fails_May N) (@class_May_66e6 N) (@class_May N) (@class_Files_66e6 N) (@class_Files N) (fun x0 x1 x2 x3 x4 x5 x6 => class_Has_0c40_l0 N k0 k1 n x0 x1 x2 x3 x4 x5 x6) k0 k1 x0 x1 x2 x3 x4 x5 x6
noncomputable def class_Has_0c40_T (N : Nat) (c0 : class_Caps_66e6_Ty) (c1 : class_Caps_Ty) (c2 : fails_May_e7e3_Ty) (c3 : fails_May_Ty) (c4 : class_May_66e6_Ty) (c5 : class_May_Ty) (c6 : class_Files_66e6_Ty) (c7 : class_Files_Ty) (w0 : class_Has_0c40_l0_Ty) {R : Type} (x0 : List ((ByteArray) × ((Bool) × (Int)))) (x1 : List (Int)) (x2 : Int) (x3 : Int) (x4 : Int) (x5 : List (Bool)) (x6 : List (List (Int))) (x7 : List (List (Int))) (k0 : (Bool) → (List (List (Int))) → (List (List (Int))) → Option R) : Option R :=
  c7 x0 x1 x2 x3 x4
  (fun l539 => c5 x0 x1 x2 x3 x4
   (fun b540 => br (!(!b540))
    (br (!(!(decide ((Nat.cast (List.length x6) : Int) = (Nat.cast (List.length l539) : Int)))))
     (br (!(!(decide ((Nat.cast (List.length x7) : Int) = (Nat.cast (List.length x1) : Int)))))
      (c3 x5 x2 x3
       (fun b545 => br (!b545)
        (k0 false x6 x7)
        (c1 x0 x1 x2 x3 x4
         (fun l554 => w0
          (fun b555 l556 l557 => k0 b555 l556 l557)
          (fun l558 l559 => k0 true l558 l559)
          N (Nat.cast (List.length l539) : Int) (Nat.cast (List.length l554) : Int) (0 : Int) x6 x7 x5 l554))))
      (k0 false x6 x7))
     (k0 false x6 x7))
    (k0 false x6 x7)))
noncomputable def class_Has_0c40 (N : Nat) {R : Type} (x0 : List ((ByteArray) × ((Bool) × (Int)))) (x1 : List (Int)) (x2 : Int) (x3 : Int) (x4 : Int) (x5 : List (Bool)) (x6 : List (List (Int))) (x7 : List (List (Int))) (k0 : (Bool) → (List (List (Int))) → (List (List (Int))) → Option R) : Option R := class_Has_0c40_T N (@class_Caps_66e6 N) (@class_Caps N) (@fails_May_e7e3 N) (@fails_May N) (@class_May_66e6 N) (@class_May N) (@class_Files_66e6 N) (@class_Files N) (@class_Has_0c40_l0 N) x0 x1 x2 x3 x4 x5 x6 x7 k0
abbrev class_Has_e92d_l0_Ty : Type 1 := {R : Type} → ((Bool) → (Nat) → (List (List (Int))) → Option R) → ((Nat) → (List (List (Int))) → Option R) → Nat → (Int) → (Int) → (Int) → (Nat) → (List (List (Int))) → (Nat) → (Nat) → (Nat) → (Nat) → (List (Bool)) → (List (Int)) → Option R
abbrev class_Has_e92d_Ty : Type 1 := {R : Type} → (List ((ByteArray) × ((Bool) × (Int)))) → (List (Int)) → (Int) → (Int) → (Int) → (Nat) → (Nat) → (Nat) → (Nat) → (List (Bool)) → (Nat) → (List (List (Int))) → ((Bool) → (Nat) → (List (List (Int))) → Option R) → Option R
noncomputable def class_Has_e92d_l0_T0 (N : Nat) (c0 : class_Caps_66e6_Ty) (c1 : class_Caps_Ty) (c2 : fails_May_e7e3_Ty) (c3 : fails_May_Ty) (c4 : class_May_66e6_Ty) (c5 : class_May_Ty) (c6 : class_Files_66e6_Ty) (c7 : class_Files_Ty) {R : Type} (nx : (Int) → (Int) → (Int) → (Nat) → (List (List (Int))) → (Nat) → (Nat) → (Nat) → (Nat) → (List (Bool)) → (List (Int)) → Option R) (k0 : (Bool) → (Nat) → (List (List (Int))) → Option R) (k1 : (Nat) → (List (List (Int))) → Option R) (x0 : Int) (x1 : Int) (x2 : Int) (x3 : Nat) (x4 : List (List (Int))) (x5 : Nat) (x6 : Nat) (x7 : Nat) (x8 : Nat) (x9 : List (Bool)) (x10 : List (Int)) : Option R :=
  br (decide (x2 < x1))
  (br (inB x2 (List.length x10))
   (br (decide ((Int.toNat x2) < (List.length x10)))
    (br (decide (x2 < x0))
     (br (inB x2 x5)
      (br (decide ((Int.toNat x2) < x3))
       (br (!(decide ((List.getD x10 (Int.toNat x2) (0 : Int)) < (Nat.cast (List.length (List.getD x4 (Int.toNat x2) (Sh.zero (.isl (.int .u8))))) : Int))))
        (br (decide (x0 ≤ x2))
         (br (inB (IntKind.wrap .i64 (x2 - x0)) x8)
          (br (decide ((Int.toNat (addLo x7 (IntKind.wrap .i64 (x2 - x0)))) < x3))
           (br (decide ((List.getD x10 (Int.toNat x2) (0 : Int)) < (Nat.cast (List.length (List.getD x4 (Int.toNat (addLo x7 (IntKind.wrap .i64 (x2 - x0)))) (Sh.zero (.isl (.int .u8))))) : Int)))
            (k0 false x3 x4)
            (nx x0 x1 (IntKind.wrap .i64 (x2 + (1 : Int))) x3 x4 x5 x6 x7 x8 x9 x10))
           (none))
          (none))
         (nx x0 x1 (IntKind.wrap .i64 (x2 + (1 : Int))) x3 x4 x5 x6 x7 x8 x9 x10))
        (k0 false x3 x4))
       (none))
      (none))
     (br (decide (x0 ≤ x2))
      (br (inB (IntKind.wrap .i64 (x2 - x0)) x8)
       (br (decide ((Int.toNat (addLo x7 (IntKind.wrap .i64 (x2 - x0)))) < x3))
        (br (decide ((List.getD x10 (Int.toNat x2) (0 : Int)) < (Nat.cast (List.length (List.getD x4 (Int.toNat (addLo x7 (IntKind.wrap .i64 (x2 - x0)))) (Sh.zero (.isl (.int .u8))))) : Int)))
         (k0 false x3 x4)
         (nx x0 x1 (IntKind.wrap .i64 (x2 + (1 : Int))) x3 x4 x5 x6 x7 x8 x9 x10))
        (none))
       (none))
      (nx x0 x1 (IntKind.wrap .i64 (x2 + (1 : Int))) x3 x4 x5 x6 x7 x8 x9 x10)))
    (none))
   (none))
  (k1 x3 x4)
noncomputable def class_Has_e92d_l0 (N : Nat) {R : Type} (k0 : (Bool) → (Nat) → (List (List (Int))) → Option R) (k1 : (Nat) → (List (List (Int))) → Option R) : Nat → (Int) → (Int) → (Int) → (Nat) → (List (List (Int))) → (Nat) → (Nat) → (Nat) → (Nat) → (List (Bool)) → (List (Int)) → Option R
  | 0, _, _, _, _, _, _, _, _, _, _, _ => none
  | n + 1, x0, x1, x2, x3, x4, x5, x6, x7, x8, x9, x10 => class_Has_e92d_l0_T0 N (@class_Caps_66e6 N) (@class_Caps N) (@fails_May_e7e3 N) (@fails_May N) (@class_May_66e6 N) (@class_May N) (@class_Files_66e6 N) (@class_Files N) (fun x0 x1 x2 x3 x4 x5 x6 x7 x8 x9 x10 => class_Has_e92d_l0 N k0 k1 n x0 x1 x2 x3 x4 x5 x6 x7 x8 x9 x10) k0 k1 x0 x1 x2 x3 x4 x5 x6 x7 x8 x9 x10
noncomputable def class_Has_e92d_T (N : Nat) (c0 : class_Caps_66e6_Ty) (c1 : class_Caps_Ty) (c2 : fails_May_e7e3_Ty) (c3 : fails_May_Ty) (c4 : class_May_66e6_Ty) (c5 : class_May_Ty) (c6 : class_Files_66e6_Ty) (c7 : class_Files_Ty) (w0 : class_Has_e92d_l0_Ty) {R : Type} (x0 : List ((ByteArray) × ((Bool) × (Int)))) (x1 : List (Int)) (x2 : Int) (x3 : Int) (x4 : Int) (x5 : Nat) (x6 : Nat) (x7 : Nat) (x8 : Nat) (x9 : List (Bool)) (x10 : Nat) (x11 : List (List (Int))) (k0 : (Bool) → (Nat) → (List (List (Int))) → Option R) : Option R :=
  c7 x0 x1 x2 x3 x4
  (fun l807 => c5 x0 x1 x2 x3 x4
   (fun b808 => br (!(!b808))
    (br (!(!(decide ((Nat.cast x5 : Int) = (Nat.cast (List.length l807) : Int)))))
     (br (!(!(decide ((Nat.cast x8 : Int) = (Nat.cast (List.length x1) : Int)))))
      (c3 x9 x2 x3
       (fun b809 => br (!b809)
        (k0 false x10 x11)
        (c1 x0 x1 x2 x3 x4
         (fun l810 => w0
          (fun b811 n812 l813 => k0 b811 n812 l813)
          (fun n814 l815 => k0 true n814 l815)
          N (Nat.cast (List.length l807) : Int) (Nat.cast (List.length l810) : Int) (0 : Int) x10 x11 x5 x6 x7 x8 x9 l810))))
      (k0 false x10 x11))
     (k0 false x10 x11))
    (k0 false x10 x11)))
noncomputable def class_Has_e92d (N : Nat) {R : Type} (x0 : List ((ByteArray) × ((Bool) × (Int)))) (x1 : List (Int)) (x2 : Int) (x3 : Int) (x4 : Int) (x5 : Nat) (x6 : Nat) (x7 : Nat) (x8 : Nat) (x9 : List (Bool)) (x10 : Nat) (x11 : List (List (Int))) (k0 : (Bool) → (Nat) → (List (List (Int))) → Option R) : Option R := class_Has_e92d_T N (@class_Caps_66e6 N) (@class_Caps N) (@fails_May_e7e3 N) (@fails_May N) (@class_May_66e6 N) (@class_May N) (@class_Files_66e6 N) (@class_Files N) (@class_Has_e92d_l0 N) x0 x1 x2 x3 x4 x5 x6 x7 x8 x9 x10 x11 k0
abbrev slices_Grow___byte__byte_06c2_Ty : Type 1 := {R : Type} → (Int) → ((List (List (Int))) → Option R) → Option R
noncomputable def slices_Grow___byte__byte_06c2_T (N : Nat) {R : Type} (x0 : Int) (k0 : (List (List (Int))) → Option R) : Option R :=
  br (decide (x0 < (0 : Int)))
  (none)
  (br (decide ((0 : Int) < (IntKind.wrap .i64 (x0 - (IntKind.wrap .i64 ((0 : Int) - (0 : Int)))))))
   (br (((decide ((0 : Int) ≤ (IntKind.wrap .i64 (x0 - (IntKind.wrap .i64 ((0 : Int) - (0 : Int))))))) && (decide (((Int.toNat (IntKind.wrap .i64 (x0 - (IntKind.wrap .i64 ((0 : Int) - (0 : Int)))))) * (24 : Nat)) ≤ (70368744177664 : Nat)))) && true)
    (br (leB (0 : Int) (Int.toNat (IntKind.wrap .i64 (x0 - (IntKind.wrap .i64 ((0 : Int) - (0 : Int)))))))
     (br (fits (0 : Nat) (0 : Nat) (List.replicate (Int.toNat (IntKind.wrap .i64 (x0 - (IntKind.wrap .i64 ((0 : Int) - (0 : Int)))))) (Sh.zero (.isl (.int .u8)))))
      (k0 (sub (List.replicate (Int.toNat (IntKind.wrap .i64 (x0 - (IntKind.wrap .i64 ((0 : Int) - (0 : Int)))))) (Sh.zero (.isl (.int .u8)))) (0 : Nat) (0 : Nat)))
      (none))
     (none))
    (none))
   (k0 ([] : List ((Sh.int IntKind.u8).isl.T))))
noncomputable def slices_Grow___byte__byte_06c2 (N : Nat) {R : Type} (x0 : Int) (k0 : (List (List (Int))) → Option R) : Option R := slices_Grow___byte__byte_06c2_T N x0 k0
abbrev slices_Concat___byte__byte_1789_l0_Ty : Type 1 := {R : Type} → ((Int) → (List (List (List (Int)))) → Option R) → Nat → (Int) → (Int) → (Int) → (List (List (List (Int)))) → Option R
abbrev slices_Concat___byte__byte_1789_l1_Ty : Type 1 := {R : Type} → ((List (List (List (Int)))) → (List (List (Int))) → Option R) → Nat → (Int) → (Int) → (List (List (List (Int)))) → (List (List (Int))) → Option R
abbrev slices_Concat___byte__byte_1789_Ty : Type 1 := {R : Type} → (List (List (List (Int)))) → ((List (List (List (Int)))) → (List (List (Int))) → Option R) → Option R
noncomputable def slices_Concat___byte__byte_1789_l0_T0 (N : Nat) (c0 : slices_Grow___byte__byte_06c2_Ty) (w1 : slices_Concat___byte__byte_1789_l1_Ty) {R : Type} (nx : (Int) → (Int) → (Int) → (List (List (List (Int)))) → Option R) (k0 : (Int) → (List (List (List (Int)))) → Option R) (x0 : Int) (x1 : Int) (x2 : Int) (x3 : List (List (List (Int)))) : Option R :=
  br (decide (x2 < x1))
  (br (inB x2 (List.length x3))
   (br (decide ((Int.toNat x2) < (List.length x3)))
    (br (decide ((IntKind.wrap .i64 (x0 + (Nat.cast (List.length (List.getD x3 (Int.toNat x2) (Sh.zero (.isl (.isl (.int .u8)))))) : Int))) < (0 : Int)))
     (none)
     (nx (IntKind.wrap .i64 (x0 + (Nat.cast (List.length (List.getD x3 (Int.toNat x2) (Sh.zero (.isl (.isl (.int .u8)))))) : Int))) x1 (IntKind.wrap .i64 (x2 + (1 : Int))) x3))
    (none))
   (none))
  (k0 x0 x3)
noncomputable def slices_Concat___byte__byte_1789_l1_T0 (N : Nat) (c0 : slices_Grow___byte__byte_06c2_Ty) {R : Type} (nx : (Int) → (Int) → (List (List (List (Int)))) → (List (List (Int))) → Option R) (k0 : (List (List (List (Int)))) → (List (List (Int))) → Option R) (x0 : Int) (x1 : Int) (x2 : List (List (List (Int)))) (x3 : List (List (Int))) : Option R :=
  br (decide (x1 < x0))
  (br (inB x1 (List.length x2))
   (br (decide ((Int.toNat x1) < (List.length x2)))
    (br (((fits (0 : Nat) (List.length x3) x3) && (decide ((((List.length x3) + (List.length (List.getD x2 (Int.toNat x1) (Sh.zero (.isl (.isl (.int .u8))))))) * (24 : Nat)) ≤ (70368744177664 : Nat)))) && true)
     (nx x0 (IntKind.wrap .i64 (x1 + (1 : Int))) x2 ((sub x3 (0 : Nat) (List.length x3)) ++ (List.getD x2 (Int.toNat x1) (Sh.zero (.isl (.isl (.int .u8)))))))
     (none))
    (none))
   (none))
  (k0 x2 x3)
noncomputable def slices_Concat___byte__byte_1789_l1 (N : Nat) {R : Type} (k0 : (List (List (List (Int)))) → (List (List (Int))) → Option R) : Nat → (Int) → (Int) → (List (List (List (Int)))) → (List (List (Int))) → Option R
  | 0, _, _, _, _ => none
  | n + 1, x0, x1, x2, x3 => slices_Concat___byte__byte_1789_l1_T0 N (@slices_Grow___byte__byte_06c2 N) (fun x0 x1 x2 x3 => slices_Concat___byte__byte_1789_l1 N k0 n x0 x1 x2 x3) k0 x0 x1 x2 x3
noncomputable def slices_Concat___byte__byte_1789_l0 (N : Nat) {R : Type} (k0 : (Int) → (List (List (List (Int)))) → Option R) : Nat → (Int) → (Int) → (Int) → (List (List (List (Int)))) → Option R
  | 0, _, _, _, _ => none
  | n + 1, x0, x1, x2, x3 => slices_Concat___byte__byte_1789_l0_T0 N (@slices_Grow___byte__byte_06c2 N) (@slices_Concat___byte__byte_1789_l1 N) (fun x0 x1 x2 x3 => slices_Concat___byte__byte_1789_l0 N k0 n x0 x1 x2 x3) k0 x0 x1 x2 x3
noncomputable def slices_Concat___byte__byte_1789_T (N : Nat) (c0 : slices_Grow___byte__byte_06c2_Ty) (w0 : slices_Concat___byte__byte_1789_l0_Ty) (w1 : slices_Concat___byte__byte_1789_l1_Ty) {R : Type} (x0 : List (List (List (Int)))) (k0 : (List (List (List (Int)))) → (List (List (Int))) → Option R) : Option R :=
  w0
  (fun i152 l153 => c0 i152
   (fun l154 => w1
    (fun l155 l156 => k0 l155 l156)
    N (Nat.cast (List.length l153) : Int) (0 : Int) l153 l154))
  N (0 : Int) (Nat.cast (List.length x0) : Int) (0 : Int) x0
noncomputable def slices_Concat___byte__byte_1789 (N : Nat) {R : Type} (x0 : List (List (List (Int)))) (k0 : (List (List (List (Int)))) → (List (List (Int))) → Option R) : Option R := slices_Concat___byte__byte_1789_T N (@slices_Grow___byte__byte_06c2 N) (@slices_Concat___byte__byte_1789_l0 N) (@slices_Concat___byte__byte_1789_l1 N) x0 k0
abbrev cast_Env_727c_l0_Ty : Type 1 := {R : Type} → ((List ((ByteArray) × ((Bool) × (Int)))) → (List (Int)) → (List (List (Int))) → (List (Bool)) → (List (List (Int))) → (List (Int)) → Option R) → Nat → (Int) → (Int) → (List ((ByteArray) × ((Bool) × (Int)))) → (List (Int)) → (List (List (Int))) → (List (Bool)) → (Int) → (Int) → (Int) → (List (List (Int))) → (List (Int)) → (List (List (Int))) → Option R
abbrev cast_Env_727c_l1_Ty : Type 1 := {R : Type} → ((Int) → (Int) → (List ((ByteArray) × ((Bool) × (Int)))) → (List (Int)) → (List (List (Int))) → (List (Bool)) → (Int) → (Int) → (Int) → (List (List (Int))) → (List (Int)) → (List (List (Int))) → Option R) → Nat → (List (Int)) → (Int) → (Int) → (Int) → (Int) → (List ((ByteArray) × ((Bool) × (Int)))) → (List (Int)) → (List (List (Int))) → (List (Bool)) → (Int) → (Int) → (Int) → (List (List (Int))) → (List (Int)) → (List (List (Int))) → Option R
abbrev cast_Env_727c_l2_Ty : Type 1 := {R : Type} → ((List ((ByteArray) × ((Bool) × (Int)))) → (List (Int)) → (List (List (Int))) → (List (Bool)) → (List (Int)) → Option R) → Nat → (Int) → (Int) → (List ((ByteArray) × ((Bool) × (Int)))) → (List (Int)) → (List (List (Int))) → (List (Bool)) → (List (Int)) → Option R
abbrev cast_Env_727c_Ty : Type 1 := {R : Type} → (Int) → (Int) → (Int) → (List ((ByteArray) × ((Bool) × (Int)))) → (List (Int)) → (List (List (Int))) → (List (Bool)) → ((Int) → (List ((ByteArray) × ((Bool) × (Int)))) → (List (Int)) → (List (List (Int))) → (List (Bool)) → (List (Int)) → Option R) → ((Int) → (List ((ByteArray) × ((Bool) × (Int)))) → (List (Int)) → (List (List (Int))) → (List (Bool)) → (List (Int)) → Option R) → Option R
noncomputable def cast_Env_727c_l0_T0 (N : Nat) (c0 : class_Caps_66e6_Ty) (c1 : class_Caps_Ty) (c2 : slices_Concat___byte__byte_1789_Ty) (c3 : class_Has_1e53_Ty) (c4 : class_Has_0c40_Ty) (c5 : class_Has_e92d_Ty) (c6 : class_May_66e6_Ty) (c7 : class_May_Ty) (w1 : cast_Env_727c_l1_Ty) (w2 : cast_Env_727c_l2_Ty) {R : Type} (nx : (Int) → (Int) → (List ((ByteArray) × ((Bool) × (Int)))) → (List (Int)) → (List (List (Int))) → (List (Bool)) → (Int) → (Int) → (Int) → (List (List (Int))) → (List (Int)) → (List (List (Int))) → Option R) (k0 : (List ((ByteArray) × ((Bool) × (Int)))) → (List (Int)) → (List (List (Int))) → (List (Bool)) → (List (List (Int))) → (List (Int)) → Option R) (x0 : Int) (x1 : Int) (x2 : List ((ByteArray) × ((Bool) × (Int)))) (x3 : List (Int)) (x4 : List (List (Int))) (x5 : List (Bool)) (x6 : Int) (x7 : Int) (x8 : Int) (x9 : List (List (Int))) (x10 : List (Int)) (x11 : List (List (Int))) : Option R :=
  br (decide (x1 < x0))
  (br (inB x1 (List.length x11))
   (br (decide ((Int.toNat x1) < (List.length x11)))
    (br (((fits (0 : Nat) (List.length x10) x10) && (decide ((((List.length x10) + (1 : Nat)) * (2 : Nat)) ≤ (70368744177664 : Nat)))) && true)
     (c0 x6 x7 x8 x2 x3
      (fun l222 l223 l224 => br (inB x1 (List.length l224))
       (br (decide ((Int.toNat x1) < (List.length l224)))
        (w1
         (fun i225 i226 l227 l228 l229 l230 i231 i232 i233 l234 l235 l236 => nx i225 (IntKind.wrap .i64 (i226 + (1 : Int))) l227 l228 l229 l230 i231 i232 i233 l234 l235 l236)
         N (List.getD x11 (Int.toNat x1) (Sh.zero (.isl (.int .u8)))) x0 x1 (List.getD l224 (Int.toNat x1) (0 : Int)) (0 : Int) l222 l223 x4 x5 x6 x7 x8 x9 ((sub x10 (0 : Nat) (List.length x10)) ++ ((IntKind.wrap .u16 (Nat.cast (List.length (List.getD x11 (Int.toNat x1) (Sh.zero (.isl (.int .u8))))) : Int)) :: ([] : List ((Sh.int IntKind.u16).T)))) x11)
        (none))
       (none)))
     (none))
    (none))
   (none))
  (k0 x2 x3 x4 x5 x9 x10)
noncomputable def cast_Env_727c_l1_T0 (N : Nat) (c0 : class_Caps_66e6_Ty) (c1 : class_Caps_Ty) (c2 : slices_Concat___byte__byte_1789_Ty) (c3 : class_Has_1e53_Ty) (c4 : class_Has_0c40_Ty) (c5 : class_Has_e92d_Ty) (c6 : class_May_66e6_Ty) (c7 : class_May_Ty) (w2 : cast_Env_727c_l2_Ty) {R : Type} (nx : (List (Int)) → (Int) → (Int) → (Int) → (Int) → (List ((ByteArray) × ((Bool) × (Int)))) → (List (Int)) → (List (List (Int))) → (List (Bool)) → (Int) → (Int) → (Int) → (List (List (Int))) → (List (Int)) → (List (List (Int))) → Option R) (k0 : (Int) → (Int) → (List ((ByteArray) × ((Bool) × (Int)))) → (List (Int)) → (List (List (Int))) → (List (Bool)) → (Int) → (Int) → (Int) → (List (List (Int))) → (List (Int)) → (List (List (Int))) → Option R) (x0 : List (Int)) (x1 : Int) (x2 : Int) (x3 : Int) (x4 : Int) (x5 : List ((ByteArray) × ((Bool) × (Int)))) (x6 : List (Int)) (x7 : List (List (Int))) (x8 : List (Bool)) (x9 : Int) (x10 : Int) (x11 : Int) (x12 : List (List (Int))) (x13 : List (Int)) (x14 : List (List (Int))) : Option R :=
  br (decide (x4 < x3))
  (br (decide (x4 < (Nat.cast (List.length x0) : Int)))
   (br (inB x4 (List.length x0))
    (br (((fits (0 : Nat) (List.length x13) x13) && (decide ((((List.length x13) + (1 : Nat)) * (2 : Nat)) ≤ (70368744177664 : Nat)))) && true)
     (nx x0 x1 x2 x3 (IntKind.wrap .i64 (x4 + (1 : Int))) x5 x6 x7 x8 x9 x10 x11 x12 ((sub x13 (0 : Nat) (List.length x13)) ++ ((IntKind.wrap .u16 (List.getD x0 (Int.toNat x4) (0 : Int))) :: ([] : List ((Sh.int IntKind.u16).T)))) x14)
     (none))
    (none))
   (br (((fits (0 : Nat) (List.length x13) x13) && (decide ((((List.length x13) + (1 : Nat)) * (2 : Nat)) ≤ (70368744177664 : Nat)))) && true)
    (nx x0 x1 x2 x3 (IntKind.wrap .i64 (x4 + (1 : Int))) x5 x6 x7 x8 x9 x10 x11 x12 ((sub x13 (0 : Nat) (List.length x13)) ++ ((IntKind.wrap .u16 (0 : Int)) :: ([] : List ((Sh.int IntKind.u16).T)))) x14)
    (none)))
  (k0 x1 x2 x5 x6 x7 x8 x9 x10 x11 x12 x13 x14)
noncomputable def cast_Env_727c_l2_T0 (N : Nat) (c0 : class_Caps_66e6_Ty) (c1 : class_Caps_Ty) (c2 : slices_Concat___byte__byte_1789_Ty) (c3 : class_Has_1e53_Ty) (c4 : class_Has_0c40_Ty) (c5 : class_Has_e92d_Ty) (c6 : class_May_66e6_Ty) (c7 : class_May_Ty) {R : Type} (nx : (Int) → (Int) → (List ((ByteArray) × ((Bool) × (Int)))) → (List (Int)) → (List (List (Int))) → (List (Bool)) → (List (Int)) → Option R) (k0 : (List ((ByteArray) × ((Bool) × (Int)))) → (List (Int)) → (List (List (Int))) → (List (Bool)) → (List (Int)) → Option R) (x0 : Int) (x1 : Int) (x2 : List ((ByteArray) × ((Bool) × (Int)))) (x3 : List (Int)) (x4 : List (List (Int))) (x5 : List (Bool)) (x6 : List (Int)) : Option R :=
  br (decide (x1 < x0))
  (br (inB x1 (List.length x5))
   (br (decide ((Int.toNat x1) < (List.length x5)))
    (br (List.getD x5 (Int.toNat x1) false)
     (br (((fits (0 : Nat) (List.length x6) x6) && (decide ((((List.length x6) + (1 : Nat)) * (2 : Nat)) ≤ (70368744177664 : Nat)))) && true)
      (nx x0 (IntKind.wrap .i64 (x1 + (1 : Int))) x2 x3 x4 x5 ((sub x6 (0 : Nat) (List.length x6)) ++ ((1 : Int) :: ([] : List ((Sh.int IntKind.u16).T)))))
      (none))
     (br (((fits (0 : Nat) (List.length x6) x6) && (decide ((((List.length x6) + (1 : Nat)) * (2 : Nat)) ≤ (70368744177664 : Nat)))) && true)
      (nx x0 (IntKind.wrap .i64 (x1 + (1 : Int))) x2 x3 x4 x5 ((sub x6 (0 : Nat) (List.length x6)) ++ ((0 : Int) :: ([] : List ((Sh.int IntKind.u16).T)))))
      (none)))
    (none))
   (none))
  (k0 x2 x3 x4 x5 x6)
noncomputable def cast_Env_727c_l2 (N : Nat) {R : Type} (k0 : (List ((ByteArray) × ((Bool) × (Int)))) → (List (Int)) → (List (List (Int))) → (List (Bool)) → (List (Int)) → Option R) : Nat → (Int) → (Int) → (List ((ByteArray) × ((Bool) × (Int)))) → (List (Int)) → (List (List (Int))) → (List (Bool)) → (List (Int)) → Option R
  | 0, _, _, _, _, _, _, _ => none
  | n + 1, x0, x1, x2, x3, x4, x5, x6 => cast_Env_727c_l2_T0 N (@class_Caps_66e6 N) (@class_Caps N) (@slices_Concat___byte__byte_1789 N) (@class_Has_1e53 N) (@class_Has_0c40 N) (@class_Has_e92d N) (@class_May_66e6 N) (@class_May N) (fun x0 x1 x2 x3 x4 x5 x6 => cast_Env_727c_l2 N k0 n x0 x1 x2 x3 x4 x5 x6) k0 x0 x1 x2 x3 x4 x5 x6
noncomputable def cast_Env_727c_l1 (N : Nat) {R : Type} (k0 : (Int) → (Int) → (List ((ByteArray) × ((Bool) × (Int)))) → (List (Int)) → (List (List (Int))) → (List (Bool)) → (Int) → (Int) → (Int) → (List (List (Int))) → (List (Int)) → (List (List (Int))) → Option R) : Nat → (List (Int)) → (Int) → (Int) → (Int) → (Int) → (List ((ByteArray) × ((Bool) × (Int)))) → (List (Int)) → (List (List (Int))) → (List (Bool)) → (Int) → (Int) → (Int) → (List (List (Int))) → (List (Int)) → (List (List (Int))) → Option R
  | 0, _, _, _, _, _, _, _, _, _, _, _, _, _, _, _ => none
  | n + 1, x0, x1, x2, x3, x4, x5, x6, x7, x8, x9, x10, x11, x12, x13, x14 => cast_Env_727c_l1_T0 N (@class_Caps_66e6 N) (@class_Caps N) (@slices_Concat___byte__byte_1789 N) (@class_Has_1e53 N) (@class_Has_0c40 N) (@class_Has_e92d N) (@class_May_66e6 N) (@class_May N) (@cast_Env_727c_l2 N) (fun x0 x1 x2 x3 x4 x5 x6 x7 x8 x9 x10 x11 x12 x13 x14 => cast_Env_727c_l1 N k0 n x0 x1 x2 x3 x4 x5 x6 x7 x8 x9 x10 x11 x12 x13 x14) k0 x0 x1 x2 x3 x4 x5 x6 x7 x8 x9 x10 x11 x12 x13 x14
noncomputable def cast_Env_727c_l0 (N : Nat) {R : Type} (k0 : (List ((ByteArray) × ((Bool) × (Int)))) → (List (Int)) → (List (List (Int))) → (List (Bool)) → (List (List (Int))) → (List (Int)) → Option R) : Nat → (Int) → (Int) → (List ((ByteArray) × ((Bool) × (Int)))) → (List (Int)) → (List (List (Int))) → (List (Bool)) → (Int) → (Int) → (Int) → (List (List (Int))) → (List (Int)) → (List (List (Int))) → Option R
  | 0, _, _, _, _, _, _, _, _, _, _, _, _ => none
  | n + 1, x0, x1, x2, x3, x4, x5, x6, x7, x8, x9, x10, x11 => cast_Env_727c_l0_T0 N (@class_Caps_66e6 N) (@class_Caps N) (@slices_Concat___byte__byte_1789 N) (@class_Has_1e53 N) (@class_Has_0c40 N) (@class_Has_e92d N) (@class_May_66e6 N) (@class_May N) (@cast_Env_727c_l1 N) (@cast_Env_727c_l2 N) (fun x0 x1 x2 x3 x4 x5 x6 x7 x8 x9 x10 x11 => cast_Env_727c_l0 N k0 n x0 x1 x2 x3 x4 x5 x6 x7 x8 x9 x10 x11) k0 x0 x1 x2 x3 x4 x5 x6 x7 x8 x9 x10 x11
noncomputable def cast_Env_727c_T (N : Nat) (c0 : class_Caps_66e6_Ty) (c1 : class_Caps_Ty) (c2 : slices_Concat___byte__byte_1789_Ty) (c3 : class_Has_1e53_Ty) (c4 : class_Has_0c40_Ty) (c5 : class_Has_e92d_Ty) (c6 : class_May_66e6_Ty) (c7 : class_May_Ty) (w0 : cast_Env_727c_l0_Ty) (w1 : cast_Env_727c_l1_Ty) (w2 : cast_Env_727c_l2_Ty) {R : Type} (x0 : Int) (x1 : Int) (x2 : Int) (x3 : List ((ByteArray) × ((Bool) × (Int)))) (x4 : List (Int)) (x5 : List (List (Int))) (x6 : List (Bool)) (k0 : (Int) → (List ((ByteArray) × ((Bool) × (Int)))) → (List (Int)) → (List (List (Int))) → (List (Bool)) → (List (Int)) → Option R) (k1 : (Int) → (List ((ByteArray) × ((Bool) × (Int)))) → (List (Int)) → (List (List (Int))) → (List (Bool)) → (List (Int)) → Option R) : Option R :=
  c6 x0 x1 x2 x3 x4
  (fun b211 l212 l213 => br (!b211)
   (k0 (11 : Int) l212 l213 x5 x6 ([] : List ((Sh.int IntKind.u16).T)))
   (c3 x0 x1 x2 l212 l213 x5 ([] : List ((Sh.int IntKind.u8).isl.T)) x6
    (fun b214 l215 l216 l217 l218 l219 => br (!b214)
     (k0 (12 : Int) l215 l216 l217 l219 ([] : List ((Sh.int IntKind.u16).T)))
     (br (fits (0 : Nat) (List.length l217) l217)
      (br (fits (0 : Nat) (List.length l218) l218)
       (c2 ((sub l217 (0 : Nat) (List.length l217)) :: ((sub l218 (0 : Nat) (List.length l218)) :: ([] : List ((Sh.int IntKind.u8).isl.isl.T))))
        (fun l220 l221 => w0
         (fun l237 l238 l239 l240 l241 l242 => w2
          (fun l243 l244 l245 l246 l247 => k1 (0 : Int) l243 l244 l245 l246 l247)
          N (Nat.cast (List.length l240) : Int) (0 : Int) l237 l238 l239 l240 l242)
         N (Nat.cast (List.length l221) : Int) (0 : Int) l215 l216 l217 l219 x0 x1 x2 l218 ([] : List ((Sh.int IntKind.u16).T)) l221))
       (none))
      (none)))))
noncomputable def cast_Env_727c (N : Nat) {R : Type} (x0 : Int) (x1 : Int) (x2 : Int) (x3 : List ((ByteArray) × ((Bool) × (Int)))) (x4 : List (Int)) (x5 : List (List (Int))) (x6 : List (Bool)) (k0 : (Int) → (List ((ByteArray) × ((Bool) × (Int)))) → (List (Int)) → (List (List (Int))) → (List (Bool)) → (List (Int)) → Option R) (k1 : (Int) → (List ((ByteArray) × ((Bool) × (Int)))) → (List (Int)) → (List (List (Int))) → (List (Bool)) → (List (Int)) → Option R) : Option R := cast_Env_727c_T N (@class_Caps_66e6 N) (@class_Caps N) (@slices_Concat___byte__byte_1789 N) (@class_Has_1e53 N) (@class_Has_0c40 N) (@class_Has_e92d N) (@class_May_66e6 N) (@class_May N) (@cast_Env_727c_l0 N) (@cast_Env_727c_l1 N) (@cast_Env_727c_l2 N) x0 x1 x2 x3 x4 x5 x6 k0 k1
abbrev cast_Env_0c40_l0_Ty : Type 1 := {R : Type} → ((List (List (Int))) → (List (List (Int))) → (List (Bool)) → (List (Int)) → Option R) → Nat → (Int) → (Int) → (List (List (Int))) → (List (List (Int))) → (List ((ByteArray) × ((Bool) × (Int)))) → (List (Int)) → (Int) → (Int) → (Int) → (List (Bool)) → (List (Int)) → (List (List (Int))) → Option R
abbrev cast_Env_0c40_l1_Ty : Type 1 := {R : Type} → ((Int) → (Int) → (List (List (Int))) → (List (List (Int))) → (List ((ByteArray) × ((Bool) × (Int)))) → (List (Int)) → (Int) → (Int) → (Int) → (List (Bool)) → (List (Int)) → (List (List (Int))) → Option R) → Nat → (List (Int)) → (Int) → (Int) → (Int) → (Int) → (List (List (Int))) → (List (List (Int))) → (List ((ByteArray) × ((Bool) × (Int)))) → (List (Int)) → (Int) → (Int) → (Int) → (List (Bool)) → (List (Int)) → (List (List (Int))) → Option R
abbrev cast_Env_0c40_l2_Ty : Type 1 := {R : Type} → ((List (List (Int))) → (List (List (Int))) → (List (Int)) → Option R) → Nat → (List (Bool)) → (Int) → (Int) → (List (List (Int))) → (List (List (Int))) → (List (Int)) → Option R
abbrev cast_Env_0c40_Ty : Type 1 := {R : Type} → (List ((ByteArray) × ((Bool) × (Int)))) → (List (Int)) → (Int) → (Int) → (Int) → (List (Bool)) → (List (List (Int))) → (List (List (Int))) → ((Int) → (List (List (Int))) → (List (List (Int))) → (List (Int)) → Option R) → ((Int) → (List (List (Int))) → (List (List (Int))) → (List (Int)) → Option R) → Option R
noncomputable def cast_Env_0c40_l0_T0 (N : Nat) (c0 : class_Caps_66e6_Ty) (c1 : class_Caps_Ty) (c2 : slices_Concat___byte__byte_1789_Ty) (c3 : class_Has_1e53_Ty) (c4 : class_Has_0c40_Ty) (c5 : class_Has_e92d_Ty) (c6 : class_May_66e6_Ty) (c7 : class_May_Ty) (w1 : cast_Env_0c40_l1_Ty) (w2 : cast_Env_0c40_l2_Ty) {R : Type} (nx : (Int) → (Int) → (List (List (Int))) → (List (List (Int))) → (List ((ByteArray) × ((Bool) × (Int)))) → (List (Int)) → (Int) → (Int) → (Int) → (List (Bool)) → (List (Int)) → (List (List (Int))) → Option R) (k0 : (List (List (Int))) → (List (List (Int))) → (List (Bool)) → (List (Int)) → Option R) (x0 : Int) (x1 : Int) (x2 : List (List (Int))) (x3 : List (List (Int))) (x4 : List ((ByteArray) × ((Bool) × (Int)))) (x5 : List (Int)) (x6 : Int) (x7 : Int) (x8 : Int) (x9 : List (Bool)) (x10 : List (Int)) (x11 : List (List (Int))) : Option R :=
  br (decide (x1 < x0))
  (br (inB x1 (List.length x11))
   (br (decide ((Int.toNat x1) < (List.length x11)))
    (br (((fits (0 : Nat) (List.length x10) x10) && (decide ((((List.length x10) + (1 : Nat)) * (2 : Nat)) ≤ (70368744177664 : Nat)))) && true)
     (c1 x4 x5 x6 x7 x8
      (fun l610 => br (inB x1 (List.length l610))
       (br (decide ((Int.toNat x1) < (List.length l610)))
        (w1
         (fun i611 i612 l613 l614 l615 l616 i617 i618 i619 l620 l621 l622 => nx i611 (IntKind.wrap .i64 (i612 + (1 : Int))) l613 l614 l615 l616 i617 i618 i619 l620 l621 l622)
         N (List.getD x11 (Int.toNat x1) (Sh.zero (.isl (.int .u8)))) x0 x1 (List.getD l610 (Int.toNat x1) (0 : Int)) (0 : Int) x2 x3 x4 x5 x6 x7 x8 x9 ((sub x10 (0 : Nat) (List.length x10)) ++ ((IntKind.wrap .u16 (Nat.cast (List.length (List.getD x11 (Int.toNat x1) (Sh.zero (.isl (.int .u8))))) : Int)) :: ([] : List ((Sh.int IntKind.u16).T)))) x11)
        (none))
       (none)))
     (none))
    (none))
   (none))
  (k0 x2 x3 x9 x10)
noncomputable def cast_Env_0c40_l1_T0 (N : Nat) (c0 : class_Caps_66e6_Ty) (c1 : class_Caps_Ty) (c2 : slices_Concat___byte__byte_1789_Ty) (c3 : class_Has_1e53_Ty) (c4 : class_Has_0c40_Ty) (c5 : class_Has_e92d_Ty) (c6 : class_May_66e6_Ty) (c7 : class_May_Ty) (w2 : cast_Env_0c40_l2_Ty) {R : Type} (nx : (List (Int)) → (Int) → (Int) → (Int) → (Int) → (List (List (Int))) → (List (List (Int))) → (List ((ByteArray) × ((Bool) × (Int)))) → (List (Int)) → (Int) → (Int) → (Int) → (List (Bool)) → (List (Int)) → (List (List (Int))) → Option R) (k0 : (Int) → (Int) → (List (List (Int))) → (List (List (Int))) → (List ((ByteArray) × ((Bool) × (Int)))) → (List (Int)) → (Int) → (Int) → (Int) → (List (Bool)) → (List (Int)) → (List (List (Int))) → Option R) (x0 : List (Int)) (x1 : Int) (x2 : Int) (x3 : Int) (x4 : Int) (x5 : List (List (Int))) (x6 : List (List (Int))) (x7 : List ((ByteArray) × ((Bool) × (Int)))) (x8 : List (Int)) (x9 : Int) (x10 : Int) (x11 : Int) (x12 : List (Bool)) (x13 : List (Int)) (x14 : List (List (Int))) : Option R :=
  br (decide (x4 < x3))
  (br (decide (x4 < (Nat.cast (List.length x0) : Int)))
   (br (inB x4 (List.length x0))
    (br (((fits (0 : Nat) (List.length x13) x13) && (decide ((((List.length x13) + (1 : Nat)) * (2 : Nat)) ≤ (70368744177664 : Nat)))) && true)
     (nx x0 x1 x2 x3 (IntKind.wrap .i64 (x4 + (1 : Int))) x5 x6 x7 x8 x9 x10 x11 x12 ((sub x13 (0 : Nat) (List.length x13)) ++ ((IntKind.wrap .u16 (List.getD x0 (Int.toNat x4) (0 : Int))) :: ([] : List ((Sh.int IntKind.u16).T)))) x14)
     (none))
    (none))
   (br (((fits (0 : Nat) (List.length x13) x13) && (decide ((((List.length x13) + (1 : Nat)) * (2 : Nat)) ≤ (70368744177664 : Nat)))) && true)
    (nx x0 x1 x2 x3 (IntKind.wrap .i64 (x4 + (1 : Int))) x5 x6 x7 x8 x9 x10 x11 x12 ((sub x13 (0 : Nat) (List.length x13)) ++ ((IntKind.wrap .u16 (0 : Int)) :: ([] : List ((Sh.int IntKind.u16).T)))) x14)
    (none)))
  (k0 x1 x2 x5 x6 x7 x8 x9 x10 x11 x12 x13 x14)
noncomputable def cast_Env_0c40_l2_T0 (N : Nat) (c0 : class_Caps_66e6_Ty) (c1 : class_Caps_Ty) (c2 : slices_Concat___byte__byte_1789_Ty) (c3 : class_Has_1e53_Ty) (c4 : class_Has_0c40_Ty) (c5 : class_Has_e92d_Ty) (c6 : class_May_66e6_Ty) (c7 : class_May_Ty) {R : Type} (nx : (List (Bool)) → (Int) → (Int) → (List (List (Int))) → (List (List (Int))) → (List (Int)) → Option R) (k0 : (List (List (Int))) → (List (List (Int))) → (List (Int)) → Option R) (x0 : List (Bool)) (x1 : Int) (x2 : Int) (x3 : List (List (Int))) (x4 : List (List (Int))) (x5 : List (Int)) : Option R :=
  br (decide (x2 < x1))
  (br (inB x2 (List.length x0))
   (br (List.getD x0 (Int.toNat x2) false)
    (br (((fits (0 : Nat) (List.length x5) x5) && (decide ((((List.length x5) + (1 : Nat)) * (2 : Nat)) ≤ (70368744177664 : Nat)))) && true)
     (nx x0 x1 (IntKind.wrap .i64 (x2 + (1 : Int))) x3 x4 ((sub x5 (0 : Nat) (List.length x5)) ++ ((1 : Int) :: ([] : List ((Sh.int IntKind.u16).T)))))
     (none))
    (br (((fits (0 : Nat) (List.length x5) x5) && (decide ((((List.length x5) + (1 : Nat)) * (2 : Nat)) ≤ (70368744177664 : Nat)))) && true)
     (nx x0 x1 (IntKind.wrap .i64 (x2 + (1 : Int))) x3 x4 ((sub x5 (0 : Nat) (List.length x5)) ++ ((0 : Int) :: ([] : List ((Sh.int IntKind.u16).T)))))
     (none)))
   (none))
  (k0 x3 x4 x5)
noncomputable def cast_Env_0c40_l2 (N : Nat) {R : Type} (k0 : (List (List (Int))) → (List (List (Int))) → (List (Int)) → Option R) : Nat → (List (Bool)) → (Int) → (Int) → (List (List (Int))) → (List (List (Int))) → (List (Int)) → Option R
  | 0, _, _, _, _, _, _ => none
  | n + 1, x0, x1, x2, x3, x4, x5 => cast_Env_0c40_l2_T0 N (@class_Caps_66e6 N) (@class_Caps N) (@slices_Concat___byte__byte_1789 N) (@class_Has_1e53 N) (@class_Has_0c40 N) (@class_Has_e92d N) (@class_May_66e6 N) (@class_May N) (fun x0 x1 x2 x3 x4 x5 => cast_Env_0c40_l2 N k0 n x0 x1 x2 x3 x4 x5) k0 x0 x1 x2 x3 x4 x5
noncomputable def cast_Env_0c40_l1 (N : Nat) {R : Type} (k0 : (Int) → (Int) → (List (List (Int))) → (List (List (Int))) → (List ((ByteArray) × ((Bool) × (Int)))) → (List (Int)) → (Int) → (Int) → (Int) → (List (Bool)) → (List (Int)) → (List (List (Int))) → Option R) : Nat → (List (Int)) → (Int) → (Int) → (Int) → (Int) → (List (List (Int))) → (List (List (Int))) → (List ((ByteArray) × ((Bool) × (Int)))) → (List (Int)) → (Int) → (Int) → (Int) → (List (Bool)) → (List (Int)) → (List (List (Int))) → Option R
  | 0, _, _, _, _, _, _, _, _, _, _, _, _, _, _, _ => none
  | n + 1, x0, x1, x2, x3, x4, x5, x6, x7, x8, x9, x10, x11, x12, x13, x14 => cast_Env_0c40_l1_T0 N (@class_Caps_66e6 N) (@class_Caps N) (@slices_Concat___byte__byte_1789 N) (@class_Has_1e53 N) (@class_Has_0c40 N) (@class_Has_e92d N) (@class_May_66e6 N) (@class_May N) (@cast_Env_0c40_l2 N) (fun x0 x1 x2 x3 x4 x5 x6 x7 x8 x9 x10 x11 x12 x13 x14 => cast_Env_0c40_l1 N k0 n x0 x1 x2 x3 x4 x5 x6 x7 x8 x9 x10 x11 x12 x13 x14) k0 x0 x1 x2 x3 x4 x5 x6 x7 x8 x9 x10 x11 x12 x13 x14
noncomputable def cast_Env_0c40_l0 (N : Nat) {R : Type} (k0 : (List (List (Int))) → (List (List (Int))) → (List (Bool)) → (List (Int)) → Option R) : Nat → (Int) → (Int) → (List (List (Int))) → (List (List (Int))) → (List ((ByteArray) × ((Bool) × (Int)))) → (List (Int)) → (Int) → (Int) → (Int) → (List (Bool)) → (List (Int)) → (List (List (Int))) → Option R
  | 0, _, _, _, _, _, _, _, _, _, _, _, _ => none
  | n + 1, x0, x1, x2, x3, x4, x5, x6, x7, x8, x9, x10, x11 => cast_Env_0c40_l0_T0 N (@class_Caps_66e6 N) (@class_Caps N) (@slices_Concat___byte__byte_1789 N) (@class_Has_1e53 N) (@class_Has_0c40 N) (@class_Has_e92d N) (@class_May_66e6 N) (@class_May N) (@cast_Env_0c40_l1 N) (@cast_Env_0c40_l2 N) (fun x0 x1 x2 x3 x4 x5 x6 x7 x8 x9 x10 x11 => cast_Env_0c40_l0 N k0 n x0 x1 x2 x3 x4 x5 x6 x7 x8 x9 x10 x11) k0 x0 x1 x2 x3 x4 x5 x6 x7 x8 x9 x10 x11
noncomputable def cast_Env_0c40_T (N : Nat) (c0 : class_Caps_66e6_Ty) (c1 : class_Caps_Ty) (c2 : slices_Concat___byte__byte_1789_Ty) (c3 : class_Has_1e53_Ty) (c4 : class_Has_0c40_Ty) (c5 : class_Has_e92d_Ty) (c6 : class_May_66e6_Ty) (c7 : class_May_Ty) (w0 : cast_Env_0c40_l0_Ty) (w1 : cast_Env_0c40_l1_Ty) (w2 : cast_Env_0c40_l2_Ty) {R : Type} (x0 : List ((ByteArray) × ((Bool) × (Int)))) (x1 : List (Int)) (x2 : Int) (x3 : Int) (x4 : Int) (x5 : List (Bool)) (x6 : List (List (Int))) (x7 : List (List (Int))) (k0 : (Int) → (List (List (Int))) → (List (List (Int))) → (List (Int)) → Option R) (k1 : (Int) → (List (List (Int))) → (List (List (Int))) → (List (Int)) → Option R) : Option R :=
  c7 x0 x1 x2 x3 x4
  (fun b604 => br (!b604)
   (k0 (11 : Int) x6 x7 ([] : List ((Sh.int IntKind.u16).T)))
   (c4 x0 x1 x2 x3 x4 x5 x6 x7
    (fun b605 l606 l607 => br (!b605)
     (k0 (12 : Int) l606 l607 ([] : List ((Sh.int IntKind.u16).T)))
     (br (fits (0 : Nat) (List.length l606) l606)
      (br (fits (0 : Nat) (List.length l607) l607)
       (c2 ((sub l606 (0 : Nat) (List.length l606)) :: ((sub l607 (0 : Nat) (List.length l607)) :: ([] : List ((Sh.int IntKind.u8).isl.isl.T))))
        (fun l608 l609 => w0
         (fun l623 l624 l625 l626 => w2
          (fun l627 l628 l629 => k1 (0 : Int) l627 l628 l629)
          N l625 (Nat.cast (List.length l625) : Int) (0 : Int) l623 l624 l626)
         N (Nat.cast (List.length l609) : Int) (0 : Int) l606 l607 x0 x1 x2 x3 x4 x5 ([] : List ((Sh.int IntKind.u16).T)) l609))
       (none))
      (none)))))
noncomputable def cast_Env_0c40 (N : Nat) {R : Type} (x0 : List ((ByteArray) × ((Bool) × (Int)))) (x1 : List (Int)) (x2 : Int) (x3 : Int) (x4 : Int) (x5 : List (Bool)) (x6 : List (List (Int))) (x7 : List (List (Int))) (k0 : (Int) → (List (List (Int))) → (List (List (Int))) → (List (Int)) → Option R) (k1 : (Int) → (List (List (Int))) → (List (List (Int))) → (List (Int)) → Option R) : Option R := cast_Env_0c40_T N (@class_Caps_66e6 N) (@class_Caps N) (@slices_Concat___byte__byte_1789 N) (@class_Has_1e53 N) (@class_Has_0c40 N) (@class_Has_e92d N) (@class_May_66e6 N) (@class_May N) (@cast_Env_0c40_l0 N) (@cast_Env_0c40_l1 N) (@cast_Env_0c40_l2 N) x0 x1 x2 x3 x4 x5 x6 x7 k0 k1
abbrev cast_Env_e92d_l0_Ty : Type 1 := {R : Type} → ((List (List (Int))) → (Nat) → (Nat) → (Nat) → (Nat) → (List (Bool)) → (List (Int)) → Option R) → Nat → (Int) → (Int) → (List (List (Int))) → (List ((ByteArray) × ((Bool) × (Int)))) → (List (Int)) → (Int) → (Int) → (Int) → (Nat) → (Nat) → (Nat) → (Nat) → (List (Bool)) → (List (Int)) → (List (List (Int))) → Option R
abbrev cast_Env_e92d_l1_Ty : Type 1 := {R : Type} → ((Int) → (Int) → (List (List (Int))) → (List ((ByteArray) × ((Bool) × (Int)))) → (List (Int)) → (Int) → (Int) → (Int) → (Nat) → (Nat) → (Nat) → (Nat) → (List (Bool)) → (List (Int)) → (List (List (Int))) → Option R) → Nat → (List (Int)) → (Int) → (Int) → (Int) → (Int) → (List (List (Int))) → (List ((ByteArray) × ((Bool) × (Int)))) → (List (Int)) → (Int) → (Int) → (Int) → (Nat) → (Nat) → (Nat) → (Nat) → (List (Bool)) → (List (Int)) → (List (List (Int))) → Option R
abbrev cast_Env_e92d_l2_Ty : Type 1 := {R : Type} → ((List (List (Int))) → (List (Int)) → Option R) → Nat → (List (Bool)) → (Int) → (Int) → (List (List (Int))) → (List (Int)) → Option R
abbrev cast_Env_e92d_Ty : Type 1 := {R : Type} → (List ((ByteArray) × ((Bool) × (Int)))) → (List (Int)) → (Int) → (Int) → (Int) → (Nat) → (Nat) → (Nat) → (Nat) → (List (Bool)) → (Nat) → (List (List (Int))) → ((Int) → (Nat) → (List (List (Int))) → (List (Int)) → Option R) → ((Int) → (List (List (Int))) → (List (Int)) → Option R) → Option R
noncomputable def cast_Env_e92d_l0_T0 (N : Nat) (c0 : class_Caps_66e6_Ty) (c1 : class_Caps_Ty) (c2 : slices_Concat___byte__byte_1789_Ty) (c3 : class_Has_1e53_Ty) (c4 : class_Has_0c40_Ty) (c5 : class_Has_e92d_Ty) (c6 : class_May_66e6_Ty) (c7 : class_May_Ty) (w1 : cast_Env_e92d_l1_Ty) (w2 : cast_Env_e92d_l2_Ty) {R : Type} (nx : (Int) → (Int) → (List (List (Int))) → (List ((ByteArray) × ((Bool) × (Int)))) → (List (Int)) → (Int) → (Int) → (Int) → (Nat) → (Nat) → (Nat) → (Nat) → (List (Bool)) → (List (Int)) → (List (List (Int))) → Option R) (k0 : (List (List (Int))) → (Nat) → (Nat) → (Nat) → (Nat) → (List (Bool)) → (List (Int)) → Option R) (x0 : Int) (x1 : Int) (x2 : List (List (Int))) (x3 : List ((ByteArray) × ((Bool) × (Int)))) (x4 : List (Int)) (x5 : Int) (x6 : Int) (x7 : Int) (x8 : Nat) (x9 : Nat) (x10 : Nat) (x11 : Nat) (x12 : List (Bool)) (x13 : List (Int)) (x14 : List (List (Int))) : Option R :=
  br (decide (x1 < x0))
  (br (inB x1 (List.length x14))
   (br (decide ((Int.toNat x1) < (List.length x14)))
    (br (((fits (0 : Nat) (List.length x13) x13) && (decide ((((List.length x13) + (1 : Nat)) * (2 : Nat)) ≤ (70368744177664 : Nat)))) && true)
     (c1 x3 x4 x5 x6 x7
      (fun l874 => br (inB x1 (List.length l874))
       (br (decide ((Int.toNat x1) < (List.length l874)))
        (w1
         (fun i875 i876 l877 l878 l879 i880 i881 i882 n883 n884 n885 n886 l887 l888 l889 => nx i875 (IntKind.wrap .i64 (i876 + (1 : Int))) l877 l878 l879 i880 i881 i882 n883 n884 n885 n886 l887 l888 l889)
         N (List.getD x14 (Int.toNat x1) (Sh.zero (.isl (.int .u8)))) x0 x1 (List.getD l874 (Int.toNat x1) (0 : Int)) (0 : Int) x2 x3 x4 x5 x6 x7 x8 x9 x10 x11 x12 ((sub x13 (0 : Nat) (List.length x13)) ++ ((IntKind.wrap .u16 (Nat.cast (List.length (List.getD x14 (Int.toNat x1) (Sh.zero (.isl (.int .u8))))) : Int)) :: ([] : List ((Sh.int IntKind.u16).T)))) x14)
        (none))
       (none)))
     (none))
    (none))
   (none))
  (k0 x2 x8 x9 x10 x11 x12 x13)
noncomputable def cast_Env_e92d_l1_T0 (N : Nat) (c0 : class_Caps_66e6_Ty) (c1 : class_Caps_Ty) (c2 : slices_Concat___byte__byte_1789_Ty) (c3 : class_Has_1e53_Ty) (c4 : class_Has_0c40_Ty) (c5 : class_Has_e92d_Ty) (c6 : class_May_66e6_Ty) (c7 : class_May_Ty) (w2 : cast_Env_e92d_l2_Ty) {R : Type} (nx : (List (Int)) → (Int) → (Int) → (Int) → (Int) → (List (List (Int))) → (List ((ByteArray) × ((Bool) × (Int)))) → (List (Int)) → (Int) → (Int) → (Int) → (Nat) → (Nat) → (Nat) → (Nat) → (List (Bool)) → (List (Int)) → (List (List (Int))) → Option R) (k0 : (Int) → (Int) → (List (List (Int))) → (List ((ByteArray) × ((Bool) × (Int)))) → (List (Int)) → (Int) → (Int) → (Int) → (Nat) → (Nat) → (Nat) → (Nat) → (List (Bool)) → (List (Int)) → (List (List (Int))) → Option R) (x0 : List (Int)) (x1 : Int) (x2 : Int) (x3 : Int) (x4 : Int) (x5 : List (List (Int))) (x6 : List ((ByteArray) × ((Bool) × (Int)))) (x7 : List (Int)) (x8 : Int) (x9 : Int) (x10 : Int) (x11 : Nat) (x12 : Nat) (x13 : Nat) (x14 : Nat) (x15 : List (Bool)) (x16 : List (Int)) (x17 : List (List (Int))) : Option R :=
  br (decide (x4 < x3))
  (br (decide (x4 < (Nat.cast (List.length x0) : Int)))
   (br (inB x4 (List.length x0))
    (br (((fits (0 : Nat) (List.length x16) x16) && (decide ((((List.length x16) + (1 : Nat)) * (2 : Nat)) ≤ (70368744177664 : Nat)))) && true)
     (nx x0 x1 x2 x3 (IntKind.wrap .i64 (x4 + (1 : Int))) x5 x6 x7 x8 x9 x10 x11 x12 x13 x14 x15 ((sub x16 (0 : Nat) (List.length x16)) ++ ((IntKind.wrap .u16 (List.getD x0 (Int.toNat x4) (0 : Int))) :: ([] : List ((Sh.int IntKind.u16).T)))) x17)
     (none))
    (none))
   (br (((fits (0 : Nat) (List.length x16) x16) && (decide ((((List.length x16) + (1 : Nat)) * (2 : Nat)) ≤ (70368744177664 : Nat)))) && true)
    (nx x0 x1 x2 x3 (IntKind.wrap .i64 (x4 + (1 : Int))) x5 x6 x7 x8 x9 x10 x11 x12 x13 x14 x15 ((sub x16 (0 : Nat) (List.length x16)) ++ ((IntKind.wrap .u16 (0 : Int)) :: ([] : List ((Sh.int IntKind.u16).T)))) x17)
    (none)))
  (k0 x1 x2 x5 x6 x7 x8 x9 x10 x11 x12 x13 x14 x15 x16 x17)
noncomputable def cast_Env_e92d_l2_T0 (N : Nat) (c0 : class_Caps_66e6_Ty) (c1 : class_Caps_Ty) (c2 : slices_Concat___byte__byte_1789_Ty) (c3 : class_Has_1e53_Ty) (c4 : class_Has_0c40_Ty) (c5 : class_Has_e92d_Ty) (c6 : class_May_66e6_Ty) (c7 : class_May_Ty) {R : Type} (nx : (List (Bool)) → (Int) → (Int) → (List (List (Int))) → (List (Int)) → Option R) (k0 : (List (List (Int))) → (List (Int)) → Option R) (x0 : List (Bool)) (x1 : Int) (x2 : Int) (x3 : List (List (Int))) (x4 : List (Int)) : Option R :=
  br (decide (x2 < x1))
  (br (inB x2 (List.length x0))
   (br (List.getD x0 (Int.toNat x2) false)
    (br (((fits (0 : Nat) (List.length x4) x4) && (decide ((((List.length x4) + (1 : Nat)) * (2 : Nat)) ≤ (70368744177664 : Nat)))) && true)
     (nx x0 x1 (IntKind.wrap .i64 (x2 + (1 : Int))) x3 ((sub x4 (0 : Nat) (List.length x4)) ++ ((1 : Int) :: ([] : List ((Sh.int IntKind.u16).T)))))
     (none))
    (br (((fits (0 : Nat) (List.length x4) x4) && (decide ((((List.length x4) + (1 : Nat)) * (2 : Nat)) ≤ (70368744177664 : Nat)))) && true)
     (nx x0 x1 (IntKind.wrap .i64 (x2 + (1 : Int))) x3 ((sub x4 (0 : Nat) (List.length x4)) ++ ((0 : Int) :: ([] : List ((Sh.int IntKind.u16).T)))))
     (none)))
   (none))
  (k0 x3 x4)
noncomputable def cast_Env_e92d_l2 (N : Nat) {R : Type} (k0 : (List (List (Int))) → (List (Int)) → Option R) : Nat → (List (Bool)) → (Int) → (Int) → (List (List (Int))) → (List (Int)) → Option R
  | 0, _, _, _, _, _ => none
  | n + 1, x0, x1, x2, x3, x4 => cast_Env_e92d_l2_T0 N (@class_Caps_66e6 N) (@class_Caps N) (@slices_Concat___byte__byte_1789 N) (@class_Has_1e53 N) (@class_Has_0c40 N) (@class_Has_e92d N) (@class_May_66e6 N) (@class_May N) (fun x0 x1 x2 x3 x4 => cast_Env_e92d_l2 N k0 n x0 x1 x2 x3 x4) k0 x0 x1 x2 x3 x4
noncomputable def cast_Env_e92d_l1 (N : Nat) {R : Type} (k0 : (Int) → (Int) → (List (List (Int))) → (List ((ByteArray) × ((Bool) × (Int)))) → (List (Int)) → (Int) → (Int) → (Int) → (Nat) → (Nat) → (Nat) → (Nat) → (List (Bool)) → (List (Int)) → (List (List (Int))) → Option R) : Nat → (List (Int)) → (Int) → (Int) → (Int) → (Int) → (List (List (Int))) → (List ((ByteArray) × ((Bool) × (Int)))) → (List (Int)) → (Int) → (Int) → (Int) → (Nat) → (Nat) → (Nat) → (Nat) → (List (Bool)) → (List (Int)) → (List (List (Int))) → Option R
  | 0, _, _, _, _, _, _, _, _, _, _, _, _, _, _, _, _, _, _ => none
  | n + 1, x0, x1, x2, x3, x4, x5, x6, x7, x8, x9, x10, x11, x12, x13, x14, x15, x16, x17 => cast_Env_e92d_l1_T0 N (@class_Caps_66e6 N) (@class_Caps N) (@slices_Concat___byte__byte_1789 N) (@class_Has_1e53 N) (@class_Has_0c40 N) (@class_Has_e92d N) (@class_May_66e6 N) (@class_May N) (@cast_Env_e92d_l2 N) (fun x0 x1 x2 x3 x4 x5 x6 x7 x8 x9 x10 x11 x12 x13 x14 x15 x16 x17 => cast_Env_e92d_l1 N k0 n x0 x1 x2 x3 x4 x5 x6 x7 x8 x9 x10 x11 x12 x13 x14 x15 x16 x17) k0 x0 x1 x2 x3 x4 x5 x6 x7 x8 x9 x10 x11 x12 x13 x14 x15 x16 x17
noncomputable def cast_Env_e92d_l0 (N : Nat) {R : Type} (k0 : (List (List (Int))) → (Nat) → (Nat) → (Nat) → (Nat) → (List (Bool)) → (List (Int)) → Option R) : Nat → (Int) → (Int) → (List (List (Int))) → (List ((ByteArray) × ((Bool) × (Int)))) → (List (Int)) → (Int) → (Int) → (Int) → (Nat) → (Nat) → (Nat) → (Nat) → (List (Bool)) → (List (Int)) → (List (List (Int))) → Option R
  | 0, _, _, _, _, _, _, _, _, _, _, _, _, _, _, _ => none
  | n + 1, x0, x1, x2, x3, x4, x5, x6, x7, x8, x9, x10, x11, x12, x13, x14 => cast_Env_e92d_l0_T0 N (@class_Caps_66e6 N) (@class_Caps N) (@slices_Concat___byte__byte_1789 N) (@class_Has_1e53 N) (@class_Has_0c40 N) (@class_Has_e92d N) (@class_May_66e6 N) (@class_May N) (@cast_Env_e92d_l1 N) (@cast_Env_e92d_l2 N) (fun x0 x1 x2 x3 x4 x5 x6 x7 x8 x9 x10 x11 x12 x13 x14 => cast_Env_e92d_l0 N k0 n x0 x1 x2 x3 x4 x5 x6 x7 x8 x9 x10 x11 x12 x13 x14) k0 x0 x1 x2 x3 x4 x5 x6 x7 x8 x9 x10 x11 x12 x13 x14
noncomputable def cast_Env_e92d_T (N : Nat) (c0 : class_Caps_66e6_Ty) (c1 : class_Caps_Ty) (c2 : slices_Concat___byte__byte_1789_Ty) (c3 : class_Has_1e53_Ty) (c4 : class_Has_0c40_Ty) (c5 : class_Has_e92d_Ty) (c6 : class_May_66e6_Ty) (c7 : class_May_Ty) (w0 : cast_Env_e92d_l0_Ty) (w1 : cast_Env_e92d_l1_Ty) (w2 : cast_Env_e92d_l2_Ty) {R : Type} (x0 : List ((ByteArray) × ((Bool) × (Int)))) (x1 : List (Int)) (x2 : Int) (x3 : Int) (x4 : Int) (x5 : Nat) (x6 : Nat) (x7 : Nat) (x8 : Nat) (x9 : List (Bool)) (x10 : Nat) (x11 : List (List (Int))) (k0 : (Int) → (Nat) → (List (List (Int))) → (List (Int)) → Option R) (k1 : (Int) → (List (List (Int))) → (List (Int)) → Option R) : Option R :=
  c7 x0 x1 x2 x3 x4
  (fun b868 => br (!b868)
   (k0 (11 : Int) x10 x11 ([] : List ((Sh.int IntKind.u16).T)))
   (c5 x0 x1 x2 x3 x4 x5 x6 x7 x8 x9 x10 x11
    (fun b869 n870 l871 => br (!b869)
     (k0 (12 : Int) n870 l871 ([] : List ((Sh.int IntKind.u16).T)))
     (br (fits (0 : Nat) x5 l871)
      (br (fits x7 x8 l871)
       (c2 ((sub l871 (0 : Nat) x5) :: ((sub l871 x7 x8) :: ([] : List ((Sh.int IntKind.u8).isl.isl.T))))
        (fun l872 l873 => w0
         (fun l890 n891 n892 n893 n894 l895 l896 => w2
          (fun l897 l898 => k1 (0 : Int) l897 l898)
          N l895 (Nat.cast (List.length l895) : Int) (0 : Int) l890 l896)
         N (Nat.cast (List.length l873) : Int) (0 : Int) l871 x0 x1 x2 x3 x4 x5 x6 x7 x8 x9 ([] : List ((Sh.int IntKind.u16).T)) l873))
       (none))
      (none)))))
noncomputable def cast_Env_e92d (N : Nat) {R : Type} (x0 : List ((ByteArray) × ((Bool) × (Int)))) (x1 : List (Int)) (x2 : Int) (x3 : Int) (x4 : Int) (x5 : Nat) (x6 : Nat) (x7 : Nat) (x8 : Nat) (x9 : List (Bool)) (x10 : Nat) (x11 : List (List (Int))) (k0 : (Int) → (Nat) → (List (List (Int))) → (List (Int)) → Option R) (k1 : (Int) → (List (List (Int))) → (List (Int)) → Option R) : Option R := cast_Env_e92d_T N (@class_Caps_66e6 N) (@class_Caps N) (@slices_Concat___byte__byte_1789 N) (@class_Has_1e53 N) (@class_Has_0c40 N) (@class_Has_e92d N) (@class_May_66e6 N) (@class_May N) (@cast_Env_e92d_l0 N) (@cast_Env_e92d_l1 N) (@cast_Env_e92d_l2 N) x0 x1 x2 x3 x4 x5 x6 x7 x8 x9 x10 x11 k0 k1
abbrev cast_Size_9e58_l0_Ty : Type 1 := {R : Type} → ((Int) → (List ((ByteArray) × ((Bool) × (Int)))) → (List (Int)) → Option R) → Nat → (Int) → (Int) → (Int) → (List ((ByteArray) × ((Bool) × (Int)))) → (List (Int)) → (List (Int)) → Option R
abbrev cast_Size_9e58_Ty : Type 1 := {R : Type} → (Int) → (Int) → (Int) → (Int) → (List ((ByteArray) × ((Bool) × (Int)))) → (List (Int)) → ((Int) → (List ((ByteArray) × ((Bool) × (Int)))) → (List (Int)) → Option R) → Option R
noncomputable def cast_Size_9e58_l0_T0 (N : Nat) (c0 : class_May_66e6_Ty) (c1 : class_May_Ty) (c2 : class_Caps_66e6_Ty) (c3 : class_Caps_Ty) {R : Type} (nx : (Int) → (Int) → (Int) → (List ((ByteArray) × ((Bool) × (Int)))) → (List (Int)) → (List (Int)) → Option R) (k0 : (Int) → (List ((ByteArray) × ((Bool) × (Int)))) → (List (Int)) → Option R) (x0 : Int) (x1 : Int) (x2 : Int) (x3 : List ((ByteArray) × ((Bool) × (Int)))) (x4 : List (Int)) (x5 : List (Int)) : Option R :=
  br (decide (x2 < x1))
  (br (inB x2 (List.length x5))
   (br (decide ((Int.toNat x2) < (List.length x5)))
    (nx (IntKind.wrap .i64 (x0 + (IntKind.wrap .i64 ((1 : Int) + (List.getD x5 (Int.toNat x2) (0 : Int)))))) x1 (IntKind.wrap .i64 (x2 + (1 : Int))) x3 x4 x5)
    (none))
   (none))
  (k0 x0 x3 x4)
noncomputable def cast_Size_9e58_l0 (N : Nat) {R : Type} (k0 : (Int) → (List ((ByteArray) × ((Bool) × (Int)))) → (List (Int)) → Option R) : Nat → (Int) → (Int) → (Int) → (List ((ByteArray) × ((Bool) × (Int)))) → (List (Int)) → (List (Int)) → Option R
  | 0, _, _, _, _, _, _ => none
  | n + 1, x0, x1, x2, x3, x4, x5 => cast_Size_9e58_l0_T0 N (@class_May_66e6 N) (@class_May N) (@class_Caps_66e6 N) (@class_Caps N) (fun x0 x1 x2 x3 x4 x5 => cast_Size_9e58_l0 N k0 n x0 x1 x2 x3 x4 x5) k0 x0 x1 x2 x3 x4 x5
noncomputable def cast_Size_9e58_T (N : Nat) (c0 : class_May_66e6_Ty) (c1 : class_May_Ty) (c2 : class_Caps_66e6_Ty) (c3 : class_Caps_Ty) (w0 : cast_Size_9e58_l0_Ty) {R : Type} (x0 : Int) (x1 : Int) (x2 : Int) (x3 : Int) (x4 : List ((ByteArray) × ((Bool) × (Int)))) (x5 : List (Int)) (k0 : (Int) → (List ((ByteArray) × ((Bool) × (Int)))) → (List (Int)) → Option R) : Option R :=
  c2 x0 x1 x2 x4 x5
  (fun l254 l255 l256 => c0 x0 x1 x2 l254 l255
   (fun b257 l258 l259 => br (!(!b257))
    (br (!(decide (x3 < (0 : Int))))
     (br (decide ((Nat.cast (List.length l256) : Int) ≤ x3))
      (k0 (-1 : Int) l258 l259)
      (br (leB x3 (List.length l256))
       (br (fits (0 : Nat) ((Int.toNat x3) - (0 : Nat)) l256)
        (w0
         (fun i260 l261 l262 => k0 i260 l261 l262)
         N (0 : Int) (Nat.cast ((Int.toNat x3) - (0 : Nat)) : Int) (0 : Int) l258 l259 (sub l256 (0 : Nat) ((Int.toNat x3) - (0 : Nat))))
        (none))
       (none)))
     (k0 (-1 : Int) l258 l259))
    (k0 (-1 : Int) l258 l259)))
noncomputable def cast_Size_9e58 (N : Nat) {R : Type} (x0 : Int) (x1 : Int) (x2 : Int) (x3 : Int) (x4 : List ((ByteArray) × ((Bool) × (Int)))) (x5 : List (Int)) (k0 : (Int) → (List ((ByteArray) × ((Bool) × (Int)))) → (List (Int)) → Option R) : Option R := cast_Size_9e58_T N (@class_May_66e6 N) (@class_May N) (@class_Caps_66e6 N) (@class_Caps N) (@cast_Size_9e58_l0 N) x0 x1 x2 x3 x4 x5 k0
abbrev cast_Size_l0_Ty : Type 1 := {R : Type} → ((Int) → Option R) → Nat → (Int) → (Int) → (Int) → (List (Int)) → Option R
abbrev cast_Size_Ty : Type 1 := {R : Type} → (List ((ByteArray) × ((Bool) × (Int)))) → (List (Int)) → (Int) → (Int) → (Int) → (Int) → ((Int) → Option R) → Option R
noncomputable def cast_Size_l0_T0 (N : Nat) (c0 : class_May_66e6_Ty) (c1 : class_May_Ty) (c2 : class_Caps_66e6_Ty) (c3 : class_Caps_Ty) {R : Type} (nx : (Int) → (Int) → (Int) → (List (Int)) → Option R) (k0 : (Int) → Option R) (x0 : Int) (x1 : Int) (x2 : Int) (x3 : List (Int)) : Option R :=
  br (decide (x2 < x1))
  (br (inB x2 (List.length x3))
   (br (decide ((Int.toNat x2) < (List.length x3)))
    (nx (IntKind.wrap .i64 (x0 + (IntKind.wrap .i64 ((1 : Int) + (List.getD x3 (Int.toNat x2) (0 : Int)))))) x1 (IntKind.wrap .i64 (x2 + (1 : Int))) x3)
    (none))
   (none))
  (k0 x0)
noncomputable def cast_Size_l0 (N : Nat) {R : Type} (k0 : (Int) → Option R) : Nat → (Int) → (Int) → (Int) → (List (Int)) → Option R
  | 0, _, _, _, _ => none
  | n + 1, x0, x1, x2, x3 => cast_Size_l0_T0 N (@class_May_66e6 N) (@class_May N) (@class_Caps_66e6 N) (@class_Caps N) (fun x0 x1 x2 x3 => cast_Size_l0 N k0 n x0 x1 x2 x3) k0 x0 x1 x2 x3
noncomputable def cast_Size_T (N : Nat) (c0 : class_May_66e6_Ty) (c1 : class_May_Ty) (c2 : class_Caps_66e6_Ty) (c3 : class_Caps_Ty) (w0 : cast_Size_l0_Ty) {R : Type} (x0 : List ((ByteArray) × ((Bool) × (Int)))) (x1 : List (Int)) (x2 : Int) (x3 : Int) (x4 : Int) (x5 : Int) (k0 : (Int) → Option R) : Option R :=
  c3 x0 x1 x2 x3 x4
  (fun l639 => c1 x0 x1 x2 x3 x4
   (fun b640 => br (!(!b640))
    (br (!(decide (x5 < (0 : Int))))
     (br (decide ((Nat.cast (List.length l639) : Int) ≤ x5))
      (k0 (-1 : Int))
      (br (leB x5 (List.length l639))
       (br (fits (0 : Nat) ((Int.toNat x5) - (0 : Nat)) l639)
        (w0
         (fun i641 => k0 i641)
         N (0 : Int) (Nat.cast ((Int.toNat x5) - (0 : Nat)) : Int) (0 : Int) (sub l639 (0 : Nat) ((Int.toNat x5) - (0 : Nat))))
        (none))
       (none)))
     (k0 (-1 : Int)))
    (k0 (-1 : Int))))
noncomputable def cast_Size (N : Nat) {R : Type} (x0 : List ((ByteArray) × ((Bool) × (Int)))) (x1 : List (Int)) (x2 : Int) (x3 : Int) (x4 : Int) (x5 : Int) (k0 : (Int) → Option R) : Option R := cast_Size_T N (@class_May_66e6 N) (@class_May N) (@class_Caps_66e6 N) (@class_Caps N) (@cast_Size_l0 N) x0 x1 x2 x3 x4 x5 k0
abbrev cast_Byte_dbd4_Ty : Type 1 := {R : Type} → (Int) → (Int) → (Int) → (Int) → (Int) → (List ((ByteArray) × ((Bool) × (Int)))) → (List (Int)) → ((Int) → (Bool) → (List ((ByteArray) × ((Bool) × (Int)))) → (List (Int)) → Option R) → Option R
noncomputable def cast_Byte_dbd4_T (N : Nat) (c0 : class_Caps_66e6_Ty) (c1 : class_Caps_Ty) (c2 : cast_Size_9e58_Ty) (c3 : cast_Size_Ty) {R : Type} (x0 : Int) (x1 : Int) (x2 : Int) (x3 : Int) (x4 : Int) (x5 : List ((ByteArray) × ((Bool) × (Int)))) (x6 : List (Int)) (k0 : (Int) → (Bool) → (List ((ByteArray) × ((Bool) × (Int)))) → (List (Int)) → Option R) : Option R :=
  c2 x0 x1 x2 x3 x5 x6
  (fun i263 l264 l265 => br (!(decide (i263 = (-1 : Int))))
   (br (!(decide (x4 < (0 : Int))))
    (c0 x0 x1 x2 l264 l265
     (fun l266 l267 l268 => br (inB x3 (List.length l268))
      (br (decide ((Int.toNat x3) < (List.length l268)))
       (br (decide ((List.getD l268 (Int.toNat x3) (0 : Int)) ≤ x4))
        (k0 (0 : Int) false l266 l267)
        (k0 (IntKind.wrap .i64 ((IntKind.wrap .i64 (i263 + (1 : Int))) + x4)) true l266 l267))
       (none))
      (none)))
    (k0 (0 : Int) false l264 l265))
   (k0 (0 : Int) false l264 l265))
noncomputable def cast_Byte_dbd4 (N : Nat) {R : Type} (x0 : Int) (x1 : Int) (x2 : Int) (x3 : Int) (x4 : Int) (x5 : List ((ByteArray) × ((Bool) × (Int)))) (x6 : List (Int)) (k0 : (Int) → (Bool) → (List ((ByteArray) × ((Bool) × (Int)))) → (List (Int)) → Option R) : Option R := cast_Byte_dbd4_T N (@class_Caps_66e6 N) (@class_Caps N) (@cast_Size_9e58 N) (@cast_Size N) x0 x1 x2 x3 x4 x5 x6 k0
abbrev cast_Byte_Ty : Type 1 := {R : Type} → (List ((ByteArray) × ((Bool) × (Int)))) → (List (Int)) → (Int) → (Int) → (Int) → (Int) → (Int) → ((Int) → (Bool) → Option R) → Option R
noncomputable def cast_Byte_T (N : Nat) (c0 : class_Caps_66e6_Ty) (c1 : class_Caps_Ty) (c2 : cast_Size_9e58_Ty) (c3 : cast_Size_Ty) {R : Type} (x0 : List ((ByteArray) × ((Bool) × (Int)))) (x1 : List (Int)) (x2 : Int) (x3 : Int) (x4 : Int) (x5 : Int) (x6 : Int) (k0 : (Int) → (Bool) → Option R) : Option R :=
  c3 x0 x1 x2 x3 x4 x5
  (fun i643 => br (!(decide (i643 = (-1 : Int))))
   (br (!(decide (x6 < (0 : Int))))
    (c1 x0 x1 x2 x3 x4
     (fun l644 => br (inB x5 (List.length l644))
      (br (decide ((Int.toNat x5) < (List.length l644)))
       (br (decide ((List.getD l644 (Int.toNat x5) (0 : Int)) ≤ x6))
        (k0 (0 : Int) false)
        (k0 (IntKind.wrap .i64 ((IntKind.wrap .i64 (i643 + (1 : Int))) + x6)) true))
       (none))
      (none)))
    (k0 (0 : Int) false))
   (k0 (0 : Int) false))
noncomputable def cast_Byte (N : Nat) {R : Type} (x0 : List ((ByteArray) × ((Bool) × (Int)))) (x1 : List (Int)) (x2 : Int) (x3 : Int) (x4 : Int) (x5 : Int) (x6 : Int) (k0 : (Int) → (Bool) → Option R) : Option R := cast_Byte_T N (@class_Caps_66e6 N) (@class_Caps N) (@cast_Size_9e58 N) (@cast_Size N) x0 x1 x2 x3 x4 x5 x6 k0
abbrev cast_Vars_66e6_l0_Ty : Type 1 := {R : Type} → ((Int) → (List ((ByteArray) × ((Bool) × (Int)))) → (List (Int)) → Option R) → Nat → (Int) → (Int) → (Int) → (List ((ByteArray) × ((Bool) × (Int)))) → (List (Int)) → (List (Int)) → Option R
abbrev cast_Vars_66e6_Ty : Type 1 := {R : Type} → (Int) → (Int) → (Int) → (List ((ByteArray) × ((Bool) × (Int)))) → (List (Int)) → ((Int) → (List ((ByteArray) × ((Bool) × (Int)))) → (List (Int)) → Option R) → Option R
noncomputable def cast_Vars_66e6_l0_T0 (N : Nat) (c0 : class_Caps_66e6_Ty) (c1 : class_Caps_Ty) (c2 : class_May_66e6_Ty) (c3 : class_May_Ty) {R : Type} (nx : (Int) → (Int) → (Int) → (List ((ByteArray) × ((Bool) × (Int)))) → (List (Int)) → (List (Int)) → Option R) (k0 : (Int) → (List ((ByteArray) × ((Bool) × (Int)))) → (List (Int)) → Option R) (x0 : Int) (x1 : Int) (x2 : Int) (x3 : List ((ByteArray) × ((Bool) × (Int)))) (x4 : List (Int)) (x5 : List (Int)) : Option R :=
  br (decide (x2 < x1))
  (br (inB x2 (List.length x5))
   (br (decide ((Int.toNat x2) < (List.length x5)))
    (nx (IntKind.wrap .i64 (x0 + (IntKind.wrap .i64 ((1 : Int) + (List.getD x5 (Int.toNat x2) (0 : Int)))))) x1 (IntKind.wrap .i64 (x2 + (1 : Int))) x3 x4 x5)
    (none))
   (none))
  (k0 x0 x3 x4)
noncomputable def cast_Vars_66e6_l0 (N : Nat) {R : Type} (k0 : (Int) → (List ((ByteArray) × ((Bool) × (Int)))) → (List (Int)) → Option R) : Nat → (Int) → (Int) → (Int) → (List ((ByteArray) × ((Bool) × (Int)))) → (List (Int)) → (List (Int)) → Option R
  | 0, _, _, _, _, _, _ => none
  | n + 1, x0, x1, x2, x3, x4, x5 => cast_Vars_66e6_l0_T0 N (@class_Caps_66e6 N) (@class_Caps N) (@class_May_66e6 N) (@class_May N) (fun x0 x1 x2 x3 x4 x5 => cast_Vars_66e6_l0 N k0 n x0 x1 x2 x3 x4 x5) k0 x0 x1 x2 x3 x4 x5
noncomputable def cast_Vars_66e6_T (N : Nat) (c0 : class_Caps_66e6_Ty) (c1 : class_Caps_Ty) (c2 : class_May_66e6_Ty) (c3 : class_May_Ty) (w0 : cast_Vars_66e6_l0_Ty) {R : Type} (x0 : Int) (x1 : Int) (x2 : Int) (x3 : List ((ByteArray) × ((Bool) × (Int)))) (x4 : List (Int)) (k0 : (Int) → (List ((ByteArray) × ((Bool) × (Int)))) → (List (Int)) → Option R) : Option R :=
  c2 x0 x1 x2 x3 x4
  (fun b276 l277 l278 => br (!b276)
   (k0 (0 : Int) l277 l278)
   (c0 x0 x1 x2 l277 l278
    (fun l279 l280 l281 => w0
     (fun i282 l283 l284 => k0 i282 l283 l284)
     N x0 (Nat.cast (List.length l281) : Int) (0 : Int) l279 l280 l281)))
noncomputable def cast_Vars_66e6 (N : Nat) {R : Type} (x0 : Int) (x1 : Int) (x2 : Int) (x3 : List ((ByteArray) × ((Bool) × (Int)))) (x4 : List (Int)) (k0 : (Int) → (List ((ByteArray) × ((Bool) × (Int)))) → (List (Int)) → Option R) : Option R := cast_Vars_66e6_T N (@class_Caps_66e6 N) (@class_Caps N) (@class_May_66e6 N) (@class_May N) (@cast_Vars_66e6_l0 N) x0 x1 x2 x3 x4 k0
abbrev cast_Vars_l0_Ty : Type 1 := {R : Type} → ((Int) → Option R) → Nat → (Int) → (Int) → (Int) → (List (Int)) → Option R
abbrev cast_Vars_Ty : Type 1 := {R : Type} → (List ((ByteArray) × ((Bool) × (Int)))) → (List (Int)) → (Int) → (Int) → (Int) → ((Int) → Option R) → Option R
noncomputable def cast_Vars_l0_T0 (N : Nat) (c0 : class_Caps_66e6_Ty) (c1 : class_Caps_Ty) (c2 : class_May_66e6_Ty) (c3 : class_May_Ty) {R : Type} (nx : (Int) → (Int) → (Int) → (List (Int)) → Option R) (k0 : (Int) → Option R) (x0 : Int) (x1 : Int) (x2 : Int) (x3 : List (Int)) : Option R :=
  br (decide (x2 < x1))
  (br (inB x2 (List.length x3))
   (br (decide ((Int.toNat x2) < (List.length x3)))
    (nx (IntKind.wrap .i64 (x0 + (IntKind.wrap .i64 ((1 : Int) + (List.getD x3 (Int.toNat x2) (0 : Int)))))) x1 (IntKind.wrap .i64 (x2 + (1 : Int))) x3)
    (none))
   (none))
  (k0 x0)
noncomputable def cast_Vars_l0 (N : Nat) {R : Type} (k0 : (Int) → Option R) : Nat → (Int) → (Int) → (Int) → (List (Int)) → Option R
  | 0, _, _, _, _ => none
  | n + 1, x0, x1, x2, x3 => cast_Vars_l0_T0 N (@class_Caps_66e6 N) (@class_Caps N) (@class_May_66e6 N) (@class_May N) (fun x0 x1 x2 x3 => cast_Vars_l0 N k0 n x0 x1 x2 x3) k0 x0 x1 x2 x3
noncomputable def cast_Vars_T (N : Nat) (c0 : class_Caps_66e6_Ty) (c1 : class_Caps_Ty) (c2 : class_May_66e6_Ty) (c3 : class_May_Ty) (w0 : cast_Vars_l0_Ty) {R : Type} (x0 : List ((ByteArray) × ((Bool) × (Int)))) (x1 : List (Int)) (x2 : Int) (x3 : Int) (x4 : Int) (k0 : (Int) → Option R) : Option R :=
  c3 x0 x1 x2 x3 x4
  (fun b634 => br (!b634)
   (k0 (0 : Int))
   (c1 x0 x1 x2 x3 x4
    (fun l635 => w0
     (fun i636 => k0 i636)
     N x2 (Nat.cast (List.length l635) : Int) (0 : Int) l635)))
noncomputable def cast_Vars (N : Nat) {R : Type} (x0 : List ((ByteArray) × ((Bool) × (Int)))) (x1 : List (Int)) (x2 : Int) (x3 : Int) (x4 : Int) (k0 : (Int) → Option R) : Option R := cast_Vars_T N (@class_Caps_66e6 N) (@class_Caps N) (@class_May_66e6 N) (@class_May N) (@cast_Vars_l0 N) x0 x1 x2 x3 x4 k0
abbrev cast_Fail_9e58_Ty : Type 1 := {R : Type} → (Int) → (Int) → (Int) → (Int) → (List ((ByteArray) × ((Bool) × (Int)))) → (List (Int)) → ((Int) → (Bool) → (List ((ByteArray) × ((Bool) × (Int)))) → (List (Int)) → Option R) → Option R
noncomputable def cast_Fail_9e58_T (N : Nat) (c0 : cast_Vars_66e6_Ty) (c1 : cast_Vars_Ty) (c2 : class_May_66e6_Ty) (c3 : class_May_Ty) {R : Type} (x0 : Int) (x1 : Int) (x2 : Int) (x3 : Int) (x4 : List ((ByteArray) × ((Bool) × (Int)))) (x5 : List (Int)) (k0 : (Int) → (Bool) → (List ((ByteArray) × ((Bool) × (Int)))) → (List (Int)) → Option R) : Option R :=
  c2 x0 x1 x2 x4 x5
  (fun b273 l274 l275 => br (!(!b273))
   (br (!(decide (x3 < (0 : Int))))
    (br (decide (x0 ≤ x3))
     (k0 (0 : Int) false l274 l275)
     (c0 x0 x1 x2 l274 l275
      (fun i285 l286 l287 => br (decide (x0 = x0))
       (br (decide (x3 = x3))
        (k0 (IntKind.wrap .i64 ((IntKind.wrap .i64 (i285 - x0)) + x3)) true l286 l287)
        (none))
       (none))))
    (k0 (0 : Int) false l274 l275))
   (k0 (0 : Int) false l274 l275))
noncomputable def cast_Fail_9e58 (N : Nat) {R : Type} (x0 : Int) (x1 : Int) (x2 : Int) (x3 : Int) (x4 : List ((ByteArray) × ((Bool) × (Int)))) (x5 : List (Int)) (k0 : (Int) → (Bool) → (List ((ByteArray) × ((Bool) × (Int)))) → (List (Int)) → Option R) : Option R := cast_Fail_9e58_T N (@cast_Vars_66e6 N) (@cast_Vars N) (@class_May_66e6 N) (@class_May N) x0 x1 x2 x3 x4 x5 k0
abbrev cast_Fail_Ty : Type 1 := {R : Type} → (List ((ByteArray) × ((Bool) × (Int)))) → (List (Int)) → (Int) → (Int) → (Int) → (Int) → ((Int) → (Bool) → Option R) → Option R
noncomputable def cast_Fail_T (N : Nat) (c0 : cast_Vars_66e6_Ty) (c1 : cast_Vars_Ty) (c2 : class_May_66e6_Ty) (c3 : class_May_Ty) {R : Type} (x0 : List ((ByteArray) × ((Bool) × (Int)))) (x1 : List (Int)) (x2 : Int) (x3 : Int) (x4 : Int) (x5 : Int) (k0 : (Int) → (Bool) → Option R) : Option R :=
  c3 x0 x1 x2 x3 x4
  (fun b691 => br (!(!b691))
   (br (!(decide (x5 < (0 : Int))))
    (br (decide (x2 ≤ x5))
     (k0 (0 : Int) false)
     (c1 x0 x1 x2 x3 x4
      (fun i692 => br (decide (x2 = x2))
       (br (decide (x5 = x5))
        (k0 (IntKind.wrap .i64 ((IntKind.wrap .i64 (i692 - x2)) + x5)) true)
        (none))
       (none))))
    (k0 (0 : Int) false))
   (k0 (0 : Int) false))
noncomputable def cast_Fail (N : Nat) {R : Type} (x0 : List ((ByteArray) × ((Bool) × (Int)))) (x1 : List (Int)) (x2 : Int) (x3 : Int) (x4 : Int) (x5 : Int) (k0 : (Int) → (Bool) → Option R) : Option R := cast_Fail_T N (@cast_Vars_66e6 N) (@cast_Vars N) (@class_May_66e6 N) (@class_May N) x0 x1 x2 x3 x4 x5 k0
abbrev law18_same_894e_l0_Ty : Type 1 := {R : Type} → ((Bool) → (List (Int)) → (List (Int)) → Option R) → ((List (Int)) → (List (Int)) → Option R) → Nat → (Int) → (List (Int)) → (List (Int)) → Option R
abbrev law18_same_894e_Ty : Type 1 := {R : Type} → (List (Int)) → (List (Int)) → ((Bool) → (List (Int)) → (List (Int)) → Option R) → Option R
noncomputable def law18_same_894e_l0_T0 (N : Nat) {R : Type} (nx : (Int) → (List (Int)) → (List (Int)) → Option R) (k0 : (Bool) → (List (Int)) → (List (Int)) → Option R) (k1 : (List (Int)) → (List (Int)) → Option R) (x0 : Int) (x1 : List (Int)) (x2 : List (Int)) : Option R :=
  br (decide (x0 < (Nat.cast (List.length x1) : Int)))
  (br (inB x0 (List.length x1))
   (br (decide ((Int.toNat x0) < (List.length x1)))
    (br (inB x0 (List.length x2))
     (br (decide ((Int.toNat x0) < (List.length x2)))
      (br (!(decide ((List.getD x1 (Int.toNat x0) (0 : Int)) = (List.getD x2 (Int.toNat x0) (0 : Int)))))
       (k0 false x1 x2)
       (nx (IntKind.wrap .i64 (x0 + (1 : Int))) x1 x2))
      (none))
     (none))
    (none))
   (none))
  (k1 x1 x2)
noncomputable def law18_same_894e_l0 (N : Nat) {R : Type} (k0 : (Bool) → (List (Int)) → (List (Int)) → Option R) (k1 : (List (Int)) → (List (Int)) → Option R) : Nat → (Int) → (List (Int)) → (List (Int)) → Option R
  | 0, _, _, _ => none
  | n + 1, x0, x1, x2 => law18_same_894e_l0_T0 N (fun x0 x1 x2 => law18_same_894e_l0 N k0 k1 n x0 x1 x2) k0 k1 x0 x1 x2
noncomputable def law18_same_894e_T (N : Nat) (w0 : law18_same_894e_l0_Ty) {R : Type} (x0 : List (Int)) (x1 : List (Int)) (k0 : (Bool) → (List (Int)) → (List (Int)) → Option R) : Option R :=
  br (!(decide ((Nat.cast (List.length x0) : Int) = (Nat.cast (List.length x1) : Int))))
  (k0 false x0 x1)
  (w0
   (fun b292 l293 l294 => k0 b292 l293 l294)
   (fun l295 l296 => k0 true l295 l296)
   N (0 : Int) x0 x1)
noncomputable def law18_same_894e (N : Nat) {R : Type} (x0 : List (Int)) (x1 : List (Int)) (k0 : (Bool) → (List (Int)) → (List (Int)) → Option R) : Option R := law18_same_894e_T N (@law18_same_894e_l0 N) x0 x1 k0
abbrev law18_awake_Ty : Type 1 := {R : Type} → ((Bool) → Option R) → Option R
noncomputable def law18_awake_T (N : Nat) (c0 : cast_Size_9e58_Ty) (c1 : cast_Size_Ty) (c2 : cast_Vars_66e6_Ty) (c3 : cast_Vars_Ty) (c4 : law18_same_894e_Ty) (c5 : cast_Fail_9e58_Ty) (c6 : cast_Fail_Ty) (c7 : cast_Byte_dbd4_Ty) (c8 : cast_Byte_Ty) (c9 : cast_Env_727c_Ty) (c10 : cast_Env_0c40_Ty) (c11 : cast_Env_e92d_Ty) {R : Type} (k0 : (Bool) → Option R) : Option R :=
  c9 (1 : Int) (1 : Int) (0 : Int) (((bs [97]) , (false , (1 : Int))) :: ([] : List ((Sh.str.pair (Sh.bool.pair (Sh.int IntKind.i64))).T))) ([] : List ((Sh.int IntKind.i64).T)) (((9 : Int) :: ([] : List ((Sh.int IntKind.u8).T))) :: ([] : List ((Sh.int IntKind.u8).isl.T))) (true :: ([] : List (Sh.bool.T)))
  (fun i248 l249 l250 l251 l252 l253 => c7 (1 : Int) (1 : Int) (0 : Int) (0 : Int) (0 : Int) l249 l250
   (fun i269 b270 l271 l272 => c5 (1 : Int) (1 : Int) (0 : Int) (0 : Int) l271 l272
    (fun i288 b289 l290 l291 => br (decide (i248 = (0 : Int)))
     (c4 l253 ((1 : Int) :: ((9 : Int) :: ((1 : Int) :: ([] : List ((Sh.int IntKind.u16).T)))))
      (fun b297 l298 l299 => br b297
       (c2 (1 : Int) (1 : Int) (0 : Int) l290 l291
        (fun i300 l301 l302 => br (decide (i300 = (3 : Int)))
         (c0 (1 : Int) (1 : Int) (0 : Int) (0 : Int) l301 l302
          (fun i303 l304 l305 => br (decide (i303 = (0 : Int)))
           (br b270
            (br (decide (i269 = (1 : Int)))
             (br b289
              (k0 (decide (i288 = (2 : Int))))
              (k0 false))
             (k0 false))
            (k0 false))
           (k0 false)))
         (k0 false)))
       (k0 false)))
     (k0 false))))
  (fun i306 l307 l308 l309 l310 l311 => c7 (1 : Int) (1 : Int) (0 : Int) (0 : Int) (0 : Int) l307 l308
   (fun i312 b313 l314 l315 => c5 (1 : Int) (1 : Int) (0 : Int) (0 : Int) l314 l315
    (fun i316 b317 l318 l319 => br (decide (i306 = (0 : Int)))
     (c4 l311 ((1 : Int) :: ((9 : Int) :: ((1 : Int) :: ([] : List ((Sh.int IntKind.u16).T)))))
      (fun b320 l321 l322 => br b320
       (c2 (1 : Int) (1 : Int) (0 : Int) l318 l319
        (fun i323 l324 l325 => br (decide (i323 = (3 : Int)))
         (c0 (1 : Int) (1 : Int) (0 : Int) (0 : Int) l324 l325
          (fun i326 l327 l328 => br (decide (i326 = (0 : Int)))
           (br b313
            (br (decide (i312 = (1 : Int)))
             (br b317
              (k0 (decide (i316 = (2 : Int))))
              (k0 false))
             (k0 false))
            (k0 false))
           (k0 false)))
         (k0 false)))
       (k0 false)))
     (k0 false))))
noncomputable def law18_awake (N : Nat) {R : Type} (k0 : (Bool) → Option R) : Option R := law18_awake_T N (@cast_Size_9e58 N) (@cast_Size N) (@cast_Vars_66e6 N) (@cast_Vars N) (@law18_same_894e N) (@cast_Fail_9e58 N) (@cast_Fail N) (@cast_Byte_dbd4 N) (@cast_Byte N) (@cast_Env_727c N) (@cast_Env_0c40 N) (@cast_Env_e92d N) k0
abbrev ref12_NameMay_l0_Ty : Type 1 := {R : Type} → ((Bool) → (List (ByteArray)) → Option R) → ((List (ByteArray)) → Option R) → Nat → (ByteArray) → (Int) → (List (ByteArray)) → Option R
abbrev ref12_NameMay_l1_Ty : Type 1 := {R : Type} → ((Bool) → (List (ByteArray)) → Option R) → ((List (ByteArray)) → Option R) → Nat → (Int) → (List (ByteArray)) → Option R
abbrev ref12_NameMay_Ty : Type 1 := {R : Type} → (ByteArray) → ((Bool) → Option R) → Option R
noncomputable def ref12_NameMay_l0_T0 (N : Nat) (w1 : ref12_NameMay_l1_Ty) {R : Type} (nx : (ByteArray) → (Int) → (List (ByteArray)) → Option R) (k0 : (Bool) → (List (ByteArray)) → Option R) (k1 : (List (ByteArray)) → Option R) (x0 : ByteArray) (x1 : Int) (x2 : List (ByteArray)) : Option R :=
  br (decide (x1 < (Nat.cast (ByteArray.size x0) : Int)))
  (br (inB x1 (ByteArray.size x0))
   (br (decide ((bt x0 x1) = (47 : Int)))
    (br (((fits (0 : Nat) (List.length x2) x2) && (decide ((((List.length x2) + (1 : Nat)) * (16 : Nat)) ≤ (70368744177664 : Nat)))) && true)
     (nx x0 (IntKind.wrap .i64 (x1 + (1 : Int))) ((sub x2 (0 : Nat) (List.length x2)) ++ ((bs []) :: ([] : List (Sh.str.T)))))
     (none))
    (br (decide ((97 : Int) ≤ (bt x0 x1)))
     (br (decide ((bt x0 x1) ≤ (122 : Int)))
      (br (inB (IntKind.wrap .i64 ((Nat.cast (List.length x2) : Int) - (1 : Int))) (List.length x2))
       (br (decide ((Int.toNat (IntKind.wrap .i64 ((Nat.cast (List.length x2) : Int) - (1 : Int)))) < (List.length x2)))
        (br (decide (((ByteArray.size (List.getD x2 (Int.toNat (IntKind.wrap .i64 ((Nat.cast (List.length x2) : Int) - (1 : Int)))) (bs []))) + (ByteArray.size (mkStr ((bt x0 x1) :: ([] : List ((Sh.int IntKind.u8).T)))))) < (1099511627776 : Nat)))
         (br (inB (IntKind.wrap .i64 ((Nat.cast (List.length x2) : Int) - (1 : Int))) (List.length x2))
          (br (decide ((Int.toNat (IntKind.wrap .i64 ((Nat.cast (List.length x2) : Int) - (1 : Int)))) < (List.length x2)))
           (nx x0 (IntKind.wrap .i64 (x1 + (1 : Int))) (List.set x2 (Int.toNat (IntKind.wrap .i64 ((Nat.cast (List.length x2) : Int) - (1 : Int)))) ((List.getD x2 (Int.toNat (IntKind.wrap .i64 ((Nat.cast (List.length x2) : Int) - (1 : Int)))) (bs [])) ++ (mkStr ((bt x0 x1) :: ([] : List ((Sh.int IntKind.u8).T)))))))
           (none))
          (none))
         (none))
        (none))
       (none))
      (br (decide ((48 : Int) ≤ (bt x0 x1)))
       (br (decide ((bt x0 x1) ≤ (57 : Int)))
        (br (inB (IntKind.wrap .i64 ((Nat.cast (List.length x2) : Int) - (1 : Int))) (List.length x2))
         (br (decide ((Int.toNat (IntKind.wrap .i64 ((Nat.cast (List.length x2) : Int) - (1 : Int)))) < (List.length x2)))
          (br (decide (((ByteArray.size (List.getD x2 (Int.toNat (IntKind.wrap .i64 ((Nat.cast (List.length x2) : Int) - (1 : Int)))) (bs []))) + (ByteArray.size (mkStr ((bt x0 x1) :: ([] : List ((Sh.int IntKind.u8).T)))))) < (1099511627776 : Nat)))
           (br (inB (IntKind.wrap .i64 ((Nat.cast (List.length x2) : Int) - (1 : Int))) (List.length x2))
            (br (decide ((Int.toNat (IntKind.wrap .i64 ((Nat.cast (List.length x2) : Int) - (1 : Int)))) < (List.length x2)))
             (nx x0 (IntKind.wrap .i64 (x1 + (1 : Int))) (List.set x2 (Int.toNat (IntKind.wrap .i64 ((Nat.cast (List.length x2) : Int) - (1 : Int)))) ((List.getD x2 (Int.toNat (IntKind.wrap .i64 ((Nat.cast (List.length x2) : Int) - (1 : Int)))) (bs [])) ++ (mkStr ((bt x0 x1) :: ([] : List ((Sh.int IntKind.u8).T)))))))
             (none))
            (none))
           (none))
          (none))
         (none))
        (br (decide ((bt x0 x1) = (46 : Int)))
         (br (inB (IntKind.wrap .i64 ((Nat.cast (List.length x2) : Int) - (1 : Int))) (List.length x2))
          (br (decide ((Int.toNat (IntKind.wrap .i64 ((Nat.cast (List.length x2) : Int) - (1 : Int)))) < (List.length x2)))
           (br (decide (((ByteArray.size (List.getD x2 (Int.toNat (IntKind.wrap .i64 ((Nat.cast (List.length x2) : Int) - (1 : Int)))) (bs []))) + (ByteArray.size (mkStr ((bt x0 x1) :: ([] : List ((Sh.int IntKind.u8).T)))))) < (1099511627776 : Nat)))
            (br (inB (IntKind.wrap .i64 ((Nat.cast (List.length x2) : Int) - (1 : Int))) (List.length x2))
             (br (decide ((Int.toNat (IntKind.wrap .i64 ((Nat.cast (List.length x2) : Int) - (1 : Int)))) < (List.length x2)))
              (nx x0 (IntKind.wrap .i64 (x1 + (1 : Int))) (List.set x2 (Int.toNat (IntKind.wrap .i64 ((Nat.cast (List.length x2) : Int) - (1 : Int)))) ((List.getD x2 (Int.toNat (IntKind.wrap .i64 ((Nat.cast (List.length x2) : Int) - (1 : Int)))) (bs [])) ++ (mkStr ((bt x0 x1) :: ([] : List ((Sh.int IntKind.u8).T)))))))
              (none))
             (none))
            (none))
           (none))
          (none))
         (br (decide ((bt x0 x1) = (95 : Int)))
          (br (inB (IntKind.wrap .i64 ((Nat.cast (List.length x2) : Int) - (1 : Int))) (List.length x2))
           (br (decide ((Int.toNat (IntKind.wrap .i64 ((Nat.cast (List.length x2) : Int) - (1 : Int)))) < (List.length x2)))
            (br (decide (((ByteArray.size (List.getD x2 (Int.toNat (IntKind.wrap .i64 ((Nat.cast (List.length x2) : Int) - (1 : Int)))) (bs []))) + (ByteArray.size (mkStr ((bt x0 x1) :: ([] : List ((Sh.int IntKind.u8).T)))))) < (1099511627776 : Nat)))
             (br (inB (IntKind.wrap .i64 ((Nat.cast (List.length x2) : Int) - (1 : Int))) (List.length x2))
              (br (decide ((Int.toNat (IntKind.wrap .i64 ((Nat.cast (List.length x2) : Int) - (1 : Int)))) < (List.length x2)))
               (nx x0 (IntKind.wrap .i64 (x1 + (1 : Int))) (List.set x2 (Int.toNat (IntKind.wrap .i64 ((Nat.cast (List.length x2) : Int) - (1 : Int)))) ((List.getD x2 (Int.toNat (IntKind.wrap .i64 ((Nat.cast (List.length x2) : Int) - (1 : Int)))) (bs [])) ++ (mkStr ((bt x0 x1) :: ([] : List ((Sh.int IntKind.u8).T)))))))
               (none))
              (none))
             (none))
            (none))
           (none))
          (k0 false x2))))
       (br (decide ((bt x0 x1) = (46 : Int)))
        (br (inB (IntKind.wrap .i64 ((Nat.cast (List.length x2) : Int) - (1 : Int))) (List.length x2))
         (br (decide ((Int.toNat (IntKind.wrap .i64 ((Nat.cast (List.length x2) : Int) - (1 : Int)))) < (List.length x2)))
          (br (decide (((ByteArray.size (List.getD x2 (Int.toNat (IntKind.wrap .i64 ((Nat.cast (List.length x2) : Int) - (1 : Int)))) (bs []))) + (ByteArray.size (mkStr ((bt x0 x1) :: ([] : List ((Sh.int IntKind.u8).T)))))) < (1099511627776 : Nat)))
           (br (inB (IntKind.wrap .i64 ((Nat.cast (List.length x2) : Int) - (1 : Int))) (List.length x2))
            (br (decide ((Int.toNat (IntKind.wrap .i64 ((Nat.cast (List.length x2) : Int) - (1 : Int)))) < (List.length x2)))
             (nx x0 (IntKind.wrap .i64 (x1 + (1 : Int))) (List.set x2 (Int.toNat (IntKind.wrap .i64 ((Nat.cast (List.length x2) : Int) - (1 : Int)))) ((List.getD x2 (Int.toNat (IntKind.wrap .i64 ((Nat.cast (List.length x2) : Int) - (1 : Int)))) (bs [])) ++ (mkStr ((bt x0 x1) :: ([] : List ((Sh.int IntKind.u8).T)))))))
             (none))
            (none))
           (none))
          (none))
         (none))
        (br (decide ((bt x0 x1) = (95 : Int)))
         (br (inB (IntKind.wrap .i64 ((Nat.cast (List.length x2) : Int) - (1 : Int))) (List.length x2))
          (br (decide ((Int.toNat (IntKind.wrap .i64 ((Nat.cast (List.length x2) : Int) - (1 : Int)))) < (List.length x2)))
           (br (decide (((ByteArray.size (List.getD x2 (Int.toNat (IntKind.wrap .i64 ((Nat.cast (List.length x2) : Int) - (1 : Int)))) (bs []))) + (ByteArray.size (mkStr ((bt x0 x1) :: ([] : List ((Sh.int IntKind.u8).T)))))) < (1099511627776 : Nat)))
            (br (inB (IntKind.wrap .i64 ((Nat.cast (List.length x2) : Int) - (1 : Int))) (List.length x2))
             (br (decide ((Int.toNat (IntKind.wrap .i64 ((Nat.cast (List.length x2) : Int) - (1 : Int)))) < (List.length x2)))
              (nx x0 (IntKind.wrap .i64 (x1 + (1 : Int))) (List.set x2 (Int.toNat (IntKind.wrap .i64 ((Nat.cast (List.length x2) : Int) - (1 : Int)))) ((List.getD x2 (Int.toNat (IntKind.wrap .i64 ((Nat.cast (List.length x2) : Int) - (1 : Int)))) (bs [])) ++ (mkStr ((bt x0 x1) :: ([] : List ((Sh.int IntKind.u8).T)))))))
              (none))
             (none))
            (none))
           (none))
          (none))
         (k0 false x2)))))
     (br (decide ((48 : Int) ≤ (bt x0 x1)))
      (br (decide ((bt x0 x1) ≤ (57 : Int)))
       (br (inB (IntKind.wrap .i64 ((Nat.cast (List.length x2) : Int) - (1 : Int))) (List.length x2))
        (br (decide ((Int.toNat (IntKind.wrap .i64 ((Nat.cast (List.length x2) : Int) - (1 : Int)))) < (List.length x2)))
         (br (decide (((ByteArray.size (List.getD x2 (Int.toNat (IntKind.wrap .i64 ((Nat.cast (List.length x2) : Int) - (1 : Int)))) (bs []))) + (ByteArray.size (mkStr ((bt x0 x1) :: ([] : List ((Sh.int IntKind.u8).T)))))) < (1099511627776 : Nat)))
          (br (inB (IntKind.wrap .i64 ((Nat.cast (List.length x2) : Int) - (1 : Int))) (List.length x2))
           (br (decide ((Int.toNat (IntKind.wrap .i64 ((Nat.cast (List.length x2) : Int) - (1 : Int)))) < (List.length x2)))
            (nx x0 (IntKind.wrap .i64 (x1 + (1 : Int))) (List.set x2 (Int.toNat (IntKind.wrap .i64 ((Nat.cast (List.length x2) : Int) - (1 : Int)))) ((List.getD x2 (Int.toNat (IntKind.wrap .i64 ((Nat.cast (List.length x2) : Int) - (1 : Int)))) (bs [])) ++ (mkStr ((bt x0 x1) :: ([] : List ((Sh.int IntKind.u8).T)))))))
            (none))
           (none))
          (none))
         (none))
        (none))
       (br (decide ((bt x0 x1) = (46 : Int)))
        (br (inB (IntKind.wrap .i64 ((Nat.cast (List.length x2) : Int) - (1 : Int))) (List.length x2))
         (br (decide ((Int.toNat (IntKind.wrap .i64 ((Nat.cast (List.length x2) : Int) - (1 : Int)))) < (List.length x2)))
          (br (decide (((ByteArray.size (List.getD x2 (Int.toNat (IntKind.wrap .i64 ((Nat.cast (List.length x2) : Int) - (1 : Int)))) (bs []))) + (ByteArray.size (mkStr ((bt x0 x1) :: ([] : List ((Sh.int IntKind.u8).T)))))) < (1099511627776 : Nat)))
           (br (inB (IntKind.wrap .i64 ((Nat.cast (List.length x2) : Int) - (1 : Int))) (List.length x2))
            (br (decide ((Int.toNat (IntKind.wrap .i64 ((Nat.cast (List.length x2) : Int) - (1 : Int)))) < (List.length x2)))
             (nx x0 (IntKind.wrap .i64 (x1 + (1 : Int))) (List.set x2 (Int.toNat (IntKind.wrap .i64 ((Nat.cast (List.length x2) : Int) - (1 : Int)))) ((List.getD x2 (Int.toNat (IntKind.wrap .i64 ((Nat.cast (List.length x2) : Int) - (1 : Int)))) (bs [])) ++ (mkStr ((bt x0 x1) :: ([] : List ((Sh.int IntKind.u8).T)))))))
             (none))
            (none))
           (none))
          (none))
         (none))
        (br (decide ((bt x0 x1) = (95 : Int)))
         (br (inB (IntKind.wrap .i64 ((Nat.cast (List.length x2) : Int) - (1 : Int))) (List.length x2))
          (br (decide ((Int.toNat (IntKind.wrap .i64 ((Nat.cast (List.length x2) : Int) - (1 : Int)))) < (List.length x2)))
           (br (decide (((ByteArray.size (List.getD x2 (Int.toNat (IntKind.wrap .i64 ((Nat.cast (List.length x2) : Int) - (1 : Int)))) (bs []))) + (ByteArray.size (mkStr ((bt x0 x1) :: ([] : List ((Sh.int IntKind.u8).T)))))) < (1099511627776 : Nat)))
            (br (inB (IntKind.wrap .i64 ((Nat.cast (List.length x2) : Int) - (1 : Int))) (List.length x2))
             (br (decide ((Int.toNat (IntKind.wrap .i64 ((Nat.cast (List.length x2) : Int) - (1 : Int)))) < (List.length x2)))
              (nx x0 (IntKind.wrap .i64 (x1 + (1 : Int))) (List.set x2 (Int.toNat (IntKind.wrap .i64 ((Nat.cast (List.length x2) : Int) - (1 : Int)))) ((List.getD x2 (Int.toNat (IntKind.wrap .i64 ((Nat.cast (List.length x2) : Int) - (1 : Int)))) (bs [])) ++ (mkStr ((bt x0 x1) :: ([] : List ((Sh.int IntKind.u8).T)))))))
              (none))
             (none))
            (none))
           (none))
          (none))
         (k0 false x2))))
      (br (decide ((bt x0 x1) = (46 : Int)))
       (br (inB (IntKind.wrap .i64 ((Nat.cast (List.length x2) : Int) - (1 : Int))) (List.length x2))
        (br (decide ((Int.toNat (IntKind.wrap .i64 ((Nat.cast (List.length x2) : Int) - (1 : Int)))) < (List.length x2)))
         (br (decide (((ByteArray.size (List.getD x2 (Int.toNat (IntKind.wrap .i64 ((Nat.cast (List.length x2) : Int) - (1 : Int)))) (bs []))) + (ByteArray.size (mkStr ((bt x0 x1) :: ([] : List ((Sh.int IntKind.u8).T)))))) < (1099511627776 : Nat)))
          (br (inB (IntKind.wrap .i64 ((Nat.cast (List.length x2) : Int) - (1 : Int))) (List.length x2))
           (br (decide ((Int.toNat (IntKind.wrap .i64 ((Nat.cast (List.length x2) : Int) - (1 : Int)))) < (List.length x2)))
            (nx x0 (IntKind.wrap .i64 (x1 + (1 : Int))) (List.set x2 (Int.toNat (IntKind.wrap .i64 ((Nat.cast (List.length x2) : Int) - (1 : Int)))) ((List.getD x2 (Int.toNat (IntKind.wrap .i64 ((Nat.cast (List.length x2) : Int) - (1 : Int)))) (bs [])) ++ (mkStr ((bt x0 x1) :: ([] : List ((Sh.int IntKind.u8).T)))))))
            (none))
           (none))
          (none))
         (none))
        (none))
       (br (decide ((bt x0 x1) = (95 : Int)))
        (br (inB (IntKind.wrap .i64 ((Nat.cast (List.length x2) : Int) - (1 : Int))) (List.length x2))
         (br (decide ((Int.toNat (IntKind.wrap .i64 ((Nat.cast (List.length x2) : Int) - (1 : Int)))) < (List.length x2)))
          (br (decide (((ByteArray.size (List.getD x2 (Int.toNat (IntKind.wrap .i64 ((Nat.cast (List.length x2) : Int) - (1 : Int)))) (bs []))) + (ByteArray.size (mkStr ((bt x0 x1) :: ([] : List ((Sh.int IntKind.u8).T)))))) < (1099511627776 : Nat)))
           (br (inB (IntKind.wrap .i64 ((Nat.cast (List.length x2) : Int) - (1 : Int))) (List.length x2))
            (br (decide ((Int.toNat (IntKind.wrap .i64 ((Nat.cast (List.length x2) : Int) - (1 : Int)))) < (List.length x2)))
             (nx x0 (IntKind.wrap .i64 (x1 + (1 : Int))) (List.set x2 (Int.toNat (IntKind.wrap .i64 ((Nat.cast (List.length x2) : Int) - (1 : Int)))) ((List.getD x2 (Int.toNat (IntKind.wrap .i64 ((Nat.cast (List.length x2) : Int) - (1 : Int)))) (bs [])) ++ (mkStr ((bt x0 x1) :: ([] : List ((Sh.int IntKind.u8).T)))))))
             (none))
            (none))
           (none))
          (none))
         (none))
        (k0 false x2))))))
   (none))
  (k1 x2)
noncomputable def ref12_NameMay_l1_T0 (N : Nat) {R : Type} (nx : (Int) → (List (ByteArray)) → Option R) (k0 : (Bool) → (List (ByteArray)) → Option R) (k1 : (List (ByteArray)) → Option R) (x0 : Int) (x1 : List (ByteArray)) : Option R :=
  br (decide (x0 < (Nat.cast (List.length x1) : Int)))
  (br (inB x0 (List.length x1))
   (br (decide ((Int.toNat x0) < (List.length x1)))
    (br (!(decide ((List.getD x1 (Int.toNat x0) (bs [])) = (bs []))))
     (br (inB x0 (List.length x1))
      (br (decide ((Int.toNat x0) < (List.length x1)))
       (br (!(decide ((List.getD x1 (Int.toNat x0) (bs [])) = (bs [46]))))
        (br (inB x0 (List.length x1))
         (br (decide ((Int.toNat x0) < (List.length x1)))
          (br (decide ((List.getD x1 (Int.toNat x0) (bs [])) = (bs [46, 46])))
           (k0 false x1)
           (nx (IntKind.wrap .i64 (x0 + (1 : Int))) x1))
          (none))
         (none))
        (k0 false x1))
       (none))
      (none))
     (k0 false x1))
    (none))
   (none))
  (k1 x1)
noncomputable def ref12_NameMay_l1 (N : Nat) {R : Type} (k0 : (Bool) → (List (ByteArray)) → Option R) (k1 : (List (ByteArray)) → Option R) : Nat → (Int) → (List (ByteArray)) → Option R
  | 0, _, _ => none
  | n + 1, x0, x1 => ref12_NameMay_l1_T0 N (fun x0 x1 => ref12_NameMay_l1 N k0 k1 n x0 x1) k0 k1 x0 x1
noncomputable def ref12_NameMay_l0 (N : Nat) {R : Type} (k0 : (Bool) → (List (ByteArray)) → Option R) (k1 : (List (ByteArray)) → Option R) : Nat → (ByteArray) → (Int) → (List (ByteArray)) → Option R
  | 0, _, _, _ => none
  | n + 1, x0, x1, x2 => ref12_NameMay_l0_T0 N (@ref12_NameMay_l1 N) (fun x0 x1 x2 => ref12_NameMay_l0 N k0 k1 n x0 x1 x2) k0 k1 x0 x1 x2
noncomputable def ref12_NameMay_T (N : Nat) (w0 : ref12_NameMay_l0_Ty) (w1 : ref12_NameMay_l1_Ty) {R : Type} (x0 : ByteArray) (k0 : (Bool) → Option R) : Option R :=
  br (!(decide ((Nat.cast (ByteArray.size x0) : Int) < (1 : Int))))
  (br (decide ((8 : Int) < (Nat.cast (ByteArray.size x0) : Int)))
   (k0 false)
   (w0
    (fun b330 l331 => k0 b330)
    (fun l332 => w1
     (fun b333 l334 => k0 b333)
     (fun l335 => k0 (decide ((Nat.cast (List.length l335) : Int) ≤ (2 : Int))))
     N (0 : Int) l332)
    N x0 (0 : Int) ((bs []) :: ([] : List (Sh.str.T)))))
  (k0 false)
noncomputable def ref12_NameMay (N : Nat) {R : Type} (x0 : ByteArray) (k0 : (Bool) → Option R) : Option R := ref12_NameMay_T N (@ref12_NameMay_l0 N) (@ref12_NameMay_l1 N) x0 k0
abbrev ref12_Tree_at_7d70_l0_Ty : Type 1 := {R : Type} → ((Int) → (Int) → (List ((ByteArray) × ((Bool) × (Int)))) → Option R) → ((Int) → (List ((ByteArray) × ((Bool) × (Int)))) → Option R) → Nat → (ByteArray) → (Int) → (Int) → (List ((ByteArray) × ((Bool) × (Int)))) → Option R
abbrev ref12_Tree_at_7d70_Ty : Type 1 := {R : Type} → (ByteArray) → (Int) → (List ((ByteArray) × ((Bool) × (Int)))) → ((Int) → (Int) → (List ((ByteArray) × ((Bool) × (Int)))) → Option R) → Option R
noncomputable def ref12_Tree_at_7d70_l0_T0 (N : Nat) {R : Type} (nx : (ByteArray) → (Int) → (Int) → (List ((ByteArray) × ((Bool) × (Int)))) → Option R) (k0 : (Int) → (Int) → (List ((ByteArray) × ((Bool) × (Int)))) → Option R) (k1 : (Int) → (List ((ByteArray) × ((Bool) × (Int)))) → Option R) (x0 : ByteArray) (x1 : Int) (x2 : Int) (x3 : List ((ByteArray) × ((Bool) × (Int)))) : Option R :=
  br (decide (x1 < (Nat.cast (List.length x3) : Int)))
  (br (inB x1 (List.length x3))
   (br (decide ((Int.toNat x1) < (List.length x3)))
    (br (decide ((List.getD x3 (Int.toNat x1) ((bs []) , (false , (0 : Int)))).1 = x0))
     (k0 x1 x2 x3)
     (nx x0 (IntKind.wrap .i64 (x1 + (1 : Int))) x2 x3))
    (none))
   (none))
  (k1 x2 x3)
noncomputable def ref12_Tree_at_7d70_l0 (N : Nat) {R : Type} (k0 : (Int) → (Int) → (List ((ByteArray) × ((Bool) × (Int)))) → Option R) (k1 : (Int) → (List ((ByteArray) × ((Bool) × (Int)))) → Option R) : Nat → (ByteArray) → (Int) → (Int) → (List ((ByteArray) × ((Bool) × (Int)))) → Option R
  | 0, _, _, _, _ => none
  | n + 1, x0, x1, x2, x3 => ref12_Tree_at_7d70_l0_T0 N (fun x0 x1 x2 x3 => ref12_Tree_at_7d70_l0 N k0 k1 n x0 x1 x2 x3) k0 k1 x0 x1 x2 x3
noncomputable def ref12_Tree_at_7d70_T (N : Nat) (w0 : ref12_Tree_at_7d70_l0_Ty) {R : Type} (x0 : ByteArray) (x1 : Int) (x2 : List ((ByteArray) × ((Bool) × (Int)))) (k0 : (Int) → (Int) → (List ((ByteArray) × ((Bool) × (Int)))) → Option R) : Option R :=
  w0
  (fun i337 i338 l339 => k0 i337 i338 l339)
  (fun i340 l341 => k0 (-1 : Int) i340 l341)
  N x0 (0 : Int) x1 x2
noncomputable def ref12_Tree_at_7d70 (N : Nat) {R : Type} (x0 : ByteArray) (x1 : Int) (x2 : List ((ByteArray) × ((Bool) × (Int)))) (k0 : (Int) → (Int) → (List ((ByteArray) × ((Bool) × (Int)))) → Option R) : Option R := ref12_Tree_at_7d70_T N (@ref12_Tree_at_7d70_l0 N) x0 x1 x2 k0
abbrev ref12_Split_l0_Ty : Type 1 := {R : Type} → ((ByteArray) → (ByteArray) → (ByteArray) → Option R) → ((ByteArray) → Option R) → Nat → (ByteArray) → (Int) → Option R
abbrev ref12_Split_Ty : Type 1 := {R : Type} → (ByteArray) → ((ByteArray) → (ByteArray) → Option R) → Option R
noncomputable def ref12_Split_l0_T0 (N : Nat) (c0 : ref12_NameMay_Ty) {R : Type} (nx : (ByteArray) → (Int) → Option R) (k0 : (ByteArray) → (ByteArray) → (ByteArray) → Option R) (k1 : (ByteArray) → Option R) (x0 : ByteArray) (x1 : Int) : Option R :=
  br (decide (x1 < (Nat.cast (ByteArray.size x0) : Int)))
  (br (inB x1 (ByteArray.size x0))
   (br (decide ((bt x0 x1) = (47 : Int)))
    (br (leB x1 (ByteArray.size x0))
     (br (leB (IntKind.wrap .i64 (x1 + (1 : Int))) (ByteArray.size x0))
      (k0 x0 (ByteArray.extract x0 (0 : Nat) (Int.toNat x1)) (ByteArray.extract x0 (Int.toNat (IntKind.wrap .i64 (x1 + (1 : Int)))) (ByteArray.size x0)))
      (none))
     (none))
    (nx x0 (IntKind.wrap .i64 (x1 + (1 : Int)))))
   (none))
  (k1 x0)
noncomputable def ref12_Split_l0 (N : Nat) {R : Type} (k0 : (ByteArray) → (ByteArray) → (ByteArray) → Option R) (k1 : (ByteArray) → Option R) : Nat → (ByteArray) → (Int) → Option R
  | 0, _, _ => none
  | n + 1, x0, x1 => ref12_Split_l0_T0 N (@ref12_NameMay N) (fun x0 x1 => ref12_Split_l0 N k0 k1 n x0 x1) k0 k1 x0 x1
noncomputable def ref12_Split_T (N : Nat) (c0 : ref12_NameMay_Ty) (w0 : ref12_Split_l0_Ty) {R : Type} (x0 : ByteArray) (k0 : (ByteArray) → (ByteArray) → Option R) : Option R :=
  c0 x0
  (fun b345 => br (!b345)
   (k0 (bs []) (bs []))
   (w0
    (fun s346 s347 s348 => k0 s347 s348)
    (fun s349 => k0 (bs []) s349)
    N x0 (0 : Int)))
noncomputable def ref12_Split (N : Nat) {R : Type} (x0 : ByteArray) (k0 : (ByteArray) → (ByteArray) → Option R) : Option R := ref12_Split_T N (@ref12_NameMay N) (@ref12_Split_l0 N) x0 k0
abbrev ref12_NewTree_l0_Ty : Type 1 := {R : Type} → ((List ((ByteArray) × ((Bool) × (Int)))) → (Int) → (Int) → (List ((ByteArray) × ((Bool) × (Int)))) → Option R) → ((List ((ByteArray) × ((Bool) × (Int)))) → (Int) → (List ((ByteArray) × ((Bool) × (Int)))) → Option R) → Nat → (List ((ByteArray) × ((Bool) × (Int)))) → (Int) → (Int) → (List ((ByteArray) × ((Bool) × (Int)))) → Option R
abbrev ref12_NewTree_Ty : Type 1 := {R : Type} → (List ((ByteArray) × ((Bool) × (Int)))) → ((Int) → Option R) → ((Int) → (Int) → (List ((ByteArray) × ((Bool) × (Int)))) → Option R) → Option R
noncomputable def ref12_NewTree_l0_T0 (N : Nat) (c0 : ref12_Split_Ty) (c1 : ref12_Tree_at_7d70_Ty) (c2 : ref12_NameMay_Ty) {R : Type} (nx : (List ((ByteArray) × ((Bool) × (Int)))) → (Int) → (Int) → (List ((ByteArray) × ((Bool) × (Int)))) → Option R) (k0 : (List ((ByteArray) × ((Bool) × (Int)))) → (Int) → (Int) → (List ((ByteArray) × ((Bool) × (Int)))) → Option R) (k1 : (List ((ByteArray) × ((Bool) × (Int)))) → (Int) → (List ((ByteArray) × ((Bool) × (Int)))) → Option R) (x0 : List ((ByteArray) × ((Bool) × (Int)))) (x1 : Int) (x2 : Int) (x3 : List ((ByteArray) × ((Bool) × (Int)))) : Option R :=
  br (decide (x1 < (Nat.cast (List.length x0) : Int)))
  (br (inB x1 (List.length x0))
   (c2 (List.getD x0 (Int.toNat x1) ((bs []) , (false , (0 : Int)))).1
    (fun b336 => br (!(!b336))
     (br (inB x1 (List.length x0))
      (c1 (List.getD x0 (Int.toNat x1) ((bs []) , (false , (0 : Int)))).1 x2 x3
       (fun i342 i343 l344 => br (decide ((0 : Int) ≤ i342))
        (k0 x0 (11 : Int) i343 l344)
        (br (inB x1 (List.length x0))
         (c0 (List.getD x0 (Int.toNat x1) ((bs []) , (false , (0 : Int)))).1
          (fun s350 s351 => br (!(decide (s350 = (bs []))))
           (br (inB x1 (List.length x0))
            (br (!(List.getD x0 (Int.toNat x1) ((bs []) , (false , (0 : Int)))).2.1)
             (c1 s350 i343 l344
              (fun i352 i353 l354 => br (!(decide (i352 < (0 : Int))))
               (c1 s350 i353 l354
                (fun i355 i356 l357 => br (inB i355 (List.length l357))
                 (br (decide ((Int.toNat i355) < (List.length l357)))
                  (br (!(List.getD l357 (Int.toNat i355) ((bs []) , (false , (0 : Int)))).2.1)
                   (k0 x0 (11 : Int) i356 l357)
                   (br (inB x1 (List.length x0))
                    (br (inB x1 (List.length x0))
                     (br (((fits (0 : Nat) (List.length l357) l357) && (decide ((((List.length l357) + (1 : Nat)) * (32 : Nat)) ≤ (70368744177664 : Nat)))) && true)
                      (nx x0 (IntKind.wrap .i64 (x1 + (1 : Int))) i356 ((sub l357 (0 : Nat) (List.length l357)) ++ (((List.getD x0 (Int.toNat x1) ((bs []) , (false , (0 : Int)))).1 , ((List.getD x0 (Int.toNat x1) ((bs []) , (false , (0 : Int)))).2.1 , x1)) :: ([] : List ((Sh.str.pair (Sh.bool.pair (Sh.int IntKind.i64))).T)))))
                      (none))
                     (none))
                    (none)))
                  (none))
                 (none)))
               (k0 x0 (11 : Int) i353 l354)))
             (k0 x0 (11 : Int) i343 l344))
            (none))
           (br (inB x1 (List.length x0))
            (br (inB x1 (List.length x0))
             (br (((fits (0 : Nat) (List.length l344) l344) && (decide ((((List.length l344) + (1 : Nat)) * (32 : Nat)) ≤ (70368744177664 : Nat)))) && true)
              (nx x0 (IntKind.wrap .i64 (x1 + (1 : Int))) i343 ((sub l344 (0 : Nat) (List.length l344)) ++ (((List.getD x0 (Int.toNat x1) ((bs []) , (false , (0 : Int)))).1 , ((List.getD x0 (Int.toNat x1) ((bs []) , (false , (0 : Int)))).2.1 , x1)) :: ([] : List ((Sh.str.pair (Sh.bool.pair (Sh.int IntKind.i64))).T)))))
              (none))
             (none))
            (none))))
         (none))))
      (none))
     (k0 x0 (11 : Int) x2 x3)))
   (none))
  (k1 x0 x2 x3)
noncomputable def ref12_NewTree_l0 (N : Nat) {R : Type} (k0 : (List ((ByteArray) × ((Bool) × (Int)))) → (Int) → (Int) → (List ((ByteArray) × ((Bool) × (Int)))) → Option R) (k1 : (List ((ByteArray) × ((Bool) × (Int)))) → (Int) → (List ((ByteArray) × ((Bool) × (Int)))) → Option R) : Nat → (List ((ByteArray) × ((Bool) × (Int)))) → (Int) → (Int) → (List ((ByteArray) × ((Bool) × (Int)))) → Option R
  | 0, _, _, _, _ => none
  | n + 1, x0, x1, x2, x3 => ref12_NewTree_l0_T0 N (@ref12_Split N) (@ref12_Tree_at_7d70 N) (@ref12_NameMay N) (fun x0 x1 x2 x3 => ref12_NewTree_l0 N k0 k1 n x0 x1 x2 x3) k0 k1 x0 x1 x2 x3
noncomputable def ref12_NewTree_T (N : Nat) (c0 : ref12_Split_Ty) (c1 : ref12_Tree_at_7d70_Ty) (c2 : ref12_NameMay_Ty) (w0 : ref12_NewTree_l0_Ty) {R : Type} (x0 : List ((ByteArray) × ((Bool) × (Int)))) (k0 : (Int) → Option R) (k1 : (Int) → (Int) → (List ((ByteArray) × ((Bool) × (Int)))) → Option R) : Option R :=
  br (decide ((8 : Int) < (Nat.cast (List.length x0) : Int)))
  (k0 (11 : Int))
  (w0
   (fun l358 i359 i360 l361 => k0 i359)
   (fun l362 i363 l364 => k1 (0 : Int) (Nat.cast (List.length l362) : Int) l364)
   N x0 (0 : Int) (0 : Int) ([] : List ((Sh.str.pair (Sh.bool.pair (Sh.int IntKind.i64))).T)))
noncomputable def ref12_NewTree (N : Nat) {R : Type} (x0 : List ((ByteArray) × ((Bool) × (Int)))) (k0 : (Int) → Option R) (k1 : (Int) → (Int) → (List ((ByteArray) × ((Bool) × (Int)))) → Option R) : Option R := ref12_NewTree_T N (@ref12_Split N) (@ref12_Tree_at_7d70 N) (@ref12_NameMay N) (@ref12_NewTree_l0 N) x0 k0 k1
abbrev ref17_Caps_l0_Ty : Type 1 := {R : Type} → ((List ((ByteArray) × ((Bool) × (Int)))) → (List (Int)) → (Int) → (Int) → (Int) → (List (Int)) → Option R) → Nat → (Int) → (List ((ByteArray) × ((Bool) × (Int)))) → (List (Int)) → (Int) → (Int) → (Int) → (List (Int)) → Option R
abbrev ref17_Caps_Ty : Type 1 := {R : Type} → (List ((ByteArray) × ((Bool) × (Int)))) → (List (Int)) → (Int) → (Int) → (Int) → ((List (Int)) → Option R) → Option R
noncomputable def ref17_Caps_l0_T0 (N : Nat) {R : Type} (nx : (Int) → (List ((ByteArray) × ((Bool) × (Int)))) → (List (Int)) → (Int) → (Int) → (Int) → (List (Int)) → Option R) (k0 : (List ((ByteArray) × ((Bool) × (Int)))) → (List (Int)) → (Int) → (Int) → (Int) → (List (Int)) → Option R) (x0 : Int) (x1 : List ((ByteArray) × ((Bool) × (Int)))) (x2 : List (Int)) (x3 : Int) (x4 : Int) (x5 : Int) (x6 : List (Int)) : Option R :=
  br (decide (x0 < (Nat.cast (List.length x1) : Int)))
  (br (inB x0 (List.length x1))
   (br (!(List.getD x1 (Int.toNat x0) ((bs []) , (false , (0 : Int)))).2.1)
    (br (inB x0 (List.length x1))
     (br (((fits (0 : Nat) (List.length x6) x6) && (decide ((((List.length x6) + (1 : Nat)) * (8 : Nat)) ≤ (70368744177664 : Nat)))) && true)
      (nx (IntKind.wrap .i64 (x0 + (1 : Int))) x1 x2 x3 x4 x5 ((sub x6 (0 : Nat) (List.length x6)) ++ ((List.getD x1 (Int.toNat x0) ((bs []) , (false , (0 : Int)))).2.2 :: ([] : List ((Sh.int IntKind.i64).T)))))
      (none))
     (none))
    (nx (IntKind.wrap .i64 (x0 + (1 : Int))) x1 x2 x3 x4 x5 x6))
   (none))
  (k0 x1 x2 x3 x4 x5 x6)
noncomputable def ref17_Caps_l0 (N : Nat) {R : Type} (k0 : (List ((ByteArray) × ((Bool) × (Int)))) → (List (Int)) → (Int) → (Int) → (Int) → (List (Int)) → Option R) : Nat → (Int) → (List ((ByteArray) × ((Bool) × (Int)))) → (List (Int)) → (Int) → (Int) → (Int) → (List (Int)) → Option R
  | 0, _, _, _, _, _, _, _ => none
  | n + 1, x0, x1, x2, x3, x4, x5, x6 => ref17_Caps_l0_T0 N (fun x0 x1 x2 x3 x4 x5 x6 => ref17_Caps_l0 N k0 n x0 x1 x2 x3 x4 x5 x6) k0 x0 x1 x2 x3 x4 x5 x6
noncomputable def ref17_Caps_T (N : Nat) (w0 : ref17_Caps_l0_Ty) {R : Type} (x0 : List ((ByteArray) × ((Bool) × (Int)))) (x1 : List (Int)) (x2 : Int) (x3 : Int) (x4 : Int) (k0 : (List (Int)) → Option R) : Option R :=
  w0
  (fun l366 l367 i368 i369 i370 l371 => br (((fits (0 : Nat) (List.length l371) l371) && (decide ((((List.length l371) + (List.length l367)) * (8 : Nat)) ≤ (70368744177664 : Nat)))) && true)
   (k0 ((sub l371 (0 : Nat) (List.length l371)) ++ l367))
   (none))
  N (0 : Int) x0 x1 x2 x3 x4 ([] : List ((Sh.int IntKind.i64).T))
noncomputable def ref17_Caps (N : Nat) {R : Type} (x0 : List ((ByteArray) × ((Bool) × (Int)))) (x1 : List (Int)) (x2 : Int) (x3 : Int) (x4 : Int) (k0 : (List (Int)) → Option R) : Option R := ref17_Caps_T N (@ref17_Caps_l0 N) x0 x1 x2 x3 x4 k0
abbrev ref17_files_Ty : Type 1 := {R : Type} → (List ((ByteArray) × ((Bool) × (Int)))) → (List (Int)) → (Int) → (Int) → (Int) → ((Int) → Option R) → Option R
noncomputable def ref17_files_T (N : Nat) (c0 : ref17_Caps_Ty) {R : Type} (x0 : List ((ByteArray) × ((Bool) × (Int)))) (x1 : List (Int)) (x2 : Int) (x3 : Int) (x4 : Int) (k0 : (Int) → Option R) : Option R :=
  c0 x0 x1 x2 x3 x4
  (fun l372 => br (listDec (Sh.dec (.int .i64)) x1 x1)
   (br (decide ((Nat.cast (List.length x1) : Int) = (Nat.cast (List.length x1) : Int)))
    (k0 (IntKind.wrap .i64 ((Nat.cast (List.length l372) : Int) - (Nat.cast (List.length x1) : Int))))
    (none))
   (none))
noncomputable def ref17_files (N : Nat) {R : Type} (x0 : List ((ByteArray) × ((Bool) × (Int)))) (x1 : List (Int)) (x2 : Int) (x3 : Int) (x4 : Int) (k0 : (Int) → Option R) : Option R := ref17_files_T N (@ref17_Caps N) x0 x1 x2 x3 x4 k0
abbrev ref17_May_l0_Ty : Type 1 := {R : Type} → ((Bool) → (List ((ByteArray) × ((Bool) × (Int)))) → (List (Int)) → (Int) → (Int) → (Int) → Option R) → ((List ((ByteArray) × ((Bool) × (Int)))) → (List (Int)) → (Int) → (Int) → (Int) → Option R) → Nat → (Int) → (List ((ByteArray) × ((Bool) × (Int)))) → (List (Int)) → (Int) → (Int) → (Int) → Option R
abbrev ref17_May_l1_Ty : Type 1 := {R : Type} → ((Bool) → Option R) → (Option R) → Nat → (Int) → (List (Int)) → Option R
abbrev ref17_May_Ty : Type 1 := {R : Type} → (List ((ByteArray) × ((Bool) × (Int)))) → (List (Int)) → (Int) → (Int) → (Int) → ((Bool) → Option R) → Option R
noncomputable def ref17_May_l0_T0 (N : Nat) (c0 : ref17_Caps_Ty) (c1 : ref17_files_Ty) (c2 : ref12_NewTree_Ty) (w1 : ref17_May_l1_Ty) {R : Type} (nx : (Int) → (List ((ByteArray) × ((Bool) × (Int)))) → (List (Int)) → (Int) → (Int) → (Int) → Option R) (k0 : (Bool) → (List ((ByteArray) × ((Bool) × (Int)))) → (List (Int)) → (Int) → (Int) → (Int) → Option R) (k1 : (List ((ByteArray) × ((Bool) × (Int)))) → (List (Int)) → (Int) → (Int) → (Int) → Option R) (x0 : Int) (x1 : List ((ByteArray) × ((Bool) × (Int)))) (x2 : List (Int)) (x3 : Int) (x4 : Int) (x5 : Int) : Option R :=
  br (decide (x0 < (Nat.cast (List.length x1) : Int)))
  (br (inB x0 (List.length x1))
   (br (List.getD x1 (Int.toNat x0) ((bs []) , (false , (0 : Int)))).2.1
    (br (inB x0 (List.length x1))
     (br (!(decide ((List.getD x1 (Int.toNat x0) ((bs []) , (false , (0 : Int)))).2.2 = (0 : Int))))
      (k0 false x1 x2 x3 x4 x5)
      (nx (IntKind.wrap .i64 (x0 + (1 : Int))) x1 x2 x3 x4 x5))
     (none))
    (nx (IntKind.wrap .i64 (x0 + (1 : Int))) x1 x2 x3 x4 x5))
   (none))
  (k1 x1 x2 x3 x4 x5)
noncomputable def ref17_May_l1_T0 (N : Nat) (c0 : ref17_Caps_Ty) (c1 : ref17_files_Ty) (c2 : ref12_NewTree_Ty) {R : Type} (nx : (Int) → (List (Int)) → Option R) (k0 : (Bool) → Option R) (k1 : Option R) (x0 : Int) (x1 : List (Int)) : Option R :=
  br (decide (x0 < (Nat.cast (List.length x1) : Int)))
  (br (inB x0 (List.length x1))
   (br (decide ((Int.toNat x0) < (List.length x1)))
    (br (!(decide ((List.getD x1 (Int.toNat x0) (0 : Int)) < (0 : Int))))
     (br (inB x0 (List.length x1))
      (br (decide ((Int.toNat x0) < (List.length x1)))
       (br (decide ((3 : Int) < (List.getD x1 (Int.toNat x0) (0 : Int))))
        (k0 false)
        (nx (IntKind.wrap .i64 (x0 + (1 : Int))) x1))
       (none))
      (none))
     (k0 false))
    (none))
   (none))
  (k1)
noncomputable def ref17_May_l1 (N : Nat) {R : Type} (k0 : (Bool) → Option R) (k1 : Option R) : Nat → (Int) → (List (Int)) → Option R
  | 0, _, _ => none
  | n + 1, x0, x1 => ref17_May_l1_T0 N (@ref17_Caps N) (@ref17_files N) (@ref12_NewTree N) (fun x0 x1 => ref17_May_l1 N k0 k1 n x0 x1) k0 k1 x0 x1
noncomputable def ref17_May_l0 (N : Nat) {R : Type} (k0 : (Bool) → (List ((ByteArray) × ((Bool) × (Int)))) → (List (Int)) → (Int) → (Int) → (Int) → Option R) (k1 : (List ((ByteArray) × ((Bool) × (Int)))) → (List (Int)) → (Int) → (Int) → (Int) → Option R) : Nat → (Int) → (List ((ByteArray) × ((Bool) × (Int)))) → (List (Int)) → (Int) → (Int) → (Int) → Option R
  | 0, _, _, _, _, _, _ => none
  | n + 1, x0, x1, x2, x3, x4, x5 => ref17_May_l0_T0 N (@ref17_Caps N) (@ref17_files N) (@ref12_NewTree N) (@ref17_May_l1 N) (fun x0 x1 x2 x3 x4 x5 => ref17_May_l0 N k0 k1 n x0 x1 x2 x3 x4 x5) k0 k1 x0 x1 x2 x3 x4 x5
noncomputable def ref17_May_T (N : Nat) (c0 : ref17_Caps_Ty) (c1 : ref17_files_Ty) (c2 : ref12_NewTree_Ty) (w0 : ref17_May_l0_Ty) (w1 : ref17_May_l1_Ty) {R : Type} (x0 : List ((ByteArray) × ((Bool) × (Int)))) (x1 : List (Int)) (x2 : Int) (x3 : Int) (x4 : Int) (k0 : (Bool) → Option R) : Option R :=
  c2 x0
  (fun i365 => br (!(!(decide (i365 = (0 : Int)))))
   (c1 x0 x1 x2 x3 x4
    (fun i373 => br (!(decide ((4 : Int) < i373)))
     (br (!(decide ((2 : Int) < (Nat.cast (List.length x1) : Int))))
      (br (!(decide (x2 < (0 : Int))))
       (br (!(decide ((6 : Int) < x2)))
        (br (!(decide (x3 < (0 : Int))))
         (br (!(decide (x2 < x3)))
          (br (!(decide (x4 < (0 : Int))))
           (br (decide ((400 : Int) < x4))
            (k0 false)
            (w0
             (fun b374 l375 l376 i377 i378 i379 => k0 b374)
             (fun l380 l381 i382 i383 i384 => c0 l380 l381 i382 i383 i384
              (fun l385 => w1
               (fun b386 => k0 b386)
               (k0 true)
               N (0 : Int) l385))
             N (0 : Int) x0 x1 x2 x3 x4))
           (k0 false))
          (k0 false))
         (k0 false))
        (k0 false))
       (k0 false))
      (k0 false))
     (k0 false)))
   (k0 false))
  (fun i387 i388 l389 => br (!(!(decide (i387 = (0 : Int)))))
   (c1 x0 x1 x2 x3 x4
    (fun i390 => br (!(decide ((4 : Int) < i390)))
     (br (!(decide ((2 : Int) < (Nat.cast (List.length x1) : Int))))
      (br (!(decide (x2 < (0 : Int))))
       (br (!(decide ((6 : Int) < x2)))
        (br (!(decide (x3 < (0 : Int))))
         (br (!(decide (x2 < x3)))
          (br (!(decide (x4 < (0 : Int))))
           (br (decide ((400 : Int) < x4))
            (k0 false)
            (w0
             (fun b391 l392 l393 i394 i395 i396 => k0 b391)
             (fun l397 l398 i399 i400 i401 => c0 l397 l398 i399 i400 i401
              (fun l402 => w1
               (fun b403 => k0 b403)
               (k0 true)
               N (0 : Int) l402))
             N (0 : Int) x0 x1 x2 x3 x4))
           (k0 false))
          (k0 false))
         (k0 false))
        (k0 false))
       (k0 false))
      (k0 false))
     (k0 false)))
   (k0 false))
noncomputable def ref17_May (N : Nat) {R : Type} (x0 : List ((ByteArray) × ((Bool) × (Int)))) (x1 : List (Int)) (x2 : Int) (x3 : Int) (x4 : Int) (k0 : (Bool) → Option R) : Option R := ref17_May_T N (@ref17_Caps N) (@ref17_files N) (@ref12_NewTree N) (@ref17_May_l0 N) (@ref17_May_l1 N) x0 x1 x2 x3 x4 k0
abbrev ref17_texts_l0_Ty : Type 1 := {R : Type} → ((Int) → Option R) → Nat → (Int) → (Int) → (Int) → (Int) → Option R
abbrev ref17_texts_Ty : Type 1 := {R : Type} → (Int) → ((Int) → Option R) → Option R
noncomputable def ref17_texts_l0_T0 (N : Nat) {R : Type} (nx : (Int) → (Int) → (Int) → (Int) → Option R) (k0 : (Int) → Option R) (x0 : Int) (x1 : Int) (x2 : Int) (x3 : Int) : Option R :=
  br (decide (x3 < x0))
  (nx x0 (IntKind.wrap .i64 (x1 + (IntKind.wrap .i64 (x2 * (256 : Int))))) (IntKind.wrap .i64 (x2 * (256 : Int))) (IntKind.wrap .i64 (x3 + (1 : Int))))
  (k0 x1)
noncomputable def ref17_texts_l0 (N : Nat) {R : Type} (k0 : (Int) → Option R) : Nat → (Int) → (Int) → (Int) → (Int) → Option R
  | 0, _, _, _, _ => none
  | n + 1, x0, x1, x2, x3 => ref17_texts_l0_T0 N (fun x0 x1 x2 x3 => ref17_texts_l0 N k0 n x0 x1 x2 x3) k0 x0 x1 x2 x3
noncomputable def ref17_texts_T (N : Nat) (w0 : ref17_texts_l0_Ty) {R : Type} (x0 : Int) (k0 : (Int) → Option R) : Option R :=
  w0
  (fun i414 => k0 i414)
  N x0 (1 : Int) (1 : Int) (0 : Int)
noncomputable def ref17_texts (N : Nat) {R : Type} (x0 : Int) (k0 : (Int) → Option R) : Option R := ref17_texts_T N (@ref17_texts_l0 N) x0 k0
abbrev ref17_text_l0_Ty : Type 1 := {R : Type} → ((Int) → (Int) → Option R) → Nat → (Int) → (Int) → (Int) → Option R
abbrev ref17_text_l1_Ty : Type 1 := {R : Type} → ((List (Int)) → Option R) → Nat → (Int) → (Int) → (List (Int)) → Option R
abbrev ref17_text_Ty : Type 1 := {R : Type} → (Int) → ((List (Int)) → Option R) → Option R
noncomputable def ref17_text_l0_T0 (N : Nat) (w1 : ref17_text_l1_Ty) {R : Type} (nx : (Int) → (Int) → (Int) → Option R) (k0 : (Int) → (Int) → Option R) (x0 : Int) (x1 : Int) (x2 : Int) : Option R :=
  br (decide (x2 ≤ x0))
  (nx (IntKind.wrap .i64 (x0 - x2)) (IntKind.wrap .i64 (x1 + (1 : Int))) (IntKind.wrap .i64 (x2 * (256 : Int))))
  (k0 x0 x1)
noncomputable def ref17_text_l1_T0 (N : Nat) {R : Type} (nx : (Int) → (Int) → (List (Int)) → Option R) (k0 : (List (Int)) → Option R) (x0 : Int) (x1 : Int) (x2 : List (Int)) : Option R :=
  br (decide ((0 : Int) ≤ x1))
  (br (inB x1 (List.length x2))
   (br (decide ((Int.toNat x1) < (List.length x2)))
    (nx (IntKind.wrap .i64 (Int.tdiv x0 (256 : Int))) (IntKind.wrap .i64 (x1 - (1 : Int))) (List.set x2 (Int.toNat x1) (IntKind.wrap .u8 x0)))
    (none))
   (none))
  (k0 x2)
noncomputable def ref17_text_l1 (N : Nat) {R : Type} (k0 : (List (Int)) → Option R) : Nat → (Int) → (Int) → (List (Int)) → Option R
  | 0, _, _, _ => none
  | n + 1, x0, x1, x2 => ref17_text_l1_T0 N (fun x0 x1 x2 => ref17_text_l1 N k0 n x0 x1 x2) k0 x0 x1 x2
noncomputable def ref17_text_l0 (N : Nat) {R : Type} (k0 : (Int) → (Int) → Option R) : Nat → (Int) → (Int) → (Int) → Option R
  | 0, _, _, _ => none
  | n + 1, x0, x1, x2 => ref17_text_l0_T0 N (@ref17_text_l1 N) (fun x0 x1 x2 => ref17_text_l0 N k0 n x0 x1 x2) k0 x0 x1 x2
noncomputable def ref17_text_T (N : Nat) (w0 : ref17_text_l0_Ty) (w1 : ref17_text_l1_Ty) {R : Type} (x0 : Int) (k0 : (List (Int)) → Option R) : Option R :=
  w0
  (fun i421 i422 => br ((((decide ((0 : Int) ≤ i422)) && (decide (i422 ≤ i422))) && (decide ((i422 * (1 : Int)) ≤ ((2 : Int) ^ (46 : Nat))))) && true)
   (w1
    (fun l423 => k0 l423)
    N i421 (IntKind.wrap .i64 (i422 - (1 : Int))) (List.replicate (Int.toNat i422) (0 : Int)))
   (none))
  N x0 (0 : Int) (1 : Int)
noncomputable def ref17_text (N : Nat) {R : Type} (x0 : Int) (k0 : (List (Int)) → Option R) : Option R := ref17_text_T N (@ref17_text_l0 N) (@ref17_text_l1 N) x0 k0
abbrev law17_Small_l0_Ty : Type 1 := {R : Type} → ((Int) → (List ((ByteArray) × ((Bool) × (Int)))) → (List (Int)) → (Int) → (Int) → (Int) → Option R) → Nat → (Int) → (Int) → (List ((ByteArray) × ((Bool) × (Int)))) → (List (Int)) → (Int) → (Int) → (Int) → Option R
abbrev law17_Small_Ty : Type 1 := {R : Type} → (List ((ByteArray) × ((Bool) × (Int)))) → (List (Int)) → (Int) → (Int) → (Int) → ((Bool) → Option R) → Option R
noncomputable def law17_Small_l0_T0 (N : Nat) {R : Type} (nx : (Int) → (Int) → (List ((ByteArray) × ((Bool) × (Int)))) → (List (Int)) → (Int) → (Int) → (Int) → Option R) (k0 : (Int) → (List ((ByteArray) × ((Bool) × (Int)))) → (List (Int)) → (Int) → (Int) → (Int) → Option R) (x0 : Int) (x1 : Int) (x2 : List ((ByteArray) × ((Bool) × (Int)))) (x3 : List (Int)) (x4 : Int) (x5 : Int) (x6 : Int) : Option R :=
  br (decide (x1 < (Nat.cast (List.length x2) : Int)))
  (br (inB x1 (List.length x2))
   (nx (IntKind.wrap .i64 (x0 + (Nat.cast (ByteArray.size (List.getD x2 (Int.toNat x1) ((bs []) , (false , (0 : Int)))).1) : Int))) (IntKind.wrap .i64 (x1 + (1 : Int))) x2 x3 x4 x5 x6)
   (none))
  (k0 x0 x2 x3 x4 x5 x6)
noncomputable def law17_Small_l0 (N : Nat) {R : Type} (k0 : (Int) → (List ((ByteArray) × ((Bool) × (Int)))) → (List (Int)) → (Int) → (Int) → (Int) → Option R) : Nat → (Int) → (Int) → (List ((ByteArray) × ((Bool) × (Int)))) → (List (Int)) → (Int) → (Int) → (Int) → Option R
  | 0, _, _, _, _, _, _, _ => none
  | n + 1, x0, x1, x2, x3, x4, x5, x6 => law17_Small_l0_T0 N (fun x0 x1 x2 x3 x4 x5 x6 => law17_Small_l0 N k0 n x0 x1 x2 x3 x4 x5 x6) k0 x0 x1 x2 x3 x4 x5 x6
noncomputable def law17_Small_T (N : Nat) (w0 : law17_Small_l0_Ty) {R : Type} (x0 : List ((ByteArray) × ((Bool) × (Int)))) (x1 : List (Int)) (x2 : Int) (x3 : Int) (x4 : Int) (k0 : (Bool) → Option R) : Option R :=
  w0
  (fun i462 l463 l464 i465 i466 i467 => br (decide ((Nat.cast (List.length l463) : Int) ≤ (60 : Int)))
   (br (decide (i462 ≤ (2000 : Int)))
    (k0 (decide ((Nat.cast (List.length l464) : Int) ≤ (60 : Int))))
    (k0 false))
   (k0 false))
  N (0 : Int) (0 : Int) x0 x1 x2 x3 x4
noncomputable def law17_Small (N : Nat) {R : Type} (x0 : List ((ByteArray) × ((Bool) × (Int)))) (x1 : List (Int)) (x2 : Int) (x3 : Int) (x4 : Int) (k0 : (Bool) → Option R) : Option R := law17_Small_T N (@law17_Small_l0 N) x0 x1 x2 x3 x4 k0
abbrev ref17_rows_l0_Ty : Type 1 := {R : Type} → ((Int) → (Int) → (List (List (Bool))) → Option R) → Nat → (Int) → (Int) → (Int) → (List (List (Bool))) → (List (List (Bool))) → Option R
abbrev ref17_rows_l1_Ty : Type 1 := {R : Type} → ((List (List (Bool))) → Option R) → Nat → (Int) → (List (List (Bool))) → (List (List (Bool))) → Option R
abbrev ref17_rows_Ty : Type 1 := {R : Type} → (Int) → (Int) → ((List (List (Bool))) → Option R) → Option R
noncomputable def ref17_rows_l0_T0 (N : Nat) (c0 : ref17_rows_Ty) (w1 : ref17_rows_l1_Ty) {R : Type} (nx : (Int) → (Int) → (Int) → (List (List (Bool))) → (List (List (Bool))) → Option R) (k0 : (Int) → (Int) → (List (List (Bool))) → Option R) (x0 : Int) (x1 : Int) (x2 : Int) (x3 : List (List (Bool))) (x4 : List (List (Bool))) : Option R :=
  br (decide (x2 < (Nat.cast (List.length x4) : Int)))
  (br (inB x2 (List.length x4))
   (br (decide ((Int.toNat x2) < (List.length x4)))
    (br ((decide ((((1 : Nat) + (List.length (List.getD x4 (Int.toNat x2) (Sh.zero (.isl .bool))))) * (1 : Nat)) ≤ (70368744177664 : Nat))) && true)
     (br (fits (0 : Nat) ((1 : Nat) + (List.length (List.getD x4 (Int.toNat x2) (Sh.zero (.isl .bool))))) ((false :: ([] : List (Sh.bool.T))) ++ (List.getD x4 (Int.toNat x2) (Sh.zero (.isl .bool)))))
      (br (((fits (0 : Nat) (List.length x3) x3) && (decide ((((List.length x3) + (1 : Nat)) * (24 : Nat)) ≤ (70368744177664 : Nat)))) && true)
       (nx x0 x1 (IntKind.wrap .i64 (x2 + (1 : Int))) ((sub x3 (0 : Nat) (List.length x3)) ++ ((sub ((false :: ([] : List (Sh.bool.T))) ++ (List.getD x4 (Int.toNat x2) (Sh.zero (.isl .bool)))) (0 : Nat) ((1 : Nat) + (List.length (List.getD x4 (Int.toNat x2) (Sh.zero (.isl .bool)))))) :: ([] : List (Sh.bool.isl.T)))) x4)
       (none))
      (none))
     (none))
    (none))
   (none))
  (k0 x0 x1 x3)
noncomputable def ref17_rows_l1_T0 (N : Nat) (c0 : ref17_rows_Ty) {R : Type} (nx : (Int) → (List (List (Bool))) → (List (List (Bool))) → Option R) (k0 : (List (List (Bool))) → Option R) (x0 : Int) (x1 : List (List (Bool))) (x2 : List (List (Bool))) : Option R :=
  br (decide (x0 < (Nat.cast (List.length x2) : Int)))
  (br (inB x0 (List.length x2))
   (br (decide ((Int.toNat x0) < (List.length x2)))
    (br ((decide ((((1 : Nat) + (List.length (List.getD x2 (Int.toNat x0) (Sh.zero (.isl .bool))))) * (1 : Nat)) ≤ (70368744177664 : Nat))) && true)
     (br (fits (0 : Nat) ((1 : Nat) + (List.length (List.getD x2 (Int.toNat x0) (Sh.zero (.isl .bool))))) ((true :: ([] : List (Sh.bool.T))) ++ (List.getD x2 (Int.toNat x0) (Sh.zero (.isl .bool)))))
      (br (((fits (0 : Nat) (List.length x1) x1) && (decide ((((List.length x1) + (1 : Nat)) * (24 : Nat)) ≤ (70368744177664 : Nat)))) && true)
       (nx (IntKind.wrap .i64 (x0 + (1 : Int))) ((sub x1 (0 : Nat) (List.length x1)) ++ ((sub ((true :: ([] : List (Sh.bool.T))) ++ (List.getD x2 (Int.toNat x0) (Sh.zero (.isl .bool)))) (0 : Nat) ((1 : Nat) + (List.length (List.getD x2 (Int.toNat x0) (Sh.zero (.isl .bool)))))) :: ([] : List (Sh.bool.isl.T)))) x2)
       (none))
      (none))
     (none))
    (none))
   (none))
  (k0 x1)
noncomputable def ref17_rows_l1 (N : Nat) (c0 : ref17_rows_Ty) {R : Type} (k0 : (List (List (Bool))) → Option R) : Nat → (Int) → (List (List (Bool))) → (List (List (Bool))) → Option R
  | 0, _, _, _ => none
  | n + 1, x0, x1, x2 => ref17_rows_l1_T0 N @c0 (fun x0 x1 x2 => ref17_rows_l1 N c0 k0 n x0 x1 x2) k0 x0 x1 x2
noncomputable def ref17_rows_l0 (N : Nat) (c0 : ref17_rows_Ty) {R : Type} (k0 : (Int) → (Int) → (List (List (Bool))) → Option R) : Nat → (Int) → (Int) → (Int) → (List (List (Bool))) → (List (List (Bool))) → Option R
  | 0, _, _, _, _, _ => none
  | n + 1, x0, x1, x2, x3, x4 => ref17_rows_l0_T0 N @c0 (@ref17_rows_l1 N @c0) (fun x0 x1 x2 x3 x4 => ref17_rows_l0 N c0 k0 n x0 x1 x2 x3 x4) k0 x0 x1 x2 x3 x4
noncomputable def ref17_rows_T (N : Nat) (c0 : ref17_rows_Ty) (w0 : ref17_rows_l0_Ty) (w1 : ref17_rows_l1_Ty) {R : Type} (x0 : Int) (x1 : Int) (k0 : (List (List (Bool))) → Option R) : Option R :=
  br (decide (x0 = (0 : Int)))
  (k0 (([] : List (Sh.bool.T)) :: ([] : List (Sh.bool.isl.T))))
  (c0 (IntKind.wrap .i64 (x0 - (1 : Int))) x1
   (fun l406 => w0
    (fun i407 i408 l409 => br (decide ((0 : Int) < i408))
     (c0 (IntKind.wrap .i64 (i407 - (1 : Int))) (IntKind.wrap .i64 (i408 - (1 : Int)))
      (fun l410 => w1
       (fun l411 => k0 l411)
       N (0 : Int) l409 l410))
     (k0 l409))
    N x0 x1 (0 : Int) ([] : List (Sh.bool.isl.T)) l406))
structure G_ref17_rows_Rec : Type 1 where
  ref17_rows : ref17_rows_Ty
noncomputable def G_ref17_rows_rec (N : Nat) : Nat → G_ref17_rows_Rec
  | 0 => ⟨fun {R} _ _ _ => none⟩
  | n + 1 => ⟨fun {R} x0 x1 k0 => ref17_rows_T N (@G_ref17_rows_Rec.ref17_rows (G_ref17_rows_rec N n)) (@ref17_rows_l0 N (@G_ref17_rows_Rec.ref17_rows (G_ref17_rows_rec N n))) (@ref17_rows_l1 N (@G_ref17_rows_Rec.ref17_rows (G_ref17_rows_rec N n))) x0 x1 k0⟩
noncomputable def ref17_rows (N : Nat) {R : Type} (x0 : Int) (x1 : Int) (k0 : (List (List (Bool))) → Option R) : Option R := (G_ref17_rows_rec N N).ref17_rows x0 x1 k0
abbrev ref17_Count_l0_Ty : Type 1 := {R : Type} → ((Int) → Option R) → Nat → (Int) → (Int) → (List (Int)) → Option R
abbrev ref17_Count_Ty : Type 1 := {R : Type} → (List ((ByteArray) × ((Bool) × (Int)))) → (List (Int)) → (Int) → (Int) → (Int) → ((Int) → Option R) → Option R
noncomputable def ref17_Count_l0_T0 (N : Nat) (c0 : ref17_texts_Ty) (c1 : ref17_Caps_Ty) (c2 : ref17_rows_Ty) (c3 : ref17_May_Ty) {R : Type} (nx : (Int) → (Int) → (List (Int)) → Option R) (k0 : (Int) → Option R) (x0 : Int) (x1 : Int) (x2 : List (Int)) : Option R :=
  br (decide (x1 < (Nat.cast (List.length x2) : Int)))
  (br (inB x1 (List.length x2))
   (br (decide ((Int.toNat x1) < (List.length x2)))
    (c0 (List.getD x2 (Int.toNat x1) (0 : Int))
     (fun i415 => nx (if ((1099511627776 : Int) < (IntKind.wrap .i64 (x0 * i415))) then (1099511627776 : Int) else (IntKind.wrap .i64 (x0 * i415))) (IntKind.wrap .i64 (x1 + (1 : Int))) x2))
    (none))
   (none))
  (k0 x0)
noncomputable def ref17_Count_l0 (N : Nat) {R : Type} (k0 : (Int) → Option R) : Nat → (Int) → (Int) → (List (Int)) → Option R
  | 0, _, _, _ => none
  | n + 1, x0, x1, x2 => ref17_Count_l0_T0 N (@ref17_texts N) (@ref17_Caps N) (@ref17_rows N) (@ref17_May N) (fun x0 x1 x2 => ref17_Count_l0 N k0 n x0 x1 x2) k0 x0 x1 x2
noncomputable def ref17_Count_T (N : Nat) (c0 : ref17_texts_Ty) (c1 : ref17_Caps_Ty) (c2 : ref17_rows_Ty) (c3 : ref17_May_Ty) (w0 : ref17_Count_l0_Ty) {R : Type} (x0 : List ((ByteArray) × ((Bool) × (Int)))) (x1 : List (Int)) (x2 : Int) (x3 : Int) (x4 : Int) (k0 : (Int) → Option R) : Option R :=
  c3 x0 x1 x2 x3 x4
  (fun b404 => br (!b404)
   (k0 (0 : Int))
   (c2 x2 x3
    (fun l412 => c1 x0 x1 x2 x3 x4
     (fun l413 => w0
      (fun i416 => k0 i416)
      N (Nat.cast (List.length l412) : Int) (0 : Int) l413))))
noncomputable def ref17_Count (N : Nat) {R : Type} (x0 : List ((ByteArray) × ((Bool) × (Int)))) (x1 : List (Int)) (x2 : Int) (x3 : Int) (x4 : Int) (k0 : (Int) → Option R) : Option R := ref17_Count_T N (@ref17_texts N) (@ref17_Caps N) (@ref17_rows N) (@ref17_May N) (@ref17_Count_l0 N) x0 x1 x2 x3 x4 k0
abbrev ref17_Nth_l0_Ty : Type 1 := {R : Type} → ((List ((ByteArray) × ((Bool) × (Int)))) → (List (Int)) → (Int) → (Int) → (Int) → (List (List (Int))) → (List (List (Int))) → (List (Bool)) → (List (Bool)) → (List (List (Int))) → (List (List (Int))) → (List (List (Int))) → Option R) → Nat → (Int) → (Int) → (List ((ByteArray) × ((Bool) × (Int)))) → (List (Int)) → (Int) → (Int) → (Int) → (List (List (Int))) → (List (List (Int))) → (List (Bool)) → (List (Bool)) → (List (List (Int))) → (List (List (Int))) → (List (Int)) → (List (List (Int))) → Option R
abbrev ref17_Nth_Ty : Type 1 := {R : Type} → (List ((ByteArray) × ((Bool) × (Int)))) → (List (Int)) → (Int) → (Int) → (Int) → (Int) → ((List (Bool)) → (Bool) → (List (List (Int))) → (List (List (Int))) → Option R) → ((Nat) → (Nat) → (Nat) → (Nat) → (List (Bool)) → (Bool) → (Nat) → (List (List (Int))) → Option R) → Option R
noncomputable def ref17_Nth_l0_T0 (N : Nat) (c0 : ref17_files_Ty) (c1 : ref17_text_Ty) (c2 : ref17_texts_Ty) (c3 : ref17_Caps_Ty) (c4 : ref17_rows_Ty) (c5 : ref17_Count_Ty) {R : Type} (nx : (Int) → (Int) → (List ((ByteArray) × ((Bool) × (Int)))) → (List (Int)) → (Int) → (Int) → (Int) → (List (List (Int))) → (List (List (Int))) → (List (Bool)) → (List (Bool)) → (List (List (Int))) → (List (List (Int))) → (List (Int)) → (List (List (Int))) → Option R) (k0 : (List ((ByteArray) × ((Bool) × (Int)))) → (List (Int)) → (Int) → (Int) → (Int) → (List (List (Int))) → (List (List (Int))) → (List (Bool)) → (List (Bool)) → (List (List (Int))) → (List (List (Int))) → (List (List (Int))) → Option R) (x0 : Int) (x1 : Int) (x2 : List ((ByteArray) × ((Bool) × (Int)))) (x3 : List (Int)) (x4 : Int) (x5 : Int) (x6 : Int) (x7 : List (List (Int))) (x8 : List (List (Int))) (x9 : List (Bool)) (x10 : List (Bool)) (x11 : List (List (Int))) (x12 : List (List (Int))) (x13 : List (Int)) (x14 : List (List (Int))) : Option R :=
  br (decide ((0 : Int) ≤ x1))
  (br (inB x1 (List.length x13))
   (br (decide ((Int.toNat x1) < (List.length x13)))
    (c2 (List.getD x13 (Int.toNat x1) (0 : Int))
     (fun i442 => br (decide (i442 = (0 : Int)))
      (none)
      (c1 (Int.tmod x0 i442)
       (fun l443 => br (inB x1 (List.length x14))
        (br (fits (0 : Nat) (List.length l443) l443)
         (br (decide ((Int.toNat x1) < (List.length x14)))
          (br (decide (i442 = (0 : Int)))
           (none)
           (nx (IntKind.wrap .i64 (Int.tdiv x0 i442)) (IntKind.wrap .i64 (x1 - (1 : Int))) x2 x3 x4 x5 x6 x7 x8 x9 x10 x11 x12 x13 (List.set x14 (Int.toNat x1) (sub l443 (0 : Nat) (List.length l443)))))
          (none))
         (none))
        (none)))))
    (none))
   (none))
  (k0 x2 x3 x4 x5 x6 x7 x8 x9 x10 x11 x12 x14)
noncomputable def ref17_Nth_l0 (N : Nat) {R : Type} (k0 : (List ((ByteArray) × ((Bool) × (Int)))) → (List (Int)) → (Int) → (Int) → (Int) → (List (List (Int))) → (List (List (Int))) → (List (Bool)) → (List (Bool)) → (List (List (Int))) → (List (List (Int))) → (List (List (Int))) → Option R) : Nat → (Int) → (Int) → (List ((ByteArray) × ((Bool) × (Int)))) → (List (Int)) → (Int) → (Int) → (Int) → (List (List (Int))) → (List (List (Int))) → (List (Bool)) → (List (Bool)) → (List (List (Int))) → (List (List (Int))) → (List (Int)) → (List (List (Int))) → Option R
  | 0, _, _, _, _, _, _, _, _, _, _, _, _, _, _, _ => none
  | n + 1, x0, x1, x2, x3, x4, x5, x6, x7, x8, x9, x10, x11, x12, x13, x14 => ref17_Nth_l0_T0 N (@ref17_files N) (@ref17_text N) (@ref17_texts N) (@ref17_Caps N) (@ref17_rows N) (@ref17_Count N) (fun x0 x1 x2 x3 x4 x5 x6 x7 x8 x9 x10 x11 x12 x13 x14 => ref17_Nth_l0 N k0 n x0 x1 x2 x3 x4 x5 x6 x7 x8 x9 x10 x11 x12 x13 x14) k0 x0 x1 x2 x3 x4 x5 x6 x7 x8 x9 x10 x11 x12 x13 x14
noncomputable def ref17_Nth_T (N : Nat) (c0 : ref17_files_Ty) (c1 : ref17_text_Ty) (c2 : ref17_texts_Ty) (c3 : ref17_Caps_Ty) (c4 : ref17_rows_Ty) (c5 : ref17_Count_Ty) (w0 : ref17_Nth_l0_Ty) {R : Type} (x0 : List ((ByteArray) × ((Bool) × (Int)))) (x1 : List (Int)) (x2 : Int) (x3 : Int) (x4 : Int) (x5 : Int) (k0 : (List (Bool)) → (Bool) → (List (List (Int))) → (List (List (Int))) → Option R) (k1 : (Nat) → (Nat) → (Nat) → (Nat) → (List (Bool)) → (Bool) → (Nat) → (List (List (Int))) → Option R) : Option R :=
  c5 x0 x1 x2 x3 x4
  (fun i439 => br (!(decide (x5 < (0 : Int))))
   (br (!(decide (i439 ≤ x5)))
    (br (decide ((1099511627776 : Int) ≤ i439))
     (k0 ([] : List (Sh.bool.T)) false ([] : List ((Sh.int IntKind.u8).isl.T)) ([] : List ((Sh.int IntKind.u8).isl.T)))
     (c4 x2 x3
      (fun l440 => br (decide ((Nat.cast (List.length l440) : Int) = (0 : Int)))
       (none)
       (br (inB (Int.tmod x5 (Nat.cast (List.length l440) : Int)) (List.length l440))
        (br (decide ((Int.toNat (Int.tmod x5 (Nat.cast (List.length l440) : Int))) < (List.length l440)))
         (br (decide ((Nat.cast (List.length l440) : Int) = (0 : Int)))
          (none)
          (c3 x0 x1 x2 x3 x4
           (fun l441 => br ((((decide ((0 : Int) ≤ (Nat.cast (List.length l441) : Int))) && (decide ((Nat.cast (List.length l441) : Int) ≤ (Nat.cast (List.length l441) : Int)))) && (decide (((Nat.cast (List.length l441) : Int) * (24 : Int)) ≤ ((2 : Int) ^ (46 : Nat))))) && true)
            (w0
             (fun l444 l445 i446 i447 i448 l449 l450 l451 l452 l453 l454 l455 => c0 l444 l445 i446 i447 i448
              (fun i456 => br (listDec (Sh.dec (.pair .str (.pair .bool (.int .i64)))) l444 l444)
               (br (listDec (Sh.dec (.int .i64)) l445 l445)
                (br (decide (i446 = i446))
                 (br (decide (i447 = i447))
                  (br (decide (i448 = i448))
                   (br (leB i456 (List.length l455))
                    (c0 l444 l445 i446 i447 i448
                     (fun i457 => br (leB i456 (List.length l455))
                      (br (decide (((Int.toNat i456) - (0 : Nat)) = ((Int.toNat i456) - (0 : Nat))))
                       (br (decide (((List.length l455) - (0 : Nat)) = ((List.length l455) - (0 : Nat))))
                        (br (leB i457 (List.length l455))
                         (br (leB i457 (List.length l455))
                          (br ((decide ((Int.toNat i457) = (Int.toNat i457))) && (decide (((List.length l455) - (Int.toNat i457)) = ((List.length l455) - (Int.toNat i457)))))
                           (k1 ((Int.toNat i456) - (0 : Nat)) ((List.length l455) - (0 : Nat)) (Int.toNat i457) ((List.length l455) - (Int.toNat i457)) l452 true (List.length l455) l455)
                           (none))
                          (none))
                         (none))
                        (none))
                       (none))
                      (none)))
                    (none))
                   (none))
                  (none))
                 (none))
                (none))
               (none)))
             N (IntKind.wrap .i64 (Int.tdiv x5 (Nat.cast (List.length l440) : Int))) (IntKind.wrap .i64 ((Nat.cast (List.length l441) : Int) - (1 : Int))) x0 x1 x2 x3 x4 ([] : List ((Sh.int IntKind.u8).isl.T)) ([] : List ((Sh.int IntKind.u8).isl.T)) ([] : List (Sh.bool.T)) (List.getD l440 (Int.toNat (Int.tmod x5 (Nat.cast (List.length l440) : Int))) (Sh.zero (.isl .bool))) ([] : List ((Sh.int IntKind.u8).isl.T)) ([] : List ((Sh.int IntKind.u8).isl.T)) l441 (List.replicate (Int.toNat (Nat.cast (List.length l441) : Int)) (Sh.zero (.isl (.int .u8)))))
            (none))))
         (none))
        (none)))))
    (k0 ([] : List (Sh.bool.T)) false ([] : List ((Sh.int IntKind.u8).isl.T)) ([] : List ((Sh.int IntKind.u8).isl.T))))
   (k0 ([] : List (Sh.bool.T)) false ([] : List ((Sh.int IntKind.u8).isl.T)) ([] : List ((Sh.int IntKind.u8).isl.T))))
noncomputable def ref17_Nth (N : Nat) {R : Type} (x0 : List ((ByteArray) × ((Bool) × (Int)))) (x1 : List (Int)) (x2 : Int) (x3 : Int) (x4 : Int) (x5 : Int) (k0 : (List (Bool)) → (Bool) → (List (List (Int))) → (List (List (Int))) → Option R) (k1 : (Nat) → (Nat) → (Nat) → (Nat) → (List (Bool)) → (Bool) → (Nat) → (List (List (Int))) → Option R) : Option R := ref17_Nth_T N (@ref17_files N) (@ref17_text N) (@ref17_texts N) (@ref17_Caps N) (@ref17_rows N) (@ref17_Count N) (@ref17_Nth_l0 N) x0 x1 x2 x3 x4 x5 k0 k1
inductive law18_CastSizes_S0 where
  | v0 (x0 : Int) (x1 : List ((ByteArray) × ((Bool) × (Int)))) (x2 : List (Int)) (x3 : Int) (x4 : Int) (x5 : Int) (x6 : List (Bool)) (x7 : List (List (Int))) (x8 : List (List (Int))) (x9 : List (Int)) (x10 : List (List (Int))) (x11 : List (Int))
  | v1 (x0 : Int) (x1 : List ((ByteArray) × ((Bool) × (Int)))) (x2 : List (Int)) (x3 : Int) (x4 : Int) (x5 : Int) (x6 : List (Bool)) (x7 : List (List (Int))) (x8 : List (List (Int))) (x9 : List (Int)) (x10 : List (List (Int))) (x11 : List (Int))
  | v2 (x0 : Int) (x1 : List ((ByteArray) × ((Bool) × (Int)))) (x2 : List (Int)) (x3 : Int) (x4 : Int) (x5 : Int) (x6 : Nat) (x7 : Nat) (x8 : Nat) (x9 : Nat) (x10 : List (Bool)) (x11 : Nat) (x12 : List (List (Int))) (x13 : List (Int)) (x14 : List (List (Int))) (x15 : List (Int))
  | v3 (x0 : Int) (x1 : List ((ByteArray) × ((Bool) × (Int)))) (x2 : List (Int)) (x3 : Int) (x4 : Int) (x5 : Int) (x6 : Nat) (x7 : Nat) (x8 : Nat) (x9 : Nat) (x10 : List (Bool)) (x11 : List (List (Int))) (x12 : List (Int)) (x13 : List (List (Int))) (x14 : List (Int))
abbrev law18_CastSizes_l0_Ty : Type 1 := {R : Type} → ((Bool) → (List ((ByteArray) × ((Bool) × (Int)))) → (List (Int)) → (Int) → (Int) → (Int) → (List (Bool)) → (List (List (Int))) → (List (List (Int))) → (List (Int)) → Option R) → ((List ((ByteArray) × ((Bool) × (Int)))) → (List (Int)) → (Int) → (Int) → (Int) → (List (Bool)) → (List (List (Int))) → (List (List (Int))) → (List (Int)) → Option R) → ((Bool) → (List ((ByteArray) × ((Bool) × (Int)))) → (List (Int)) → (Int) → (Int) → (Int) → (List (Bool)) → (List (List (Int))) → (List (List (Int))) → (List (Int)) → Option R) → ((List ((ByteArray) × ((Bool) × (Int)))) → (List (Int)) → (Int) → (Int) → (Int) → (List (Bool)) → (List (List (Int))) → (List (List (Int))) → (List (Int)) → Option R) → ((Bool) → (List ((ByteArray) × ((Bool) × (Int)))) → (List (Int)) → (Int) → (Int) → (Int) → (Nat) → (Nat) → (Nat) → (Nat) → (List (Bool)) → (Nat) → (List (List (Int))) → (List (Int)) → Option R) → ((List ((ByteArray) × ((Bool) × (Int)))) → (List (Int)) → (Int) → (Int) → (Int) → (Nat) → (Nat) → (Nat) → (Nat) → (List (Bool)) → (Nat) → (List (List (Int))) → (List (Int)) → Option R) → ((Bool) → (List ((ByteArray) × ((Bool) × (Int)))) → (List (Int)) → (Int) → (Int) → (Int) → (Nat) → (Nat) → (Nat) → (Nat) → (List (Bool)) → (List (List (Int))) → (List (Int)) → Option R) → ((List ((ByteArray) × ((Bool) × (Int)))) → (List (Int)) → (Int) → (Int) → (Int) → (Nat) → (Nat) → (Nat) → (Nat) → (List (Bool)) → (List (List (Int))) → (List (Int)) → Option R) → Nat → law18_CastSizes_S0 → Option R
inductive law18_CastSizes_S1 where
  | v0 (x0 : Int) (x1 : Int) (x2 : List ((ByteArray) × ((Bool) × (Int)))) (x3 : List (Int)) (x4 : Int) (x5 : Int) (x6 : Int) (x7 : List (Bool)) (x8 : List (List (Int))) (x9 : List (List (Int))) (x10 : List (Int)) (x11 : List (List (Int))) (x12 : List (Int))
  | v1 (x0 : Int) (x1 : Int) (x2 : List ((ByteArray) × ((Bool) × (Int)))) (x3 : List (Int)) (x4 : Int) (x5 : Int) (x6 : Int) (x7 : List (Bool)) (x8 : List (List (Int))) (x9 : List (List (Int))) (x10 : List (Int)) (x11 : List (List (Int))) (x12 : List (Int))
  | v2 (x0 : Int) (x1 : Int) (x2 : List ((ByteArray) × ((Bool) × (Int)))) (x3 : List (Int)) (x4 : Int) (x5 : Int) (x6 : Int) (x7 : Nat) (x8 : Nat) (x9 : Nat) (x10 : Nat) (x11 : List (Bool)) (x12 : Nat) (x13 : List (List (Int))) (x14 : List (Int)) (x15 : List (List (Int))) (x16 : List (Int))
  | v3 (x0 : Int) (x1 : Int) (x2 : List ((ByteArray) × ((Bool) × (Int)))) (x3 : List (Int)) (x4 : Int) (x5 : Int) (x6 : Int) (x7 : Nat) (x8 : Nat) (x9 : Nat) (x10 : Nat) (x11 : List (Bool)) (x12 : List (List (Int))) (x13 : List (Int)) (x14 : List (List (Int))) (x15 : List (Int))
abbrev law18_CastSizes_l1_Ty : Type 1 := {R : Type} → ((Bool) → (Int) → (List ((ByteArray) × ((Bool) × (Int)))) → (List (Int)) → (Int) → (Int) → (Int) → (List (Bool)) → (List (List (Int))) → (List (List (Int))) → (List (Int)) → (List (List (Int))) → (List (Int)) → Option R) → ((Int) → (List ((ByteArray) × ((Bool) × (Int)))) → (List (Int)) → (Int) → (Int) → (Int) → (List (Bool)) → (List (List (Int))) → (List (List (Int))) → (List (Int)) → (List (List (Int))) → (List (Int)) → Option R) → ((Bool) → (Int) → (List ((ByteArray) × ((Bool) × (Int)))) → (List (Int)) → (Int) → (Int) → (Int) → (List (Bool)) → (List (List (Int))) → (List (List (Int))) → (List (Int)) → (List (List (Int))) → (List (Int)) → Option R) → ((Int) → (List ((ByteArray) × ((Bool) × (Int)))) → (List (Int)) → (Int) → (Int) → (Int) → (List (Bool)) → (List (List (Int))) → (List (List (Int))) → (List (Int)) → (List (List (Int))) → (List (Int)) → Option R) → ((Bool) → (Int) → (List ((ByteArray) × ((Bool) × (Int)))) → (List (Int)) → (Int) → (Int) → (Int) → (Nat) → (Nat) → (Nat) → (Nat) → (List (Bool)) → (Nat) → (List (List (Int))) → (List (Int)) → (List (List (Int))) → (List (Int)) → Option R) → ((Int) → (List ((ByteArray) × ((Bool) × (Int)))) → (List (Int)) → (Int) → (Int) → (Int) → (Nat) → (Nat) → (Nat) → (Nat) → (List (Bool)) → (Nat) → (List (List (Int))) → (List (Int)) → (List (List (Int))) → (List (Int)) → Option R) → ((Bool) → (Int) → (List ((ByteArray) × ((Bool) × (Int)))) → (List (Int)) → (Int) → (Int) → (Int) → (Nat) → (Nat) → (Nat) → (Nat) → (List (Bool)) → (List (List (Int))) → (List (Int)) → (List (List (Int))) → (List (Int)) → Option R) → ((Int) → (List ((ByteArray) × ((Bool) × (Int)))) → (List (Int)) → (Int) → (Int) → (Int) → (Nat) → (Nat) → (Nat) → (Nat) → (List (Bool)) → (List (List (Int))) → (List (Int)) → (List (List (Int))) → (List (Int)) → Option R) → Nat → law18_CastSizes_S1 → Option R
inductive law18_CastSizes_S2 where
  | v0 (x0 : Int) (x1 : List ((ByteArray) × ((Bool) × (Int)))) (x2 : List (Int)) (x3 : Int) (x4 : Int) (x5 : Int) (x6 : List (Bool)) (x7 : List (List (Int))) (x8 : List (List (Int))) (x9 : List (Int))
  | v1 (x0 : Int) (x1 : List ((ByteArray) × ((Bool) × (Int)))) (x2 : List (Int)) (x3 : Int) (x4 : Int) (x5 : Int) (x6 : List (Bool)) (x7 : List (List (Int))) (x8 : List (List (Int))) (x9 : List (Int))
  | v2 (x0 : Int) (x1 : List ((ByteArray) × ((Bool) × (Int)))) (x2 : List (Int)) (x3 : Int) (x4 : Int) (x5 : Int) (x6 : Nat) (x7 : Nat) (x8 : Nat) (x9 : Nat) (x10 : List (Bool)) (x11 : Nat) (x12 : List (List (Int))) (x13 : List (Int))
  | v3 (x0 : Int) (x1 : List ((ByteArray) × ((Bool) × (Int)))) (x2 : List (Int)) (x3 : Int) (x4 : Int) (x5 : Int) (x6 : Nat) (x7 : Nat) (x8 : Nat) (x9 : Nat) (x10 : List (Bool)) (x11 : List (List (Int))) (x12 : List (Int))
abbrev law18_CastSizes_l2_Ty : Type 1 := {R : Type} → ((Bool) → Option R) → (Option R) → Nat → law18_CastSizes_S2 → Option R
abbrev law18_CastSizes_Ty : Type 1 := {R : Type} → (List ((ByteArray) × ((Bool) × (Int)))) → (List (Int)) → (Int) → (Int) → (Int) → (Int) → ((Bool) → Option R) → Option R
noncomputable def law18_CastSizes_l0_T0 (N : Nat) (c0 : cast_Env_727c_Ty) (c1 : cast_Env_0c40_Ty) (c2 : cast_Env_e92d_Ty) (c3 : cast_Fail_9e58_Ty) (c4 : cast_Fail_Ty) (c5 : cast_Byte_dbd4_Ty) (c6 : cast_Byte_Ty) (c7 : cast_Size_9e58_Ty) (c8 : cast_Size_Ty) (c9 : ref17_Caps_Ty) (c10 : cast_Vars_66e6_Ty) (c11 : cast_Vars_Ty) (c12 : law17_Small_Ty) (c13 : ref17_Nth_Ty) (c14 : law18_awake_Ty) (w1 : law18_CastSizes_l1_Ty) (w2 : law18_CastSizes_l2_Ty) {R : Type} (nx : law18_CastSizes_S0 → Option R) (k0 : (Bool) → (List ((ByteArray) × ((Bool) × (Int)))) → (List (Int)) → (Int) → (Int) → (Int) → (List (Bool)) → (List (List (Int))) → (List (List (Int))) → (List (Int)) → Option R) (k1 : (List ((ByteArray) × ((Bool) × (Int)))) → (List (Int)) → (Int) → (Int) → (Int) → (List (Bool)) → (List (List (Int))) → (List (List (Int))) → (List (Int)) → Option R) (k2 : (Bool) → (List ((ByteArray) × ((Bool) × (Int)))) → (List (Int)) → (Int) → (Int) → (Int) → (List (Bool)) → (List (List (Int))) → (List (List (Int))) → (List (Int)) → Option R) (k3 : (List ((ByteArray) × ((Bool) × (Int)))) → (List (Int)) → (Int) → (Int) → (Int) → (List (Bool)) → (List (List (Int))) → (List (List (Int))) → (List (Int)) → Option R) (k4 : (Bool) → (List ((ByteArray) × ((Bool) × (Int)))) → (List (Int)) → (Int) → (Int) → (Int) → (Nat) → (Nat) → (Nat) → (Nat) → (List (Bool)) → (Nat) → (List (List (Int))) → (List (Int)) → Option R) (k5 : (List ((ByteArray) × ((Bool) × (Int)))) → (List (Int)) → (Int) → (Int) → (Int) → (Nat) → (Nat) → (Nat) → (Nat) → (List (Bool)) → (Nat) → (List (List (Int))) → (List (Int)) → Option R) (k6 : (Bool) → (List ((ByteArray) × ((Bool) × (Int)))) → (List (Int)) → (Int) → (Int) → (Int) → (Nat) → (Nat) → (Nat) → (Nat) → (List (Bool)) → (List (List (Int))) → (List (Int)) → Option R) (k7 : (List ((ByteArray) × ((Bool) × (Int)))) → (List (Int)) → (Int) → (Int) → (Int) → (Nat) → (Nat) → (Nat) → (Nat) → (List (Bool)) → (List (List (Int))) → (List (Int)) → Option R) (x0 : Int) (x1 : List ((ByteArray) × ((Bool) × (Int)))) (x2 : List (Int)) (x3 : Int) (x4 : Int) (x5 : Int) (x6 : List (Bool)) (x7 : List (List (Int))) (x8 : List (List (Int))) (x9 : List (Int)) (x10 : List (List (Int))) (x11 : List (Int)) : Option R :=
  br (decide (x0 < (Nat.cast (List.length x10) : Int)))
  (c8 x1 x2 x3 x4 x5 x0
   (fun i1291 => br (!(decide (i1291 < (0 : Int))))
    (br (!(decide ((Nat.cast (List.length x9) : Int) ≤ i1291)))
     (br (inB i1291 (List.length x9))
      (br (decide ((Int.toNat i1291) < (List.length x9)))
       (br (inB x0 (List.length x10))
        (br (decide ((Int.toNat x0) < (List.length x10)))
         (br (!(decide ((IntKind.wrap .i64 (List.getD x9 (Int.toNat i1291) (0 : Int))) = (Nat.cast (List.length (List.getD x10 (Int.toNat x0) (Sh.zero (.isl (.int .u8))))) : Int))))
          (k0 false x1 x2 x3 x4 x5 x6 x7 x8 x9)
          (w1
           (fun b1300 i1301 l1302 l1303 i1304 i1305 i1306 l1307 l1308 l1309 l1310 l1311 l1312 => k0 b1300 l1302 l1303 i1304 i1305 i1306 l1307 l1308 l1309 l1310)
           (fun i1313 l1314 l1315 i1316 i1317 i1318 l1319 l1320 l1321 l1322 l1323 l1324 => nx (.v0 (IntKind.wrap .i64 (i1313 + (1 : Int))) l1314 l1315 i1316 i1317 i1318 l1319 l1320 l1321 l1322 l1323 l1324))
           (fun b1325 i1326 l1327 l1328 i1329 i1330 i1331 l1332 l1333 l1334 l1335 l1336 l1337 => k2 b1325 l1327 l1328 i1329 i1330 i1331 l1332 l1333 l1334 l1335)
           (fun i1338 l1339 l1340 i1341 i1342 i1343 l1344 l1345 l1346 l1347 l1348 l1349 => nx (.v1 (IntKind.wrap .i64 (i1338 + (1 : Int))) l1339 l1340 i1341 i1342 i1343 l1344 l1345 l1346 l1347 l1348 l1349))
           (fun b1350 i1351 l1352 l1353 i1354 i1355 i1356 n1357 n1358 n1359 n1360 l1361 n1362 l1363 l1364 l1365 l1366 => k4 b1350 l1352 l1353 i1354 i1355 i1356 n1357 n1358 n1359 n1360 l1361 n1362 l1363 l1364)
           (fun i1367 l1368 l1369 i1370 i1371 i1372 n1373 n1374 n1375 n1376 l1377 n1378 l1379 l1380 l1381 l1382 => nx (.v2 (IntKind.wrap .i64 (i1367 + (1 : Int))) l1368 l1369 i1370 i1371 i1372 n1373 n1374 n1375 n1376 l1377 n1378 l1379 l1380 l1381 l1382))
           (fun b1383 i1384 l1385 l1386 i1387 i1388 i1389 n1390 n1391 n1392 n1393 l1394 l1395 l1396 l1397 l1398 => k6 b1383 l1385 l1386 i1387 i1388 i1389 n1390 n1391 n1392 n1393 l1394 l1395 l1396)
           (fun i1399 l1400 l1401 i1402 i1403 i1404 n1405 n1406 n1407 n1408 l1409 l1410 l1411 l1412 l1413 => nx (.v3 (IntKind.wrap .i64 (i1399 + (1 : Int))) l1400 l1401 i1402 i1403 i1404 n1405 n1406 n1407 n1408 l1409 l1410 l1411 l1412 l1413))
           N (.v0 x0 (0 : Int) x1 x2 x3 x4 x5 x6 x7 x8 x9 x10 x11)))
         (none))
        (none))
       (none))
      (none))
     (k0 false x1 x2 x3 x4 x5 x6 x7 x8 x9))
    (k0 false x1 x2 x3 x4 x5 x6 x7 x8 x9)))
  (k1 x1 x2 x3 x4 x5 x6 x7 x8 x9)
noncomputable def law18_CastSizes_l0_T1 (N : Nat) (c0 : cast_Env_727c_Ty) (c1 : cast_Env_0c40_Ty) (c2 : cast_Env_e92d_Ty) (c3 : cast_Fail_9e58_Ty) (c4 : cast_Fail_Ty) (c5 : cast_Byte_dbd4_Ty) (c6 : cast_Byte_Ty) (c7 : cast_Size_9e58_Ty) (c8 : cast_Size_Ty) (c9 : ref17_Caps_Ty) (c10 : cast_Vars_66e6_Ty) (c11 : cast_Vars_Ty) (c12 : law17_Small_Ty) (c13 : ref17_Nth_Ty) (c14 : law18_awake_Ty) (w1 : law18_CastSizes_l1_Ty) (w2 : law18_CastSizes_l2_Ty) {R : Type} (nx : law18_CastSizes_S0 → Option R) (k0 : (Bool) → (List ((ByteArray) × ((Bool) × (Int)))) → (List (Int)) → (Int) → (Int) → (Int) → (List (Bool)) → (List (List (Int))) → (List (List (Int))) → (List (Int)) → Option R) (k1 : (List ((ByteArray) × ((Bool) × (Int)))) → (List (Int)) → (Int) → (Int) → (Int) → (List (Bool)) → (List (List (Int))) → (List (List (Int))) → (List (Int)) → Option R) (k2 : (Bool) → (List ((ByteArray) × ((Bool) × (Int)))) → (List (Int)) → (Int) → (Int) → (Int) → (List (Bool)) → (List (List (Int))) → (List (List (Int))) → (List (Int)) → Option R) (k3 : (List ((ByteArray) × ((Bool) × (Int)))) → (List (Int)) → (Int) → (Int) → (Int) → (List (Bool)) → (List (List (Int))) → (List (List (Int))) → (List (Int)) → Option R) (k4 : (Bool) → (List ((ByteArray) × ((Bool) × (Int)))) → (List (Int)) → (Int) → (Int) → (Int) → (Nat) → (Nat) → (Nat) → (Nat) → (List (Bool)) → (Nat) → (List (List (Int))) → (List (Int)) → Option R) (k5 : (List ((ByteArray) × ((Bool) × (Int)))) → (List (Int)) → (Int) → (Int) → (Int) → (Nat) → (Nat) → (Nat) → (Nat) → (List (Bool)) → (Nat) → (List (List (Int))) → (List (Int)) → Option R) (k6 : (Bool) → (List ((ByteArray) × ((Bool) × (Int)))) → (List (Int)) → (Int) → (Int) → (Int) → (Nat) → (Nat) → (Nat) → (Nat) → (List (Bool)) → (List (List (Int))) → (List (Int)) → Option R) (k7 : (List ((ByteArray) × ((Bool) × (Int)))) → (List (Int)) → (Int) → (Int) → (Int) → (Nat) → (Nat) → (Nat) → (Nat) → (List (Bool)) → (List (List (Int))) → (List (Int)) → Option R) (x0 : Int) (x1 : List ((ByteArray) × ((Bool) × (Int)))) (x2 : List (Int)) (x3 : Int) (x4 : Int) (x5 : Int) (x6 : List (Bool)) (x7 : List (List (Int))) (x8 : List (List (Int))) (x9 : List (Int)) (x10 : List (List (Int))) (x11 : List (Int)) : Option R :=
  br (decide (x0 < (Nat.cast (List.length x10) : Int)))
  (c8 x1 x2 x3 x4 x5 x0
   (fun i1414 => br (!(decide (i1414 < (0 : Int))))
    (br (!(decide ((Nat.cast (List.length x9) : Int) ≤ i1414)))
     (br (inB i1414 (List.length x9))
      (br (decide ((Int.toNat i1414) < (List.length x9)))
       (br (inB x0 (List.length x10))
        (br (decide ((Int.toNat x0) < (List.length x10)))
         (br (!(decide ((IntKind.wrap .i64 (List.getD x9 (Int.toNat i1414) (0 : Int))) = (Nat.cast (List.length (List.getD x10 (Int.toNat x0) (Sh.zero (.isl (.int .u8))))) : Int))))
          (k2 false x1 x2 x3 x4 x5 x6 x7 x8 x9)
          (w1
           (fun b1415 i1416 l1417 l1418 i1419 i1420 i1421 l1422 l1423 l1424 l1425 l1426 l1427 => k0 b1415 l1417 l1418 i1419 i1420 i1421 l1422 l1423 l1424 l1425)
           (fun i1428 l1429 l1430 i1431 i1432 i1433 l1434 l1435 l1436 l1437 l1438 l1439 => nx (.v0 (IntKind.wrap .i64 (i1428 + (1 : Int))) l1429 l1430 i1431 i1432 i1433 l1434 l1435 l1436 l1437 l1438 l1439))
           (fun b1440 i1441 l1442 l1443 i1444 i1445 i1446 l1447 l1448 l1449 l1450 l1451 l1452 => k2 b1440 l1442 l1443 i1444 i1445 i1446 l1447 l1448 l1449 l1450)
           (fun i1453 l1454 l1455 i1456 i1457 i1458 l1459 l1460 l1461 l1462 l1463 l1464 => nx (.v1 (IntKind.wrap .i64 (i1453 + (1 : Int))) l1454 l1455 i1456 i1457 i1458 l1459 l1460 l1461 l1462 l1463 l1464))
           (fun b1465 i1466 l1467 l1468 i1469 i1470 i1471 n1472 n1473 n1474 n1475 l1476 n1477 l1478 l1479 l1480 l1481 => k4 b1465 l1467 l1468 i1469 i1470 i1471 n1472 n1473 n1474 n1475 l1476 n1477 l1478 l1479)
           (fun i1482 l1483 l1484 i1485 i1486 i1487 n1488 n1489 n1490 n1491 l1492 n1493 l1494 l1495 l1496 l1497 => nx (.v2 (IntKind.wrap .i64 (i1482 + (1 : Int))) l1483 l1484 i1485 i1486 i1487 n1488 n1489 n1490 n1491 l1492 n1493 l1494 l1495 l1496 l1497))
           (fun b1498 i1499 l1500 l1501 i1502 i1503 i1504 n1505 n1506 n1507 n1508 l1509 l1510 l1511 l1512 l1513 => k6 b1498 l1500 l1501 i1502 i1503 i1504 n1505 n1506 n1507 n1508 l1509 l1510 l1511)
           (fun i1514 l1515 l1516 i1517 i1518 i1519 n1520 n1521 n1522 n1523 l1524 l1525 l1526 l1527 l1528 => nx (.v3 (IntKind.wrap .i64 (i1514 + (1 : Int))) l1515 l1516 i1517 i1518 i1519 n1520 n1521 n1522 n1523 l1524 l1525 l1526 l1527 l1528))
           N (.v1 x0 (0 : Int) x1 x2 x3 x4 x5 x6 x7 x8 x9 x10 x11)))
         (none))
        (none))
       (none))
      (none))
     (k2 false x1 x2 x3 x4 x5 x6 x7 x8 x9))
    (k2 false x1 x2 x3 x4 x5 x6 x7 x8 x9)))
  (k3 x1 x2 x3 x4 x5 x6 x7 x8 x9)
noncomputable def law18_CastSizes_l0_T2 (N : Nat) (c0 : cast_Env_727c_Ty) (c1 : cast_Env_0c40_Ty) (c2 : cast_Env_e92d_Ty) (c3 : cast_Fail_9e58_Ty) (c4 : cast_Fail_Ty) (c5 : cast_Byte_dbd4_Ty) (c6 : cast_Byte_Ty) (c7 : cast_Size_9e58_Ty) (c8 : cast_Size_Ty) (c9 : ref17_Caps_Ty) (c10 : cast_Vars_66e6_Ty) (c11 : cast_Vars_Ty) (c12 : law17_Small_Ty) (c13 : ref17_Nth_Ty) (c14 : law18_awake_Ty) (w1 : law18_CastSizes_l1_Ty) (w2 : law18_CastSizes_l2_Ty) {R : Type} (nx : law18_CastSizes_S0 → Option R) (k0 : (Bool) → (List ((ByteArray) × ((Bool) × (Int)))) → (List (Int)) → (Int) → (Int) → (Int) → (List (Bool)) → (List (List (Int))) → (List (List (Int))) → (List (Int)) → Option R) (k1 : (List ((ByteArray) × ((Bool) × (Int)))) → (List (Int)) → (Int) → (Int) → (Int) → (List (Bool)) → (List (List (Int))) → (List (List (Int))) → (List (Int)) → Option R) (k2 : (Bool) → (List ((ByteArray) × ((Bool) × (Int)))) → (List (Int)) → (Int) → (Int) → (Int) → (List (Bool)) → (List (List (Int))) → (List (List (Int))) → (List (Int)) → Option R) (k3 : (List ((ByteArray) × ((Bool) × (Int)))) → (List (Int)) → (Int) → (Int) → (Int) → (List (Bool)) → (List (List (Int))) → (List (List (Int))) → (List (Int)) → Option R) (k4 : (Bool) → (List ((ByteArray) × ((Bool) × (Int)))) → (List (Int)) → (Int) → (Int) → (Int) → (Nat) → (Nat) → (Nat) → (Nat) → (List (Bool)) → (Nat) → (List (List (Int))) → (List (Int)) → Option R) (k5 : (List ((ByteArray) × ((Bool) × (Int)))) → (List (Int)) → (Int) → (Int) → (Int) → (Nat) → (Nat) → (Nat) → (Nat) → (List (Bool)) → (Nat) → (List (List (Int))) → (List (Int)) → Option R) (k6 : (Bool) → (List ((ByteArray) × ((Bool) × (Int)))) → (List (Int)) → (Int) → (Int) → (Int) → (Nat) → (Nat) → (Nat) → (Nat) → (List (Bool)) → (List (List (Int))) → (List (Int)) → Option R) (k7 : (List ((ByteArray) × ((Bool) × (Int)))) → (List (Int)) → (Int) → (Int) → (Int) → (Nat) → (Nat) → (Nat) → (Nat) → (List (Bool)) → (List (List (Int))) → (List (Int)) → Option R) (x0 : Int) (x1 : List ((ByteArray) × ((Bool) × (Int)))) (x2 : List (Int)) (x3 : Int) (x4 : Int) (x5 : Int) (x6 : Nat) (x7 : Nat) (x8 : Nat) (x9 : Nat) (x10 : List (Bool)) (x11 : Nat) (x12 : List (List (Int))) (x13 : List (Int)) (x14 : List (List (Int))) (x15 : List (Int)) : Option R :=
  br (decide (x0 < (Nat.cast (List.length x14) : Int)))
  (c8 x1 x2 x3 x4 x5 x0
   (fun i1529 => br (!(decide (i1529 < (0 : Int))))
    (br (!(decide ((Nat.cast (List.length x13) : Int) ≤ i1529)))
     (br (inB i1529 (List.length x13))
      (br (decide ((Int.toNat i1529) < (List.length x13)))
       (br (inB x0 (List.length x14))
        (br (decide ((Int.toNat x0) < (List.length x14)))
         (br (!(decide ((IntKind.wrap .i64 (List.getD x13 (Int.toNat i1529) (0 : Int))) = (Nat.cast (List.length (List.getD x14 (Int.toNat x0) (Sh.zero (.isl (.int .u8))))) : Int))))
          (k4 false x1 x2 x3 x4 x5 x6 x7 x8 x9 x10 x11 x12 x13)
          (w1
           (fun b1530 i1531 l1532 l1533 i1534 i1535 i1536 l1537 l1538 l1539 l1540 l1541 l1542 => k0 b1530 l1532 l1533 i1534 i1535 i1536 l1537 l1538 l1539 l1540)
           (fun i1543 l1544 l1545 i1546 i1547 i1548 l1549 l1550 l1551 l1552 l1553 l1554 => nx (.v0 (IntKind.wrap .i64 (i1543 + (1 : Int))) l1544 l1545 i1546 i1547 i1548 l1549 l1550 l1551 l1552 l1553 l1554))
           (fun b1555 i1556 l1557 l1558 i1559 i1560 i1561 l1562 l1563 l1564 l1565 l1566 l1567 => k2 b1555 l1557 l1558 i1559 i1560 i1561 l1562 l1563 l1564 l1565)
           (fun i1568 l1569 l1570 i1571 i1572 i1573 l1574 l1575 l1576 l1577 l1578 l1579 => nx (.v1 (IntKind.wrap .i64 (i1568 + (1 : Int))) l1569 l1570 i1571 i1572 i1573 l1574 l1575 l1576 l1577 l1578 l1579))
           (fun b1580 i1581 l1582 l1583 i1584 i1585 i1586 n1587 n1588 n1589 n1590 l1591 n1592 l1593 l1594 l1595 l1596 => k4 b1580 l1582 l1583 i1584 i1585 i1586 n1587 n1588 n1589 n1590 l1591 n1592 l1593 l1594)
           (fun i1597 l1598 l1599 i1600 i1601 i1602 n1603 n1604 n1605 n1606 l1607 n1608 l1609 l1610 l1611 l1612 => nx (.v2 (IntKind.wrap .i64 (i1597 + (1 : Int))) l1598 l1599 i1600 i1601 i1602 n1603 n1604 n1605 n1606 l1607 n1608 l1609 l1610 l1611 l1612))
           (fun b1613 i1614 l1615 l1616 i1617 i1618 i1619 n1620 n1621 n1622 n1623 l1624 l1625 l1626 l1627 l1628 => k6 b1613 l1615 l1616 i1617 i1618 i1619 n1620 n1621 n1622 n1623 l1624 l1625 l1626)
           (fun i1629 l1630 l1631 i1632 i1633 i1634 n1635 n1636 n1637 n1638 l1639 l1640 l1641 l1642 l1643 => nx (.v3 (IntKind.wrap .i64 (i1629 + (1 : Int))) l1630 l1631 i1632 i1633 i1634 n1635 n1636 n1637 n1638 l1639 l1640 l1641 l1642 l1643))
           N (.v2 x0 (0 : Int) x1 x2 x3 x4 x5 x6 x7 x8 x9 x10 x11 x12 x13 x14 x15)))
         (none))
        (none))
       (none))
      (none))
     (k4 false x1 x2 x3 x4 x5 x6 x7 x8 x9 x10 x11 x12 x13))
    (k4 false x1 x2 x3 x4 x5 x6 x7 x8 x9 x10 x11 x12 x13)))
  (k5 x1 x2 x3 x4 x5 x6 x7 x8 x9 x10 x11 x12 x13)
noncomputable def law18_CastSizes_l0_T3 (N : Nat) (c0 : cast_Env_727c_Ty) (c1 : cast_Env_0c40_Ty) (c2 : cast_Env_e92d_Ty) (c3 : cast_Fail_9e58_Ty) (c4 : cast_Fail_Ty) (c5 : cast_Byte_dbd4_Ty) (c6 : cast_Byte_Ty) (c7 : cast_Size_9e58_Ty) (c8 : cast_Size_Ty) (c9 : ref17_Caps_Ty) (c10 : cast_Vars_66e6_Ty) (c11 : cast_Vars_Ty) (c12 : law17_Small_Ty) (c13 : ref17_Nth_Ty) (c14 : law18_awake_Ty) (w1 : law18_CastSizes_l1_Ty) (w2 : law18_CastSizes_l2_Ty) {R : Type} (nx : law18_CastSizes_S0 → Option R) (k0 : (Bool) → (List ((ByteArray) × ((Bool) × (Int)))) → (List (Int)) → (Int) → (Int) → (Int) → (List (Bool)) → (List (List (Int))) → (List (List (Int))) → (List (Int)) → Option R) (k1 : (List ((ByteArray) × ((Bool) × (Int)))) → (List (Int)) → (Int) → (Int) → (Int) → (List (Bool)) → (List (List (Int))) → (List (List (Int))) → (List (Int)) → Option R) (k2 : (Bool) → (List ((ByteArray) × ((Bool) × (Int)))) → (List (Int)) → (Int) → (Int) → (Int) → (List (Bool)) → (List (List (Int))) → (List (List (Int))) → (List (Int)) → Option R) (k3 : (List ((ByteArray) × ((Bool) × (Int)))) → (List (Int)) → (Int) → (Int) → (Int) → (List (Bool)) → (List (List (Int))) → (List (List (Int))) → (List (Int)) → Option R) (k4 : (Bool) → (List ((ByteArray) × ((Bool) × (Int)))) → (List (Int)) → (Int) → (Int) → (Int) → (Nat) → (Nat) → (Nat) → (Nat) → (List (Bool)) → (Nat) → (List (List (Int))) → (List (Int)) → Option R) (k5 : (List ((ByteArray) × ((Bool) × (Int)))) → (List (Int)) → (Int) → (Int) → (Int) → (Nat) → (Nat) → (Nat) → (Nat) → (List (Bool)) → (Nat) → (List (List (Int))) → (List (Int)) → Option R) (k6 : (Bool) → (List ((ByteArray) × ((Bool) × (Int)))) → (List (Int)) → (Int) → (Int) → (Int) → (Nat) → (Nat) → (Nat) → (Nat) → (List (Bool)) → (List (List (Int))) → (List (Int)) → Option R) (k7 : (List ((ByteArray) × ((Bool) × (Int)))) → (List (Int)) → (Int) → (Int) → (Int) → (Nat) → (Nat) → (Nat) → (Nat) → (List (Bool)) → (List (List (Int))) → (List (Int)) → Option R) (x0 : Int) (x1 : List ((ByteArray) × ((Bool) × (Int)))) (x2 : List (Int)) (x3 : Int) (x4 : Int) (x5 : Int) (x6 : Nat) (x7 : Nat) (x8 : Nat) (x9 : Nat) (x10 : List (Bool)) (x11 : List (List (Int))) (x12 : List (Int)) (x13 : List (List (Int))) (x14 : List (Int)) : Option R :=
  br (decide (x0 < (Nat.cast (List.length x13) : Int)))
  (c8 x1 x2 x3 x4 x5 x0
   (fun i1644 => br (!(decide (i1644 < (0 : Int))))
    (br (!(decide ((Nat.cast (List.length x12) : Int) ≤ i1644)))
     (br (inB i1644 (List.length x12))
      (br (decide ((Int.toNat i1644) < (List.length x12)))
       (br (inB x0 (List.length x13))
        (br (decide ((Int.toNat x0) < (List.length x13)))
         (br (!(decide ((IntKind.wrap .i64 (List.getD x12 (Int.toNat i1644) (0 : Int))) = (Nat.cast (List.length (List.getD x13 (Int.toNat x0) (Sh.zero (.isl (.int .u8))))) : Int))))
          (k6 false x1 x2 x3 x4 x5 x6 x7 x8 x9 x10 x11 x12)
          (w1
           (fun b1645 i1646 l1647 l1648 i1649 i1650 i1651 l1652 l1653 l1654 l1655 l1656 l1657 => k0 b1645 l1647 l1648 i1649 i1650 i1651 l1652 l1653 l1654 l1655)
           (fun i1658 l1659 l1660 i1661 i1662 i1663 l1664 l1665 l1666 l1667 l1668 l1669 => nx (.v0 (IntKind.wrap .i64 (i1658 + (1 : Int))) l1659 l1660 i1661 i1662 i1663 l1664 l1665 l1666 l1667 l1668 l1669))
           (fun b1670 i1671 l1672 l1673 i1674 i1675 i1676 l1677 l1678 l1679 l1680 l1681 l1682 => k2 b1670 l1672 l1673 i1674 i1675 i1676 l1677 l1678 l1679 l1680)
           (fun i1683 l1684 l1685 i1686 i1687 i1688 l1689 l1690 l1691 l1692 l1693 l1694 => nx (.v1 (IntKind.wrap .i64 (i1683 + (1 : Int))) l1684 l1685 i1686 i1687 i1688 l1689 l1690 l1691 l1692 l1693 l1694))
           (fun b1695 i1696 l1697 l1698 i1699 i1700 i1701 n1702 n1703 n1704 n1705 l1706 n1707 l1708 l1709 l1710 l1711 => k4 b1695 l1697 l1698 i1699 i1700 i1701 n1702 n1703 n1704 n1705 l1706 n1707 l1708 l1709)
           (fun i1712 l1713 l1714 i1715 i1716 i1717 n1718 n1719 n1720 n1721 l1722 n1723 l1724 l1725 l1726 l1727 => nx (.v2 (IntKind.wrap .i64 (i1712 + (1 : Int))) l1713 l1714 i1715 i1716 i1717 n1718 n1719 n1720 n1721 l1722 n1723 l1724 l1725 l1726 l1727))
           (fun b1728 i1729 l1730 l1731 i1732 i1733 i1734 n1735 n1736 n1737 n1738 l1739 l1740 l1741 l1742 l1743 => k6 b1728 l1730 l1731 i1732 i1733 i1734 n1735 n1736 n1737 n1738 l1739 l1740 l1741)
           (fun i1744 l1745 l1746 i1747 i1748 i1749 n1750 n1751 n1752 n1753 l1754 l1755 l1756 l1757 l1758 => nx (.v3 (IntKind.wrap .i64 (i1744 + (1 : Int))) l1745 l1746 i1747 i1748 i1749 n1750 n1751 n1752 n1753 l1754 l1755 l1756 l1757 l1758))
           N (.v3 x0 (0 : Int) x1 x2 x3 x4 x5 x6 x7 x8 x9 x10 x11 x12 x13 x14)))
         (none))
        (none))
       (none))
      (none))
     (k6 false x1 x2 x3 x4 x5 x6 x7 x8 x9 x10 x11 x12))
    (k6 false x1 x2 x3 x4 x5 x6 x7 x8 x9 x10 x11 x12)))
  (k7 x1 x2 x3 x4 x5 x6 x7 x8 x9 x10 x11 x12)
noncomputable def law18_CastSizes_l1_T0 (N : Nat) (c0 : cast_Env_727c_Ty) (c1 : cast_Env_0c40_Ty) (c2 : cast_Env_e92d_Ty) (c3 : cast_Fail_9e58_Ty) (c4 : cast_Fail_Ty) (c5 : cast_Byte_dbd4_Ty) (c6 : cast_Byte_Ty) (c7 : cast_Size_9e58_Ty) (c8 : cast_Size_Ty) (c9 : ref17_Caps_Ty) (c10 : cast_Vars_66e6_Ty) (c11 : cast_Vars_Ty) (c12 : law17_Small_Ty) (c13 : ref17_Nth_Ty) (c14 : law18_awake_Ty) (w2 : law18_CastSizes_l2_Ty) {R : Type} (nx : law18_CastSizes_S1 → Option R) (k0 : (Bool) → (Int) → (List ((ByteArray) × ((Bool) × (Int)))) → (List (Int)) → (Int) → (Int) → (Int) → (List (Bool)) → (List (List (Int))) → (List (List (Int))) → (List (Int)) → (List (List (Int))) → (List (Int)) → Option R) (k1 : (Int) → (List ((ByteArray) × ((Bool) × (Int)))) → (List (Int)) → (Int) → (Int) → (Int) → (List (Bool)) → (List (List (Int))) → (List (List (Int))) → (List (Int)) → (List (List (Int))) → (List (Int)) → Option R) (k2 : (Bool) → (Int) → (List ((ByteArray) × ((Bool) × (Int)))) → (List (Int)) → (Int) → (Int) → (Int) → (List (Bool)) → (List (List (Int))) → (List (List (Int))) → (List (Int)) → (List (List (Int))) → (List (Int)) → Option R) (k3 : (Int) → (List ((ByteArray) × ((Bool) × (Int)))) → (List (Int)) → (Int) → (Int) → (Int) → (List (Bool)) → (List (List (Int))) → (List (List (Int))) → (List (Int)) → (List (List (Int))) → (List (Int)) → Option R) (k4 : (Bool) → (Int) → (List ((ByteArray) × ((Bool) × (Int)))) → (List (Int)) → (Int) → (Int) → (Int) → (Nat) → (Nat) → (Nat) → (Nat) → (List (Bool)) → (Nat) → (List (List (Int))) → (List (Int)) → (List (List (Int))) → (List (Int)) → Option R) (k5 : (Int) → (List ((ByteArray) × ((Bool) × (Int)))) → (List (Int)) → (Int) → (Int) → (Int) → (Nat) → (Nat) → (Nat) → (Nat) → (List (Bool)) → (Nat) → (List (List (Int))) → (List (Int)) → (List (List (Int))) → (List (Int)) → Option R) (k6 : (Bool) → (Int) → (List ((ByteArray) × ((Bool) × (Int)))) → (List (Int)) → (Int) → (Int) → (Int) → (Nat) → (Nat) → (Nat) → (Nat) → (List (Bool)) → (List (List (Int))) → (List (Int)) → (List (List (Int))) → (List (Int)) → Option R) (k7 : (Int) → (List ((ByteArray) × ((Bool) × (Int)))) → (List (Int)) → (Int) → (Int) → (Int) → (Nat) → (Nat) → (Nat) → (Nat) → (List (Bool)) → (List (List (Int))) → (List (Int)) → (List (List (Int))) → (List (Int)) → Option R) (x0 : Int) (x1 : Int) (x2 : List ((ByteArray) × ((Bool) × (Int)))) (x3 : List (Int)) (x4 : Int) (x5 : Int) (x6 : Int) (x7 : List (Bool)) (x8 : List (List (Int))) (x9 : List (List (Int))) (x10 : List (Int)) (x11 : List (List (Int))) (x12 : List (Int)) : Option R :=
  br (inB x0 (List.length x12))
  (br (decide ((Int.toNat x0) < (List.length x12)))
   (br (decide (x1 < (List.getD x12 (Int.toNat x0) (0 : Int))))
    (c6 x2 x3 x4 x5 x6 x0 x1
     (fun i1292 b1293 => br (inB x0 (List.length x11))
      (br (decide ((Int.toNat x0) < (List.length x11)))
       (br (decide (x1 < (Nat.cast (List.length (List.getD x11 (Int.toNat x0) (Sh.zero (.isl (.int .u8))))) : Int)))
        (br (inB x0 (List.length x11))
         (br (decide ((Int.toNat x0) < (List.length x11)))
          (br (inB x1 (List.length (List.getD x11 (Int.toNat x0) (Sh.zero (.isl (.int .u8))))))
           (br (!(!b1293))
            (br (inB i1292 (List.length x10))
             (br (decide ((Int.toNat i1292) < (List.length x10)))
              (br (!(decide ((List.getD x10 (Int.toNat i1292) (0 : Int)) = (IntKind.wrap .u16 (List.getD (List.getD x11 (Int.toNat x0) (Sh.zero (.isl (.int .u8)))) (Int.toNat x1) (0 : Int))))))
               (k0 false x0 x2 x3 x4 x5 x6 x7 x8 x9 x10 x11 x12)
               (nx (.v0 x0 (IntKind.wrap .i64 (x1 + (1 : Int))) x2 x3 x4 x5 x6 x7 x8 x9 x10 x11 x12)))
              (none))
             (none))
            (k0 false x0 x2 x3 x4 x5 x6 x7 x8 x9 x10 x11 x12))
           (none))
          (none))
         (none))
        (br (!(!b1293))
         (br (inB i1292 (List.length x10))
          (br (decide ((Int.toNat i1292) < (List.length x10)))
           (br (!(decide ((List.getD x10 (Int.toNat i1292) (0 : Int)) = (0 : Int))))
            (k0 false x0 x2 x3 x4 x5 x6 x7 x8 x9 x10 x11 x12)
            (nx (.v0 x0 (IntKind.wrap .i64 (x1 + (1 : Int))) x2 x3 x4 x5 x6 x7 x8 x9 x10 x11 x12)))
           (none))
          (none))
         (k0 false x0 x2 x3 x4 x5 x6 x7 x8 x9 x10 x11 x12)))
       (none))
      (none)))
    (k1 x0 x2 x3 x4 x5 x6 x7 x8 x9 x10 x11 x12))
   (none))
  (none)
noncomputable def law18_CastSizes_l1_T1 (N : Nat) (c0 : cast_Env_727c_Ty) (c1 : cast_Env_0c40_Ty) (c2 : cast_Env_e92d_Ty) (c3 : cast_Fail_9e58_Ty) (c4 : cast_Fail_Ty) (c5 : cast_Byte_dbd4_Ty) (c6 : cast_Byte_Ty) (c7 : cast_Size_9e58_Ty) (c8 : cast_Size_Ty) (c9 : ref17_Caps_Ty) (c10 : cast_Vars_66e6_Ty) (c11 : cast_Vars_Ty) (c12 : law17_Small_Ty) (c13 : ref17_Nth_Ty) (c14 : law18_awake_Ty) (w2 : law18_CastSizes_l2_Ty) {R : Type} (nx : law18_CastSizes_S1 → Option R) (k0 : (Bool) → (Int) → (List ((ByteArray) × ((Bool) × (Int)))) → (List (Int)) → (Int) → (Int) → (Int) → (List (Bool)) → (List (List (Int))) → (List (List (Int))) → (List (Int)) → (List (List (Int))) → (List (Int)) → Option R) (k1 : (Int) → (List ((ByteArray) × ((Bool) × (Int)))) → (List (Int)) → (Int) → (Int) → (Int) → (List (Bool)) → (List (List (Int))) → (List (List (Int))) → (List (Int)) → (List (List (Int))) → (List (Int)) → Option R) (k2 : (Bool) → (Int) → (List ((ByteArray) × ((Bool) × (Int)))) → (List (Int)) → (Int) → (Int) → (Int) → (List (Bool)) → (List (List (Int))) → (List (List (Int))) → (List (Int)) → (List (List (Int))) → (List (Int)) → Option R) (k3 : (Int) → (List ((ByteArray) × ((Bool) × (Int)))) → (List (Int)) → (Int) → (Int) → (Int) → (List (Bool)) → (List (List (Int))) → (List (List (Int))) → (List (Int)) → (List (List (Int))) → (List (Int)) → Option R) (k4 : (Bool) → (Int) → (List ((ByteArray) × ((Bool) × (Int)))) → (List (Int)) → (Int) → (Int) → (Int) → (Nat) → (Nat) → (Nat) → (Nat) → (List (Bool)) → (Nat) → (List (List (Int))) → (List (Int)) → (List (List (Int))) → (List (Int)) → Option R) (k5 : (Int) → (List ((ByteArray) × ((Bool) × (Int)))) → (List (Int)) → (Int) → (Int) → (Int) → (Nat) → (Nat) → (Nat) → (Nat) → (List (Bool)) → (Nat) → (List (List (Int))) → (List (Int)) → (List (List (Int))) → (List (Int)) → Option R) (k6 : (Bool) → (Int) → (List ((ByteArray) × ((Bool) × (Int)))) → (List (Int)) → (Int) → (Int) → (Int) → (Nat) → (Nat) → (Nat) → (Nat) → (List (Bool)) → (List (List (Int))) → (List (Int)) → (List (List (Int))) → (List (Int)) → Option R) (k7 : (Int) → (List ((ByteArray) × ((Bool) × (Int)))) → (List (Int)) → (Int) → (Int) → (Int) → (Nat) → (Nat) → (Nat) → (Nat) → (List (Bool)) → (List (List (Int))) → (List (Int)) → (List (List (Int))) → (List (Int)) → Option R) (x0 : Int) (x1 : Int) (x2 : List ((ByteArray) × ((Bool) × (Int)))) (x3 : List (Int)) (x4 : Int) (x5 : Int) (x6 : Int) (x7 : List (Bool)) (x8 : List (List (Int))) (x9 : List (List (Int))) (x10 : List (Int)) (x11 : List (List (Int))) (x12 : List (Int)) : Option R :=
  br (inB x0 (List.length x12))
  (br (decide ((Int.toNat x0) < (List.length x12)))
   (br (decide (x1 < (List.getD x12 (Int.toNat x0) (0 : Int))))
    (c6 x2 x3 x4 x5 x6 x0 x1
     (fun i1294 b1295 => br (inB x0 (List.length x11))
      (br (decide ((Int.toNat x0) < (List.length x11)))
       (br (decide (x1 < (Nat.cast (List.length (List.getD x11 (Int.toNat x0) (Sh.zero (.isl (.int .u8))))) : Int)))
        (br (inB x0 (List.length x11))
         (br (decide ((Int.toNat x0) < (List.length x11)))
          (br (inB x1 (List.length (List.getD x11 (Int.toNat x0) (Sh.zero (.isl (.int .u8))))))
           (br (!(!b1295))
            (br (inB i1294 (List.length x10))
             (br (decide ((Int.toNat i1294) < (List.length x10)))
              (br (!(decide ((List.getD x10 (Int.toNat i1294) (0 : Int)) = (IntKind.wrap .u16 (List.getD (List.getD x11 (Int.toNat x0) (Sh.zero (.isl (.int .u8)))) (Int.toNat x1) (0 : Int))))))
               (k2 false x0 x2 x3 x4 x5 x6 x7 x8 x9 x10 x11 x12)
               (nx (.v1 x0 (IntKind.wrap .i64 (x1 + (1 : Int))) x2 x3 x4 x5 x6 x7 x8 x9 x10 x11 x12)))
              (none))
             (none))
            (k2 false x0 x2 x3 x4 x5 x6 x7 x8 x9 x10 x11 x12))
           (none))
          (none))
         (none))
        (br (!(!b1295))
         (br (inB i1294 (List.length x10))
          (br (decide ((Int.toNat i1294) < (List.length x10)))
           (br (!(decide ((List.getD x10 (Int.toNat i1294) (0 : Int)) = (0 : Int))))
            (k2 false x0 x2 x3 x4 x5 x6 x7 x8 x9 x10 x11 x12)
            (nx (.v1 x0 (IntKind.wrap .i64 (x1 + (1 : Int))) x2 x3 x4 x5 x6 x7 x8 x9 x10 x11 x12)))
           (none))
          (none))
         (k2 false x0 x2 x3 x4 x5 x6 x7 x8 x9 x10 x11 x12)))
       (none))
      (none)))
    (k3 x0 x2 x3 x4 x5 x6 x7 x8 x9 x10 x11 x12))
   (none))
  (none)
noncomputable def law18_CastSizes_l1_T2 (N : Nat) (c0 : cast_Env_727c_Ty) (c1 : cast_Env_0c40_Ty) (c2 : cast_Env_e92d_Ty) (c3 : cast_Fail_9e58_Ty) (c4 : cast_Fail_Ty) (c5 : cast_Byte_dbd4_Ty) (c6 : cast_Byte_Ty) (c7 : cast_Size_9e58_Ty) (c8 : cast_Size_Ty) (c9 : ref17_Caps_Ty) (c10 : cast_Vars_66e6_Ty) (c11 : cast_Vars_Ty) (c12 : law17_Small_Ty) (c13 : ref17_Nth_Ty) (c14 : law18_awake_Ty) (w2 : law18_CastSizes_l2_Ty) {R : Type} (nx : law18_CastSizes_S1 → Option R) (k0 : (Bool) → (Int) → (List ((ByteArray) × ((Bool) × (Int)))) → (List (Int)) → (Int) → (Int) → (Int) → (List (Bool)) → (List (List (Int))) → (List (List (Int))) → (List (Int)) → (List (List (Int))) → (List (Int)) → Option R) (k1 : (Int) → (List ((ByteArray) × ((Bool) × (Int)))) → (List (Int)) → (Int) → (Int) → (Int) → (List (Bool)) → (List (List (Int))) → (List (List (Int))) → (List (Int)) → (List (List (Int))) → (List (Int)) → Option R) (k2 : (Bool) → (Int) → (List ((ByteArray) × ((Bool) × (Int)))) → (List (Int)) → (Int) → (Int) → (Int) → (List (Bool)) → (List (List (Int))) → (List (List (Int))) → (List (Int)) → (List (List (Int))) → (List (Int)) → Option R) (k3 : (Int) → (List ((ByteArray) × ((Bool) × (Int)))) → (List (Int)) → (Int) → (Int) → (Int) → (List (Bool)) → (List (List (Int))) → (List (List (Int))) → (List (Int)) → (List (List (Int))) → (List (Int)) → Option R) (k4 : (Bool) → (Int) → (List ((ByteArray) × ((Bool) × (Int)))) → (List (Int)) → (Int) → (Int) → (Int) → (Nat) → (Nat) → (Nat) → (Nat) → (List (Bool)) → (Nat) → (List (List (Int))) → (List (Int)) → (List (List (Int))) → (List (Int)) → Option R) (k5 : (Int) → (List ((ByteArray) × ((Bool) × (Int)))) → (List (Int)) → (Int) → (Int) → (Int) → (Nat) → (Nat) → (Nat) → (Nat) → (List (Bool)) → (Nat) → (List (List (Int))) → (List (Int)) → (List (List (Int))) → (List (Int)) → Option R) (k6 : (Bool) → (Int) → (List ((ByteArray) × ((Bool) × (Int)))) → (List (Int)) → (Int) → (Int) → (Int) → (Nat) → (Nat) → (Nat) → (Nat) → (List (Bool)) → (List (List (Int))) → (List (Int)) → (List (List (Int))) → (List (Int)) → Option R) (k7 : (Int) → (List ((ByteArray) × ((Bool) × (Int)))) → (List (Int)) → (Int) → (Int) → (Int) → (Nat) → (Nat) → (Nat) → (Nat) → (List (Bool)) → (List (List (Int))) → (List (Int)) → (List (List (Int))) → (List (Int)) → Option R) (x0 : Int) (x1 : Int) (x2 : List ((ByteArray) × ((Bool) × (Int)))) (x3 : List (Int)) (x4 : Int) (x5 : Int) (x6 : Int) (x7 : Nat) (x8 : Nat) (x9 : Nat) (x10 : Nat) (x11 : List (Bool)) (x12 : Nat) (x13 : List (List (Int))) (x14 : List (Int)) (x15 : List (List (Int))) (x16 : List (Int)) : Option R :=
  br (inB x0 (List.length x16))
  (br (decide ((Int.toNat x0) < (List.length x16)))
   (br (decide (x1 < (List.getD x16 (Int.toNat x0) (0 : Int))))
    (c6 x2 x3 x4 x5 x6 x0 x1
     (fun i1296 b1297 => br (inB x0 (List.length x15))
      (br (decide ((Int.toNat x0) < (List.length x15)))
       (br (decide (x1 < (Nat.cast (List.length (List.getD x15 (Int.toNat x0) (Sh.zero (.isl (.int .u8))))) : Int)))
        (br (inB x0 (List.length x15))
         (br (decide ((Int.toNat x0) < (List.length x15)))
          (br (inB x1 (List.length (List.getD x15 (Int.toNat x0) (Sh.zero (.isl (.int .u8))))))
           (br (!(!b1297))
            (br (inB i1296 (List.length x14))
             (br (decide ((Int.toNat i1296) < (List.length x14)))
              (br (!(decide ((List.getD x14 (Int.toNat i1296) (0 : Int)) = (IntKind.wrap .u16 (List.getD (List.getD x15 (Int.toNat x0) (Sh.zero (.isl (.int .u8)))) (Int.toNat x1) (0 : Int))))))
               (k4 false x0 x2 x3 x4 x5 x6 x7 x8 x9 x10 x11 x12 x13 x14 x15 x16)
               (nx (.v2 x0 (IntKind.wrap .i64 (x1 + (1 : Int))) x2 x3 x4 x5 x6 x7 x8 x9 x10 x11 x12 x13 x14 x15 x16)))
              (none))
             (none))
            (k4 false x0 x2 x3 x4 x5 x6 x7 x8 x9 x10 x11 x12 x13 x14 x15 x16))
           (none))
          (none))
         (none))
        (br (!(!b1297))
         (br (inB i1296 (List.length x14))
          (br (decide ((Int.toNat i1296) < (List.length x14)))
           (br (!(decide ((List.getD x14 (Int.toNat i1296) (0 : Int)) = (0 : Int))))
            (k4 false x0 x2 x3 x4 x5 x6 x7 x8 x9 x10 x11 x12 x13 x14 x15 x16)
            (nx (.v2 x0 (IntKind.wrap .i64 (x1 + (1 : Int))) x2 x3 x4 x5 x6 x7 x8 x9 x10 x11 x12 x13 x14 x15 x16)))
           (none))
          (none))
         (k4 false x0 x2 x3 x4 x5 x6 x7 x8 x9 x10 x11 x12 x13 x14 x15 x16)))
       (none))
      (none)))
    (k5 x0 x2 x3 x4 x5 x6 x7 x8 x9 x10 x11 x12 x13 x14 x15 x16))
   (none))
  (none)
noncomputable def law18_CastSizes_l1_T3 (N : Nat) (c0 : cast_Env_727c_Ty) (c1 : cast_Env_0c40_Ty) (c2 : cast_Env_e92d_Ty) (c3 : cast_Fail_9e58_Ty) (c4 : cast_Fail_Ty) (c5 : cast_Byte_dbd4_Ty) (c6 : cast_Byte_Ty) (c7 : cast_Size_9e58_Ty) (c8 : cast_Size_Ty) (c9 : ref17_Caps_Ty) (c10 : cast_Vars_66e6_Ty) (c11 : cast_Vars_Ty) (c12 : law17_Small_Ty) (c13 : ref17_Nth_Ty) (c14 : law18_awake_Ty) (w2 : law18_CastSizes_l2_Ty) {R : Type} (nx : law18_CastSizes_S1 → Option R) (k0 : (Bool) → (Int) → (List ((ByteArray) × ((Bool) × (Int)))) → (List (Int)) → (Int) → (Int) → (Int) → (List (Bool)) → (List (List (Int))) → (List (List (Int))) → (List (Int)) → (List (List (Int))) → (List (Int)) → Option R) (k1 : (Int) → (List ((ByteArray) × ((Bool) × (Int)))) → (List (Int)) → (Int) → (Int) → (Int) → (List (Bool)) → (List (List (Int))) → (List (List (Int))) → (List (Int)) → (List (List (Int))) → (List (Int)) → Option R) (k2 : (Bool) → (Int) → (List ((ByteArray) × ((Bool) × (Int)))) → (List (Int)) → (Int) → (Int) → (Int) → (List (Bool)) → (List (List (Int))) → (List (List (Int))) → (List (Int)) → (List (List (Int))) → (List (Int)) → Option R) (k3 : (Int) → (List ((ByteArray) × ((Bool) × (Int)))) → (List (Int)) → (Int) → (Int) → (Int) → (List (Bool)) → (List (List (Int))) → (List (List (Int))) → (List (Int)) → (List (List (Int))) → (List (Int)) → Option R) (k4 : (Bool) → (Int) → (List ((ByteArray) × ((Bool) × (Int)))) → (List (Int)) → (Int) → (Int) → (Int) → (Nat) → (Nat) → (Nat) → (Nat) → (List (Bool)) → (Nat) → (List (List (Int))) → (List (Int)) → (List (List (Int))) → (List (Int)) → Option R) (k5 : (Int) → (List ((ByteArray) × ((Bool) × (Int)))) → (List (Int)) → (Int) → (Int) → (Int) → (Nat) → (Nat) → (Nat) → (Nat) → (List (Bool)) → (Nat) → (List (List (Int))) → (List (Int)) → (List (List (Int))) → (List (Int)) → Option R) (k6 : (Bool) → (Int) → (List ((ByteArray) × ((Bool) × (Int)))) → (List (Int)) → (Int) → (Int) → (Int) → (Nat) → (Nat) → (Nat) → (Nat) → (List (Bool)) → (List (List (Int))) → (List (Int)) → (List (List (Int))) → (List (Int)) → Option R) (k7 : (Int) → (List ((ByteArray) × ((Bool) × (Int)))) → (List (Int)) → (Int) → (Int) → (Int) → (Nat) → (Nat) → (Nat) → (Nat) → (List (Bool)) → (List (List (Int))) → (List (Int)) → (List (List (Int))) → (List (Int)) → Option R) (x0 : Int) (x1 : Int) (x2 : List ((ByteArray) × ((Bool) × (Int)))) (x3 : List (Int)) (x4 : Int) (x5 : Int) (x6 : Int) (x7 : Nat) (x8 : Nat) (x9 : Nat) (x10 : Nat) (x11 : List (Bool)) (x12 : List (List (Int))) (x13 : List (Int)) (x14 : List (List (Int))) (x15 : List (Int)) : Option R :=
  br (inB x0 (List.length x15))
  (br (decide ((Int.toNat x0) < (List.length x15)))
   (br (decide (x1 < (List.getD x15 (Int.toNat x0) (0 : Int))))
    (c6 x2 x3 x4 x5 x6 x0 x1
     (fun i1298 b1299 => br (inB x0 (List.length x14))
      (br (decide ((Int.toNat x0) < (List.length x14)))
       (br (decide (x1 < (Nat.cast (List.length (List.getD x14 (Int.toNat x0) (Sh.zero (.isl (.int .u8))))) : Int)))
        (br (inB x0 (List.length x14))
         (br (decide ((Int.toNat x0) < (List.length x14)))
          (br (inB x1 (List.length (List.getD x14 (Int.toNat x0) (Sh.zero (.isl (.int .u8))))))
           (br (!(!b1299))
            (br (inB i1298 (List.length x13))
             (br (decide ((Int.toNat i1298) < (List.length x13)))
              (br (!(decide ((List.getD x13 (Int.toNat i1298) (0 : Int)) = (IntKind.wrap .u16 (List.getD (List.getD x14 (Int.toNat x0) (Sh.zero (.isl (.int .u8)))) (Int.toNat x1) (0 : Int))))))
               (k6 false x0 x2 x3 x4 x5 x6 x7 x8 x9 x10 x11 x12 x13 x14 x15)
               (nx (.v3 x0 (IntKind.wrap .i64 (x1 + (1 : Int))) x2 x3 x4 x5 x6 x7 x8 x9 x10 x11 x12 x13 x14 x15)))
              (none))
             (none))
            (k6 false x0 x2 x3 x4 x5 x6 x7 x8 x9 x10 x11 x12 x13 x14 x15))
           (none))
          (none))
         (none))
        (br (!(!b1299))
         (br (inB i1298 (List.length x13))
          (br (decide ((Int.toNat i1298) < (List.length x13)))
           (br (!(decide ((List.getD x13 (Int.toNat i1298) (0 : Int)) = (0 : Int))))
            (k6 false x0 x2 x3 x4 x5 x6 x7 x8 x9 x10 x11 x12 x13 x14 x15)
            (nx (.v3 x0 (IntKind.wrap .i64 (x1 + (1 : Int))) x2 x3 x4 x5 x6 x7 x8 x9 x10 x11 x12 x13 x14 x15)))
           (none))
          (none))
         (k6 false x0 x2 x3 x4 x5 x6 x7 x8 x9 x10 x11 x12 x13 x14 x15)))
       (none))
      (none)))
    (k7 x0 x2 x3 x4 x5 x6 x7 x8 x9 x10 x11 x12 x13 x14 x15))
   (none))
  (none)
noncomputable def law18_CastSizes_l2_T0 (N : Nat) (c0 : cast_Env_727c_Ty) (c1 : cast_Env_0c40_Ty) (c2 : cast_Env_e92d_Ty) (c3 : cast_Fail_9e58_Ty) (c4 : cast_Fail_Ty) (c5 : cast_Byte_dbd4_Ty) (c6 : cast_Byte_Ty) (c7 : cast_Size_9e58_Ty) (c8 : cast_Size_Ty) (c9 : ref17_Caps_Ty) (c10 : cast_Vars_66e6_Ty) (c11 : cast_Vars_Ty) (c12 : law17_Small_Ty) (c13 : ref17_Nth_Ty) (c14 : law18_awake_Ty) {R : Type} (nx : law18_CastSizes_S2 → Option R) (k0 : (Bool) → Option R) (k1 : Option R) (x0 : Int) (x1 : List ((ByteArray) × ((Bool) × (Int)))) (x2 : List (Int)) (x3 : Int) (x4 : Int) (x5 : Int) (x6 : List (Bool)) (x7 : List (List (Int))) (x8 : List (List (Int))) (x9 : List (Int)) : Option R :=
  br (decide (x0 < x3))
  (c4 x1 x2 x3 x4 x5 x0
   (fun i1778 b1779 => br (!(!b1779))
    (br (inB i1778 (List.length x9))
     (br (decide ((Int.toNat i1778) < (List.length x9)))
      (br (inB x0 (List.length x6))
       (br (!(!((decide ((List.getD x9 (Int.toNat i1778) (0 : Int)) = (1 : Int))) == (List.getD x6 (Int.toNat x0) false))))
        (br (inB i1778 (List.length x9))
         (br (decide ((Int.toNat i1778) < (List.length x9)))
          (br (decide ((1 : Int) < (List.getD x9 (Int.toNat i1778) (0 : Int))))
           (k0 false)
           (nx (.v0 (IntKind.wrap .i64 (x0 + (1 : Int))) x1 x2 x3 x4 x5 x6 x7 x8 x9)))
          (none))
         (none))
        (k0 false))
       (none))
      (none))
     (none))
    (k0 false)))
  (k1)
noncomputable def law18_CastSizes_l2_T1 (N : Nat) (c0 : cast_Env_727c_Ty) (c1 : cast_Env_0c40_Ty) (c2 : cast_Env_e92d_Ty) (c3 : cast_Fail_9e58_Ty) (c4 : cast_Fail_Ty) (c5 : cast_Byte_dbd4_Ty) (c6 : cast_Byte_Ty) (c7 : cast_Size_9e58_Ty) (c8 : cast_Size_Ty) (c9 : ref17_Caps_Ty) (c10 : cast_Vars_66e6_Ty) (c11 : cast_Vars_Ty) (c12 : law17_Small_Ty) (c13 : ref17_Nth_Ty) (c14 : law18_awake_Ty) {R : Type} (nx : law18_CastSizes_S2 → Option R) (k0 : (Bool) → Option R) (k1 : Option R) (x0 : Int) (x1 : List ((ByteArray) × ((Bool) × (Int)))) (x2 : List (Int)) (x3 : Int) (x4 : Int) (x5 : Int) (x6 : List (Bool)) (x7 : List (List (Int))) (x8 : List (List (Int))) (x9 : List (Int)) : Option R :=
  br (decide (x0 < x3))
  (c4 x1 x2 x3 x4 x5 x0
   (fun i1780 b1781 => br (!(!b1781))
    (br (inB i1780 (List.length x9))
     (br (decide ((Int.toNat i1780) < (List.length x9)))
      (br (inB x0 (List.length x6))
       (br (!(!((decide ((List.getD x9 (Int.toNat i1780) (0 : Int)) = (1 : Int))) == (List.getD x6 (Int.toNat x0) false))))
        (br (inB i1780 (List.length x9))
         (br (decide ((Int.toNat i1780) < (List.length x9)))
          (br (decide ((1 : Int) < (List.getD x9 (Int.toNat i1780) (0 : Int))))
           (k0 false)
           (nx (.v1 (IntKind.wrap .i64 (x0 + (1 : Int))) x1 x2 x3 x4 x5 x6 x7 x8 x9)))
          (none))
         (none))
        (k0 false))
       (none))
      (none))
     (none))
    (k0 false)))
  (k1)
noncomputable def law18_CastSizes_l2_T2 (N : Nat) (c0 : cast_Env_727c_Ty) (c1 : cast_Env_0c40_Ty) (c2 : cast_Env_e92d_Ty) (c3 : cast_Fail_9e58_Ty) (c4 : cast_Fail_Ty) (c5 : cast_Byte_dbd4_Ty) (c6 : cast_Byte_Ty) (c7 : cast_Size_9e58_Ty) (c8 : cast_Size_Ty) (c9 : ref17_Caps_Ty) (c10 : cast_Vars_66e6_Ty) (c11 : cast_Vars_Ty) (c12 : law17_Small_Ty) (c13 : ref17_Nth_Ty) (c14 : law18_awake_Ty) {R : Type} (nx : law18_CastSizes_S2 → Option R) (k0 : (Bool) → Option R) (k1 : Option R) (x0 : Int) (x1 : List ((ByteArray) × ((Bool) × (Int)))) (x2 : List (Int)) (x3 : Int) (x4 : Int) (x5 : Int) (x6 : Nat) (x7 : Nat) (x8 : Nat) (x9 : Nat) (x10 : List (Bool)) (x11 : Nat) (x12 : List (List (Int))) (x13 : List (Int)) : Option R :=
  br (decide (x0 < x3))
  (c4 x1 x2 x3 x4 x5 x0
   (fun i1782 b1783 => br (!(!b1783))
    (br (inB i1782 (List.length x13))
     (br (decide ((Int.toNat i1782) < (List.length x13)))
      (br (inB x0 (List.length x10))
       (br (!(!((decide ((List.getD x13 (Int.toNat i1782) (0 : Int)) = (1 : Int))) == (List.getD x10 (Int.toNat x0) false))))
        (br (inB i1782 (List.length x13))
         (br (decide ((Int.toNat i1782) < (List.length x13)))
          (br (decide ((1 : Int) < (List.getD x13 (Int.toNat i1782) (0 : Int))))
           (k0 false)
           (nx (.v2 (IntKind.wrap .i64 (x0 + (1 : Int))) x1 x2 x3 x4 x5 x6 x7 x8 x9 x10 x11 x12 x13)))
          (none))
         (none))
        (k0 false))
       (none))
      (none))
     (none))
    (k0 false)))
  (k1)
noncomputable def law18_CastSizes_l2_T3 (N : Nat) (c0 : cast_Env_727c_Ty) (c1 : cast_Env_0c40_Ty) (c2 : cast_Env_e92d_Ty) (c3 : cast_Fail_9e58_Ty) (c4 : cast_Fail_Ty) (c5 : cast_Byte_dbd4_Ty) (c6 : cast_Byte_Ty) (c7 : cast_Size_9e58_Ty) (c8 : cast_Size_Ty) (c9 : ref17_Caps_Ty) (c10 : cast_Vars_66e6_Ty) (c11 : cast_Vars_Ty) (c12 : law17_Small_Ty) (c13 : ref17_Nth_Ty) (c14 : law18_awake_Ty) {R : Type} (nx : law18_CastSizes_S2 → Option R) (k0 : (Bool) → Option R) (k1 : Option R) (x0 : Int) (x1 : List ((ByteArray) × ((Bool) × (Int)))) (x2 : List (Int)) (x3 : Int) (x4 : Int) (x5 : Int) (x6 : Nat) (x7 : Nat) (x8 : Nat) (x9 : Nat) (x10 : List (Bool)) (x11 : List (List (Int))) (x12 : List (Int)) : Option R :=
  br (decide (x0 < x3))
  (c4 x1 x2 x3 x4 x5 x0
   (fun i1784 b1785 => br (!(!b1785))
    (br (inB i1784 (List.length x12))
     (br (decide ((Int.toNat i1784) < (List.length x12)))
      (br (inB x0 (List.length x10))
       (br (!(!((decide ((List.getD x12 (Int.toNat i1784) (0 : Int)) = (1 : Int))) == (List.getD x10 (Int.toNat x0) false))))
        (br (inB i1784 (List.length x12))
         (br (decide ((Int.toNat i1784) < (List.length x12)))
          (br (decide ((1 : Int) < (List.getD x12 (Int.toNat i1784) (0 : Int))))
           (k0 false)
           (nx (.v3 (IntKind.wrap .i64 (x0 + (1 : Int))) x1 x2 x3 x4 x5 x6 x7 x8 x9 x10 x11 x12)))
          (none))
         (none))
        (k0 false))
       (none))
      (none))
     (none))
    (k0 false)))
  (k1)
noncomputable def law18_CastSizes_l2 (N : Nat) {R : Type} (k0 : (Bool) → Option R) (k1 : Option R) : Nat → law18_CastSizes_S2 → Option R
  | 0, _ => none
  | n + 1, .v0 x0 x1 x2 x3 x4 x5 x6 x7 x8 x9 => law18_CastSizes_l2_T0 N (@cast_Env_727c N) (@cast_Env_0c40 N) (@cast_Env_e92d N) (@cast_Fail_9e58 N) (@cast_Fail N) (@cast_Byte_dbd4 N) (@cast_Byte N) (@cast_Size_9e58 N) (@cast_Size N) (@ref17_Caps N) (@cast_Vars_66e6 N) (@cast_Vars N) (@law17_Small N) (@ref17_Nth N) (@law18_awake N) (fun s => law18_CastSizes_l2 N k0 k1 n s) k0 k1 x0 x1 x2 x3 x4 x5 x6 x7 x8 x9
  | n + 1, .v1 x0 x1 x2 x3 x4 x5 x6 x7 x8 x9 => law18_CastSizes_l2_T1 N (@cast_Env_727c N) (@cast_Env_0c40 N) (@cast_Env_e92d N) (@cast_Fail_9e58 N) (@cast_Fail N) (@cast_Byte_dbd4 N) (@cast_Byte N) (@cast_Size_9e58 N) (@cast_Size N) (@ref17_Caps N) (@cast_Vars_66e6 N) (@cast_Vars N) (@law17_Small N) (@ref17_Nth N) (@law18_awake N) (fun s => law18_CastSizes_l2 N k0 k1 n s) k0 k1 x0 x1 x2 x3 x4 x5 x6 x7 x8 x9
  | n + 1, .v2 x0 x1 x2 x3 x4 x5 x6 x7 x8 x9 x10 x11 x12 x13 => law18_CastSizes_l2_T2 N (@cast_Env_727c N) (@cast_Env_0c40 N) (@cast_Env_e92d N) (@cast_Fail_9e58 N) (@cast_Fail N) (@cast_Byte_dbd4 N) (@cast_Byte N) (@cast_Size_9e58 N) (@cast_Size N) (@ref17_Caps N) (@cast_Vars_66e6 N) (@cast_Vars N) (@law17_Small N) (@ref17_Nth N) (@law18_awake N) (fun s => law18_CastSizes_l2 N k0 k1 n s) k0 k1 x0 x1 x2 x3 x4 x5 x6 x7 x8 x9 x10 x11 x12 x13
  | n + 1, .v3 x0 x1 x2 x3 x4 x5 x6 x7 x8 x9 x10 x11 x12 => law18_CastSizes_l2_T3 N (@cast_Env_727c N) (@cast_Env_0c40 N) (@cast_Env_e92d N) (@cast_Fail_9e58 N) (@cast_Fail N) (@cast_Byte_dbd4 N) (@cast_Byte N) (@cast_Size_9e58 N) (@cast_Size N) (@ref17_Caps N) (@cast_Vars_66e6 N) (@cast_Vars N) (@law17_Small N) (@ref17_Nth N) (@law18_awake N) (fun s => law18_CastSizes_l2 N k0 k1 n s) k0 k1 x0 x1 x2 x3 x4 x5 x6 x7 x8 x9 x10 x11 x12
noncomputable def law18_CastSizes_l1 (N : Nat) {R : Type} (k0 : (Bool) → (Int) → (List ((ByteArray) × ((Bool) × (Int)))) → (List (Int)) → (Int) → (Int) → (Int) → (List (Bool)) → (List (List (Int))) → (List (List (Int))) → (List (Int)) → (List (List (Int))) → (List (Int)) → Option R) (k1 : (Int) → (List ((ByteArray) × ((Bool) × (Int)))) → (List (Int)) → (Int) → (Int) → (Int) → (List (Bool)) → (List (List (Int))) → (List (List (Int))) → (List (Int)) → (List (List (Int))) → (List (Int)) → Option R) (k2 : (Bool) → (Int) → (List ((ByteArray) × ((Bool) × (Int)))) → (List (Int)) → (Int) → (Int) → (Int) → (List (Bool)) → (List (List (Int))) → (List (List (Int))) → (List (Int)) → (List (List (Int))) → (List (Int)) → Option R) (k3 : (Int) → (List ((ByteArray) × ((Bool) × (Int)))) → (List (Int)) → (Int) → (Int) → (Int) → (List (Bool)) → (List (List (Int))) → (List (List (Int))) → (List (Int)) → (List (List (Int))) → (List (Int)) → Option R) (k4 : (Bool) → (Int) → (List ((ByteArray) × ((Bool) × (Int)))) → (List (Int)) → (Int) → (Int) → (Int) → (Nat) → (Nat) → (Nat) → (Nat) → (List (Bool)) → (Nat) → (List (List (Int))) → (List (Int)) → (List (List (Int))) → (List (Int)) → Option R) (k5 : (Int) → (List ((ByteArray) × ((Bool) × (Int)))) → (List (Int)) → (Int) → (Int) → (Int) → (Nat) → (Nat) → (Nat) → (Nat) → (List (Bool)) → (Nat) → (List (List (Int))) → (List (Int)) → (List (List (Int))) → (List (Int)) → Option R) (k6 : (Bool) → (Int) → (List ((ByteArray) × ((Bool) × (Int)))) → (List (Int)) → (Int) → (Int) → (Int) → (Nat) → (Nat) → (Nat) → (Nat) → (List (Bool)) → (List (List (Int))) → (List (Int)) → (List (List (Int))) → (List (Int)) → Option R) (k7 : (Int) → (List ((ByteArray) × ((Bool) × (Int)))) → (List (Int)) → (Int) → (Int) → (Int) → (Nat) → (Nat) → (Nat) → (Nat) → (List (Bool)) → (List (List (Int))) → (List (Int)) → (List (List (Int))) → (List (Int)) → Option R) : Nat → law18_CastSizes_S1 → Option R
  | 0, _ => none
  | n + 1, .v0 x0 x1 x2 x3 x4 x5 x6 x7 x8 x9 x10 x11 x12 => law18_CastSizes_l1_T0 N (@cast_Env_727c N) (@cast_Env_0c40 N) (@cast_Env_e92d N) (@cast_Fail_9e58 N) (@cast_Fail N) (@cast_Byte_dbd4 N) (@cast_Byte N) (@cast_Size_9e58 N) (@cast_Size N) (@ref17_Caps N) (@cast_Vars_66e6 N) (@cast_Vars N) (@law17_Small N) (@ref17_Nth N) (@law18_awake N) (@law18_CastSizes_l2 N) (fun s => law18_CastSizes_l1 N k0 k1 k2 k3 k4 k5 k6 k7 n s) k0 k1 k2 k3 k4 k5 k6 k7 x0 x1 x2 x3 x4 x5 x6 x7 x8 x9 x10 x11 x12
  | n + 1, .v1 x0 x1 x2 x3 x4 x5 x6 x7 x8 x9 x10 x11 x12 => law18_CastSizes_l1_T1 N (@cast_Env_727c N) (@cast_Env_0c40 N) (@cast_Env_e92d N) (@cast_Fail_9e58 N) (@cast_Fail N) (@cast_Byte_dbd4 N) (@cast_Byte N) (@cast_Size_9e58 N) (@cast_Size N) (@ref17_Caps N) (@cast_Vars_66e6 N) (@cast_Vars N) (@law17_Small N) (@ref17_Nth N) (@law18_awake N) (@law18_CastSizes_l2 N) (fun s => law18_CastSizes_l1 N k0 k1 k2 k3 k4 k5 k6 k7 n s) k0 k1 k2 k3 k4 k5 k6 k7 x0 x1 x2 x3 x4 x5 x6 x7 x8 x9 x10 x11 x12
  | n + 1, .v2 x0 x1 x2 x3 x4 x5 x6 x7 x8 x9 x10 x11 x12 x13 x14 x15 x16 => law18_CastSizes_l1_T2 N (@cast_Env_727c N) (@cast_Env_0c40 N) (@cast_Env_e92d N) (@cast_Fail_9e58 N) (@cast_Fail N) (@cast_Byte_dbd4 N) (@cast_Byte N) (@cast_Size_9e58 N) (@cast_Size N) (@ref17_Caps N) (@cast_Vars_66e6 N) (@cast_Vars N) (@law17_Small N) (@ref17_Nth N) (@law18_awake N) (@law18_CastSizes_l2 N) (fun s => law18_CastSizes_l1 N k0 k1 k2 k3 k4 k5 k6 k7 n s) k0 k1 k2 k3 k4 k5 k6 k7 x0 x1 x2 x3 x4 x5 x6 x7 x8 x9 x10 x11 x12 x13 x14 x15 x16
  | n + 1, .v3 x0 x1 x2 x3 x4 x5 x6 x7 x8 x9 x10 x11 x12 x13 x14 x15 => law18_CastSizes_l1_T3 N (@cast_Env_727c N) (@cast_Env_0c40 N) (@cast_Env_e92d N) (@cast_Fail_9e58 N) (@cast_Fail N) (@cast_Byte_dbd4 N) (@cast_Byte N) (@cast_Size_9e58 N) (@cast_Size N) (@ref17_Caps N) (@cast_Vars_66e6 N) (@cast_Vars N) (@law17_Small N) (@ref17_Nth N) (@law18_awake N) (@law18_CastSizes_l2 N) (fun s => law18_CastSizes_l1 N k0 k1 k2 k3 k4 k5 k6 k7 n s) k0 k1 k2 k3 k4 k5 k6 k7 x0 x1 x2 x3 x4 x5 x6 x7 x8 x9 x10 x11 x12 x13 x14 x15
noncomputable def law18_CastSizes_l0 (N : Nat) {R : Type} (k0 : (Bool) → (List ((ByteArray) × ((Bool) × (Int)))) → (List (Int)) → (Int) → (Int) → (Int) → (List (Bool)) → (List (List (Int))) → (List (List (Int))) → (List (Int)) → Option R) (k1 : (List ((ByteArray) × ((Bool) × (Int)))) → (List (Int)) → (Int) → (Int) → (Int) → (List (Bool)) → (List (List (Int))) → (List (List (Int))) → (List (Int)) → Option R) (k2 : (Bool) → (List ((ByteArray) × ((Bool) × (Int)))) → (List (Int)) → (Int) → (Int) → (Int) → (List (Bool)) → (List (List (Int))) → (List (List (Int))) → (List (Int)) → Option R) (k3 : (List ((ByteArray) × ((Bool) × (Int)))) → (List (Int)) → (Int) → (Int) → (Int) → (List (Bool)) → (List (List (Int))) → (List (List (Int))) → (List (Int)) → Option R) (k4 : (Bool) → (List ((ByteArray) × ((Bool) × (Int)))) → (List (Int)) → (Int) → (Int) → (Int) → (Nat) → (Nat) → (Nat) → (Nat) → (List (Bool)) → (Nat) → (List (List (Int))) → (List (Int)) → Option R) (k5 : (List ((ByteArray) × ((Bool) × (Int)))) → (List (Int)) → (Int) → (Int) → (Int) → (Nat) → (Nat) → (Nat) → (Nat) → (List (Bool)) → (Nat) → (List (List (Int))) → (List (Int)) → Option R) (k6 : (Bool) → (List ((ByteArray) × ((Bool) × (Int)))) → (List (Int)) → (Int) → (Int) → (Int) → (Nat) → (Nat) → (Nat) → (Nat) → (List (Bool)) → (List (List (Int))) → (List (Int)) → Option R) (k7 : (List ((ByteArray) × ((Bool) × (Int)))) → (List (Int)) → (Int) → (Int) → (Int) → (Nat) → (Nat) → (Nat) → (Nat) → (List (Bool)) → (List (List (Int))) → (List (Int)) → Option R) : Nat → law18_CastSizes_S0 → Option R
  | 0, _ => none
  | n + 1, .v0 x0 x1 x2 x3 x4 x5 x6 x7 x8 x9 x10 x11 => law18_CastSizes_l0_T0 N (@cast_Env_727c N) (@cast_Env_0c40 N) (@cast_Env_e92d N) (@cast_Fail_9e58 N) (@cast_Fail N) (@cast_Byte_dbd4 N) (@cast_Byte N) (@cast_Size_9e58 N) (@cast_Size N) (@ref17_Caps N) (@cast_Vars_66e6 N) (@cast_Vars N) (@law17_Small N) (@ref17_Nth N) (@law18_awake N) (@law18_CastSizes_l1 N) (@law18_CastSizes_l2 N) (fun s => law18_CastSizes_l0 N k0 k1 k2 k3 k4 k5 k6 k7 n s) k0 k1 k2 k3 k4 k5 k6 k7 x0 x1 x2 x3 x4 x5 x6 x7 x8 x9 x10 x11
  | n + 1, .v1 x0 x1 x2 x3 x4 x5 x6 x7 x8 x9 x10 x11 => law18_CastSizes_l0_T1 N (@cast_Env_727c N) (@cast_Env_0c40 N) (@cast_Env_e92d N) (@cast_Fail_9e58 N) (@cast_Fail N) (@cast_Byte_dbd4 N) (@cast_Byte N) (@cast_Size_9e58 N) (@cast_Size N) (@ref17_Caps N) (@cast_Vars_66e6 N) (@cast_Vars N) (@law17_Small N) (@ref17_Nth N) (@law18_awake N) (@law18_CastSizes_l1 N) (@law18_CastSizes_l2 N) (fun s => law18_CastSizes_l0 N k0 k1 k2 k3 k4 k5 k6 k7 n s) k0 k1 k2 k3 k4 k5 k6 k7 x0 x1 x2 x3 x4 x5 x6 x7 x8 x9 x10 x11
  | n + 1, .v2 x0 x1 x2 x3 x4 x5 x6 x7 x8 x9 x10 x11 x12 x13 x14 x15 => law18_CastSizes_l0_T2 N (@cast_Env_727c N) (@cast_Env_0c40 N) (@cast_Env_e92d N) (@cast_Fail_9e58 N) (@cast_Fail N) (@cast_Byte_dbd4 N) (@cast_Byte N) (@cast_Size_9e58 N) (@cast_Size N) (@ref17_Caps N) (@cast_Vars_66e6 N) (@cast_Vars N) (@law17_Small N) (@ref17_Nth N) (@law18_awake N) (@law18_CastSizes_l1 N) (@law18_CastSizes_l2 N) (fun s => law18_CastSizes_l0 N k0 k1 k2 k3 k4 k5 k6 k7 n s) k0 k1 k2 k3 k4 k5 k6 k7 x0 x1 x2 x3 x4 x5 x6 x7 x8 x9 x10 x11 x12 x13 x14 x15
  | n + 1, .v3 x0 x1 x2 x3 x4 x5 x6 x7 x8 x9 x10 x11 x12 x13 x14 => law18_CastSizes_l0_T3 N (@cast_Env_727c N) (@cast_Env_0c40 N) (@cast_Env_e92d N) (@cast_Fail_9e58 N) (@cast_Fail N) (@cast_Byte_dbd4 N) (@cast_Byte N) (@cast_Size_9e58 N) (@cast_Size N) (@ref17_Caps N) (@cast_Vars_66e6 N) (@cast_Vars N) (@law17_Small N) (@ref17_Nth N) (@law18_awake N) (@law18_CastSizes_l1 N) (@law18_CastSizes_l2 N) (fun s => law18_CastSizes_l0 N k0 k1 k2 k3 k4 k5 k6 k7 n s) k0 k1 k2 k3 k4 k5 k6 k7 x0 x1 x2 x3 x4 x5 x6 x7 x8 x9 x10 x11 x12 x13 x14
noncomputable def law18_CastSizes_T (N : Nat) (c0 : cast_Env_727c_Ty) (c1 : cast_Env_0c40_Ty) (c2 : cast_Env_e92d_Ty) (c3 : cast_Fail_9e58_Ty) (c4 : cast_Fail_Ty) (c5 : cast_Byte_dbd4_Ty) (c6 : cast_Byte_Ty) (c7 : cast_Size_9e58_Ty) (c8 : cast_Size_Ty) (c9 : ref17_Caps_Ty) (c10 : cast_Vars_66e6_Ty) (c11 : cast_Vars_Ty) (c12 : law17_Small_Ty) (c13 : ref17_Nth_Ty) (c14 : law18_awake_Ty) (w0 : law18_CastSizes_l0_Ty) (w1 : law18_CastSizes_l1_Ty) (w2 : law18_CastSizes_l2_Ty) {R : Type} (x0 : List ((ByteArray) × ((Bool) × (Int)))) (x1 : List (Int)) (x2 : Int) (x3 : Int) (x4 : Int) (x5 : Int) (k0 : (Bool) → Option R) : Option R :=
  c14
  (fun b1279 => br (!b1279)
   (k0 false)
   (c13 x0 x1 x2 x3 x4 (IntKind.wrap .i64 x5)
    (fun l1280 b1281 l1282 l1283 => c12 x0 x1 x2 x3 x4
     (fun b1284 => br (!(!b1284))
      (br (!b1281)
       (k0 true)
       (c1 x0 x1 x2 x3 x4 l1280 l1282 l1283
        (fun i1285 l1286 l1287 l1288 => br (!(!(decide (i1285 = (0 : Int)))))
         (c11 x0 x1 x2 x3 x4
          (fun i1289 => br (!(decide ((Nat.cast (List.length l1288) : Int) = i1289)))
           (k0 false)
           (br (fits (0 : Nat) (List.length l1286) l1286)
            (br ((decide ((((0 : Nat) + (List.length (sub l1286 (0 : Nat) (List.length l1286)))) * (24 : Nat)) ≤ (70368744177664 : Nat))) && true)
             (br (fits (0 : Nat) (List.length l1287) l1287)
              (br (((fits (0 : Nat) ((0 : Nat) + (List.length (sub l1286 (0 : Nat) (List.length l1286)))) (([] : List ((Sh.int IntKind.u8).isl.T)) ++ (sub l1286 (0 : Nat) (List.length l1286)))) && (decide (((((0 : Nat) + (List.length (sub l1286 (0 : Nat) (List.length l1286)))) + (List.length (sub l1287 (0 : Nat) (List.length l1287)))) * (24 : Nat)) ≤ (70368744177664 : Nat)))) && true)
               (c9 x0 x1 x2 x3 x4
                (fun l1290 => w0
                 (fun b1759 l1760 l1761 i1762 i1763 i1764 l1765 l1766 l1767 l1768 => k0 b1759)
                 (fun l1769 l1770 i1771 i1772 i1773 l1774 l1775 l1776 l1777 => w2
                  (fun b1786 => k0 b1786)
                  (k0 true)
                  N (.v0 (0 : Int) l1769 l1770 i1771 i1772 i1773 l1774 l1775 l1776 l1777))
                 (fun b1787 l1788 l1789 i1790 i1791 i1792 l1793 l1794 l1795 l1796 => k0 b1787)
                 (fun l1797 l1798 i1799 i1800 i1801 l1802 l1803 l1804 l1805 => w2
                  (fun b1806 => k0 b1806)
                  (k0 true)
                  N (.v1 (0 : Int) l1797 l1798 i1799 i1800 i1801 l1802 l1803 l1804 l1805))
                 (fun b1807 l1808 l1809 i1810 i1811 i1812 n1813 n1814 n1815 n1816 l1817 n1818 l1819 l1820 => k0 b1807)
                 (fun l1821 l1822 i1823 i1824 i1825 n1826 n1827 n1828 n1829 l1830 n1831 l1832 l1833 => w2
                  (fun b1834 => k0 b1834)
                  (k0 true)
                  N (.v2 (0 : Int) l1821 l1822 i1823 i1824 i1825 n1826 n1827 n1828 n1829 l1830 n1831 l1832 l1833))
                 (fun b1835 l1836 l1837 i1838 i1839 i1840 n1841 n1842 n1843 n1844 l1845 l1846 l1847 => k0 b1835)
                 (fun l1848 l1849 i1850 i1851 i1852 n1853 n1854 n1855 n1856 l1857 l1858 l1859 => w2
                  (fun b1860 => k0 b1860)
                  (k0 true)
                  N (.v3 (0 : Int) l1848 l1849 i1850 i1851 i1852 n1853 n1854 n1855 n1856 l1857 l1858 l1859))
                 N (.v0 (0 : Int) x0 x1 x2 x3 x4 l1280 l1286 l1287 l1288 ((sub (([] : List ((Sh.int IntKind.u8).isl.T)) ++ (sub l1286 (0 : Nat) (List.length l1286))) (0 : Nat) ((0 : Nat) + (List.length (sub l1286 (0 : Nat) (List.length l1286))))) ++ (sub l1287 (0 : Nat) (List.length l1287))) l1290)))
               (none))
              (none))
             (none))
            (none))))
         (k0 false))
        (fun i1861 l1862 l1863 l1864 => br (!(!(decide (i1861 = (0 : Int)))))
         (c11 x0 x1 x2 x3 x4
          (fun i1865 => br (!(decide ((Nat.cast (List.length l1864) : Int) = i1865)))
           (k0 false)
           (br (fits (0 : Nat) (List.length l1862) l1862)
            (br ((decide ((((0 : Nat) + (List.length (sub l1862 (0 : Nat) (List.length l1862)))) * (24 : Nat)) ≤ (70368744177664 : Nat))) && true)
             (br (fits (0 : Nat) (List.length l1863) l1863)
              (br (((fits (0 : Nat) ((0 : Nat) + (List.length (sub l1862 (0 : Nat) (List.length l1862)))) (([] : List ((Sh.int IntKind.u8).isl.T)) ++ (sub l1862 (0 : Nat) (List.length l1862)))) && (decide (((((0 : Nat) + (List.length (sub l1862 (0 : Nat) (List.length l1862)))) + (List.length (sub l1863 (0 : Nat) (List.length l1863)))) * (24 : Nat)) ≤ (70368744177664 : Nat)))) && true)
               (c9 x0 x1 x2 x3 x4
                (fun l1866 => w0
                 (fun b1867 l1868 l1869 i1870 i1871 i1872 l1873 l1874 l1875 l1876 => k0 b1867)
                 (fun l1877 l1878 i1879 i1880 i1881 l1882 l1883 l1884 l1885 => w2
                  (fun b1886 => k0 b1886)
                  (k0 true)
                  N (.v0 (0 : Int) l1877 l1878 i1879 i1880 i1881 l1882 l1883 l1884 l1885))
                 (fun b1887 l1888 l1889 i1890 i1891 i1892 l1893 l1894 l1895 l1896 => k0 b1887)
                 (fun l1897 l1898 i1899 i1900 i1901 l1902 l1903 l1904 l1905 => w2
                  (fun b1906 => k0 b1906)
                  (k0 true)
                  N (.v1 (0 : Int) l1897 l1898 i1899 i1900 i1901 l1902 l1903 l1904 l1905))
                 (fun b1907 l1908 l1909 i1910 i1911 i1912 n1913 n1914 n1915 n1916 l1917 n1918 l1919 l1920 => k0 b1907)
                 (fun l1921 l1922 i1923 i1924 i1925 n1926 n1927 n1928 n1929 l1930 n1931 l1932 l1933 => w2
                  (fun b1934 => k0 b1934)
                  (k0 true)
                  N (.v2 (0 : Int) l1921 l1922 i1923 i1924 i1925 n1926 n1927 n1928 n1929 l1930 n1931 l1932 l1933))
                 (fun b1935 l1936 l1937 i1938 i1939 i1940 n1941 n1942 n1943 n1944 l1945 l1946 l1947 => k0 b1935)
                 (fun l1948 l1949 i1950 i1951 i1952 n1953 n1954 n1955 n1956 l1957 l1958 l1959 => w2
                  (fun b1960 => k0 b1960)
                  (k0 true)
                  N (.v3 (0 : Int) l1948 l1949 i1950 i1951 i1952 n1953 n1954 n1955 n1956 l1957 l1958 l1959))
                 N (.v1 (0 : Int) x0 x1 x2 x3 x4 l1280 l1862 l1863 l1864 ((sub (([] : List ((Sh.int IntKind.u8).isl.T)) ++ (sub l1862 (0 : Nat) (List.length l1862))) (0 : Nat) ((0 : Nat) + (List.length (sub l1862 (0 : Nat) (List.length l1862))))) ++ (sub l1863 (0 : Nat) (List.length l1863))) l1866)))
               (none))
              (none))
             (none))
            (none))))
         (k0 false))))
      (k0 true)))
    (fun n1961 n1962 n1963 n1964 l1965 b1966 n1967 l1968 => c12 x0 x1 x2 x3 x4
     (fun b1969 => br (!(!b1969))
      (br (!b1966)
       (k0 true)
       (c2 x0 x1 x2 x3 x4 n1961 n1962 n1963 n1964 l1965 n1967 l1968
        (fun i1970 n1971 l1972 l1973 => br (!(!(decide (i1970 = (0 : Int)))))
         (c11 x0 x1 x2 x3 x4
          (fun i1974 => br (!(decide ((Nat.cast (List.length l1973) : Int) = i1974)))
           (k0 false)
           (br (fits (0 : Nat) n1961 l1972)
            (br ((decide ((((0 : Nat) + (List.length (sub l1972 (0 : Nat) n1961))) * (24 : Nat)) ≤ (70368744177664 : Nat))) && true)
             (br ((decide (n1963 = n1963)) && (decide (n1964 = n1964)))
              (br (fits n1963 n1964 l1972)
               (br (((fits (0 : Nat) ((0 : Nat) + (List.length (sub l1972 (0 : Nat) n1961))) (([] : List ((Sh.int IntKind.u8).isl.T)) ++ (sub l1972 (0 : Nat) n1961))) && (decide (((((0 : Nat) + (List.length (sub l1972 (0 : Nat) n1961))) + (List.length (sub l1972 n1963 n1964))) * (24 : Nat)) ≤ (70368744177664 : Nat)))) && true)
                (c9 x0 x1 x2 x3 x4
                 (fun l1975 => w0
                  (fun b1976 l1977 l1978 i1979 i1980 i1981 l1982 l1983 l1984 l1985 => k0 b1976)
                  (fun l1986 l1987 i1988 i1989 i1990 l1991 l1992 l1993 l1994 => w2
                   (fun b1995 => k0 b1995)
                   (k0 true)
                   N (.v0 (0 : Int) l1986 l1987 i1988 i1989 i1990 l1991 l1992 l1993 l1994))
                  (fun b1996 l1997 l1998 i1999 i2000 i2001 l2002 l2003 l2004 l2005 => k0 b1996)
                  (fun l2006 l2007 i2008 i2009 i2010 l2011 l2012 l2013 l2014 => w2
                   (fun b2015 => k0 b2015)
                   (k0 true)
                   N (.v1 (0 : Int) l2006 l2007 i2008 i2009 i2010 l2011 l2012 l2013 l2014))
                  (fun b2016 l2017 l2018 i2019 i2020 i2021 n2022 n2023 n2024 n2025 l2026 n2027 l2028 l2029 => k0 b2016)
                  (fun l2030 l2031 i2032 i2033 i2034 n2035 n2036 n2037 n2038 l2039 n2040 l2041 l2042 => w2
                   (fun b2043 => k0 b2043)
                   (k0 true)
                   N (.v2 (0 : Int) l2030 l2031 i2032 i2033 i2034 n2035 n2036 n2037 n2038 l2039 n2040 l2041 l2042))
                  (fun b2044 l2045 l2046 i2047 i2048 i2049 n2050 n2051 n2052 n2053 l2054 l2055 l2056 => k0 b2044)
                  (fun l2057 l2058 i2059 i2060 i2061 n2062 n2063 n2064 n2065 l2066 l2067 l2068 => w2
                   (fun b2069 => k0 b2069)
                   (k0 true)
                   N (.v3 (0 : Int) l2057 l2058 i2059 i2060 i2061 n2062 n2063 n2064 n2065 l2066 l2067 l2068))
                  N (.v2 (0 : Int) x0 x1 x2 x3 x4 n1961 n1962 n1963 n1964 l1965 n1971 l1972 l1973 ((sub (([] : List ((Sh.int IntKind.u8).isl.T)) ++ (sub l1972 (0 : Nat) n1961)) (0 : Nat) ((0 : Nat) + (List.length (sub l1972 (0 : Nat) n1961)))) ++ (sub l1972 n1963 n1964)) l1975)))
                (none))
               (none))
              (none))
             (none))
            (none))))
         (k0 false))
        (fun i2070 l2071 l2072 => br (!(!(decide (i2070 = (0 : Int)))))
         (c11 x0 x1 x2 x3 x4
          (fun i2073 => br (!(decide ((Nat.cast (List.length l2072) : Int) = i2073)))
           (k0 false)
           (br (fits (0 : Nat) n1961 l2071)
            (br ((decide ((((0 : Nat) + (List.length (sub l2071 (0 : Nat) n1961))) * (24 : Nat)) ≤ (70368744177664 : Nat))) && true)
             (br ((decide (n1963 = n1963)) && (decide (n1964 = n1964)))
              (br (fits n1963 n1964 l2071)
               (br (((fits (0 : Nat) ((0 : Nat) + (List.length (sub l2071 (0 : Nat) n1961))) (([] : List ((Sh.int IntKind.u8).isl.T)) ++ (sub l2071 (0 : Nat) n1961))) && (decide (((((0 : Nat) + (List.length (sub l2071 (0 : Nat) n1961))) + (List.length (sub l2071 n1963 n1964))) * (24 : Nat)) ≤ (70368744177664 : Nat)))) && true)
                (c9 x0 x1 x2 x3 x4
                 (fun l2074 => w0
                  (fun b2075 l2076 l2077 i2078 i2079 i2080 l2081 l2082 l2083 l2084 => k0 b2075)
                  (fun l2085 l2086 i2087 i2088 i2089 l2090 l2091 l2092 l2093 => w2
                   (fun b2094 => k0 b2094)
                   (k0 true)
                   N (.v0 (0 : Int) l2085 l2086 i2087 i2088 i2089 l2090 l2091 l2092 l2093))
                  (fun b2095 l2096 l2097 i2098 i2099 i2100 l2101 l2102 l2103 l2104 => k0 b2095)
                  (fun l2105 l2106 i2107 i2108 i2109 l2110 l2111 l2112 l2113 => w2
                   (fun b2114 => k0 b2114)
                   (k0 true)
                   N (.v1 (0 : Int) l2105 l2106 i2107 i2108 i2109 l2110 l2111 l2112 l2113))
                  (fun b2115 l2116 l2117 i2118 i2119 i2120 n2121 n2122 n2123 n2124 l2125 n2126 l2127 l2128 => k0 b2115)
                  (fun l2129 l2130 i2131 i2132 i2133 n2134 n2135 n2136 n2137 l2138 n2139 l2140 l2141 => w2
                   (fun b2142 => k0 b2142)
                   (k0 true)
                   N (.v2 (0 : Int) l2129 l2130 i2131 i2132 i2133 n2134 n2135 n2136 n2137 l2138 n2139 l2140 l2141))
                  (fun b2143 l2144 l2145 i2146 i2147 i2148 n2149 n2150 n2151 n2152 l2153 l2154 l2155 => k0 b2143)
                  (fun l2156 l2157 i2158 i2159 i2160 n2161 n2162 n2163 n2164 l2165 l2166 l2167 => w2
                   (fun b2168 => k0 b2168)
                   (k0 true)
                   N (.v3 (0 : Int) l2156 l2157 i2158 i2159 i2160 n2161 n2162 n2163 n2164 l2165 l2166 l2167))
                  N (.v3 (0 : Int) x0 x1 x2 x3 x4 n1961 n1962 n1963 n1964 l1965 l2071 l2072 ((sub (([] : List ((Sh.int IntKind.u8).isl.T)) ++ (sub l2071 (0 : Nat) n1961)) (0 : Nat) ((0 : Nat) + (List.length (sub l2071 (0 : Nat) n1961)))) ++ (sub l2071 n1963 n1964)) l2074)))
                (none))
               (none))
              (none))
             (none))
            (none))))
         (k0 false))))
      (k0 true)))))
noncomputable def law18_CastSizes (N : Nat) {R : Type} (x0 : List ((ByteArray) × ((Bool) × (Int)))) (x1 : List (Int)) (x2 : Int) (x3 : Int) (x4 : Int) (x5 : Int) (k0 : (Bool) → Option R) : Option R := law18_CastSizes_T N (@cast_Env_727c N) (@cast_Env_0c40 N) (@cast_Env_e92d N) (@cast_Fail_9e58 N) (@cast_Fail N) (@cast_Byte_dbd4 N) (@cast_Byte N) (@cast_Size_9e58 N) (@cast_Size N) (@ref17_Caps N) (@cast_Vars_66e6 N) (@cast_Vars N) (@law17_Small N) (@ref17_Nth N) (@law18_awake N) (@law18_CastSizes_l0 N) (@law18_CastSizes_l1 N) (@law18_CastSizes_l2 N) x0 x1 x2 x3 x4 x5 k0
end Go.Proofs.Ytlfhmecdgfennaa
