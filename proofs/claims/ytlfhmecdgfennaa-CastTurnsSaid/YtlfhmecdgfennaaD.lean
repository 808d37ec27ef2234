/-
  The functions that the statement reaches, each as a function of Lean (printed by a program of this work).
-/
import Derived.Test.YtlfhmecdgfennaaGx5
set_option linter.unusedVariables false
set_option maxRecDepth 100000
namespace Go.Proofs.Ytlfhmecdgfennaa
open Go.Gx
abbrev TLE : Type := List (ByteArray × (Bool × Int))
abbrev TLL : Type := List (List Int)
abbrev TLI : Type := List Int
abbrev TLB : Type := List Bool
abbrev stringslite_IndexByte_Ty : Type 1 := {R : Type} → (ByteArray) → Int → (Int → Option R) → Option R
abbrev stringslite_Index_Ty : Type 1 := {R : Type} → (ByteArray) → (ByteArray) → (Int → Option R) → Option R
noncomputable def stringslite_Index_T (N : Nat) (c0 : stringslite_IndexByte_Ty) {R : Type} (x0 : ByteArray) (x1 : ByteArray) (k0 : Int → Option R) : Option R :=
  br (!(decide ((Nat.cast (ByteArray.size x1) : Int) = (0 : Int))))
  (br (decide (x1 = x0))
   (k0 (0 : Int))
   (br (decide ((Nat.cast (ByteArray.size x1) : Int) = (1 : Int)))
    (br (inB (0 : Int) (ByteArray.size x1))
     (c0 x0 (bt x1 (0 : Int))
      (fun i0 => k0 i0))
     (none))
    (br (decide ((Nat.cast (ByteArray.size x0) : Int) ≤ (Nat.cast (ByteArray.size x1) : Int)))
     (k0 (-1 : Int))
     (none))))
  (k0 (0 : Int))
noncomputable def stringslite_Index (N : Nat) {R : Type} (x0 : ByteArray) (x1 : ByteArray) (k0 : Int → Option R) : Option R := stringslite_Index_T N @stringslite_IndexByte x0 x1 k0
abbrev stringslite_Cut_Ty : Type 1 := {R : Type} → (ByteArray) → (ByteArray) → ((ByteArray) → (ByteArray) → (Bool) → Option R) → Option R
noncomputable def stringslite_Cut_T (N : Nat) (c0 : stringslite_Index_Ty) {R : Type} (x0 : ByteArray) (x1 : ByteArray) (k0 : (ByteArray) → (ByteArray) → (Bool) → Option R) : Option R :=
  c0 x0 x1
  (fun i1 => br (decide ((0 : Int) ≤ i1))
   (br (leB i1 (ByteArray.size x0))
    (br (leB (IntKind.wrap .i64 (i1 + (Nat.cast (ByteArray.size x1) : Int))) (ByteArray.size x0))
     (k0 (ByteArray.extract x0 (0 : Nat) (Int.toNat i1)) (ByteArray.extract x0 (Int.toNat (IntKind.wrap .i64 (i1 + (Nat.cast (ByteArray.size x1) : Int)))) (ByteArray.size x0)) true)
     (none))
    (none))
   (k0 x0 (bs []) false))
noncomputable def stringslite_Cut (N : Nat) {R : Type} (x0 : ByteArray) (x1 : ByteArray) (k0 : (ByteArray) → (ByteArray) → (Bool) → Option R) : Option R := stringslite_Cut_T N (@stringslite_Index N) x0 x1 k0
abbrev strings_Cut_Ty : Type 1 := {R : Type} → (ByteArray) → (ByteArray) → ((ByteArray) → (ByteArray) → (Bool) → Option R) → Option R
noncomputable def strings_Cut_T (N : Nat) (c0 : stringslite_Cut_Ty) {R : Type} (x0 : ByteArray) (x1 : ByteArray) (k0 : (ByteArray) → (ByteArray) → (Bool) → Option R) : Option R :=
  c0 x0 x1
  (fun s2 s3 b4 => k0 s2 s3 b4)
noncomputable def strings_Cut (N : Nat) {R : Type} (x0 : ByteArray) (x1 : ByteArray) (k0 : (ByteArray) → (ByteArray) → (Bool) → Option R) : Option R := strings_Cut_T N (@stringslite_Cut N) x0 x1 k0
abbrev check_letter_Ty : Type 1 := {R : Type} → Int → ((Bool) → Option R) → Option R
noncomputable def check_letter_T (N : Nat) {R : Type} (x0 : Int) (k0 : (Bool) → Option R) : Option R :=
  br (decide ((97 : Int) ≤ x0))
  (br (!(decide (x0 ≤ (122 : Int))))
   (br (decide ((48 : Int) ≤ x0))
    (br (!(decide (x0 ≤ (57 : Int))))
     (br (!(decide (x0 = (46 : Int))))
      (k0 (decide (x0 = (95 : Int))))
      (k0 true))
     (k0 true))
    (br (!(decide (x0 = (46 : Int))))
     (k0 (decide (x0 = (95 : Int))))
     (k0 true)))
   (k0 true))
  (br (decide ((48 : Int) ≤ x0))
   (br (!(decide (x0 ≤ (57 : Int))))
    (br (!(decide (x0 = (46 : Int))))
     (k0 (decide (x0 = (95 : Int))))
     (k0 true))
    (k0 true))
   (br (!(decide (x0 = (46 : Int))))
    (k0 (decide (x0 = (95 : Int))))
    (k0 true)))
noncomputable def check_letter (N : Nat) {R : Type} (x0 : Int) (k0 : (Bool) → Option R) : Option R := check_letter_T N x0 k0
abbrev check_part_l0_Ty : Type 1 := {R : Type} → ((ByteArray) → (Bool) → Option R) → ((ByteArray) → Option R) → Nat → (ByteArray) → Int → Int → Option R
abbrev check_part_Ty : Type 1 := {R : Type} → (ByteArray) → ((Bool) → Option R) → Option R
noncomputable def check_part_l0_T0 (N : Nat) (c0 : check_letter_Ty) {R : Type} (nx : (ByteArray) → Int → Int → Option R) (k0 : (ByteArray) → (Bool) → Option R) (k1 : (ByteArray) → Option R) (x0 : ByteArray) (x1 : Int) (x2 : Int) : Option R :=
  br (decide (x2 < x1))
  (br (inB x2 (ByteArray.size x0))
   (c0 (bt x0 x2)
    (fun b8 => br (!b8)
     (k0 x0 false)
     (nx x0 x1 (IntKind.wrap .i64 (x2 + (1 : Int))))))
   (none))
  (k1 x0)
noncomputable def check_part_l0 (N : Nat) {R : Type} (k0 : (ByteArray) → (Bool) → Option R) (k1 : (ByteArray) → Option R) : Nat → (ByteArray) → Int → Int → Option R
  | 0, _, _, _ => none
  | n + 1, x0, x1, x2 => check_part_l0_T0 N (@check_letter N) (fun x0 x1 x2 => check_part_l0 N k0 k1 n x0 x1 x2) k0 k1 x0 x1 x2
noncomputable def check_part_T (N : Nat) (c0 : check_letter_Ty) (w0 : check_part_l0_Ty) {R : Type} (x0 : ByteArray) (k0 : (Bool) → Option R) : Option R :=
  w0
  (fun s9 b10 => k0 b10)
  (fun s11 => br (!(decide (s11 = (bs []))))
   (br (!(decide (s11 = (bs [46]))))
    (k0 (!(decide (s11 = (bs [46, 46])))))
    (k0 false))
   (k0 false))
  N x0 (Nat.cast (ByteArray.size x0) : Int) (0 : Int)
noncomputable def check_part (N : Nat) {R : Type} (x0 : ByteArray) (k0 : (Bool) → Option R) : Option R := check_part_T N (@check_letter N) (@check_part_l0 N) x0 k0
abbrev check_Name_Ty : Type 1 := {R : Type} → (ByteArray) → ((Bool) → Option R) → Option R
noncomputable def check_Name_T (N : Nat) (c0 : check_part_Ty) (c1 : strings_Cut_Ty) {R : Type} (x0 : ByteArray) (k0 : (Bool) → Option R) : Option R :=
  br (decide ((8 : Int) < (Nat.cast (ByteArray.size x0) : Int)))
  (k0 false)
  (c1 x0 (bs [47])
   (fun s5 s6 b7 => c0 s5
    (fun b12 => br b12
     (br (!(!b7))
      (c0 s6
       (fun b13 => k0 b13))
      (k0 true))
     (k0 false))))
noncomputable def check_Name (N : Nat) {R : Type} (x0 : ByteArray) (k0 : (Bool) → Option R) : Option R := check_Name_T N (@check_part N) (@strings_Cut N) x0 k0
abbrev names_May_Ty : Type 1 := {R : Type} → (ByteArray) → ((Bool) → Option R) → Option R
noncomputable def names_May_T (N : Nat) (c0 : check_Name_Ty) {R : Type} (x0 : ByteArray) (k0 : (Bool) → Option R) : Option R :=
  c0 x0
  (fun b14 => k0 b14)
noncomputable def names_May (N : Nat) {R : Type} (x0 : ByteArray) (k0 : (Bool) → Option R) : Option R := names_May_T N (@check_Name N) x0 k0
abbrev names_Split_Ty : Type 1 := {R : Type} → (ByteArray) → ((ByteArray) → (ByteArray) → Option R) → Option R
noncomputable def names_Split_T (N : Nat) (c0 : strings_Cut_Ty) (c1 : names_May_Ty) {R : Type} (x0 : ByteArray) (k0 : (ByteArray) → (ByteArray) → Option R) : Option R :=
  c1 x0
  (fun b16 => br (!b16)
   (k0 (bs []) (bs []))
   (c0 x0 (bs [47])
    (fun s17 s18 b19 => br (!b19)
     (k0 (bs []) s17)
     (k0 s17 s18))))
noncomputable def names_Split (N : Nat) {R : Type} (x0 : ByteArray) (k0 : (ByteArray) → (ByteArray) → Option R) : Option R := names_Split_T N (@strings_Cut N) (@names_May N) x0 k0
abbrev tree_of_Ty : Type 1 := {R : Type} → (ByteArray) → ((ByteArray) → (ByteArray) → Option R) → Option R
noncomputable def tree_of_T (N : Nat) (c0 : names_Split_Ty) {R : Type} (x0 : ByteArray) (k0 : (ByteArray) → (ByteArray) → Option R) : Option R :=
  c0 x0
  (fun s20 s21 => k0 s20 s21)
noncomputable def tree_of (N : Nat) {R : Type} (x0 : ByteArray) (k0 : (ByteArray) → (ByteArray) → Option R) : Option R := tree_of_T N (@names_Split N) x0 k0
abbrev tree_Tree_above_2de7_Ty : Type 1 := {R : Type} → (ByteArray) → (ByteArray) → Int → (List (((ByteArray) × (ByteArray)) × ((Int) × (Bool)))) → (Int → Int → (List (((ByteArray) × (ByteArray)) × ((Int) × (Bool)))) → Option R) → Option R
noncomputable def tree_Tree_above_2de7_T (N : Nat) {R : Type} (x0 : ByteArray) (x1 : ByteArray) (x2 : Int) (x3 : List (((ByteArray) × (ByteArray)) × ((Int) × (Bool)))) (k0 : Int → Int → (List (((ByteArray) × (ByteArray)) × ((Int) × (Bool)))) → Option R) : Option R :=
  br (decide (x1 = (bs [])))
  (k0 (65282 : Int) x2 x3)
  (br (decide (x0 = (bs [])))
   (k0 (0 : Int) x2 x3)
   (br ((Option.isSome (mfind (.pair .str .str) (.pair (.int .i64) .bool) x3 ((bs []) , x0))) == (Option.isSome (mfind (.pair .str .str) (.pair (.int .i64) .bool) x3 ((bs []) , x0))))
    (br (!(Option.isSome (mfind (.pair .str .str) (.pair (.int .i64) .bool) x3 ((bs []) , x0))))
     (k0 (65282 : Int) x2 x3)
     (br (!(Option.getD (mfind (.pair .str .str) (.pair (.int .i64) .bool) x3 ((bs []) , x0)) ((0 : Int) , false)).2)
      (k0 (65300 : Int) x2 x3)
      (k0 (0 : Int) x2 x3)))
    (none)))
noncomputable def tree_Tree_above_2de7 (N : Nat) {R : Type} (x0 : ByteArray) (x1 : ByteArray) (x2 : Int) (x3 : List (((ByteArray) × (ByteArray)) × ((Int) × (Bool)))) (k0 : Int → Int → (List (((ByteArray) × (ByteArray)) × ((Int) × (Bool)))) → Option R) : Option R := tree_Tree_above_2de7_T N x0 x1 x2 x3 k0
abbrev tree_Tree_Make_c502_Ty : Type 1 := {R : Type} → (ByteArray) → (Bool) → Int → (List (((ByteArray) × (ByteArray)) × ((Int) × (Bool)))) → (Int → Int → Int → (List (((ByteArray) × (ByteArray)) × ((Int) × (Bool)))) → Option R) → Option R
noncomputable def tree_Tree_Make_c502_T (N : Nat) (c0 : tree_Tree_above_2de7_Ty) (c1 : tree_of_Ty) {R : Type} (x0 : ByteArray) (x1 : Bool) (x2 : Int) (x3 : List (((ByteArray) × (ByteArray)) × ((Int) × (Bool)))) (k0 : Int → Int → Int → (List (((ByteArray) × (ByteArray)) × ((Int) × (Bool)))) → Option R) : Option R :=
  c1 x0
  (fun s22 s23 => c0 s22 s23 x2 x3
   (fun i24 i25 l26 => br (!(decide (i24 = (0 : Int))))
    (k0 (-1 : Int) i24 i25 l26)
    (br ((Option.isSome (mfind (.pair .str .str) (.pair (.int .i64) .bool) l26 (s22 , s23))) == (Option.isSome (mfind (.pair .str .str) (.pair (.int .i64) .bool) l26 (s22 , s23))))
     (br (Option.isSome (mfind (.pair .str .str) (.pair (.int .i64) .bool) l26 (s22 , s23)))
      (k0 (-1 : Int) (65297 : Int) i25 l26)
      (br x1
       (br (!(decide (s22 = (bs []))))
        (k0 (-1 : Int) (65302 : Int) i25 l26)
        (br (decide ((8 : Int) ≤ (Nat.cast (List.length l26) : Int)))
         (k0 (-1 : Int) (65308 : Int) i25 l26)
         (k0 (IntKind.wrap .i64 ((IntKind.wrap .i64 (i25 + (1 : Int))) - (1 : Int))) (0 : Int) (IntKind.wrap .i64 (i25 + (1 : Int))) (mput (.pair .str .str) (.pair (.int .i64) .bool) l26 (s22 , s23) (i25 , x1)))))
       (br (decide ((8 : Int) ≤ (Nat.cast (List.length l26) : Int)))
        (k0 (-1 : Int) (65308 : Int) i25 l26)
        (k0 (IntKind.wrap .i64 ((IntKind.wrap .i64 (i25 + (1 : Int))) - (1 : Int))) (0 : Int) (IntKind.wrap .i64 (i25 + (1 : Int))) (mput (.pair .str .str) (.pair (.int .i64) .bool) l26 (s22 , s23) (i25 , x1))))))
     (none))))
noncomputable def tree_Tree_Make_c502 (N : Nat) {R : Type} (x0 : ByteArray) (x1 : Bool) (x2 : Int) (x3 : List (((ByteArray) × (ByteArray)) × ((Int) × (Bool)))) (k0 : Int → Int → Int → (List (((ByteArray) × (ByteArray)) × ((Int) × (Bool)))) → Option R) : Option R := tree_Tree_Make_c502_T N (@tree_Tree_above_2de7 N) (@tree_of N) x0 x1 x2 x3 k0
abbrev tree_New_644a_l0_Ty : Type 1 := {R : Type} → (Int → (TLE) → Int → (List (((ByteArray) × (ByteArray)) × ((Int) × (Bool)))) → Option R) → ((TLE) → Int → (List (((ByteArray) × (ByteArray)) × ((Int) × (Bool)))) → Option R) → Nat → Int → Int → (TLE) → Int → (List (((ByteArray) × (ByteArray)) × ((Int) × (Bool)))) → Option R
abbrev tree_New_644a_Ty : Type 1 := {R : Type} → (TLE) → (Int → (TLE) → Option R) → (Int → (TLE) → Int → (List (((ByteArray) × (ByteArray)) × ((Int) × (Bool)))) → Option R) → Option R
noncomputable def tree_New_644a_l0_T0 (N : Nat) (c0 : tree_Tree_Make_c502_Ty) (c1 : names_May_Ty) {R : Type} (nx : Int → Int → (TLE) → Int → (List (((ByteArray) × (ByteArray)) × ((Int) × (Bool)))) → Option R) (k0 : Int → (TLE) → Int → (List (((ByteArray) × (ByteArray)) × ((Int) × (Bool)))) → Option R) (k1 : (TLE) → Int → (List (((ByteArray) × (ByteArray)) × ((Int) × (Bool)))) → Option R) (x0 : Int) (x1 : Int) (x2 : TLE) (x3 : Int) (x4 : List (((ByteArray) × (ByteArray)) × ((Int) × (Bool)))) : Option R :=
  br (decide (x1 < x0))
  (br (inB x1 (List.length x2))
   (br (decide ((Int.toNat x1) < (List.length x2)))
    (c1 (List.getD x2 (Int.toNat x1) ((bs []) , (false , (0 : Int)))).1
     (fun b15 => br (!b15)
      (k0 (11 : Int) x2 x3 x4)
      (c0 (List.getD x2 (Int.toNat x1) ((bs []) , (false , (0 : Int)))).1 (List.getD x2 (Int.toNat x1) ((bs []) , (false , (0 : Int)))).2.1 x3 x4
       (fun i27 i28 i29 l30 => br (!(decide (i28 = (0 : Int))))
        (k0 (11 : Int) x2 i29 l30)
        (nx x0 (IntKind.wrap .i64 (x1 + (1 : Int))) x2 i29 l30)))))
    (none))
   (none))
  (k1 x2 x3 x4)
noncomputable def tree_New_644a_l0 (N : Nat) {R : Type} (k0 : Int → (TLE) → Int → (List (((ByteArray) × (ByteArray)) × ((Int) × (Bool)))) → Option R) (k1 : (TLE) → Int → (List (((ByteArray) × (ByteArray)) × ((Int) × (Bool)))) → Option R) : Nat → Int → Int → (TLE) → Int → (List (((ByteArray) × (ByteArray)) × ((Int) × (Bool)))) → Option R
  | 0, _, _, _, _, _ => none
  | n + 1, x0, x1, x2, x3, x4 => tree_New_644a_l0_T0 N (@tree_Tree_Make_c502 N) (@names_May N) (fun x0 x1 x2 x3 x4 => tree_New_644a_l0 N k0 k1 n x0 x1 x2 x3 x4) k0 k1 x0 x1 x2 x3 x4
noncomputable def tree_New_644a_T (N : Nat) (c0 : tree_Tree_Make_c502_Ty) (c1 : names_May_Ty) (w0 : tree_New_644a_l0_Ty) {R : Type} (x0 : TLE) (k0 : Int → (TLE) → Option R) (k1 : Int → (TLE) → Int → (List (((ByteArray) × (ByteArray)) × ((Int) × (Bool)))) → Option R) : Option R :=
  br (decide ((8 : Int) < (Nat.cast (List.length x0) : Int)))
  (k0 (11 : Int) x0)
  (w0
   (fun i31 l32 i33 l34 => k0 i31 l32)
   (fun l35 i36 l37 => k1 (0 : Int) l35 i36 l37)
   N (Nat.cast (List.length x0) : Int) (0 : Int) x0 (0 : Int) ([] : List (((Sh.str.pair Sh.str).T) × (((Sh.int IntKind.i64).pair Sh.bool).T))))
noncomputable def tree_New_644a (N : Nat) {R : Type} (x0 : TLE) (k0 : Int → (TLE) → Option R) (k1 : Int → (TLE) → Int → (List (((ByteArray) × (ByteArray)) × ((Int) × (Bool)))) → Option R) : Option R := tree_New_644a_T N (@tree_Tree_Make_c502 N) (@names_May N) (@tree_New_644a_l0 N) x0 k0 k1
abbrev tree_New_l0_Ty : Type 1 := {R : Type} → (Int → Int → (List (((ByteArray) × (ByteArray)) × ((Int) × (Bool)))) → Option R) → (Int → (List (((ByteArray) × (ByteArray)) × ((Int) × (Bool)))) → Option R) → Nat → (TLE) → Int → Int → Int → (List (((ByteArray) × (ByteArray)) × ((Int) × (Bool)))) → Option R
abbrev tree_New_Ty : Type 1 := {R : Type} → (TLE) → (Int → Option R) → (Int → Int → (List (((ByteArray) × (ByteArray)) × ((Int) × (Bool)))) → Option R) → Option R
noncomputable def tree_New_l0_T0 (N : Nat) (c0 : tree_Tree_Make_c502_Ty) (c1 : names_May_Ty) {R : Type} (nx : (TLE) → Int → Int → Int → (List (((ByteArray) × (ByteArray)) × ((Int) × (Bool)))) → Option R) (k0 : Int → Int → (List (((ByteArray) × (ByteArray)) × ((Int) × (Bool)))) → Option R) (k1 : Int → (List (((ByteArray) × (ByteArray)) × ((Int) × (Bool)))) → Option R) (x0 : TLE) (x1 : Int) (x2 : Int) (x3 : Int) (x4 : List (((ByteArray) × (ByteArray)) × ((Int) × (Bool)))) : Option R :=
  br (decide (x2 < x1))
  (br (inB x2 (List.length x0))
   (c1 (List.getD x0 (Int.toNat x2) ((bs []) , (false , (0 : Int)))).1
    (fun b337 => br (!b337)
     (k0 (11 : Int) x3 x4)
     (c0 (List.getD x0 (Int.toNat x2) ((bs []) , (false , (0 : Int)))).1 (List.getD x0 (Int.toNat x2) ((bs []) , (false , (0 : Int)))).2.1 x3 x4
      (fun i338 i339 i340 l341 => br (!(decide (i339 = (0 : Int))))
       (k0 (11 : Int) i340 l341)
       (nx x0 x1 (IntKind.wrap .i64 (x2 + (1 : Int))) i340 l341)))))
   (none))
  (k1 x3 x4)
noncomputable def tree_New_l0 (N : Nat) {R : Type} (k0 : Int → Int → (List (((ByteArray) × (ByteArray)) × ((Int) × (Bool)))) → Option R) (k1 : Int → (List (((ByteArray) × (ByteArray)) × ((Int) × (Bool)))) → Option R) : Nat → (TLE) → Int → Int → Int → (List (((ByteArray) × (ByteArray)) × ((Int) × (Bool)))) → Option R
  | 0, _, _, _, _, _ => none
  | n + 1, x0, x1, x2, x3, x4 => tree_New_l0_T0 N (@tree_Tree_Make_c502 N) (@names_May N) (fun x0 x1 x2 x3 x4 => tree_New_l0 N k0 k1 n x0 x1 x2 x3 x4) k0 k1 x0 x1 x2 x3 x4
noncomputable def tree_New_T (N : Nat) (c0 : tree_Tree_Make_c502_Ty) (c1 : names_May_Ty) (w0 : tree_New_l0_Ty) {R : Type} (x0 : TLE) (k0 : Int → Option R) (k1 : Int → Int → (List (((ByteArray) × (ByteArray)) × ((Int) × (Bool)))) → Option R) : Option R :=
  br (decide ((8 : Int) < (Nat.cast (List.length x0) : Int)))
  (k0 (11 : Int))
  (w0
   (fun i342 i343 l344 => k0 i342)
   (fun i345 l346 => k1 (0 : Int) i345 l346)
   N x0 (Nat.cast (List.length x0) : Int) (0 : Int) (0 : Int) ([] : List (((Sh.str.pair Sh.str).T) × (((Sh.int IntKind.i64).pair Sh.bool).T))))
noncomputable def tree_New (N : Nat) {R : Type} (x0 : TLE) (k0 : Int → Option R) (k1 : Int → Int → (List (((ByteArray) × (ByteArray)) × ((Int) × (Bool)))) → Option R) : Option R := tree_New_T N (@tree_Tree_Make_c502 N) (@names_May N) (@tree_New_l0 N) x0 k0 k1
abbrev k_Files_66e6_l0_Ty : Type 1 := {R : Type} → ((TLE) → TLI → TLI → Option R) → Nat → Int → Int → (TLE) → TLI → TLI → Option R
abbrev k_Files_66e6_Ty : Type 1 := {R : Type} → Int → Int → Int → (TLE) → TLI → ((TLE) → TLI → TLI → Option R) → Option R
noncomputable def k_Files_66e6_l0_T0 (N : Nat) {R : Type} (nx : Int → Int → (TLE) → TLI → TLI → Option R) (k0 : (TLE) → TLI → TLI → Option R) (x0 : Int) (x1 : Int) (x2 : TLE) (x3 : List (Int)) (x4 : List (Int)) : Option R :=
  br (decide (x1 < x0))
  (br (inB x1 (List.length x2))
   (br (decide ((Int.toNat x1) < (List.length x2)))
    (br (!(List.getD x2 (Int.toNat x1) ((bs []) , (false , (0 : Int)))).2.1)
     (br (((fits (0 : Nat) (List.length x4) x4) && (decide ((((List.length x4) + (1 : Nat)) * (8 : Nat)) ≤ (70368744177664 : Nat)))) && true)
      (nx x0 (IntKind.wrap .i64 (x1 + (1 : Int))) x2 x3 ((sub x4 (0 : Nat) (List.length x4)) ++ (x1 :: ([] : List ((Sh.int IntKind.i64).T)))))
      (none))
     (nx x0 (IntKind.wrap .i64 (x1 + (1 : Int))) x2 x3 x4))
    (none))
   (none))
  (k0 x2 x3 x4)
noncomputable def k_Files_66e6_l0 (N : Nat) {R : Type} (k0 : (TLE) → TLI → TLI → Option R) : Nat → Int → Int → (TLE) → TLI → TLI → Option R
  | 0, _, _, _, _, _ => none
  | n + 1, x0, x1, x2, x3, x4 => k_Files_66e6_l0_T0 N (fun x0 x1 x2 x3 x4 => k_Files_66e6_l0 N k0 n x0 x1 x2 x3 x4) k0 x0 x1 x2 x3 x4
noncomputable def k_Files_66e6_T (N : Nat) (w0 : k_Files_66e6_l0_Ty) {R : Type} (x0 : Int) (x1 : Int) (x2 : Int) (x3 : TLE) (x4 : List (Int)) (k0 : (TLE) → TLI → TLI → Option R) : Option R :=
  w0
  (fun l40 l41 l42 => k0 l40 l41 l42)
  N (Nat.cast (List.length x3) : Int) (0 : Int) x3 x4 ([] : List ((Sh.int IntKind.i64).T))
noncomputable def k_Files_66e6 (N : Nat) {R : Type} (x0 : Int) (x1 : Int) (x2 : Int) (x3 : TLE) (x4 : List (Int)) (k0 : (TLE) → TLI → TLI → Option R) : Option R := k_Files_66e6_T N (@k_Files_66e6_l0 N) x0 x1 x2 x3 x4 k0
abbrev k_Files_l0_Ty : Type 1 := {R : Type} → (TLI → Option R) → Nat → (TLE) → Int → Int → TLI → Option R
abbrev k_Files_Ty : Type 1 := {R : Type} → (TLE) → TLI → Int → Int → Int → (TLI → Option R) → Option R
noncomputable def k_Files_l0_T0 (N : Nat) {R : Type} (nx : (TLE) → Int → Int → TLI → Option R) (k0 : TLI → Option R) (x0 : TLE) (x1 : Int) (x2 : Int) (x3 : List (Int)) : Option R :=
  br (decide (x2 < x1))
  (br (inB x2 (List.length x0))
   (br (!(List.getD x0 (Int.toNat x2) ((bs []) , (false , (0 : Int)))).2.1)
    (br (((fits (0 : Nat) (List.length x3) x3) && (decide ((((List.length x3) + (1 : Nat)) * (8 : Nat)) ≤ (70368744177664 : Nat)))) && true)
     (nx x0 x1 (IntKind.wrap .i64 (x2 + (1 : Int))) ((sub x3 (0 : Nat) (List.length x3)) ++ (x2 :: ([] : List ((Sh.int IntKind.i64).T)))))
     (none))
    (nx x0 x1 (IntKind.wrap .i64 (x2 + (1 : Int))) x3))
   (none))
  (k0 x3)
noncomputable def k_Files_l0 (N : Nat) {R : Type} (k0 : TLI → Option R) : Nat → (TLE) → Int → Int → TLI → Option R
  | 0, _, _, _, _ => none
  | n + 1, x0, x1, x2, x3 => k_Files_l0_T0 N (fun x0 x1 x2 x3 => k_Files_l0 N k0 n x0 x1 x2 x3) k0 x0 x1 x2 x3
noncomputable def k_Files_T (N : Nat) (w0 : k_Files_l0_Ty) {R : Type} (x0 : TLE) (x1 : List (Int)) (x2 : Int) (x3 : Int) (x4 : Int) (k0 : TLI → Option R) : Option R :=
  w0
  (fun l348 => k0 l348)
  N x0 (Nat.cast (List.length x0) : Int) (0 : Int) ([] : List ((Sh.int IntKind.i64).T))
noncomputable def k_Files (N : Nat) {R : Type} (x0 : TLE) (x1 : List (Int)) (x2 : Int) (x3 : Int) (x4 : Int) (k0 : TLI → Option R) : Option R := k_Files_T N (@k_Files_l0 N) x0 x1 x2 x3 x4 k0
abbrev k_fits_Ty : Type 1 := {R : Type} → Int → Int → ((Bool) → Option R) → Option R
noncomputable def k_fits_T (N : Nat) {R : Type} (x0 : Int) (x1 : Int) (k0 : (Bool) → Option R) : Option R :=
  br (decide ((0 : Int) ≤ x0))
  (k0 (decide (x0 ≤ x1)))
  (k0 false)
noncomputable def k_fits (N : Nat) {R : Type} (x0 : Int) (x1 : Int) (k0 : (Bool) → Option R) : Option R := k_fits_T N x0 x1 k0
abbrev k_May_66e6_l0_Ty : Type 1 := {R : Type} → ((Bool) → (TLE) → TLI → Int → Int → Int → Option R) → ((TLE) → TLI → Int → Int → Int → Option R) → Nat → Int → Int → (TLE) → TLI → Int → Int → Int → Option R
abbrev k_May_66e6_l1_Ty : Type 1 := {R : Type} → ((Bool) → (TLE) → TLI → Int → Int → Int → Option R) → ((TLE) → TLI → Int → Int → Int → Option R) → Nat → Int → Int → (TLE) → TLI → Int → Int → Int → Option R
abbrev k_May_66e6_Ty : Type 1 := {R : Type} → Int → Int → Int → (TLE) → TLI → ((Bool) → (TLE) → TLI → Option R) → Option R
noncomputable def k_May_66e6_l0_T0 (N : Nat) (c0 : k_fits_Ty) (c1 : k_Files_66e6_Ty) (c2 : k_Files_Ty) (c3 : tree_New_644a_Ty) (c4 : tree_New_Ty) (w1 : k_May_66e6_l1_Ty) {R : Type} (nx : Int → Int → (TLE) → TLI → Int → Int → Int → Option R) (k0 : (Bool) → (TLE) → TLI → Int → Int → Int → Option R) (k1 : (TLE) → TLI → Int → Int → Int → Option R) (x0 : Int) (x1 : Int) (x2 : TLE) (x3 : List (Int)) (x4 : Int) (x5 : Int) (x6 : Int) : Option R :=
  br (decide (x1 < x0))
  (br (inB x1 (List.length x2))
   (br (decide ((Int.toNat x1) < (List.length x2)))
    (c0 (List.getD x2 (Int.toNat x1) ((bs []) , (false , (0 : Int)))).2.2 (3 : Int)
     (fun b46 => br (!(!b46))
      (br (List.getD x2 (Int.toNat x1) ((bs []) , (false , (0 : Int)))).2.1
       (br (!(decide ((List.getD x2 (Int.toNat x1) ((bs []) , (false , (0 : Int)))).2.2 = (0 : Int))))
        (k0 false x2 x3 x4 x5 x6)
        (nx x0 (IntKind.wrap .i64 (x1 + (1 : Int))) x2 x3 x4 x5 x6))
       (nx x0 (IntKind.wrap .i64 (x1 + (1 : Int))) x2 x3 x4 x5 x6))
      (k0 false x2 x3 x4 x5 x6)))
    (none))
   (none))
  (k1 x2 x3 x4 x5 x6)
noncomputable def k_May_66e6_l1_T0 (N : Nat) (c0 : k_fits_Ty) (c1 : k_Files_66e6_Ty) (c2 : k_Files_Ty) (c3 : tree_New_644a_Ty) (c4 : tree_New_Ty) {R : Type} (nx : Int → Int → (TLE) → TLI → Int → Int → Int → Option R) (k0 : (Bool) → (TLE) → TLI → Int → Int → Int → Option R) (k1 : (TLE) → TLI → Int → Int → Int → Option R) (x0 : Int) (x1 : Int) (x2 : TLE) (x3 : List (Int)) (x4 : Int) (x5 : Int) (x6 : Int) : Option R :=
  br (decide (x1 < x0))
  (br (inB x1 (List.length x3))
   (br (decide ((Int.toNat x1) < (List.length x3)))
    (c0 (List.getD x3 (Int.toNat x1) (0 : Int)) (3 : Int)
     (fun b58 => br (!b58)
      (k0 false x2 x3 x4 x5 x6)
      (nx x0 (IntKind.wrap .i64 (x1 + (1 : Int))) x2 x3 x4 x5 x6)))
    (none))
   (none))
  (k1 x2 x3 x4 x5 x6)
noncomputable def k_May_66e6_l1 (N : Nat) {R : Type} (k0 : (Bool) → (TLE) → TLI → Int → Int → Int → Option R) (k1 : (TLE) → TLI → Int → Int → Int → Option R) : Nat → Int → Int → (TLE) → TLI → Int → Int → Int → Option R
  | 0, _, _, _, _, _, _, _ => none
  | n + 1, x0, x1, x2, x3, x4, x5, x6 => k_May_66e6_l1_T0 N (@k_fits N) (@k_Files_66e6 N) (@k_Files N) (@tree_New_644a N) (@tree_New N) (fun x0 x1 x2 x3 x4 x5 x6 => k_May_66e6_l1 N k0 k1 n x0 x1 x2 x3 x4 x5 x6) k0 k1 x0 x1 x2 x3 x4 x5 x6
noncomputable def k_May_66e6_l0 (N : Nat) {R : Type} (k0 : (Bool) → (TLE) → TLI → Int → Int → Int → Option R) (k1 : (TLE) → TLI → Int → Int → Int → Option R) : Nat → Int → Int → (TLE) → TLI → Int → Int → Int → Option R
  | 0, _, _, _, _, _, _, _ => none
  | n + 1, x0, x1, x2, x3, x4, x5, x6 => k_May_66e6_l0_T0 N (@k_fits N) (@k_Files_66e6 N) (@k_Files N) (@tree_New_644a N) (@tree_New N) (@k_May_66e6_l1 N) (fun x0 x1 x2 x3 x4 x5 x6 => k_May_66e6_l0 N k0 k1 n x0 x1 x2 x3 x4 x5 x6) k0 k1 x0 x1 x2 x3 x4 x5 x6
noncomputable def k_May_66e6_T (N : Nat) (c0 : k_fits_Ty) (c1 : k_Files_66e6_Ty) (c2 : k_Files_Ty) (c3 : tree_New_644a_Ty) (c4 : tree_New_Ty) (w0 : k_May_66e6_l0_Ty) (w1 : k_May_66e6_l1_Ty) {R : Type} (x0 : Int) (x1 : Int) (x2 : Int) (x3 : TLE) (x4 : List (Int)) (k0 : (Bool) → (TLE) → TLI → Option R) : Option R :=
  c3 x3
  (fun i38 l39 => br (!(!(decide (i38 = (0 : Int)))))
   (c1 x0 x1 x2 l39 x4
    (fun l43 l44 l45 => br (!(decide ((4 : Int) < (Nat.cast (List.length l45) : Int))))
     (br (decide ((2 : Int) < (Nat.cast (List.length l44) : Int)))
      (k0 false l43 l44)
      (w0
       (fun b47 l48 l49 i50 i51 i52 => k0 b47 l48 l49)
       (fun l53 l54 i55 i56 i57 => w1
        (fun b59 l60 l61 i62 i63 i64 => k0 b59 l60 l61)
        (fun l65 l66 i67 i68 i69 => c0 i67 (6 : Int)
         (fun b70 => br b70
          (c0 i68 i67
           (fun b71 => br b71
            (c0 i69 (400 : Int)
             (fun b72 => k0 b72 l65 l66))
            (k0 false l65 l66)))
          (k0 false l65 l66)))
        N (Nat.cast (List.length l54) : Int) (0 : Int) l53 l54 i55 i56 i57)
       N (Nat.cast (List.length l43) : Int) (0 : Int) l43 l44 x0 x1 x2))
     (k0 false l43 l44)))
   (k0 false l39 x4))
  (fun i73 l74 i75 l76 => br (!(!(decide (i73 = (0 : Int)))))
   (c1 x0 x1 x2 l74 x4
    (fun l77 l78 l79 => br (!(decide ((4 : Int) < (Nat.cast (List.length l79) : Int))))
     (br (decide ((2 : Int) < (Nat.cast (List.length l78) : Int)))
      (k0 false l77 l78)
      (w0
       (fun b80 l81 l82 i83 i84 i85 => k0 b80 l81 l82)
       (fun l86 l87 i88 i89 i90 => w1
        (fun b91 l92 l93 i94 i95 i96 => k0 b91 l92 l93)
        (fun l97 l98 i99 i100 i101 => c0 i99 (6 : Int)
         (fun b102 => br b102
          (c0 i100 i99
           (fun b103 => br b103
            (c0 i101 (400 : Int)
             (fun b104 => k0 b104 l97 l98))
            (k0 false l97 l98)))
          (k0 false l97 l98)))
        N (Nat.cast (List.length l87) : Int) (0 : Int) l86 l87 i88 i89 i90)
       N (Nat.cast (List.length l77) : Int) (0 : Int) l77 l78 x0 x1 x2))
     (k0 false l77 l78)))
   (k0 false l74 x4))
noncomputable def k_May_66e6 (N : Nat) {R : Type} (x0 : Int) (x1 : Int) (x2 : Int) (x3 : TLE) (x4 : List (Int)) (k0 : (Bool) → (TLE) → TLI → Option R) : Option R := k_May_66e6_T N (@k_fits N) (@k_Files_66e6 N) (@k_Files N) (@tree_New_644a N) (@tree_New N) (@k_May_66e6_l0 N) (@k_May_66e6_l1 N) x0 x1 x2 x3 x4 k0
abbrev k_May_l0_Ty : Type 1 := {R : Type} → ((Bool) → (TLE) → TLI → Int → Int → Int → Option R) → ((TLE) → TLI → Int → Int → Int → Option R) → Nat → (TLE) → Int → Int → (TLE) → TLI → Int → Int → Int → Option R
abbrev k_May_l1_Ty : Type 1 := {R : Type} → ((Bool) → (TLE) → TLI → Int → Int → Int → Option R) → ((TLE) → TLI → Int → Int → Int → Option R) → Nat → TLI → Int → Int → (TLE) → TLI → Int → Int → Int → Option R
abbrev k_May_Ty : Type 1 := {R : Type} → (TLE) → TLI → Int → Int → Int → ((Bool) → Option R) → Option R
noncomputable def k_May_l0_T0 (N : Nat) (c0 : k_fits_Ty) (c1 : k_Files_66e6_Ty) (c2 : k_Files_Ty) (c3 : tree_New_644a_Ty) (c4 : tree_New_Ty) (w1 : k_May_l1_Ty) {R : Type} (nx : (TLE) → Int → Int → (TLE) → TLI → Int → Int → Int → Option R) (k0 : (Bool) → (TLE) → TLI → Int → Int → Int → Option R) (k1 : (TLE) → TLI → Int → Int → Int → Option R) (x0 : TLE) (x1 : Int) (x2 : Int) (x3 : TLE) (x4 : List (Int)) (x5 : Int) (x6 : Int) (x7 : Int) : Option R :=
  br (decide (x2 < x1))
  (br (inB x2 (List.length x0))
   (c0 (List.getD x0 (Int.toNat x2) ((bs []) , (false , (0 : Int)))).2.2 (3 : Int)
    (fun b350 => br (!(!b350))
     (br (List.getD x0 (Int.toNat x2) ((bs []) , (false , (0 : Int)))).2.1
      (br (!(decide ((List.getD x0 (Int.toNat x2) ((bs []) , (false , (0 : Int)))).2.2 = (0 : Int))))
       (k0 false x3 x4 x5 x6 x7)
       (nx x0 x1 (IntKind.wrap .i64 (x2 + (1 : Int))) x3 x4 x5 x6 x7))
      (nx x0 x1 (IntKind.wrap .i64 (x2 + (1 : Int))) x3 x4 x5 x6 x7))
     (k0 false x3 x4 x5 x6 x7)))
   (none))
  (k1 x3 x4 x5 x6 x7)
noncomputable def k_May_l1_T0 (N : Nat) (c0 : k_fits_Ty) (c1 : k_Files_66e6_Ty) (c2 : k_Files_Ty) (c3 : tree_New_644a_Ty) (c4 : tree_New_Ty) {R : Type} (nx : TLI → Int → Int → (TLE) → TLI → Int → Int → Int → Option R) (k0 : (Bool) → (TLE) → TLI → Int → Int → Int → Option R) (k1 : (TLE) → TLI → Int → Int → Int → Option R) (x0 : List (Int)) (x1 : Int) (x2 : Int) (x3 : TLE) (x4 : List (Int)) (x5 : Int) (x6 : Int) (x7 : Int) : Option R :=
  br (decide (x2 < x1))
  (br (inB x2 (List.length x0))
   (c0 (List.getD x0 (Int.toNat x2) (0 : Int)) (3 : Int)
    (fun b362 => br (!b362)
     (k0 false x3 x4 x5 x6 x7)
     (nx x0 x1 (IntKind.wrap .i64 (x2 + (1 : Int))) x3 x4 x5 x6 x7)))
   (none))
  (k1 x3 x4 x5 x6 x7)
noncomputable def k_May_l1 (N : Nat) {R : Type} (k0 : (Bool) → (TLE) → TLI → Int → Int → Int → Option R) (k1 : (TLE) → TLI → Int → Int → Int → Option R) : Nat → TLI → Int → Int → (TLE) → TLI → Int → Int → Int → Option R
  | 0, _, _, _, _, _, _, _, _ => none
  | n + 1, x0, x1, x2, x3, x4, x5, x6, x7 => k_May_l1_T0 N (@k_fits N) (@k_Files_66e6 N) (@k_Files N) (@tree_New_644a N) (@tree_New N) (fun x0 x1 x2 x3 x4 x5 x6 x7 => k_May_l1 N k0 k1 n x0 x1 x2 x3 x4 x5 x6 x7) k0 k1 x0 x1 x2 x3 x4 x5 x6 x7
noncomputable def k_May_l0 (N : Nat) {R : Type} (k0 : (Bool) → (TLE) → TLI → Int → Int → Int → Option R) (k1 : (TLE) → TLI → Int → Int → Int → Option R) : Nat → (TLE) → Int → Int → (TLE) → TLI → Int → Int → Int → Option R
  | 0, _, _, _, _, _, _, _, _ => none
  | n + 1, x0, x1, x2, x3, x4, x5, x6, x7 => k_May_l0_T0 N (@k_fits N) (@k_Files_66e6 N) (@k_Files N) (@tree_New_644a N) (@tree_New N) (@k_May_l1 N) (fun x0 x1 x2 x3 x4 x5 x6 x7 => k_May_l0 N k0 k1 n x0 x1 x2 x3 x4 x5 x6 x7) k0 k1 x0 x1 x2 x3 x4 x5 x6 x7
noncomputable def k_May_T (N : Nat) (c0 : k_fits_Ty) (c1 : k_Files_66e6_Ty) (c2 : k_Files_Ty) (c3 : tree_New_644a_Ty) (c4 : tree_New_Ty) (w0 : k_May_l0_Ty) (w1 : k_May_l1_Ty) {R : Type} (x0 : TLE) (x1 : List (Int)) (x2 : Int) (x3 : Int) (x4 : Int) (k0 : (Bool) → Option R) : Option R :=
  c4 x0
  (fun i347 => br (!(!(decide (i347 = (0 : Int)))))
   (c2 x0 x1 x2 x3 x4
    (fun l349 => br (!(decide ((4 : Int) < (Nat.cast (List.length l349) : Int))))
     (br (decide ((2 : Int) < (Nat.cast (List.length x1) : Int)))
      (k0 false)
      (w0
       (fun b351 l352 l353 i354 i355 i356 => k0 b351)
       (fun l357 l358 i359 i360 i361 => w1
        (fun b363 l364 l365 i366 i367 i368 => k0 b363)
        (fun l369 l370 i371 i372 i373 => c0 i371 (6 : Int)
         (fun b374 => br b374
          (c0 i372 i371
           (fun b375 => br b375
            (c0 i373 (400 : Int)
             (fun b376 => k0 b376))
            (k0 false)))
          (k0 false)))
        N l358 (Nat.cast (List.length l358) : Int) (0 : Int) l357 l358 i359 i360 i361)
       N x0 (Nat.cast (List.length x0) : Int) (0 : Int) x0 x1 x2 x3 x4))
     (k0 false)))
   (k0 false))
  (fun i377 i378 l379 => br (!(!(decide (i377 = (0 : Int)))))
   (c2 x0 x1 x2 x3 x4
    (fun l380 => br (!(decide ((4 : Int) < (Nat.cast (List.length l380) : Int))))
     (br (decide ((2 : Int) < (Nat.cast (List.length x1) : Int)))
      (k0 false)
      (w0
       (fun b381 l382 l383 i384 i385 i386 => k0 b381)
       (fun l387 l388 i389 i390 i391 => w1
        (fun b392 l393 l394 i395 i396 i397 => k0 b392)
        (fun l398 l399 i400 i401 i402 => c0 i400 (6 : Int)
         (fun b403 => br b403
          (c0 i401 i400
           (fun b404 => br b404
            (c0 i402 (400 : Int)
             (fun b405 => k0 b405))
            (k0 false)))
          (k0 false)))
        N l388 (Nat.cast (List.length l388) : Int) (0 : Int) l387 l388 i389 i390 i391)
       N x0 (Nat.cast (List.length x0) : Int) (0 : Int) x0 x1 x2 x3 x4))
     (k0 false)))
   (k0 false))
noncomputable def k_May (N : Nat) {R : Type} (x0 : TLE) (x1 : List (Int)) (x2 : Int) (x3 : Int) (x4 : Int) (k0 : (Bool) → Option R) : Option R := k_May_T N (@k_fits N) (@k_Files_66e6 N) (@k_Files N) (@tree_New_644a N) (@tree_New N) (@k_May_l0 N) (@k_May_l1 N) x0 x1 x2 x3 x4 k0
abbrev fails_May_e7e3_l0_Ty : Type 1 := {R : Type} → (Int → Int → Int → TLB → Option R) → Nat → Int → Int → Int → Int → Int → TLB → Option R
abbrev fails_May_e7e3_Ty : Type 1 := {R : Type} → Int → Int → TLB → ((Bool) → TLB → Option R) → Option R
noncomputable def fails_May_e7e3_l0_T0 (N : Nat) {R : Type} (nx : Int → Int → Int → Int → Int → TLB → Option R) (k0 : Int → Int → Int → TLB → Option R) (x0 : Int) (x1 : Int) (x2 : Int) (x3 : Int) (x4 : Int) (x5 : List (Bool)) : Option R :=
  br (decide (x4 < x3))
  (br (inB x4 (List.length x5))
   (br (decide ((Int.toNat x4) < (List.length x5)))
    (br (List.getD x5 (Int.toNat x4) false)
     (nx x0 x1 (IntKind.wrap .i64 (x2 + (1 : Int))) x3 (IntKind.wrap .i64 (x4 + (1 : Int))) x5)
     (nx x0 x1 x2 x3 (IntKind.wrap .i64 (x4 + (1 : Int))) x5))
    (none))
   (none))
  (k0 x0 x1 x2 x5)
noncomputable def fails_May_e7e3_l0 (N : Nat) {R : Type} (k0 : Int → Int → Int → TLB → Option R) : Nat → Int → Int → Int → Int → Int → TLB → Option R
  | 0, _, _, _, _, _, _ => none
  | n + 1, x0, x1, x2, x3, x4, x5 => fails_May_e7e3_l0_T0 N (fun x0 x1 x2 x3 x4 x5 => fails_May_e7e3_l0 N k0 n x0 x1 x2 x3 x4 x5) k0 x0 x1 x2 x3 x4 x5
noncomputable def fails_May_e7e3_T (N : Nat) (w0 : fails_May_e7e3_l0_Ty) {R : Type} (x0 : Int) (x1 : Int) (x2 : List (Bool)) (k0 : (Bool) → TLB → Option R) : Option R :=
  w0
  (fun i114 i115 i116 l117 => br (decide ((Nat.cast (List.length l117) : Int) = i114))
   (br (decide (i114 ≤ (6 : Int)))
    (k0 (decide (i116 ≤ i115)) l117)
    (k0 false l117))
   (k0 false l117))
  N x0 x1 (0 : Int) (Nat.cast (List.length x2) : Int) (0 : Int) x2
noncomputable def fails_May_e7e3 (N : Nat) {R : Type} (x0 : Int) (x1 : Int) (x2 : List (Bool)) (k0 : (Bool) → TLB → Option R) : Option R := fails_May_e7e3_T N (@fails_May_e7e3_l0 N) x0 x1 x2 k0
abbrev fails_May_l0_Ty : Type 1 := {R : Type} → (TLB → Int → Int → Int → Option R) → Nat → TLB → Int → Int → Int → TLB → Int → Int → Option R
abbrev fails_May_Ty : Type 1 := {R : Type} → TLB → Int → Int → ((Bool) → Option R) → Option R
noncomputable def fails_May_l0_T0 (N : Nat) {R : Type} (nx : TLB → Int → Int → Int → TLB → Int → Int → Option R) (k0 : TLB → Int → Int → Int → Option R) (x0 : List (Bool)) (x1 : Int) (x2 : Int) (x3 : Int) (x4 : List (Bool)) (x5 : Int) (x6 : Int) : Option R :=
  br (decide (x6 < x5))
  (br (inB x6 (List.length x4))
   (br (List.getD x4 (Int.toNat x6) false)
    (nx x0 x1 x2 (IntKind.wrap .i64 (x3 + (1 : Int))) x4 x5 (IntKind.wrap .i64 (x6 + (1 : Int))))
    (nx x0 x1 x2 x3 x4 x5 (IntKind.wrap .i64 (x6 + (1 : Int)))))
   (none))
  (k0 x0 x1 x2 x3)
noncomputable def fails_May_l0 (N : Nat) {R : Type} (k0 : TLB → Int → Int → Int → Option R) : Nat → TLB → Int → Int → Int → TLB → Int → Int → Option R
  | 0, _, _, _, _, _, _, _ => none
  | n + 1, x0, x1, x2, x3, x4, x5, x6 => fails_May_l0_T0 N (fun x0 x1 x2 x3 x4 x5 x6 => fails_May_l0 N k0 n x0 x1 x2 x3 x4 x5 x6) k0 x0 x1 x2 x3 x4 x5 x6
noncomputable def fails_May_T (N : Nat) (w0 : fails_May_l0_Ty) {R : Type} (x0 : List (Bool)) (x1 : Int) (x2 : Int) (k0 : (Bool) → Option R) : Option R :=
  w0
  (fun l409 i410 i411 i412 => br (decide ((Nat.cast (List.length l409) : Int) = i410))
   (br (decide (i410 ≤ (6 : Int)))
    (k0 (decide (i412 ≤ i411)))
    (k0 false))
   (k0 false))
  N x0 x1 x2 (0 : Int) x0 (Nat.cast (List.length x0) : Int) (0 : Int)
noncomputable def fails_May (N : Nat) {R : Type} (x0 : List (Bool)) (x1 : Int) (x2 : Int) (k0 : (Bool) → Option R) : Option R := fails_May_T N (@fails_May_l0 N) x0 x1 x2 k0
abbrev k_Caps_66e6_l0_Ty : Type 1 := {R : Type} → ((TLE) → TLI → Int → Int → Int → TLI → Option R) → Nat → Int → Int → (TLE) → TLI → Int → Int → Int → TLI → TLI → Option R
abbrev k_Caps_66e6_Ty : Type 1 := {R : Type} → Int → Int → Int → (TLE) → TLI → ((TLE) → TLI → TLI → Option R) → Option R
noncomputable def k_Caps_66e6_l0_T0 (N : Nat) (c0 : k_Files_66e6_Ty) (c1 : k_Files_Ty) {R : Type} (nx : Int → Int → (TLE) → TLI → Int → Int → Int → TLI → TLI → Option R) (k0 : (TLE) → TLI → Int → Int → Int → TLI → Option R) (x0 : Int) (x1 : Int) (x2 : TLE) (x3 : List (Int)) (x4 : Int) (x5 : Int) (x6 : Int) (x7 : List (Int)) (x8 : List (Int)) : Option R :=
  br (decide (x1 < x0))
  (br (inB x1 (List.length x8))
   (br (decide ((Int.toNat x1) < (List.length x8)))
    (br (inB (List.getD x8 (Int.toNat x1) (0 : Int)) (List.length x2))
     (br (decide ((Int.toNat (List.getD x8 (Int.toNat x1) (0 : Int))) < (List.length x2)))
      (br (((fits (0 : Nat) (List.length x7) x7) && (decide ((((List.length x7) + (1 : Nat)) * (8 : Nat)) ≤ (70368744177664 : Nat)))) && true)
       (nx x0 (IntKind.wrap .i64 (x1 + (1 : Int))) x2 x3 x4 x5 x6 ((sub x7 (0 : Nat) (List.length x7)) ++ ((List.getD x2 (Int.toNat (List.getD x8 (Int.toNat x1) (0 : Int))) ((bs []) , (false , (0 : Int)))).2.2 :: ([] : List ((Sh.int IntKind.i64).T)))) x8)
       (none))
      (none))
     (none))
    (none))
   (none))
  (k0 x2 x3 x4 x5 x6 x7)
noncomputable def k_Caps_66e6_l0 (N : Nat) {R : Type} (k0 : (TLE) → TLI → Int → Int → Int → TLI → Option R) : Nat → Int → Int → (TLE) → TLI → Int → Int → Int → TLI → TLI → Option R
  | 0, _, _, _, _, _, _, _, _, _ => none
  | n + 1, x0, x1, x2, x3, x4, x5, x6, x7, x8 => k_Caps_66e6_l0_T0 N (@k_Files_66e6 N) (@k_Files N) (fun x0 x1 x2 x3 x4 x5 x6 x7 x8 => k_Caps_66e6_l0 N k0 n x0 x1 x2 x3 x4 x5 x6 x7 x8) k0 x0 x1 x2 x3 x4 x5 x6 x7 x8
noncomputable def k_Caps_66e6_T (N : Nat) (c0 : k_Files_66e6_Ty) (c1 : k_Files_Ty) (w0 : k_Caps_66e6_l0_Ty) {R : Type} (x0 : Int) (x1 : Int) (x2 : Int) (x3 : TLE) (x4 : List (Int)) (k0 : (TLE) → TLI → TLI → Option R) : Option R :=
  c0 x0 x1 x2 x3 x4
  (fun l123 l124 l125 => w0
   (fun l126 l127 i128 i129 i130 l131 => br (fits (0 : Nat) (List.length l127) l127)
    (br (((fits (0 : Nat) (List.length l131) l131) && (decide ((((List.length l131) + (List.length (sub l127 (0 : Nat) (List.length l127)))) * (8 : Nat)) ≤ (70368744177664 : Nat)))) && true)
     (k0 l126 l127 ((sub l131 (0 : Nat) (List.length l131)) ++ (sub l127 (0 : Nat) (List.length l127))))
     (none))
    (none))
   N (Nat.cast (List.length l125) : Int) (0 : Int) l123 l124 x0 x1 x2 ([] : List ((Sh.int IntKind.i64).T)) l125)
noncomputable def k_Caps_66e6 (N : Nat) {R : Type} (x0 : Int) (x1 : Int) (x2 : Int) (x3 : TLE) (x4 : List (Int)) (k0 : (TLE) → TLI → TLI → Option R) : Option R := k_Caps_66e6_T N (@k_Files_66e6 N) (@k_Files N) (@k_Caps_66e6_l0 N) x0 x1 x2 x3 x4 k0
abbrev k_Caps_l0_Ty : Type 1 := {R : Type} → ((TLE) → TLI → Int → Int → Int → TLI → Option R) → Nat → Int → Int → (TLE) → TLI → Int → Int → Int → TLI → TLI → Option R
abbrev k_Caps_Ty : Type 1 := {R : Type} → (TLE) → TLI → Int → Int → Int → (TLI → Option R) → Option R
noncomputable def k_Caps_l0_T0 (N : Nat) (c0 : k_Files_66e6_Ty) (c1 : k_Files_Ty) {R : Type} (nx : Int → Int → (TLE) → TLI → Int → Int → Int → TLI → TLI → Option R) (k0 : (TLE) → TLI → Int → Int → Int → TLI → Option R) (x0 : Int) (x1 : Int) (x2 : TLE) (x3 : List (Int)) (x4 : Int) (x5 : Int) (x6 : Int) (x7 : List (Int)) (x8 : List (Int)) : Option R :=
  br (decide (x1 < x0))
  (br (inB x1 (List.length x8))
   (br (decide ((Int.toNat x1) < (List.length x8)))
    (br (inB (List.getD x8 (Int.toNat x1) (0 : Int)) (List.length x2))
     (br (((fits (0 : Nat) (List.length x7) x7) && (decide ((((List.length x7) + (1 : Nat)) * (8 : Nat)) ≤ (70368744177664 : Nat)))) && true)
      (nx x0 (IntKind.wrap .i64 (x1 + (1 : Int))) x2 x3 x4 x5 x6 ((sub x7 (0 : Nat) (List.length x7)) ++ ((List.getD x2 (Int.toNat (List.getD x8 (Int.toNat x1) (0 : Int))) ((bs []) , (false , (0 : Int)))).2.2 :: ([] : List ((Sh.int IntKind.i64).T)))) x8)
      (none))
     (none))
    (none))
   (none))
  (k0 x2 x3 x4 x5 x6 x7)
noncomputable def k_Caps_l0 (N : Nat) {R : Type} (k0 : (TLE) → TLI → Int → Int → Int → TLI → Option R) : Nat → Int → Int → (TLE) → TLI → Int → Int → Int → TLI → TLI → Option R
  | 0, _, _, _, _, _, _, _, _, _ => none
  | n + 1, x0, x1, x2, x3, x4, x5, x6, x7, x8 => k_Caps_l0_T0 N (@k_Files_66e6 N) (@k_Files N) (fun x0 x1 x2 x3 x4 x5 x6 x7 x8 => k_Caps_l0 N k0 n x0 x1 x2 x3 x4 x5 x6 x7 x8) k0 x0 x1 x2 x3 x4 x5 x6 x7 x8
noncomputable def k_Caps_T (N : Nat) (c0 : k_Files_66e6_Ty) (c1 : k_Files_Ty) (w0 : k_Caps_l0_Ty) {R : Type} (x0 : TLE) (x1 : List (Int)) (x2 : Int) (x3 : Int) (x4 : Int) (k0 : TLI → Option R) : Option R :=
  c1 x0 x1 x2 x3 x4
  (fun l415 => w0
   (fun l416 l417 i418 i419 i420 l421 => br (((fits (0 : Nat) (List.length l421) l421) && (decide ((((List.length l421) + (List.length l417)) * (8 : Nat)) ≤ (70368744177664 : Nat)))) && true)
    (k0 ((sub l421 (0 : Nat) (List.length l421)) ++ l417))
    (none))
   N (Nat.cast (List.length l415) : Int) (0 : Int) x0 x1 x2 x3 x4 ([] : List ((Sh.int IntKind.i64).T)) l415)
noncomputable def k_Caps (N : Nat) {R : Type} (x0 : TLE) (x1 : List (Int)) (x2 : Int) (x3 : Int) (x4 : Int) (k0 : TLI → Option R) : Option R := k_Caps_T N (@k_Files_66e6 N) (@k_Files N) (@k_Caps_l0 N) x0 x1 x2 x3 x4 k0
abbrev k_Has_1e53_l0_Ty : Type 1 := {R : Type} → ((Bool) → (TLE) → TLI → TLL → TLL → TLB → Option R) → ((TLE) → TLI → TLL → TLL → TLB → Option R) → Nat → Int → Int → Int → (TLE) → TLI → TLL → TLL → TLB → TLI → Option R
abbrev k_Has_1e53_Ty : Type 1 := {R : Type} → Int → Int → Int → (TLE) → TLI → TLL → TLL → TLB → ((Bool) → (TLE) → TLI → TLL → TLL → TLB → Option R) → Option R
noncomputable def k_Has_1e53_l0_T0 (N : Nat) (c0 : k_Caps_66e6_Ty) (c1 : k_Caps_Ty) (c2 : fails_May_e7e3_Ty) (c3 : fails_May_Ty) (c4 : k_May_66e6_Ty) (c5 : k_May_Ty) (c6 : k_Files_66e6_Ty) (c7 : k_Files_Ty) {R : Type} (nx : Int → Int → Int → (TLE) → TLI → TLL → TLL → TLB → TLI → Option R) (k0 : (Bool) → (TLE) → TLI → TLL → TLL → TLB → Option R) (k1 : (TLE) → TLI → TLL → TLL → TLB → Option R) (x0 : Int) (x1 : Int) (x2 : Int) (x3 : TLE) (x4 : List (Int)) (x5 : List TLI) (x6 : List TLI) (x7 : List (Bool)) (x8 : List (Int)) : Option R :=
  br (decide (x2 < x1))
  (br (inB x2 (List.length x8))
   (br (decide ((Int.toNat x2) < (List.length x8)))
    (br (decide (x2 < x0))
     (br (inB x2 (List.length x5))
      (br (decide ((Int.toNat x2) < (List.length x5)))
       (br (!(decide ((List.getD x8 (Int.toNat x2) (0 : Int)) < (Nat.cast (List.length (List.getD x5 (Int.toNat x2) (Sh.zero (.isl (.int .u8))))) : Int))))
        (br (decide (x0 ≤ x2))
         (br (inB (IntKind.wrap .i64 (x2 - x0)) (List.length x6))
          (br (decide ((Int.toNat (IntKind.wrap .i64 (x2 - x0))) < (List.length x6)))
           (br (decide ((List.getD x8 (Int.toNat x2) (0 : Int)) < (Nat.cast (List.length (List.getD x6 (Int.toNat (IntKind.wrap .i64 (x2 - x0))) (Sh.zero (.isl (.int .u8))))) : Int)))
            (k0 false x3 x4 x5 x6 x7)
            (nx x0 x1 (IntKind.wrap .i64 (x2 + (1 : Int))) x3 x4 x5 x6 x7 x8))
           (none))
          (none))
         (nx x0 x1 (IntKind.wrap .i64 (x2 + (1 : Int))) x3 x4 x5 x6 x7 x8))
        (k0 false x3 x4 x5 x6 x7))
       (none))
      (none))
     (br (decide (x0 ≤ x2))
      (br (inB (IntKind.wrap .i64 (x2 - x0)) (List.length x6))
       (br (decide ((Int.toNat (IntKind.wrap .i64 (x2 - x0))) < (List.length x6)))
        (br (decide ((List.getD x8 (Int.toNat x2) (0 : Int)) < (Nat.cast (List.length (List.getD x6 (Int.toNat (IntKind.wrap .i64 (x2 - x0))) (Sh.zero (.isl (.int .u8))))) : Int)))
         (k0 false x3 x4 x5 x6 x7)
         (nx x0 x1 (IntKind.wrap .i64 (x2 + (1 : Int))) x3 x4 x5 x6 x7 x8))
        (none))
       (none))
      (nx x0 x1 (IntKind.wrap .i64 (x2 + (1 : Int))) x3 x4 x5 x6 x7 x8)))
    (none))
   (none))
  (k1 x3 x4 x5 x6 x7)
noncomputable def k_Has_1e53_l0 (N : Nat) {R : Type} (k0 : (Bool) → (TLE) → TLI → TLL → TLL → TLB → Option R) (k1 : (TLE) → TLI → TLL → TLL → TLB → Option R) : Nat → Int → Int → Int → (TLE) → TLI → TLL → TLL → TLB → TLI → Option R
  | 0, _, _, _, _, _, _, _, _, _ => none
  | n + 1, x0, x1, x2, x3, x4, x5, x6, x7, x8 => k_Has_1e53_l0_T0 N (@k_Caps_66e6 N) (@k_Caps N) (@fails_May_e7e3 N) (@fails_May N) (@k_May_66e6 N) (@k_May N) (@k_Files_66e6 N) (@k_Files N) (fun x0 x1 x2 x3 x4 x5 x6 x7 x8 => k_Has_1e53_l0 N k0 k1 n x0 x1 x2 x3 x4 x5 x6 x7 x8) k0 k1 x0 x1 x2 x3 x4 x5 x6 x7 x8
noncomputable def k_Has_1e53_T (N : Nat) (c0 : k_Caps_66e6_Ty) (c1 : k_Caps_Ty) (c2 : fails_May_e7e3_Ty) (c3 : fails_May_Ty) (c4 : k_May_66e6_Ty) (c5 : k_May_Ty) (c6 : k_Files_66e6_Ty) (c7 : k_Files_Ty) (w0 : k_Has_1e53_l0_Ty) {R : Type} (x0 : Int) (x1 : Int) (x2 : Int) (x3 : TLE) (x4 : List (Int)) (x5 : List TLI) (x6 : List TLI) (x7 : List (Bool)) (k0 : (Bool) → (TLE) → TLI → TLL → TLL → TLB → Option R) : Option R :=
  c6 x0 x1 x2 x3 x4
  (fun l108 l109 l110 => c4 x0 x1 x2 l108 l109
   (fun b111 l112 l113 => br (!(!b111))
    (br (!(!(decide ((Nat.cast (List.length x5) : Int) = (Nat.cast (List.length l110) : Int)))))
     (br (!(!(decide ((Nat.cast (List.length x6) : Int) = (Nat.cast (List.length l113) : Int)))))
      (c2 x0 x1 x7
       (fun b118 l119 => br (!b118)
        (k0 false l112 l113 x5 x6 l119)
        (c0 x0 x1 x2 l112 l113
         (fun l132 l133 l134 => w0
          (fun b135 l136 l137 l138 l139 l140 => k0 b135 l136 l137 l138 l139 l140)
          (fun l141 l142 l143 l144 l145 => k0 true l141 l142 l143 l144 l145)
          N (Nat.cast (List.length l110) : Int) (Nat.cast (List.length l134) : Int) (0 : Int) l132 l133 x5 x6 l119 l134))))
      (k0 false l112 l113 x5 x6 x7))
     (k0 false l112 l113 x5 x6 x7))
    (k0 false l112 l113 x5 x6 x7)))
noncomputable def k_Has_1e53 (N : Nat) {R : Type} (x0 : Int) (x1 : Int) (x2 : Int) (x3 : TLE) (x4 : List (Int)) (x5 : List TLI) (x6 : List TLI) (x7 : List (Bool)) (k0 : (Bool) → (TLE) → TLI → TLL → TLL → TLB → Option R) : Option R := k_Has_1e53_T N (@k_Caps_66e6 N) (@k_Caps N) (@fails_May_e7e3 N) (@fails_May N) (@k_May_66e6 N) (@k_May N) (@k_Files_66e6 N) (@k_Files N) (@k_Has_1e53_l0 N) x0 x1 x2 x3 x4 x5 x6 x7 k0
abbrev k_Has_l0_Ty : Type 1 := {R : Type} → ((Bool) → Option R) → (Option R) → Nat → Int → Int → Int → TLL → TLL → TLB → TLI → Option R
abbrev k_Has_Ty : Type 1 := {R : Type} → (TLE) → TLI → Int → Int → Int → TLL → TLL → TLB → ((Bool) → Option R) → Option R
noncomputable def k_Has_l0_T0 (N : Nat) (c0 : k_Caps_66e6_Ty) (c1 : k_Caps_Ty) (c2 : fails_May_e7e3_Ty) (c3 : fails_May_Ty) (c4 : k_May_66e6_Ty) (c5 : k_May_Ty) (c6 : k_Files_66e6_Ty) (c7 : k_Files_Ty) {R : Type} (nx : Int → Int → Int → TLL → TLL → TLB → TLI → Option R) (k0 : (Bool) → Option R) (k1 : Option R) (x0 : Int) (x1 : Int) (x2 : Int) (x3 : List TLI) (x4 : List TLI) (x5 : List (Bool)) (x6 : List (Int)) : Option R :=
  br (decide (x2 < x1))
  (br (inB x2 (List.length x6))
   (br (decide ((Int.toNat x2) < (List.length x6)))
    (br (decide (x2 < x0))
     (br (inB x2 (List.length x3))
      (br (!(decide ((List.getD x6 (Int.toNat x2) (0 : Int)) < (Nat.cast (List.length (List.getD x3 (Int.toNat x2) (Sh.zero (.isl (.int .u8))))) : Int))))
       (br (decide (x0 ≤ x2))
        (br (inB (IntKind.wrap .i64 (x2 - x0)) (List.length x4))
         (br (decide ((List.getD x6 (Int.toNat x2) (0 : Int)) < (Nat.cast (List.length (List.getD x4 (Int.toNat (IntKind.wrap .i64 (x2 - x0))) (Sh.zero (.isl (.int .u8))))) : Int)))
          (k0 false)
          (nx x0 x1 (IntKind.wrap .i64 (x2 + (1 : Int))) x3 x4 x5 x6))
         (none))
        (nx x0 x1 (IntKind.wrap .i64 (x2 + (1 : Int))) x3 x4 x5 x6))
       (k0 false))
      (none))
     (br (decide (x0 ≤ x2))
      (br (inB (IntKind.wrap .i64 (x2 - x0)) (List.length x4))
       (br (decide ((List.getD x6 (Int.toNat x2) (0 : Int)) < (Nat.cast (List.length (List.getD x4 (Int.toNat (IntKind.wrap .i64 (x2 - x0))) (Sh.zero (.isl (.int .u8))))) : Int)))
        (k0 false)
        (nx x0 x1 (IntKind.wrap .i64 (x2 + (1 : Int))) x3 x4 x5 x6))
       (none))
      (nx x0 x1 (IntKind.wrap .i64 (x2 + (1 : Int))) x3 x4 x5 x6)))
    (none))
   (none))
  (k1)
noncomputable def k_Has_l0 (N : Nat) {R : Type} (k0 : (Bool) → Option R) (k1 : Option R) : Nat → Int → Int → Int → TLL → TLL → TLB → TLI → Option R
  | 0, _, _, _, _, _, _, _ => none
  | n + 1, x0, x1, x2, x3, x4, x5, x6 => k_Has_l0_T0 N (@k_Caps_66e6 N) (@k_Caps N) (@fails_May_e7e3 N) (@fails_May N) (@k_May_66e6 N) (@k_May N) (@k_Files_66e6 N) (@k_Files N) (fun x0 x1 x2 x3 x4 x5 x6 => k_Has_l0 N k0 k1 n x0 x1 x2 x3 x4 x5 x6) k0 k1 x0 x1 x2 x3 x4 x5 x6
noncomputable def k_Has_T (N : Nat) (c0 : k_Caps_66e6_Ty) (c1 : k_Caps_Ty) (c2 : fails_May_e7e3_Ty) (c3 : fails_May_Ty) (c4 : k_May_66e6_Ty) (c5 : k_May_Ty) (c6 : k_Files_66e6_Ty) (c7 : k_Files_Ty) (w0 : k_Has_l0_Ty) {R : Type} (x0 : TLE) (x1 : List (Int)) (x2 : Int) (x3 : Int) (x4 : Int) (x5 : List TLI) (x6 : List TLI) (x7 : List (Bool)) (k0 : (Bool) → Option R) : Option R :=
  c7 x0 x1 x2 x3 x4
  (fun l407 => c5 x0 x1 x2 x3 x4
   (fun b408 => br (!(!b408))
    (br (!(!(decide ((Nat.cast (List.length x5) : Int) = (Nat.cast (List.length l407) : Int)))))
     (br (!(!(decide ((Nat.cast (List.length x6) : Int) = (Nat.cast (List.length x1) : Int)))))
      (c3 x7 x2 x3
       (fun b413 => br (!b413)
        (k0 false)
        (c1 x0 x1 x2 x3 x4
         (fun l422 => w0
          (fun b423 => k0 b423)
          (k0 true)
          N (Nat.cast (List.length l407) : Int) (Nat.cast (List.length l422) : Int) (0 : Int) x5 x6 x7 l422))))
      (k0 false))
     (k0 false))
    (k0 false)))
noncomputable def k_Has (N : Nat) {R : Type} (x0 : TLE) (x1 : List (Int)) (x2 : Int) (x3 : Int) (x4 : Int) (x5 : List TLI) (x6 : List TLI) (x7 : List (Bool)) (k0 : (Bool) → Option R) : Option R := k_Has_T N (@k_Caps_66e6 N) (@k_Caps N) (@fails_May_e7e3 N) (@fails_May N) (@k_May_66e6 N) (@k_May N) (@k_Files_66e6 N) (@k_Files N) (@k_Has_l0 N) x0 x1 x2 x3 x4 x5 x6 x7 k0
abbrev k_Has_5fa2_l0_Ty : Type 1 := {R : Type} → ((Bool) → Nat → TLL → TLB → Option R) → (Nat → TLL → TLB → Option R) → Nat → Int → Int → Int → Nat → TLL → TLB → Nat → Nat → Nat → Nat → TLI → Option R
abbrev k_Has_5fa2_Ty : Type 1 := {R : Type} → (TLE) → TLI → Int → Int → Int → Nat → Nat → Nat → Nat → Nat → TLL → TLB → ((Bool) → Nat → TLL → TLB → Option R) → Option R
noncomputable def k_Has_5fa2_l0_T0 (N : Nat) (c0 : k_Caps_66e6_Ty) (c1 : k_Caps_Ty) (c2 : fails_May_e7e3_Ty) (c3 : fails_May_Ty) (c4 : k_May_66e6_Ty) (c5 : k_May_Ty) (c6 : k_Files_66e6_Ty) (c7 : k_Files_Ty) {R : Type} (nx : Int → Int → Int → Nat → TLL → TLB → Nat → Nat → Nat → Nat → TLI → Option R) (k0 : (Bool) → Nat → TLL → TLB → Option R) (k1 : Nat → TLL → TLB → Option R) (x0 : Int) (x1 : Int) (x2 : Int) (x3 : Nat) (x4 : List TLI) (x5 : List (Bool)) (x6 : Nat) (x7 : Nat) (x8 : Nat) (x9 : Nat) (x10 : List (Int)) : Option R :=
  br (decide (x2 < x1))
  (br (inB x2 (List.length x10))
   (br (decide ((Int.toNat x2) < (List.length x10)))
    (br (decide (x2 < x0))
     (br (inB x2 x6)
      (br (decide ((Int.toNat x2) < x3))
       (br (!(decide ((List.getD x10 (Int.toNat x2) (0 : Int)) < (Nat.cast (List.length (List.getD x4 (Int.toNat x2) (Sh.zero (.isl (.int .u8))))) : Int))))
        (br (decide (x0 ≤ x2))
         (br (inB (IntKind.wrap .i64 (x2 - x0)) x9)
          (br (decide ((Int.toNat (addLo x8 (IntKind.wrap .i64 (x2 - x0)))) < x3))
           (br (decide ((List.getD x10 (Int.toNat x2) (0 : Int)) < (Nat.cast (List.length (List.getD x4 (Int.toNat (addLo x8 (IntKind.wrap .i64 (x2 - x0)))) (Sh.zero (.isl (.int .u8))))) : Int)))
            (k0 false x3 x4 x5)
            (nx x0 x1 (IntKind.wrap .i64 (x2 + (1 : Int))) x3 x4 x5 x6 x7 x8 x9 x10))
           (none))
          (none))
         (nx x0 x1 (IntKind.wrap .i64 (x2 + (1 : Int))) x3 x4 x5 x6 x7 x8 x9 x10))
        (k0 false x3 x4 x5))
       (none))
      (none))
     (br (decide (x0 ≤ x2))
      (br (inB (IntKind.wrap .i64 (x2 - x0)) x9)
       (br (decide ((Int.toNat (addLo x8 (IntKind.wrap .i64 (x2 - x0)))) < x3))
        (br (decide ((List.getD x10 (Int.toNat x2) (0 : Int)) < (Nat.cast (List.length (List.getD x4 (Int.toNat (addLo x8 (IntKind.wrap .i64 (x2 - x0)))) (Sh.zero (.isl (.int .u8))))) : Int)))
         (k0 false x3 x4 x5)
         (nx x0 x1 (IntKind.wrap .i64 (x2 + (1 : Int))) x3 x4 x5 x6 x7 x8 x9 x10))
        (none))
       (none))
      (nx x0 x1 (IntKind.wrap .i64 (x2 + (1 : Int))) x3 x4 x5 x6 x7 x8 x9 x10)))
    (none))
   (none))
  (k1 x3 x4 x5)
noncomputable def k_Has_5fa2_l0 (N : Nat) {R : Type} (k0 : (Bool) → Nat → TLL → TLB → Option R) (k1 : Nat → TLL → TLB → Option R) : Nat → Int → Int → Int → Nat → TLL → TLB → Nat → Nat → Nat → Nat → TLI → Option R
  | 0, _, _, _, _, _, _, _, _, _, _, _ => none
  | n + 1, x0, x1, x2, x3, x4, x5, x6, x7, x8, x9, x10 => k_Has_5fa2_l0_T0 N (@k_Caps_66e6 N) (@k_Caps N) (@fails_May_e7e3 N) (@fails_May N) (@k_May_66e6 N) (@k_May N) (@k_Files_66e6 N) (@k_Files N) (fun x0 x1 x2 x3 x4 x5 x6 x7 x8 x9 x10 => k_Has_5fa2_l0 N k0 k1 n x0 x1 x2 x3 x4 x5 x6 x7 x8 x9 x10) k0 k1 x0 x1 x2 x3 x4 x5 x6 x7 x8 x9 x10
noncomputable def k_Has_5fa2_T (N : Nat) (c0 : k_Caps_66e6_Ty) (c1 : k_Caps_Ty) (c2 : fails_May_e7e3_Ty) (c3 : fails_May_Ty) (c4 : k_May_66e6_Ty) (c5 : k_May_Ty) (c6 : k_Files_66e6_Ty) (c7 : k_Files_Ty) (w0 : k_Has_5fa2_l0_Ty) {R : Type} (x0 : TLE) (x1 : List (Int)) (x2 : Int) (x3 : Int) (x4 : Int) (x5 : Nat) (x6 : Nat) (x7 : Nat) (x8 : Nat) (x9 : Nat) (x10 : List TLI) (x11 : List (Bool)) (k0 : (Bool) → Nat → TLL → TLB → Option R) : Option R :=
  c7 x0 x1 x2 x3 x4
  (fun l643 => c5 x0 x1 x2 x3 x4
   (fun b644 => br (!(!b644))
    (br (!(!(decide ((Nat.cast x5 : Int) = (Nat.cast (List.length l643) : Int)))))
     (br (!(!(decide ((Nat.cast x8 : Int) = (Nat.cast (List.length x1) : Int)))))
      (c2 x2 x3 x11
       (fun b645 l646 => br (!b645)
        (k0 false x9 x10 l646)
        (c1 x0 x1 x2 x3 x4
         (fun l647 => w0
          (fun b648 n649 l650 l651 => k0 b648 n649 l650 l651)
          (fun n652 l653 l654 => k0 true n652 l653 l654)
          N (Nat.cast (List.length l643) : Int) (Nat.cast (List.length l647) : Int) (0 : Int) x9 x10 l646 x5 x6 x7 x8 l647))))
      (k0 false x9 x10 x11))
     (k0 false x9 x10 x11))
    (k0 false x9 x10 x11)))
noncomputable def k_Has_5fa2 (N : Nat) {R : Type} (x0 : TLE) (x1 : List (Int)) (x2 : Int) (x3 : Int) (x4 : Int) (x5 : Nat) (x6 : Nat) (x7 : Nat) (x8 : Nat) (x9 : Nat) (x10 : List TLI) (x11 : List (Bool)) (k0 : (Bool) → Nat → TLL → TLB → Option R) : Option R := k_Has_5fa2_T N (@k_Caps_66e6 N) (@k_Caps N) (@fails_May_e7e3 N) (@fails_May N) (@k_May_66e6 N) (@k_May N) (@k_Files_66e6 N) (@k_Files N) (@k_Has_5fa2_l0 N) x0 x1 x2 x3 x4 x5 x6 x7 x8 x9 x10 x11 k0
abbrev sGw_06c2_Ty : Type 1 := {R : Type} → Int → (TLL → Option R) → Option R
noncomputable def sGw_06c2_T (N : Nat) {R : Type} (x0 : Int) (k0 : TLL → Option R) : Option R :=
  br (decide (x0 < (0 : Int)))
  (none)
  (br (decide ((0 : Int) < (IntKind.wrap .i64 (x0 - (IntKind.wrap .i64 ((0 : Int) - (0 : Int)))))))
   (br (((decide ((0 : Int) ≤ (IntKind.wrap .i64 (x0 - (IntKind.wrap .i64 ((0 : Int) - (0 : Int))))))) && (decide (((Int.toNat (IntKind.wrap .i64 (x0 - (IntKind.wrap .i64 ((0 : Int) - (0 : Int)))))) * (24 : Nat)) ≤ (70368744177664 : Nat)))) && true)
    (br (leB (0 : Int) (Int.toNat (IntKind.wrap .i64 (x0 - (IntKind.wrap .i64 ((0 : Int) - (0 : Int)))))))
     (br (fits (0 : Nat) (0 : Nat) (List.replicate (Int.toNat (IntKind.wrap .i64 (x0 - (IntKind.wrap .i64 ((0 : Int) - (0 : Int)))))) (Sh.zero (.isl (.int .u8)))))
      (k0 (sub (List.replicate (Int.toNat (IntKind.wrap .i64 (x0 - (IntKind.wrap .i64 ((0 : Int) - (0 : Int)))))) (Sh.zero (.isl (.int .u8)))) (0 : Nat) (0 : Nat)))
      (none))
     (none))
    (none))
   (k0 ([] : List ((Sh.int IntKind.u8).isl.T))))
noncomputable def sGw_06c2 (N : Nat) {R : Type} (x0 : Int) (k0 : TLL → Option R) : Option R := sGw_06c2_T N x0 k0
abbrev sCt_1789_l0_Ty : Type 1 := {R : Type} → (Int → (List TLL) → Option R) → Nat → Int → Int → Int → (List TLL) → Option R
abbrev sCt_1789_l1_Ty : Type 1 := {R : Type} → ((List TLL) → TLL → Option R) → Nat → Int → Int → (List TLL) → TLL → Option R
abbrev sCt_1789_Ty : Type 1 := {R : Type} → (List TLL) → ((List TLL) → TLL → Option R) → Option R
noncomputable def sCt_1789_l0_T0 (N : Nat) (c0 : sGw_06c2_Ty) (w1 : sCt_1789_l1_Ty) {R : Type} (nx : Int → Int → Int → (List TLL) → Option R) (k0 : Int → (List TLL) → Option R) (x0 : Int) (x1 : Int) (x2 : Int) (x3 : List TLL) : Option R :=
  br (decide (x2 < x1))
  (br (inB x2 (List.length x3))
   (br (decide ((Int.toNat x2) < (List.length x3)))
    (br (decide ((IntKind.wrap .i64 (x0 + (Nat.cast (List.length (List.getD x3 (Int.toNat x2) (Sh.zero (.isl (.isl (.int .u8)))))) : Int))) < (0 : Int)))
     (none)
     (nx (IntKind.wrap .i64 (x0 + (Nat.cast (List.length (List.getD x3 (Int.toNat x2) (Sh.zero (.isl (.isl (.int .u8)))))) : Int))) x1 (IntKind.wrap .i64 (x2 + (1 : Int))) x3))
    (none))
   (none))
  (k0 x0 x3)
noncomputable def sCt_1789_l1_T0 (N : Nat) (c0 : sGw_06c2_Ty) {R : Type} (nx : Int → Int → (List TLL) → TLL → Option R) (k0 : (List TLL) → TLL → Option R) (x0 : Int) (x1 : Int) (x2 : List TLL) (x3 : List TLI) : Option R :=
  br (decide (x1 < x0))
  (br (inB x1 (List.length x2))
   (br (decide ((Int.toNat x1) < (List.length x2)))
    (br (((fits (0 : Nat) (List.length x3) x3) && (decide ((((List.length x3) + (List.length (List.getD x2 (Int.toNat x1) (Sh.zero (.isl (.isl (.int .u8))))))) * (24 : Nat)) ≤ (70368744177664 : Nat)))) && true)
     (nx x0 (IntKind.wrap .i64 (x1 + (1 : Int))) x2 ((sub x3 (0 : Nat) (List.length x3)) ++ (List.getD x2 (Int.toNat x1) (Sh.zero (.isl (.isl (.int .u8)))))))
     (none))
    (none))
   (none))
  (k0 x2 x3)
noncomputable def sCt_1789_l1 (N : Nat) {R : Type} (k0 : (List TLL) → TLL → Option R) : Nat → Int → Int → (List TLL) → TLL → Option R
  | 0, _, _, _, _ => none
  | n + 1, x0, x1, x2, x3 => sCt_1789_l1_T0 N (@sGw_06c2 N) (fun x0 x1 x2 x3 => sCt_1789_l1 N k0 n x0 x1 x2 x3) k0 x0 x1 x2 x3
noncomputable def sCt_1789_l0 (N : Nat) {R : Type} (k0 : Int → (List TLL) → Option R) : Nat → Int → Int → Int → (List TLL) → Option R
  | 0, _, _, _, _ => none
  | n + 1, x0, x1, x2, x3 => sCt_1789_l0_T0 N (@sGw_06c2 N) (@sCt_1789_l1 N) (fun x0 x1 x2 x3 => sCt_1789_l0 N k0 n x0 x1 x2 x3) k0 x0 x1 x2 x3
noncomputable def sCt_1789_T (N : Nat) (c0 : sGw_06c2_Ty) (w0 : sCt_1789_l0_Ty) (w1 : sCt_1789_l1_Ty) {R : Type} (x0 : List TLL) (k0 : (List TLL) → TLL → Option R) : Option R :=
  w0
  (fun i152 l153 => c0 i152
   (fun l154 => w1
    (fun l155 l156 => k0 l155 l156)
    N (Nat.cast (List.length l153) : Int) (0 : Int) l153 l154))
  N (0 : Int) (Nat.cast (List.length x0) : Int) (0 : Int) x0
noncomputable def sCt_1789 (N : Nat) {R : Type} (x0 : List TLL) (k0 : (List TLL) → TLL → Option R) : Option R := sCt_1789_T N (@sGw_06c2 N) (@sCt_1789_l0 N) (@sCt_1789_l1 N) x0 k0
abbrev c_Env_727c_l0_Ty : Type 1 := {R : Type} → ((TLE) → TLI → TLL → TLB → TLL → TLI → Option R) → Nat → Int → Int → (TLE) → TLI → TLL → TLB → Int → Int → Int → TLL → TLI → TLL → Option R
abbrev c_Env_727c_l1_Ty : Type 1 := {R : Type} → (Int → Int → (TLE) → TLI → TLL → TLB → Int → Int → Int → TLL → TLI → TLL → Option R) → Nat → TLI → Int → Int → Int → Int → (TLE) → TLI → TLL → TLB → Int → Int → Int → TLL → TLI → TLL → Option R
abbrev c_Env_727c_l2_Ty : Type 1 := {R : Type} → ((TLE) → TLI → TLL → TLB → TLI → Option R) → Nat → Int → Int → (TLE) → TLI → TLL → TLB → TLI → Option R
abbrev c_Env_727c_Ty : Type 1 := {R : Type} → Int → Int → Int → (TLE) → TLI → TLL → TLB → (Int → (TLE) → TLI → TLL → TLB → TLI → Option R) → (Int → (TLE) → TLI → TLL → TLB → TLI → Option R) → Option R
noncomputable def c_Env_727c_l0_T0 (N : Nat) (c0 : k_Caps_66e6_Ty) (c1 : k_Caps_Ty) (c2 : sCt_1789_Ty) (c3 : k_Has_1e53_Ty) (c4 : k_Has_Ty) (c5 : k_Has_5fa2_Ty) (c6 : k_May_66e6_Ty) (c7 : k_May_Ty) (w1 : c_Env_727c_l1_Ty) (w2 : c_Env_727c_l2_Ty) {R : Type} (nx : Int → Int → (TLE) → TLI → TLL → TLB → Int → Int → Int → TLL → TLI → TLL → Option R) (k0 : (TLE) → TLI → TLL → TLB → TLL → TLI → Option R) (x0 : Int) (x1 : Int) (x2 : TLE) (x3 : List (Int)) (x4 : List TLI) (x5 : List (Bool)) (x6 : Int) (x7 : Int) (x8 : Int) (x9 : List TLI) (x10 : List (Int)) (x11 : List TLI) : Option R :=
  br (decide (x1 < x0))
  (br (inB x1 (List.length x11))
   (br (decide ((Int.toNat x1) < (List.length x11)))
    (br (((fits (0 : Nat) (List.length x10) x10) && (decide ((((List.length x10) + (1 : Nat)) * (2 : Nat)) ≤ (70368744177664 : Nat)))) && true)
     (c0 x6 x7 x8 x2 x3
      (fun l222 l223 l224 => br (inB x1 (List.length l224))
       (br (decide ((Int.toNat x1) < (List.length l224)))
        (w1
         (fun i225 i226 l227 l228 l229 l230 i231 i232 i233 l234 l235 l236 => nx i225 (IntKind.wrap .i64 (i226 + (1 : Int))) l227 l228 l229 l230 i231 i232 i233 l234 l235 l236)
         N (List.getD x11 (Int.toNat x1) (Sh.zero (.isl (.int .u8)))) x0 x1 (List.getD l224 (Int.toNat x1) (0 : Int)) (0 : Int) l222 l223 x4 x5 x6 x7 x8 x9 ((sub x10 (0 : Nat) (List.length x10)) ++ ((IntKind.wrap .u16 (Nat.cast (List.length (List.getD x11 (Int.toNat x1) (Sh.zero (.isl (.int .u8))))) : Int)) :: ([] : List ((Sh.int IntKind.u16).T)))) x11)
        (none))
       (none)))
     (none))
    (none))
   (none))
  (k0 x2 x3 x4 x5 x9 x10)
noncomputable def c_Env_727c_l1_T0 (N : Nat) (c0 : k_Caps_66e6_Ty) (c1 : k_Caps_Ty) (c2 : sCt_1789_Ty) (c3 : k_Has_1e53_Ty) (c4 : k_Has_Ty) (c5 : k_Has_5fa2_Ty) (c6 : k_May_66e6_Ty) (c7 : k_May_Ty) (w2 : c_Env_727c_l2_Ty) {R : Type} (nx : TLI → Int → Int → Int → Int → (TLE) → TLI → TLL → TLB → Int → Int → Int → TLL → TLI → TLL → Option R) (k0 : Int → Int → (TLE) → TLI → TLL → TLB → Int → Int → Int → TLL → TLI → TLL → Option R) (x0 : List (Int)) (x1 : Int) (x2 : Int) (x3 : Int) (x4 : Int) (x5 : TLE) (x6 : List (Int)) (x7 : List TLI) (x8 : List (Bool)) (x9 : Int) (x10 : Int) (x11 : Int) (x12 : List TLI) (x13 : List (Int)) (x14 : List TLI) : Option R :=
  br (decide (x4 < x3))
  (br (decide (x4 < (Nat.cast (List.length x0) : Int)))
   (br (inB x4 (List.length x0))
    (br (((fits (0 : Nat) (List.length x13) x13) && (decide ((((List.length x13) + (1 : Nat)) * (2 : Nat)) ≤ (70368744177664 : Nat)))) && true)
     (nx x0 x1 x2 x3 (IntKind.wrap .i64 (x4 + (1 : Int))) x5 x6 x7 x8 x9 x10 x11 x12 ((sub x13 (0 : Nat) (List.length x13)) ++ ((IntKind.wrap .u16 (List.getD x0 (Int.toNat x4) (0 : Int))) :: ([] : List ((Sh.int IntKind.u16).T)))) x14)
     (none))
    (none))
   (br (((fits (0 : Nat) (List.length x13) x13) && (decide ((((List.length x13) + (1 : Nat)) * (2 : Nat)) ≤ (70368744177664 : Nat)))) && true)
    (nx x0 x1 x2 x3 (IntKind.wrap .i64 (x4 + (1 : Int))) x5 x6 x7 x8 x9 x10 x11 x12 ((sub x13 (0 : Nat) (List.length x13)) ++ ((IntKind.wrap .u16 (0 : Int)) :: ([] : List ((Sh.int IntKind.u16).T)))) x14)
    (none)))
  (k0 x1 x2 x5 x6 x7 x8 x9 x10 x11 x12 x13 x14)
noncomputable def c_Env_727c_l2_T0 (N : Nat) (c0 : k_Caps_66e6_Ty) (c1 : k_Caps_Ty) (c2 : sCt_1789_Ty) (c3 : k_Has_1e53_Ty) (c4 : k_Has_Ty) (c5 : k_Has_5fa2_Ty) (c6 : k_May_66e6_Ty) (c7 : k_May_Ty) {R : Type} (nx : Int → Int → (TLE) → TLI → TLL → TLB → TLI → Option R) (k0 : (TLE) → TLI → TLL → TLB → TLI → Option R) (x0 : Int) (x1 : Int) (x2 : TLE) (x3 : List (Int)) (x4 : List TLI) (x5 : List (Bool)) (x6 : List (Int)) : Option R :=
  br (decide (x1 < x0))
  (br (inB x1 (List.length x5))
   (br (decide ((Int.toNat x1) < (List.length x5)))
    (br (List.getD x5 (Int.toNat x1) false)
     (br (((fits (0 : Nat) (List.length x6) x6) && (decide ((((List.length x6) + (1 : Nat)) * (2 : Nat)) ≤ (70368744177664 : Nat)))) && true)
      (nx x0 (IntKind.wrap .i64 (x1 + (1 : Int))) x2 x3 x4 x5 ((sub x6 (0 : Nat) (List.length x6)) ++ ((1 : Int) :: ([] : List ((Sh.int IntKind.u16).T)))))
      (none))
     (br (((fits (0 : Nat) (List.length x6) x6) && (decide ((((List.length x6) + (1 : Nat)) * (2 : Nat)) ≤ (70368744177664 : Nat)))) && true)
      (nx x0 (IntKind.wrap .i64 (x1 + (1 : Int))) x2 x3 x4 x5 ((sub x6 (0 : Nat) (List.length x6)) ++ ((0 : Int) :: ([] : List ((Sh.int IntKind.u16).T)))))
      (none)))
    (none))
   (none))
  (k0 x2 x3 x4 x5 x6)
noncomputable def c_Env_727c_l2 (N : Nat) {R : Type} (k0 : (TLE) → TLI → TLL → TLB → TLI → Option R) : Nat → Int → Int → (TLE) → TLI → TLL → TLB → TLI → Option R
  | 0, _, _, _, _, _, _, _ => none
  | n + 1, x0, x1, x2, x3, x4, x5, x6 => c_Env_727c_l2_T0 N (@k_Caps_66e6 N) (@k_Caps N) (@sCt_1789 N) (@k_Has_1e53 N) (@k_Has N) (@k_Has_5fa2 N) (@k_May_66e6 N) (@k_May N) (fun x0 x1 x2 x3 x4 x5 x6 => c_Env_727c_l2 N k0 n x0 x1 x2 x3 x4 x5 x6) k0 x0 x1 x2 x3 x4 x5 x6
noncomputable def c_Env_727c_l1 (N : Nat) {R : Type} (k0 : Int → Int → (TLE) → TLI → TLL → TLB → Int → Int → Int → TLL → TLI → TLL → Option R) : Nat → TLI → Int → Int → Int → Int → (TLE) → TLI → TLL → TLB → Int → Int → Int → TLL → TLI → TLL → Option R
  | 0, _, _, _, _, _, _, _, _, _, _, _, _, _, _, _ => none
  | n + 1, x0, x1, x2, x3, x4, x5, x6, x7, x8, x9, x10, x11, x12, x13, x14 => c_Env_727c_l1_T0 N (@k_Caps_66e6 N) (@k_Caps N) (@sCt_1789 N) (@k_Has_1e53 N) (@k_Has N) (@k_Has_5fa2 N) (@k_May_66e6 N) (@k_May N) (@c_Env_727c_l2 N) (fun x0 x1 x2 x3 x4 x5 x6 x7 x8 x9 x10 x11 x12 x13 x14 => c_Env_727c_l1 N k0 n x0 x1 x2 x3 x4 x5 x6 x7 x8 x9 x10 x11 x12 x13 x14) k0 x0 x1 x2 x3 x4 x5 x6 x7 x8 x9 x10 x11 x12 x13 x14
noncomputable def c_Env_727c_l0 (N : Nat) {R : Type} (k0 : (TLE) → TLI → TLL → TLB → TLL → TLI → Option R) : Nat → Int → Int → (TLE) → TLI → TLL → TLB → Int → Int → Int → TLL → TLI → TLL → Option R
  | 0, _, _, _, _, _, _, _, _, _, _, _, _ => none
  | n + 1, x0, x1, x2, x3, x4, x5, x6, x7, x8, x9, x10, x11 => c_Env_727c_l0_T0 N (@k_Caps_66e6 N) (@k_Caps N) (@sCt_1789 N) (@k_Has_1e53 N) (@k_Has N) (@k_Has_5fa2 N) (@k_May_66e6 N) (@k_May N) (@c_Env_727c_l1 N) (@c_Env_727c_l2 N) (fun x0 x1 x2 x3 x4 x5 x6 x7 x8 x9 x10 x11 => c_Env_727c_l0 N k0 n x0 x1 x2 x3 x4 x5 x6 x7 x8 x9 x10 x11) k0 x0 x1 x2 x3 x4 x5 x6 x7 x8 x9 x10 x11
noncomputable def c_Env_727c_T (N : Nat) (c0 : k_Caps_66e6_Ty) (c1 : k_Caps_Ty) (c2 : sCt_1789_Ty) (c3 : k_Has_1e53_Ty) (c4 : k_Has_Ty) (c5 : k_Has_5fa2_Ty) (c6 : k_May_66e6_Ty) (c7 : k_May_Ty) (w0 : c_Env_727c_l0_Ty) (w1 : c_Env_727c_l1_Ty) (w2 : c_Env_727c_l2_Ty) {R : Type} (x0 : Int) (x1 : Int) (x2 : Int) (x3 : TLE) (x4 : List (Int)) (x5 : List TLI) (x6 : List (Bool)) (k0 : Int → (TLE) → TLI → TLL → TLB → TLI → Option R) (k1 : Int → (TLE) → TLI → TLL → TLB → TLI → Option R) : Option R :=
  c6 x0 x1 x2 x3 x4
  (fun b211 l212 l213 => br (!b211)
   (k0 (11 : Int) l212 l213 x5 x6 ([] : List ((Sh.int IntKind.u16).T)))
   (c3 x0 x1 x2 l212 l213 x5 ([] : List ((Sh.int IntKind.u8).isl.T)) x6
    (fun b214 l215 l216 l217 l218 l219 => br (!b214)
     (k0 (12 : Int) l215 l216 l217 l219 ([] : List ((Sh.int IntKind.u16).T)))
     (br (fits (0 : Nat) (List.length l217) l217)
      (br (fits (0 : Nat) (List.length l218) l218)
       (c2 ((sub l217 (0 : Nat) (List.length l217)) :: ((sub l218 (0 : Nat) (List.length l218)) :: ([] : List ((Sh.int IntKind.u8).isl.isl.T))))
        (fun l220 l221 => w0
         (fun l237 l238 l239 l240 l241 l242 => w2
          (fun l243 l244 l245 l246 l247 => k1 (0 : Int) l243 l244 l245 l246 l247)
          N (Nat.cast (List.length l240) : Int) (0 : Int) l237 l238 l239 l240 l242)
         N (Nat.cast (List.length l221) : Int) (0 : Int) l215 l216 l217 l219 x0 x1 x2 l218 ([] : List ((Sh.int IntKind.u16).T)) l221))
       (none))
      (none)))))
noncomputable def c_Env_727c (N : Nat) {R : Type} (x0 : Int) (x1 : Int) (x2 : Int) (x3 : TLE) (x4 : List (Int)) (x5 : List TLI) (x6 : List (Bool)) (k0 : Int → (TLE) → TLI → TLL → TLB → TLI → Option R) (k1 : Int → (TLE) → TLI → TLL → TLB → TLI → Option R) : Option R := c_Env_727c_T N (@k_Caps_66e6 N) (@k_Caps N) (@sCt_1789 N) (@k_Has_1e53 N) (@k_Has N) (@k_Has_5fa2 N) (@k_May_66e6 N) (@k_May N) (@c_Env_727c_l0 N) (@c_Env_727c_l1 N) (@c_Env_727c_l2 N) x0 x1 x2 x3 x4 x5 x6 k0 k1
abbrev c_Env_l0_Ty : Type 1 := {R : Type} → (TLL → TLL → TLB → TLI → Option R) → Nat → Int → Int → (TLE) → TLI → Int → Int → Int → TLL → TLL → TLB → TLI → TLL → Option R
abbrev c_Env_l1_Ty : Type 1 := {R : Type} → (Int → Int → (TLE) → TLI → Int → Int → Int → TLL → TLL → TLB → TLI → TLL → Option R) → Nat → TLI → Int → Int → Int → Int → (TLE) → TLI → Int → Int → Int → TLL → TLL → TLB → TLI → TLL → Option R
abbrev c_Env_l2_Ty : Type 1 := {R : Type} → (TLI → Option R) → Nat → TLB → Int → Int → TLI → Option R
abbrev c_Env_Ty : Type 1 := {R : Type} → (TLE) → TLI → Int → Int → Int → TLL → TLL → TLB → (Int → TLI → Option R) → Option R
noncomputable def c_Env_l0_T0 (N : Nat) (c0 : k_Caps_66e6_Ty) (c1 : k_Caps_Ty) (c2 : sCt_1789_Ty) (c3 : k_Has_1e53_Ty) (c4 : k_Has_Ty) (c5 : k_Has_5fa2_Ty) (c6 : k_May_66e6_Ty) (c7 : k_May_Ty) (w1 : c_Env_l1_Ty) (w2 : c_Env_l2_Ty) {R : Type} (nx : Int → Int → (TLE) → TLI → Int → Int → Int → TLL → TLL → TLB → TLI → TLL → Option R) (k0 : TLL → TLL → TLB → TLI → Option R) (x0 : Int) (x1 : Int) (x2 : TLE) (x3 : List (Int)) (x4 : Int) (x5 : Int) (x6 : Int) (x7 : List TLI) (x8 : List TLI) (x9 : List (Bool)) (x10 : List (Int)) (x11 : List TLI) : Option R :=
  br (decide (x1 < x0))
  (br (inB x1 (List.length x11))
   (br (decide ((Int.toNat x1) < (List.length x11)))
    (br (((fits (0 : Nat) (List.length x10) x10) && (decide ((((List.length x10) + (1 : Nat)) * (2 : Nat)) ≤ (70368744177664 : Nat)))) && true)
     (c1 x2 x3 x4 x5 x6
      (fun l466 => br (inB x1 (List.length l466))
       (br (decide ((Int.toNat x1) < (List.length l466)))
        (w1
         (fun i467 i468 l469 l470 i471 i472 i473 l474 l475 l476 l477 l478 => nx i467 (IntKind.wrap .i64 (i468 + (1 : Int))) l469 l470 i471 i472 i473 l474 l475 l476 l477 l478)
         N (List.getD x11 (Int.toNat x1) (Sh.zero (.isl (.int .u8)))) x0 x1 (List.getD l466 (Int.toNat x1) (0 : Int)) (0 : Int) x2 x3 x4 x5 x6 x7 x8 x9 ((sub x10 (0 : Nat) (List.length x10)) ++ ((IntKind.wrap .u16 (Nat.cast (List.length (List.getD x11 (Int.toNat x1) (Sh.zero (.isl (.int .u8))))) : Int)) :: ([] : List ((Sh.int IntKind.u16).T)))) x11)
        (none))
       (none)))
     (none))
    (none))
   (none))
  (k0 x7 x8 x9 x10)
noncomputable def c_Env_l1_T0 (N : Nat) (c0 : k_Caps_66e6_Ty) (c1 : k_Caps_Ty) (c2 : sCt_1789_Ty) (c3 : k_Has_1e53_Ty) (c4 : k_Has_Ty) (c5 : k_Has_5fa2_Ty) (c6 : k_May_66e6_Ty) (c7 : k_May_Ty) (w2 : c_Env_l2_Ty) {R : Type} (nx : TLI → Int → Int → Int → Int → (TLE) → TLI → Int → Int → Int → TLL → TLL → TLB → TLI → TLL → Option R) (k0 : Int → Int → (TLE) → TLI → Int → Int → Int → TLL → TLL → TLB → TLI → TLL → Option R) (x0 : List (Int)) (x1 : Int) (x2 : Int) (x3 : Int) (x4 : Int) (x5 : TLE) (x6 : List (Int)) (x7 : Int) (x8 : Int) (x9 : Int) (x10 : List TLI) (x11 : List TLI) (x12 : List (Bool)) (x13 : List (Int)) (x14 : List TLI) : Option R :=
  br (decide (x4 < x3))
  (br (decide (x4 < (Nat.cast (List.length x0) : Int)))
   (br (inB x4 (List.length x0))
    (br (((fits (0 : Nat) (List.length x13) x13) && (decide ((((List.length x13) + (1 : Nat)) * (2 : Nat)) ≤ (70368744177664 : Nat)))) && true)
     (nx x0 x1 x2 x3 (IntKind.wrap .i64 (x4 + (1 : Int))) x5 x6 x7 x8 x9 x10 x11 x12 ((sub x13 (0 : Nat) (List.length x13)) ++ ((IntKind.wrap .u16 (List.getD x0 (Int.toNat x4) (0 : Int))) :: ([] : List ((Sh.int IntKind.u16).T)))) x14)
     (none))
    (none))
   (br (((fits (0 : Nat) (List.length x13) x13) && (decide ((((List.length x13) + (1 : Nat)) * (2 : Nat)) ≤ (70368744177664 : Nat)))) && true)
    (nx x0 x1 x2 x3 (IntKind.wrap .i64 (x4 + (1 : Int))) x5 x6 x7 x8 x9 x10 x11 x12 ((sub x13 (0 : Nat) (List.length x13)) ++ ((IntKind.wrap .u16 (0 : Int)) :: ([] : List ((Sh.int IntKind.u16).T)))) x14)
    (none)))
  (k0 x1 x2 x5 x6 x7 x8 x9 x10 x11 x12 x13 x14)
noncomputable def c_Env_l2_T0 (N : Nat) (c0 : k_Caps_66e6_Ty) (c1 : k_Caps_Ty) (c2 : sCt_1789_Ty) (c3 : k_Has_1e53_Ty) (c4 : k_Has_Ty) (c5 : k_Has_5fa2_Ty) (c6 : k_May_66e6_Ty) (c7 : k_May_Ty) {R : Type} (nx : TLB → Int → Int → TLI → Option R) (k0 : TLI → Option R) (x0 : List (Bool)) (x1 : Int) (x2 : Int) (x3 : List (Int)) : Option R :=
  br (decide (x2 < x1))
  (br (inB x2 (List.length x0))
   (br (List.getD x0 (Int.toNat x2) false)
    (br (((fits (0 : Nat) (List.length x3) x3) && (decide ((((List.length x3) + (1 : Nat)) * (2 : Nat)) ≤ (70368744177664 : Nat)))) && true)
     (nx x0 x1 (IntKind.wrap .i64 (x2 + (1 : Int))) ((sub x3 (0 : Nat) (List.length x3)) ++ ((1 : Int) :: ([] : List ((Sh.int IntKind.u16).T)))))
     (none))
    (br (((fits (0 : Nat) (List.length x3) x3) && (decide ((((List.length x3) + (1 : Nat)) * (2 : Nat)) ≤ (70368744177664 : Nat)))) && true)
     (nx x0 x1 (IntKind.wrap .i64 (x2 + (1 : Int))) ((sub x3 (0 : Nat) (List.length x3)) ++ ((0 : Int) :: ([] : List ((Sh.int IntKind.u16).T)))))
     (none)))
   (none))
  (k0 x3)
noncomputable def c_Env_l2 (N : Nat) {R : Type} (k0 : TLI → Option R) : Nat → TLB → Int → Int → TLI → Option R
  | 0, _, _, _, _ => none
  | n + 1, x0, x1, x2, x3 => c_Env_l2_T0 N (@k_Caps_66e6 N) (@k_Caps N) (@sCt_1789 N) (@k_Has_1e53 N) (@k_Has N) (@k_Has_5fa2 N) (@k_May_66e6 N) (@k_May N) (fun x0 x1 x2 x3 => c_Env_l2 N k0 n x0 x1 x2 x3) k0 x0 x1 x2 x3
noncomputable def c_Env_l1 (N : Nat) {R : Type} (k0 : Int → Int → (TLE) → TLI → Int → Int → Int → TLL → TLL → TLB → TLI → TLL → Option R) : Nat → TLI → Int → Int → Int → Int → (TLE) → TLI → Int → Int → Int → TLL → TLL → TLB → TLI → TLL → Option R
  | 0, _, _, _, _, _, _, _, _, _, _, _, _, _, _, _ => none
  | n + 1, x0, x1, x2, x3, x4, x5, x6, x7, x8, x9, x10, x11, x12, x13, x14 => c_Env_l1_T0 N (@k_Caps_66e6 N) (@k_Caps N) (@sCt_1789 N) (@k_Has_1e53 N) (@k_Has N) (@k_Has_5fa2 N) (@k_May_66e6 N) (@k_May N) (@c_Env_l2 N) (fun x0 x1 x2 x3 x4 x5 x6 x7 x8 x9 x10 x11 x12 x13 x14 => c_Env_l1 N k0 n x0 x1 x2 x3 x4 x5 x6 x7 x8 x9 x10 x11 x12 x13 x14) k0 x0 x1 x2 x3 x4 x5 x6 x7 x8 x9 x10 x11 x12 x13 x14
noncomputable def c_Env_l0 (N : Nat) {R : Type} (k0 : TLL → TLL → TLB → TLI → Option R) : Nat → Int → Int → (TLE) → TLI → Int → Int → Int → TLL → TLL → TLB → TLI → TLL → Option R
  | 0, _, _, _, _, _, _, _, _, _, _, _, _ => none
  | n + 1, x0, x1, x2, x3, x4, x5, x6, x7, x8, x9, x10, x11 => c_Env_l0_T0 N (@k_Caps_66e6 N) (@k_Caps N) (@sCt_1789 N) (@k_Has_1e53 N) (@k_Has N) (@k_Has_5fa2 N) (@k_May_66e6 N) (@k_May N) (@c_Env_l1 N) (@c_Env_l2 N) (fun x0 x1 x2 x3 x4 x5 x6 x7 x8 x9 x10 x11 => c_Env_l0 N k0 n x0 x1 x2 x3 x4 x5 x6 x7 x8 x9 x10 x11) k0 x0 x1 x2 x3 x4 x5 x6 x7 x8 x9 x10 x11
noncomputable def c_Env_T (N : Nat) (c0 : k_Caps_66e6_Ty) (c1 : k_Caps_Ty) (c2 : sCt_1789_Ty) (c3 : k_Has_1e53_Ty) (c4 : k_Has_Ty) (c5 : k_Has_5fa2_Ty) (c6 : k_May_66e6_Ty) (c7 : k_May_Ty) (w0 : c_Env_l0_Ty) (w1 : c_Env_l1_Ty) (w2 : c_Env_l2_Ty) {R : Type} (x0 : TLE) (x1 : List (Int)) (x2 : Int) (x3 : Int) (x4 : Int) (x5 : List TLI) (x6 : List TLI) (x7 : List (Bool)) (k0 : Int → TLI → Option R) : Option R :=
  c7 x0 x1 x2 x3 x4
  (fun b462 => br (!b462)
   (k0 (11 : Int) ([] : List ((Sh.int IntKind.u16).T)))
   (c4 x0 x1 x2 x3 x4 x5 x6 x7
    (fun b463 => br (!b463)
     (k0 (12 : Int) ([] : List ((Sh.int IntKind.u16).T)))
     (c2 (x5 :: (x6 :: ([] : List ((Sh.int IntKind.u8).isl.isl.T))))
      (fun l464 l465 => w0
       (fun l479 l480 l481 l482 => w2
        (fun l483 => k0 (0 : Int) l483)
        N l481 (Nat.cast (List.length l481) : Int) (0 : Int) l482)
       N (Nat.cast (List.length l465) : Int) (0 : Int) x0 x1 x2 x3 x4 x5 x6 x7 ([] : List ((Sh.int IntKind.u16).T)) l465)))))
noncomputable def c_Env (N : Nat) {R : Type} (x0 : TLE) (x1 : List (Int)) (x2 : Int) (x3 : Int) (x4 : Int) (x5 : List TLI) (x6 : List TLI) (x7 : List (Bool)) (k0 : Int → TLI → Option R) : Option R := c_Env_T N (@k_Caps_66e6 N) (@k_Caps N) (@sCt_1789 N) (@k_Has_1e53 N) (@k_Has N) (@k_Has_5fa2 N) (@k_May_66e6 N) (@k_May N) (@c_Env_l0 N) (@c_Env_l1 N) (@c_Env_l2 N) x0 x1 x2 x3 x4 x5 x6 x7 k0
abbrev c_Env_5fa2_l0_Ty : Type 1 := {R : Type} → (TLL → TLB → Nat → Nat → Nat → Nat → TLI → Option R) → Nat → Int → Int → TLL → TLB → (TLE) → TLI → Int → Int → Int → Nat → Nat → Nat → Nat → TLI → TLL → Option R
abbrev c_Env_5fa2_l1_Ty : Type 1 := {R : Type} → (Int → Int → TLL → TLB → (TLE) → TLI → Int → Int → Int → Nat → Nat → Nat → Nat → TLI → TLL → Option R) → Nat → TLI → Int → Int → Int → Int → TLL → TLB → (TLE) → TLI → Int → Int → Int → Nat → Nat → Nat → Nat → TLI → TLL → Option R
abbrev c_Env_5fa2_l2_Ty : Type 1 := {R : Type} → (TLL → TLB → TLI → Option R) → Nat → Int → Int → TLL → TLB → TLI → Option R
abbrev c_Env_5fa2_Ty : Type 1 := {R : Type} → (TLE) → TLI → Int → Int → Int → Nat → Nat → Nat → Nat → Nat → TLL → TLB → (Int → Nat → TLL → TLB → TLI → Option R) → (Int → TLL → TLB → TLI → Option R) → Option R
noncomputable def c_Env_5fa2_l0_T0 (N : Nat) (c0 : k_Caps_66e6_Ty) (c1 : k_Caps_Ty) (c2 : sCt_1789_Ty) (c3 : k_Has_1e53_Ty) (c4 : k_Has_Ty) (c5 : k_Has_5fa2_Ty) (c6 : k_May_66e6_Ty) (c7 : k_May_Ty) (w1 : c_Env_5fa2_l1_Ty) (w2 : c_Env_5fa2_l2_Ty) {R : Type} (nx : Int → Int → TLL → TLB → (TLE) → TLI → Int → Int → Int → Nat → Nat → Nat → Nat → TLI → TLL → Option R) (k0 : TLL → TLB → Nat → Nat → Nat → Nat → TLI → Option R) (x0 : Int) (x1 : Int) (x2 : List TLI) (x3 : List (Bool)) (x4 : TLE) (x5 : List (Int)) (x6 : Int) (x7 : Int) (x8 : Int) (x9 : Nat) (x10 : Nat) (x11 : Nat) (x12 : Nat) (x13 : List (Int)) (x14 : List TLI) : Option R :=
  br (decide (x1 < x0))
  (br (inB x1 (List.length x14))
   (br (decide ((Int.toNat x1) < (List.length x14)))
    (br (((fits (0 : Nat) (List.length x13) x13) && (decide ((((List.length x13) + (1 : Nat)) * (2 : Nat)) ≤ (70368744177664 : Nat)))) && true)
     (c1 x4 x5 x6 x7 x8
      (fun l717 => br (inB x1 (List.length l717))
       (br (decide ((Int.toNat x1) < (List.length l717)))
        (w1
         (fun i718 i719 l720 l721 l722 l723 i724 i725 i726 n727 n728 n729 n730 l731 l732 => nx i718 (IntKind.wrap .i64 (i719 + (1 : Int))) l720 l721 l722 l723 i724 i725 i726 n727 n728 n729 n730 l731 l732)
         N (List.getD x14 (Int.toNat x1) (Sh.zero (.isl (.int .u8)))) x0 x1 (List.getD l717 (Int.toNat x1) (0 : Int)) (0 : Int) x2 x3 x4 x5 x6 x7 x8 x9 x10 x11 x12 ((sub x13 (0 : Nat) (List.length x13)) ++ ((IntKind.wrap .u16 (Nat.cast (List.length (List.getD x14 (Int.toNat x1) (Sh.zero (.isl (.int .u8))))) : Int)) :: ([] : List ((Sh.int IntKind.u16).T)))) x14)
        (none))
       (none)))
     (none))
    (none))
   (none))
  (k0 x2 x3 x9 x10 x11 x12 x13)
noncomputable def c_Env_5fa2_l1_T0 (N : Nat) (c0 : k_Caps_66e6_Ty) (c1 : k_Caps_Ty) (c2 : sCt_1789_Ty) (c3 : k_Has_1e53_Ty) (c4 : k_Has_Ty) (c5 : k_Has_5fa2_Ty) (c6 : k_May_66e6_Ty) (c7 : k_May_Ty) (w2 : c_Env_5fa2_l2_Ty) {R : Type} (nx : TLI → Int → Int → Int → Int → TLL → TLB → (TLE) → TLI → Int → Int → Int → Nat → Nat → Nat → Nat → TLI → TLL → Option R) (k0 : Int → Int → TLL → TLB → (TLE) → TLI → Int → Int → Int → Nat → Nat → Nat → Nat → TLI → TLL → Option R) (x0 : List (Int)) (x1 : Int) (x2 : Int) (x3 : Int) (x4 : Int) (x5 : List TLI) (x6 : List (Bool)) (x7 : TLE) (x8 : List (Int)) (x9 : Int) (x10 : Int) (x11 : Int) (x12 : Nat) (x13 : Nat) (x14 : Nat) (x15 : Nat) (x16 : List (Int)) (x17 : List TLI) : Option R :=
  br (decide (x4 < x3))
  (br (decide (x4 < (Nat.cast (List.length x0) : Int)))
   (br (inB x4 (List.length x0))
    (br (((fits (0 : Nat) (List.length x16) x16) && (decide ((((List.length x16) + (1 : Nat)) * (2 : Nat)) ≤ (70368744177664 : Nat)))) && true)
     (nx x0 x1 x2 x3 (IntKind.wrap .i64 (x4 + (1 : Int))) x5 x6 x7 x8 x9 x10 x11 x12 x13 x14 x15 ((sub x16 (0 : Nat) (List.length x16)) ++ ((IntKind.wrap .u16 (List.getD x0 (Int.toNat x4) (0 : Int))) :: ([] : List ((Sh.int IntKind.u16).T)))) x17)
     (none))
    (none))
   (br (((fits (0 : Nat) (List.length x16) x16) && (decide ((((List.length x16) + (1 : Nat)) * (2 : Nat)) ≤ (70368744177664 : Nat)))) && true)
    (nx x0 x1 x2 x3 (IntKind.wrap .i64 (x4 + (1 : Int))) x5 x6 x7 x8 x9 x10 x11 x12 x13 x14 x15 ((sub x16 (0 : Nat) (List.length x16)) ++ ((IntKind.wrap .u16 (0 : Int)) :: ([] : List ((Sh.int IntKind.u16).T)))) x17)
    (none)))
  (k0 x1 x2 x5 x6 x7 x8 x9 x10 x11 x12 x13 x14 x15 x16 x17)
noncomputable def c_Env_5fa2_l2_T0 (N : Nat) (c0 : k_Caps_66e6_Ty) (c1 : k_Caps_Ty) (c2 : sCt_1789_Ty) (c3 : k_Has_1e53_Ty) (c4 : k_Has_Ty) (c5 : k_Has_5fa2_Ty) (c6 : k_May_66e6_Ty) (c7 : k_May_Ty) {R : Type} (nx : Int → Int → TLL → TLB → TLI → Option R) (k0 : TLL → TLB → TLI → Option R) (x0 : Int) (x1 : Int) (x2 : List TLI) (x3 : List (Bool)) (x4 : List (Int)) : Option R :=
  br (decide (x1 < x0))
  (br (inB x1 (List.length x3))
   (br (decide ((Int.toNat x1) < (List.length x3)))
    (br (List.getD x3 (Int.toNat x1) false)
     (br (((fits (0 : Nat) (List.length x4) x4) && (decide ((((List.length x4) + (1 : Nat)) * (2 : Nat)) ≤ (70368744177664 : Nat)))) && true)
      (nx x0 (IntKind.wrap .i64 (x1 + (1 : Int))) x2 x3 ((sub x4 (0 : Nat) (List.length x4)) ++ ((1 : Int) :: ([] : List ((Sh.int IntKind.u16).T)))))
      (none))
     (br (((fits (0 : Nat) (List.length x4) x4) && (decide ((((List.length x4) + (1 : Nat)) * (2 : Nat)) ≤ (70368744177664 : Nat)))) && true)
      (nx x0 (IntKind.wrap .i64 (x1 + (1 : Int))) x2 x3 ((sub x4 (0 : Nat) (List.length x4)) ++ ((0 : Int) :: ([] : List ((Sh.int IntKind.u16).T)))))
      (none)))
    (none))
   (none))
  (k0 x2 x3 x4)
noncomputable def c_Env_5fa2_l2 (N : Nat) {R : Type} (k0 : TLL → TLB → TLI → Option R) : Nat → Int → Int → TLL → TLB → TLI → Option R
  | 0, _, _, _, _, _ => none
  | n + 1, x0, x1, x2, x3, x4 => c_Env_5fa2_l2_T0 N (@k_Caps_66e6 N) (@k_Caps N) (@sCt_1789 N) (@k_Has_1e53 N) (@k_Has N) (@k_Has_5fa2 N) (@k_May_66e6 N) (@k_May N) (fun x0 x1 x2 x3 x4 => c_Env_5fa2_l2 N k0 n x0 x1 x2 x3 x4) k0 x0 x1 x2 x3 x4
noncomputable def c_Env_5fa2_l1 (N : Nat) {R : Type} (k0 : Int → Int → TLL → TLB → (TLE) → TLI → Int → Int → Int → Nat → Nat → Nat → Nat → TLI → TLL → Option R) : Nat → TLI → Int → Int → Int → Int → TLL → TLB → (TLE) → TLI → Int → Int → Int → Nat → Nat → Nat → Nat → TLI → TLL → Option R
  | 0, _, _, _, _, _, _, _, _, _, _, _, _, _, _, _, _, _, _ => none
  | n + 1, x0, x1, x2, x3, x4, x5, x6, x7, x8, x9, x10, x11, x12, x13, x14, x15, x16, x17 => c_Env_5fa2_l1_T0 N (@k_Caps_66e6 N) (@k_Caps N) (@sCt_1789 N) (@k_Has_1e53 N) (@k_Has N) (@k_Has_5fa2 N) (@k_May_66e6 N) (@k_May N) (@c_Env_5fa2_l2 N) (fun x0 x1 x2 x3 x4 x5 x6 x7 x8 x9 x10 x11 x12 x13 x14 x15 x16 x17 => c_Env_5fa2_l1 N k0 n x0 x1 x2 x3 x4 x5 x6 x7 x8 x9 x10 x11 x12 x13 x14 x15 x16 x17) k0 x0 x1 x2 x3 x4 x5 x6 x7 x8 x9 x10 x11 x12 x13 x14 x15 x16 x17
noncomputable def c_Env_5fa2_l0 (N : Nat) {R : Type} (k0 : TLL → TLB → Nat → Nat → Nat → Nat → TLI → Option R) : Nat → Int → Int → TLL → TLB → (TLE) → TLI → Int → Int → Int → Nat → Nat → Nat → Nat → TLI → TLL → Option R
  | 0, _, _, _, _, _, _, _, _, _, _, _, _, _, _, _ => none
  | n + 1, x0, x1, x2, x3, x4, x5, x6, x7, x8, x9, x10, x11, x12, x13, x14 => c_Env_5fa2_l0_T0 N (@k_Caps_66e6 N) (@k_Caps N) (@sCt_1789 N) (@k_Has_1e53 N) (@k_Has N) (@k_Has_5fa2 N) (@k_May_66e6 N) (@k_May N) (@c_Env_5fa2_l1 N) (@c_Env_5fa2_l2 N) (fun x0 x1 x2 x3 x4 x5 x6 x7 x8 x9 x10 x11 x12 x13 x14 => c_Env_5fa2_l0 N k0 n x0 x1 x2 x3 x4 x5 x6 x7 x8 x9 x10 x11 x12 x13 x14) k0 x0 x1 x2 x3 x4 x5 x6 x7 x8 x9 x10 x11 x12 x13 x14
noncomputable def c_Env_5fa2_T (N : Nat) (c0 : k_Caps_66e6_Ty) (c1 : k_Caps_Ty) (c2 : sCt_1789_Ty) (c3 : k_Has_1e53_Ty) (c4 : k_Has_Ty) (c5 : k_Has_5fa2_Ty) (c6 : k_May_66e6_Ty) (c7 : k_May_Ty) (w0 : c_Env_5fa2_l0_Ty) (w1 : c_Env_5fa2_l1_Ty) (w2 : c_Env_5fa2_l2_Ty) {R : Type} (x0 : TLE) (x1 : List (Int)) (x2 : Int) (x3 : Int) (x4 : Int) (x5 : Nat) (x6 : Nat) (x7 : Nat) (x8 : Nat) (x9 : Nat) (x10 : List TLI) (x11 : List (Bool)) (k0 : Int → Nat → TLL → TLB → TLI → Option R) (k1 : Int → TLL → TLB → TLI → Option R) : Option R :=
  c7 x0 x1 x2 x3 x4
  (fun b710 => br (!b710)
   (k0 (11 : Int) x9 x10 x11 ([] : List ((Sh.int IntKind.u16).T)))
   (c5 x0 x1 x2 x3 x4 x5 x6 x7 x8 x9 x10 x11
    (fun b711 n712 l713 l714 => br (!b711)
     (k0 (12 : Int) n712 l713 l714 ([] : List ((Sh.int IntKind.u16).T)))
     (br (fits (0 : Nat) x5 l713)
      (br (fits x7 x8 l713)
       (c2 ((sub l713 (0 : Nat) x5) :: ((sub l713 x7 x8) :: ([] : List ((Sh.int IntKind.u8).isl.isl.T))))
        (fun l715 l716 => w0
         (fun l733 l734 n735 n736 n737 n738 l739 => w2
          (fun l740 l741 l742 => k1 (0 : Int) l740 l741 l742)
          N (Nat.cast (List.length l734) : Int) (0 : Int) l733 l734 l739)
         N (Nat.cast (List.length l716) : Int) (0 : Int) l713 l714 x0 x1 x2 x3 x4 x5 x6 x7 x8 ([] : List ((Sh.int IntKind.u16).T)) l716))
       (none))
      (none)))))
noncomputable def c_Env_5fa2 (N : Nat) {R : Type} (x0 : TLE) (x1 : List (Int)) (x2 : Int) (x3 : Int) (x4 : Int) (x5 : Nat) (x6 : Nat) (x7 : Nat) (x8 : Nat) (x9 : Nat) (x10 : List TLI) (x11 : List (Bool)) (k0 : Int → Nat → TLL → TLB → TLI → Option R) (k1 : Int → TLL → TLB → TLI → Option R) : Option R := c_Env_5fa2_T N (@k_Caps_66e6 N) (@k_Caps N) (@sCt_1789 N) (@k_Has_1e53 N) (@k_Has N) (@k_Has_5fa2 N) (@k_May_66e6 N) (@k_May N) (@c_Env_5fa2_l0 N) (@c_Env_5fa2_l1 N) (@c_Env_5fa2_l2 N) x0 x1 x2 x3 x4 x5 x6 x7 x8 x9 x10 x11 k0 k1
abbrev c_Size_9e58_l0_Ty : Type 1 := {R : Type} → (Int → (TLE) → TLI → Option R) → Nat → Int → Int → Int → (TLE) → TLI → TLI → Option R
abbrev c_Size_9e58_Ty : Type 1 := {R : Type} → Int → Int → Int → Int → (TLE) → TLI → (Int → (TLE) → TLI → Option R) → Option R
noncomputable def c_Size_9e58_l0_T0 (N : Nat) (c0 : k_May_66e6_Ty) (c1 : k_May_Ty) (c2 : k_Caps_66e6_Ty) (c3 : k_Caps_Ty) {R : Type} (nx : Int → Int → Int → (TLE) → TLI → TLI → Option R) (k0 : Int → (TLE) → TLI → Option R) (x0 : Int) (x1 : Int) (x2 : Int) (x3 : TLE) (x4 : List (Int)) (x5 : List (Int)) : Option R :=
  br (decide (x2 < x1))
  (br (inB x2 (List.length x5))
   (br (decide ((Int.toNat x2) < (List.length x5)))
    (nx (IntKind.wrap .i64 (x0 + (IntKind.wrap .i64 ((1 : Int) + (List.getD x5 (Int.toNat x2) (0 : Int)))))) x1 (IntKind.wrap .i64 (x2 + (1 : Int))) x3 x4 x5)
    (none))
   (none))
  (k0 x0 x3 x4)
noncomputable def c_Size_9e58_l0 (N : Nat) {R : Type} (k0 : Int → (TLE) → TLI → Option R) : Nat → Int → Int → Int → (TLE) → TLI → TLI → Option R
  | 0, _, _, _, _, _, _ => none
  | n + 1, x0, x1, x2, x3, x4, x5 => c_Size_9e58_l0_T0 N (@k_May_66e6 N) (@k_May N) (@k_Caps_66e6 N) (@k_Caps N) (fun x0 x1 x2 x3 x4 x5 => c_Size_9e58_l0 N k0 n x0 x1 x2 x3 x4 x5) k0 x0 x1 x2 x3 x4 x5
noncomputable def c_Size_9e58_T (N : Nat) (c0 : k_May_66e6_Ty) (c1 : k_May_Ty) (c2 : k_Caps_66e6_Ty) (c3 : k_Caps_Ty) (w0 : c_Size_9e58_l0_Ty) {R : Type} (x0 : Int) (x1 : Int) (x2 : Int) (x3 : Int) (x4 : TLE) (x5 : List (Int)) (k0 : Int → (TLE) → TLI → Option R) : Option R :=
  c2 x0 x1 x2 x4 x5
  (fun l254 l255 l256 => c0 x0 x1 x2 l254 l255
   (fun b257 l258 l259 => br (!(!b257))
    (br (!(decide (x3 < (0 : Int))))
     (br (decide ((Nat.cast (List.length l256) : Int) ≤ x3))
      (k0 (-1 : Int) l258 l259)
      (br (leB x3 (List.length l256))
       (br (fits (0 : Nat) ((Int.toNat x3) - (0 : Nat)) l256)
        (w0
         (fun i260 l261 l262 => k0 i260 l261 l262)
         N (0 : Int) (Nat.cast ((Int.toNat x3) - (0 : Nat)) : Int) (0 : Int) l258 l259 (sub l256 (0 : Nat) ((Int.toNat x3) - (0 : Nat))))
        (none))
       (none)))
     (k0 (-1 : Int) l258 l259))
    (k0 (-1 : Int) l258 l259)))
noncomputable def c_Size_9e58 (N : Nat) {R : Type} (x0 : Int) (x1 : Int) (x2 : Int) (x3 : Int) (x4 : TLE) (x5 : List (Int)) (k0 : Int → (TLE) → TLI → Option R) : Option R := c_Size_9e58_T N (@k_May_66e6 N) (@k_May N) (@k_Caps_66e6 N) (@k_Caps N) (@c_Size_9e58_l0 N) x0 x1 x2 x3 x4 x5 k0
abbrev c_Size_l0_Ty : Type 1 := {R : Type} → (Int → Option R) → Nat → Int → Int → Int → TLI → Option R
abbrev c_Size_Ty : Type 1 := {R : Type} → (TLE) → TLI → Int → Int → Int → Int → (Int → Option R) → Option R
noncomputable def c_Size_l0_T0 (N : Nat) (c0 : k_May_66e6_Ty) (c1 : k_May_Ty) (c2 : k_Caps_66e6_Ty) (c3 : k_Caps_Ty) {R : Type} (nx : Int → Int → Int → TLI → Option R) (k0 : Int → Option R) (x0 : Int) (x1 : Int) (x2 : Int) (x3 : List (Int)) : Option R :=
  br (decide (x2 < x1))
  (br (inB x2 (List.length x3))
   (br (decide ((Int.toNat x2) < (List.length x3)))
    (nx (IntKind.wrap .i64 (x0 + (IntKind.wrap .i64 ((1 : Int) + (List.getD x3 (Int.toNat x2) (0 : Int)))))) x1 (IntKind.wrap .i64 (x2 + (1 : Int))) x3)
    (none))
   (none))
  (k0 x0)
noncomputable def c_Size_l0 (N : Nat) {R : Type} (k0 : Int → Option R) : Nat → Int → Int → Int → TLI → Option R
  | 0, _, _, _, _ => none
  | n + 1, x0, x1, x2, x3 => c_Size_l0_T0 N (@k_May_66e6 N) (@k_May N) (@k_Caps_66e6 N) (@k_Caps N) (fun x0 x1 x2 x3 => c_Size_l0 N k0 n x0 x1 x2 x3) k0 x0 x1 x2 x3
noncomputable def c_Size_T (N : Nat) (c0 : k_May_66e6_Ty) (c1 : k_May_Ty) (c2 : k_Caps_66e6_Ty) (c3 : k_Caps_Ty) (w0 : c_Size_l0_Ty) {R : Type} (x0 : TLE) (x1 : List (Int)) (x2 : Int) (x3 : Int) (x4 : Int) (x5 : Int) (k0 : Int → Option R) : Option R :=
  c3 x0 x1 x2 x3 x4
  (fun l567 => c1 x0 x1 x2 x3 x4
   (fun b568 => br (!(!b568))
    (br (!(decide (x5 < (0 : Int))))
     (br (decide ((Nat.cast (List.length l567) : Int) ≤ x5))
      (k0 (-1 : Int))
      (br (leB x5 (List.length l567))
       (br (fits (0 : Nat) ((Int.toNat x5) - (0 : Nat)) l567)
        (w0
         (fun i569 => k0 i569)
         N (0 : Int) (Nat.cast ((Int.toNat x5) - (0 : Nat)) : Int) (0 : Int) (sub l567 (0 : Nat) ((Int.toNat x5) - (0 : Nat))))
        (none))
       (none)))
     (k0 (-1 : Int)))
    (k0 (-1 : Int))))
noncomputable def c_Size (N : Nat) {R : Type} (x0 : TLE) (x1 : List (Int)) (x2 : Int) (x3 : Int) (x4 : Int) (x5 : Int) (k0 : Int → Option R) : Option R := c_Size_T N (@k_May_66e6 N) (@k_May N) (@k_Caps_66e6 N) (@k_Caps N) (@c_Size_l0 N) x0 x1 x2 x3 x4 x5 k0
abbrev c_Byte_dbd4_Ty : Type 1 := {R : Type} → Int → Int → Int → Int → Int → (TLE) → TLI → (Int → (Bool) → (TLE) → TLI → Option R) → Option R
noncomputable def c_Byte_dbd4_T (N : Nat) (c0 : k_Caps_66e6_Ty) (c1 : k_Caps_Ty) (c2 : c_Size_9e58_Ty) (c3 : c_Size_Ty) {R : Type} (x0 : Int) (x1 : Int) (x2 : Int) (x3 : Int) (x4 : Int) (x5 : TLE) (x6 : List (Int)) (k0 : Int → (Bool) → (TLE) → TLI → Option R) : Option R :=
  c2 x0 x1 x2 x3 x5 x6
  (fun i263 l264 l265 => br (!(decide (i263 = (-1 : Int))))
   (br (!(decide (x4 < (0 : Int))))
    (c0 x0 x1 x2 l264 l265
     (fun l266 l267 l268 => br (inB x3 (List.length l268))
      (br (decide ((Int.toNat x3) < (List.length l268)))
       (br (decide ((List.getD l268 (Int.toNat x3) (0 : Int)) ≤ x4))
        (k0 (0 : Int) false l266 l267)
        (k0 (IntKind.wrap .i64 ((IntKind.wrap .i64 (i263 + (1 : Int))) + x4)) true l266 l267))
       (none))
      (none)))
    (k0 (0 : Int) false l264 l265))
   (k0 (0 : Int) false l264 l265))
noncomputable def c_Byte_dbd4 (N : Nat) {R : Type} (x0 : Int) (x1 : Int) (x2 : Int) (x3 : Int) (x4 : Int) (x5 : TLE) (x6 : List (Int)) (k0 : Int → (Bool) → (TLE) → TLI → Option R) : Option R := c_Byte_dbd4_T N (@k_Caps_66e6 N) (@k_Caps N) (@c_Size_9e58 N) (@c_Size N) x0 x1 x2 x3 x4 x5 x6 k0
abbrev c_Vars_66e6_l0_Ty : Type 1 := {R : Type} → (Int → (TLE) → TLI → Option R) → Nat → Int → Int → Int → (TLE) → TLI → TLI → Option R
abbrev c_Vars_66e6_Ty : Type 1 := {R : Type} → Int → Int → Int → (TLE) → TLI → (Int → (TLE) → TLI → Option R) → Option R
noncomputable def c_Vars_66e6_l0_T0 (N : Nat) (c0 : k_Caps_66e6_Ty) (c1 : k_Caps_Ty) (c2 : k_May_66e6_Ty) (c3 : k_May_Ty) {R : Type} (nx : Int → Int → Int → (TLE) → TLI → TLI → Option R) (k0 : Int → (TLE) → TLI → Option R) (x0 : Int) (x1 : Int) (x2 : Int) (x3 : TLE) (x4 : List (Int)) (x5 : List (Int)) : Option R :=
  br (decide (x2 < x1))
  (br (inB x2 (List.length x5))
   (br (decide ((Int.toNat x2) < (List.length x5)))
    (nx (IntKind.wrap .i64 (x0 + (IntKind.wrap .i64 ((1 : Int) + (List.getD x5 (Int.toNat x2) (0 : Int)))))) x1 (IntKind.wrap .i64 (x2 + (1 : Int))) x3 x4 x5)
    (none))
   (none))
  (k0 x0 x3 x4)
noncomputable def c_Vars_66e6_l0 (N : Nat) {R : Type} (k0 : Int → (TLE) → TLI → Option R) : Nat → Int → Int → Int → (TLE) → TLI → TLI → Option R
  | 0, _, _, _, _, _, _ => none
  | n + 1, x0, x1, x2, x3, x4, x5 => c_Vars_66e6_l0_T0 N (@k_Caps_66e6 N) (@k_Caps N) (@k_May_66e6 N) (@k_May N) (fun x0 x1 x2 x3 x4 x5 => c_Vars_66e6_l0 N k0 n x0 x1 x2 x3 x4 x5) k0 x0 x1 x2 x3 x4 x5
noncomputable def c_Vars_66e6_T (N : Nat) (c0 : k_Caps_66e6_Ty) (c1 : k_Caps_Ty) (c2 : k_May_66e6_Ty) (c3 : k_May_Ty) (w0 : c_Vars_66e6_l0_Ty) {R : Type} (x0 : Int) (x1 : Int) (x2 : Int) (x3 : TLE) (x4 : List (Int)) (k0 : Int → (TLE) → TLI → Option R) : Option R :=
  c2 x0 x1 x2 x3 x4
  (fun b276 l277 l278 => br (!b276)
   (k0 (0 : Int) l277 l278)
   (c0 x0 x1 x2 l277 l278
    (fun l279 l280 l281 => w0
     (fun i282 l283 l284 => k0 i282 l283 l284)
     N x0 (Nat.cast (List.length l281) : Int) (0 : Int) l279 l280 l281)))
noncomputable def c_Vars_66e6 (N : Nat) {R : Type} (x0 : Int) (x1 : Int) (x2 : Int) (x3 : TLE) (x4 : List (Int)) (k0 : Int → (TLE) → TLI → Option R) : Option R := c_Vars_66e6_T N (@k_Caps_66e6 N) (@k_Caps N) (@k_May_66e6 N) (@k_May N) (@c_Vars_66e6_l0 N) x0 x1 x2 x3 x4 k0
abbrev c_Vars_l0_Ty : Type 1 := {R : Type} → (Int → Option R) → Nat → Int → Int → Int → TLI → Option R
abbrev c_Vars_Ty : Type 1 := {R : Type} → (TLE) → TLI → Int → Int → Int → (Int → Option R) → Option R
noncomputable def c_Vars_l0_T0 (N : Nat) (c0 : k_Caps_66e6_Ty) (c1 : k_Caps_Ty) (c2 : k_May_66e6_Ty) (c3 : k_May_Ty) {R : Type} (nx : Int → Int → Int → TLI → Option R) (k0 : Int → Option R) (x0 : Int) (x1 : Int) (x2 : Int) (x3 : List (Int)) : Option R :=
  br (decide (x2 < x1))
  (br (inB x2 (List.length x3))
   (br (decide ((Int.toNat x2) < (List.length x3)))
    (nx (IntKind.wrap .i64 (x0 + (IntKind.wrap .i64 ((1 : Int) + (List.getD x3 (Int.toNat x2) (0 : Int)))))) x1 (IntKind.wrap .i64 (x2 + (1 : Int))) x3)
    (none))
   (none))
  (k0 x0)
noncomputable def c_Vars_l0 (N : Nat) {R : Type} (k0 : Int → Option R) : Nat → Int → Int → Int → TLI → Option R
  | 0, _, _, _, _ => none
  | n + 1, x0, x1, x2, x3 => c_Vars_l0_T0 N (@k_Caps_66e6 N) (@k_Caps N) (@k_May_66e6 N) (@k_May N) (fun x0 x1 x2 x3 => c_Vars_l0 N k0 n x0 x1 x2 x3) k0 x0 x1 x2 x3
noncomputable def c_Vars_T (N : Nat) (c0 : k_Caps_66e6_Ty) (c1 : k_Caps_Ty) (c2 : k_May_66e6_Ty) (c3 : k_May_Ty) (w0 : c_Vars_l0_Ty) {R : Type} (x0 : TLE) (x1 : List (Int)) (x2 : Int) (x3 : Int) (x4 : Int) (k0 : Int → Option R) : Option R :=
  c3 x0 x1 x2 x3 x4
  (fun b562 => br (!b562)
   (k0 (0 : Int))
   (c1 x0 x1 x2 x3 x4
    (fun l563 => w0
     (fun i564 => k0 i564)
     N x2 (Nat.cast (List.length l563) : Int) (0 : Int) l563)))
noncomputable def c_Vars (N : Nat) {R : Type} (x0 : TLE) (x1 : List (Int)) (x2 : Int) (x3 : Int) (x4 : Int) (k0 : Int → Option R) : Option R := c_Vars_T N (@k_Caps_66e6 N) (@k_Caps N) (@k_May_66e6 N) (@k_May N) (@c_Vars_l0 N) x0 x1 x2 x3 x4 k0
abbrev c_Fail_9e58_Ty : Type 1 := {R : Type} → Int → Int → Int → Int → (TLE) → TLI → (Int → (Bool) → (TLE) → TLI → Option R) → Option R
noncomputable def c_Fail_9e58_T (N : Nat) (c0 : c_Vars_66e6_Ty) (c1 : c_Vars_Ty) (c2 : k_May_66e6_Ty) (c3 : k_May_Ty) {R : Type} (x0 : Int) (x1 : Int) (x2 : Int) (x3 : Int) (x4 : TLE) (x5 : List (Int)) (k0 : Int → (Bool) → (TLE) → TLI → Option R) : Option R :=
  c2 x0 x1 x2 x4 x5
  (fun b273 l274 l275 => br (!(!b273))
   (br (!(decide (x3 < (0 : Int))))
    (br (decide (x0 ≤ x3))
     (k0 (0 : Int) false l274 l275)
     (c0 x0 x1 x2 l274 l275
      (fun i285 l286 l287 => br (decide (x0 = x0))
       (br (decide (x3 = x3))
        (k0 (IntKind.wrap .i64 ((IntKind.wrap .i64 (i285 - x0)) + x3)) true l286 l287)
        (none))
       (none))))
    (k0 (0 : Int) false l274 l275))
   (k0 (0 : Int) false l274 l275))
noncomputable def c_Fail_9e58 (N : Nat) {R : Type} (x0 : Int) (x1 : Int) (x2 : Int) (x3 : Int) (x4 : TLE) (x5 : List (Int)) (k0 : Int → (Bool) → (TLE) → TLI → Option R) : Option R := c_Fail_9e58_T N (@c_Vars_66e6 N) (@c_Vars N) (@k_May_66e6 N) (@k_May N) x0 x1 x2 x3 x4 x5 k0
abbrev law18_same_894e_l0_Ty : Type 1 := {R : Type} → ((Bool) → TLI → TLI → Option R) → (TLI → TLI → Option R) → Nat → Int → TLI → TLI → Option R
abbrev law18_same_894e_Ty : Type 1 := {R : Type} → TLI → TLI → ((Bool) → TLI → TLI → Option R) → Option R
noncomputable def law18_same_894e_l0_T0 (N : Nat) {R : Type} (nx : Int → TLI → TLI → Option R) (k0 : (Bool) → TLI → TLI → Option R) (k1 : TLI → TLI → Option R) (x0 : Int) (x1 : List (Int)) (x2 : List (Int)) : Option R :=
  br (decide (x0 < (Nat.cast (List.length x1) : Int)))
  (br (inB x0 (List.length x1))
   (br (decide ((Int.toNat x0) < (List.length x1)))
    (br (inB x0 (List.length x2))
     (br (decide ((Int.toNat x0) < (List.length x2)))
      (br (!(decide ((List.getD x1 (Int.toNat x0) (0 : Int)) = (List.getD x2 (Int.toNat x0) (0 : Int)))))
       (k0 false x1 x2)
       (nx (IntKind.wrap .i64 (x0 + (1 : Int))) x1 x2))
      (none))
     (none))
    (none))
   (none))
  (k1 x1 x2)
noncomputable def law18_same_894e_l0 (N : Nat) {R : Type} (k0 : (Bool) → TLI → TLI → Option R) (k1 : TLI → TLI → Option R) : Nat → Int → TLI → TLI → Option R
  | 0, _, _, _ => none
  | n + 1, x0, x1, x2 => law18_same_894e_l0_T0 N (fun x0 x1 x2 => law18_same_894e_l0 N k0 k1 n x0 x1 x2) k0 k1 x0 x1 x2
noncomputable def law18_same_894e_T (N : Nat) (w0 : law18_same_894e_l0_Ty) {R : Type} (x0 : List (Int)) (x1 : List (Int)) (k0 : (Bool) → TLI → TLI → Option R) : Option R :=
  br (!(decide ((Nat.cast (List.length x0) : Int) = (Nat.cast (List.length x1) : Int))))
  (k0 false x0 x1)
  (w0
   (fun b292 l293 l294 => k0 b292 l293 l294)
   (fun l295 l296 => k0 true l295 l296)
   N (0 : Int) x0 x1)
noncomputable def law18_same_894e (N : Nat) {R : Type} (x0 : List (Int)) (x1 : List (Int)) (k0 : (Bool) → TLI → TLI → Option R) : Option R := law18_same_894e_T N (@law18_same_894e_l0 N) x0 x1 k0
abbrev law18_awake_Ty : Type 1 := {R : Type} → ((Bool) → Option R) → Option R
noncomputable def law18_awake_T (N : Nat) (c0 : c_Size_9e58_Ty) (c1 : c_Size_Ty) (c2 : c_Vars_66e6_Ty) (c3 : c_Vars_Ty) (c4 : law18_same_894e_Ty) (c5 : c_Fail_9e58_Ty) (c6 : c_Byte_dbd4_Ty) (c7 : c_Env_727c_Ty) (c8 : c_Env_Ty) (c9 : c_Env_5fa2_Ty) {R : Type} (k0 : (Bool) → Option R) : Option R :=
  c7 (1 : Int) (1 : Int) (0 : Int) (((bs [97]) , (false , (1 : Int))) :: ([] : List ((Sh.str.pair (Sh.bool.pair (Sh.int IntKind.i64))).T))) ([] : List ((Sh.int IntKind.i64).T)) (((9 : Int) :: ([] : List ((Sh.int IntKind.u8).T))) :: ([] : List ((Sh.int IntKind.u8).isl.T))) (true :: ([] : List (Sh.bool.T)))
  (fun i248 l249 l250 l251 l252 l253 => c6 (1 : Int) (1 : Int) (0 : Int) (0 : Int) (0 : Int) l249 l250
   (fun i269 b270 l271 l272 => c5 (1 : Int) (1 : Int) (0 : Int) (0 : Int) l271 l272
    (fun i288 b289 l290 l291 => br (decide (i248 = (0 : Int)))
     (c4 l253 ((1 : Int) :: ((9 : Int) :: ((1 : Int) :: ([] : List ((Sh.int IntKind.u16).T)))))
      (fun b297 l298 l299 => br b297
       (c2 (1 : Int) (1 : Int) (0 : Int) l290 l291
        (fun i300 l301 l302 => br (decide (i300 = (3 : Int)))
         (c0 (1 : Int) (1 : Int) (0 : Int) (0 : Int) l301 l302
          (fun i303 l304 l305 => br (decide (i303 = (0 : Int)))
           (br b270
            (br (decide (i269 = (1 : Int)))
             (br b289
              (k0 (decide (i288 = (2 : Int))))
              (k0 false))
             (k0 false))
            (k0 false))
           (k0 false)))
         (k0 false)))
       (k0 false)))
     (k0 false))))
  (fun i306 l307 l308 l309 l310 l311 => c6 (1 : Int) (1 : Int) (0 : Int) (0 : Int) (0 : Int) l307 l308
   (fun i312 b313 l314 l315 => c5 (1 : Int) (1 : Int) (0 : Int) (0 : Int) l314 l315
    (fun i316 b317 l318 l319 => br (decide (i306 = (0 : Int)))
     (c4 l311 ((1 : Int) :: ((9 : Int) :: ((1 : Int) :: ([] : List ((Sh.int IntKind.u16).T)))))
      (fun b320 l321 l322 => br b320
       (c2 (1 : Int) (1 : Int) (0 : Int) l318 l319
        (fun i323 l324 l325 => br (decide (i323 = (3 : Int)))
         (c0 (1 : Int) (1 : Int) (0 : Int) (0 : Int) l324 l325
          (fun i326 l327 l328 => br (decide (i326 = (0 : Int)))
           (br b313
            (br (decide (i312 = (1 : Int)))
             (br b317
              (k0 (decide (i316 = (2 : Int))))
              (k0 false))
             (k0 false))
            (k0 false))
           (k0 false)))
         (k0 false)))
       (k0 false)))
     (k0 false))))
noncomputable def law18_awake (N : Nat) {R : Type} (k0 : (Bool) → Option R) : Option R := law18_awake_T N (@c_Size_9e58 N) (@c_Size N) (@c_Vars_66e6 N) (@c_Vars N) (@law18_same_894e N) (@c_Fail_9e58 N) (@c_Byte_dbd4 N) (@c_Env_727c N) (@c_Env N) (@c_Env_5fa2 N) k0
abbrev law17_Small_l0_Ty : Type 1 := {R : Type} → (Int → (TLE) → TLI → Int → Int → Int → Option R) → Nat → Int → Int → (TLE) → TLI → Int → Int → Int → Option R
abbrev law17_Small_Ty : Type 1 := {R : Type} → (TLE) → TLI → Int → Int → Int → ((Bool) → Option R) → Option R
noncomputable def law17_Small_l0_T0 (N : Nat) {R : Type} (nx : Int → Int → (TLE) → TLI → Int → Int → Int → Option R) (k0 : Int → (TLE) → TLI → Int → Int → Int → Option R) (x0 : Int) (x1 : Int) (x2 : TLE) (x3 : List (Int)) (x4 : Int) (x5 : Int) (x6 : Int) : Option R :=
  br (decide (x1 < (Nat.cast (List.length x2) : Int)))
  (br (inB x1 (List.length x2))
   (nx (IntKind.wrap .i64 (x0 + (Nat.cast (ByteArray.size (List.getD x2 (Int.toNat x1) ((bs []) , (false , (0 : Int)))).1) : Int))) (IntKind.wrap .i64 (x1 + (1 : Int))) x2 x3 x4 x5 x6)
   (none))
  (k0 x0 x2 x3 x4 x5 x6)
noncomputable def law17_Small_l0 (N : Nat) {R : Type} (k0 : Int → (TLE) → TLI → Int → Int → Int → Option R) : Nat → Int → Int → (TLE) → TLI → Int → Int → Int → Option R
  | 0, _, _, _, _, _, _, _ => none
  | n + 1, x0, x1, x2, x3, x4, x5, x6 => law17_Small_l0_T0 N (fun x0 x1 x2 x3 x4 x5 x6 => law17_Small_l0 N k0 n x0 x1 x2 x3 x4 x5 x6) k0 x0 x1 x2 x3 x4 x5 x6
noncomputable def law17_Small_T (N : Nat) (w0 : law17_Small_l0_Ty) {R : Type} (x0 : TLE) (x1 : List (Int)) (x2 : Int) (x3 : Int) (x4 : Int) (k0 : (Bool) → Option R) : Option R :=
  w0
  (fun i330 l331 l332 i333 i334 i335 => br (decide ((Nat.cast (List.length l331) : Int) ≤ (60 : Int)))
   (br (decide (i330 ≤ (2000 : Int)))
    (k0 (decide ((Nat.cast (List.length l332) : Int) ≤ (60 : Int))))
    (k0 false))
   (k0 false))
  N (0 : Int) (0 : Int) x0 x1 x2 x3 x4
noncomputable def law17_Small (N : Nat) {R : Type} (x0 : TLE) (x1 : List (Int)) (x2 : Int) (x3 : Int) (x4 : Int) (k0 : (Bool) → Option R) : Option R := law17_Small_T N (@law17_Small_l0 N) x0 x1 x2 x3 x4 k0
abbrev ref12_NameMay_l0_Ty : Type 1 := {R : Type} → ((Bool) → (List (ByteArray)) → Option R) → ((List (ByteArray)) → Option R) → Nat → (ByteArray) → Int → (List (ByteArray)) → Option R
abbrev ref12_NameMay_l1_Ty : Type 1 := {R : Type} → ((Bool) → (List (ByteArray)) → Option R) → ((List (ByteArray)) → Option R) → Nat → Int → (List (ByteArray)) → Option R
abbrev ref12_NameMay_Ty : Type 1 := {R : Type} → (ByteArray) → ((Bool) → Option R) → Option R
noncomputable def ref12_NameMay_l0_T0 (N : Nat) (w1 : ref12_NameMay_l1_Ty) {R : Type} (nx : (ByteArray) → Int → (List (ByteArray)) → Option R) (k0 : (Bool) → (List (ByteArray)) → Option R) (k1 : (List (ByteArray)) → Option R) (x0 : ByteArray) (x1 : Int) (x2 : List (ByteArray)) : Option R :=
  br (decide (x1 < (Nat.cast (ByteArray.size x0) : Int)))
  (br (inB x1 (ByteArray.size x0))
   (br (decide ((bt x0 x1) = (47 : Int)))
    (br (((fits (0 : Nat) (List.length x2) x2) && (decide ((((List.length x2) + (1 : Nat)) * (16 : Nat)) ≤ (70368744177664 : Nat)))) && true)
     (nx x0 (IntKind.wrap .i64 (x1 + (1 : Int))) ((sub x2 (0 : Nat) (List.length x2)) ++ ((bs []) :: ([] : List (Sh.str.T)))))
     (none))
    (br (decide ((97 : Int) ≤ (bt x0 x1)))
     (br (decide ((bt x0 x1) ≤ (122 : Int)))
      (br (inB (IntKind.wrap .i64 ((Nat.cast (List.length x2) : Int) - (1 : Int))) (List.length x2))
       (br (decide ((Int.toNat (IntKind.wrap .i64 ((Nat.cast (List.length x2) : Int) - (1 : Int)))) < (List.length x2)))
        (br (decide (((ByteArray.size (List.getD x2 (Int.toNat (IntKind.wrap .i64 ((Nat.cast (List.length x2) : Int) - (1 : Int)))) (bs []))) + (ByteArray.size (mkStr ((bt x0 x1) :: ([] : List ((Sh.int IntKind.u8).T)))))) < (1099511627776 : Nat)))
         (br (inB (IntKind.wrap .i64 ((Nat.cast (List.length x2) : Int) - (1 : Int))) (List.length x2))
          (br (decide ((Int.toNat (IntKind.wrap .i64 ((Nat.cast (List.length x2) : Int) - (1 : Int)))) < (List.length x2)))
           (nx x0 (IntKind.wrap .i64 (x1 + (1 : Int))) (List.set x2 (Int.toNat (IntKind.wrap .i64 ((Nat.cast (List.length x2) : Int) - (1 : Int)))) ((List.getD x2 (Int.toNat (IntKind.wrap .i64 ((Nat.cast (List.length x2) : Int) - (1 : Int)))) (bs [])) ++ (mkStr ((bt x0 x1) :: ([] : List ((Sh.int IntKind.u8).T)))))))
           (none))
          (none))
         (none))
        (none))
       (none))
      (br (decide ((48 : Int) ≤ (bt x0 x1)))
       (br (decide ((bt x0 x1) ≤ (57 : Int)))
        (br (inB (IntKind.wrap .i64 ((Nat.cast (List.length x2) : Int) - (1 : Int))) (List.length x2))
         (br (decide ((Int.toNat (IntKind.wrap .i64 ((Nat.cast (List.length x2) : Int) - (1 : Int)))) < (List.length x2)))
          (br (decide (((ByteArray.size (List.getD x2 (Int.toNat (IntKind.wrap .i64 ((Nat.cast (List.length x2) : Int) - (1 : Int)))) (bs []))) + (ByteArray.size (mkStr ((bt x0 x1) :: ([] : List ((Sh.int IntKind.u8).T)))))) < (1099511627776 : Nat)))
           (br (inB (IntKind.wrap .i64 ((Nat.cast (List.length x2) : Int) - (1 : Int))) (List.length x2))
            (br (decide ((Int.toNat (IntKind.wrap .i64 ((Nat.cast (List.length x2) : Int) - (1 : Int)))) < (List.length x2)))
             (nx x0 (IntKind.wrap .i64 (x1 + (1 : Int))) (List.set x2 (Int.toNat (IntKind.wrap .i64 ((Nat.cast (List.length x2) : Int) - (1 : Int)))) ((List.getD x2 (Int.toNat (IntKind.wrap .i64 ((Nat.cast (List.length x2) : Int) - (1 : Int)))) (bs [])) ++ (mkStr ((bt x0 x1) :: ([] : List ((Sh.int IntKind.u8).T)))))))
             (none))
            (none))
           (none))
          (none))
         (none))
        (br (decide ((bt x0 x1) = (46 : Int)))
         (br (inB (IntKind.wrap .i64 ((Nat.cast (List.length x2) : Int) - (1 : Int))) (List.length x2))
          (br (decide ((Int.toNat (IntKind.wrap .i64 ((Nat.cast (List.length x2) : Int) - (1 : Int)))) < (List.length x2)))
           (br (decide (((ByteArray.size (List.getD x2 (Int.toNat (IntKind.wrap .i64 ((Nat.cast (List.length x2) : Int) - (1 : Int)))) (bs []))) + (ByteArray.size (mkStr ((bt x0 x1) :: ([] : List ((Sh.int IntKind.u8).T)))))) < (1099511627776 : Nat)))
            (br (inB (IntKind.wrap .i64 ((Nat.cast (List.length x2) : Int) - (1 : Int))) (List.length x2))
             (br (decide ((Int.toNat (IntKind.wrap .i64 ((Nat.cast (List.length x2) : Int) - (1 : Int)))) < (List.length x2)))
              (nx x0 (IntKind.wrap .i64 (x1 + (1 : Int))) (List.set x2 (Int.toNat (IntKind.wrap .i64 ((Nat.cast (List.length x2) : Int) - (1 : Int)))) ((List.getD x2 (Int.toNat (IntKind.wrap .i64 ((Nat.cast (List.length x2) : Int) - (1 : Int)))) (bs [])) ++ (mkStr ((bt x0 x1) :: ([] : List ((Sh.int IntKind.u8).T)))))))
              (none))
             (none))
            (none))
           (none))
          (none))
         (br (decide ((bt x0 x1) = (95 : Int)))
          (br (inB (IntKind.wrap .i64 ((Nat.cast (List.length x2) : Int) - (1 : Int))) (List.length x2))
           (br (decide ((Int.toNat (IntKind.wrap .i64 ((Nat.cast (List.length x2) : Int) - (1 : Int)))) < (List.length x2)))
            (br (decide (((ByteArray.size (List.getD x2 (Int.toNat (IntKind.wrap .i64 ((Nat.cast (List.length x2) : Int) - (1 : Int)))) (bs []))) + (ByteArray.size (mkStr ((bt x0 x1) :: ([] : List ((Sh.int IntKind.u8).T)))))) < (1099511627776 : Nat)))
             (br (inB (IntKind.wrap .i64 ((Nat.cast (List.length x2) : Int) - (1 : Int))) (List.length x2))
              (br (decide ((Int.toNat (IntKind.wrap .i64 ((Nat.cast (List.length x2) : Int) - (1 : Int)))) < (List.length x2)))
               (nx x0 (IntKind.wrap .i64 (x1 + (1 : Int))) (List.set x2 (Int.toNat (IntKind.wrap .i64 ((Nat.cast (List.length x2) : Int) - (1 : Int)))) ((List.getD x2 (Int.toNat (IntKind.wrap .i64 ((Nat.cast (List.length x2) : Int) - (1 : Int)))) (bs [])) ++ (mkStr ((bt x0 x1) :: ([] : List ((Sh.int IntKind.u8).T)))))))
               (none))
              (none))
             (none))
            (none))
           (none))
          (k0 false x2))))
       (br (decide ((bt x0 x1) = (46 : Int)))
        (br (inB (IntKind.wrap .i64 ((Nat.cast (List.length x2) : Int) - (1 : Int))) (List.length x2))
         (br (decide ((Int.toNat (IntKind.wrap .i64 ((Nat.cast (List.length x2) : Int) - (1 : Int)))) < (List.length x2)))
          (br (decide (((ByteArray.size (List.getD x2 (Int.toNat (IntKind.wrap .i64 ((Nat.cast (List.length x2) : Int) - (1 : Int)))) (bs []))) + (ByteArray.size (mkStr ((bt x0 x1) :: ([] : List ((Sh.int IntKind.u8).T)))))) < (1099511627776 : Nat)))
           (br (inB (IntKind.wrap .i64 ((Nat.cast (List.length x2) : Int) - (1 : Int))) (List.length x2))
            (br (decide ((Int.toNat (IntKind.wrap .i64 ((Nat.cast (List.length x2) : Int) - (1 : Int)))) < (List.length x2)))
             (nx x0 (IntKind.wrap .i64 (x1 + (1 : Int))) (List.set x2 (Int.toNat (IntKind.wrap .i64 ((Nat.cast (List.length x2) : Int) - (1 : Int)))) ((List.getD x2 (Int.toNat (IntKind.wrap .i64 ((Nat.cast (List.length x2) : Int) - (1 : Int)))) (bs [])) ++ (mkStr ((bt x0 x1) :: ([] : List ((Sh.int IntKind.u8).T)))))))
             (none))
            (none))
           (none))
          (none))
         (none))
        (br (decide ((bt x0 x1) = (95 : Int)))
         (br (inB (IntKind.wrap .i64 ((Nat.cast (List.length x2) : Int) - (1 : Int))) (List.length x2))
          (br (decide ((Int.toNat (IntKind.wrap .i64 ((Nat.cast (List.length x2) : Int) - (1 : Int)))) < (List.length x2)))
           (br (decide (((ByteArray.size (List.getD x2 (Int.toNat (IntKind.wrap .i64 ((Nat.cast (List.length x2) : Int) - (1 : Int)))) (bs []))) + (ByteArray.size (mkStr ((bt x0 x1) :: ([] : List ((Sh.int IntKind.u8).T)))))) < (1099511627776 : Nat)))
            (br (inB (IntKind.wrap .i64 ((Nat.cast (List.length x2) : Int) - (1 : Int))) (List.length x2))
             (br (decide ((Int.toNat (IntKind.wrap .i64 ((Nat.cast (List.length x2) : Int) - (1 : Int)))) < (List.length x2)))
              (nx x0 (IntKind.wrap .i64 (x1 + (1 : Int))) (List.set x2 (Int.toNat (IntKind.wrap .i64 ((Nat.cast (List.length x2) : Int) - (1 : Int)))) ((List.getD x2 (Int.toNat (IntKind.wrap .i64 ((Nat.cast (List.length x2) : Int) - (1 : Int)))) (bs [])) ++ (mkStr ((bt x0 x1) :: ([] : List ((Sh.int IntKind.u8).T)))))))
              (none))
             (none))
            (none))
           (none))
          (none))
         (k0 false x2)))))
     (br (decide ((48 : Int) ≤ (bt x0 x1)))
      (br (decide ((bt x0 x1) ≤ (57 : Int)))
       (br (inB (IntKind.wrap .i64 ((Nat.cast (List.length x2) : Int) - (1 : Int))) (List.length x2))
        (br (decide ((Int.toNat (IntKind.wrap .i64 ((Nat.cast (List.length x2) : Int) - (1 : Int)))) < (List.length x2)))
         (br (decide (((ByteArray.size (List.getD x2 (Int.toNat (IntKind.wrap .i64 ((Nat.cast (List.length x2) : Int) - (1 : Int)))) (bs []))) + (ByteArray.size (mkStr ((bt x0 x1) :: ([] : List ((Sh.int IntKind.u8).T)))))) < (1099511627776 : Nat)))
          (br (inB (IntKind.wrap .i64 ((Nat.cast (List.length x2) : Int) - (1 : Int))) (List.length x2))
           (br (decide ((Int.toNat (IntKind.wrap .i64 ((Nat.cast (List.length x2) : Int) - (1 : Int)))) < (List.length x2)))
            (nx x0 (IntKind.wrap .i64 (x1 + (1 : Int))) (List.set x2 (Int.toNat (IntKind.wrap .i64 ((Nat.cast (List.length x2) : Int) - (1 : Int)))) ((List.getD x2 (Int.toNat (IntKind.wrap .i64 ((Nat.cast (List.length x2) : Int) - (1 : Int)))) (bs [])) ++ (mkStr ((bt x0 x1) :: ([] : List ((Sh.int IntKind.u8).T)))))))
            (none))
           (none))
          (none))
         (none))
        (none))
       (br (decide ((bt x0 x1) = (46 : Int)))
        (br (inB (IntKind.wrap .i64 ((Nat.cast (List.length x2) : Int) - (1 : Int))) (List.length x2))
         (br (decide ((Int.toNat (IntKind.wrap .i64 ((Nat.cast (List.length x2) : Int) - (1 : Int)))) < (List.length x2)))
          (br (decide (((ByteArray.size (List.getD x2 (Int.toNat (IntKind.wrap .i64 ((Nat.cast (List.length x2) : Int) - (1 : Int)))) (bs []))) + (ByteArray.size (mkStr ((bt x0 x1) :: ([] : List ((Sh.int IntKind.u8).T)))))) < (1099511627776 : Nat)))
           (br (inB (IntKind.wrap .i64 ((Nat.cast (List.length x2) : Int) - (1 : Int))) (List.length x2))
            (br (decide ((Int.toNat (IntKind.wrap .i64 ((Nat.cast (List.length x2) : Int) - (1 : Int)))) < (List.length x2)))
             (nx x0 (IntKind.wrap .i64 (x1 + (1 : Int))) (List.set x2 (Int.toNat (IntKind.wrap .i64 ((Nat.cast (List.length x2) : Int) - (1 : Int)))) ((List.getD x2 (Int.toNat (IntKind.wrap .i64 ((Nat.cast (List.length x2) : Int) - (1 : Int)))) (bs [])) ++ (mkStr ((bt x0 x1) :: ([] : List ((Sh.int IntKind.u8).T)))))))
             (none))
            (none))
           (none))
          (none))
         (none))
        (br (decide ((bt x0 x1) = (95 : Int)))
         (br (inB (IntKind.wrap .i64 ((Nat.cast (List.length x2) : Int) - (1 : Int))) (List.length x2))
          (br (decide ((Int.toNat (IntKind.wrap .i64 ((Nat.cast (List.length x2) : Int) - (1 : Int)))) < (List.length x2)))
           (br (decide (((ByteArray.size (List.getD x2 (Int.toNat (IntKind.wrap .i64 ((Nat.cast (List.length x2) : Int) - (1 : Int)))) (bs []))) + (ByteArray.size (mkStr ((bt x0 x1) :: ([] : List ((Sh.int IntKind.u8).T)))))) < (1099511627776 : Nat)))
            (br (inB (IntKind.wrap .i64 ((Nat.cast (List.length x2) : Int) - (1 : Int))) (List.length x2))
             (br (decide ((Int.toNat (IntKind.wrap .i64 ((Nat.cast (List.length x2) : Int) - (1 : Int)))) < (List.length x2)))
              (nx x0 (IntKind.wrap .i64 (x1 + (1 : Int))) (List.set x2 (Int.toNat (IntKind.wrap .i64 ((Nat.cast (List.length x2) : Int) - (1 : Int)))) ((List.getD x2 (Int.toNat (IntKind.wrap .i64 ((Nat.cast (List.length x2) : Int) - (1 : Int)))) (bs [])) ++ (mkStr ((bt x0 x1) :: ([] : List ((Sh.int IntKind.u8).T)))))))
              (none))
             (none))
            (none))
           (none))
          (none))
         (k0 false x2))))
      (br (decide ((bt x0 x1) = (46 : Int)))
       (br (inB (IntKind.wrap .i64 ((Nat.cast (List.length x2) : Int) - (1 : Int))) (List.length x2))
        (br (decide ((Int.toNat (IntKind.wrap .i64 ((Nat.cast (List.length x2) : Int) - (1 : Int)))) < (List.length x2)))
         (br (decide (((ByteArray.size (List.getD x2 (Int.toNat (IntKind.wrap .i64 ((Nat.cast (List.length x2) : Int) - (1 : Int)))) (bs []))) + (ByteArray.size (mkStr ((bt x0 x1) :: ([] : List ((Sh.int IntKind.u8).T)))))) < (1099511627776 : Nat)))
          (br (inB (IntKind.wrap .i64 ((Nat.cast (List.length x2) : Int) - (1 : Int))) (List.length x2))
           (br (decide ((Int.toNat (IntKind.wrap .i64 ((Nat.cast (List.length x2) : Int) - (1 : Int)))) < (List.length x2)))
            (nx x0 (IntKind.wrap .i64 (x1 + (1 : Int))) (List.set x2 (Int.toNat (IntKind.wrap .i64 ((Nat.cast (List.length x2) : Int) - (1 : Int)))) ((List.getD x2 (Int.toNat (IntKind.wrap .i64 ((Nat.cast (List.length x2) : Int) - (1 : Int)))) (bs [])) ++ (mkStr ((bt x0 x1) :: ([] : List ((Sh.int IntKind.u8).T)))))))
            (none))
           (none))
          (none))
         (none))
        (none))
       (br (decide ((bt x0 x1) = (95 : Int)))
        (br (inB (IntKind.wrap .i64 ((Nat.cast (List.length x2) : Int) - (1 : Int))) (List.length x2))
         (br (decide ((Int.toNat (IntKind.wrap .i64 ((Nat.cast (List.length x2) : Int) - (1 : Int)))) < (List.length x2)))
          (br (decide (((ByteArray.size (List.getD x2 (Int.toNat (IntKind.wrap .i64 ((Nat.cast (List.length x2) : Int) - (1 : Int)))) (bs []))) + (ByteArray.size (mkStr ((bt x0 x1) :: ([] : List ((Sh.int IntKind.u8).T)))))) < (1099511627776 : Nat)))
           (br (inB (IntKind.wrap .i64 ((Nat.cast (List.length x2) : Int) - (1 : Int))) (List.length x2))
            (br (decide ((Int.toNat (IntKind.wrap .i64 ((Nat.cast (List.length x2) : Int) - (1 : Int)))) < (List.length x2)))
             (nx x0 (IntKind.wrap .i64 (x1 + (1 : Int))) (List.set x2 (Int.toNat (IntKind.wrap .i64 ((Nat.cast (List.length x2) : Int) - (1 : Int)))) ((List.getD x2 (Int.toNat (IntKind.wrap .i64 ((Nat.cast (List.length x2) : Int) - (1 : Int)))) (bs [])) ++ (mkStr ((bt x0 x1) :: ([] : List ((Sh.int IntKind.u8).T)))))))
             (none))
            (none))
           (none))
          (none))
         (none))
        (k0 false x2))))))
   (none))
  (k1 x2)
noncomputable def ref12_NameMay_l1_T0 (N : Nat) {R : Type} (nx : Int → (List (ByteArray)) → Option R) (k0 : (Bool) → (List (ByteArray)) → Option R) (k1 : (List (ByteArray)) → Option R) (x0 : Int) (x1 : List (ByteArray)) : Option R :=
  br (decide (x0 < (Nat.cast (List.length x1) : Int)))
  (br (inB x0 (List.length x1))
   (br (decide ((Int.toNat x0) < (List.length x1)))
    (br (!(decide ((List.getD x1 (Int.toNat x0) (bs [])) = (bs []))))
     (br (inB x0 (List.length x1))
      (br (decide ((Int.toNat x0) < (List.length x1)))
       (br (!(decide ((List.getD x1 (Int.toNat x0) (bs [])) = (bs [46]))))
        (br (inB x0 (List.length x1))
         (br (decide ((Int.toNat x0) < (List.length x1)))
          (br (decide ((List.getD x1 (Int.toNat x0) (bs [])) = (bs [46, 46])))
           (k0 false x1)
           (nx (IntKind.wrap .i64 (x0 + (1 : Int))) x1))
          (none))
         (none))
        (k0 false x1))
       (none))
      (none))
     (k0 false x1))
    (none))
   (none))
  (k1 x1)
noncomputable def ref12_NameMay_l1 (N : Nat) {R : Type} (k0 : (Bool) → (List (ByteArray)) → Option R) (k1 : (List (ByteArray)) → Option R) : Nat → Int → (List (ByteArray)) → Option R
  | 0, _, _ => none
  | n + 1, x0, x1 => ref12_NameMay_l1_T0 N (fun x0 x1 => ref12_NameMay_l1 N k0 k1 n x0 x1) k0 k1 x0 x1
noncomputable def ref12_NameMay_l0 (N : Nat) {R : Type} (k0 : (Bool) → (List (ByteArray)) → Option R) (k1 : (List (ByteArray)) → Option R) : Nat → (ByteArray) → Int → (List (ByteArray)) → Option R
  | 0, _, _, _ => none
  | n + 1, x0, x1, x2 => ref12_NameMay_l0_T0 N (@ref12_NameMay_l1 N) (fun x0 x1 x2 => ref12_NameMay_l0 N k0 k1 n x0 x1 x2) k0 k1 x0 x1 x2
noncomputable def ref12_NameMay_T (N : Nat) (w0 : ref12_NameMay_l0_Ty) (w1 : ref12_NameMay_l1_Ty) {R : Type} (x0 : ByteArray) (k0 : (Bool) → Option R) : Option R :=
  br (!(decide ((Nat.cast (ByteArray.size x0) : Int) < (1 : Int))))
  (br (decide ((8 : Int) < (Nat.cast (ByteArray.size x0) : Int)))
   (k0 false)
   (w0
    (fun b486 l487 => k0 b486)
    (fun l488 => w1
     (fun b489 l490 => k0 b489)
     (fun l491 => k0 (decide ((Nat.cast (List.length l491) : Int) ≤ (2 : Int))))
     N (0 : Int) l488)
    N x0 (0 : Int) ((bs []) :: ([] : List (Sh.str.T)))))
  (k0 false)
noncomputable def ref12_NameMay (N : Nat) {R : Type} (x0 : ByteArray) (k0 : (Bool) → Option R) : Option R := ref12_NameMay_T N (@ref12_NameMay_l0 N) (@ref12_NameMay_l1 N) x0 k0
abbrev ref12_Tree_at_7d70_l0_Ty : Type 1 := {R : Type} → (Int → Int → (TLE) → Option R) → (Int → (TLE) → Option R) → Nat → (ByteArray) → Int → Int → (TLE) → Option R
abbrev ref12_Tree_at_7d70_Ty : Type 1 := {R : Type} → (ByteArray) → Int → (TLE) → (Int → Int → (TLE) → Option R) → Option R
noncomputable def ref12_Tree_at_7d70_l0_T0 (N : Nat) {R : Type} (nx : (ByteArray) → Int → Int → (TLE) → Option R) (k0 : Int → Int → (TLE) → Option R) (k1 : Int → (TLE) → Option R) (x0 : ByteArray) (x1 : Int) (x2 : Int) (x3 : TLE) : Option R :=
  br (decide (x1 < (Nat.cast (List.length x3) : Int)))
  (br (inB x1 (List.length x3))
   (br (decide ((Int.toNat x1) < (List.length x3)))
    (br (decide ((List.getD x3 (Int.toNat x1) ((bs []) , (false , (0 : Int)))).1 = x0))
     (k0 x1 x2 x3)
     (nx x0 (IntKind.wrap .i64 (x1 + (1 : Int))) x2 x3))
    (none))
   (none))
  (k1 x2 x3)
noncomputable def ref12_Tree_at_7d70_l0 (N : Nat) {R : Type} (k0 : Int → Int → (TLE) → Option R) (k1 : Int → (TLE) → Option R) : Nat → (ByteArray) → Int → Int → (TLE) → Option R
  | 0, _, _, _, _ => none
  | n + 1, x0, x1, x2, x3 => ref12_Tree_at_7d70_l0_T0 N (fun x0 x1 x2 x3 => ref12_Tree_at_7d70_l0 N k0 k1 n x0 x1 x2 x3) k0 k1 x0 x1 x2 x3
noncomputable def ref12_Tree_at_7d70_T (N : Nat) (w0 : ref12_Tree_at_7d70_l0_Ty) {R : Type} (x0 : ByteArray) (x1 : Int) (x2 : TLE) (k0 : Int → Int → (TLE) → Option R) : Option R :=
  w0
  (fun i493 i494 l495 => k0 i493 i494 l495)
  (fun i496 l497 => k0 (-1 : Int) i496 l497)
  N x0 (0 : Int) x1 x2
noncomputable def ref12_Tree_at_7d70 (N : Nat) {R : Type} (x0 : ByteArray) (x1 : Int) (x2 : TLE) (k0 : Int → Int → (TLE) → Option R) : Option R := ref12_Tree_at_7d70_T N (@ref12_Tree_at_7d70_l0 N) x0 x1 x2 k0
abbrev ref12_Split_l0_Ty : Type 1 := {R : Type} → ((ByteArray) → (ByteArray) → (ByteArray) → Option R) → ((ByteArray) → Option R) → Nat → (ByteArray) → Int → Option R
abbrev ref12_Split_Ty : Type 1 := {R : Type} → (ByteArray) → ((ByteArray) → (ByteArray) → Option R) → Option R
noncomputable def ref12_Split_l0_T0 (N : Nat) (c0 : ref12_NameMay_Ty) {R : Type} (nx : (ByteArray) → Int → Option R) (k0 : (ByteArray) → (ByteArray) → (ByteArray) → Option R) (k1 : (ByteArray) → Option R) (x0 : ByteArray) (x1 : Int) : Option R :=
  br (decide (x1 < (Nat.cast (ByteArray.size x0) : Int)))
  (br (inB x1 (ByteArray.size x0))
   (br (decide ((bt x0 x1) = (47 : Int)))
    (br (leB x1 (ByteArray.size x0))
     (br (leB (IntKind.wrap .i64 (x1 + (1 : Int))) (ByteArray.size x0))
      (k0 x0 (ByteArray.extract x0 (0 : Nat) (Int.toNat x1)) (ByteArray.extract x0 (Int.toNat (IntKind.wrap .i64 (x1 + (1 : Int)))) (ByteArray.size x0)))
      (none))
     (none))
    (nx x0 (IntKind.wrap .i64 (x1 + (1 : Int)))))
   (none))
  (k1 x0)
noncomputable def ref12_Split_l0 (N : Nat) {R : Type} (k0 : (ByteArray) → (ByteArray) → (ByteArray) → Option R) (k1 : (ByteArray) → Option R) : Nat → (ByteArray) → Int → Option R
  | 0, _, _ => none
  | n + 1, x0, x1 => ref12_Split_l0_T0 N (@ref12_NameMay N) (fun x0 x1 => ref12_Split_l0 N k0 k1 n x0 x1) k0 k1 x0 x1
noncomputable def ref12_Split_T (N : Nat) (c0 : ref12_NameMay_Ty) (w0 : ref12_Split_l0_Ty) {R : Type} (x0 : ByteArray) (k0 : (ByteArray) → (ByteArray) → Option R) : Option R :=
  c0 x0
  (fun b501 => br (!b501)
   (k0 (bs []) (bs []))
   (w0
    (fun s502 s503 s504 => k0 s503 s504)
    (fun s505 => k0 (bs []) s505)
    N x0 (0 : Int)))
noncomputable def ref12_Split (N : Nat) {R : Type} (x0 : ByteArray) (k0 : (ByteArray) → (ByteArray) → Option R) : Option R := ref12_Split_T N (@ref12_NameMay N) (@ref12_Split_l0 N) x0 k0
abbrev ref12_NewTree_l0_Ty : Type 1 := {R : Type} → ((TLE) → Int → Int → (TLE) → Option R) → ((TLE) → Int → (TLE) → Option R) → Nat → (TLE) → Int → Int → (TLE) → Option R
abbrev ref12_NewTree_Ty : Type 1 := {R : Type} → (TLE) → (Int → Option R) → (Int → Int → (TLE) → Option R) → Option R
noncomputable def ref12_NewTree_l0_T0 (N : Nat) (c0 : ref12_Split_Ty) (c1 : ref12_Tree_at_7d70_Ty) (c2 : ref12_NameMay_Ty) {R : Type} (nx : (TLE) → Int → Int → (TLE) → Option R) (k0 : (TLE) → Int → Int → (TLE) → Option R) (k1 : (TLE) → Int → (TLE) → Option R) (x0 : TLE) (x1 : Int) (x2 : Int) (x3 : TLE) : Option R :=
  br (decide (x1 < (Nat.cast (List.length x0) : Int)))
  (br (inB x1 (List.length x0))
   (c2 (List.getD x0 (Int.toNat x1) ((bs []) , (false , (0 : Int)))).1
    (fun b492 => br (!(!b492))
     (br (inB x1 (List.length x0))
      (c1 (List.getD x0 (Int.toNat x1) ((bs []) , (false , (0 : Int)))).1 x2 x3
       (fun i498 i499 l500 => br (decide ((0 : Int) ≤ i498))
        (k0 x0 (11 : Int) i499 l500)
        (br (inB x1 (List.length x0))
         (c0 (List.getD x0 (Int.toNat x1) ((bs []) , (false , (0 : Int)))).1
          (fun s506 s507 => br (!(decide (s506 = (bs []))))
           (br (inB x1 (List.length x0))
            (br (!(List.getD x0 (Int.toNat x1) ((bs []) , (false , (0 : Int)))).2.1)
             (c1 s506 i499 l500
              (fun i508 i509 l510 => br (!(decide (i508 < (0 : Int))))
               (c1 s506 i509 l510
                (fun i511 i512 l513 => br (inB i511 (List.length l513))
                 (br (decide ((Int.toNat i511) < (List.length l513)))
                  (br (!(List.getD l513 (Int.toNat i511) ((bs []) , (false , (0 : Int)))).2.1)
                   (k0 x0 (11 : Int) i512 l513)
                   (br (inB x1 (List.length x0))
                    (br (inB x1 (List.length x0))
                     (br (((fits (0 : Nat) (List.length l513) l513) && (decide ((((List.length l513) + (1 : Nat)) * (32 : Nat)) ≤ (70368744177664 : Nat)))) && true)
                      (nx x0 (IntKind.wrap .i64 (x1 + (1 : Int))) i512 ((sub l513 (0 : Nat) (List.length l513)) ++ (((List.getD x0 (Int.toNat x1) ((bs []) , (false , (0 : Int)))).1 , ((List.getD x0 (Int.toNat x1) ((bs []) , (false , (0 : Int)))).2.1 , x1)) :: ([] : List ((Sh.str.pair (Sh.bool.pair (Sh.int IntKind.i64))).T)))))
                      (none))
                     (none))
                    (none)))
                  (none))
                 (none)))
               (k0 x0 (11 : Int) i509 l510)))
             (k0 x0 (11 : Int) i499 l500))
            (none))
           (br (inB x1 (List.length x0))
            (br (inB x1 (List.length x0))
             (br (((fits (0 : Nat) (List.length l500) l500) && (decide ((((List.length l500) + (1 : Nat)) * (32 : Nat)) ≤ (70368744177664 : Nat)))) && true)
              (nx x0 (IntKind.wrap .i64 (x1 + (1 : Int))) i499 ((sub l500 (0 : Nat) (List.length l500)) ++ (((List.getD x0 (Int.toNat x1) ((bs []) , (false , (0 : Int)))).1 , ((List.getD x0 (Int.toNat x1) ((bs []) , (false , (0 : Int)))).2.1 , x1)) :: ([] : List ((Sh.str.pair (Sh.bool.pair (Sh.int IntKind.i64))).T)))))
              (none))
             (none))
            (none))))
         (none))))
      (none))
     (k0 x0 (11 : Int) x2 x3)))
   (none))
  (k1 x0 x2 x3)
noncomputable def ref12_NewTree_l0 (N : Nat) {R : Type} (k0 : (TLE) → Int → Int → (TLE) → Option R) (k1 : (TLE) → Int → (TLE) → Option R) : Nat → (TLE) → Int → Int → (TLE) → Option R
  | 0, _, _, _, _ => none
  | n + 1, x0, x1, x2, x3 => ref12_NewTree_l0_T0 N (@ref12_Split N) (@ref12_Tree_at_7d70 N) (@ref12_NameMay N) (fun x0 x1 x2 x3 => ref12_NewTree_l0 N k0 k1 n x0 x1 x2 x3) k0 k1 x0 x1 x2 x3
noncomputable def ref12_NewTree_T (N : Nat) (c0 : ref12_Split_Ty) (c1 : ref12_Tree_at_7d70_Ty) (c2 : ref12_NameMay_Ty) (w0 : ref12_NewTree_l0_Ty) {R : Type} (x0 : TLE) (k0 : Int → Option R) (k1 : Int → Int → (TLE) → Option R) : Option R :=
  br (decide ((8 : Int) < (Nat.cast (List.length x0) : Int)))
  (k0 (11 : Int))
  (w0
   (fun l514 i515 i516 l517 => k0 i515)
   (fun l518 i519 l520 => k1 (0 : Int) (Nat.cast (List.length l518) : Int) l520)
   N x0 (0 : Int) (0 : Int) ([] : List ((Sh.str.pair (Sh.bool.pair (Sh.int IntKind.i64))).T)))
noncomputable def ref12_NewTree (N : Nat) {R : Type} (x0 : TLE) (k0 : Int → Option R) (k1 : Int → Int → (TLE) → Option R) : Option R := ref12_NewTree_T N (@ref12_Split N) (@ref12_Tree_at_7d70 N) (@ref12_NameMay N) (@ref12_NewTree_l0 N) x0 k0 k1
abbrev r_Caps_l0_Ty : Type 1 := {R : Type} → ((TLE) → TLI → Int → Int → Int → TLI → Option R) → Nat → Int → (TLE) → TLI → Int → Int → Int → TLI → Option R
abbrev r_Caps_Ty : Type 1 := {R : Type} → (TLE) → TLI → Int → Int → Int → (TLI → Option R) → Option R
noncomputable def r_Caps_l0_T0 (N : Nat) {R : Type} (nx : Int → (TLE) → TLI → Int → Int → Int → TLI → Option R) (k0 : (TLE) → TLI → Int → Int → Int → TLI → Option R) (x0 : Int) (x1 : TLE) (x2 : List (Int)) (x3 : Int) (x4 : Int) (x5 : Int) (x6 : List (Int)) : Option R :=
  br (decide (x0 < (Nat.cast (List.length x1) : Int)))
  (br (inB x0 (List.length x1))
   (br (!(List.getD x1 (Int.toNat x0) ((bs []) , (false , (0 : Int)))).2.1)
    (br (inB x0 (List.length x1))
     (br (((fits (0 : Nat) (List.length x6) x6) && (decide ((((List.length x6) + (1 : Nat)) * (8 : Nat)) ≤ (70368744177664 : Nat)))) && true)
      (nx (IntKind.wrap .i64 (x0 + (1 : Int))) x1 x2 x3 x4 x5 ((sub x6 (0 : Nat) (List.length x6)) ++ ((List.getD x1 (Int.toNat x0) ((bs []) , (false , (0 : Int)))).2.2 :: ([] : List ((Sh.int IntKind.i64).T)))))
      (none))
     (none))
    (nx (IntKind.wrap .i64 (x0 + (1 : Int))) x1 x2 x3 x4 x5 x6))
   (none))
  (k0 x1 x2 x3 x4 x5 x6)
noncomputable def r_Caps_l0 (N : Nat) {R : Type} (k0 : (TLE) → TLI → Int → Int → Int → TLI → Option R) : Nat → Int → (TLE) → TLI → Int → Int → Int → TLI → Option R
  | 0, _, _, _, _, _, _, _ => none
  | n + 1, x0, x1, x2, x3, x4, x5, x6 => r_Caps_l0_T0 N (fun x0 x1 x2 x3 x4 x5 x6 => r_Caps_l0 N k0 n x0 x1 x2 x3 x4 x5 x6) k0 x0 x1 x2 x3 x4 x5 x6
noncomputable def r_Caps_T (N : Nat) (w0 : r_Caps_l0_Ty) {R : Type} (x0 : TLE) (x1 : List (Int)) (x2 : Int) (x3 : Int) (x4 : Int) (k0 : TLI → Option R) : Option R :=
  w0
  (fun l522 l523 i524 i525 i526 l527 => br (((fits (0 : Nat) (List.length l527) l527) && (decide ((((List.length l527) + (List.length l523)) * (8 : Nat)) ≤ (70368744177664 : Nat)))) && true)
   (k0 ((sub l527 (0 : Nat) (List.length l527)) ++ l523))
   (none))
  N (0 : Int) x0 x1 x2 x3 x4 ([] : List ((Sh.int IntKind.i64).T))
noncomputable def r_Caps (N : Nat) {R : Type} (x0 : TLE) (x1 : List (Int)) (x2 : Int) (x3 : Int) (x4 : Int) (k0 : TLI → Option R) : Option R := r_Caps_T N (@r_Caps_l0 N) x0 x1 x2 x3 x4 k0
abbrev r_files_Ty : Type 1 := {R : Type} → (TLE) → TLI → Int → Int → Int → (Int → Option R) → Option R
noncomputable def r_files_T (N : Nat) (c0 : r_Caps_Ty) {R : Type} (x0 : TLE) (x1 : List (Int)) (x2 : Int) (x3 : Int) (x4 : Int) (k0 : Int → Option R) : Option R :=
  c0 x0 x1 x2 x3 x4
  (fun l528 => br (listDec (Sh.dec (.int .i64)) x1 x1)
   (br (decide ((Nat.cast (List.length x1) : Int) = (Nat.cast (List.length x1) : Int)))
    (k0 (IntKind.wrap .i64 ((Nat.cast (List.length l528) : Int) - (Nat.cast (List.length x1) : Int))))
    (none))
   (none))
noncomputable def r_files (N : Nat) {R : Type} (x0 : TLE) (x1 : List (Int)) (x2 : Int) (x3 : Int) (x4 : Int) (k0 : Int → Option R) : Option R := r_files_T N (@r_Caps N) x0 x1 x2 x3 x4 k0
abbrev r_May_l0_Ty : Type 1 := {R : Type} → ((Bool) → (TLE) → TLI → Int → Int → Int → Option R) → ((TLE) → TLI → Int → Int → Int → Option R) → Nat → Int → (TLE) → TLI → Int → Int → Int → Option R
abbrev r_May_l1_Ty : Type 1 := {R : Type} → ((Bool) → Option R) → (Option R) → Nat → Int → TLI → Option R
abbrev r_May_Ty : Type 1 := {R : Type} → (TLE) → TLI → Int → Int → Int → ((Bool) → Option R) → Option R
noncomputable def r_May_l0_T0 (N : Nat) (c0 : r_Caps_Ty) (c1 : r_files_Ty) (c2 : ref12_NewTree_Ty) (w1 : r_May_l1_Ty) {R : Type} (nx : Int → (TLE) → TLI → Int → Int → Int → Option R) (k0 : (Bool) → (TLE) → TLI → Int → Int → Int → Option R) (k1 : (TLE) → TLI → Int → Int → Int → Option R) (x0 : Int) (x1 : TLE) (x2 : List (Int)) (x3 : Int) (x4 : Int) (x5 : Int) : Option R :=
  br (decide (x0 < (Nat.cast (List.length x1) : Int)))
  (br (inB x0 (List.length x1))
   (br (List.getD x1 (Int.toNat x0) ((bs []) , (false , (0 : Int)))).2.1
    (br (inB x0 (List.length x1))
     (br (!(decide ((List.getD x1 (Int.toNat x0) ((bs []) , (false , (0 : Int)))).2.2 = (0 : Int))))
      (k0 false x1 x2 x3 x4 x5)
      (nx (IntKind.wrap .i64 (x0 + (1 : Int))) x1 x2 x3 x4 x5))
     (none))
    (nx (IntKind.wrap .i64 (x0 + (1 : Int))) x1 x2 x3 x4 x5))
   (none))
  (k1 x1 x2 x3 x4 x5)
noncomputable def r_May_l1_T0 (N : Nat) (c0 : r_Caps_Ty) (c1 : r_files_Ty) (c2 : ref12_NewTree_Ty) {R : Type} (nx : Int → TLI → Option R) (k0 : (Bool) → Option R) (k1 : Option R) (x0 : Int) (x1 : List (Int)) : Option R :=
  br (decide (x0 < (Nat.cast (List.length x1) : Int)))
  (br (inB x0 (List.length x1))
   (br (decide ((Int.toNat x0) < (List.length x1)))
    (br (!(decide ((List.getD x1 (Int.toNat x0) (0 : Int)) < (0 : Int))))
     (br (inB x0 (List.length x1))
      (br (decide ((Int.toNat x0) < (List.length x1)))
       (br (decide ((3 : Int) < (List.getD x1 (Int.toNat x0) (0 : Int))))
        (k0 false)
        (nx (IntKind.wrap .i64 (x0 + (1 : Int))) x1))
       (none))
      (none))
     (k0 false))
    (none))
   (none))
  (k1)
noncomputable def r_May_l1 (N : Nat) {R : Type} (k0 : (Bool) → Option R) (k1 : Option R) : Nat → Int → TLI → Option R
  | 0, _, _ => none
  | n + 1, x0, x1 => r_May_l1_T0 N (@r_Caps N) (@r_files N) (@ref12_NewTree N) (fun x0 x1 => r_May_l1 N k0 k1 n x0 x1) k0 k1 x0 x1
noncomputable def r_May_l0 (N : Nat) {R : Type} (k0 : (Bool) → (TLE) → TLI → Int → Int → Int → Option R) (k1 : (TLE) → TLI → Int → Int → Int → Option R) : Nat → Int → (TLE) → TLI → Int → Int → Int → Option R
  | 0, _, _, _, _, _, _ => none
  | n + 1, x0, x1, x2, x3, x4, x5 => r_May_l0_T0 N (@r_Caps N) (@r_files N) (@ref12_NewTree N) (@r_May_l1 N) (fun x0 x1 x2 x3 x4 x5 => r_May_l0 N k0 k1 n x0 x1 x2 x3 x4 x5) k0 k1 x0 x1 x2 x3 x4 x5
noncomputable def r_May_T (N : Nat) (c0 : r_Caps_Ty) (c1 : r_files_Ty) (c2 : ref12_NewTree_Ty) (w0 : r_May_l0_Ty) (w1 : r_May_l1_Ty) {R : Type} (x0 : TLE) (x1 : List (Int)) (x2 : Int) (x3 : Int) (x4 : Int) (k0 : (Bool) → Option R) : Option R :=
  c2 x0
  (fun i521 => br (!(!(decide (i521 = (0 : Int)))))
   (c1 x0 x1 x2 x3 x4
    (fun i529 => br (!(decide ((4 : Int) < i529)))
     (br (!(decide ((2 : Int) < (Nat.cast (List.length x1) : Int))))
      (br (!(decide (x2 < (0 : Int))))
       (br (!(decide ((6 : Int) < x2)))
        (br (!(decide (x3 < (0 : Int))))
         (br (!(decide (x2 < x3)))
          (br (!(decide (x4 < (0 : Int))))
           (br (decide ((400 : Int) < x4))
            (k0 false)
            (w0
             (fun b530 l531 l532 i533 i534 i535 => k0 b530)
             (fun l536 l537 i538 i539 i540 => c0 l536 l537 i538 i539 i540
              (fun l541 => w1
               (fun b542 => k0 b542)
               (k0 true)
               N (0 : Int) l541))
             N (0 : Int) x0 x1 x2 x3 x4))
           (k0 false))
          (k0 false))
         (k0 false))
        (k0 false))
       (k0 false))
      (k0 false))
     (k0 false)))
   (k0 false))
  (fun i543 i544 l545 => br (!(!(decide (i543 = (0 : Int)))))
   (c1 x0 x1 x2 x3 x4
    (fun i546 => br (!(decide ((4 : Int) < i546)))
     (br (!(decide ((2 : Int) < (Nat.cast (List.length x1) : Int))))
      (br (!(decide (x2 < (0 : Int))))
       (br (!(decide ((6 : Int) < x2)))
        (br (!(decide (x3 < (0 : Int))))
         (br (!(decide (x2 < x3)))
          (br (!(decide (x4 < (0 : Int))))
           (br (decide ((400 : Int) < x4))
            (k0 false)
            (w0
             (fun b547 l548 l549 i550 i551 i552 => k0 b547)
             (fun l553 l554 i555 i556 i557 => c0 l553 l554 i555 i556 i557
              (fun l558 => w1
               (fun b559 => k0 b559)
               (k0 true)
               N (0 : Int) l558))
             N (0 : Int) x0 x1 x2 x3 x4))
           (k0 false))
          (k0 false))
         (k0 false))
        (k0 false))
       (k0 false))
      (k0 false))
     (k0 false)))
   (k0 false))
noncomputable def r_May (N : Nat) {R : Type} (x0 : TLE) (x1 : List (Int)) (x2 : Int) (x3 : Int) (x4 : Int) (k0 : (Bool) → Option R) : Option R := r_May_T N (@r_Caps N) (@r_files N) (@ref12_NewTree N) (@r_May_l0 N) (@r_May_l1 N) x0 x1 x2 x3 x4 k0
abbrev sEq_c28d_l0_Ty : Type 1 := {R : Type} → ((Bool) → TLI → Option R) → (TLI → Option R) → Nat → TLI → Int → Int → TLI → Option R
abbrev sEq_c28d_Ty : Type 1 := {R : Type} → TLI → TLI → ((Bool) → TLI → Option R) → Option R
noncomputable def sEq_c28d_l0_T0 (N : Nat) {R : Type} (nx : TLI → Int → Int → TLI → Option R) (k0 : (Bool) → TLI → Option R) (k1 : TLI → Option R) (x0 : List (Int)) (x1 : Int) (x2 : Int) (x3 : List (Int)) : Option R :=
  br (decide (x2 < x1))
  (br (inB x2 (List.length x3))
   (br (decide ((Int.toNat x2) < (List.length x3)))
    (br (inB x2 (List.length x0))
     (br (!(decide ((List.getD x3 (Int.toNat x2) (0 : Int)) = (List.getD x0 (Int.toNat x2) (0 : Int)))))
      (k0 false x3)
      (nx x0 x1 (IntKind.wrap .i64 (x2 + (1 : Int))) x3))
     (none))
    (none))
   (none))
  (k1 x3)
noncomputable def sEq_c28d_l0 (N : Nat) {R : Type} (k0 : (Bool) → TLI → Option R) (k1 : TLI → Option R) : Nat → TLI → Int → Int → TLI → Option R
  | 0, _, _, _, _ => none
  | n + 1, x0, x1, x2, x3 => sEq_c28d_l0_T0 N (fun x0 x1 x2 x3 => sEq_c28d_l0 N k0 k1 n x0 x1 x2 x3) k0 k1 x0 x1 x2 x3
noncomputable def sEq_c28d_T (N : Nat) (w0 : sEq_c28d_l0_Ty) {R : Type} (x0 : List (Int)) (x1 : List (Int)) (k0 : (Bool) → TLI → Option R) : Option R :=
  br (!(decide ((Nat.cast (List.length x1) : Int) = (Nat.cast (List.length x0) : Int))))
  (k0 false x1)
  (w0
   (fun b748 l749 => k0 b748 l749)
   (fun l750 => k0 true l750)
   N x0 (Nat.cast (List.length x1) : Int) (0 : Int) x1)
noncomputable def sEq_c28d (N : Nat) {R : Type} (x0 : List (Int)) (x1 : List (Int)) (k0 : (Bool) → TLI → Option R) : Option R := sEq_c28d_T N (@sEq_c28d_l0 N) x0 x1 k0
abbrev sEq_b8c4_l0_Ty : Type 1 := {R : Type} → ((Bool) → TLI → Nat → TLI → Option R) → (TLI → Nat → TLI → Option R) → Nat → Nat → Nat → Int → Int → TLI → Nat → TLI → Option R
abbrev sEq_b8c4_Ty : Type 1 := {R : Type} → Nat → Nat → TLI → Nat → TLI → ((Bool) → TLI → Nat → TLI → Option R) → Option R
noncomputable def sEq_b8c4_l0_T0 (N : Nat) {R : Type} (nx : Nat → Nat → Int → Int → TLI → Nat → TLI → Option R) (k0 : (Bool) → TLI → Nat → TLI → Option R) (k1 : TLI → Nat → TLI → Option R) (x0 : Nat) (x1 : Nat) (x2 : Int) (x3 : Int) (x4 : List (Int)) (x5 : Nat) (x6 : List (Int)) : Option R :=
  br (decide (x3 < x2))
  (br (inB x3 (List.length x4))
   (br (decide ((Int.toNat x3) < (List.length x4)))
    (br (inB x3 x0)
     (br (decide ((Int.toNat x3) < x5))
      (br (!(decide ((List.getD x4 (Int.toNat x3) (0 : Int)) = (List.getD x6 (Int.toNat x3) (0 : Int)))))
       (k0 false x4 x5 x6)
       (nx x0 x1 x2 (IntKind.wrap .i64 (x3 + (1 : Int))) x4 x5 x6))
      (none))
     (none))
    (none))
   (none))
  (k1 x4 x5 x6)
noncomputable def sEq_b8c4_l0 (N : Nat) {R : Type} (k0 : (Bool) → TLI → Nat → TLI → Option R) (k1 : TLI → Nat → TLI → Option R) : Nat → Nat → Nat → Int → Int → TLI → Nat → TLI → Option R
  | 0, _, _, _, _, _, _, _ => none
  | n + 1, x0, x1, x2, x3, x4, x5, x6 => sEq_b8c4_l0_T0 N (fun x0 x1 x2 x3 x4 x5 x6 => sEq_b8c4_l0 N k0 k1 n x0 x1 x2 x3 x4 x5 x6) k0 k1 x0 x1 x2 x3 x4 x5 x6
noncomputable def sEq_b8c4_T (N : Nat) (w0 : sEq_b8c4_l0_Ty) {R : Type} (x0 : Nat) (x1 : Nat) (x2 : List (Int)) (x3 : Nat) (x4 : List (Int)) (k0 : (Bool) → TLI → Nat → TLI → Option R) : Option R :=
  br (!(decide ((Nat.cast (List.length x2) : Int) = (Nat.cast x0 : Int))))
  (k0 false x2 x3 x4)
  (w0
   (fun b1179 l1180 n1181 l1182 => k0 b1179 l1180 n1181 l1182)
   (fun l1183 n1184 l1185 => k0 true l1183 n1184 l1185)
   N x0 x1 (Nat.cast (List.length x2) : Int) (0 : Int) x2 x3 x4)
noncomputable def sEq_b8c4 (N : Nat) {R : Type} (x0 : Nat) (x1 : Nat) (x2 : List (Int)) (x3 : Nat) (x4 : List (Int)) (k0 : (Bool) → TLI → Nat → TLI → Option R) : Option R := sEq_b8c4_T N (@sEq_b8c4_l0 N) x0 x1 x2 x3 x4 k0
abbrev c_Input_l0_Ty : Type 1 := {R : Type} → (TLI → Int → (TLE) → TLI → Int → Int → Int → TLL → TLL → TLB → TLL → TLL → TLB → TLL → Option R) → Nat → TLI → Int → Int → Int → (TLE) → TLI → Int → Int → Int → TLL → TLL → TLB → TLL → TLL → TLB → TLL → TLI → Option R
abbrev c_Input_l1_Ty : Type 1 := {R : Type} → (TLI → Int → Int → Int → (TLE) → TLI → Int → Int → Int → TLL → TLL → TLB → TLL → TLL → TLB → TLL → TLI → TLI → Option R) → Nat → TLI → Int → Int → Int → Int → Int → Int → (TLE) → TLI → Int → Int → Int → TLL → TLL → TLB → TLL → TLL → TLB → TLL → TLI → TLI → Option R
abbrev c_Input_l2_Ty : Type 1 := {R : Type} → (TLI → Int → (TLE) → TLI → Int → Int → Int → TLL → TLL → TLB → Nat → Nat → Nat → Nat → Nat → TLL → TLB → Option R) → Nat → TLI → Int → TLI → Int → Int → (TLE) → TLI → Int → Int → Int → TLL → TLL → TLB → Nat → Nat → Nat → Nat → Nat → TLL → TLB → Option R
abbrev c_Input_Ty : Type 1 := {R : Type} → (TLE) → TLI → Int → Int → Int → TLI → (Int → TLL → TLL → TLB → Option R) → (Nat → Nat → Nat → Nat → Int → Nat → TLL → TLB → Option R) → (Nat → Nat → Nat → Nat → Int → TLL → TLB → Option R) → Option R
noncomputable def c_Input_l0_T0 (N : Nat) (c0 : sEq_c28d_Ty) (c1 : sEq_b8c4_Ty) (c2 : c_Env_727c_Ty) (c3 : c_Env_Ty) (c4 : c_Env_5fa2_Ty) (c5 : k_Files_66e6_Ty) (c6 : k_Files_Ty) (c7 : c_Size_9e58_Ty) (c8 : c_Size_Ty) (c9 : k_Caps_66e6_Ty) (c10 : k_Caps_Ty) (c11 : c_Vars_66e6_Ty) (c12 : c_Vars_Ty) (c13 : k_May_66e6_Ty) (c14 : k_May_Ty) (w1 : c_Input_l1_Ty) (w2 : c_Input_l2_Ty) {R : Type} (nx : TLI → Int → Int → Int → (TLE) → TLI → Int → Int → Int → TLL → TLL → TLB → TLL → TLL → TLB → TLL → TLI → Option R) (k0 : TLI → Int → (TLE) → TLI → Int → Int → Int → TLL → TLL → TLB → TLL → TLL → TLB → TLL → Option R) (x0 : List (Int)) (x1 : Int) (x2 : Int) (x3 : Int) (x4 : TLE) (x5 : List (Int)) (x6 : Int) (x7 : Int) (x8 : Int) (x9 : List TLI) (x10 : List TLI) (x11 : List (Bool)) (x12 : List TLI) (x13 : List TLI) (x14 : List (Bool)) (x15 : List TLI) (x16 : List (Int)) : Option R :=
  br (decide (x3 < x2))
  (br (inB x3 (List.length x16))
   (br (decide ((Int.toNat x3) < (List.length x16)))
    (c8 x4 x5 x6 x7 x8 x3
     (fun i591 => br (inB i591 (List.length x0))
      (w1
       (fun l592 i593 i594 i595 l596 l597 i598 i599 i600 l601 l602 l603 l604 l605 l606 l607 l608 l609 => br (fits (0 : Nat) (List.length l608) l608)
        (br (fits (0 : Nat) (List.length l608) l608)
         (br (((fits (0 : Nat) (List.length l607) l607) && (decide ((((List.length l607) + (1 : Nat)) * (24 : Nat)) ≤ (70368744177664 : Nat)))) && true)
          (nx l592 i593 i594 (IntKind.wrap .i64 (i595 + (1 : Int))) l596 l597 i598 i599 i600 l601 l602 l603 l604 l605 l606 ((sub l607 (0 : Nat) (List.length l607)) ++ ((sub l608 (0 : Nat) (List.length l608)) :: ([] : List ((Sh.int IntKind.u8).isl.T)))) l609)
          (none))
         (none))
        (none))
       N x0 x1 i591 x2 x3 (if ((List.getD x16 (Int.toNat x3) (0 : Int)) < (IntKind.wrap .i64 (List.getD x0 (Int.toNat i591) (0 : Int)))) then (List.getD x16 (Int.toNat x3) (0 : Int)) else (IntKind.wrap .i64 (List.getD x0 (Int.toNat i591) (0 : Int)))) (0 : Int) x4 x5 x6 x7 x8 x9 x10 x11 x12 x13 x14 x15 ([] : List ((Sh.int IntKind.u8).T)) x16)
      (none)))
    (none))
   (none))
  (k0 x0 x1 x4 x5 x6 x7 x8 x9 x10 x11 x12 x13 x14 x15)
noncomputable def c_Input_l1_T0 (N : Nat) (c0 : sEq_c28d_Ty) (c1 : sEq_b8c4_Ty) (c2 : c_Env_727c_Ty) (c3 : c_Env_Ty) (c4 : c_Env_5fa2_Ty) (c5 : k_Files_66e6_Ty) (c6 : k_Files_Ty) (c7 : c_Size_9e58_Ty) (c8 : c_Size_Ty) (c9 : k_Caps_66e6_Ty) (c10 : k_Caps_Ty) (c11 : c_Vars_66e6_Ty) (c12 : c_Vars_Ty) (c13 : k_May_66e6_Ty) (c14 : k_May_Ty) (w2 : c_Input_l2_Ty) {R : Type} (nx : TLI → Int → Int → Int → Int → Int → Int → (TLE) → TLI → Int → Int → Int → TLL → TLL → TLB → TLL → TLL → TLB → TLL → TLI → TLI → Option R) (k0 : TLI → Int → Int → Int → (TLE) → TLI → Int → Int → Int → TLL → TLL → TLB → TLL → TLL → TLB → TLL → TLI → TLI → Option R) (x0 : List (Int)) (x1 : Int) (x2 : Int) (x3 : Int) (x4 : Int) (x5 : Int) (x6 : Int) (x7 : TLE) (x8 : List (Int)) (x9 : Int) (x10 : Int) (x11 : Int) (x12 : List TLI) (x13 : List TLI) (x14 : List (Bool)) (x15 : List TLI) (x16 : List TLI) (x17 : List (Bool)) (x18 : List TLI) (x19 : List (Int)) (x20 : List (Int)) : Option R :=
  br (decide (x6 < x5))
  (br (inB (IntKind.wrap .i64 ((IntKind.wrap .i64 (x2 + (1 : Int))) + x6)) (List.length x0))
   (br (((fits (0 : Nat) (List.length x19) x19) && (decide ((((List.length x19) + (1 : Nat)) * (1 : Nat)) ≤ (70368744177664 : Nat)))) && true)
    (nx x0 x1 x2 x3 x4 x5 (IntKind.wrap .i64 (x6 + (1 : Int))) x7 x8 x9 x10 x11 x12 x13 x14 x15 x16 x17 x18 ((sub x19 (0 : Nat) (List.length x19)) ++ ((IntKind.wrap .u8 (List.getD x0 (Int.toNat (IntKind.wrap .i64 ((IntKind.wrap .i64 (x2 + (1 : Int))) + x6))) (0 : Int))) :: ([] : List ((Sh.int IntKind.u8).T)))) x20)
    (none))
   (none))
  (k0 x0 x1 x3 x4 x7 x8 x9 x10 x11 x12 x13 x14 x15 x16 x17 x18 x19 x20)
noncomputable def c_Input_l2_T0 (N : Nat) (c0 : sEq_c28d_Ty) (c1 : sEq_b8c4_Ty) (c2 : c_Env_727c_Ty) (c3 : c_Env_Ty) (c4 : c_Env_5fa2_Ty) (c5 : k_Files_66e6_Ty) (c6 : k_Files_Ty) (c7 : c_Size_9e58_Ty) (c8 : c_Size_Ty) (c9 : k_Caps_66e6_Ty) (c10 : k_Caps_Ty) (c11 : c_Vars_66e6_Ty) (c12 : c_Vars_Ty) (c13 : k_May_66e6_Ty) (c14 : k_May_Ty) {R : Type} (nx : TLI → Int → TLI → Int → Int → (TLE) → TLI → Int → Int → Int → TLL → TLL → TLB → Nat → Nat → Nat → Nat → Nat → TLL → TLB → Option R) (k0 : TLI → Int → (TLE) → TLI → Int → Int → Int → TLL → TLL → TLB → Nat → Nat → Nat → Nat → Nat → TLL → TLB → Option R) (x0 : List (Int)) (x1 : Int) (x2 : List (Int)) (x3 : Int) (x4 : Int) (x5 : TLE) (x6 : List (Int)) (x7 : Int) (x8 : Int) (x9 : Int) (x10 : List TLI) (x11 : List TLI) (x12 : List (Bool)) (x13 : Nat) (x14 : Nat) (x15 : Nat) (x16 : Nat) (x17 : Nat) (x18 : List TLI) (x19 : List (Bool)) : Option R :=
  br (decide (x4 < x3))
  (br (inB x4 (List.length x2))
   (br (((fits (0 : Nat) (List.length x19) x19) && (decide ((((List.length x19) + (1 : Nat)) * (1 : Nat)) ≤ (70368744177664 : Nat)))) && true)
    (nx x0 x1 x2 x3 (IntKind.wrap .i64 (x4 + (1 : Int))) x5 x6 x7 x8 x9 x10 x11 x12 x13 x14 x15 x16 x17 x18 ((sub x19 (0 : Nat) (List.length x19)) ++ ((decide ((List.getD x2 (Int.toNat x4) (0 : Int)) = (1 : Int))) :: ([] : List (Sh.bool.T)))))
    (none))
   (none))
  (k0 x0 x1 x5 x6 x7 x8 x9 x10 x11 x12 x13 x14 x15 x16 x17 x18 x19)
noncomputable def c_Input_l2 (N : Nat) {R : Type} (k0 : TLI → Int → (TLE) → TLI → Int → Int → Int → TLL → TLL → TLB → Nat → Nat → Nat → Nat → Nat → TLL → TLB → Option R) : Nat → TLI → Int → TLI → Int → Int → (TLE) → TLI → Int → Int → Int → TLL → TLL → TLB → Nat → Nat → Nat → Nat → Nat → TLL → TLB → Option R
  | 0, _, _, _, _, _, _, _, _, _, _, _, _, _, _, _, _, _, _, _, _ => none
  | n + 1, x0, x1, x2, x3, x4, x5, x6, x7, x8, x9, x10, x11, x12, x13, x14, x15, x16, x17, x18, x19 => c_Input_l2_T0 N (@sEq_c28d N) (@sEq_b8c4 N) (@c_Env_727c N) (@c_Env N) (@c_Env_5fa2 N) (@k_Files_66e6 N) (@k_Files N) (@c_Size_9e58 N) (@c_Size N) (@k_Caps_66e6 N) (@k_Caps N) (@c_Vars_66e6 N) (@c_Vars N) (@k_May_66e6 N) (@k_May N) (fun x0 x1 x2 x3 x4 x5 x6 x7 x8 x9 x10 x11 x12 x13 x14 x15 x16 x17 x18 x19 => c_Input_l2 N k0 n x0 x1 x2 x3 x4 x5 x6 x7 x8 x9 x10 x11 x12 x13 x14 x15 x16 x17 x18 x19) k0 x0 x1 x2 x3 x4 x5 x6 x7 x8 x9 x10 x11 x12 x13 x14 x15 x16 x17 x18 x19
noncomputable def c_Input_l1 (N : Nat) {R : Type} (k0 : TLI → Int → Int → Int → (TLE) → TLI → Int → Int → Int → TLL → TLL → TLB → TLL → TLL → TLB → TLL → TLI → TLI → Option R) : Nat → TLI → Int → Int → Int → Int → Int → Int → (TLE) → TLI → Int → Int → Int → TLL → TLL → TLB → TLL → TLL → TLB → TLL → TLI → TLI → Option R
  | 0, _, _, _, _, _, _, _, _, _, _, _, _, _, _, _, _, _, _, _, _, _ => none
  | n + 1, x0, x1, x2, x3, x4, x5, x6, x7, x8, x9, x10, x11, x12, x13, x14, x15, x16, x17, x18, x19, x20 => c_Input_l1_T0 N (@sEq_c28d N) (@sEq_b8c4 N) (@c_Env_727c N) (@c_Env N) (@c_Env_5fa2 N) (@k_Files_66e6 N) (@k_Files N) (@c_Size_9e58 N) (@c_Size N) (@k_Caps_66e6 N) (@k_Caps N) (@c_Vars_66e6 N) (@c_Vars N) (@k_May_66e6 N) (@k_May N) (@c_Input_l2 N) (fun x0 x1 x2 x3 x4 x5 x6 x7 x8 x9 x10 x11 x12 x13 x14 x15 x16 x17 x18 x19 x20 => c_Input_l1 N k0 n x0 x1 x2 x3 x4 x5 x6 x7 x8 x9 x10 x11 x12 x13 x14 x15 x16 x17 x18 x19 x20) k0 x0 x1 x2 x3 x4 x5 x6 x7 x8 x9 x10 x11 x12 x13 x14 x15 x16 x17 x18 x19 x20
noncomputable def c_Input_l0 (N : Nat) {R : Type} (k0 : TLI → Int → (TLE) → TLI → Int → Int → Int → TLL → TLL → TLB → TLL → TLL → TLB → TLL → Option R) : Nat → TLI → Int → Int → Int → (TLE) → TLI → Int → Int → Int → TLL → TLL → TLB → TLL → TLL → TLB → TLL → TLI → Option R
  | 0, _, _, _, _, _, _, _, _, _, _, _, _, _, _, _, _, _ => none
  | n + 1, x0, x1, x2, x3, x4, x5, x6, x7, x8, x9, x10, x11, x12, x13, x14, x15, x16 => c_Input_l0_T0 N (@sEq_c28d N) (@sEq_b8c4 N) (@c_Env_727c N) (@c_Env N) (@c_Env_5fa2 N) (@k_Files_66e6 N) (@k_Files N) (@c_Size_9e58 N) (@c_Size N) (@k_Caps_66e6 N) (@k_Caps N) (@c_Vars_66e6 N) (@c_Vars N) (@k_May_66e6 N) (@k_May N) (@c_Input_l1 N) (@c_Input_l2 N) (fun x0 x1 x2 x3 x4 x5 x6 x7 x8 x9 x10 x11 x12 x13 x14 x15 x16 => c_Input_l0 N k0 n x0 x1 x2 x3 x4 x5 x6 x7 x8 x9 x10 x11 x12 x13 x14 x15 x16) k0 x0 x1 x2 x3 x4 x5 x6 x7 x8 x9 x10 x11 x12 x13 x14 x15 x16
noncomputable def c_Input_T (N : Nat) (c0 : sEq_c28d_Ty) (c1 : sEq_b8c4_Ty) (c2 : c_Env_727c_Ty) (c3 : c_Env_Ty) (c4 : c_Env_5fa2_Ty) (c5 : k_Files_66e6_Ty) (c6 : k_Files_Ty) (c7 : c_Size_9e58_Ty) (c8 : c_Size_Ty) (c9 : k_Caps_66e6_Ty) (c10 : k_Caps_Ty) (c11 : c_Vars_66e6_Ty) (c12 : c_Vars_Ty) (c13 : k_May_66e6_Ty) (c14 : k_May_Ty) (w0 : c_Input_l0_Ty) (w1 : c_Input_l1_Ty) (w2 : c_Input_l2_Ty) {R : Type} (x0 : TLE) (x1 : List (Int)) (x2 : Int) (x3 : Int) (x4 : Int) (x5 : List (Int)) (k0 : Int → TLL → TLL → TLB → Option R) (k1 : Nat → Nat → Nat → Nat → Int → Nat → TLL → TLB → Option R) (k2 : Nat → Nat → Nat → Nat → Int → TLL → TLB → Option R) : Option R :=
  c14 x0 x1 x2 x3 x4
  (fun b588 => br (!b588)
   (k0 (11 : Int) ([] : List ((Sh.int IntKind.u8).isl.T)) ([] : List ((Sh.int IntKind.u8).isl.T)) ([] : List (Sh.bool.T)))
   (c12 x0 x1 x2 x3 x4
    (fun i589 => br (decide ((Nat.cast (List.length x5) : Int) < i589))
     (k0 (12 : Int) ([] : List ((Sh.int IntKind.u8).isl.T)) ([] : List ((Sh.int IntKind.u8).isl.T)) ([] : List (Sh.bool.T)))
     (c10 x0 x1 x2 x3 x4
      (fun l590 => w0
       (fun l610 i611 l612 l613 i614 i615 i616 l617 l618 l619 l620 l621 l622 l623 => c6 l612 l613 i614 i615 i616
        (fun l624 => br (leB (Nat.cast (List.length l624) : Int) (List.length l623))
         (br (leB (Nat.cast (List.length l624) : Int) (Int.toNat (Nat.cast (List.length l624) : Int)))
          (br (leB (Nat.cast (List.length l624) : Int) (List.length l623))
           (br (decide ((Nat.cast (List.length l624) : Int) = (Nat.cast (List.length l624) : Int)))
            (br (leB (Nat.cast (List.length l624) : Int) (List.length l623))
             (br ((decide ((Int.toNat (Nat.cast (List.length l624) : Int)) = (Int.toNat (Nat.cast (List.length l624) : Int)))) && (decide (((List.length l623) - (Int.toNat (Nat.cast (List.length l624) : Int))) = ((List.length l623) - (Int.toNat (Nat.cast (List.length l624) : Int))))))
              (br (leB i611 (List.length l610))
               (br (leB (IntKind.wrap .i64 (i611 - i614)) (Int.toNat i611))
                (w2
                 (fun l625 i626 l627 l628 i629 i630 i631 l632 l633 l634 n635 n636 n637 n638 n639 l640 l641 => c4 l627 l628 i629 i630 i631 n635 n636 n637 n638 n639 l640 l641
                  (fun i743 n744 l745 l746 l747 => br (!(!(decide (i743 = (0 : Int)))))
                   (br (leB i626 (List.length l625))
                    (c0 (sub l625 (0 : Nat) ((Int.toNat i626) - (0 : Nat))) l747
                     (fun b751 l752 => br (!b751)
                      (k0 (12 : Int) ([] : List ((Sh.int IntKind.u8).isl.T)) ([] : List ((Sh.int IntKind.u8).isl.T)) ([] : List (Sh.bool.T)))
                      (k1 n635 n636 n637 n638 (0 : Int) n744 l745 l746)))
                    (none))
                   (k0 (12 : Int) ([] : List ((Sh.int IntKind.u8).isl.T)) ([] : List ((Sh.int IntKind.u8).isl.T)) ([] : List (Sh.bool.T))))
                  (fun i753 l754 l755 l756 => br (!(!(decide (i753 = (0 : Int)))))
                   (br (leB i626 (List.length l625))
                    (c0 (sub l625 (0 : Nat) ((Int.toNat i626) - (0 : Nat))) l756
                     (fun b757 l758 => br (!b757)
                      (k0 (12 : Int) ([] : List ((Sh.int IntKind.u8).isl.T)) ([] : List ((Sh.int IntKind.u8).isl.T)) ([] : List (Sh.bool.T)))
                      (k2 n635 n636 n637 n638 (0 : Int) l754 l755)))
                    (none))
                   (k0 (12 : Int) ([] : List ((Sh.int IntKind.u8).isl.T)) ([] : List ((Sh.int IntKind.u8).isl.T)) ([] : List (Sh.bool.T)))))
                 N l610 i611 (sub l610 (Int.toNat (IntKind.wrap .i64 (i611 - i614))) ((Int.toNat i611) - (Int.toNat (IntKind.wrap .i64 (i611 - i614))))) (Nat.cast (List.length (sub l610 (Int.toNat (IntKind.wrap .i64 (i611 - i614))) ((Int.toNat i611) - (Int.toNat (IntKind.wrap .i64 (i611 - i614)))))) : Int) (0 : Int) l612 l613 i614 i615 i616 l617 l618 l619 ((Int.toNat (Nat.cast (List.length l624) : Int)) - (0 : Nat)) ((Int.toNat (Nat.cast (List.length l624) : Int)) - (0 : Nat)) (Int.toNat (Nat.cast (List.length l624) : Int)) ((List.length l623) - (Int.toNat (Nat.cast (List.length l624) : Int))) (List.length l623) l623 l622)
                (none))
               (none))
              (none))
             (none))
            (none))
           (none))
          (none))
         (none)))
       N x5 i589 (Nat.cast (List.length l590) : Int) (0 : Int) x0 x1 x2 x3 x4 ([] : List ((Sh.int IntKind.u8).isl.T)) ([] : List ((Sh.int IntKind.u8).isl.T)) ([] : List (Sh.bool.T)) ([] : List ((Sh.int IntKind.u8).isl.T)) ([] : List ((Sh.int IntKind.u8).isl.T)) ([] : List (Sh.bool.T)) ([] : List ((Sh.int IntKind.u8).isl.T)) l590)))))
noncomputable def c_Input (N : Nat) {R : Type} (x0 : TLE) (x1 : List (Int)) (x2 : Int) (x3 : Int) (x4 : Int) (x5 : List (Int)) (k0 : Int → TLL → TLL → TLB → Option R) (k1 : Nat → Nat → Nat → Nat → Int → Nat → TLL → TLB → Option R) (k2 : Nat → Nat → Nat → Nat → Int → TLL → TLB → Option R) : Option R := c_Input_T N (@sEq_c28d N) (@sEq_b8c4 N) (@c_Env_727c N) (@c_Env N) (@c_Env_5fa2 N) (@k_Files_66e6 N) (@k_Files N) (@c_Size_9e58 N) (@c_Size N) (@k_Caps_66e6 N) (@k_Caps N) (@c_Vars_66e6 N) (@c_Vars N) (@k_May_66e6 N) (@k_May N) (@c_Input_l0 N) (@c_Input_l1 N) (@c_Input_l2 N) x0 x1 x2 x3 x4 x5 k0 k1 k2
abbrev c_Input_ed18_l0_Ty : Type 1 := {R : Type} → (Int → TLI → (TLE) → TLI → Int → Int → Int → TLL → TLL → TLB → TLL → TLL → TLB → TLL → Option R) → Nat → Int → Int → Int → TLI → (TLE) → TLI → Int → Int → Int → TLL → TLL → TLB → TLL → TLL → TLB → TLL → TLI → Option R
abbrev c_Input_ed18_l1_Ty : Type 1 := {R : Type} → (Int → Int → Int → TLI → (TLE) → TLI → Int → Int → Int → TLL → TLL → TLB → TLL → TLL → TLB → TLL → TLI → TLI → Option R) → Nat → Int → Int → Int → Int → Int → Int → TLI → (TLE) → TLI → Int → Int → Int → TLL → TLL → TLB → TLL → TLL → TLB → TLL → TLI → TLI → Option R
abbrev c_Input_ed18_l2_Ty : Type 1 := {R : Type} → (Int → TLI → (TLE) → TLI → Int → Int → Int → TLL → TLL → TLB → Nat → Nat → Nat → Nat → Nat → TLL → TLB → Option R) → Nat → Int → Nat → Nat → Nat → Int → Int → TLI → (TLE) → TLI → Int → Int → Int → TLL → TLL → TLB → Nat → Nat → Nat → Nat → Nat → TLL → TLB → Option R
abbrev c_Input_ed18_Ty : Type 1 := {R : Type} → (TLE) → TLI → Int → Int → Int → TLI → (Int → TLI → TLL → TLL → TLB → Option R) → (Nat → Nat → Nat → Nat → Int → TLI → Nat → TLL → TLB → Option R) → (Nat → Nat → Nat → Nat → Int → TLI → TLL → TLB → Option R) → Option R
noncomputable def c_Input_ed18_l0_T0 (N : Nat) (c0 : sEq_c28d_Ty) (c1 : sEq_b8c4_Ty) (c2 : c_Env_727c_Ty) (c3 : c_Env_Ty) (c4 : c_Env_5fa2_Ty) (c5 : k_Files_66e6_Ty) (c6 : k_Files_Ty) (c7 : c_Size_9e58_Ty) (c8 : c_Size_Ty) (c9 : k_Caps_66e6_Ty) (c10 : k_Caps_Ty) (c11 : c_Vars_66e6_Ty) (c12 : c_Vars_Ty) (c13 : k_May_66e6_Ty) (c14 : k_May_Ty) (w1 : c_Input_ed18_l1_Ty) (w2 : c_Input_ed18_l2_Ty) {R : Type} (nx : Int → Int → Int → TLI → (TLE) → TLI → Int → Int → Int → TLL → TLL → TLB → TLL → TLL → TLB → TLL → TLI → Option R) (k0 : Int → TLI → (TLE) → TLI → Int → Int → Int → TLL → TLL → TLB → TLL → TLL → TLB → TLL → Option R) (x0 : Int) (x1 : Int) (x2 : Int) (x3 : List (Int)) (x4 : TLE) (x5 : List (Int)) (x6 : Int) (x7 : Int) (x8 : Int) (x9 : List TLI) (x10 : List TLI) (x11 : List (Bool)) (x12 : List TLI) (x13 : List TLI) (x14 : List (Bool)) (x15 : List TLI) (x16 : List (Int)) : Option R :=
  br (decide (x2 < x1))
  (br (inB x2 (List.length x16))
   (br (decide ((Int.toNat x2) < (List.length x16)))
    (c8 x4 x5 x6 x7 x8 x2
     (fun i1123 => br (inB i1123 (List.length x3))
      (br (decide ((Int.toNat i1123) < (List.length x3)))
       (w1
        (fun i1124 i1125 i1126 l1127 l1128 l1129 i1130 i1131 i1132 l1133 l1134 l1135 l1136 l1137 l1138 l1139 l1140 l1141 => br (fits (0 : Nat) (List.length l1140) l1140)
         (br (fits (0 : Nat) (List.length l1140) l1140)
          (br (((fits (0 : Nat) (List.length l1139) l1139) && (decide ((((List.length l1139) + (1 : Nat)) * (24 : Nat)) ≤ (70368744177664 : Nat)))) && true)
           (nx i1124 i1125 (IntKind.wrap .i64 (i1126 + (1 : Int))) l1127 l1128 l1129 i1130 i1131 i1132 l1133 l1134 l1135 l1136 l1137 l1138 ((sub l1139 (0 : Nat) (List.length l1139)) ++ ((sub l1140 (0 : Nat) (List.length l1140)) :: ([] : List ((Sh.int IntKind.u8).isl.T)))) l1141)
           (none))
          (none))
         (none))
        N x0 i1123 x1 x2 (if ((List.getD x16 (Int.toNat x2) (0 : Int)) < (IntKind.wrap .i64 (List.getD x3 (Int.toNat i1123) (0 : Int)))) then (List.getD x16 (Int.toNat x2) (0 : Int)) else (IntKind.wrap .i64 (List.getD x3 (Int.toNat i1123) (0 : Int)))) (0 : Int) x3 x4 x5 x6 x7 x8 x9 x10 x11 x12 x13 x14 x15 ([] : List ((Sh.int IntKind.u8).T)) x16)
       (none))
      (none)))
    (none))
   (none))
  (k0 x0 x3 x4 x5 x6 x7 x8 x9 x10 x11 x12 x13 x14 x15)
noncomputable def c_Input_ed18_l1_T0 (N : Nat) (c0 : sEq_c28d_Ty) (c1 : sEq_b8c4_Ty) (c2 : c_Env_727c_Ty) (c3 : c_Env_Ty) (c4 : c_Env_5fa2_Ty) (c5 : k_Files_66e6_Ty) (c6 : k_Files_Ty) (c7 : c_Size_9e58_Ty) (c8 : c_Size_Ty) (c9 : k_Caps_66e6_Ty) (c10 : k_Caps_Ty) (c11 : c_Vars_66e6_Ty) (c12 : c_Vars_Ty) (c13 : k_May_66e6_Ty) (c14 : k_May_Ty) (w2 : c_Input_ed18_l2_Ty) {R : Type} (nx : Int → Int → Int → Int → Int → Int → TLI → (TLE) → TLI → Int → Int → Int → TLL → TLL → TLB → TLL → TLL → TLB → TLL → TLI → TLI → Option R) (k0 : Int → Int → Int → TLI → (TLE) → TLI → Int → Int → Int → TLL → TLL → TLB → TLL → TLL → TLB → TLL → TLI → TLI → Option R) (x0 : Int) (x1 : Int) (x2 : Int) (x3 : Int) (x4 : Int) (x5 : Int) (x6 : List (Int)) (x7 : TLE) (x8 : List (Int)) (x9 : Int) (x10 : Int) (x11 : Int) (x12 : List TLI) (x13 : List TLI) (x14 : List (Bool)) (x15 : List TLI) (x16 : List TLI) (x17 : List (Bool)) (x18 : List TLI) (x19 : List (Int)) (x20 : List (Int)) : Option R :=
  br (decide (x5 < x4))
  (br (inB (IntKind.wrap .i64 ((IntKind.wrap .i64 (x1 + (1 : Int))) + x5)) (List.length x6))
   (br (decide ((Int.toNat (IntKind.wrap .i64 ((IntKind.wrap .i64 (x1 + (1 : Int))) + x5))) < (List.length x6)))
    (br (((fits (0 : Nat) (List.length x19) x19) && (decide ((((List.length x19) + (1 : Nat)) * (1 : Nat)) ≤ (70368744177664 : Nat)))) && true)
     (nx x0 x1 x2 x3 x4 (IntKind.wrap .i64 (x5 + (1 : Int))) x6 x7 x8 x9 x10 x11 x12 x13 x14 x15 x16 x17 x18 ((sub x19 (0 : Nat) (List.length x19)) ++ ((IntKind.wrap .u8 (List.getD x6 (Int.toNat (IntKind.wrap .i64 ((IntKind.wrap .i64 (x1 + (1 : Int))) + x5))) (0 : Int))) :: ([] : List ((Sh.int IntKind.u8).T)))) x20)
     (none))
    (none))
   (none))
  (k0 x0 x2 x3 x6 x7 x8 x9 x10 x11 x12 x13 x14 x15 x16 x17 x18 x19 x20)
noncomputable def c_Input_ed18_l2_T0 (N : Nat) (c0 : sEq_c28d_Ty) (c1 : sEq_b8c4_Ty) (c2 : c_Env_727c_Ty) (c3 : c_Env_Ty) (c4 : c_Env_5fa2_Ty) (c5 : k_Files_66e6_Ty) (c6 : k_Files_Ty) (c7 : c_Size_9e58_Ty) (c8 : c_Size_Ty) (c9 : k_Caps_66e6_Ty) (c10 : k_Caps_Ty) (c11 : c_Vars_66e6_Ty) (c12 : c_Vars_Ty) (c13 : k_May_66e6_Ty) (c14 : k_May_Ty) {R : Type} (nx : Int → Nat → Nat → Nat → Int → Int → TLI → (TLE) → TLI → Int → Int → Int → TLL → TLL → TLB → Nat → Nat → Nat → Nat → Nat → TLL → TLB → Option R) (k0 : Int → TLI → (TLE) → TLI → Int → Int → Int → TLL → TLL → TLB → Nat → Nat → Nat → Nat → Nat → TLL → TLB → Option R) (x0 : Int) (x1 : Nat) (x2 : Nat) (x3 : Nat) (x4 : Int) (x5 : Int) (x6 : List (Int)) (x7 : TLE) (x8 : List (Int)) (x9 : Int) (x10 : Int) (x11 : Int) (x12 : List TLI) (x13 : List TLI) (x14 : List (Bool)) (x15 : Nat) (x16 : Nat) (x17 : Nat) (x18 : Nat) (x19 : Nat) (x20 : List TLI) (x21 : List (Bool)) : Option R :=
  br (decide (x5 < x4))
  (br (inB x5 x2)
   (br (decide ((Int.toNat (addLo x1 x5)) < (List.length x6)))
    (br (((fits (0 : Nat) (List.length x21) x21) && (decide ((((List.length x21) + (1 : Nat)) * (1 : Nat)) ≤ (70368744177664 : Nat)))) && true)
     (nx x0 x1 x2 x3 x4 (IntKind.wrap .i64 (x5 + (1 : Int))) x6 x7 x8 x9 x10 x11 x12 x13 x14 x15 x16 x17 x18 x19 x20 ((sub x21 (0 : Nat) (List.length x21)) ++ ((decide ((List.getD x6 (Int.toNat (addLo x1 x5)) (0 : Int)) = (1 : Int))) :: ([] : List (Sh.bool.T)))))
     (none))
    (none))
   (none))
  (k0 x0 x6 x7 x8 x9 x10 x11 x12 x13 x14 x15 x16 x17 x18 x19 x20 x21)
noncomputable def c_Input_ed18_l2 (N : Nat) {R : Type} (k0 : Int → TLI → (TLE) → TLI → Int → Int → Int → TLL → TLL → TLB → Nat → Nat → Nat → Nat → Nat → TLL → TLB → Option R) : Nat → Int → Nat → Nat → Nat → Int → Int → TLI → (TLE) → TLI → Int → Int → Int → TLL → TLL → TLB → Nat → Nat → Nat → Nat → Nat → TLL → TLB → Option R
  | 0, _, _, _, _, _, _, _, _, _, _, _, _, _, _, _, _, _, _, _, _, _, _ => none
  | n + 1, x0, x1, x2, x3, x4, x5, x6, x7, x8, x9, x10, x11, x12, x13, x14, x15, x16, x17, x18, x19, x20, x21 => c_Input_ed18_l2_T0 N (@sEq_c28d N) (@sEq_b8c4 N) (@c_Env_727c N) (@c_Env N) (@c_Env_5fa2 N) (@k_Files_66e6 N) (@k_Files N) (@c_Size_9e58 N) (@c_Size N) (@k_Caps_66e6 N) (@k_Caps N) (@c_Vars_66e6 N) (@c_Vars N) (@k_May_66e6 N) (@k_May N) (fun x0 x1 x2 x3 x4 x5 x6 x7 x8 x9 x10 x11 x12 x13 x14 x15 x16 x17 x18 x19 x20 x21 => c_Input_ed18_l2 N k0 n x0 x1 x2 x3 x4 x5 x6 x7 x8 x9 x10 x11 x12 x13 x14 x15 x16 x17 x18 x19 x20 x21) k0 x0 x1 x2 x3 x4 x5 x6 x7 x8 x9 x10 x11 x12 x13 x14 x15 x16 x17 x18 x19 x20 x21
noncomputable def c_Input_ed18_l1 (N : Nat) {R : Type} (k0 : Int → Int → Int → TLI → (TLE) → TLI → Int → Int → Int → TLL → TLL → TLB → TLL → TLL → TLB → TLL → TLI → TLI → Option R) : Nat → Int → Int → Int → Int → Int → Int → TLI → (TLE) → TLI → Int → Int → Int → TLL → TLL → TLB → TLL → TLL → TLB → TLL → TLI → TLI → Option R
  | 0, _, _, _, _, _, _, _, _, _, _, _, _, _, _, _, _, _, _, _, _, _ => none
  | n + 1, x0, x1, x2, x3, x4, x5, x6, x7, x8, x9, x10, x11, x12, x13, x14, x15, x16, x17, x18, x19, x20 => c_Input_ed18_l1_T0 N (@sEq_c28d N) (@sEq_b8c4 N) (@c_Env_727c N) (@c_Env N) (@c_Env_5fa2 N) (@k_Files_66e6 N) (@k_Files N) (@c_Size_9e58 N) (@c_Size N) (@k_Caps_66e6 N) (@k_Caps N) (@c_Vars_66e6 N) (@c_Vars N) (@k_May_66e6 N) (@k_May N) (@c_Input_ed18_l2 N) (fun x0 x1 x2 x3 x4 x5 x6 x7 x8 x9 x10 x11 x12 x13 x14 x15 x16 x17 x18 x19 x20 => c_Input_ed18_l1 N k0 n x0 x1 x2 x3 x4 x5 x6 x7 x8 x9 x10 x11 x12 x13 x14 x15 x16 x17 x18 x19 x20) k0 x0 x1 x2 x3 x4 x5 x6 x7 x8 x9 x10 x11 x12 x13 x14 x15 x16 x17 x18 x19 x20
noncomputable def c_Input_ed18_l0 (N : Nat) {R : Type} (k0 : Int → TLI → (TLE) → TLI → Int → Int → Int → TLL → TLL → TLB → TLL → TLL → TLB → TLL → Option R) : Nat → Int → Int → Int → TLI → (TLE) → TLI → Int → Int → Int → TLL → TLL → TLB → TLL → TLL → TLB → TLL → TLI → Option R
  | 0, _, _, _, _, _, _, _, _, _, _, _, _, _, _, _, _, _ => none
  | n + 1, x0, x1, x2, x3, x4, x5, x6, x7, x8, x9, x10, x11, x12, x13, x14, x15, x16 => c_Input_ed18_l0_T0 N (@sEq_c28d N) (@sEq_b8c4 N) (@c_Env_727c N) (@c_Env N) (@c_Env_5fa2 N) (@k_Files_66e6 N) (@k_Files N) (@c_Size_9e58 N) (@c_Size N) (@k_Caps_66e6 N) (@k_Caps N) (@c_Vars_66e6 N) (@c_Vars N) (@k_May_66e6 N) (@k_May N) (@c_Input_ed18_l1 N) (@c_Input_ed18_l2 N) (fun x0 x1 x2 x3 x4 x5 x6 x7 x8 x9 x10 x11 x12 x13 x14 x15 x16 => c_Input_ed18_l0 N k0 n x0 x1 x2 x3 x4 x5 x6 x7 x8 x9 x10 x11 x12 x13 x14 x15 x16) k0 x0 x1 x2 x3 x4 x5 x6 x7 x8 x9 x10 x11 x12 x13 x14 x15 x16
noncomputable def c_Input_ed18_T (N : Nat) (c0 : sEq_c28d_Ty) (c1 : sEq_b8c4_Ty) (c2 : c_Env_727c_Ty) (c3 : c_Env_Ty) (c4 : c_Env_5fa2_Ty) (c5 : k_Files_66e6_Ty) (c6 : k_Files_Ty) (c7 : c_Size_9e58_Ty) (c8 : c_Size_Ty) (c9 : k_Caps_66e6_Ty) (c10 : k_Caps_Ty) (c11 : c_Vars_66e6_Ty) (c12 : c_Vars_Ty) (c13 : k_May_66e6_Ty) (c14 : k_May_Ty) (w0 : c_Input_ed18_l0_Ty) (w1 : c_Input_ed18_l1_Ty) (w2 : c_Input_ed18_l2_Ty) {R : Type} (x0 : TLE) (x1 : List (Int)) (x2 : Int) (x3 : Int) (x4 : Int) (x5 : List (Int)) (k0 : Int → TLI → TLL → TLL → TLB → Option R) (k1 : Nat → Nat → Nat → Nat → Int → TLI → Nat → TLL → TLB → Option R) (k2 : Nat → Nat → Nat → Nat → Int → TLI → TLL → TLB → Option R) : Option R :=
  c14 x0 x1 x2 x3 x4
  (fun b1120 => br (!b1120)
   (k0 (11 : Int) x5 ([] : List ((Sh.int IntKind.u8).isl.T)) ([] : List ((Sh.int IntKind.u8).isl.T)) ([] : List (Sh.bool.T)))
   (c12 x0 x1 x2 x3 x4
    (fun i1121 => br (decide ((Nat.cast (List.length x5) : Int) < i1121))
     (k0 (12 : Int) x5 ([] : List ((Sh.int IntKind.u8).isl.T)) ([] : List ((Sh.int IntKind.u8).isl.T)) ([] : List (Sh.bool.T)))
     (c10 x0 x1 x2 x3 x4
      (fun l1122 => w0
       (fun i1142 l1143 l1144 l1145 i1146 i1147 i1148 l1149 l1150 l1151 l1152 l1153 l1154 l1155 => c6 l1144 l1145 i1146 i1147 i1148
        (fun l1156 => br (leB (Nat.cast (List.length l1156) : Int) (List.length l1155))
         (br (leB (Nat.cast (List.length l1156) : Int) (Int.toNat (Nat.cast (List.length l1156) : Int)))
          (br (leB (Nat.cast (List.length l1156) : Int) (List.length l1155))
           (br (decide ((Nat.cast (List.length l1156) : Int) = (Nat.cast (List.length l1156) : Int)))
            (br (leB (Nat.cast (List.length l1156) : Int) (List.length l1155))
             (br ((decide ((Int.toNat (Nat.cast (List.length l1156) : Int)) = (Int.toNat (Nat.cast (List.length l1156) : Int)))) && (decide (((List.length l1155) - (Int.toNat (Nat.cast (List.length l1156) : Int))) = ((List.length l1155) - (Int.toNat (Nat.cast (List.length l1156) : Int))))))
              (br (leB i1142 (List.length l1143))
               (br (leB (IntKind.wrap .i64 (i1142 - i1146)) (Int.toNat i1142))
                (w2
                 (fun i1157 l1158 l1159 l1160 i1161 i1162 i1163 l1164 l1165 l1166 n1167 n1168 n1169 n1170 n1171 l1172 l1173 => c4 l1159 l1160 i1161 i1162 i1163 n1167 n1168 n1169 n1170 n1171 l1172 l1173
                  (fun i1174 n1175 l1176 l1177 l1178 => br (!(!(decide (i1174 = (0 : Int)))))
                   (br (leB i1157 (List.length l1158))
                    (c1 ((Int.toNat i1157) - (0 : Nat)) ((List.length l1158) - (0 : Nat)) l1178 (List.length l1158) l1158
                     (fun b1186 l1187 n1188 l1189 => br (!b1186)
                      (k0 (12 : Int) l1189 ([] : List ((Sh.int IntKind.u8).isl.T)) ([] : List ((Sh.int IntKind.u8).isl.T)) ([] : List (Sh.bool.T)))
                      (k1 n1167 n1168 n1169 n1170 (0 : Int) l1189 n1175 l1176 l1177)))
                    (none))
                   (k0 (12 : Int) l1158 ([] : List ((Sh.int IntKind.u8).isl.T)) ([] : List ((Sh.int IntKind.u8).isl.T)) ([] : List (Sh.bool.T))))
                  (fun i1190 l1191 l1192 l1193 => br (!(!(decide (i1190 = (0 : Int)))))
                   (br (leB i1157 (List.length l1158))
                    (c1 ((Int.toNat i1157) - (0 : Nat)) ((List.length l1158) - (0 : Nat)) l1193 (List.length l1158) l1158
                     (fun b1194 l1195 n1196 l1197 => br (!b1194)
                      (k0 (12 : Int) l1197 ([] : List ((Sh.int IntKind.u8).isl.T)) ([] : List ((Sh.int IntKind.u8).isl.T)) ([] : List (Sh.bool.T)))
                      (k2 n1167 n1168 n1169 n1170 (0 : Int) l1197 l1191 l1192)))
                    (none))
                   (k0 (12 : Int) l1158 ([] : List ((Sh.int IntKind.u8).isl.T)) ([] : List ((Sh.int IntKind.u8).isl.T)) ([] : List (Sh.bool.T)))))
                 N i1142 (Int.toNat (IntKind.wrap .i64 (i1142 - i1146))) ((Int.toNat i1142) - (Int.toNat (IntKind.wrap .i64 (i1142 - i1146)))) ((List.length l1143) - (Int.toNat (IntKind.wrap .i64 (i1142 - i1146)))) (Nat.cast ((Int.toNat i1142) - (Int.toNat (IntKind.wrap .i64 (i1142 - i1146)))) : Int) (0 : Int) l1143 l1144 l1145 i1146 i1147 i1148 l1149 l1150 l1151 ((Int.toNat (Nat.cast (List.length l1156) : Int)) - (0 : Nat)) ((Int.toNat (Nat.cast (List.length l1156) : Int)) - (0 : Nat)) (Int.toNat (Nat.cast (List.length l1156) : Int)) ((List.length l1155) - (Int.toNat (Nat.cast (List.length l1156) : Int))) (List.length l1155) l1155 l1154)
                (none))
               (none))
              (none))
             (none))
            (none))
           (none))
          (none))
         (none)))
       N i1121 (Nat.cast (List.length l1122) : Int) (0 : Int) x5 x0 x1 x2 x3 x4 ([] : List ((Sh.int IntKind.u8).isl.T)) ([] : List ((Sh.int IntKind.u8).isl.T)) ([] : List (Sh.bool.T)) ([] : List ((Sh.int IntKind.u8).isl.T)) ([] : List ((Sh.int IntKind.u8).isl.T)) ([] : List (Sh.bool.T)) ([] : List ((Sh.int IntKind.u8).isl.T)) l1122)))))
noncomputable def c_Input_ed18 (N : Nat) {R : Type} (x0 : TLE) (x1 : List (Int)) (x2 : Int) (x3 : Int) (x4 : Int) (x5 : List (Int)) (k0 : Int → TLI → TLL → TLL → TLB → Option R) (k1 : Nat → Nat → Nat → Nat → Int → TLI → Nat → TLL → TLB → Option R) (k2 : Nat → Nat → Nat → Nat → Int → TLI → TLL → TLB → Option R) : Option R := c_Input_ed18_T N (@sEq_c28d N) (@sEq_b8c4 N) (@c_Env_727c N) (@c_Env N) (@c_Env_5fa2 N) (@k_Files_66e6 N) (@k_Files N) (@c_Size_9e58 N) (@c_Size N) (@k_Caps_66e6 N) (@k_Caps N) (@c_Vars_66e6 N) (@c_Vars N) (@k_May_66e6 N) (@k_May N) (@c_Input_ed18_l0 N) (@c_Input_ed18_l1 N) (@c_Input_ed18_l2 N) x0 x1 x2 x3 x4 x5 k0 k1 k2
abbrev r_Has_l0_Ty : Type 1 := {R : Type} → ((Bool) → (TLE) → TLI → Int → Int → Int → TLL → TLL → TLB → Option R) → ((TLE) → TLI → Int → Int → Int → TLL → TLL → TLB → Option R) → Nat → Int → (TLE) → TLI → Int → Int → Int → TLL → TLL → TLB → TLI → Option R
abbrev r_Has_l1_Ty : Type 1 := {R : Type} → ((Bool) → (TLE) → TLI → Int → Int → Int → TLL → TLL → TLB → Option R) → ((TLE) → TLI → Int → Int → Int → TLL → TLL → TLB → Option R) → Nat → Int → (TLE) → TLI → Int → Int → Int → TLL → TLL → TLB → Option R
abbrev r_Has_l2_Ty : Type 1 := {R : Type} → (Int → (TLE) → TLI → Int → Int → Int → Option R) → Nat → Int → Int → (TLE) → TLI → Int → Int → Int → TLL → TLL → TLB → Option R
abbrev r_Has_Ty : Type 1 := {R : Type} → (TLE) → TLI → Int → Int → Int → TLL → TLL → TLB → ((Bool) → Option R) → Option R
noncomputable def r_Has_l0_T0 (N : Nat) (c0 : r_Caps_Ty) (c1 : r_files_Ty) (c2 : r_May_Ty) (w1 : r_Has_l1_Ty) (w2 : r_Has_l2_Ty) {R : Type} (nx : Int → (TLE) → TLI → Int → Int → Int → TLL → TLL → TLB → TLI → Option R) (k0 : (Bool) → (TLE) → TLI → Int → Int → Int → TLL → TLL → TLB → Option R) (k1 : (TLE) → TLI → Int → Int → Int → TLL → TLL → TLB → Option R) (x0 : Int) (x1 : TLE) (x2 : List (Int)) (x3 : Int) (x4 : Int) (x5 : Int) (x6 : List TLI) (x7 : List TLI) (x8 : List (Bool)) (x9 : List (Int)) : Option R :=
  br (decide (x0 < (Nat.cast (List.length x6) : Int)))
  (br (inB x0 (List.length x6))
   (br (inB x0 (List.length x9))
    (br (decide ((Int.toNat x0) < (List.length x9)))
     (br (decide ((List.getD x9 (Int.toNat x0) (0 : Int)) < (Nat.cast (List.length (List.getD x6 (Int.toNat x0) (Sh.zero (.isl (.int .u8))))) : Int)))
      (k0 false x1 x2 x3 x4 x5 x6 x7 x8)
      (nx (IntKind.wrap .i64 (x0 + (1 : Int))) x1 x2 x3 x4 x5 x6 x7 x8 x9))
     (none))
    (none))
   (none))
  (k1 x1 x2 x3 x4 x5 x6 x7 x8)
noncomputable def r_Has_l1_T0 (N : Nat) (c0 : r_Caps_Ty) (c1 : r_files_Ty) (c2 : r_May_Ty) (w2 : r_Has_l2_Ty) {R : Type} (nx : Int → (TLE) → TLI → Int → Int → Int → TLL → TLL → TLB → Option R) (k0 : (Bool) → (TLE) → TLI → Int → Int → Int → TLL → TLL → TLB → Option R) (k1 : (TLE) → TLI → Int → Int → Int → TLL → TLL → TLB → Option R) (x0 : Int) (x1 : TLE) (x2 : List (Int)) (x3 : Int) (x4 : Int) (x5 : Int) (x6 : List TLI) (x7 : List TLI) (x8 : List (Bool)) : Option R :=
  br (decide (x0 < (Nat.cast (List.length x7) : Int)))
  (br (inB x0 (List.length x7))
   (br (inB x0 (List.length x2))
    (br (decide ((List.getD x2 (Int.toNat x0) (0 : Int)) < (Nat.cast (List.length (List.getD x7 (Int.toNat x0) (Sh.zero (.isl (.int .u8))))) : Int)))
     (k0 false x1 x2 x3 x4 x5 x6 x7 x8)
     (nx (IntKind.wrap .i64 (x0 + (1 : Int))) x1 x2 x3 x4 x5 x6 x7 x8))
    (none))
   (none))
  (k1 x1 x2 x3 x4 x5 x6 x7 x8)
noncomputable def r_Has_l2_T0 (N : Nat) (c0 : r_Caps_Ty) (c1 : r_files_Ty) (c2 : r_May_Ty) {R : Type} (nx : Int → Int → (TLE) → TLI → Int → Int → Int → TLL → TLL → TLB → Option R) (k0 : Int → (TLE) → TLI → Int → Int → Int → Option R) (x0 : Int) (x1 : Int) (x2 : TLE) (x3 : List (Int)) (x4 : Int) (x5 : Int) (x6 : Int) (x7 : List TLI) (x8 : List TLI) (x9 : List (Bool)) : Option R :=
  br (decide (x1 < (Nat.cast (List.length x9) : Int)))
  (br (inB x1 (List.length x9))
   (br (List.getD x9 (Int.toNat x1) false)
    (nx (IntKind.wrap .i64 (x0 + (1 : Int))) (IntKind.wrap .i64 (x1 + (1 : Int))) x2 x3 x4 x5 x6 x7 x8 x9)
    (nx x0 (IntKind.wrap .i64 (x1 + (1 : Int))) x2 x3 x4 x5 x6 x7 x8 x9))
   (none))
  (k0 x0 x2 x3 x4 x5 x6)
noncomputable def r_Has_l2 (N : Nat) {R : Type} (k0 : Int → (TLE) → TLI → Int → Int → Int → Option R) : Nat → Int → Int → (TLE) → TLI → Int → Int → Int → TLL → TLL → TLB → Option R
  | 0, _, _, _, _, _, _, _, _, _, _ => none
  | n + 1, x0, x1, x2, x3, x4, x5, x6, x7, x8, x9 => r_Has_l2_T0 N (@r_Caps N) (@r_files N) (@r_May N) (fun x0 x1 x2 x3 x4 x5 x6 x7 x8 x9 => r_Has_l2 N k0 n x0 x1 x2 x3 x4 x5 x6 x7 x8 x9) k0 x0 x1 x2 x3 x4 x5 x6 x7 x8 x9
noncomputable def r_Has_l1 (N : Nat) {R : Type} (k0 : (Bool) → (TLE) → TLI → Int → Int → Int → TLL → TLL → TLB → Option R) (k1 : (TLE) → TLI → Int → Int → Int → TLL → TLL → TLB → Option R) : Nat → Int → (TLE) → TLI → Int → Int → Int → TLL → TLL → TLB → Option R
  | 0, _, _, _, _, _, _, _, _, _ => none
  | n + 1, x0, x1, x2, x3, x4, x5, x6, x7, x8 => r_Has_l1_T0 N (@r_Caps N) (@r_files N) (@r_May N) (@r_Has_l2 N) (fun x0 x1 x2 x3 x4 x5 x6 x7 x8 => r_Has_l1 N k0 k1 n x0 x1 x2 x3 x4 x5 x6 x7 x8) k0 k1 x0 x1 x2 x3 x4 x5 x6 x7 x8
noncomputable def r_Has_l0 (N : Nat) {R : Type} (k0 : (Bool) → (TLE) → TLI → Int → Int → Int → TLL → TLL → TLB → Option R) (k1 : (TLE) → TLI → Int → Int → Int → TLL → TLL → TLB → Option R) : Nat → Int → (TLE) → TLI → Int → Int → Int → TLL → TLL → TLB → TLI → Option R
  | 0, _, _, _, _, _, _, _, _, _, _ => none
  | n + 1, x0, x1, x2, x3, x4, x5, x6, x7, x8, x9 => r_Has_l0_T0 N (@r_Caps N) (@r_files N) (@r_May N) (@r_Has_l1 N) (@r_Has_l2 N) (fun x0 x1 x2 x3 x4 x5 x6 x7 x8 x9 => r_Has_l0 N k0 k1 n x0 x1 x2 x3 x4 x5 x6 x7 x8 x9) k0 k1 x0 x1 x2 x3 x4 x5 x6 x7 x8 x9
noncomputable def r_Has_T (N : Nat) (c0 : r_Caps_Ty) (c1 : r_files_Ty) (c2 : r_May_Ty) (w0 : r_Has_l0_Ty) (w1 : r_Has_l1_Ty) (w2 : r_Has_l2_Ty) {R : Type} (x0 : TLE) (x1 : List (Int)) (x2 : Int) (x3 : Int) (x4 : Int) (x5 : List TLI) (x6 : List TLI) (x7 : List (Bool)) (k0 : (Bool) → Option R) : Option R :=
  c2 x0 x1 x2 x3 x4
  (fun b781 => br (!(!b781))
   (c1 x0 x1 x2 x3 x4
    (fun i782 => br (listDec (Sh.dec (.isl (.int .u8))) x5 x5)
     (br (decide ((Nat.cast (List.length x5) : Int) = (Nat.cast (List.length x5) : Int)))
      (br (!(!(decide ((Nat.cast (List.length x5) : Int) = i782))))
       (br (!(!(decide ((Nat.cast (List.length x6) : Int) = (Nat.cast (List.length x1) : Int)))))
        (br (!(decide ((Nat.cast (List.length x7) : Int) = x2)))
         (k0 false)
         (c0 x0 x1 x2 x3 x4
          (fun l783 => w0
           (fun b784 l785 l786 i787 i788 i789 l790 l791 l792 => k0 b784)
           (fun l793 l794 i795 i796 i797 l798 l799 l800 => w1
            (fun b801 l802 l803 i804 i805 i806 l807 l808 l809 => k0 b801)
            (fun l810 l811 i812 i813 i814 l815 l816 l817 => w2
             (fun i818 l819 l820 i821 i822 i823 => k0 (decide (i818 ≤ i822)))
             N (0 : Int) (0 : Int) l810 l811 i812 i813 i814 l815 l816 l817)
            N (0 : Int) l793 l794 i795 i796 i797 l798 l799 l800)
           N (0 : Int) x0 x1 x2 x3 x4 x5 x6 x7 l783)))
        (k0 false))
       (k0 false))
      (none))
     (none)))
   (k0 false))
noncomputable def r_Has (N : Nat) {R : Type} (x0 : TLE) (x1 : List (Int)) (x2 : Int) (x3 : Int) (x4 : Int) (x5 : List TLI) (x6 : List TLI) (x7 : List (Bool)) (k0 : (Bool) → Option R) : Option R := r_Has_T N (@r_Caps N) (@r_files N) (@r_May N) (@r_Has_l0 N) (@r_Has_l1 N) (@r_Has_l2 N) x0 x1 x2 x3 x4 x5 x6 x7 k0
abbrev r_Has_fd41_l0_Ty : Type 1 := {R : Type} → ((Bool) → TLL → TLL → TLB → (TLE) → TLI → Int → Int → Int → Option R) → (TLL → TLL → TLB → (TLE) → TLI → Int → Int → Int → Option R) → Nat → Int → TLL → TLL → TLB → (TLE) → TLI → Int → Int → Int → TLI → Option R
abbrev r_Has_fd41_l1_Ty : Type 1 := {R : Type} → ((Bool) → TLL → TLL → TLB → (TLE) → TLI → Int → Int → Int → Option R) → (TLL → TLL → TLB → (TLE) → TLI → Int → Int → Int → Option R) → Nat → Int → TLL → TLL → TLB → (TLE) → TLI → Int → Int → Int → Option R
abbrev r_Has_fd41_l2_Ty : Type 1 := {R : Type} → (Int → TLL → TLL → TLB → (TLE) → TLI → Int → Int → Int → Option R) → Nat → Int → Int → TLL → TLL → TLB → (TLE) → TLI → Int → Int → Int → Option R
abbrev r_Has_fd41_Ty : Type 1 := {R : Type} → (TLE) → TLI → Int → Int → Int → TLL → TLL → TLB → ((Bool) → TLL → TLL → TLB → Option R) → Option R
noncomputable def r_Has_fd41_l0_T0 (N : Nat) (c0 : r_Caps_Ty) (c1 : r_files_Ty) (c2 : r_May_Ty) (w1 : r_Has_fd41_l1_Ty) (w2 : r_Has_fd41_l2_Ty) {R : Type} (nx : Int → TLL → TLL → TLB → (TLE) → TLI → Int → Int → Int → TLI → Option R) (k0 : (Bool) → TLL → TLL → TLB → (TLE) → TLI → Int → Int → Int → Option R) (k1 : TLL → TLL → TLB → (TLE) → TLI → Int → Int → Int → Option R) (x0 : Int) (x1 : List TLI) (x2 : List TLI) (x3 : List (Bool)) (x4 : TLE) (x5 : List (Int)) (x6 : Int) (x7 : Int) (x8 : Int) (x9 : List (Int)) : Option R :=
  br (decide (x0 < (Nat.cast (List.length x1) : Int)))
  (br (inB x0 (List.length x1))
   (br (decide ((Int.toNat x0) < (List.length x1)))
    (br (inB x0 (List.length x9))
     (br (decide ((Int.toNat x0) < (List.length x9)))
      (br (decide ((List.getD x9 (Int.toNat x0) (0 : Int)) < (Nat.cast (List.length (List.getD x1 (Int.toNat x0) (Sh.zero (.isl (.int .u8))))) : Int)))
       (k0 false x1 x2 x3 x4 x5 x6 x7 x8)
       (nx (IntKind.wrap .i64 (x0 + (1 : Int))) x1 x2 x3 x4 x5 x6 x7 x8 x9))
      (none))
     (none))
    (none))
   (none))
  (k1 x1 x2 x3 x4 x5 x6 x7 x8)
noncomputable def r_Has_fd41_l1_T0 (N : Nat) (c0 : r_Caps_Ty) (c1 : r_files_Ty) (c2 : r_May_Ty) (w2 : r_Has_fd41_l2_Ty) {R : Type} (nx : Int → TLL → TLL → TLB → (TLE) → TLI → Int → Int → Int → Option R) (k0 : (Bool) → TLL → TLL → TLB → (TLE) → TLI → Int → Int → Int → Option R) (k1 : TLL → TLL → TLB → (TLE) → TLI → Int → Int → Int → Option R) (x0 : Int) (x1 : List TLI) (x2 : List TLI) (x3 : List (Bool)) (x4 : TLE) (x5 : List (Int)) (x6 : Int) (x7 : Int) (x8 : Int) : Option R :=
  br (decide (x0 < (Nat.cast (List.length x2) : Int)))
  (br (inB x0 (List.length x2))
   (br (decide ((Int.toNat x0) < (List.length x2)))
    (br (inB x0 (List.length x5))
     (br (decide ((List.getD x5 (Int.toNat x0) (0 : Int)) < (Nat.cast (List.length (List.getD x2 (Int.toNat x0) (Sh.zero (.isl (.int .u8))))) : Int)))
      (k0 false x1 x2 x3 x4 x5 x6 x7 x8)
      (nx (IntKind.wrap .i64 (x0 + (1 : Int))) x1 x2 x3 x4 x5 x6 x7 x8))
     (none))
    (none))
   (none))
  (k1 x1 x2 x3 x4 x5 x6 x7 x8)
noncomputable def r_Has_fd41_l2_T0 (N : Nat) (c0 : r_Caps_Ty) (c1 : r_files_Ty) (c2 : r_May_Ty) {R : Type} (nx : Int → Int → TLL → TLL → TLB → (TLE) → TLI → Int → Int → Int → Option R) (k0 : Int → TLL → TLL → TLB → (TLE) → TLI → Int → Int → Int → Option R) (x0 : Int) (x1 : Int) (x2 : List TLI) (x3 : List TLI) (x4 : List (Bool)) (x5 : TLE) (x6 : List (Int)) (x7 : Int) (x8 : Int) (x9 : Int) : Option R :=
  br (decide (x1 < (Nat.cast (List.length x4) : Int)))
  (br (inB x1 (List.length x4))
   (br (decide ((Int.toNat x1) < (List.length x4)))
    (br (List.getD x4 (Int.toNat x1) false)
     (nx (IntKind.wrap .i64 (x0 + (1 : Int))) (IntKind.wrap .i64 (x1 + (1 : Int))) x2 x3 x4 x5 x6 x7 x8 x9)
     (nx x0 (IntKind.wrap .i64 (x1 + (1 : Int))) x2 x3 x4 x5 x6 x7 x8 x9))
    (none))
   (none))
  (k0 x0 x2 x3 x4 x5 x6 x7 x8 x9)
noncomputable def r_Has_fd41_l2 (N : Nat) {R : Type} (k0 : Int → TLL → TLL → TLB → (TLE) → TLI → Int → Int → Int → Option R) : Nat → Int → Int → TLL → TLL → TLB → (TLE) → TLI → Int → Int → Int → Option R
  | 0, _, _, _, _, _, _, _, _, _, _ => none
  | n + 1, x0, x1, x2, x3, x4, x5, x6, x7, x8, x9 => r_Has_fd41_l2_T0 N (@r_Caps N) (@r_files N) (@r_May N) (fun x0 x1 x2 x3 x4 x5 x6 x7 x8 x9 => r_Has_fd41_l2 N k0 n x0 x1 x2 x3 x4 x5 x6 x7 x8 x9) k0 x0 x1 x2 x3 x4 x5 x6 x7 x8 x9
noncomputable def r_Has_fd41_l1 (N : Nat) {R : Type} (k0 : (Bool) → TLL → TLL → TLB → (TLE) → TLI → Int → Int → Int → Option R) (k1 : TLL → TLL → TLB → (TLE) → TLI → Int → Int → Int → Option R) : Nat → Int → TLL → TLL → TLB → (TLE) → TLI → Int → Int → Int → Option R
  | 0, _, _, _, _, _, _, _, _, _ => none
  | n + 1, x0, x1, x2, x3, x4, x5, x6, x7, x8 => r_Has_fd41_l1_T0 N (@r_Caps N) (@r_files N) (@r_May N) (@r_Has_fd41_l2 N) (fun x0 x1 x2 x3 x4 x5 x6 x7 x8 => r_Has_fd41_l1 N k0 k1 n x0 x1 x2 x3 x4 x5 x6 x7 x8) k0 k1 x0 x1 x2 x3 x4 x5 x6 x7 x8
noncomputable def r_Has_fd41_l0 (N : Nat) {R : Type} (k0 : (Bool) → TLL → TLL → TLB → (TLE) → TLI → Int → Int → Int → Option R) (k1 : TLL → TLL → TLB → (TLE) → TLI → Int → Int → Int → Option R) : Nat → Int → TLL → TLL → TLB → (TLE) → TLI → Int → Int → Int → TLI → Option R
  | 0, _, _, _, _, _, _, _, _, _, _ => none
  | n + 1, x0, x1, x2, x3, x4, x5, x6, x7, x8, x9 => r_Has_fd41_l0_T0 N (@r_Caps N) (@r_files N) (@r_May N) (@r_Has_fd41_l1 N) (@r_Has_fd41_l2 N) (fun x0 x1 x2 x3 x4 x5 x6 x7 x8 x9 => r_Has_fd41_l0 N k0 k1 n x0 x1 x2 x3 x4 x5 x6 x7 x8 x9) k0 k1 x0 x1 x2 x3 x4 x5 x6 x7 x8 x9
noncomputable def r_Has_fd41_T (N : Nat) (c0 : r_Caps_Ty) (c1 : r_files_Ty) (c2 : r_May_Ty) (w0 : r_Has_fd41_l0_Ty) (w1 : r_Has_fd41_l1_Ty) (w2 : r_Has_fd41_l2_Ty) {R : Type} (x0 : TLE) (x1 : List (Int)) (x2 : Int) (x3 : Int) (x4 : Int) (x5 : List TLI) (x6 : List TLI) (x7 : List (Bool)) (k0 : (Bool) → TLL → TLL → TLB → Option R) : Option R :=
  c2 x0 x1 x2 x3 x4
  (fun b939 => br (!(!b939))
   (c1 x0 x1 x2 x3 x4
    (fun i940 => br (decide ((Nat.cast (List.length x5) : Int) = (Nat.cast (List.length x5) : Int)))
     (br (!(!(decide ((Nat.cast (List.length x5) : Int) = i940))))
      (br (!(!(decide ((Nat.cast (List.length x6) : Int) = (Nat.cast (List.length x1) : Int)))))
       (br (!(decide ((Nat.cast (List.length x7) : Int) = x2)))
        (k0 false x5 x6 x7)
        (c0 x0 x1 x2 x3 x4
         (fun l941 => w0
          (fun b942 l943 l944 l945 l946 l947 i948 i949 i950 => k0 b942 l943 l944 l945)
          (fun l951 l952 l953 l954 l955 i956 i957 i958 => w1
           (fun b959 l960 l961 l962 l963 l964 i965 i966 i967 => k0 b959 l960 l961 l962)
           (fun l968 l969 l970 l971 l972 i973 i974 i975 => w2
            (fun i976 l977 l978 l979 l980 l981 i982 i983 i984 => k0 (decide (i976 ≤ i983)) l977 l978 l979)
            N (0 : Int) (0 : Int) l968 l969 l970 l971 l972 i973 i974 i975)
           N (0 : Int) l951 l952 l953 l954 l955 i956 i957 i958)
          N (0 : Int) x5 x6 x7 x0 x1 x2 x3 x4 l941)))
       (k0 false x5 x6 x7))
      (k0 false x5 x6 x7))
     (none)))
   (k0 false x5 x6 x7))
noncomputable def r_Has_fd41 (N : Nat) {R : Type} (x0 : TLE) (x1 : List (Int)) (x2 : Int) (x3 : Int) (x4 : Int) (x5 : List TLI) (x6 : List TLI) (x7 : List (Bool)) (k0 : (Bool) → TLL → TLL → TLB → Option R) : Option R := r_Has_fd41_T N (@r_Caps N) (@r_files N) (@r_May N) (@r_Has_fd41_l0 N) (@r_Has_fd41_l1 N) (@r_Has_fd41_l2 N) x0 x1 x2 x3 x4 x5 x6 x7 k0
abbrev r_Input_l0_Ty : Type 1 := {R : Type} → (TLI → Int → (TLE) → TLI → Int → Int → Int → TLL → TLL → TLB → TLI → Option R) → Nat → TLI → Int → Int → (TLE) → TLI → Int → Int → Int → TLL → TLL → TLB → TLI → Option R
abbrev r_Input_l1_Ty : Type 1 := {R : Type} → (TLI → Int → Int → (TLE) → TLI → Int → Int → Int → TLL → TLL → TLB → TLL → TLL → TLB → Option R) → (TLI → Int → (TLE) → TLI → Int → Int → Int → TLL → TLL → TLB → TLL → TLL → TLB → Option R) → Nat → TLI → Int → Int → (TLE) → TLI → Int → Int → Int → TLL → TLL → TLB → TLI → TLL → TLL → TLB → Option R
abbrev r_Input_l2_Ty : Type 1 := {R : Type} → (TLI → Int → Int → Int → (TLE) → TLI → Int → Int → Int → TLL → TLL → TLB → TLI → TLL → TLL → TLB → TLI → Option R) → (TLI → Int → Int → (TLE) → TLI → Int → Int → Int → TLL → TLL → TLB → TLI → TLL → TLL → TLB → TLI → Option R) → Nat → TLI → Int → Int → Int → Int → (TLE) → TLI → Int → Int → Int → TLL → TLL → TLB → TLI → TLL → TLL → TLB → TLI → Option R
abbrev r_Input_l3_Ty : Type 1 := {R : Type} → (Int → (TLE) → TLI → Int → Int → Int → TLL → TLL → TLB → TLL → TLL → TLB → Option R) → ((TLE) → TLI → Int → Int → Int → TLL → TLL → TLB → TLL → TLL → TLB → Option R) → Nat → TLI → Int → Int → (TLE) → TLI → Int → Int → Int → TLL → TLL → TLB → TLL → TLL → TLB → Option R
abbrev r_Input_Ty : Type 1 := {R : Type} → (TLE) → TLI → Int → Int → Int → TLI → (Int → TLL → TLL → TLB → Option R) → Option R
noncomputable def r_Input_l0_T0 (N : Nat) (c0 : r_Has_Ty) (c1 : r_Has_fd41_Ty) (c2 : r_files_Ty) (c3 : r_Caps_Ty) (c4 : r_May_Ty) (w1 : r_Input_l1_Ty) (w2 : r_Input_l2_Ty) (w3 : r_Input_l3_Ty) {R : Type} (nx : TLI → Int → Int → (TLE) → TLI → Int → Int → Int → TLL → TLL → TLB → TLI → Option R) (k0 : TLI → Int → (TLE) → TLI → Int → Int → Int → TLL → TLL → TLB → TLI → Option R) (x0 : List (Int)) (x1 : Int) (x2 : Int) (x3 : TLE) (x4 : List (Int)) (x5 : Int) (x6 : Int) (x7 : Int) (x8 : List TLI) (x9 : List TLI) (x10 : List (Bool)) (x11 : List (Int)) : Option R :=
  br (decide (x2 < (Nat.cast (List.length x11) : Int)))
  (br (inB x2 (List.length x11))
   (br (decide ((Int.toNat x2) < (List.length x11)))
    (nx x0 (IntKind.wrap .i64 ((IntKind.wrap .i64 (x1 + (1 : Int))) + (List.getD x11 (Int.toNat x2) (0 : Int)))) (IntKind.wrap .i64 (x2 + (1 : Int))) x3 x4 x5 x6 x7 x8 x9 x10 x11)
    (none))
   (none))
  (k0 x0 x1 x3 x4 x5 x6 x7 x8 x9 x10 x11)
noncomputable def r_Input_l1_T0 (N : Nat) (c0 : r_Has_Ty) (c1 : r_Has_fd41_Ty) (c2 : r_files_Ty) (c3 : r_Caps_Ty) (c4 : r_May_Ty) (w2 : r_Input_l2_Ty) (w3 : r_Input_l3_Ty) {R : Type} (nx : TLI → Int → Int → (TLE) → TLI → Int → Int → Int → TLL → TLL → TLB → TLI → TLL → TLL → TLB → Option R) (k0 : TLI → Int → Int → (TLE) → TLI → Int → Int → Int → TLL → TLL → TLB → TLL → TLL → TLB → Option R) (k1 : TLI → Int → (TLE) → TLI → Int → Int → Int → TLL → TLL → TLB → TLL → TLL → TLB → Option R) (x0 : List (Int)) (x1 : Int) (x2 : Int) (x3 : TLE) (x4 : List (Int)) (x5 : Int) (x6 : Int) (x7 : Int) (x8 : List TLI) (x9 : List TLI) (x10 : List (Bool)) (x11 : List (Int)) (x12 : List TLI) (x13 : List TLI) (x14 : List (Bool)) : Option R :=
  br (decide (x2 < (Nat.cast (List.length x11) : Int)))
  (br (inB x1 (List.length x0))
   (br (inB x2 (List.length x11))
    (br (decide ((Int.toNat x2) < (List.length x11)))
     (br (decide ((List.getD x11 (Int.toNat x2) (0 : Int)) < (IntKind.wrap .i64 (List.getD x0 (Int.toNat x1) (0 : Int)))))
      (k0 x0 (12 : Int) x1 x3 x4 x5 x6 x7 ([] : List ((Sh.int IntKind.u8).isl.T)) ([] : List ((Sh.int IntKind.u8).isl.T)) ([] : List (Sh.bool.T)) x12 x13 x14)
      (w2
       (fun l855 i856 i857 i858 l859 l860 i861 i862 i863 l864 l865 l866 l867 l868 l869 l870 l871 => k0 l855 i856 i857 l859 l860 i861 i862 i863 l864 l865 l866 l868 l869 l870)
       (fun l872 i873 i874 l875 l876 i877 i878 i879 l880 l881 l882 l883 l884 l885 l886 l887 => br (inB i874 (List.length l883))
        (br (decide ((Int.toNat i874) < (List.length l883)))
         (c2 l875 l876 i877 i878 i879
          (fun i888 => br (decide (i874 < i888))
           (br (fits (0 : Nat) (List.length l887) l887)
            (br (fits (0 : Nat) (List.length l887) l887)
             (br (((fits (0 : Nat) (List.length l884) l884) && (decide ((((List.length l884) + (1 : Nat)) * (24 : Nat)) ≤ (70368744177664 : Nat)))) && true)
              (nx l872 (IntKind.wrap .i64 ((IntKind.wrap .i64 (i873 + (1 : Int))) + (List.getD l883 (Int.toNat i874) (0 : Int)))) (IntKind.wrap .i64 (i874 + (1 : Int))) l875 l876 i877 i878 i879 l880 l881 l882 l883 ((sub l884 (0 : Nat) (List.length l884)) ++ ((sub l887 (0 : Nat) (List.length l887)) :: ([] : List ((Sh.int IntKind.u8).isl.T)))) l885 l886)
              (none))
             (none))
            (none))
           (br (fits (0 : Nat) (List.length l887) l887)
            (br (fits (0 : Nat) (List.length l887) l887)
             (br (((fits (0 : Nat) (List.length l885) l885) && (decide ((((List.length l885) + (1 : Nat)) * (24 : Nat)) ≤ (70368744177664 : Nat)))) && true)
              (nx l872 (IntKind.wrap .i64 ((IntKind.wrap .i64 (i873 + (1 : Int))) + (List.getD l883 (Int.toNat i874) (0 : Int)))) (IntKind.wrap .i64 (i874 + (1 : Int))) l875 l876 i877 i878 i879 l880 l881 l882 l883 l884 ((sub l885 (0 : Nat) (List.length l885)) ++ ((sub l887 (0 : Nat) (List.length l887)) :: ([] : List ((Sh.int IntKind.u8).isl.T)))) l886)
              (none))
             (none))
            (none))))
         (none))
        (none))
       N x0 x1 x2 (IntKind.wrap .i64 (List.getD x0 (Int.toNat x1) (0 : Int))) (0 : Int) x3 x4 x5 x6 x7 x8 x9 x10 x11 x12 x13 x14 ([] : List ((Sh.int IntKind.u8).T))))
     (none))
    (none))
   (none))
  (k1 x0 x1 x3 x4 x5 x6 x7 x8 x9 x10 x12 x13 x14)
noncomputable def r_Input_l2_T0 (N : Nat) (c0 : r_Has_Ty) (c1 : r_Has_fd41_Ty) (c2 : r_files_Ty) (c3 : r_Caps_Ty) (c4 : r_May_Ty) (w3 : r_Input_l3_Ty) {R : Type} (nx : TLI → Int → Int → Int → Int → (TLE) → TLI → Int → Int → Int → TLL → TLL → TLB → TLI → TLL → TLL → TLB → TLI → Option R) (k0 : TLI → Int → Int → Int → (TLE) → TLI → Int → Int → Int → TLL → TLL → TLB → TLI → TLL → TLL → TLB → TLI → Option R) (k1 : TLI → Int → Int → (TLE) → TLI → Int → Int → Int → TLL → TLL → TLB → TLI → TLL → TLL → TLB → TLI → Option R) (x0 : List (Int)) (x1 : Int) (x2 : Int) (x3 : Int) (x4 : Int) (x5 : TLE) (x6 : List (Int)) (x7 : Int) (x8 : Int) (x9 : Int) (x10 : List TLI) (x11 : List TLI) (x12 : List (Bool)) (x13 : List (Int)) (x14 : List TLI) (x15 : List TLI) (x16 : List (Bool)) (x17 : List (Int)) : Option R :=
  br (inB x2 (List.length x13))
  (br (decide ((Int.toNat x2) < (List.length x13)))
   (br (decide (x4 < (List.getD x13 (Int.toNat x2) (0 : Int))))
    (br (inB (IntKind.wrap .i64 ((IntKind.wrap .i64 (x1 + (1 : Int))) + x4)) (List.length x0))
     (br (!(decide ((255 : Int) < (List.getD x0 (Int.toNat (IntKind.wrap .i64 ((IntKind.wrap .i64 (x1 + (1 : Int))) + x4))) (0 : Int)))))
      (br (decide (x3 ≤ x4))
       (br (!(decide ((List.getD x0 (Int.toNat (IntKind.wrap .i64 ((IntKind.wrap .i64 (x1 + (1 : Int))) + x4))) (0 : Int)) = (0 : Int))))
        (k0 x0 (12 : Int) x1 x2 x5 x6 x7 x8 x9 ([] : List ((Sh.int IntKind.u8).isl.T)) ([] : List ((Sh.int IntKind.u8).isl.T)) ([] : List (Sh.bool.T)) x13 x14 x15 x16 x17)
        (br (decide (x4 < x3))
         (br (((fits (0 : Nat) (List.length x17) x17) && (decide ((((List.length x17) + (1 : Nat)) * (1 : Nat)) ≤ (70368744177664 : Nat)))) && true)
          (nx x0 x1 x2 x3 (IntKind.wrap .i64 (x4 + (1 : Int))) x5 x6 x7 x8 x9 x10 x11 x12 x13 x14 x15 x16 ((sub x17 (0 : Nat) (List.length x17)) ++ ((IntKind.wrap .u8 (List.getD x0 (Int.toNat (IntKind.wrap .i64 ((IntKind.wrap .i64 (x1 + (1 : Int))) + x4))) (0 : Int))) :: ([] : List ((Sh.int IntKind.u8).T)))))
          (none))
         (nx x0 x1 x2 x3 (IntKind.wrap .i64 (x4 + (1 : Int))) x5 x6 x7 x8 x9 x10 x11 x12 x13 x14 x15 x16 x17)))
       (br (decide (x4 < x3))
        (br (((fits (0 : Nat) (List.length x17) x17) && (decide ((((List.length x17) + (1 : Nat)) * (1 : Nat)) ≤ (70368744177664 : Nat)))) && true)
         (nx x0 x1 x2 x3 (IntKind.wrap .i64 (x4 + (1 : Int))) x5 x6 x7 x8 x9 x10 x11 x12 x13 x14 x15 x16 ((sub x17 (0 : Nat) (List.length x17)) ++ ((IntKind.wrap .u8 (List.getD x0 (Int.toNat (IntKind.wrap .i64 ((IntKind.wrap .i64 (x1 + (1 : Int))) + x4))) (0 : Int))) :: ([] : List ((Sh.int IntKind.u8).T)))))
         (none))
        (nx x0 x1 x2 x3 (IntKind.wrap .i64 (x4 + (1 : Int))) x5 x6 x7 x8 x9 x10 x11 x12 x13 x14 x15 x16 x17)))
      (k0 x0 (12 : Int) x1 x2 x5 x6 x7 x8 x9 ([] : List ((Sh.int IntKind.u8).isl.T)) ([] : List ((Sh.int IntKind.u8).isl.T)) ([] : List (Sh.bool.T)) x13 x14 x15 x16 x17))
     (none))
    (k1 x0 x1 x2 x5 x6 x7 x8 x9 x10 x11 x12 x13 x14 x15 x16 x17))
   (none))
  (none)
noncomputable def r_Input_l3_T0 (N : Nat) (c0 : r_Has_Ty) (c1 : r_Has_fd41_Ty) (c2 : r_files_Ty) (c3 : r_Caps_Ty) (c4 : r_May_Ty) {R : Type} (nx : TLI → Int → Int → (TLE) → TLI → Int → Int → Int → TLL → TLL → TLB → TLL → TLL → TLB → Option R) (k0 : Int → (TLE) → TLI → Int → Int → Int → TLL → TLL → TLB → TLL → TLL → TLB → Option R) (k1 : (TLE) → TLI → Int → Int → Int → TLL → TLL → TLB → TLL → TLL → TLB → Option R) (x0 : List (Int)) (x1 : Int) (x2 : Int) (x3 : TLE) (x4 : List (Int)) (x5 : Int) (x6 : Int) (x7 : Int) (x8 : List TLI) (x9 : List TLI) (x10 : List (Bool)) (x11 : List TLI) (x12 : List TLI) (x13 : List (Bool)) : Option R :=
  br (decide (x2 < x5))
  (br (inB (IntKind.wrap .i64 (x1 + x2)) (List.length x0))
   (br (decide ((1 : Int) < (List.getD x0 (Int.toNat (IntKind.wrap .i64 (x1 + x2))) (0 : Int))))
    (k0 (12 : Int) x3 x4 x5 x6 x7 ([] : List ((Sh.int IntKind.u8).isl.T)) ([] : List ((Sh.int IntKind.u8).isl.T)) ([] : List (Sh.bool.T)) x11 x12 x13)
    (br (inB (IntKind.wrap .i64 (x1 + x2)) (List.length x0))
     (br (((fits (0 : Nat) (List.length x13) x13) && (decide ((((List.length x13) + (1 : Nat)) * (1 : Nat)) ≤ (70368744177664 : Nat)))) && true)
      (nx x0 x1 (IntKind.wrap .i64 (x2 + (1 : Int))) x3 x4 x5 x6 x7 x8 x9 x10 x11 x12 ((sub x13 (0 : Nat) (List.length x13)) ++ ((decide ((List.getD x0 (Int.toNat (IntKind.wrap .i64 (x1 + x2))) (0 : Int)) = (1 : Int))) :: ([] : List (Sh.bool.T)))))
      (none))
     (none)))
   (none))
  (k1 x3 x4 x5 x6 x7 x8 x9 x10 x11 x12 x13)
noncomputable def r_Input_l3 (N : Nat) {R : Type} (k0 : Int → (TLE) → TLI → Int → Int → Int → TLL → TLL → TLB → TLL → TLL → TLB → Option R) (k1 : (TLE) → TLI → Int → Int → Int → TLL → TLL → TLB → TLL → TLL → TLB → Option R) : Nat → TLI → Int → Int → (TLE) → TLI → Int → Int → Int → TLL → TLL → TLB → TLL → TLL → TLB → Option R
  | 0, _, _, _, _, _, _, _, _, _, _, _, _, _, _ => none
  | n + 1, x0, x1, x2, x3, x4, x5, x6, x7, x8, x9, x10, x11, x12, x13 => r_Input_l3_T0 N (@r_Has N) (@r_Has_fd41 N) (@r_files N) (@r_Caps N) (@r_May N) (fun x0 x1 x2 x3 x4 x5 x6 x7 x8 x9 x10 x11 x12 x13 => r_Input_l3 N k0 k1 n x0 x1 x2 x3 x4 x5 x6 x7 x8 x9 x10 x11 x12 x13) k0 k1 x0 x1 x2 x3 x4 x5 x6 x7 x8 x9 x10 x11 x12 x13
noncomputable def r_Input_l2 (N : Nat) {R : Type} (k0 : TLI → Int → Int → Int → (TLE) → TLI → Int → Int → Int → TLL → TLL → TLB → TLI → TLL → TLL → TLB → TLI → Option R) (k1 : TLI → Int → Int → (TLE) → TLI → Int → Int → Int → TLL → TLL → TLB → TLI → TLL → TLL → TLB → TLI → Option R) : Nat → TLI → Int → Int → Int → Int → (TLE) → TLI → Int → Int → Int → TLL → TLL → TLB → TLI → TLL → TLL → TLB → TLI → Option R
  | 0, _, _, _, _, _, _, _, _, _, _, _, _, _, _, _, _, _, _ => none
  | n + 1, x0, x1, x2, x3, x4, x5, x6, x7, x8, x9, x10, x11, x12, x13, x14, x15, x16, x17 => r_Input_l2_T0 N (@r_Has N) (@r_Has_fd41 N) (@r_files N) (@r_Caps N) (@r_May N) (@r_Input_l3 N) (fun x0 x1 x2 x3 x4 x5 x6 x7 x8 x9 x10 x11 x12 x13 x14 x15 x16 x17 => r_Input_l2 N k0 k1 n x0 x1 x2 x3 x4 x5 x6 x7 x8 x9 x10 x11 x12 x13 x14 x15 x16 x17) k0 k1 x0 x1 x2 x3 x4 x5 x6 x7 x8 x9 x10 x11 x12 x13 x14 x15 x16 x17
noncomputable def r_Input_l1 (N : Nat) {R : Type} (k0 : TLI → Int → Int → (TLE) → TLI → Int → Int → Int → TLL → TLL → TLB → TLL → TLL → TLB → Option R) (k1 : TLI → Int → (TLE) → TLI → Int → Int → Int → TLL → TLL → TLB → TLL → TLL → TLB → Option R) : Nat → TLI → Int → Int → (TLE) → TLI → Int → Int → Int → TLL → TLL → TLB → TLI → TLL → TLL → TLB → Option R
  | 0, _, _, _, _, _, _, _, _, _, _, _, _, _, _, _ => none
  | n + 1, x0, x1, x2, x3, x4, x5, x6, x7, x8, x9, x10, x11, x12, x13, x14 => r_Input_l1_T0 N (@r_Has N) (@r_Has_fd41 N) (@r_files N) (@r_Caps N) (@r_May N) (@r_Input_l2 N) (@r_Input_l3 N) (fun x0 x1 x2 x3 x4 x5 x6 x7 x8 x9 x10 x11 x12 x13 x14 => r_Input_l1 N k0 k1 n x0 x1 x2 x3 x4 x5 x6 x7 x8 x9 x10 x11 x12 x13 x14) k0 k1 x0 x1 x2 x3 x4 x5 x6 x7 x8 x9 x10 x11 x12 x13 x14
noncomputable def r_Input_l0 (N : Nat) {R : Type} (k0 : TLI → Int → (TLE) → TLI → Int → Int → Int → TLL → TLL → TLB → TLI → Option R) : Nat → TLI → Int → Int → (TLE) → TLI → Int → Int → Int → TLL → TLL → TLB → TLI → Option R
  | 0, _, _, _, _, _, _, _, _, _, _, _, _ => none
  | n + 1, x0, x1, x2, x3, x4, x5, x6, x7, x8, x9, x10, x11 => r_Input_l0_T0 N (@r_Has N) (@r_Has_fd41 N) (@r_files N) (@r_Caps N) (@r_May N) (@r_Input_l1 N) (@r_Input_l2 N) (@r_Input_l3 N) (fun x0 x1 x2 x3 x4 x5 x6 x7 x8 x9 x10 x11 => r_Input_l0 N k0 n x0 x1 x2 x3 x4 x5 x6 x7 x8 x9 x10 x11) k0 x0 x1 x2 x3 x4 x5 x6 x7 x8 x9 x10 x11
noncomputable def r_Input_T (N : Nat) (c0 : r_Has_Ty) (c1 : r_Has_fd41_Ty) (c2 : r_files_Ty) (c3 : r_Caps_Ty) (c4 : r_May_Ty) (w0 : r_Input_l0_Ty) (w1 : r_Input_l1_Ty) (w2 : r_Input_l2_Ty) (w3 : r_Input_l3_Ty) {R : Type} (x0 : TLE) (x1 : List (Int)) (x2 : Int) (x3 : Int) (x4 : Int) (x5 : List (Int)) (k0 : Int → TLL → TLL → TLB → Option R) : Option R :=
  c4 x0 x1 x2 x3 x4
  (fun b842 => br (!b842)
   (k0 (11 : Int) ([] : List ((Sh.int IntKind.u8).isl.T)) ([] : List ((Sh.int IntKind.u8).isl.T)) ([] : List (Sh.bool.T)))
   (c3 x0 x1 x2 x3 x4
    (fun l843 => w0
     (fun l844 i845 l846 l847 i848 i849 i850 l851 l852 l853 l854 => br (decide ((Nat.cast (List.length l844) : Int) < i845))
      (k0 (12 : Int) ([] : List ((Sh.int IntKind.u8).isl.T)) ([] : List ((Sh.int IntKind.u8).isl.T)) ([] : List (Sh.bool.T)))
      (w1
       (fun l889 i890 i891 l892 l893 i894 i895 i896 l897 l898 l899 l900 l901 l902 => k0 i890 l897 l898 l899)
       (fun l903 i904 l905 l906 i907 i908 i909 l910 l911 l912 l913 l914 l915 => w3
        (fun i916 l917 l918 i919 i920 i921 l922 l923 l924 l925 l926 l927 => k0 i916 l922 l923 l924)
        (fun l928 l929 i930 i931 i932 l933 l934 l935 l936 l937 l938 => c1 l928 l929 i930 i931 i932 l936 l937 l938
         (fun b985 l986 l987 l988 => br (!b985)
          (k0 (12 : Int) ([] : List ((Sh.int IntKind.u8).isl.T)) ([] : List ((Sh.int IntKind.u8).isl.T)) ([] : List (Sh.bool.T)))
          (k0 (0 : Int) l986 l987 l988)))
        N l903 i904 (0 : Int) l905 l906 i907 i908 i909 l910 l911 l912 l913 l914 l915)
       N l844 (0 : Int) (0 : Int) l846 l847 i848 i849 i850 l851 l852 l853 l854 ([] : List ((Sh.int IntKind.u8).isl.T)) ([] : List ((Sh.int IntKind.u8).isl.T)) ([] : List (Sh.bool.T))))
     N x5 x2 (0 : Int) x0 x1 x2 x3 x4 ([] : List ((Sh.int IntKind.u8).isl.T)) ([] : List ((Sh.int IntKind.u8).isl.T)) ([] : List (Sh.bool.T)) l843)))
noncomputable def r_Input (N : Nat) {R : Type} (x0 : TLE) (x1 : List (Int)) (x2 : Int) (x3 : Int) (x4 : Int) (x5 : List (Int)) (k0 : Int → TLL → TLL → TLB → Option R) : Option R := r_Input_T N (@r_Has N) (@r_Has_fd41 N) (@r_files N) (@r_Caps N) (@r_May N) (@r_Input_l0 N) (@r_Input_l1 N) (@r_Input_l2 N) (@r_Input_l3 N) x0 x1 x2 x3 x4 x5 k0
abbrev rsT_b9c5_l0_Ty : Type 1 := {R : Type} → ((Bool) → TLL → TLL → Option R) → (TLL → TLL → Option R) → Nat → Int → TLL → TLL → Option R
abbrev rsT_b9c5_Ty : Type 1 := {R : Type} → TLL → TLL → ((Bool) → TLL → TLL → Option R) → Option R
noncomputable def rsT_b9c5_l0_T0 (N : Nat) {R : Type} (nx : Int → TLL → TLL → Option R) (k0 : (Bool) → TLL → TLL → Option R) (k1 : TLL → TLL → Option R) (x0 : Int) (x1 : List TLI) (x2 : List TLI) : Option R :=
  br (decide (x0 < (Nat.cast (List.length x1) : Int)))
  (br (inB x0 (List.length x1))
   (br (decide ((Int.toNat x0) < (List.length x1)))
    (br (inB x0 (List.length x2))
     (br (decide ((Int.toNat x0) < (List.length x2)))
      (br (!(decide ((mkStr (List.getD x1 (Int.toNat x0) (Sh.zero (.isl (.int .u8))))) = (mkStr (List.getD x2 (Int.toNat x0) (Sh.zero (.isl (.int .u8))))))))
       (k0 false x1 x2)
       (nx (IntKind.wrap .i64 (x0 + (1 : Int))) x1 x2))
      (none))
     (none))
    (none))
   (none))
  (k1 x1 x2)
noncomputable def rsT_b9c5_l0 (N : Nat) {R : Type} (k0 : (Bool) → TLL → TLL → Option R) (k1 : TLL → TLL → Option R) : Nat → Int → TLL → TLL → Option R
  | 0, _, _, _ => none
  | n + 1, x0, x1, x2 => rsT_b9c5_l0_T0 N (fun x0 x1 x2 => rsT_b9c5_l0 N k0 k1 n x0 x1 x2) k0 k1 x0 x1 x2
noncomputable def rsT_b9c5_T (N : Nat) (w0 : rsT_b9c5_l0_Ty) {R : Type} (x0 : List TLI) (x1 : List TLI) (k0 : (Bool) → TLL → TLL → Option R) : Option R :=
  br (!(decide ((Nat.cast (List.length x0) : Int) = (Nat.cast (List.length x1) : Int))))
  (k0 false x0 x1)
  (w0
   (fun b993 l994 l995 => k0 b993 l994 l995)
   (fun l996 l997 => k0 true l996 l997)
   N (0 : Int) x0 x1)
noncomputable def rsT_b9c5 (N : Nat) {R : Type} (x0 : List TLI) (x1 : List TLI) (k0 : (Bool) → TLL → TLL → Option R) : Option R := rsT_b9c5_T N (@rsT_b9c5_l0 N) x0 x1 k0
abbrev rsT_2b0a_l0_Ty : Type 1 := {R : Type} → ((Bool) → Nat → TLL → TLL → Option R) → (Nat → TLL → TLL → Option R) → Nat → Nat → Nat → Int → Nat → TLL → TLL → Option R
abbrev rsT_2b0a_Ty : Type 1 := {R : Type} → Nat → Nat → Nat → TLL → TLL → ((Bool) → Nat → TLL → TLL → Option R) → Option R
noncomputable def rsT_2b0a_l0_T0 (N : Nat) {R : Type} (nx : Nat → Nat → Int → Nat → TLL → TLL → Option R) (k0 : (Bool) → Nat → TLL → TLL → Option R) (k1 : Nat → TLL → TLL → Option R) (x0 : Nat) (x1 : Nat) (x2 : Int) (x3 : Nat) (x4 : List TLI) (x5 : List TLI) : Option R :=
  br (decide (x2 < (Nat.cast x0 : Int)))
  (br (inB x2 x0)
   (br (decide ((Int.toNat x2) < x3))
    (br (inB x2 (List.length x5))
     (br (decide ((Int.toNat x2) < (List.length x5)))
      (br (!(decide ((mkStr (List.getD x4 (Int.toNat x2) (Sh.zero (.isl (.int .u8))))) = (mkStr (List.getD x5 (Int.toNat x2) (Sh.zero (.isl (.int .u8))))))))
       (k0 false x3 x4 x5)
       (nx x0 x1 (IntKind.wrap .i64 (x2 + (1 : Int))) x3 x4 x5))
      (none))
     (none))
    (none))
   (none))
  (k1 x3 x4 x5)
noncomputable def rsT_2b0a_l0 (N : Nat) {R : Type} (k0 : (Bool) → Nat → TLL → TLL → Option R) (k1 : Nat → TLL → TLL → Option R) : Nat → Nat → Nat → Int → Nat → TLL → TLL → Option R
  | 0, _, _, _, _, _, _ => none
  | n + 1, x0, x1, x2, x3, x4, x5 => rsT_2b0a_l0_T0 N (fun x0 x1 x2 x3 x4 x5 => rsT_2b0a_l0 N k0 k1 n x0 x1 x2 x3 x4 x5) k0 k1 x0 x1 x2 x3 x4 x5
noncomputable def rsT_2b0a_T (N : Nat) (w0 : rsT_2b0a_l0_Ty) {R : Type} (x0 : Nat) (x1 : Nat) (x2 : Nat) (x3 : List TLI) (x4 : List TLI) (k0 : (Bool) → Nat → TLL → TLL → Option R) : Option R :=
  br (!(decide ((Nat.cast x0 : Int) = (Nat.cast (List.length x4) : Int))))
  (k0 false x2 x3 x4)
  (w0
   (fun b1031 n1032 l1033 l1034 => k0 b1031 n1032 l1033 l1034)
   (fun n1035 l1036 l1037 => k0 true n1035 l1036 l1037)
   N x0 x1 (0 : Int) x2 x3 x4)
noncomputable def rsT_2b0a (N : Nat) {R : Type} (x0 : Nat) (x1 : Nat) (x2 : Nat) (x3 : List TLI) (x4 : List TLI) (k0 : (Bool) → Nat → TLL → TLL → Option R) : Option R := rsT_2b0a_T N (@rsT_2b0a_l0 N) x0 x1 x2 x3 x4 k0
abbrev rsT_96ff_l0_Ty : Type 1 := {R : Type} → ((Bool) → Nat → TLL → TLL → Option R) → (Nat → TLL → TLL → Option R) → Nat → Nat → Nat → Int → Nat → TLL → TLL → Option R
abbrev rsT_96ff_Ty : Type 1 := {R : Type} → Nat → Nat → Nat → TLL → TLL → ((Bool) → Nat → TLL → TLL → Option R) → Option R
noncomputable def rsT_96ff_l0_T0 (N : Nat) {R : Type} (nx : Nat → Nat → Int → Nat → TLL → TLL → Option R) (k0 : (Bool) → Nat → TLL → TLL → Option R) (k1 : Nat → TLL → TLL → Option R) (x0 : Nat) (x1 : Nat) (x2 : Int) (x3 : Nat) (x4 : List TLI) (x5 : List TLI) : Option R :=
  br (decide (x2 < (Nat.cast x1 : Int)))
  (br (inB x2 x1)
   (br (decide ((Int.toNat (addLo x0 x2)) < x3))
    (br (inB x2 (List.length x5))
     (br (decide ((Int.toNat x2) < (List.length x5)))
      (br (!(decide ((mkStr (List.getD x4 (Int.toNat (addLo x0 x2)) (Sh.zero (.isl (.int .u8))))) = (mkStr (List.getD x5 (Int.toNat x2) (Sh.zero (.isl (.int .u8))))))))
       (k0 false x3 x4 x5)
       (nx x0 x1 (IntKind.wrap .i64 (x2 + (1 : Int))) x3 x4 x5))
      (none))
     (none))
    (none))
   (none))
  (k1 x3 x4 x5)
noncomputable def rsT_96ff_l0 (N : Nat) {R : Type} (k0 : (Bool) → Nat → TLL → TLL → Option R) (k1 : Nat → TLL → TLL → Option R) : Nat → Nat → Nat → Int → Nat → TLL → TLL → Option R
  | 0, _, _, _, _, _, _ => none
  | n + 1, x0, x1, x2, x3, x4, x5 => rsT_96ff_l0_T0 N (fun x0 x1 x2 x3 x4 x5 => rsT_96ff_l0 N k0 k1 n x0 x1 x2 x3 x4 x5) k0 k1 x0 x1 x2 x3 x4 x5
noncomputable def rsT_96ff_T (N : Nat) (w0 : rsT_96ff_l0_Ty) {R : Type} (x0 : Nat) (x1 : Nat) (x2 : Nat) (x3 : List TLI) (x4 : List TLI) (k0 : (Bool) → Nat → TLL → TLL → Option R) : Option R :=
  br (!(decide ((Nat.cast x1 : Int) = (Nat.cast (List.length x4) : Int))))
  (k0 false x2 x3 x4)
  (w0
   (fun b1042 n1043 l1044 l1045 => k0 b1042 n1043 l1044 l1045)
   (fun n1046 l1047 l1048 => k0 true n1046 l1047 l1048)
   N x0 x1 (0 : Int) x2 x3 x4)
noncomputable def rsT_96ff (N : Nat) {R : Type} (x0 : Nat) (x1 : Nat) (x2 : Nat) (x3 : List TLI) (x4 : List TLI) (k0 : (Bool) → Nat → TLL → TLL → Option R) : Option R := rsT_96ff_T N (@rsT_96ff_l0 N) x0 x1 x2 x3 x4 k0
abbrev rsT_6688_l0_Ty : Type 1 := {R : Type} → ((Bool) → TLL → TLL → Option R) → (TLL → TLL → Option R) → Nat → Nat → Nat → Int → TLL → TLL → Option R
abbrev rsT_6688_Ty : Type 1 := {R : Type} → Nat → Nat → TLL → TLL → ((Bool) → TLL → TLL → Option R) → Option R
noncomputable def rsT_6688_l0_T0 (N : Nat) {R : Type} (nx : Nat → Nat → Int → TLL → TLL → Option R) (k0 : (Bool) → TLL → TLL → Option R) (k1 : TLL → TLL → Option R) (x0 : Nat) (x1 : Nat) (x2 : Int) (x3 : List TLI) (x4 : List TLI) : Option R :=
  br (decide (x2 < (Nat.cast x0 : Int)))
  (br (inB x2 x0)
   (br (decide ((Int.toNat x2) < (List.length x3)))
    (br (inB x2 (List.length x4))
     (br (decide ((Int.toNat x2) < (List.length x4)))
      (br (!(decide ((mkStr (List.getD x3 (Int.toNat x2) (Sh.zero (.isl (.int .u8))))) = (mkStr (List.getD x4 (Int.toNat x2) (Sh.zero (.isl (.int .u8))))))))
       (k0 false x3 x4)
       (nx x0 x1 (IntKind.wrap .i64 (x2 + (1 : Int))) x3 x4))
      (none))
     (none))
    (none))
   (none))
  (k1 x3 x4)
noncomputable def rsT_6688_l0 (N : Nat) {R : Type} (k0 : (Bool) → TLL → TLL → Option R) (k1 : TLL → TLL → Option R) : Nat → Nat → Nat → Int → TLL → TLL → Option R
  | 0, _, _, _, _, _ => none
  | n + 1, x0, x1, x2, x3, x4 => rsT_6688_l0_T0 N (fun x0 x1 x2 x3 x4 => rsT_6688_l0 N k0 k1 n x0 x1 x2 x3 x4) k0 k1 x0 x1 x2 x3 x4
noncomputable def rsT_6688_T (N : Nat) (w0 : rsT_6688_l0_Ty) {R : Type} (x0 : Nat) (x1 : Nat) (x2 : List TLI) (x3 : List TLI) (k0 : (Bool) → TLL → TLL → Option R) : Option R :=
  br (!(decide ((Nat.cast x0 : Int) = (Nat.cast (List.length x3) : Int))))
  (k0 false x2 x3)
  (w0
   (fun b1074 l1075 l1076 => k0 b1074 l1075 l1076)
   (fun l1077 l1078 => k0 true l1077 l1078)
   N x0 x1 (0 : Int) x2 x3)
noncomputable def rsT_6688 (N : Nat) {R : Type} (x0 : Nat) (x1 : Nat) (x2 : List TLI) (x3 : List TLI) (k0 : (Bool) → TLL → TLL → Option R) : Option R := rsT_6688_T N (@rsT_6688_l0 N) x0 x1 x2 x3 k0
abbrev rsT_1859_l0_Ty : Type 1 := {R : Type} → ((Bool) → TLL → TLL → Option R) → (TLL → TLL → Option R) → Nat → Nat → Nat → Int → TLL → TLL → Option R
abbrev rsT_1859_Ty : Type 1 := {R : Type} → Nat → Nat → TLL → TLL → ((Bool) → TLL → TLL → Option R) → Option R
noncomputable def rsT_1859_l0_T0 (N : Nat) {R : Type} (nx : Nat → Nat → Int → TLL → TLL → Option R) (k0 : (Bool) → TLL → TLL → Option R) (k1 : TLL → TLL → Option R) (x0 : Nat) (x1 : Nat) (x2 : Int) (x3 : List TLI) (x4 : List TLI) : Option R :=
  br (decide (x2 < (Nat.cast x1 : Int)))
  (br (inB x2 x1)
   (br (decide ((Int.toNat (addLo x0 x2)) < (List.length x3)))
    (br (inB x2 (List.length x4))
     (br (decide ((Int.toNat x2) < (List.length x4)))
      (br (!(decide ((mkStr (List.getD x3 (Int.toNat (addLo x0 x2)) (Sh.zero (.isl (.int .u8))))) = (mkStr (List.getD x4 (Int.toNat x2) (Sh.zero (.isl (.int .u8))))))))
       (k0 false x3 x4)
       (nx x0 x1 (IntKind.wrap .i64 (x2 + (1 : Int))) x3 x4))
      (none))
     (none))
    (none))
   (none))
  (k1 x3 x4)
noncomputable def rsT_1859_l0 (N : Nat) {R : Type} (k0 : (Bool) → TLL → TLL → Option R) (k1 : TLL → TLL → Option R) : Nat → Nat → Nat → Int → TLL → TLL → Option R
  | 0, _, _, _, _, _ => none
  | n + 1, x0, x1, x2, x3, x4 => rsT_1859_l0_T0 N (fun x0 x1 x2 x3 x4 => rsT_1859_l0 N k0 k1 n x0 x1 x2 x3 x4) k0 k1 x0 x1 x2 x3 x4
noncomputable def rsT_1859_T (N : Nat) (w0 : rsT_1859_l0_Ty) {R : Type} (x0 : Nat) (x1 : Nat) (x2 : List TLI) (x3 : List TLI) (k0 : (Bool) → TLL → TLL → Option R) : Option R :=
  br (!(decide ((Nat.cast x1 : Int) = (Nat.cast (List.length x3) : Int))))
  (k0 false x2 x3)
  (w0
   (fun b1082 l1083 l1084 => k0 b1082 l1083 l1084)
   (fun l1085 l1086 => k0 true l1085 l1086)
   N x0 x1 (0 : Int) x2 x3)
noncomputable def rsT_1859 (N : Nat) {R : Type} (x0 : Nat) (x1 : Nat) (x2 : List TLI) (x3 : List TLI) (k0 : (Bool) → TLL → TLL → Option R) : Option R := rsT_1859_T N (@rsT_1859_l0 N) x0 x1 x2 x3 k0
abbrev rsT_0c01_l0_Ty : Type 1 := {R : Type} → ((Bool) → TLL → Option R) → (TLL → Option R) → Nat → TLL → Int → TLL → Option R
abbrev rsT_0c01_Ty : Type 1 := {R : Type} → TLL → TLL → ((Bool) → TLL → Option R) → Option R
noncomputable def rsT_0c01_l0_T0 (N : Nat) {R : Type} (nx : TLL → Int → TLL → Option R) (k0 : (Bool) → TLL → Option R) (k1 : TLL → Option R) (x0 : List TLI) (x1 : Int) (x2 : List TLI) : Option R :=
  br (decide (x1 < (Nat.cast (List.length x0) : Int)))
  (br (inB x1 (List.length x0))
   (br (inB x1 (List.length x2))
    (br (decide ((Int.toNat x1) < (List.length x2)))
     (br (!(decide ((mkStr (List.getD x0 (Int.toNat x1) (Sh.zero (.isl (.int .u8))))) = (mkStr (List.getD x2 (Int.toNat x1) (Sh.zero (.isl (.int .u8))))))))
      (k0 false x2)
      (nx x0 (IntKind.wrap .i64 (x1 + (1 : Int))) x2))
     (none))
    (none))
   (none))
  (k1 x2)
noncomputable def rsT_0c01_l0 (N : Nat) {R : Type} (k0 : (Bool) → TLL → Option R) (k1 : TLL → Option R) : Nat → TLL → Int → TLL → Option R
  | 0, _, _, _ => none
  | n + 1, x0, x1, x2 => rsT_0c01_l0_T0 N (fun x0 x1 x2 => rsT_0c01_l0 N k0 k1 n x0 x1 x2) k0 k1 x0 x1 x2
noncomputable def rsT_0c01_T (N : Nat) (w0 : rsT_0c01_l0_Ty) {R : Type} (x0 : List TLI) (x1 : List TLI) (k0 : (Bool) → TLL → Option R) : Option R :=
  br (!(decide ((Nat.cast (List.length x0) : Int) = (Nat.cast (List.length x1) : Int))))
  (k0 false x1)
  (w0
   (fun b1228 l1229 => k0 b1228 l1229)
   (fun l1230 => k0 true l1230)
   N x0 (0 : Int) x1)
noncomputable def rsT_0c01 (N : Nat) {R : Type} (x0 : List TLI) (x1 : List TLI) (k0 : (Bool) → TLL → Option R) : Option R := rsT_0c01_T N (@rsT_0c01_l0 N) x0 x1 k0
abbrev rsT_429c_l0_Ty : Type 1 := {R : Type} → ((Bool) → Nat → TLL → Option R) → (Nat → TLL → Option R) → Nat → TLL → Nat → Nat → Int → Nat → TLL → Option R
abbrev rsT_429c_Ty : Type 1 := {R : Type} → TLL → Nat → Nat → Nat → TLL → ((Bool) → Nat → TLL → Option R) → Option R
noncomputable def rsT_429c_l0_T0 (N : Nat) {R : Type} (nx : TLL → Nat → Nat → Int → Nat → TLL → Option R) (k0 : (Bool) → Nat → TLL → Option R) (k1 : Nat → TLL → Option R) (x0 : List TLI) (x1 : Nat) (x2 : Nat) (x3 : Int) (x4 : Nat) (x5 : List TLI) : Option R :=
  br (decide (x3 < (Nat.cast (List.length x0) : Int)))
  (br (inB x3 (List.length x0))
   (br (inB x3 x1)
    (br (decide ((Int.toNat x3) < x4))
     (br (!(decide ((mkStr (List.getD x0 (Int.toNat x3) (Sh.zero (.isl (.int .u8))))) = (mkStr (List.getD x5 (Int.toNat x3) (Sh.zero (.isl (.int .u8))))))))
      (k0 false x4 x5)
      (nx x0 x1 x2 (IntKind.wrap .i64 (x3 + (1 : Int))) x4 x5))
     (none))
    (none))
   (none))
  (k1 x4 x5)
noncomputable def rsT_429c_l0 (N : Nat) {R : Type} (k0 : (Bool) → Nat → TLL → Option R) (k1 : Nat → TLL → Option R) : Nat → TLL → Nat → Nat → Int → Nat → TLL → Option R
  | 0, _, _, _, _, _, _ => none
  | n + 1, x0, x1, x2, x3, x4, x5 => rsT_429c_l0_T0 N (fun x0 x1 x2 x3 x4 x5 => rsT_429c_l0 N k0 k1 n x0 x1 x2 x3 x4 x5) k0 k1 x0 x1 x2 x3 x4 x5
noncomputable def rsT_429c_T (N : Nat) (w0 : rsT_429c_l0_Ty) {R : Type} (x0 : List TLI) (x1 : Nat) (x2 : Nat) (x3 : Nat) (x4 : List TLI) (k0 : (Bool) → Nat → TLL → Option R) : Option R :=
  br (!(decide ((Nat.cast (List.length x0) : Int) = (Nat.cast x1 : Int))))
  (k0 false x3 x4)
  (w0
   (fun b1309 n1310 l1311 => k0 b1309 n1310 l1311)
   (fun n1312 l1313 => k0 true n1312 l1313)
   N x0 x1 x2 (0 : Int) x3 x4)
noncomputable def rsT_429c (N : Nat) {R : Type} (x0 : List TLI) (x1 : Nat) (x2 : Nat) (x3 : Nat) (x4 : List TLI) (k0 : (Bool) → Nat → TLL → Option R) : Option R := rsT_429c_T N (@rsT_429c_l0 N) x0 x1 x2 x3 x4 k0
abbrev rsT_3348_l0_Ty : Type 1 := {R : Type} → ((Bool) → Nat → TLL → Option R) → (Nat → TLL → Option R) → Nat → TLL → Nat → Nat → Int → Nat → TLL → Option R
abbrev rsT_3348_Ty : Type 1 := {R : Type} → TLL → Nat → Nat → Nat → TLL → ((Bool) → Nat → TLL → Option R) → Option R
noncomputable def rsT_3348_l0_T0 (N : Nat) {R : Type} (nx : TLL → Nat → Nat → Int → Nat → TLL → Option R) (k0 : (Bool) → Nat → TLL → Option R) (k1 : Nat → TLL → Option R) (x0 : List TLI) (x1 : Nat) (x2 : Nat) (x3 : Int) (x4 : Nat) (x5 : List TLI) : Option R :=
  br (decide (x3 < (Nat.cast (List.length x0) : Int)))
  (br (inB x3 (List.length x0))
   (br (inB x3 x2)
    (br (decide ((Int.toNat (addLo x1 x3)) < x4))
     (br (!(decide ((mkStr (List.getD x0 (Int.toNat x3) (Sh.zero (.isl (.int .u8))))) = (mkStr (List.getD x5 (Int.toNat (addLo x1 x3)) (Sh.zero (.isl (.int .u8))))))))
      (k0 false x4 x5)
      (nx x0 x1 x2 (IntKind.wrap .i64 (x3 + (1 : Int))) x4 x5))
     (none))
    (none))
   (none))
  (k1 x4 x5)
noncomputable def rsT_3348_l0 (N : Nat) {R : Type} (k0 : (Bool) → Nat → TLL → Option R) (k1 : Nat → TLL → Option R) : Nat → TLL → Nat → Nat → Int → Nat → TLL → Option R
  | 0, _, _, _, _, _, _ => none
  | n + 1, x0, x1, x2, x3, x4, x5 => rsT_3348_l0_T0 N (fun x0 x1 x2 x3 x4 x5 => rsT_3348_l0 N k0 k1 n x0 x1 x2 x3 x4 x5) k0 k1 x0 x1 x2 x3 x4 x5
noncomputable def rsT_3348_T (N : Nat) (w0 : rsT_3348_l0_Ty) {R : Type} (x0 : List TLI) (x1 : Nat) (x2 : Nat) (x3 : Nat) (x4 : List TLI) (k0 : (Bool) → Nat → TLL → Option R) : Option R :=
  br (!(decide ((Nat.cast (List.length x0) : Int) = (Nat.cast x2 : Int))))
  (k0 false x3 x4)
  (w0
   (fun b1317 n1318 l1319 => k0 b1317 n1318 l1319)
   (fun n1320 l1321 => k0 true n1320 l1321)
   N x0 x1 x2 (0 : Int) x3 x4)
noncomputable def rsT_3348 (N : Nat) {R : Type} (x0 : List TLI) (x1 : Nat) (x2 : Nat) (x3 : Nat) (x4 : List TLI) (k0 : (Bool) → Nat → TLL → Option R) : Option R := rsT_3348_T N (@rsT_3348_l0 N) x0 x1 x2 x3 x4 k0
abbrev rsT_4c6f_l0_Ty : Type 1 := {R : Type} → ((Bool) → TLL → Option R) → (TLL → Option R) → Nat → TLL → Nat → Nat → Int → TLL → Option R
abbrev rsT_4c6f_Ty : Type 1 := {R : Type} → TLL → Nat → Nat → TLL → ((Bool) → TLL → Option R) → Option R
noncomputable def rsT_4c6f_l0_T0 (N : Nat) {R : Type} (nx : TLL → Nat → Nat → Int → TLL → Option R) (k0 : (Bool) → TLL → Option R) (k1 : TLL → Option R) (x0 : List TLI) (x1 : Nat) (x2 : Nat) (x3 : Int) (x4 : List TLI) : Option R :=
  br (decide (x3 < (Nat.cast (List.length x0) : Int)))
  (br (inB x3 (List.length x0))
   (br (inB x3 x1)
    (br (decide ((Int.toNat x3) < (List.length x4)))
     (br (!(decide ((mkStr (List.getD x0 (Int.toNat x3) (Sh.zero (.isl (.int .u8))))) = (mkStr (List.getD x4 (Int.toNat x3) (Sh.zero (.isl (.int .u8))))))))
      (k0 false x4)
      (nx x0 x1 x2 (IntKind.wrap .i64 (x3 + (1 : Int))) x4))
     (none))
    (none))
   (none))
  (k1 x4)
noncomputable def rsT_4c6f_l0 (N : Nat) {R : Type} (k0 : (Bool) → TLL → Option R) (k1 : TLL → Option R) : Nat → TLL → Nat → Nat → Int → TLL → Option R
  | 0, _, _, _, _, _ => none
  | n + 1, x0, x1, x2, x3, x4 => rsT_4c6f_l0_T0 N (fun x0 x1 x2 x3 x4 => rsT_4c6f_l0 N k0 k1 n x0 x1 x2 x3 x4) k0 k1 x0 x1 x2 x3 x4
noncomputable def rsT_4c6f_T (N : Nat) (w0 : rsT_4c6f_l0_Ty) {R : Type} (x0 : List TLI) (x1 : Nat) (x2 : Nat) (x3 : List TLI) (k0 : (Bool) → TLL → Option R) : Option R :=
  br (!(decide ((Nat.cast (List.length x0) : Int) = (Nat.cast x1 : Int))))
  (k0 false x3)
  (w0
   (fun b1395 l1396 => k0 b1395 l1396)
   (fun l1397 => k0 true l1397)
   N x0 x1 x2 (0 : Int) x3)
noncomputable def rsT_4c6f (N : Nat) {R : Type} (x0 : List TLI) (x1 : Nat) (x2 : Nat) (x3 : List TLI) (k0 : (Bool) → TLL → Option R) : Option R := rsT_4c6f_T N (@rsT_4c6f_l0 N) x0 x1 x2 x3 k0
abbrev rsT_bfa0_l0_Ty : Type 1 := {R : Type} → ((Bool) → TLL → Option R) → (TLL → Option R) → Nat → TLL → Nat → Nat → Int → TLL → Option R
abbrev rsT_bfa0_Ty : Type 1 := {R : Type} → TLL → Nat → Nat → TLL → ((Bool) → TLL → Option R) → Option R
noncomputable def rsT_bfa0_l0_T0 (N : Nat) {R : Type} (nx : TLL → Nat → Nat → Int → TLL → Option R) (k0 : (Bool) → TLL → Option R) (k1 : TLL → Option R) (x0 : List TLI) (x1 : Nat) (x2 : Nat) (x3 : Int) (x4 : List TLI) : Option R :=
  br (decide (x3 < (Nat.cast (List.length x0) : Int)))
  (br (inB x3 (List.length x0))
   (br (inB x3 x2)
    (br (decide ((Int.toNat (addLo x1 x3)) < (List.length x4)))
     (br (!(decide ((mkStr (List.getD x0 (Int.toNat x3) (Sh.zero (.isl (.int .u8))))) = (mkStr (List.getD x4 (Int.toNat (addLo x1 x3)) (Sh.zero (.isl (.int .u8))))))))
      (k0 false x4)
      (nx x0 x1 x2 (IntKind.wrap .i64 (x3 + (1 : Int))) x4))
     (none))
    (none))
   (none))
  (k1 x4)
noncomputable def rsT_bfa0_l0 (N : Nat) {R : Type} (k0 : (Bool) → TLL → Option R) (k1 : TLL → Option R) : Nat → TLL → Nat → Nat → Int → TLL → Option R
  | 0, _, _, _, _, _ => none
  | n + 1, x0, x1, x2, x3, x4 => rsT_bfa0_l0_T0 N (fun x0 x1 x2 x3 x4 => rsT_bfa0_l0 N k0 k1 n x0 x1 x2 x3 x4) k0 k1 x0 x1 x2 x3 x4
noncomputable def rsT_bfa0_T (N : Nat) (w0 : rsT_bfa0_l0_Ty) {R : Type} (x0 : List TLI) (x1 : Nat) (x2 : Nat) (x3 : List TLI) (k0 : (Bool) → TLL → Option R) : Option R :=
  br (!(decide ((Nat.cast (List.length x0) : Int) = (Nat.cast x2 : Int))))
  (k0 false x3)
  (w0
   (fun b1400 l1401 => k0 b1400 l1401)
   (fun l1402 => k0 true l1402)
   N x0 x1 x2 (0 : Int) x3)
noncomputable def rsT_bfa0 (N : Nat) {R : Type} (x0 : List TLI) (x1 : Nat) (x2 : Nat) (x3 : List TLI) (k0 : (Bool) → TLL → Option R) : Option R := rsT_bfa0_T N (@rsT_bfa0_l0 N) x0 x1 x2 x3 k0
abbrev rsF_7a38_l0_Ty : Type 1 := {R : Type} → ((Bool) → TLB → TLB → Option R) → (TLB → TLB → Option R) → Nat → Int → TLB → TLB → Option R
abbrev rsF_7a38_Ty : Type 1 := {R : Type} → TLB → TLB → ((Bool) → TLB → TLB → Option R) → Option R
noncomputable def rsF_7a38_l0_T0 (N : Nat) {R : Type} (nx : Int → TLB → TLB → Option R) (k0 : (Bool) → TLB → TLB → Option R) (k1 : TLB → TLB → Option R) (x0 : Int) (x1 : List (Bool)) (x2 : List (Bool)) : Option R :=
  br (decide (x0 < (Nat.cast (List.length x1) : Int)))
  (br (inB x0 (List.length x1))
   (br (decide ((Int.toNat x0) < (List.length x1)))
    (br (inB x0 (List.length x2))
     (br (decide ((Int.toNat x0) < (List.length x2)))
      (br (!((List.getD x1 (Int.toNat x0) false) == (List.getD x2 (Int.toNat x0) false)))
       (k0 false x1 x2)
       (nx (IntKind.wrap .i64 (x0 + (1 : Int))) x1 x2))
      (none))
     (none))
    (none))
   (none))
  (k1 x1 x2)
noncomputable def rsF_7a38_l0 (N : Nat) {R : Type} (k0 : (Bool) → TLB → TLB → Option R) (k1 : TLB → TLB → Option R) : Nat → Int → TLB → TLB → Option R
  | 0, _, _, _ => none
  | n + 1, x0, x1, x2 => rsF_7a38_l0_T0 N (fun x0 x1 x2 => rsF_7a38_l0 N k0 k1 n x0 x1 x2) k0 k1 x0 x1 x2
noncomputable def rsF_7a38_T (N : Nat) (w0 : rsF_7a38_l0_Ty) {R : Type} (x0 : List (Bool)) (x1 : List (Bool)) (k0 : (Bool) → TLB → TLB → Option R) : Option R :=
  br (!(decide ((Nat.cast (List.length x0) : Int) = (Nat.cast (List.length x1) : Int))))
  (k0 false x0 x1)
  (w0
   (fun b1004 l1005 l1006 => k0 b1004 l1005 l1006)
   (fun l1007 l1008 => k0 true l1007 l1008)
   N (0 : Int) x0 x1)
noncomputable def rsF_7a38 (N : Nat) {R : Type} (x0 : List (Bool)) (x1 : List (Bool)) (k0 : (Bool) → TLB → TLB → Option R) : Option R := rsF_7a38_T N (@rsF_7a38_l0 N) x0 x1 k0
abbrev rsF_ec84_l0_Ty : Type 1 := {R : Type} → ((Bool) → TLB → Option R) → (TLB → Option R) → Nat → TLB → Int → TLB → Option R
abbrev rsF_ec84_Ty : Type 1 := {R : Type} → TLB → TLB → ((Bool) → TLB → Option R) → Option R
noncomputable def rsF_ec84_l0_T0 (N : Nat) {R : Type} (nx : TLB → Int → TLB → Option R) (k0 : (Bool) → TLB → Option R) (k1 : TLB → Option R) (x0 : List (Bool)) (x1 : Int) (x2 : List (Bool)) : Option R :=
  br (decide (x1 < (Nat.cast (List.length x0) : Int)))
  (br (inB x1 (List.length x0))
   (br (inB x1 (List.length x2))
    (br (decide ((Int.toNat x1) < (List.length x2)))
     (br (!((List.getD x0 (Int.toNat x1) false) == (List.getD x2 (Int.toNat x1) false)))
      (k0 false x2)
      (nx x0 (IntKind.wrap .i64 (x1 + (1 : Int))) x2))
     (none))
    (none))
   (none))
  (k1 x2)
noncomputable def rsF_ec84_l0 (N : Nat) {R : Type} (k0 : (Bool) → TLB → Option R) (k1 : TLB → Option R) : Nat → TLB → Int → TLB → Option R
  | 0, _, _, _ => none
  | n + 1, x0, x1, x2 => rsF_ec84_l0_T0 N (fun x0 x1 x2 => rsF_ec84_l0 N k0 k1 n x0 x1 x2) k0 k1 x0 x1 x2
noncomputable def rsF_ec84_T (N : Nat) (w0 : rsF_ec84_l0_Ty) {R : Type} (x0 : List (Bool)) (x1 : List (Bool)) (k0 : (Bool) → TLB → Option R) : Option R :=
  br (!(decide ((Nat.cast (List.length x0) : Int) = (Nat.cast (List.length x1) : Int))))
  (k0 false x1)
  (w0
   (fun b1235 l1236 => k0 b1235 l1236)
   (fun l1237 => k0 true l1237)
   N x0 (0 : Int) x1)
noncomputable def rsF_ec84 (N : Nat) {R : Type} (x0 : List (Bool)) (x1 : List (Bool)) (k0 : (Bool) → TLB → Option R) : Option R := rsF_ec84_T N (@rsF_ec84_l0 N) x0 x1 k0
abbrev r_Same_efae_Ty : Type 1 := {R : Type} → TLL → TLL → TLB → TLL → TLL → TLB → ((Bool) → TLL → TLL → TLB → TLL → TLL → TLB → Option R) → Option R
noncomputable def r_Same_efae_T (N : Nat) (c0 : rsF_7a38_Ty) (c1 : rsF_ec84_Ty) (c2 : rsT_b9c5_Ty) (c3 : rsT_2b0a_Ty) (c4 : rsT_96ff_Ty) (c5 : rsT_6688_Ty) (c6 : rsT_1859_Ty) (c7 : rsT_0c01_Ty) (c8 : rsT_429c_Ty) (c9 : rsT_3348_Ty) (c10 : rsT_4c6f_Ty) (c11 : rsT_bfa0_Ty) {R : Type} (x0 : List TLI) (x1 : List TLI) (x2 : List (Bool)) (x3 : List TLI) (x4 : List TLI) (x5 : List (Bool)) (k0 : (Bool) → TLL → TLL → TLB → TLL → TLL → TLB → Option R) : Option R :=
  c2 x0 x3
  (fun b998 l999 l1000 => br b998
   (c2 x1 x4
    (fun b1001 l1002 l1003 => br b1001
     (c0 x2 x5
      (fun b1009 l1010 l1011 => k0 b1009 l999 l1002 l1010 l1000 l1003 l1011))
     (k0 false l999 l1002 x2 l1000 l1003 x5)))
   (k0 false l999 x1 x2 l1000 x4 x5))
noncomputable def r_Same_efae (N : Nat) {R : Type} (x0 : List TLI) (x1 : List TLI) (x2 : List (Bool)) (x3 : List TLI) (x4 : List TLI) (x5 : List (Bool)) (k0 : (Bool) → TLL → TLL → TLB → TLL → TLL → TLB → Option R) : Option R := r_Same_efae_T N (@rsF_7a38 N) (@rsF_ec84 N) (@rsT_b9c5 N) (@rsT_2b0a N) (@rsT_96ff N) (@rsT_6688 N) (@rsT_1859 N) (@rsT_0c01 N) (@rsT_429c N) (@rsT_3348 N) (@rsT_4c6f N) (@rsT_bfa0 N) x0 x1 x2 x3 x4 x5 k0
abbrev r_Same_dd91_Ty : Type 1 := {R : Type} → Nat → Nat → Nat → Nat → Nat → TLL → TLB → TLL → TLL → TLB → ((Bool) → Nat → TLL → TLB → TLL → TLL → TLB → Option R) → Option R
noncomputable def r_Same_dd91_T (N : Nat) (c0 : rsF_7a38_Ty) (c1 : rsF_ec84_Ty) (c2 : rsT_b9c5_Ty) (c3 : rsT_2b0a_Ty) (c4 : rsT_96ff_Ty) (c5 : rsT_6688_Ty) (c6 : rsT_1859_Ty) (c7 : rsT_0c01_Ty) (c8 : rsT_429c_Ty) (c9 : rsT_3348_Ty) (c10 : rsT_4c6f_Ty) (c11 : rsT_bfa0_Ty) {R : Type} (x0 : Nat) (x1 : Nat) (x2 : Nat) (x3 : Nat) (x4 : Nat) (x5 : List TLI) (x6 : List (Bool)) (x7 : List TLI) (x8 : List TLI) (x9 : List (Bool)) (k0 : (Bool) → Nat → TLL → TLB → TLL → TLL → TLB → Option R) : Option R :=
  c3 x0 x1 x4 x5 x7
  (fun b1038 n1039 l1040 l1041 => br b1038
   (c4 x2 x3 n1039 l1040 x8
    (fun b1049 n1050 l1051 l1052 => br b1049
     (c0 x6 x9
      (fun b1053 l1054 l1055 => k0 b1053 n1050 l1051 l1054 l1041 l1052 l1055))
     (k0 false n1050 l1051 x6 l1041 l1052 x9)))
   (k0 false n1039 l1040 x6 l1041 x8 x9))
noncomputable def r_Same_dd91 (N : Nat) {R : Type} (x0 : Nat) (x1 : Nat) (x2 : Nat) (x3 : Nat) (x4 : Nat) (x5 : List TLI) (x6 : List (Bool)) (x7 : List TLI) (x8 : List TLI) (x9 : List (Bool)) (k0 : (Bool) → Nat → TLL → TLB → TLL → TLL → TLB → Option R) : Option R := r_Same_dd91_T N (@rsF_7a38 N) (@rsF_ec84 N) (@rsT_b9c5 N) (@rsT_2b0a N) (@rsT_96ff N) (@rsT_6688 N) (@rsT_1859 N) (@rsT_0c01 N) (@rsT_429c N) (@rsT_3348 N) (@rsT_4c6f N) (@rsT_bfa0 N) x0 x1 x2 x3 x4 x5 x6 x7 x8 x9 k0
abbrev r_Same_d123_Ty : Type 1 := {R : Type} → Nat → Nat → Nat → Nat → TLL → TLB → TLL → TLL → TLB → ((Bool) → TLL → TLB → TLL → TLL → TLB → Option R) → Option R
noncomputable def r_Same_d123_T (N : Nat) (c0 : rsF_7a38_Ty) (c1 : rsF_ec84_Ty) (c2 : rsT_b9c5_Ty) (c3 : rsT_2b0a_Ty) (c4 : rsT_96ff_Ty) (c5 : rsT_6688_Ty) (c6 : rsT_1859_Ty) (c7 : rsT_0c01_Ty) (c8 : rsT_429c_Ty) (c9 : rsT_3348_Ty) (c10 : rsT_4c6f_Ty) (c11 : rsT_bfa0_Ty) {R : Type} (x0 : Nat) (x1 : Nat) (x2 : Nat) (x3 : Nat) (x4 : List TLI) (x5 : List (Bool)) (x6 : List TLI) (x7 : List TLI) (x8 : List (Bool)) (k0 : (Bool) → TLL → TLB → TLL → TLL → TLB → Option R) : Option R :=
  c5 x0 x1 x4 x6
  (fun b1079 l1080 l1081 => br b1079
   (c6 x2 x3 l1080 x7
    (fun b1087 l1088 l1089 => br b1087
     (c0 x5 x8
      (fun b1090 l1091 l1092 => k0 b1090 l1088 l1091 l1081 l1089 l1092))
     (k0 false l1088 x5 l1081 l1089 x8)))
   (k0 false l1080 x5 l1081 x7 x8))
noncomputable def r_Same_d123 (N : Nat) {R : Type} (x0 : Nat) (x1 : Nat) (x2 : Nat) (x3 : Nat) (x4 : List TLI) (x5 : List (Bool)) (x6 : List TLI) (x7 : List TLI) (x8 : List (Bool)) (k0 : (Bool) → TLL → TLB → TLL → TLL → TLB → Option R) : Option R := r_Same_d123_T N (@rsF_7a38 N) (@rsF_ec84 N) (@rsT_b9c5 N) (@rsT_2b0a N) (@rsT_96ff N) (@rsT_6688 N) (@rsT_1859 N) (@rsT_0c01 N) (@rsT_429c N) (@rsT_3348 N) (@rsT_4c6f N) (@rsT_bfa0 N) x0 x1 x2 x3 x4 x5 x6 x7 x8 k0
abbrev r_Same_7132_Ty : Type 1 := {R : Type} → TLL → TLL → TLB → TLL → TLL → TLB → ((Bool) → TLL → TLL → TLB → Option R) → Option R
noncomputable def r_Same_7132_T (N : Nat) (c0 : rsF_7a38_Ty) (c1 : rsF_ec84_Ty) (c2 : rsT_b9c5_Ty) (c3 : rsT_2b0a_Ty) (c4 : rsT_96ff_Ty) (c5 : rsT_6688_Ty) (c6 : rsT_1859_Ty) (c7 : rsT_0c01_Ty) (c8 : rsT_429c_Ty) (c9 : rsT_3348_Ty) (c10 : rsT_4c6f_Ty) (c11 : rsT_bfa0_Ty) {R : Type} (x0 : List TLI) (x1 : List TLI) (x2 : List (Bool)) (x3 : List TLI) (x4 : List TLI) (x5 : List (Bool)) (k0 : (Bool) → TLL → TLL → TLB → Option R) : Option R :=
  c7 x0 x3
  (fun b1231 l1232 => br b1231
   (c7 x1 x4
    (fun b1233 l1234 => br b1233
     (c1 x2 x5
      (fun b1238 l1239 => k0 b1238 l1232 l1234 l1239))
     (k0 false l1232 l1234 x5)))
   (k0 false l1232 x4 x5))
noncomputable def r_Same_7132 (N : Nat) {R : Type} (x0 : List TLI) (x1 : List TLI) (x2 : List (Bool)) (x3 : List TLI) (x4 : List TLI) (x5 : List (Bool)) (k0 : (Bool) → TLL → TLL → TLB → Option R) : Option R := r_Same_7132_T N (@rsF_7a38 N) (@rsF_ec84 N) (@rsT_b9c5 N) (@rsT_2b0a N) (@rsT_96ff N) (@rsT_6688 N) (@rsT_1859 N) (@rsT_0c01 N) (@rsT_429c N) (@rsT_3348 N) (@rsT_4c6f N) (@rsT_bfa0 N) x0 x1 x2 x3 x4 x5 k0
abbrev r_Same_8fed_Ty : Type 1 := {R : Type} → TLL → TLL → TLB → Nat → Nat → Nat → Nat → Nat → TLL → TLB → ((Bool) → Nat → TLL → TLB → Option R) → Option R
noncomputable def r_Same_8fed_T (N : Nat) (c0 : rsF_7a38_Ty) (c1 : rsF_ec84_Ty) (c2 : rsT_b9c5_Ty) (c3 : rsT_2b0a_Ty) (c4 : rsT_96ff_Ty) (c5 : rsT_6688_Ty) (c6 : rsT_1859_Ty) (c7 : rsT_0c01_Ty) (c8 : rsT_429c_Ty) (c9 : rsT_3348_Ty) (c10 : rsT_4c6f_Ty) (c11 : rsT_bfa0_Ty) {R : Type} (x0 : List TLI) (x1 : List TLI) (x2 : List (Bool)) (x3 : Nat) (x4 : Nat) (x5 : Nat) (x6 : Nat) (x7 : Nat) (x8 : List TLI) (x9 : List (Bool)) (k0 : (Bool) → Nat → TLL → TLB → Option R) : Option R :=
  c8 x0 x3 x4 x7 x8
  (fun b1314 n1315 l1316 => br b1314
   (c9 x1 x5 x6 n1315 l1316
    (fun b1322 n1323 l1324 => br b1322
     (c1 x2 x9
      (fun b1325 l1326 => k0 b1325 n1323 l1324 l1326))
     (k0 false n1323 l1324 x9)))
   (k0 false n1315 l1316 x9))
noncomputable def r_Same_8fed (N : Nat) {R : Type} (x0 : List TLI) (x1 : List TLI) (x2 : List (Bool)) (x3 : Nat) (x4 : Nat) (x5 : Nat) (x6 : Nat) (x7 : Nat) (x8 : List TLI) (x9 : List (Bool)) (k0 : (Bool) → Nat → TLL → TLB → Option R) : Option R := r_Same_8fed_T N (@rsF_7a38 N) (@rsF_ec84 N) (@rsT_b9c5 N) (@rsT_2b0a N) (@rsT_96ff N) (@rsT_6688 N) (@rsT_1859 N) (@rsT_0c01 N) (@rsT_429c N) (@rsT_3348 N) (@rsT_4c6f N) (@rsT_bfa0 N) x0 x1 x2 x3 x4 x5 x6 x7 x8 x9 k0
abbrev r_Same_0654_Ty : Type 1 := {R : Type} → TLL → TLL → TLB → Nat → Nat → Nat → Nat → TLL → TLB → ((Bool) → TLL → TLB → Option R) → Option R
noncomputable def r_Same_0654_T (N : Nat) (c0 : rsF_7a38_Ty) (c1 : rsF_ec84_Ty) (c2 : rsT_b9c5_Ty) (c3 : rsT_2b0a_Ty) (c4 : rsT_96ff_Ty) (c5 : rsT_6688_Ty) (c6 : rsT_1859_Ty) (c7 : rsT_0c01_Ty) (c8 : rsT_429c_Ty) (c9 : rsT_3348_Ty) (c10 : rsT_4c6f_Ty) (c11 : rsT_bfa0_Ty) {R : Type} (x0 : List TLI) (x1 : List TLI) (x2 : List (Bool)) (x3 : Nat) (x4 : Nat) (x5 : Nat) (x6 : Nat) (x7 : List TLI) (x8 : List (Bool)) (k0 : (Bool) → TLL → TLB → Option R) : Option R :=
  c10 x0 x3 x4 x7
  (fun b1398 l1399 => br b1398
   (c11 x1 x5 x6 l1399
    (fun b1403 l1404 => br b1403
     (c1 x2 x8
      (fun b1405 l1406 => k0 b1405 l1404 l1406))
     (k0 false l1404 x8)))
   (k0 false l1399 x8))
noncomputable def r_Same_0654 (N : Nat) {R : Type} (x0 : List TLI) (x1 : List TLI) (x2 : List (Bool)) (x3 : Nat) (x4 : Nat) (x5 : Nat) (x6 : Nat) (x7 : List TLI) (x8 : List (Bool)) (k0 : (Bool) → TLL → TLB → Option R) : Option R := r_Same_0654_T N (@rsF_7a38 N) (@rsF_ec84 N) (@rsT_b9c5 N) (@rsT_2b0a N) (@rsT_96ff N) (@rsT_6688 N) (@rsT_1859 N) (@rsT_0c01 N) (@rsT_429c N) (@rsT_3348 N) (@rsT_4c6f N) (@rsT_bfa0 N) x0 x1 x2 x3 x4 x5 x6 x7 x8 k0
abbrev r_Env_l0_Ty : Type 1 := {R : Type} → (TLL → TLL → TLB → TLI → Option R) → Nat → Int → TLL → TLL → TLB → TLI → TLI → TLL → Option R
abbrev r_Env_l1_Ty : Type 1 := {R : Type} → (Int → TLL → TLL → TLB → TLI → TLI → TLL → Option R) → Nat → Int → Int → TLL → TLL → TLB → TLI → TLI → TLL → Option R
abbrev r_Env_l2_Ty : Type 1 := {R : Type} → (TLI → Option R) → Nat → Int → TLL → TLL → TLB → TLI → Option R
abbrev r_Env_Ty : Type 1 := {R : Type} → (TLE) → TLI → Int → Int → Int → TLL → TLL → TLB → (TLI → Option R) → Option R
noncomputable def r_Env_l0_T0 (N : Nat) (c0 : r_Caps_Ty) (w1 : r_Env_l1_Ty) (w2 : r_Env_l2_Ty) {R : Type} (nx : Int → TLL → TLL → TLB → TLI → TLI → TLL → Option R) (k0 : TLL → TLL → TLB → TLI → Option R) (x0 : Int) (x1 : List TLI) (x2 : List TLI) (x3 : List (Bool)) (x4 : List (Int)) (x5 : List (Int)) (x6 : List TLI) : Option R :=
  br (decide (x0 < (Nat.cast (List.length x5) : Int)))
  (br (inB x0 (List.length x6))
   (br (decide ((Int.toNat x0) < (List.length x6)))
    (br (((fits (0 : Nat) (List.length x4) x4) && (decide ((((List.length x4) + (1 : Nat)) * (2 : Nat)) ≤ (70368744177664 : Nat)))) && true)
     (w1
      (fun i1212 l1213 l1214 l1215 l1216 l1217 l1218 => nx (IntKind.wrap .i64 (i1212 + (1 : Int))) l1213 l1214 l1215 l1216 l1217 l1218)
      N x0 (0 : Int) x1 x2 x3 ((sub x4 (0 : Nat) (List.length x4)) ++ ((IntKind.wrap .u16 (Nat.cast (List.length (List.getD x6 (Int.toNat x0) (Sh.zero (.isl (.int .u8))))) : Int)) :: ([] : List ((Sh.int IntKind.u16).T)))) x5 x6)
     (none))
    (none))
   (none))
  (k0 x1 x2 x3 x4)
noncomputable def r_Env_l1_T0 (N : Nat) (c0 : r_Caps_Ty) (w2 : r_Env_l2_Ty) {R : Type} (nx : Int → Int → TLL → TLL → TLB → TLI → TLI → TLL → Option R) (k0 : Int → TLL → TLL → TLB → TLI → TLI → TLL → Option R) (x0 : Int) (x1 : Int) (x2 : List TLI) (x3 : List TLI) (x4 : List (Bool)) (x5 : List (Int)) (x6 : List (Int)) (x7 : List TLI) : Option R :=
  br (inB x0 (List.length x6))
  (br (decide ((Int.toNat x0) < (List.length x6)))
   (br (decide (x1 < (List.getD x6 (Int.toNat x0) (0 : Int))))
    (br (inB x0 (List.length x7))
     (br (decide ((Int.toNat x0) < (List.length x7)))
      (br (decide (x1 < (Nat.cast (List.length (List.getD x7 (Int.toNat x0) (Sh.zero (.isl (.int .u8))))) : Int)))
       (br (inB x0 (List.length x7))
        (br (decide ((Int.toNat x0) < (List.length x7)))
         (br (inB x1 (List.length (List.getD x7 (Int.toNat x0) (Sh.zero (.isl (.int .u8))))))
          (br (((fits (0 : Nat) (List.length x5) x5) && (decide ((((List.length x5) + (1 : Nat)) * (2 : Nat)) ≤ (70368744177664 : Nat)))) && true)
           (nx x0 (IntKind.wrap .i64 (x1 + (1 : Int))) x2 x3 x4 ((sub x5 (0 : Nat) (List.length x5)) ++ ((IntKind.wrap .u16 (List.getD (List.getD x7 (Int.toNat x0) (Sh.zero (.isl (.int .u8)))) (Int.toNat x1) (0 : Int))) :: ([] : List ((Sh.int IntKind.u16).T)))) x6 x7)
           (none))
          (none))
         (none))
        (none))
       (br (((fits (0 : Nat) (List.length x5) x5) && (decide ((((List.length x5) + (1 : Nat)) * (2 : Nat)) ≤ (70368744177664 : Nat)))) && true)
        (nx x0 (IntKind.wrap .i64 (x1 + (1 : Int))) x2 x3 x4 ((sub x5 (0 : Nat) (List.length x5)) ++ ((0 : Int) :: ([] : List ((Sh.int IntKind.u16).T)))) x6 x7)
        (none)))
      (none))
     (none))
    (k0 x0 x2 x3 x4 x5 x6 x7))
   (none))
  (none)
noncomputable def r_Env_l2_T0 (N : Nat) (c0 : r_Caps_Ty) {R : Type} (nx : Int → TLL → TLL → TLB → TLI → Option R) (k0 : TLI → Option R) (x0 : Int) (x1 : List TLI) (x2 : List TLI) (x3 : List (Bool)) (x4 : List (Int)) : Option R :=
  br (decide (x0 < (Nat.cast (List.length x3) : Int)))
  (br (inB x0 (List.length x3))
   (br (List.getD x3 (Int.toNat x0) false)
    (br (((fits (0 : Nat) (List.length x4) x4) && (decide ((((List.length x4) + (1 : Nat)) * (2 : Nat)) ≤ (70368744177664 : Nat)))) && true)
     (nx (IntKind.wrap .i64 (x0 + (1 : Int))) x1 x2 x3 ((sub x4 (0 : Nat) (List.length x4)) ++ ((1 : Int) :: ([] : List ((Sh.int IntKind.u16).T)))))
     (none))
    (br (((fits (0 : Nat) (List.length x4) x4) && (decide ((((List.length x4) + (1 : Nat)) * (2 : Nat)) ≤ (70368744177664 : Nat)))) && true)
     (nx (IntKind.wrap .i64 (x0 + (1 : Int))) x1 x2 x3 ((sub x4 (0 : Nat) (List.length x4)) ++ ((0 : Int) :: ([] : List ((Sh.int IntKind.u16).T)))))
     (none)))
   (none))
  (k0 x4)
noncomputable def r_Env_l2 (N : Nat) {R : Type} (k0 : TLI → Option R) : Nat → Int → TLL → TLL → TLB → TLI → Option R
  | 0, _, _, _, _, _ => none
  | n + 1, x0, x1, x2, x3, x4 => r_Env_l2_T0 N (@r_Caps N) (fun x0 x1 x2 x3 x4 => r_Env_l2 N k0 n x0 x1 x2 x3 x4) k0 x0 x1 x2 x3 x4
noncomputable def r_Env_l1 (N : Nat) {R : Type} (k0 : Int → TLL → TLL → TLB → TLI → TLI → TLL → Option R) : Nat → Int → Int → TLL → TLL → TLB → TLI → TLI → TLL → Option R
  | 0, _, _, _, _, _, _, _, _ => none
  | n + 1, x0, x1, x2, x3, x4, x5, x6, x7 => r_Env_l1_T0 N (@r_Caps N) (@r_Env_l2 N) (fun x0 x1 x2 x3 x4 x5 x6 x7 => r_Env_l1 N k0 n x0 x1 x2 x3 x4 x5 x6 x7) k0 x0 x1 x2 x3 x4 x5 x6 x7
noncomputable def r_Env_l0 (N : Nat) {R : Type} (k0 : TLL → TLL → TLB → TLI → Option R) : Nat → Int → TLL → TLL → TLB → TLI → TLI → TLL → Option R
  | 0, _, _, _, _, _, _, _ => none
  | n + 1, x0, x1, x2, x3, x4, x5, x6 => r_Env_l0_T0 N (@r_Caps N) (@r_Env_l1 N) (@r_Env_l2 N) (fun x0 x1 x2 x3 x4 x5 x6 => r_Env_l0 N k0 n x0 x1 x2 x3 x4 x5 x6) k0 x0 x1 x2 x3 x4 x5 x6
noncomputable def r_Env_T (N : Nat) (c0 : r_Caps_Ty) (w0 : r_Env_l0_Ty) (w1 : r_Env_l1_Ty) (w2 : r_Env_l2_Ty) {R : Type} (x0 : TLE) (x1 : List (Int)) (x2 : Int) (x3 : Int) (x4 : Int) (x5 : List TLI) (x6 : List TLI) (x7 : List (Bool)) (k0 : TLI → Option R) : Option R :=
  c0 x0 x1 x2 x3 x4
  (fun l1211 => br ((decide (((List.length x5) * (24 : Nat)) ≤ (70368744177664 : Nat))) && true)
   (br (listDec (Sh.dec (.isl (.int .u8))) x6 x6)
    (br (((fits (0 : Nat) (List.length x5) x5) && (decide ((((List.length x5) + (List.length x6)) * (24 : Nat)) ≤ (70368744177664 : Nat)))) && true)
     (w0
      (fun l1219 l1220 l1221 l1222 => w2
       (fun l1223 => k0 l1223)
       N (0 : Int) l1219 l1220 l1221 l1222)
      N (0 : Int) x5 x6 x7 ([] : List ((Sh.int IntKind.u16).T)) l1211 ((sub x5 (0 : Nat) (List.length x5)) ++ x6))
     (none))
    (none))
   (none))
noncomputable def r_Env (N : Nat) {R : Type} (x0 : TLE) (x1 : List (Int)) (x2 : Int) (x3 : Int) (x4 : Int) (x5 : List TLI) (x6 : List TLI) (x7 : List (Bool)) (k0 : TLI → Option R) : Option R := r_Env_T N (@r_Caps N) (@r_Env_l0 N) (@r_Env_l1 N) (@r_Env_l2 N) x0 x1 x2 x3 x4 x5 x6 x7 k0
abbrev law18_CastTurns_Ty : Type 1 := {R : Type} → (TLE) → TLI → Int → Int → Int → TLL → TLL → TLB → TLI → ((Bool) → Option R) → Option R
noncomputable def law18_CastTurns_T (N : Nat) (c0 : r_Same_efae_Ty) (c1 : r_Same_dd91_Ty) (c2 : r_Same_d123_Ty) (c3 : r_Same_7132_Ty) (c4 : r_Same_8fed_Ty) (c5 : r_Same_0654_Ty) (c6 : law18_same_894e_Ty) (c7 : r_Env_Ty) (c8 : c_Input_Ty) (c9 : c_Input_ed18_Ty) (c10 : r_Input_Ty) (c11 : r_Has_Ty) (c12 : r_Has_fd41_Ty) (c13 : c_Vars_66e6_Ty) (c14 : c_Vars_Ty) (c15 : r_May_Ty) (c16 : c_Env_727c_Ty) (c17 : c_Env_Ty) (c18 : c_Env_5fa2_Ty) (c19 : law17_Small_Ty) (c20 : law18_awake_Ty) {R : Type} (x0 : TLE) (x1 : List (Int)) (x2 : Int) (x3 : Int) (x4 : Int) (x5 : List TLI) (x6 : List TLI) (x7 : List (Bool)) (x8 : List (Int)) (k0 : (Bool) → Option R) : Option R :=
  c20
  (fun b329 => br (!b329)
   (k0 false)
   (c19 x0 x1 x2 x3 x4
    (fun b336 => br (!(!b336))
     (br (!(decide ((60 : Int) < (Nat.cast (List.length x5) : Int))))
      (br (!(decide ((60 : Int) < (Nat.cast (List.length x6) : Int))))
       (br (!(decide ((60 : Int) < (Nat.cast (List.length x7) : Int))))
        (br (decide ((300 : Int) < (Nat.cast (List.length x8) : Int)))
         (k0 true)
         (c17 x0 x1 x2 x3 x4 x5 x6 x7
          (fun i484 l485 => c15 x0 x1 x2 x3 x4
           (fun b560 => br (!b560)
            (c8 x0 x1 x2 x3 x4 x8
             (fun i759 l760 l761 l762 => br (decide (i484 = (11 : Int)))
              (br (decide (i759 = (11 : Int)))
               (c14 x0 x1 x2 x3 x4
                (fun i763 => br (decide (i763 = (0 : Int)))
                 (k0 (decide ((Nat.cast (List.length l485) : Int) = (0 : Int))))
                 (k0 false)))
               (k0 false))
              (k0 false))
             (fun n764 n765 n766 n767 i768 n769 l770 l771 => br (decide (i484 = (11 : Int)))
              (br (decide (i768 = (11 : Int)))
               (c14 x0 x1 x2 x3 x4
                (fun i772 => br (decide (i772 = (0 : Int)))
                 (k0 (decide ((Nat.cast (List.length l485) : Int) = (0 : Int))))
                 (k0 false)))
               (k0 false))
              (k0 false))
             (fun n773 n774 n775 n776 i777 l778 l779 => br (decide (i484 = (11 : Int)))
              (br (decide (i777 = (11 : Int)))
               (c14 x0 x1 x2 x3 x4
                (fun i780 => br (decide (i780 = (0 : Int)))
                 (k0 (decide ((Nat.cast (List.length l485) : Int) = (0 : Int))))
                 (k0 false)))
               (k0 false))
              (k0 false)))
            (c11 x0 x1 x2 x3 x4 x5 x6 x7
             (fun b824 => br (!b824)
              (br (!(!(decide (i484 = (12 : Int)))))
               (br (!(decide ((Nat.cast (List.length l485) : Int) = (0 : Int))))
                (k0 false)
                (c8 x0 x1 x2 x3 x4 x8
                 (fun i825 l826 l827 l828 => c10 x0 x1 x2 x3 x4 x8
                  (fun i989 l990 l991 l992 => br (decide (i825 = i989))
                   (c0 l826 l827 l828 l990 l991 l992
                    (fun b1012 l1013 l1014 l1015 l1016 l1017 l1018 => k0 b1012))
                   (k0 false)))
                 (fun n1019 n1020 n1021 n1022 i1023 n1024 l1025 l1026 => c10 x0 x1 x2 x3 x4 x8
                  (fun i1027 l1028 l1029 l1030 => br (decide (i1023 = i1027))
                   (c1 n1019 n1020 n1021 n1022 n1024 l1025 l1026 l1028 l1029 l1030
                    (fun b1056 n1057 l1058 l1059 l1060 l1061 l1062 => k0 b1056))
                   (k0 false)))
                 (fun n1063 n1064 n1065 n1066 i1067 l1068 l1069 => c10 x0 x1 x2 x3 x4 x8
                  (fun i1070 l1071 l1072 l1073 => br (decide (i1067 = i1070))
                   (c2 n1063 n1064 n1065 n1066 l1068 l1069 l1071 l1072 l1073
                    (fun b1093 l1094 l1095 l1096 l1097 l1098 => k0 b1093))
                   (k0 false)))))
               (k0 false))
              (c9 x0 x1 x2 x3 x4 l485
               (fun i1198 l1199 l1200 l1201 l1202 => br (!(!(decide (i484 = (0 : Int)))))
                (br (!(!(decide (i1198 = (0 : Int)))))
                 (c7 x0 x1 x2 x3 x4 x5 x6 x7
                  (fun l1224 => c6 l1199 l1224
                   (fun b1225 l1226 l1227 => br (!(!b1225))
                    (c3 x5 x6 x7 l1200 l1201 l1202
                     (fun b1240 l1241 l1242 l1243 => br (!(!b1240))
                      (c14 x0 x1 x2 x3 x4
                       (fun i1244 => br (!(decide ((Nat.cast (List.length l1226) : Int) = i1244)))
                        (k0 false)
                        (c8 x0 x1 x2 x3 x4 x8
                         (fun i1245 l1246 l1247 l1248 => c10 x0 x1 x2 x3 x4 x8
                          (fun i1249 l1250 l1251 l1252 => br (decide (i1245 = i1249))
                           (c0 l1246 l1247 l1248 l1250 l1251 l1252
                            (fun b1253 l1254 l1255 l1256 l1257 l1258 l1259 => k0 b1253))
                           (k0 false)))
                         (fun n1260 n1261 n1262 n1263 i1264 n1265 l1266 l1267 => c10 x0 x1 x2 x3 x4 x8
                          (fun i1268 l1269 l1270 l1271 => br (decide (i1264 = i1268))
                           (c1 n1260 n1261 n1262 n1263 n1265 l1266 l1267 l1269 l1270 l1271
                            (fun b1272 n1273 l1274 l1275 l1276 l1277 l1278 => k0 b1272))
                           (k0 false)))
                         (fun n1279 n1280 n1281 n1282 i1283 l1284 l1285 => c10 x0 x1 x2 x3 x4 x8
                          (fun i1286 l1287 l1288 l1289 => br (decide (i1283 = i1286))
                           (c2 n1279 n1280 n1281 n1282 l1284 l1285 l1287 l1288 l1289
                            (fun b1290 l1291 l1292 l1293 l1294 l1295 => k0 b1290))
                           (k0 false))))))
                      (k0 false)))
                    (k0 false))))
                 (k0 false))
                (k0 false))
               (fun n1296 n1297 n1298 n1299 i1300 l1301 n1302 l1303 l1304 => br (!(!(decide (i484 = (0 : Int)))))
                (br (!(!(decide (i1300 = (0 : Int)))))
                 (c7 x0 x1 x2 x3 x4 x5 x6 x7
                  (fun l1305 => c6 l1301 l1305
                   (fun b1306 l1307 l1308 => br (!(!b1306))
                    (c4 x5 x6 x7 n1296 n1297 n1298 n1299 n1302 l1303 l1304
                     (fun b1327 n1328 l1329 l1330 => br (!(!b1327))
                      (c14 x0 x1 x2 x3 x4
                       (fun i1331 => br (!(decide ((Nat.cast (List.length l1307) : Int) = i1331)))
                        (k0 false)
                        (c8 x0 x1 x2 x3 x4 x8
                         (fun i1332 l1333 l1334 l1335 => c10 x0 x1 x2 x3 x4 x8
                          (fun i1336 l1337 l1338 l1339 => br (decide (i1332 = i1336))
                           (c0 l1333 l1334 l1335 l1337 l1338 l1339
                            (fun b1340 l1341 l1342 l1343 l1344 l1345 l1346 => k0 b1340))
                           (k0 false)))
                         (fun n1347 n1348 n1349 n1350 i1351 n1352 l1353 l1354 => c10 x0 x1 x2 x3 x4 x8
                          (fun i1355 l1356 l1357 l1358 => br (decide (i1351 = i1355))
                           (c1 n1347 n1348 n1349 n1350 n1352 l1353 l1354 l1356 l1357 l1358
                            (fun b1359 n1360 l1361 l1362 l1363 l1364 l1365 => k0 b1359))
                           (k0 false)))
                         (fun n1366 n1367 n1368 n1369 i1370 l1371 l1372 => c10 x0 x1 x2 x3 x4 x8
                          (fun i1373 l1374 l1375 l1376 => br (decide (i1370 = i1373))
                           (c2 n1366 n1367 n1368 n1369 l1371 l1372 l1374 l1375 l1376
                            (fun b1377 l1378 l1379 l1380 l1381 l1382 => k0 b1377))
                           (k0 false))))))
                      (k0 false)))
                    (k0 false))))
                 (k0 false))
                (k0 false))
               (fun n1383 n1384 n1385 n1386 i1387 l1388 l1389 l1390 => br (!(!(decide (i484 = (0 : Int)))))
                (br (!(!(decide (i1387 = (0 : Int)))))
                 (c7 x0 x1 x2 x3 x4 x5 x6 x7
                  (fun l1391 => c6 l1388 l1391
                   (fun b1392 l1393 l1394 => br (!(!b1392))
                    (c5 x5 x6 x7 n1383 n1384 n1385 n1386 l1389 l1390
                     (fun b1407 l1408 l1409 => br (!(!b1407))
                      (c14 x0 x1 x2 x3 x4
                       (fun i1410 => br (!(decide ((Nat.cast (List.length l1393) : Int) = i1410)))
                        (k0 false)
                        (c8 x0 x1 x2 x3 x4 x8
                         (fun i1411 l1412 l1413 l1414 => c10 x0 x1 x2 x3 x4 x8
                          (fun i1415 l1416 l1417 l1418 => br (decide (i1411 = i1415))
                           (c0 l1412 l1413 l1414 l1416 l1417 l1418
                            (fun b1419 l1420 l1421 l1422 l1423 l1424 l1425 => k0 b1419))
                           (k0 false)))
                         (fun n1426 n1427 n1428 n1429 i1430 n1431 l1432 l1433 => c10 x0 x1 x2 x3 x4 x8
                          (fun i1434 l1435 l1436 l1437 => br (decide (i1430 = i1434))
                           (c1 n1426 n1427 n1428 n1429 n1431 l1432 l1433 l1435 l1436 l1437
                            (fun b1438 n1439 l1440 l1441 l1442 l1443 l1444 => k0 b1438))
                           (k0 false)))
                         (fun n1445 n1446 n1447 n1448 i1449 l1450 l1451 => c10 x0 x1 x2 x3 x4 x8
                          (fun i1452 l1453 l1454 l1455 => br (decide (i1449 = i1452))
                           (c2 n1445 n1446 n1447 n1448 l1450 l1451 l1453 l1454 l1455
                            (fun b1456 l1457 l1458 l1459 l1460 l1461 => k0 b1456))
                           (k0 false))))))
                      (k0 false)))
                    (k0 false))))
                 (k0 false))
                (k0 false)))))))))
        (k0 true))
       (k0 true))
      (k0 true))
     (k0 true))))
noncomputable def law18_CastTurns (N : Nat) {R : Type} (x0 : TLE) (x1 : List (Int)) (x2 : Int) (x3 : Int) (x4 : Int) (x5 : List TLI) (x6 : List TLI) (x7 : List (Bool)) (x8 : List (Int)) (k0 : (Bool) → Option R) : Option R := law18_CastTurns_T N (@r_Same_efae N) (@r_Same_dd91 N) (@r_Same_d123 N) (@r_Same_7132 N) (@r_Same_8fed N) (@r_Same_0654 N) (@law18_same_894e N) (@r_Env N) (@c_Input N) (@c_Input_ed18 N) (@r_Input N) (@r_Has N) (@r_Has_fd41 N) (@c_Vars_66e6 N) (@c_Vars N) (@r_May N) (@c_Env_727c N) (@c_Env N) (@c_Env_5fa2 N) (@law17_Small N) (@law18_awake N) x0 x1 x2 x3 x4 x5 x6 x7 x8 k0
end Go.Proofs.Ytlfhmecdgfennaa
