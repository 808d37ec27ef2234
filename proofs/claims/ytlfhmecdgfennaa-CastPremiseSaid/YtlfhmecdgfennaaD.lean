/-
  The functions that the statement reaches, each as a function of Lean (printed by a program of this work).
-/
import Derived.Test.YtlfhmecdgfennaaGx5
set_option linter.unusedVariables false
set_option maxRecDepth 100000
namespace Go.Proofs.Ytlfhmecdgfennaa
open Go.Gx
abbrev T0 : Type := (Int) × ((Int) × ((Int) × ((Int) × ((Int) × (Int)))))
abbrev T1 : Type := (ByteArray) × ((Bool) × (Int))
abbrev T2 : Type := List (Int)
abbrev T3 : Type := List ((Int) × (Int))
abbrev T4 : Type := List (T0 × (Int))
abbrev T5 : Type := List T1
abbrev T6 : Type := ((ByteArray) × (ByteArray)) × ((Int) × (Bool))
abbrev T7 : Type := List T2
abbrev T8 : Type := List (Bool)
abbrev T9 : Type := List T0
abbrev stringslite_IndexByte_Ty : Type 1 := {R : Type} → ByteArray → Int → (Int → Option R) → Option R
abbrev stringslite_Index_Ty : Type 1 := {R : Type} → ByteArray → ByteArray → (Int → Option R) → Option R
noncomputable def stringslite_Index_T (N : Nat) (c0 : stringslite_IndexByte_Ty) {R : Type} (x0 : ByteArray) (x1 : ByteArray) (k0 : Int → Option R) : Option R :=
  br (!(decide ((Nat.cast (ByteArray.size x1) : Int) = (0 : Int))))
  (br (decide (x1 = x0))
   (k0 (0 : Int))
   (br (decide ((Nat.cast (ByteArray.size x1) : Int) = (1 : Int)))
    (br (inB (0 : Int) (ByteArray.size x1))
     (c0 x0 (bt x1 (0 : Int))
      (fun i0 => k0 i0))
     (none))
    (br (decide ((Nat.cast (ByteArray.size x0) : Int) ≤ (Nat.cast (ByteArray.size x1) : Int)))
     (k0 (-1 : Int))
     (none))))
  (k0 (0 : Int))
noncomputable def stringslite_Index (N : Nat) {R : Type} (x0 : ByteArray) (x1 : ByteArray) (k0 : Int → Option R) : Option R := stringslite_Index_T N @stringslite_IndexByte x0 x1 k0
abbrev stringslite_Cut_Ty : Type 1 := {R : Type} → ByteArray → ByteArray → (ByteArray → ByteArray → Bool → Option R) → Option R
noncomputable def stringslite_Cut_T (N : Nat) (c0 : stringslite_Index_Ty) {R : Type} (x0 : ByteArray) (x1 : ByteArray) (k0 : ByteArray → ByteArray → Bool → Option R) : Option R :=
  c0 x0 x1
  (fun i1 => br (decide ((0 : Int) ≤ i1))
   (br (leB i1 (ByteArray.size x0))
    (br (leB (IntKind.wrap .i64 (i1 + (Nat.cast (ByteArray.size x1) : Int))) (ByteArray.size x0))
     (k0 (ByteArray.extract x0 (0 : Nat) (Int.toNat i1)) (ByteArray.extract x0 (Int.toNat (IntKind.wrap .i64 (i1 + (Nat.cast (ByteArray.size x1) : Int)))) (ByteArray.size x0)) true)
     (none))
    (none))
   (k0 x0 (bs []) false))
noncomputable def stringslite_Cut (N : Nat) {R : Type} (x0 : ByteArray) (x1 : ByteArray) (k0 : ByteArray → ByteArray → Bool → Option R) : Option R := stringslite_Cut_T N (@stringslite_Index N) x0 x1 k0
abbrev strings_Cut_Ty : Type 1 := {R : Type} → ByteArray → ByteArray → (ByteArray → ByteArray → Bool → Option R) → Option R
noncomputable def strings_Cut_T (N : Nat) (c0 : stringslite_Cut_Ty) {R : Type} (x0 : ByteArray) (x1 : ByteArray) (k0 : ByteArray → ByteArray → Bool → Option R) : Option R :=
  c0 x0 x1
  (fun s2 s3 b4 => k0 s2 s3 b4)
noncomputable def strings_Cut (N : Nat) {R : Type} (x0 : ByteArray) (x1 : ByteArray) (k0 : ByteArray → ByteArray → Bool → Option R) : Option R := strings_Cut_T N (@stringslite_Cut N) x0 x1 k0
abbrev check_letter_Ty : Type 1 := {R : Type} → Int → (Bool → Option R) → Option R
noncomputable def check_letter_T (N : Nat) {R : Type} (x0 : Int) (k0 : Bool → Option R) : Option R :=
  br (decide ((97 : Int) ≤ x0))
  (br (!(decide (x0 ≤ (122 : Int))))
   (br (decide ((48 : Int) ≤ x0))
    (br (!(decide (x0 ≤ (57 : Int))))
     (br (!(decide (x0 = (46 : Int))))
      (k0 (decide (x0 = (95 : Int))))
      (k0 true))
     (k0 true))
    (br (!(decide (x0 = (46 : Int))))
     (k0 (decide (x0 = (95 : Int))))
     (k0 true)))
   (k0 true))
  (br (decide ((48 : Int) ≤ x0))
   (br (!(decide (x0 ≤ (57 : Int))))
    (br (!(decide (x0 = (46 : Int))))
     (k0 (decide (x0 = (95 : Int))))
     (k0 true))
    (k0 true))
   (br (!(decide (x0 = (46 : Int))))
    (k0 (decide (x0 = (95 : Int))))
    (k0 true)))
noncomputable def check_letter (N : Nat) {R : Type} (x0 : Int) (k0 : Bool → Option R) : Option R := check_letter_T N x0 k0
abbrev check_part_l0_Ty : Type 1 := {R : Type} → (ByteArray → Bool → Option R) → (ByteArray → Option R) → Nat → ByteArray → Int → Int → Option R
abbrev check_part_Ty : Type 1 := {R : Type} → ByteArray → (Bool → Option R) → Option R
noncomputable def check_part_l0_T0 (N : Nat) (c0 : check_letter_Ty) {R : Type} (nx : ByteArray → Int → Int → Option R) (k0 : ByteArray → Bool → Option R) (k1 : ByteArray → Option R) (x0 : ByteArray) (x1 : Int) (x2 : Int) : Option R :=
  br (decide (x2 < x1))
  (br (inB x2 (ByteArray.size x0))
   (c0 (bt x0 x2)
    (fun b8 => br (!b8)
     (k0 x0 false)
     (nx x0 x1 (IntKind.wrap .i64 (x2 + (1 : Int))))))
   (none))
  (k1 x0)
noncomputable def check_part_l0 (N : Nat) {R : Type} (k0 : ByteArray → Bool → Option R) (k1 : ByteArray → Option R) : Nat → ByteArray → Int → Int → Option R
  | 0, _, _, _ => none
  | n + 1, x0, x1, x2 => check_part_l0_T0 N (@check_letter N) (fun x0 x1 x2 => check_part_l0 N k0 k1 n x0 x1 x2) k0 k1 x0 x1 x2
noncomputable def check_part_T (N : Nat) (c0 : check_letter_Ty) (w0 : check_part_l0_Ty) {R : Type} (x0 : ByteArray) (k0 : Bool → Option R) : Option R :=
  w0
  (fun s9 b10 => k0 b10)
  (fun s11 => br (!(decide (s11 = (bs []))))
   (br (!(decide (s11 = (bs [46]))))
    (k0 (!(decide (s11 = (bs [46, 46])))))
    (k0 false))
   (k0 false))
  N x0 (Nat.cast (ByteArray.size x0) : Int) (0 : Int)
noncomputable def check_part (N : Nat) {R : Type} (x0 : ByteArray) (k0 : Bool → Option R) : Option R := check_part_T N (@check_letter N) (@check_part_l0 N) x0 k0
abbrev check_Name_Ty : Type 1 := {R : Type} → ByteArray → (Bool → Option R) → Option R
noncomputable def check_Name_T (N : Nat) (c0 : check_part_Ty) (c1 : strings_Cut_Ty) {R : Type} (x0 : ByteArray) (k0 : Bool → Option R) : Option R :=
  br (decide ((8 : Int) < (Nat.cast (ByteArray.size x0) : Int)))
  (k0 false)
  (c1 x0 (bs [47])
   (fun s5 s6 b7 => c0 s5
    (fun b12 => br b12
     (br (!(!b7))
      (c0 s6
       (fun b13 => k0 b13))
      (k0 true))
     (k0 false))))
noncomputable def check_Name (N : Nat) {R : Type} (x0 : ByteArray) (k0 : Bool → Option R) : Option R := check_Name_T N (@check_part N) (@strings_Cut N) x0 k0
abbrev names_May_Ty : Type 1 := {R : Type} → ByteArray → (Bool → Option R) → Option R
noncomputable def names_May_T (N : Nat) (c0 : check_Name_Ty) {R : Type} (x0 : ByteArray) (k0 : Bool → Option R) : Option R :=
  c0 x0
  (fun b14 => k0 b14)
noncomputable def names_May (N : Nat) {R : Type} (x0 : ByteArray) (k0 : Bool → Option R) : Option R := names_May_T N (@check_Name N) x0 k0
abbrev names_Split_Ty : Type 1 := {R : Type} → ByteArray → (ByteArray → ByteArray → Option R) → Option R
noncomputable def names_Split_T (N : Nat) (c0 : strings_Cut_Ty) (c1 : names_May_Ty) {R : Type} (x0 : ByteArray) (k0 : ByteArray → ByteArray → Option R) : Option R :=
  c1 x0
  (fun b16 => br (!b16)
   (k0 (bs []) (bs []))
   (c0 x0 (bs [47])
    (fun s17 s18 b19 => br (!b19)
     (k0 (bs []) s17)
     (k0 s17 s18))))
noncomputable def names_Split (N : Nat) {R : Type} (x0 : ByteArray) (k0 : ByteArray → ByteArray → Option R) : Option R := names_Split_T N (@strings_Cut N) (@names_May N) x0 k0
abbrev tree_of_Ty : Type 1 := {R : Type} → ByteArray → (ByteArray → ByteArray → Option R) → Option R
noncomputable def tree_of_T (N : Nat) (c0 : names_Split_Ty) {R : Type} (x0 : ByteArray) (k0 : ByteArray → ByteArray → Option R) : Option R :=
  c0 x0
  (fun s20 s21 => k0 s20 s21)
noncomputable def tree_of (N : Nat) {R : Type} (x0 : ByteArray) (k0 : ByteArray → ByteArray → Option R) : Option R := tree_of_T N (@names_Split N) x0 k0
abbrev tree_Tree_above_2de7_Ty : Type 1 := {R : Type} → ByteArray → ByteArray → Int → (List T6) → (Int → Int → (List T6) → Option R) → Option R
noncomputable def tree_Tree_above_2de7_T (N : Nat) {R : Type} (x0 : ByteArray) (x1 : ByteArray) (x2 : Int) (x3 : List T6) (k0 : Int → Int → (List T6) → Option R) : Option R :=
  br (decide (x1 = (bs [])))
  (k0 (65282 : Int) x2 x3)
  (br (decide (x0 = (bs [])))
   (k0 (0 : Int) x2 x3)
   (br ((Option.isSome (mfind (.pair .str .str) (.pair (.int .i64) .bool) x3 ((bs []) , x0))) == (Option.isSome (mfind (.pair .str .str) (.pair (.int .i64) .bool) x3 ((bs []) , x0))))
    (br (!(Option.isSome (mfind (.pair .str .str) (.pair (.int .i64) .bool) x3 ((bs []) , x0))))
     (k0 (65282 : Int) x2 x3)
     (br (!(Option.getD (mfind (.pair .str .str) (.pair (.int .i64) .bool) x3 ((bs []) , x0)) ((0 : Int) , false)).2)
      (k0 (65300 : Int) x2 x3)
      (k0 (0 : Int) x2 x3)))
    (none)))
noncomputable def tree_Tree_above_2de7 (N : Nat) {R : Type} (x0 : ByteArray) (x1 : ByteArray) (x2 : Int) (x3 : List T6) (k0 : Int → Int → (List T6) → Option R) : Option R := tree_Tree_above_2de7_T N x0 x1 x2 x3 k0
abbrev tree_Tree_Make_c502_Ty : Type 1 := {R : Type} → ByteArray → Bool → Int → (List T6) → (Int → Int → Int → (List T6) → Option R) → Option R
noncomputable def tree_Tree_Make_c502_T (N : Nat) (c0 : tree_Tree_above_2de7_Ty) (c1 : tree_of_Ty) {R : Type} (x0 : ByteArray) (x1 : Bool) (x2 : Int) (x3 : List T6) (k0 : Int → Int → Int → (List T6) → Option R) : Option R :=
  c1 x0
  (fun s22 s23 => c0 s22 s23 x2 x3
   (fun i24 i25 l26 => br (!(decide (i24 = (0 : Int))))
    (k0 (-1 : Int) i24 i25 l26)
    (br ((Option.isSome (mfind (.pair .str .str) (.pair (.int .i64) .bool) l26 (s22 , s23))) == (Option.isSome (mfind (.pair .str .str) (.pair (.int .i64) .bool) l26 (s22 , s23))))
     (br (Option.isSome (mfind (.pair .str .str) (.pair (.int .i64) .bool) l26 (s22 , s23)))
      (k0 (-1 : Int) (65297 : Int) i25 l26)
      (br x1
       (br (!(decide (s22 = (bs []))))
        (k0 (-1 : Int) (65302 : Int) i25 l26)
        (br (decide ((8 : Int) ≤ (Nat.cast (List.length l26) : Int)))
         (k0 (-1 : Int) (65308 : Int) i25 l26)
         (k0 (IntKind.wrap .i64 ((IntKind.wrap .i64 (i25 + (1 : Int))) - (1 : Int))) (0 : Int) (IntKind.wrap .i64 (i25 + (1 : Int))) (mput (.pair .str .str) (.pair (.int .i64) .bool) l26 (s22 , s23) (i25 , x1)))))
       (br (decide ((8 : Int) ≤ (Nat.cast (List.length l26) : Int)))
        (k0 (-1 : Int) (65308 : Int) i25 l26)
        (k0 (IntKind.wrap .i64 ((IntKind.wrap .i64 (i25 + (1 : Int))) - (1 : Int))) (0 : Int) (IntKind.wrap .i64 (i25 + (1 : Int))) (mput (.pair .str .str) (.pair (.int .i64) .bool) l26 (s22 , s23) (i25 , x1))))))
     (none))))
noncomputable def tree_Tree_Make_c502 (N : Nat) {R : Type} (x0 : ByteArray) (x1 : Bool) (x2 : Int) (x3 : List T6) (k0 : Int → Int → Int → (List T6) → Option R) : Option R := tree_Tree_Make_c502_T N (@tree_Tree_above_2de7 N) (@tree_of N) x0 x1 x2 x3 k0
abbrev tree_New_644a_l0_Ty : Type 1 := {R : Type} → (Int → T5 → Int → (List T6) → Option R) → (T5 → Int → (List T6) → Option R) → Nat → Int → Int → T5 → Int → (List T6) → Option R
abbrev tree_New_644a_Ty : Type 1 := {R : Type} → T5 → (Int → T5 → Option R) → (Int → T5 → Int → (List T6) → Option R) → Option R
noncomputable def tree_New_644a_l0_T0 (N : Nat) (c0 : tree_Tree_Make_c502_Ty) (c1 : names_May_Ty) {R : Type} (nx : Int → Int → T5 → Int → (List T6) → Option R) (k0 : Int → T5 → Int → (List T6) → Option R) (k1 : T5 → Int → (List T6) → Option R) (x0 : Int) (x1 : Int) (x2 : T5) (x3 : Int) (x4 : List T6) : Option R :=
  br (decide (x1 < x0))
  (br (inB x1 (List.length x2))
   (br (decide ((Int.toNat x1) < (List.length x2)))
    (c1 (List.getD x2 (Int.toNat x1) ((bs []) , (false , (0 : Int)))).1
     (fun b15 => br (!b15)
      (k0 (11 : Int) x2 x3 x4)
      (c0 (List.getD x2 (Int.toNat x1) ((bs []) , (false , (0 : Int)))).1 (List.getD x2 (Int.toNat x1) ((bs []) , (false , (0 : Int)))).2.1 x3 x4
       (fun i27 i28 i29 l30 => br (!(decide (i28 = (0 : Int))))
        (k0 (11 : Int) x2 i29 l30)
        (nx x0 (IntKind.wrap .i64 (x1 + (1 : Int))) x2 i29 l30)))))
    (none))
   (none))
  (k1 x2 x3 x4)
noncomputable def tree_New_644a_l0 (N : Nat) {R : Type} (k0 : Int → T5 → Int → (List T6) → Option R) (k1 : T5 → Int → (List T6) → Option R) : Nat → Int → Int → T5 → Int → (List T6) → Option R
  | 0, _, _, _, _, _ => none
  | n + 1, x0, x1, x2, x3, x4 => tree_New_644a_l0_T0 N (@tree_Tree_Make_c502 N) (@names_May N) (fun x0 x1 x2 x3 x4 => tree_New_644a_l0 N k0 k1 n x0 x1 x2 x3 x4) k0 k1 x0 x1 x2 x3 x4
noncomputable def tree_New_644a_T (N : Nat) (c0 : tree_Tree_Make_c502_Ty) (c1 : names_May_Ty) (w0 : tree_New_644a_l0_Ty) {R : Type} (x0 : T5) (k0 : Int → T5 → Option R) (k1 : Int → T5 → Int → (List T6) → Option R) : Option R :=
  br (decide ((8 : Int) < (Nat.cast (List.length x0) : Int)))
  (k0 (11 : Int) x0)
  (w0
   (fun i31 l32 i33 l34 => k0 i31 l32)
   (fun l35 i36 l37 => k1 (0 : Int) l35 i36 l37)
   N (Nat.cast (List.length x0) : Int) (0 : Int) x0 (0 : Int) ([] : List (((Sh.str.pair Sh.str).T) × (((Sh.int IntKind.i64).pair Sh.bool).T))))
noncomputable def tree_New_644a (N : Nat) {R : Type} (x0 : T5) (k0 : Int → T5 → Option R) (k1 : Int → T5 → Int → (List T6) → Option R) : Option R := tree_New_644a_T N (@tree_Tree_Make_c502 N) (@names_May N) (@tree_New_644a_l0 N) x0 k0 k1
abbrev tree_New_l0_Ty : Type 1 := {R : Type} → (Int → Int → (List T6) → Option R) → (Int → (List T6) → Option R) → Nat → T5 → Int → Int → Int → (List T6) → Option R
abbrev tree_New_Ty : Type 1 := {R : Type} → T5 → (Int → Option R) → (Int → Int → (List T6) → Option R) → Option R
noncomputable def tree_New_l0_T0 (N : Nat) (c0 : tree_Tree_Make_c502_Ty) (c1 : names_May_Ty) {R : Type} (nx : T5 → Int → Int → Int → (List T6) → Option R) (k0 : Int → Int → (List T6) → Option R) (k1 : Int → (List T6) → Option R) (x0 : T5) (x1 : Int) (x2 : Int) (x3 : Int) (x4 : List T6) : Option R :=
  br (decide (x2 < x1))
  (br (inB x2 (List.length x0))
   (c1 (List.getD x0 (Int.toNat x2) ((bs []) , (false , (0 : Int)))).1
    (fun b340 => br (!b340)
     (k0 (11 : Int) x3 x4)
     (c0 (List.getD x0 (Int.toNat x2) ((bs []) , (false , (0 : Int)))).1 (List.getD x0 (Int.toNat x2) ((bs []) , (false , (0 : Int)))).2.1 x3 x4
      (fun i341 i342 i343 l344 => br (!(decide (i342 = (0 : Int))))
       (k0 (11 : Int) i343 l344)
       (nx x0 x1 (IntKind.wrap .i64 (x2 + (1 : Int))) i343 l344)))))
   (none))
  (k1 x3 x4)
noncomputable def tree_New_l0 (N : Nat) {R : Type} (k0 : Int → Int → (List T6) → Option R) (k1 : Int → (List T6) → Option R) : Nat → T5 → Int → Int → Int → (List T6) → Option R
  | 0, _, _, _, _, _ => none
  | n + 1, x0, x1, x2, x3, x4 => tree_New_l0_T0 N (@tree_Tree_Make_c502 N) (@names_May N) (fun x0 x1 x2 x3 x4 => tree_New_l0 N k0 k1 n x0 x1 x2 x3 x4) k0 k1 x0 x1 x2 x3 x4
noncomputable def tree_New_T (N : Nat) (c0 : tree_Tree_Make_c502_Ty) (c1 : names_May_Ty) (w0 : tree_New_l0_Ty) {R : Type} (x0 : T5) (k0 : Int → Option R) (k1 : Int → Int → (List T6) → Option R) : Option R :=
  br (decide ((8 : Int) < (Nat.cast (List.length x0) : Int)))
  (k0 (11 : Int))
  (w0
   (fun i345 i346 l347 => k0 i345)
   (fun i348 l349 => k1 (0 : Int) i348 l349)
   N x0 (Nat.cast (List.length x0) : Int) (0 : Int) (0 : Int) ([] : List (((Sh.str.pair Sh.str).T) × (((Sh.int IntKind.i64).pair Sh.bool).T))))
noncomputable def tree_New (N : Nat) {R : Type} (x0 : T5) (k0 : Int → Option R) (k1 : Int → Int → (List T6) → Option R) : Option R := tree_New_T N (@tree_Tree_Make_c502 N) (@names_May N) (@tree_New_l0 N) x0 k0 k1
abbrev class_Files_66e6_l0_Ty : Type 1 := {R : Type} → (T5 → T2 → T2 → Option R) → Nat → Int → Int → T5 → T2 → T2 → Option R
abbrev class_Files_66e6_Ty : Type 1 := {R : Type} → Int → Int → Int → T5 → T2 → (T5 → T2 → T2 → Option R) → Option R
noncomputable def class_Files_66e6_l0_T0 (N : Nat) {R : Type} (nx : Int → Int → T5 → T2 → T2 → Option R) (k0 : T5 → T2 → T2 → Option R) (x0 : Int) (x1 : Int) (x2 : T5) (x3 : T2) (x4 : T2) : Option R :=
  br (decide (x1 < x0))
  (br (inB x1 (List.length x2))
   (br (decide ((Int.toNat x1) < (List.length x2)))
    (br (!(List.getD x2 (Int.toNat x1) ((bs []) , (false , (0 : Int)))).2.1)
     (br (((fits (0 : Nat) (List.length x4) x4) && (decide ((((List.length x4) + (1 : Nat)) * (8 : Nat)) ≤ (70368744177664 : Nat)))) && true)
      (nx x0 (IntKind.wrap .i64 (x1 + (1 : Int))) x2 x3 ((sub x4 (0 : Nat) (List.length x4)) ++ (x1 :: ([] : List ((Sh.int IntKind.i64).T)))))
      (none))
     (nx x0 (IntKind.wrap .i64 (x1 + (1 : Int))) x2 x3 x4))
    (none))
   (none))
  (k0 x2 x3 x4)
noncomputable def class_Files_66e6_l0 (N : Nat) {R : Type} (k0 : T5 → T2 → T2 → Option R) : Nat → Int → Int → T5 → T2 → T2 → Option R
  | 0, _, _, _, _, _ => none
  | n + 1, x0, x1, x2, x3, x4 => class_Files_66e6_l0_T0 N (fun x0 x1 x2 x3 x4 => class_Files_66e6_l0 N k0 n x0 x1 x2 x3 x4) k0 x0 x1 x2 x3 x4
noncomputable def class_Files_66e6_T (N : Nat) (w0 : class_Files_66e6_l0_Ty) {R : Type} (x0 : Int) (x1 : Int) (x2 : Int) (x3 : T5) (x4 : T2) (k0 : T5 → T2 → T2 → Option R) : Option R :=
  w0
  (fun l40 l41 l42 => k0 l40 l41 l42)
  N (Nat.cast (List.length x3) : Int) (0 : Int) x3 x4 ([] : List ((Sh.int IntKind.i64).T))
noncomputable def class_Files_66e6 (N : Nat) {R : Type} (x0 : Int) (x1 : Int) (x2 : Int) (x3 : T5) (x4 : T2) (k0 : T5 → T2 → T2 → Option R) : Option R := class_Files_66e6_T N (@class_Files_66e6_l0 N) x0 x1 x2 x3 x4 k0
abbrev class_Files_l0_Ty : Type 1 := {R : Type} → (T2 → Option R) → Nat → T5 → Int → Int → T2 → Option R
abbrev class_Files_Ty : Type 1 := {R : Type} → T5 → T2 → Int → Int → Int → (T2 → Option R) → Option R
noncomputable def class_Files_l0_T0 (N : Nat) {R : Type} (nx : T5 → Int → Int → T2 → Option R) (k0 : T2 → Option R) (x0 : T5) (x1 : Int) (x2 : Int) (x3 : T2) : Option R :=
  br (decide (x2 < x1))
  (br (inB x2 (List.length x0))
   (br (!(List.getD x0 (Int.toNat x2) ((bs []) , (false , (0 : Int)))).2.1)
    (br (((fits (0 : Nat) (List.length x3) x3) && (decide ((((List.length x3) + (1 : Nat)) * (8 : Nat)) ≤ (70368744177664 : Nat)))) && true)
     (nx x0 x1 (IntKind.wrap .i64 (x2 + (1 : Int))) ((sub x3 (0 : Nat) (List.length x3)) ++ (x2 :: ([] : List ((Sh.int IntKind.i64).T)))))
     (none))
    (nx x0 x1 (IntKind.wrap .i64 (x2 + (1 : Int))) x3))
   (none))
  (k0 x3)
noncomputable def class_Files_l0 (N : Nat) {R : Type} (k0 : T2 → Option R) : Nat → T5 → Int → Int → T2 → Option R
  | 0, _, _, _, _ => none
  | n + 1, x0, x1, x2, x3 => class_Files_l0_T0 N (fun x0 x1 x2 x3 => class_Files_l0 N k0 n x0 x1 x2 x3) k0 x0 x1 x2 x3
noncomputable def class_Files_T (N : Nat) (w0 : class_Files_l0_Ty) {R : Type} (x0 : T5) (x1 : T2) (x2 : Int) (x3 : Int) (x4 : Int) (k0 : T2 → Option R) : Option R :=
  w0
  (fun l351 => k0 l351)
  N x0 (Nat.cast (List.length x0) : Int) (0 : Int) ([] : List ((Sh.int IntKind.i64).T))
noncomputable def class_Files (N : Nat) {R : Type} (x0 : T5) (x1 : T2) (x2 : Int) (x3 : Int) (x4 : Int) (k0 : T2 → Option R) : Option R := class_Files_T N (@class_Files_l0 N) x0 x1 x2 x3 x4 k0
abbrev class_fits_Ty : Type 1 := {R : Type} → Int → Int → (Bool → Option R) → Option R
noncomputable def class_fits_T (N : Nat) {R : Type} (x0 : Int) (x1 : Int) (k0 : Bool → Option R) : Option R :=
  br (decide ((0 : Int) ≤ x0))
  (k0 (decide (x0 ≤ x1)))
  (k0 false)
noncomputable def class_fits (N : Nat) {R : Type} (x0 : Int) (x1 : Int) (k0 : Bool → Option R) : Option R := class_fits_T N x0 x1 k0
abbrev class_May_66e6_l0_Ty : Type 1 := {R : Type} → (Bool → T5 → T2 → Int → Int → Int → Option R) → (T5 → T2 → Int → Int → Int → Option R) → Nat → Int → Int → T5 → T2 → Int → Int → Int → Option R
abbrev class_May_66e6_l1_Ty : Type 1 := {R : Type} → (Bool → T5 → T2 → Int → Int → Int → Option R) → (T5 → T2 → Int → Int → Int → Option R) → Nat → Int → Int → T5 → T2 → Int → Int → Int → Option R
abbrev class_May_66e6_Ty : Type 1 := {R : Type} → Int → Int → Int → T5 → T2 → (Bool → T5 → T2 → Option R) → Option R
noncomputable def class_May_66e6_l0_T0 (N : Nat) (c0 : class_fits_Ty) (c1 : class_Files_66e6_Ty) (c2 : class_Files_Ty) (c3 : tree_New_644a_Ty) (c4 : tree_New_Ty) (w1 : class_May_66e6_l1_Ty) {R : Type} (nx : Int → Int → T5 → T2 → Int → Int → Int → Option R) (k0 : Bool → T5 → T2 → Int → Int → Int → Option R) (k1 : T5 → T2 → Int → Int → Int → Option R) (x0 : Int) (x1 : Int) (x2 : T5) (x3 : T2) (x4 : Int) (x5 : Int) (x6 : Int) : Option R :=
  br (decide (x1 < x0))
  (br (inB x1 (List.length x2))
   (br (decide ((Int.toNat x1) < (List.length x2)))
    (c0 (List.getD x2 (Int.toNat x1) ((bs []) , (false , (0 : Int)))).2.2 (3 : Int)
     (fun b46 => br (!(!b46))
      (br (List.getD x2 (Int.toNat x1) ((bs []) , (false , (0 : Int)))).2.1
       (br (!(decide ((List.getD x2 (Int.toNat x1) ((bs []) , (false , (0 : Int)))).2.2 = (0 : Int))))
        (k0 false x2 x3 x4 x5 x6)
        (nx x0 (IntKind.wrap .i64 (x1 + (1 : Int))) x2 x3 x4 x5 x6))
       (nx x0 (IntKind.wrap .i64 (x1 + (1 : Int))) x2 x3 x4 x5 x6))
      (k0 false x2 x3 x4 x5 x6)))
    (none))
   (none))
  (k1 x2 x3 x4 x5 x6)
noncomputable def class_May_66e6_l1_T0 (N : Nat) (c0 : class_fits_Ty) (c1 : class_Files_66e6_Ty) (c2 : class_Files_Ty) (c3 : tree_New_644a_Ty) (c4 : tree_New_Ty) {R : Type} (nx : Int → Int → T5 → T2 → Int → Int → Int → Option R) (k0 : Bool → T5 → T2 → Int → Int → Int → Option R) (k1 : T5 → T2 → Int → Int → Int → Option R) (x0 : Int) (x1 : Int) (x2 : T5) (x3 : T2) (x4 : Int) (x5 : Int) (x6 : Int) : Option R :=
  br (decide (x1 < x0))
  (br (inB x1 (List.length x3))
   (br (decide ((Int.toNat x1) < (List.length x3)))
    (c0 (List.getD x3 (Int.toNat x1) (0 : Int)) (3 : Int)
     (fun b58 => br (!b58)
      (k0 false x2 x3 x4 x5 x6)
      (nx x0 (IntKind.wrap .i64 (x1 + (1 : Int))) x2 x3 x4 x5 x6)))
    (none))
   (none))
  (k1 x2 x3 x4 x5 x6)
noncomputable def class_May_66e6_l1 (N : Nat) {R : Type} (k0 : Bool → T5 → T2 → Int → Int → Int → Option R) (k1 : T5 → T2 → Int → Int → Int → Option R) : Nat → Int → Int → T5 → T2 → Int → Int → Int → Option R
  | 0, _, _, _, _, _, _, _ => none
  | n + 1, x0, x1, x2, x3, x4, x5, x6 => class_May_66e6_l1_T0 N (@class_fits N) (@class_Files_66e6 N) (@class_Files N) (@tree_New_644a N) (@tree_New N) (fun x0 x1 x2 x3 x4 x5 x6 => class_May_66e6_l1 N k0 k1 n x0 x1 x2 x3 x4 x5 x6) k0 k1 x0 x1 x2 x3 x4 x5 x6
noncomputable def class_May_66e6_l0 (N : Nat) {R : Type} (k0 : Bool → T5 → T2 → Int → Int → Int → Option R) (k1 : T5 → T2 → Int → Int → Int → Option R) : Nat → Int → Int → T5 → T2 → Int → Int → Int → Option R
  | 0, _, _, _, _, _, _, _ => none
  | n + 1, x0, x1, x2, x3, x4, x5, x6 => class_May_66e6_l0_T0 N (@class_fits N) (@class_Files_66e6 N) (@class_Files N) (@tree_New_644a N) (@tree_New N) (@class_May_66e6_l1 N) (fun x0 x1 x2 x3 x4 x5 x6 => class_May_66e6_l0 N k0 k1 n x0 x1 x2 x3 x4 x5 x6) k0 k1 x0 x1 x2 x3 x4 x5 x6
noncomputable def class_May_66e6_T (N : Nat) (c0 : class_fits_Ty) (c1 : class_Files_66e6_Ty) (c2 : class_Files_Ty) (c3 : tree_New_644a_Ty) (c4 : tree_New_Ty) (w0 : class_May_66e6_l0_Ty) (w1 : class_May_66e6_l1_Ty) {R : Type} (x0 : Int) (x1 : Int) (x2 : Int) (x3 : T5) (x4 : T2) (k0 : Bool → T5 → T2 → Option R) : Option R :=
  c3 x3
  (fun i38 l39 => br (!(!(decide (i38 = (0 : Int)))))
   (c1 x0 x1 x2 l39 x4
    (fun l43 l44 l45 => br (!(decide ((4 : Int) < (Nat.cast (List.length l45) : Int))))
     (br (decide ((2 : Int) < (Nat.cast (List.length l44) : Int)))
      (k0 false l43 l44)
      (w0
       (fun b47 l48 l49 i50 i51 i52 => k0 b47 l48 l49)
       (fun l53 l54 i55 i56 i57 => w1
        (fun b59 l60 l61 i62 i63 i64 => k0 b59 l60 l61)
        (fun l65 l66 i67 i68 i69 => c0 i67 (6 : Int)
         (fun b70 => br b70
          (c0 i68 i67
           (fun b71 => br b71
            (c0 i69 (400 : Int)
             (fun b72 => k0 b72 l65 l66))
            (k0 false l65 l66)))
          (k0 false l65 l66)))
        N (Nat.cast (List.length l54) : Int) (0 : Int) l53 l54 i55 i56 i57)
       N (Nat.cast (List.length l43) : Int) (0 : Int) l43 l44 x0 x1 x2))
     (k0 false l43 l44)))
   (k0 false l39 x4))
  (fun i73 l74 i75 l76 => br (!(!(decide (i73 = (0 : Int)))))
   (c1 x0 x1 x2 l74 x4
    (fun l77 l78 l79 => br (!(decide ((4 : Int) < (Nat.cast (List.length l79) : Int))))
     (br (decide ((2 : Int) < (Nat.cast (List.length l78) : Int)))
      (k0 false l77 l78)
      (w0
       (fun b80 l81 l82 i83 i84 i85 => k0 b80 l81 l82)
       (fun l86 l87 i88 i89 i90 => w1
        (fun b91 l92 l93 i94 i95 i96 => k0 b91 l92 l93)
        (fun l97 l98 i99 i100 i101 => c0 i99 (6 : Int)
         (fun b102 => br b102
          (c0 i100 i99
           (fun b103 => br b103
            (c0 i101 (400 : Int)
             (fun b104 => k0 b104 l97 l98))
            (k0 false l97 l98)))
          (k0 false l97 l98)))
        N (Nat.cast (List.length l87) : Int) (0 : Int) l86 l87 i88 i89 i90)
       N (Nat.cast (List.length l77) : Int) (0 : Int) l77 l78 x0 x1 x2))
     (k0 false l77 l78)))
   (k0 false l74 x4))
noncomputable def class_May_66e6 (N : Nat) {R : Type} (x0 : Int) (x1 : Int) (x2 : Int) (x3 : T5) (x4 : T2) (k0 : Bool → T5 → T2 → Option R) : Option R := class_May_66e6_T N (@class_fits N) (@class_Files_66e6 N) (@class_Files N) (@tree_New_644a N) (@tree_New N) (@class_May_66e6_l0 N) (@class_May_66e6_l1 N) x0 x1 x2 x3 x4 k0
abbrev class_May_l0_Ty : Type 1 := {R : Type} → (Bool → T5 → T2 → Int → Int → Int → Option R) → (T5 → T2 → Int → Int → Int → Option R) → Nat → T5 → Int → Int → T5 → T2 → Int → Int → Int → Option R
abbrev class_May_l1_Ty : Type 1 := {R : Type} → (Bool → T5 → T2 → Int → Int → Int → Option R) → (T5 → T2 → Int → Int → Int → Option R) → Nat → T2 → Int → Int → T5 → T2 → Int → Int → Int → Option R
abbrev class_May_Ty : Type 1 := {R : Type} → T5 → T2 → Int → Int → Int → (Bool → Option R) → Option R
noncomputable def class_May_l0_T0 (N : Nat) (c0 : class_fits_Ty) (c1 : class_Files_66e6_Ty) (c2 : class_Files_Ty) (c3 : tree_New_644a_Ty) (c4 : tree_New_Ty) (w1 : class_May_l1_Ty) {R : Type} (nx : T5 → Int → Int → T5 → T2 → Int → Int → Int → Option R) (k0 : Bool → T5 → T2 → Int → Int → Int → Option R) (k1 : T5 → T2 → Int → Int → Int → Option R) (x0 : T5) (x1 : Int) (x2 : Int) (x3 : T5) (x4 : T2) (x5 : Int) (x6 : Int) (x7 : Int) : Option R :=
  br (decide (x2 < x1))
  (br (inB x2 (List.length x0))
   (c0 (List.getD x0 (Int.toNat x2) ((bs []) , (false , (0 : Int)))).2.2 (3 : Int)
    (fun b353 => br (!(!b353))
     (br (List.getD x0 (Int.toNat x2) ((bs []) , (false , (0 : Int)))).2.1
      (br (!(decide ((List.getD x0 (Int.toNat x2) ((bs []) , (false , (0 : Int)))).2.2 = (0 : Int))))
       (k0 false x3 x4 x5 x6 x7)
       (nx x0 x1 (IntKind.wrap .i64 (x2 + (1 : Int))) x3 x4 x5 x6 x7))
      (nx x0 x1 (IntKind.wrap .i64 (x2 + (1 : Int))) x3 x4 x5 x6 x7))
     (k0 false x3 x4 x5 x6 x7)))
   (none))
  (k1 x3 x4 x5 x6 x7)
noncomputable def class_May_l1_T0 (N : Nat) (c0 : class_fits_Ty) (c1 : class_Files_66e6_Ty) (c2 : class_Files_Ty) (c3 : tree_New_644a_Ty) (c4 : tree_New_Ty) {R : Type} (nx : T2 → Int → Int → T5 → T2 → Int → Int → Int → Option R) (k0 : Bool → T5 → T2 → Int → Int → Int → Option R) (k1 : T5 → T2 → Int → Int → Int → Option R) (x0 : T2) (x1 : Int) (x2 : Int) (x3 : T5) (x4 : T2) (x5 : Int) (x6 : Int) (x7 : Int) : Option R :=
  br (decide (x2 < x1))
  (br (inB x2 (List.length x0))
   (c0 (List.getD x0 (Int.toNat x2) (0 : Int)) (3 : Int)
    (fun b365 => br (!b365)
     (k0 false x3 x4 x5 x6 x7)
     (nx x0 x1 (IntKind.wrap .i64 (x2 + (1 : Int))) x3 x4 x5 x6 x7)))
   (none))
  (k1 x3 x4 x5 x6 x7)
noncomputable def class_May_l1 (N : Nat) {R : Type} (k0 : Bool → T5 → T2 → Int → Int → Int → Option R) (k1 : T5 → T2 → Int → Int → Int → Option R) : Nat → T2 → Int → Int → T5 → T2 → Int → Int → Int → Option R
  | 0, _, _, _, _, _, _, _, _ => none
  | n + 1, x0, x1, x2, x3, x4, x5, x6, x7 => class_May_l1_T0 N (@class_fits N) (@class_Files_66e6 N) (@class_Files N) (@tree_New_644a N) (@tree_New N) (fun x0 x1 x2 x3 x4 x5 x6 x7 => class_May_l1 N k0 k1 n x0 x1 x2 x3 x4 x5 x6 x7) k0 k1 x0 x1 x2 x3 x4 x5 x6 x7
noncomputable def class_May_l0 (N : Nat) {R : Type} (k0 : Bool → T5 → T2 → Int → Int → Int → Option R) (k1 : T5 → T2 → Int → Int → Int → Option R) : Nat → T5 → Int → Int → T5 → T2 → Int → Int → Int → Option R
  | 0, _, _, _, _, _, _, _, _ => none
  | n + 1, x0, x1, x2, x3, x4, x5, x6, x7 => class_May_l0_T0 N (@class_fits N) (@class_Files_66e6 N) (@class_Files N) (@tree_New_644a N) (@tree_New N) (@class_May_l1 N) (fun x0 x1 x2 x3 x4 x5 x6 x7 => class_May_l0 N k0 k1 n x0 x1 x2 x3 x4 x5 x6 x7) k0 k1 x0 x1 x2 x3 x4 x5 x6 x7
noncomputable def class_May_T (N : Nat) (c0 : class_fits_Ty) (c1 : class_Files_66e6_Ty) (c2 : class_Files_Ty) (c3 : tree_New_644a_Ty) (c4 : tree_New_Ty) (w0 : class_May_l0_Ty) (w1 : class_May_l1_Ty) {R : Type} (x0 : T5) (x1 : T2) (x2 : Int) (x3 : Int) (x4 : Int) (k0 : Bool → Option R) : Option R :=
  c4 x0
  (fun i350 => br (!(!(decide (i350 = (0 : Int)))))
   (c2 x0 x1 x2 x3 x4
    (fun l352 => br (!(decide ((4 : Int) < (Nat.cast (List.length l352) : Int))))
     (br (decide ((2 : Int) < (Nat.cast (List.length x1) : Int)))
      (k0 false)
      (w0
       (fun b354 l355 l356 i357 i358 i359 => k0 b354)
       (fun l360 l361 i362 i363 i364 => w1
        (fun b366 l367 l368 i369 i370 i371 => k0 b366)
        (fun l372 l373 i374 i375 i376 => c0 i374 (6 : Int)
         (fun b377 => br b377
          (c0 i375 i374
           (fun b378 => br b378
            (c0 i376 (400 : Int)
             (fun b379 => k0 b379))
            (k0 false)))
          (k0 false)))
        N l361 (Nat.cast (List.length l361) : Int) (0 : Int) l360 l361 i362 i363 i364)
       N x0 (Nat.cast (List.length x0) : Int) (0 : Int) x0 x1 x2 x3 x4))
     (k0 false)))
   (k0 false))
  (fun i380 i381 l382 => br (!(!(decide (i380 = (0 : Int)))))
   (c2 x0 x1 x2 x3 x4
    (fun l383 => br (!(decide ((4 : Int) < (Nat.cast (List.length l383) : Int))))
     (br (decide ((2 : Int) < (Nat.cast (List.length x1) : Int)))
      (k0 false)
      (w0
       (fun b384 l385 l386 i387 i388 i389 => k0 b384)
       (fun l390 l391 i392 i393 i394 => w1
        (fun b395 l396 l397 i398 i399 i400 => k0 b395)
        (fun l401 l402 i403 i404 i405 => c0 i403 (6 : Int)
         (fun b406 => br b406
          (c0 i404 i403
           (fun b407 => br b407
            (c0 i405 (400 : Int)
             (fun b408 => k0 b408))
            (k0 false)))
          (k0 false)))
        N l391 (Nat.cast (List.length l391) : Int) (0 : Int) l390 l391 i392 i393 i394)
       N x0 (Nat.cast (List.length x0) : Int) (0 : Int) x0 x1 x2 x3 x4))
     (k0 false)))
   (k0 false))
noncomputable def class_May (N : Nat) {R : Type} (x0 : T5) (x1 : T2) (x2 : Int) (x3 : Int) (x4 : Int) (k0 : Bool → Option R) : Option R := class_May_T N (@class_fits N) (@class_Files_66e6 N) (@class_Files N) (@tree_New_644a N) (@tree_New N) (@class_May_l0 N) (@class_May_l1 N) x0 x1 x2 x3 x4 k0
abbrev fails_May_e7e3_l0_Ty : Type 1 := {R : Type} → (Int → Int → Int → T8 → Option R) → Nat → Int → Int → Int → Int → Int → T8 → Option R
abbrev fails_May_e7e3_Ty : Type 1 := {R : Type} → Int → Int → T8 → (Bool → T8 → Option R) → Option R
noncomputable def fails_May_e7e3_l0_T0 (N : Nat) {R : Type} (nx : Int → Int → Int → Int → Int → T8 → Option R) (k0 : Int → Int → Int → T8 → Option R) (x0 : Int) (x1 : Int) (x2 : Int) (x3 : Int) (x4 : Int) (x5 : T8) : Option R :=
  br (decide (x4 < x3))
  (br (inB x4 (List.length x5))
   (br (decide ((Int.toNat x4) < (List.length x5)))
    (br (List.getD x5 (Int.toNat x4) false)
     (nx x0 x1 (IntKind.wrap .i64 (x2 + (1 : Int))) x3 (IntKind.wrap .i64 (x4 + (1 : Int))) x5)
     (nx x0 x1 x2 x3 (IntKind.wrap .i64 (x4 + (1 : Int))) x5))
    (none))
   (none))
  (k0 x0 x1 x2 x5)
noncomputable def fails_May_e7e3_l0 (N : Nat) {R : Type} (k0 : Int → Int → Int → T8 → Option R) : Nat → Int → Int → Int → Int → Int → T8 → Option R
  | 0, _, _, _, _, _, _ => none
  | n + 1, x0, x1, x2, x3, x4, x5 => fails_May_e7e3_l0_T0 N (fun x0 x1 x2 x3 x4 x5 => fails_May_e7e3_l0 N k0 n x0 x1 x2 x3 x4 x5) k0 x0 x1 x2 x3 x4 x5
noncomputable def fails_May_e7e3_T (N : Nat) (w0 : fails_May_e7e3_l0_Ty) {R : Type} (x0 : Int) (x1 : Int) (x2 : T8) (k0 : Bool → T8 → Option R) : Option R :=
  w0
  (fun i114 i115 i116 l117 => br (decide ((Nat.cast (List.length l117) : Int) = i114))
   (br (decide (i114 ≤ (6 : Int)))
    (k0 (decide (i116 ≤ i115)) l117)
    (k0 false l117))
   (k0 false l117))
  N x0 x1 (0 : Int) (Nat.cast (List.length x2) : Int) (0 : Int) x2
noncomputable def fails_May_e7e3 (N : Nat) {R : Type} (x0 : Int) (x1 : Int) (x2 : T8) (k0 : Bool → T8 → Option R) : Option R := fails_May_e7e3_T N (@fails_May_e7e3_l0 N) x0 x1 x2 k0
abbrev class_Caps_66e6_l0_Ty : Type 1 := {R : Type} → (T5 → T2 → Int → Int → Int → T2 → Option R) → Nat → Int → Int → T5 → T2 → Int → Int → Int → T2 → T2 → Option R
abbrev class_Caps_66e6_Ty : Type 1 := {R : Type} → Int → Int → Int → T5 → T2 → (T5 → T2 → T2 → Option R) → Option R
noncomputable def class_Caps_66e6_l0_T0 (N : Nat) (c0 : class_Files_66e6_Ty) (c1 : class_Files_Ty) {R : Type} (nx : Int → Int → T5 → T2 → Int → Int → Int → T2 → T2 → Option R) (k0 : T5 → T2 → Int → Int → Int → T2 → Option R) (x0 : Int) (x1 : Int) (x2 : T5) (x3 : T2) (x4 : Int) (x5 : Int) (x6 : Int) (x7 : T2) (x8 : T2) : Option R :=
  br (decide (x1 < x0))
  (br (inB x1 (List.length x8))
   (br (decide ((Int.toNat x1) < (List.length x8)))
    (br (inB (List.getD x8 (Int.toNat x1) (0 : Int)) (List.length x2))
     (br (decide ((Int.toNat (List.getD x8 (Int.toNat x1) (0 : Int))) < (List.length x2)))
      (br (((fits (0 : Nat) (List.length x7) x7) && (decide ((((List.length x7) + (1 : Nat)) * (8 : Nat)) ≤ (70368744177664 : Nat)))) && true)
       (nx x0 (IntKind.wrap .i64 (x1 + (1 : Int))) x2 x3 x4 x5 x6 ((sub x7 (0 : Nat) (List.length x7)) ++ ((List.getD x2 (Int.toNat (List.getD x8 (Int.toNat x1) (0 : Int))) ((bs []) , (false , (0 : Int)))).2.2 :: ([] : List ((Sh.int IntKind.i64).T)))) x8)
       (none))
      (none))
     (none))
    (none))
   (none))
  (k0 x2 x3 x4 x5 x6 x7)
noncomputable def class_Caps_66e6_l0 (N : Nat) {R : Type} (k0 : T5 → T2 → Int → Int → Int → T2 → Option R) : Nat → Int → Int → T5 → T2 → Int → Int → Int → T2 → T2 → Option R
  | 0, _, _, _, _, _, _, _, _, _ => none
  | n + 1, x0, x1, x2, x3, x4, x5, x6, x7, x8 => class_Caps_66e6_l0_T0 N (@class_Files_66e6 N) (@class_Files N) (fun x0 x1 x2 x3 x4 x5 x6 x7 x8 => class_Caps_66e6_l0 N k0 n x0 x1 x2 x3 x4 x5 x6 x7 x8) k0 x0 x1 x2 x3 x4 x5 x6 x7 x8
noncomputable def class_Caps_66e6_T (N : Nat) (c0 : class_Files_66e6_Ty) (c1 : class_Files_Ty) (w0 : class_Caps_66e6_l0_Ty) {R : Type} (x0 : Int) (x1 : Int) (x2 : Int) (x3 : T5) (x4 : T2) (k0 : T5 → T2 → T2 → Option R) : Option R :=
  c0 x0 x1 x2 x3 x4
  (fun l123 l124 l125 => w0
   (fun l126 l127 i128 i129 i130 l131 => br (fits (0 : Nat) (List.length l127) l127)
    (br (((fits (0 : Nat) (List.length l131) l131) && (decide ((((List.length l131) + (List.length (sub l127 (0 : Nat) (List.length l127)))) * (8 : Nat)) ≤ (70368744177664 : Nat)))) && true)
     (k0 l126 l127 ((sub l131 (0 : Nat) (List.length l131)) ++ (sub l127 (0 : Nat) (List.length l127))))
     (none))
    (none))
   N (Nat.cast (List.length l125) : Int) (0 : Int) l123 l124 x0 x1 x2 ([] : List ((Sh.int IntKind.i64).T)) l125)
noncomputable def class_Caps_66e6 (N : Nat) {R : Type} (x0 : Int) (x1 : Int) (x2 : Int) (x3 : T5) (x4 : T2) (k0 : T5 → T2 → T2 → Option R) : Option R := class_Caps_66e6_T N (@class_Files_66e6 N) (@class_Files N) (@class_Caps_66e6_l0 N) x0 x1 x2 x3 x4 k0
abbrev class_Caps_l0_Ty : Type 1 := {R : Type} → (T5 → T2 → Int → Int → Int → T2 → Option R) → Nat → Int → Int → T5 → T2 → Int → Int → Int → T2 → T2 → Option R
abbrev class_Caps_Ty : Type 1 := {R : Type} → T5 → T2 → Int → Int → Int → (T2 → Option R) → Option R
noncomputable def class_Caps_l0_T0 (N : Nat) (c0 : class_Files_66e6_Ty) (c1 : class_Files_Ty) {R : Type} (nx : Int → Int → T5 → T2 → Int → Int → Int → T2 → T2 → Option R) (k0 : T5 → T2 → Int → Int → Int → T2 → Option R) (x0 : Int) (x1 : Int) (x2 : T5) (x3 : T2) (x4 : Int) (x5 : Int) (x6 : Int) (x7 : T2) (x8 : T2) : Option R :=
  br (decide (x1 < x0))
  (br (inB x1 (List.length x8))
   (br (decide ((Int.toNat x1) < (List.length x8)))
    (br (inB (List.getD x8 (Int.toNat x1) (0 : Int)) (List.length x2))
     (br (((fits (0 : Nat) (List.length x7) x7) && (decide ((((List.length x7) + (1 : Nat)) * (8 : Nat)) ≤ (70368744177664 : Nat)))) && true)
      (nx x0 (IntKind.wrap .i64 (x1 + (1 : Int))) x2 x3 x4 x5 x6 ((sub x7 (0 : Nat) (List.length x7)) ++ ((List.getD x2 (Int.toNat (List.getD x8 (Int.toNat x1) (0 : Int))) ((bs []) , (false , (0 : Int)))).2.2 :: ([] : List ((Sh.int IntKind.i64).T)))) x8)
      (none))
     (none))
    (none))
   (none))
  (k0 x2 x3 x4 x5 x6 x7)
noncomputable def class_Caps_l0 (N : Nat) {R : Type} (k0 : T5 → T2 → Int → Int → Int → T2 → Option R) : Nat → Int → Int → T5 → T2 → Int → Int → Int → T2 → T2 → Option R
  | 0, _, _, _, _, _, _, _, _, _ => none
  | n + 1, x0, x1, x2, x3, x4, x5, x6, x7, x8 => class_Caps_l0_T0 N (@class_Files_66e6 N) (@class_Files N) (fun x0 x1 x2 x3 x4 x5 x6 x7 x8 => class_Caps_l0 N k0 n x0 x1 x2 x3 x4 x5 x6 x7 x8) k0 x0 x1 x2 x3 x4 x5 x6 x7 x8
noncomputable def class_Caps_T (N : Nat) (c0 : class_Files_66e6_Ty) (c1 : class_Files_Ty) (w0 : class_Caps_l0_Ty) {R : Type} (x0 : T5) (x1 : T2) (x2 : Int) (x3 : Int) (x4 : Int) (k0 : T2 → Option R) : Option R :=
  c1 x0 x1 x2 x3 x4
  (fun l411 => w0
   (fun l412 l413 i414 i415 i416 l417 => br (((fits (0 : Nat) (List.length l417) l417) && (decide ((((List.length l417) + (List.length l413)) * (8 : Nat)) ≤ (70368744177664 : Nat)))) && true)
    (k0 ((sub l417 (0 : Nat) (List.length l417)) ++ l413))
    (none))
   N (Nat.cast (List.length l411) : Int) (0 : Int) x0 x1 x2 x3 x4 ([] : List ((Sh.int IntKind.i64).T)) l411)
noncomputable def class_Caps (N : Nat) {R : Type} (x0 : T5) (x1 : T2) (x2 : Int) (x3 : Int) (x4 : Int) (k0 : T2 → Option R) : Option R := class_Caps_T N (@class_Files_66e6 N) (@class_Files N) (@class_Caps_l0 N) x0 x1 x2 x3 x4 k0
abbrev class_Has_1e53_l0_Ty : Type 1 := {R : Type} → (Bool → T5 → T2 → T7 → T7 → T8 → Option R) → (T5 → T2 → T7 → T7 → T8 → Option R) → Nat → Int → Int → Int → T5 → T2 → T7 → T7 → T8 → T2 → Option R
abbrev class_Has_1e53_Ty : Type 1 := {R : Type} → Int → Int → Int → T5 → T2 → T7 → T7 → T8 → (Bool → T5 → T2 → T7 → T7 → T8 → Option R) → Option R
noncomputable def class_Has_1e53_l0_T0 (N : Nat) (c0 : class_Caps_66e6_Ty) (c1 : class_Caps_Ty) (c2 : fails_May_e7e3_Ty) (c3 : class_May_66e6_Ty) (c4 : class_May_Ty) (c5 : class_Files_66e6_Ty) (c6 : class_Files_Ty) {R : Type} (nx : Int → Int → Int → T5 → T2 → T7 → T7 → T8 → T2 → Option R) (k0 : Bool → T5 → T2 → T7 → T7 → T8 → Option R) (k1 : T5 → T2 → T7 → T7 → T8 → Option R) (x0 : Int) (x1 : Int) (x2 : Int) (x3 : T5) (x4 : T2) (x5 : T7) (x6 : T7) (x7 : T8) (x8 : T2) : Option R :=
  br (decide (x2 < x1))
  (br (inB x2 (List.length x8))
   (br (decide ((Int.toNat x2) < (List.length x8)))
    (br (decide (x2 < x0))
     (br (inB x2 (List.length x5))
      (br (decide ((Int.toNat x2) < (List.length x5)))
       (br (!(decide ((List.getD x8 (Int.toNat x2) (0 : Int)) < (Nat.cast (List.length (List.getD x5 (Int.toNat x2) (Sh.zero (.isl (.int .u8))))) : Int))))
        (br (decide (x0 ≤ x2))
         (br (inB (IntKind.wrap .i64 (x2 - x0)) (List.length x6))
          (br (decide ((Int.toNat (IntKind.wrap .i64 (x2 - x0))) < (List.length x6)))
           (br (decide ((List.getD x8 (Int.toNat x2) (0 : Int)) < (Nat.cast (List.length (List.getD x6 (Int.toNat (IntKind.wrap .i64 (x2 - x0))) (Sh.zero (.isl (.int .u8))))) : Int)))
            (k0 false x3 x4 x5 x6 x7)
            (nx x0 x1 (IntKind.wrap .i64 (x2 + (1 : Int))) x3 x4 x5 x6 x7 x8))
           (none))
          (none))
         (nx x0 x1 (IntKind.wrap .i64 (x2 + (1 : Int))) x3 x4 x5 x6 x7 x8))
        (k0 false x3 x4 x5 x6 x7))
       (none))
      (none))
     (br (decide (x0 ≤ x2))
      (br (inB (IntKind.wrap .i64 (x2 - x0)) (List.length x6))
       (br (decide ((Int.toNat (IntKind.wrap .i64 (x2 - x0))) < (List.length x6)))
        (br (decide ((List.getD x8 (Int.toNat x2) (0 : Int)) < (Nat.cast (List.length (List.getD x6 (Int.toNat (IntKind.wrap .i64 (x2 - x0))) (Sh.zero (.isl (.int .u8))))) : Int)))
         (k0 false x3 x4 x5 x6 x7)
         (nx x0 x1 (IntKind.wrap .i64 (x2 + (1 : Int))) x3 x4 x5 x6 x7 x8))
        (none))
       (none))
      (nx x0 x1 (IntKind.wrap .i64 (x2 + (1 : Int))) x3 x4 x5 x6 x7 x8)))
    (none))
   (none))
  (k1 x3 x4 x5 x6 x7)
noncomputable def class_Has_1e53_l0 (N : Nat) {R : Type} (k0 : Bool → T5 → T2 → T7 → T7 → T8 → Option R) (k1 : T5 → T2 → T7 → T7 → T8 → Option R) : Nat → Int → Int → Int → T5 → T2 → T7 → T7 → T8 → T2 → Option R
  | 0, _, _, _, _, _, _, _, _, _ => none
  | n + 1, x0, x1, x2, x3, x4, x5, x6, x7, x8 => class_Has_1e53_l0_T0 N (@class_Caps_66e6 N) (@class_Caps N) (@fails_May_e7e3 N) (@class_May_66e6 N) (@class_May N) (@class_Files_66e6 N) (@class_Files N) (fun x0 x1 x2 x3 x4 x5 x6 x7 x8 => class_Has_1e53_l0 N k0 k1 n x0 x1 x2 x3 x4 x5 x6 x7 x8) k0 k1 x0 x1 x2 x3 x4 x5 x6 x7 x8
noncomputable def class_Has_1e53_T (N : Nat) (c0 : class_Caps_66e6_Ty) (c1 : class_Caps_Ty) (c2 : fails_May_e7e3_Ty) (c3 : class_May_66e6_Ty) (c4 : class_May_Ty) (c5 : class_Files_66e6_Ty) (c6 : class_Files_Ty) (w0 : class_Has_1e53_l0_Ty) {R : Type} (x0 : Int) (x1 : Int) (x2 : Int) (x3 : T5) (x4 : T2) (x5 : T7) (x6 : T7) (x7 : T8) (k0 : Bool → T5 → T2 → T7 → T7 → T8 → Option R) : Option R :=
  c5 x0 x1 x2 x3 x4
  (fun l108 l109 l110 => c3 x0 x1 x2 l108 l109
   (fun b111 l112 l113 => br (!(!b111))
    (br (!(!(decide ((Nat.cast (List.length x5) : Int) = (Nat.cast (List.length l110) : Int)))))
     (br (!(!(decide ((Nat.cast (List.length x6) : Int) = (Nat.cast (List.length l113) : Int)))))
      (c2 x0 x1 x7
       (fun b118 l119 => br (!b118)
        (k0 false l112 l113 x5 x6 l119)
        (c0 x0 x1 x2 l112 l113
         (fun l132 l133 l134 => w0
          (fun b135 l136 l137 l138 l139 l140 => k0 b135 l136 l137 l138 l139 l140)
          (fun l141 l142 l143 l144 l145 => k0 true l141 l142 l143 l144 l145)
          N (Nat.cast (List.length l110) : Int) (Nat.cast (List.length l134) : Int) (0 : Int) l132 l133 x5 x6 l119 l134))))
      (k0 false l112 l113 x5 x6 x7))
     (k0 false l112 l113 x5 x6 x7))
    (k0 false l112 l113 x5 x6 x7)))
noncomputable def class_Has_1e53 (N : Nat) {R : Type} (x0 : Int) (x1 : Int) (x2 : Int) (x3 : T5) (x4 : T2) (x5 : T7) (x6 : T7) (x7 : T8) (k0 : Bool → T5 → T2 → T7 → T7 → T8 → Option R) : Option R := class_Has_1e53_T N (@class_Caps_66e6 N) (@class_Caps N) (@fails_May_e7e3 N) (@class_May_66e6 N) (@class_May N) (@class_Files_66e6 N) (@class_Files N) (@class_Has_1e53_l0 N) x0 x1 x2 x3 x4 x5 x6 x7 k0
abbrev slices_Grow___byte__byte_06c2_Ty : Type 1 := {R : Type} → Int → (T7 → Option R) → Option R
noncomputable def slices_Grow___byte__byte_06c2_T (N : Nat) {R : Type} (x0 : Int) (k0 : T7 → Option R) : Option R :=
  br (decide (x0 < (0 : Int)))
  (none)
  (br (decide ((0 : Int) < (IntKind.wrap .i64 (x0 - (IntKind.wrap .i64 ((0 : Int) - (0 : Int)))))))
   (br (((decide ((0 : Int) ≤ (IntKind.wrap .i64 (x0 - (IntKind.wrap .i64 ((0 : Int) - (0 : Int))))))) && (decide (((Int.toNat (IntKind.wrap .i64 (x0 - (IntKind.wrap .i64 ((0 : Int) - (0 : Int)))))) * (24 : Nat)) ≤ (70368744177664 : Nat)))) && true)
    (br (leB (0 : Int) (Int.toNat (IntKind.wrap .i64 (x0 - (IntKind.wrap .i64 ((0 : Int) - (0 : Int)))))))
     (br (fits (0 : Nat) (0 : Nat) (List.replicate (Int.toNat (IntKind.wrap .i64 (x0 - (IntKind.wrap .i64 ((0 : Int) - (0 : Int)))))) (Sh.zero (.isl (.int .u8)))))
      (k0 (sub (List.replicate (Int.toNat (IntKind.wrap .i64 (x0 - (IntKind.wrap .i64 ((0 : Int) - (0 : Int)))))) (Sh.zero (.isl (.int .u8)))) (0 : Nat) (0 : Nat)))
      (none))
     (none))
    (none))
   (k0 ([] : List ((Sh.int IntKind.u8).isl.T))))
noncomputable def slices_Grow___byte__byte_06c2 (N : Nat) {R : Type} (x0 : Int) (k0 : T7 → Option R) : Option R := slices_Grow___byte__byte_06c2_T N x0 k0
abbrev slices_Concat___byte__byte_1789_l0_Ty : Type 1 := {R : Type} → (Int → (List T7) → Option R) → Nat → Int → Int → Int → (List T7) → Option R
abbrev slices_Concat___byte__byte_1789_l1_Ty : Type 1 := {R : Type} → ((List T7) → T7 → Option R) → Nat → Int → Int → (List T7) → T7 → Option R
abbrev slices_Concat___byte__byte_1789_Ty : Type 1 := {R : Type} → (List T7) → ((List T7) → T7 → Option R) → Option R
noncomputable def slices_Concat___byte__byte_1789_l0_T0 (N : Nat) (c0 : slices_Grow___byte__byte_06c2_Ty) (w1 : slices_Concat___byte__byte_1789_l1_Ty) {R : Type} (nx : Int → Int → Int → (List T7) → Option R) (k0 : Int → (List T7) → Option R) (x0 : Int) (x1 : Int) (x2 : Int) (x3 : List T7) : Option R :=
  br (decide (x2 < x1))
  (br (inB x2 (List.length x3))
   (br (decide ((Int.toNat x2) < (List.length x3)))
    (br (decide ((IntKind.wrap .i64 (x0 + (Nat.cast (List.length (List.getD x3 (Int.toNat x2) (Sh.zero (.isl (.isl (.int .u8)))))) : Int))) < (0 : Int)))
     (none)
     (nx (IntKind.wrap .i64 (x0 + (Nat.cast (List.length (List.getD x3 (Int.toNat x2) (Sh.zero (.isl (.isl (.int .u8)))))) : Int))) x1 (IntKind.wrap .i64 (x2 + (1 : Int))) x3))
    (none))
   (none))
  (k0 x0 x3)
noncomputable def slices_Concat___byte__byte_1789_l1_T0 (N : Nat) (c0 : slices_Grow___byte__byte_06c2_Ty) {R : Type} (nx : Int → Int → (List T7) → T7 → Option R) (k0 : (List T7) → T7 → Option R) (x0 : Int) (x1 : Int) (x2 : List T7) (x3 : T7) : Option R :=
  br (decide (x1 < x0))
  (br (inB x1 (List.length x2))
   (br (decide ((Int.toNat x1) < (List.length x2)))
    (br (((fits (0 : Nat) (List.length x3) x3) && (decide ((((List.length x3) + (List.length (List.getD x2 (Int.toNat x1) (Sh.zero (.isl (.isl (.int .u8))))))) * (24 : Nat)) ≤ (70368744177664 : Nat)))) && true)
     (nx x0 (IntKind.wrap .i64 (x1 + (1 : Int))) x2 ((sub x3 (0 : Nat) (List.length x3)) ++ (List.getD x2 (Int.toNat x1) (Sh.zero (.isl (.isl (.int .u8)))))))
     (none))
    (none))
   (none))
  (k0 x2 x3)
noncomputable def slices_Concat___byte__byte_1789_l1 (N : Nat) {R : Type} (k0 : (List T7) → T7 → Option R) : Nat → Int → Int → (List T7) → T7 → Option R
  | 0, _, _, _, _ => none
  | n + 1, x0, x1, x2, x3 => slices_Concat___byte__byte_1789_l1_T0 N (@slices_Grow___byte__byte_06c2 N) (fun x0 x1 x2 x3 => slices_Concat___byte__byte_1789_l1 N k0 n x0 x1 x2 x3) k0 x0 x1 x2 x3
noncomputable def slices_Concat___byte__byte_1789_l0 (N : Nat) {R : Type} (k0 : Int → (List T7) → Option R) : Nat → Int → Int → Int → (List T7) → Option R
  | 0, _, _, _, _ => none
  | n + 1, x0, x1, x2, x3 => slices_Concat___byte__byte_1789_l0_T0 N (@slices_Grow___byte__byte_06c2 N) (@slices_Concat___byte__byte_1789_l1 N) (fun x0 x1 x2 x3 => slices_Concat___byte__byte_1789_l0 N k0 n x0 x1 x2 x3) k0 x0 x1 x2 x3
noncomputable def slices_Concat___byte__byte_1789_T (N : Nat) (c0 : slices_Grow___byte__byte_06c2_Ty) (w0 : slices_Concat___byte__byte_1789_l0_Ty) (w1 : slices_Concat___byte__byte_1789_l1_Ty) {R : Type} (x0 : List T7) (k0 : (List T7) → T7 → Option R) : Option R :=
  w0
  (fun i152 l153 => c0 i152
   (fun l154 => w1
    (fun l155 l156 => k0 l155 l156)
    N (Nat.cast (List.length l153) : Int) (0 : Int) l153 l154))
  N (0 : Int) (Nat.cast (List.length x0) : Int) (0 : Int) x0
noncomputable def slices_Concat___byte__byte_1789 (N : Nat) {R : Type} (x0 : List T7) (k0 : (List T7) → T7 → Option R) : Option R := slices_Concat___byte__byte_1789_T N (@slices_Grow___byte__byte_06c2 N) (@slices_Concat___byte__byte_1789_l0 N) (@slices_Concat___byte__byte_1789_l1 N) x0 k0
abbrev cast_Env_727c_l0_Ty : Type 1 := {R : Type} → (T5 → T2 → T7 → T8 → T7 → T2 → Option R) → Nat → Int → Int → T5 → T2 → T7 → T8 → Int → Int → Int → T7 → T2 → T7 → Option R
abbrev cast_Env_727c_l1_Ty : Type 1 := {R : Type} → (Int → Int → T5 → T2 → T7 → T8 → Int → Int → Int → T7 → T2 → T7 → Option R) → Nat → T2 → Int → Int → Int → Int → T5 → T2 → T7 → T8 → Int → Int → Int → T7 → T2 → T7 → Option R
abbrev cast_Env_727c_l2_Ty : Type 1 := {R : Type} → (T5 → T2 → T7 → T8 → T2 → Option R) → Nat → Int → Int → T5 → T2 → T7 → T8 → T2 → Option R
abbrev cast_Env_727c_Ty : Type 1 := {R : Type} → Int → Int → Int → T5 → T2 → T7 → T8 → (Int → T5 → T2 → T7 → T8 → T2 → Option R) → (Int → T5 → T2 → T7 → T8 → T2 → Option R) → Option R
noncomputable def cast_Env_727c_l0_T0 (N : Nat) (c0 : class_Caps_66e6_Ty) (c1 : class_Caps_Ty) (c2 : slices_Concat___byte__byte_1789_Ty) (c3 : class_Has_1e53_Ty) (c4 : class_May_66e6_Ty) (c5 : class_May_Ty) (w1 : cast_Env_727c_l1_Ty) (w2 : cast_Env_727c_l2_Ty) {R : Type} (nx : Int → Int → T5 → T2 → T7 → T8 → Int → Int → Int → T7 → T2 → T7 → Option R) (k0 : T5 → T2 → T7 → T8 → T7 → T2 → Option R) (x0 : Int) (x1 : Int) (x2 : T5) (x3 : T2) (x4 : T7) (x5 : T8) (x6 : Int) (x7 : Int) (x8 : Int) (x9 : T7) (x10 : T2) (x11 : T7) : Option R :=
  br (decide (x1 < x0))
  (br (inB x1 (List.length x11))
   (br (decide ((Int.toNat x1) < (List.length x11)))
    (br (((fits (0 : Nat) (List.length x10) x10) && (decide ((((List.length x10) + (1 : Nat)) * (2 : Nat)) ≤ (70368744177664 : Nat)))) && true)
     (c0 x6 x7 x8 x2 x3
      (fun l222 l223 l224 => br (inB x1 (List.length l224))
       (br (decide ((Int.toNat x1) < (List.length l224)))
        (w1
         (fun i225 i226 l227 l228 l229 l230 i231 i232 i233 l234 l235 l236 => nx i225 (IntKind.wrap .i64 (i226 + (1 : Int))) l227 l228 l229 l230 i231 i232 i233 l234 l235 l236)
         N (List.getD x11 (Int.toNat x1) (Sh.zero (.isl (.int .u8)))) x0 x1 (List.getD l224 (Int.toNat x1) (0 : Int)) (0 : Int) l222 l223 x4 x5 x6 x7 x8 x9 ((sub x10 (0 : Nat) (List.length x10)) ++ ((IntKind.wrap .u16 (Nat.cast (List.length (List.getD x11 (Int.toNat x1) (Sh.zero (.isl (.int .u8))))) : Int)) :: ([] : List ((Sh.int IntKind.u16).T)))) x11)
        (none))
       (none)))
     (none))
    (none))
   (none))
  (k0 x2 x3 x4 x5 x9 x10)
noncomputable def cast_Env_727c_l1_T0 (N : Nat) (c0 : class_Caps_66e6_Ty) (c1 : class_Caps_Ty) (c2 : slices_Concat___byte__byte_1789_Ty) (c3 : class_Has_1e53_Ty) (c4 : class_May_66e6_Ty) (c5 : class_May_Ty) (w2 : cast_Env_727c_l2_Ty) {R : Type} (nx : T2 → Int → Int → Int → Int → T5 → T2 → T7 → T8 → Int → Int → Int → T7 → T2 → T7 → Option R) (k0 : Int → Int → T5 → T2 → T7 → T8 → Int → Int → Int → T7 → T2 → T7 → Option R) (x0 : T2) (x1 : Int) (x2 : Int) (x3 : Int) (x4 : Int) (x5 : T5) (x6 : T2) (x7 : T7) (x8 : T8) (x9 : Int) (x10 : Int) (x11 : Int) (x12 : T7) (x13 : T2) (x14 : T7) : Option R :=
  br (decide (x4 < x3))
  (br (decide (x4 < (Nat.cast (List.length x0) : Int)))
   (br (inB x4 (List.length x0))
    (br (((fits (0 : Nat) (List.length x13) x13) && (decide ((((List.length x13) + (1 : Nat)) * (2 : Nat)) ≤ (70368744177664 : Nat)))) && true)
     (nx x0 x1 x2 x3 (IntKind.wrap .i64 (x4 + (1 : Int))) x5 x6 x7 x8 x9 x10 x11 x12 ((sub x13 (0 : Nat) (List.length x13)) ++ ((IntKind.wrap .u16 (List.getD x0 (Int.toNat x4) (0 : Int))) :: ([] : List ((Sh.int IntKind.u16).T)))) x14)
     (none))
    (none))
   (br (((fits (0 : Nat) (List.length x13) x13) && (decide ((((List.length x13) + (1 : Nat)) * (2 : Nat)) ≤ (70368744177664 : Nat)))) && true)
    (nx x0 x1 x2 x3 (IntKind.wrap .i64 (x4 + (1 : Int))) x5 x6 x7 x8 x9 x10 x11 x12 ((sub x13 (0 : Nat) (List.length x13)) ++ ((IntKind.wrap .u16 (0 : Int)) :: ([] : List ((Sh.int IntKind.u16).T)))) x14)
    (none)))
  (k0 x1 x2 x5 x6 x7 x8 x9 x10 x11 x12 x13 x14)
noncomputable def cast_Env_727c_l2_T0 (N : Nat) (c0 : class_Caps_66e6_Ty) (c1 : class_Caps_Ty) (c2 : slices_Concat___byte__byte_1789_Ty) (c3 : class_Has_1e53_Ty) (c4 : class_May_66e6_Ty) (c5 : class_May_Ty) {R : Type} (nx : Int → Int → T5 → T2 → T7 → T8 → T2 → Option R) (k0 : T5 → T2 → T7 → T8 → T2 → Option R) (x0 : Int) (x1 : Int) (x2 : T5) (x3 : T2) (x4 : T7) (x5 : T8) (x6 : T2) : Option R :=
  br (decide (x1 < x0))
  (br (inB x1 (List.length x5))
   (br (decide ((Int.toNat x1) < (List.length x5)))
    (br (List.getD x5 (Int.toNat x1) false)
     (br (((fits (0 : Nat) (List.length x6) x6) && (decide ((((List.length x6) + (1 : Nat)) * (2 : Nat)) ≤ (70368744177664 : Nat)))) && true)
      (nx x0 (IntKind.wrap .i64 (x1 + (1 : Int))) x2 x3 x4 x5 ((sub x6 (0 : Nat) (List.length x6)) ++ ((1 : Int) :: ([] : List ((Sh.int IntKind.u16).T)))))
      (none))
     (br (((fits (0 : Nat) (List.length x6) x6) && (decide ((((List.length x6) + (1 : Nat)) * (2 : Nat)) ≤ (70368744177664 : Nat)))) && true)
      (nx x0 (IntKind.wrap .i64 (x1 + (1 : Int))) x2 x3 x4 x5 ((sub x6 (0 : Nat) (List.length x6)) ++ ((0 : Int) :: ([] : List ((Sh.int IntKind.u16).T)))))
      (none)))
    (none))
   (none))
  (k0 x2 x3 x4 x5 x6)
noncomputable def cast_Env_727c_l2 (N : Nat) {R : Type} (k0 : T5 → T2 → T7 → T8 → T2 → Option R) : Nat → Int → Int → T5 → T2 → T7 → T8 → T2 → Option R
  | 0, _, _, _, _, _, _, _ => none
  | n + 1, x0, x1, x2, x3, x4, x5, x6 => cast_Env_727c_l2_T0 N (@class_Caps_66e6 N) (@class_Caps N) (@slices_Concat___byte__byte_1789 N) (@class_Has_1e53 N) (@class_May_66e6 N) (@class_May N) (fun x0 x1 x2 x3 x4 x5 x6 => cast_Env_727c_l2 N k0 n x0 x1 x2 x3 x4 x5 x6) k0 x0 x1 x2 x3 x4 x5 x6
noncomputable def cast_Env_727c_l1 (N : Nat) {R : Type} (k0 : Int → Int → T5 → T2 → T7 → T8 → Int → Int → Int → T7 → T2 → T7 → Option R) : Nat → T2 → Int → Int → Int → Int → T5 → T2 → T7 → T8 → Int → Int → Int → T7 → T2 → T7 → Option R
  | 0, _, _, _, _, _, _, _, _, _, _, _, _, _, _, _ => none
  | n + 1, x0, x1, x2, x3, x4, x5, x6, x7, x8, x9, x10, x11, x12, x13, x14 => cast_Env_727c_l1_T0 N (@class_Caps_66e6 N) (@class_Caps N) (@slices_Concat___byte__byte_1789 N) (@class_Has_1e53 N) (@class_May_66e6 N) (@class_May N) (@cast_Env_727c_l2 N) (fun x0 x1 x2 x3 x4 x5 x6 x7 x8 x9 x10 x11 x12 x13 x14 => cast_Env_727c_l1 N k0 n x0 x1 x2 x3 x4 x5 x6 x7 x8 x9 x10 x11 x12 x13 x14) k0 x0 x1 x2 x3 x4 x5 x6 x7 x8 x9 x10 x11 x12 x13 x14
noncomputable def cast_Env_727c_l0 (N : Nat) {R : Type} (k0 : T5 → T2 → T7 → T8 → T7 → T2 → Option R) : Nat → Int → Int → T5 → T2 → T7 → T8 → Int → Int → Int → T7 → T2 → T7 → Option R
  | 0, _, _, _, _, _, _, _, _, _, _, _, _ => none
  | n + 1, x0, x1, x2, x3, x4, x5, x6, x7, x8, x9, x10, x11 => cast_Env_727c_l0_T0 N (@class_Caps_66e6 N) (@class_Caps N) (@slices_Concat___byte__byte_1789 N) (@class_Has_1e53 N) (@class_May_66e6 N) (@class_May N) (@cast_Env_727c_l1 N) (@cast_Env_727c_l2 N) (fun x0 x1 x2 x3 x4 x5 x6 x7 x8 x9 x10 x11 => cast_Env_727c_l0 N k0 n x0 x1 x2 x3 x4 x5 x6 x7 x8 x9 x10 x11) k0 x0 x1 x2 x3 x4 x5 x6 x7 x8 x9 x10 x11
noncomputable def cast_Env_727c_T (N : Nat) (c0 : class_Caps_66e6_Ty) (c1 : class_Caps_Ty) (c2 : slices_Concat___byte__byte_1789_Ty) (c3 : class_Has_1e53_Ty) (c4 : class_May_66e6_Ty) (c5 : class_May_Ty) (w0 : cast_Env_727c_l0_Ty) (w1 : cast_Env_727c_l1_Ty) (w2 : cast_Env_727c_l2_Ty) {R : Type} (x0 : Int) (x1 : Int) (x2 : Int) (x3 : T5) (x4 : T2) (x5 : T7) (x6 : T8) (k0 : Int → T5 → T2 → T7 → T8 → T2 → Option R) (k1 : Int → T5 → T2 → T7 → T8 → T2 → Option R) : Option R :=
  c4 x0 x1 x2 x3 x4
  (fun b211 l212 l213 => br (!b211)
   (k0 (11 : Int) l212 l213 x5 x6 ([] : List ((Sh.int IntKind.u16).T)))
   (c3 x0 x1 x2 l212 l213 x5 ([] : List ((Sh.int IntKind.u8).isl.T)) x6
    (fun b214 l215 l216 l217 l218 l219 => br (!b214)
     (k0 (12 : Int) l215 l216 l217 l219 ([] : List ((Sh.int IntKind.u16).T)))
     (br (fits (0 : Nat) (List.length l217) l217)
      (br (fits (0 : Nat) (List.length l218) l218)
       (c2 ((sub l217 (0 : Nat) (List.length l217)) :: ((sub l218 (0 : Nat) (List.length l218)) :: ([] : List ((Sh.int IntKind.u8).isl.isl.T))))
        (fun l220 l221 => w0
         (fun l237 l238 l239 l240 l241 l242 => w2
          (fun l243 l244 l245 l246 l247 => k1 (0 : Int) l243 l244 l245 l246 l247)
          N (Nat.cast (List.length l240) : Int) (0 : Int) l237 l238 l239 l240 l242)
         N (Nat.cast (List.length l221) : Int) (0 : Int) l215 l216 l217 l219 x0 x1 x2 l218 ([] : List ((Sh.int IntKind.u16).T)) l221))
       (none))
      (none)))))
noncomputable def cast_Env_727c (N : Nat) {R : Type} (x0 : Int) (x1 : Int) (x2 : Int) (x3 : T5) (x4 : T2) (x5 : T7) (x6 : T8) (k0 : Int → T5 → T2 → T7 → T8 → T2 → Option R) (k1 : Int → T5 → T2 → T7 → T8 → T2 → Option R) : Option R := cast_Env_727c_T N (@class_Caps_66e6 N) (@class_Caps N) (@slices_Concat___byte__byte_1789 N) (@class_Has_1e53 N) (@class_May_66e6 N) (@class_May N) (@cast_Env_727c_l0 N) (@cast_Env_727c_l1 N) (@cast_Env_727c_l2 N) x0 x1 x2 x3 x4 x5 x6 k0 k1
abbrev cast_Size_9e58_l0_Ty : Type 1 := {R : Type} → (Int → T5 → T2 → Option R) → Nat → Int → Int → Int → T5 → T2 → T2 → Option R
abbrev cast_Size_9e58_Ty : Type 1 := {R : Type} → Int → Int → Int → Int → T5 → T2 → (Int → T5 → T2 → Option R) → Option R
noncomputable def cast_Size_9e58_l0_T0 (N : Nat) (c0 : class_May_66e6_Ty) (c1 : class_May_Ty) (c2 : class_Caps_66e6_Ty) (c3 : class_Caps_Ty) {R : Type} (nx : Int → Int → Int → T5 → T2 → T2 → Option R) (k0 : Int → T5 → T2 → Option R) (x0 : Int) (x1 : Int) (x2 : Int) (x3 : T5) (x4 : T2) (x5 : T2) : Option R :=
  br (decide (x2 < x1))
  (br (inB x2 (List.length x5))
   (br (decide ((Int.toNat x2) < (List.length x5)))
    (nx (IntKind.wrap .i64 (x0 + (IntKind.wrap .i64 ((1 : Int) + (List.getD x5 (Int.toNat x2) (0 : Int)))))) x1 (IntKind.wrap .i64 (x2 + (1 : Int))) x3 x4 x5)
    (none))
   (none))
  (k0 x0 x3 x4)
noncomputable def cast_Size_9e58_l0 (N : Nat) {R : Type} (k0 : Int → T5 → T2 → Option R) : Nat → Int → Int → Int → T5 → T2 → T2 → Option R
  | 0, _, _, _, _, _, _ => none
  | n + 1, x0, x1, x2, x3, x4, x5 => cast_Size_9e58_l0_T0 N (@class_May_66e6 N) (@class_May N) (@class_Caps_66e6 N) (@class_Caps N) (fun x0 x1 x2 x3 x4 x5 => cast_Size_9e58_l0 N k0 n x0 x1 x2 x3 x4 x5) k0 x0 x1 x2 x3 x4 x5
noncomputable def cast_Size_9e58_T (N : Nat) (c0 : class_May_66e6_Ty) (c1 : class_May_Ty) (c2 : class_Caps_66e6_Ty) (c3 : class_Caps_Ty) (w0 : cast_Size_9e58_l0_Ty) {R : Type} (x0 : Int) (x1 : Int) (x2 : Int) (x3 : Int) (x4 : T5) (x5 : T2) (k0 : Int → T5 → T2 → Option R) : Option R :=
  c2 x0 x1 x2 x4 x5
  (fun l254 l255 l256 => c0 x0 x1 x2 l254 l255
   (fun b257 l258 l259 => br (!(!b257))
    (br (!(decide (x3 < (0 : Int))))
     (br (decide ((Nat.cast (List.length l256) : Int) ≤ x3))
      (k0 (-1 : Int) l258 l259)
      (br (leB x3 (List.length l256))
       (br (fits (0 : Nat) ((Int.toNat x3) - (0 : Nat)) l256)
        (w0
         (fun i260 l261 l262 => k0 i260 l261 l262)
         N (0 : Int) (Nat.cast ((Int.toNat x3) - (0 : Nat)) : Int) (0 : Int) l258 l259 (sub l256 (0 : Nat) ((Int.toNat x3) - (0 : Nat))))
        (none))
       (none)))
     (k0 (-1 : Int) l258 l259))
    (k0 (-1 : Int) l258 l259)))
noncomputable def cast_Size_9e58 (N : Nat) {R : Type} (x0 : Int) (x1 : Int) (x2 : Int) (x3 : Int) (x4 : T5) (x5 : T2) (k0 : Int → T5 → T2 → Option R) : Option R := cast_Size_9e58_T N (@class_May_66e6 N) (@class_May N) (@class_Caps_66e6 N) (@class_Caps N) (@cast_Size_9e58_l0 N) x0 x1 x2 x3 x4 x5 k0
abbrev cast_Size_l0_Ty : Type 1 := {R : Type} → (Int → Option R) → Nat → Int → Int → Int → T2 → Option R
abbrev cast_Size_Ty : Type 1 := {R : Type} → T5 → T2 → Int → Int → Int → Int → (Int → Option R) → Option R
noncomputable def cast_Size_l0_T0 (N : Nat) (c0 : class_May_66e6_Ty) (c1 : class_May_Ty) (c2 : class_Caps_66e6_Ty) (c3 : class_Caps_Ty) {R : Type} (nx : Int → Int → Int → T2 → Option R) (k0 : Int → Option R) (x0 : Int) (x1 : Int) (x2 : Int) (x3 : T2) : Option R :=
  br (decide (x2 < x1))
  (br (inB x2 (List.length x3))
   (br (decide ((Int.toNat x2) < (List.length x3)))
    (nx (IntKind.wrap .i64 (x0 + (IntKind.wrap .i64 ((1 : Int) + (List.getD x3 (Int.toNat x2) (0 : Int)))))) x1 (IntKind.wrap .i64 (x2 + (1 : Int))) x3)
    (none))
   (none))
  (k0 x0)
noncomputable def cast_Size_l0 (N : Nat) {R : Type} (k0 : Int → Option R) : Nat → Int → Int → Int → T2 → Option R
  | 0, _, _, _, _ => none
  | n + 1, x0, x1, x2, x3 => cast_Size_l0_T0 N (@class_May_66e6 N) (@class_May N) (@class_Caps_66e6 N) (@class_Caps N) (fun x0 x1 x2 x3 => cast_Size_l0 N k0 n x0 x1 x2 x3) k0 x0 x1 x2 x3
noncomputable def cast_Size_T (N : Nat) (c0 : class_May_66e6_Ty) (c1 : class_May_Ty) (c2 : class_Caps_66e6_Ty) (c3 : class_Caps_Ty) (w0 : cast_Size_l0_Ty) {R : Type} (x0 : T5) (x1 : T2) (x2 : Int) (x3 : Int) (x4 : Int) (x5 : Int) (k0 : Int → Option R) : Option R :=
  c3 x0 x1 x2 x3 x4
  (fun l419 => c1 x0 x1 x2 x3 x4
   (fun b420 => br (!(!b420))
    (br (!(decide (x5 < (0 : Int))))
     (br (decide ((Nat.cast (List.length l419) : Int) ≤ x5))
      (k0 (-1 : Int))
      (br (leB x5 (List.length l419))
       (br (fits (0 : Nat) ((Int.toNat x5) - (0 : Nat)) l419)
        (w0
         (fun i421 => k0 i421)
         N (0 : Int) (Nat.cast ((Int.toNat x5) - (0 : Nat)) : Int) (0 : Int) (sub l419 (0 : Nat) ((Int.toNat x5) - (0 : Nat))))
        (none))
       (none)))
     (k0 (-1 : Int)))
    (k0 (-1 : Int))))
noncomputable def cast_Size (N : Nat) {R : Type} (x0 : T5) (x1 : T2) (x2 : Int) (x3 : Int) (x4 : Int) (x5 : Int) (k0 : Int → Option R) : Option R := cast_Size_T N (@class_May_66e6 N) (@class_May N) (@class_Caps_66e6 N) (@class_Caps N) (@cast_Size_l0 N) x0 x1 x2 x3 x4 x5 k0
abbrev cast_Byte_dbd4_Ty : Type 1 := {R : Type} → Int → Int → Int → Int → Int → T5 → T2 → (Int → Bool → T5 → T2 → Option R) → Option R
noncomputable def cast_Byte_dbd4_T (N : Nat) (c0 : class_Caps_66e6_Ty) (c1 : class_Caps_Ty) (c2 : cast_Size_9e58_Ty) (c3 : cast_Size_Ty) {R : Type} (x0 : Int) (x1 : Int) (x2 : Int) (x3 : Int) (x4 : Int) (x5 : T5) (x6 : T2) (k0 : Int → Bool → T5 → T2 → Option R) : Option R :=
  c2 x0 x1 x2 x3 x5 x6
  (fun i263 l264 l265 => br (!(decide (i263 = (-1 : Int))))
   (br (!(decide (x4 < (0 : Int))))
    (c0 x0 x1 x2 l264 l265
     (fun l266 l267 l268 => br (inB x3 (List.length l268))
      (br (decide ((Int.toNat x3) < (List.length l268)))
       (br (decide ((List.getD l268 (Int.toNat x3) (0 : Int)) ≤ x4))
        (k0 (0 : Int) false l266 l267)
        (k0 (IntKind.wrap .i64 ((IntKind.wrap .i64 (i263 + (1 : Int))) + x4)) true l266 l267))
       (none))
      (none)))
    (k0 (0 : Int) false l264 l265))
   (k0 (0 : Int) false l264 l265))
noncomputable def cast_Byte_dbd4 (N : Nat) {R : Type} (x0 : Int) (x1 : Int) (x2 : Int) (x3 : Int) (x4 : Int) (x5 : T5) (x6 : T2) (k0 : Int → Bool → T5 → T2 → Option R) : Option R := cast_Byte_dbd4_T N (@class_Caps_66e6 N) (@class_Caps N) (@cast_Size_9e58 N) (@cast_Size N) x0 x1 x2 x3 x4 x5 x6 k0
abbrev cast_Vars_66e6_l0_Ty : Type 1 := {R : Type} → (Int → T5 → T2 → Option R) → Nat → Int → Int → Int → T5 → T2 → T2 → Option R
abbrev cast_Vars_66e6_Ty : Type 1 := {R : Type} → Int → Int → Int → T5 → T2 → (Int → T5 → T2 → Option R) → Option R
noncomputable def cast_Vars_66e6_l0_T0 (N : Nat) (c0 : class_Caps_66e6_Ty) (c1 : class_Caps_Ty) (c2 : class_May_66e6_Ty) (c3 : class_May_Ty) {R : Type} (nx : Int → Int → Int → T5 → T2 → T2 → Option R) (k0 : Int → T5 → T2 → Option R) (x0 : Int) (x1 : Int) (x2 : Int) (x3 : T5) (x4 : T2) (x5 : T2) : Option R :=
  br (decide (x2 < x1))
  (br (inB x2 (List.length x5))
   (br (decide ((Int.toNat x2) < (List.length x5)))
    (nx (IntKind.wrap .i64 (x0 + (IntKind.wrap .i64 ((1 : Int) + (List.getD x5 (Int.toNat x2) (0 : Int)))))) x1 (IntKind.wrap .i64 (x2 + (1 : Int))) x3 x4 x5)
    (none))
   (none))
  (k0 x0 x3 x4)
noncomputable def cast_Vars_66e6_l0 (N : Nat) {R : Type} (k0 : Int → T5 → T2 → Option R) : Nat → Int → Int → Int → T5 → T2 → T2 → Option R
  | 0, _, _, _, _, _, _ => none
  | n + 1, x0, x1, x2, x3, x4, x5 => cast_Vars_66e6_l0_T0 N (@class_Caps_66e6 N) (@class_Caps N) (@class_May_66e6 N) (@class_May N) (fun x0 x1 x2 x3 x4 x5 => cast_Vars_66e6_l0 N k0 n x0 x1 x2 x3 x4 x5) k0 x0 x1 x2 x3 x4 x5
noncomputable def cast_Vars_66e6_T (N : Nat) (c0 : class_Caps_66e6_Ty) (c1 : class_Caps_Ty) (c2 : class_May_66e6_Ty) (c3 : class_May_Ty) (w0 : cast_Vars_66e6_l0_Ty) {R : Type} (x0 : Int) (x1 : Int) (x2 : Int) (x3 : T5) (x4 : T2) (k0 : Int → T5 → T2 → Option R) : Option R :=
  c2 x0 x1 x2 x3 x4
  (fun b276 l277 l278 => br (!b276)
   (k0 (0 : Int) l277 l278)
   (c0 x0 x1 x2 l277 l278
    (fun l279 l280 l281 => w0
     (fun i282 l283 l284 => k0 i282 l283 l284)
     N x0 (Nat.cast (List.length l281) : Int) (0 : Int) l279 l280 l281)))
noncomputable def cast_Vars_66e6 (N : Nat) {R : Type} (x0 : Int) (x1 : Int) (x2 : Int) (x3 : T5) (x4 : T2) (k0 : Int → T5 → T2 → Option R) : Option R := cast_Vars_66e6_T N (@class_Caps_66e6 N) (@class_Caps N) (@class_May_66e6 N) (@class_May N) (@cast_Vars_66e6_l0 N) x0 x1 x2 x3 x4 k0
abbrev cast_Vars_l0_Ty : Type 1 := {R : Type} → (Int → Option R) → Nat → Int → Int → Int → T2 → Option R
abbrev cast_Vars_Ty : Type 1 := {R : Type} → T5 → T2 → Int → Int → Int → (Int → Option R) → Option R
noncomputable def cast_Vars_l0_T0 (N : Nat) (c0 : class_Caps_66e6_Ty) (c1 : class_Caps_Ty) (c2 : class_May_66e6_Ty) (c3 : class_May_Ty) {R : Type} (nx : Int → Int → Int → T2 → Option R) (k0 : Int → Option R) (x0 : Int) (x1 : Int) (x2 : Int) (x3 : T2) : Option R :=
  br (decide (x2 < x1))
  (br (inB x2 (List.length x3))
   (br (decide ((Int.toNat x2) < (List.length x3)))
    (nx (IntKind.wrap .i64 (x0 + (IntKind.wrap .i64 ((1 : Int) + (List.getD x3 (Int.toNat x2) (0 : Int)))))) x1 (IntKind.wrap .i64 (x2 + (1 : Int))) x3)
    (none))
   (none))
  (k0 x0)
noncomputable def cast_Vars_l0 (N : Nat) {R : Type} (k0 : Int → Option R) : Nat → Int → Int → Int → T2 → Option R
  | 0, _, _, _, _ => none
  | n + 1, x0, x1, x2, x3 => cast_Vars_l0_T0 N (@class_Caps_66e6 N) (@class_Caps N) (@class_May_66e6 N) (@class_May N) (fun x0 x1 x2 x3 => cast_Vars_l0 N k0 n x0 x1 x2 x3) k0 x0 x1 x2 x3
noncomputable def cast_Vars_T (N : Nat) (c0 : class_Caps_66e6_Ty) (c1 : class_Caps_Ty) (c2 : class_May_66e6_Ty) (c3 : class_May_Ty) (w0 : cast_Vars_l0_Ty) {R : Type} (x0 : T5) (x1 : T2) (x2 : Int) (x3 : Int) (x4 : Int) (k0 : Int → Option R) : Option R :=
  c3 x0 x1 x2 x3 x4
  (fun b1252 => br (!b1252)
   (k0 (0 : Int))
   (c1 x0 x1 x2 x3 x4
    (fun l1253 => w0
     (fun i1254 => k0 i1254)
     N x2 (Nat.cast (List.length l1253) : Int) (0 : Int) l1253)))
noncomputable def cast_Vars (N : Nat) {R : Type} (x0 : T5) (x1 : T2) (x2 : Int) (x3 : Int) (x4 : Int) (k0 : Int → Option R) : Option R := cast_Vars_T N (@class_Caps_66e6 N) (@class_Caps N) (@class_May_66e6 N) (@class_May N) (@cast_Vars_l0 N) x0 x1 x2 x3 x4 k0
abbrev cast_Fail_9e58_Ty : Type 1 := {R : Type} → Int → Int → Int → Int → T5 → T2 → (Int → Bool → T5 → T2 → Option R) → Option R
noncomputable def cast_Fail_9e58_T (N : Nat) (c0 : cast_Vars_66e6_Ty) (c1 : cast_Vars_Ty) (c2 : class_May_66e6_Ty) (c3 : class_May_Ty) {R : Type} (x0 : Int) (x1 : Int) (x2 : Int) (x3 : Int) (x4 : T5) (x5 : T2) (k0 : Int → Bool → T5 → T2 → Option R) : Option R :=
  c2 x0 x1 x2 x4 x5
  (fun b273 l274 l275 => br (!(!b273))
   (br (!(decide (x3 < (0 : Int))))
    (br (decide (x0 ≤ x3))
     (k0 (0 : Int) false l274 l275)
     (c0 x0 x1 x2 l274 l275
      (fun i285 l286 l287 => br (decide (x0 = x0))
       (br (decide (x3 = x3))
        (k0 (IntKind.wrap .i64 ((IntKind.wrap .i64 (i285 - x0)) + x3)) true l286 l287)
        (none))
       (none))))
    (k0 (0 : Int) false l274 l275))
   (k0 (0 : Int) false l274 l275))
noncomputable def cast_Fail_9e58 (N : Nat) {R : Type} (x0 : Int) (x1 : Int) (x2 : Int) (x3 : Int) (x4 : T5) (x5 : T2) (k0 : Int → Bool → T5 → T2 → Option R) : Option R := cast_Fail_9e58_T N (@cast_Vars_66e6 N) (@cast_Vars N) (@class_May_66e6 N) (@class_May N) x0 x1 x2 x3 x4 x5 k0
abbrev cast_Fail_Ty : Type 1 := {R : Type} → T5 → T2 → Int → Int → Int → Int → (Int → Bool → Option R) → Option R
noncomputable def cast_Fail_T (N : Nat) (c0 : cast_Vars_66e6_Ty) (c1 : cast_Vars_Ty) (c2 : class_May_66e6_Ty) (c3 : class_May_Ty) {R : Type} (x0 : T5) (x1 : T2) (x2 : Int) (x3 : Int) (x4 : Int) (x5 : Int) (k0 : Int → Bool → Option R) : Option R :=
  c3 x0 x1 x2 x3 x4
  (fun b1251 => br (!(!b1251))
   (br (!(decide (x5 < (0 : Int))))
    (br (decide (x2 ≤ x5))
     (k0 (0 : Int) false)
     (c1 x0 x1 x2 x3 x4
      (fun i1255 => br (decide (x2 = x2))
       (br (decide (x5 = x5))
        (k0 (IntKind.wrap .i64 ((IntKind.wrap .i64 (i1255 - x2)) + x5)) true)
        (none))
       (none))))
    (k0 (0 : Int) false))
   (k0 (0 : Int) false))
noncomputable def cast_Fail (N : Nat) {R : Type} (x0 : T5) (x1 : T2) (x2 : Int) (x3 : Int) (x4 : Int) (x5 : Int) (k0 : Int → Bool → Option R) : Option R := cast_Fail_T N (@cast_Vars_66e6 N) (@cast_Vars N) (@class_May_66e6 N) (@class_May N) x0 x1 x2 x3 x4 x5 k0
abbrev law18_same_894e_l0_Ty : Type 1 := {R : Type} → (Bool → T2 → T2 → Option R) → (T2 → T2 → Option R) → Nat → Int → T2 → T2 → Option R
abbrev law18_same_894e_Ty : Type 1 := {R : Type} → T2 → T2 → (Bool → T2 → T2 → Option R) → Option R
noncomputable def law18_same_894e_l0_T0 (N : Nat) {R : Type} (nx : Int → T2 → T2 → Option R) (k0 : Bool → T2 → T2 → Option R) (k1 : T2 → T2 → Option R) (x0 : Int) (x1 : T2) (x2 : T2) : Option R :=
  br (decide (x0 < (Nat.cast (List.length x1) : Int)))
  (br (inB x0 (List.length x1))
   (br (decide ((Int.toNat x0) < (List.length x1)))
    (br (inB x0 (List.length x2))
     (br (decide ((Int.toNat x0) < (List.length x2)))
      (br (!(decide ((List.getD x1 (Int.toNat x0) (0 : Int)) = (List.getD x2 (Int.toNat x0) (0 : Int)))))
       (k0 false x1 x2)
       (nx (IntKind.wrap .i64 (x0 + (1 : Int))) x1 x2))
      (none))
     (none))
    (none))
   (none))
  (k1 x1 x2)
noncomputable def law18_same_894e_l0 (N : Nat) {R : Type} (k0 : Bool → T2 → T2 → Option R) (k1 : T2 → T2 → Option R) : Nat → Int → T2 → T2 → Option R
  | 0, _, _, _ => none
  | n + 1, x0, x1, x2 => law18_same_894e_l0_T0 N (fun x0 x1 x2 => law18_same_894e_l0 N k0 k1 n x0 x1 x2) k0 k1 x0 x1 x2
noncomputable def law18_same_894e_T (N : Nat) (w0 : law18_same_894e_l0_Ty) {R : Type} (x0 : T2) (x1 : T2) (k0 : Bool → T2 → T2 → Option R) : Option R :=
  br (!(decide ((Nat.cast (List.length x0) : Int) = (Nat.cast (List.length x1) : Int))))
  (k0 false x0 x1)
  (w0
   (fun b292 l293 l294 => k0 b292 l293 l294)
   (fun l295 l296 => k0 true l295 l296)
   N (0 : Int) x0 x1)
noncomputable def law18_same_894e (N : Nat) {R : Type} (x0 : T2) (x1 : T2) (k0 : Bool → T2 → T2 → Option R) : Option R := law18_same_894e_T N (@law18_same_894e_l0 N) x0 x1 k0
abbrev law18_awake_Ty : Type 1 := {R : Type} → (Bool → Option R) → Option R
noncomputable def law18_awake_T (N : Nat) (c0 : cast_Size_9e58_Ty) (c1 : cast_Size_Ty) (c2 : cast_Vars_66e6_Ty) (c3 : cast_Vars_Ty) (c4 : law18_same_894e_Ty) (c5 : cast_Fail_9e58_Ty) (c6 : cast_Fail_Ty) (c7 : cast_Byte_dbd4_Ty) (c8 : cast_Env_727c_Ty) {R : Type} (k0 : Bool → Option R) : Option R :=
  c8 (1 : Int) (1 : Int) (0 : Int) (((bs [97]) , (false , (1 : Int))) :: ([] : List ((Sh.str.pair (Sh.bool.pair (Sh.int IntKind.i64))).T))) ([] : List ((Sh.int IntKind.i64).T)) (((9 : Int) :: ([] : List ((Sh.int IntKind.u8).T))) :: ([] : List ((Sh.int IntKind.u8).isl.T))) (true :: ([] : List (Sh.bool.T)))
  (fun i248 l249 l250 l251 l252 l253 => c7 (1 : Int) (1 : Int) (0 : Int) (0 : Int) (0 : Int) l249 l250
   (fun i269 b270 l271 l272 => c5 (1 : Int) (1 : Int) (0 : Int) (0 : Int) l271 l272
    (fun i288 b289 l290 l291 => br (decide (i248 = (0 : Int)))
     (c4 l253 ((1 : Int) :: ((9 : Int) :: ((1 : Int) :: ([] : List ((Sh.int IntKind.u16).T)))))
      (fun b297 l298 l299 => br b297
       (c2 (1 : Int) (1 : Int) (0 : Int) l290 l291
        (fun i300 l301 l302 => br (decide (i300 = (3 : Int)))
         (c0 (1 : Int) (1 : Int) (0 : Int) (0 : Int) l301 l302
          (fun i303 l304 l305 => br (decide (i303 = (0 : Int)))
           (br b270
            (br (decide (i269 = (1 : Int)))
             (br b289
              (k0 (decide (i288 = (2 : Int))))
              (k0 false))
             (k0 false))
            (k0 false))
           (k0 false)))
         (k0 false)))
       (k0 false)))
     (k0 false))))
  (fun i306 l307 l308 l309 l310 l311 => c7 (1 : Int) (1 : Int) (0 : Int) (0 : Int) (0 : Int) l307 l308
   (fun i312 b313 l314 l315 => c5 (1 : Int) (1 : Int) (0 : Int) (0 : Int) l314 l315
    (fun i316 b317 l318 l319 => br (decide (i306 = (0 : Int)))
     (c4 l311 ((1 : Int) :: ((9 : Int) :: ((1 : Int) :: ([] : List ((Sh.int IntKind.u16).T)))))
      (fun b320 l321 l322 => br b320
       (c2 (1 : Int) (1 : Int) (0 : Int) l318 l319
        (fun i323 l324 l325 => br (decide (i323 = (3 : Int)))
         (c0 (1 : Int) (1 : Int) (0 : Int) (0 : Int) l324 l325
          (fun i326 l327 l328 => br (decide (i326 = (0 : Int)))
           (br b313
            (br (decide (i312 = (1 : Int)))
             (br b317
              (k0 (decide (i316 = (2 : Int))))
              (k0 false))
             (k0 false))
            (k0 false))
           (k0 false)))
         (k0 false)))
       (k0 false)))
     (k0 false))))
noncomputable def law18_awake (N : Nat) {R : Type} (k0 : Bool → Option R) : Option R := law18_awake_T N (@cast_Size_9e58 N) (@cast_Size N) (@cast_Vars_66e6 N) (@cast_Vars N) (@law18_same_894e N) (@cast_Fail_9e58 N) (@cast_Fail N) (@cast_Byte_dbd4 N) (@cast_Env_727c N) k0
abbrev law17_Small_l0_Ty : Type 1 := {R : Type} → (Int → T5 → T2 → Int → Int → Int → Option R) → Nat → Int → Int → T5 → T2 → Int → Int → Int → Option R
abbrev law17_Small_Ty : Type 1 := {R : Type} → T5 → T2 → Int → Int → Int → (Bool → Option R) → Option R
noncomputable def law17_Small_l0_T0 (N : Nat) {R : Type} (nx : Int → Int → T5 → T2 → Int → Int → Int → Option R) (k0 : Int → T5 → T2 → Int → Int → Int → Option R) (x0 : Int) (x1 : Int) (x2 : T5) (x3 : T2) (x4 : Int) (x5 : Int) (x6 : Int) : Option R :=
  br (decide (x1 < (Nat.cast (List.length x2) : Int)))
  (br (inB x1 (List.length x2))
   (nx (IntKind.wrap .i64 (x0 + (Nat.cast (ByteArray.size (List.getD x2 (Int.toNat x1) ((bs []) , (false , (0 : Int)))).1) : Int))) (IntKind.wrap .i64 (x1 + (1 : Int))) x2 x3 x4 x5 x6)
   (none))
  (k0 x0 x2 x3 x4 x5 x6)
noncomputable def law17_Small_l0 (N : Nat) {R : Type} (k0 : Int → T5 → T2 → Int → Int → Int → Option R) : Nat → Int → Int → T5 → T2 → Int → Int → Int → Option R
  | 0, _, _, _, _, _, _, _ => none
  | n + 1, x0, x1, x2, x3, x4, x5, x6 => law17_Small_l0_T0 N (fun x0 x1 x2 x3 x4 x5 x6 => law17_Small_l0 N k0 n x0 x1 x2 x3 x4 x5 x6) k0 x0 x1 x2 x3 x4 x5 x6
noncomputable def law17_Small_T (N : Nat) (w0 : law17_Small_l0_Ty) {R : Type} (x0 : T5) (x1 : T2) (x2 : Int) (x3 : Int) (x4 : Int) (k0 : Bool → Option R) : Option R :=
  w0
  (fun i330 l331 l332 i333 i334 i335 => br (decide ((Nat.cast (List.length l331) : Int) ≤ (60 : Int)))
   (br (decide (i330 ≤ (2000 : Int)))
    (k0 (decide ((Nat.cast (List.length l332) : Int) ≤ (60 : Int))))
    (k0 false))
   (k0 false))
  N (0 : Int) (0 : Int) x0 x1 x2 x3 x4
noncomputable def law17_Small (N : Nat) {R : Type} (x0 : T5) (x1 : T2) (x2 : Int) (x3 : Int) (x4 : Int) (k0 : Bool → Option R) : Option R := law17_Small_T N (@law17_Small_l0 N) x0 x1 x2 x3 x4 k0
abbrev term_New_Ty : Type 1 := {R : Type} → (T9 → T4 → T3 → Option R) → Option R
noncomputable def term_New_T (N : Nat) {R : Type} (k0 : T9 → T4 → T3 → Option R) : Option R :=
  k0 ([] : List (((Sh.int IntKind.i64).pair
    ((Sh.int IntKind.i64).pair
      ((Sh.int IntKind.u16).pair ((Sh.int IntKind.i64).pair ((Sh.int IntKind.i64).pair (Sh.int IntKind.i64)))))).T)) ([] : List ((((Sh.int IntKind.i64).pair
    ((Sh.int IntKind.i64).pair
      ((Sh.int IntKind.u16).pair ((Sh.int IntKind.i64).pair ((Sh.int IntKind.i64).pair (Sh.int IntKind.i64)))))).T) × ((Sh.int IntKind.i64).T))) ([] : List (((Sh.int IntKind.i64).T) × ((Sh.int IntKind.i64).T)))
noncomputable def term_New (N : Nat) {R : Type} (k0 : T9 → T4 → T3 → Option R) : Option R := term_New_T N k0
abbrev wide_May_Ty : Type 1 := {R : Type} → Int → (Bool → Option R) → Option R
noncomputable def wide_May_T (N : Nat) {R : Type} (x0 : Int) (k0 : Bool → Option R) : Option R :=
  br (!(decide (x0 = (1 : Int))))
  (br (!(decide (x0 = (8 : Int))))
   (k0 (decide (x0 = (16 : Int))))
   (k0 true))
  (k0 true)
noncomputable def wide_May (N : Nat) {R : Type} (x0 : Int) (k0 : Bool → Option R) : Option R := wide_May_T N x0 k0
abbrev term_Arena_keep_a25e_Ty : Type 1 := {R : Type} → Int → Int → Int → Int → Int → Int → T9 → T4 → T3 → (Int → Int → T4 → T3 → T9 → Option R) → Option R
noncomputable def term_Arena_keep_a25e_T (N : Nat) {R : Type} (x0 : Int) (x1 : Int) (x2 : Int) (x3 : Int) (x4 : Int) (x5 : Int) (x6 : T9) (x7 : T4) (x8 : T3) (k0 : Int → Int → T4 → T3 → T9 → Option R) : Option R :=
  br (Option.isSome (mfind (.pair (.int .i64) (.pair (.int .i64) (.pair (.int .u16) (.pair (.int .i64) (.pair (.int .i64) (.int .i64)))))) (.int .i64) x7 (x0 , (x1 , (x2 , (x3 , (x4 , x5)))))))
  (k0 (Option.getD (mfind (.pair (.int .i64) (.pair (.int .i64) (.pair (.int .u16) (.pair (.int .i64) (.pair (.int .i64) (.int .i64)))))) (.int .i64) x7 (x0 , (x1 , (x2 , (x3 , (x4 , x5)))))) (0 : Int)) (0 : Int) x7 x8 x6)
  (br (decide ((65536 : Int) ≤ (Nat.cast (List.length x6) : Int)))
   (k0 (0 : Int) (3 : Int) x7 x8 x6)
   (br (((fits (0 : Nat) (List.length x6) x6) && (decide ((((List.length x6) + (1 : Nat)) * (48 : Nat)) ≤ (70368744177664 : Nat)))) && true)
    (k0 (Nat.cast ((List.length x6) + (1 : Nat)) : Int) (0 : Int) (mput (.pair (.int .i64) (.pair (.int .i64) (.pair (.int .u16) (.pair (.int .i64) (.pair (.int .i64) (.int .i64)))))) (.int .i64) x7 (x0 , (x1 , (x2 , (x3 , (x4 , x5))))) (Nat.cast ((List.length x6) + (1 : Nat)) : Int)) x8 ((sub x6 (0 : Nat) (List.length x6)) ++ ((x0 , (x1 , (x2 , (x3 , (x4 , x5))))) :: ([] : List (((Sh.int IntKind.i64).pair
    ((Sh.int IntKind.i64).pair
      ((Sh.int IntKind.u16).pair ((Sh.int IntKind.i64).pair ((Sh.int IntKind.i64).pair (Sh.int IntKind.i64)))))).T)))))
    (none)))
noncomputable def term_Arena_keep_a25e (N : Nat) {R : Type} (x0 : Int) (x1 : Int) (x2 : Int) (x3 : Int) (x4 : Int) (x5 : Int) (x6 : T9) (x7 : T4) (x8 : T3) (k0 : Int → Int → T4 → T3 → T9 → Option R) : Option R := term_Arena_keep_a25e_T N x0 x1 x2 x3 x4 x5 x6 x7 x8 k0
abbrev term_Arena_Var_99d8_Ty : Type 1 := {R : Type} → Int → Int → T9 → T4 → T3 → (Int → Int → T4 → T3 → T9 → Option R) → Option R
noncomputable def term_Arena_Var_99d8_T (N : Nat) (c0 : term_Arena_keep_a25e_Ty) (c1 : wide_May_Ty) {R : Type} (x0 : Int) (x1 : Int) (x2 : T9) (x3 : T4) (x4 : T3) (k0 : Int → Int → T4 → T3 → T9 → Option R) : Option R :=
  c1 x0
  (fun b429 => br (!b429)
   (k0 (0 : Int) (2 : Int) x3 x4 x2)
   (br (!(decide (x1 < (0 : Int))))
    (br (!(decide ((64 : Int) ≤ x1)))
     (br (Option.isSome (mfind (.int .i64) (.int .i64) x4 x1))
      (br (!(decide ((Option.getD (mfind (.int .i64) (.int .i64) x4 x1) (0 : Int)) = x0)))
       (k0 (0 : Int) (1 : Int) x3 x4 x2)
       (c0 (2 : Int) x0 (IntKind.wrap .u16 x1) (0 : Int) (0 : Int) (0 : Int) x2 x3 x4
        (fun i430 i431 l432 l433 l434 => br (decide (i431 = (0 : Int)))
         (k0 i430 i431 l432 (mput (.int .i64) (.int .i64) l433 x1 x0) l434)
         (k0 i430 i431 l432 l433 l434))))
      (c0 (2 : Int) x0 (IntKind.wrap .u16 x1) (0 : Int) (0 : Int) (0 : Int) x2 x3 x4
       (fun i435 i436 l437 l438 l439 => br (decide (i436 = (0 : Int)))
        (k0 i435 i436 l437 (mput (.int .i64) (.int .i64) l438 x1 x0) l439)
        (k0 i435 i436 l437 l438 l439))))
     (k0 (0 : Int) (1 : Int) x3 x4 x2))
    (k0 (0 : Int) (1 : Int) x3 x4 x2)))
noncomputable def term_Arena_Var_99d8 (N : Nat) {R : Type} (x0 : Int) (x1 : Int) (x2 : T9) (x3 : T4) (x4 : T3) (k0 : Int → Int → T4 → T3 → T9 → Option R) : Option R := term_Arena_Var_99d8_T N (@term_Arena_keep_a25e N) (@wide_May N) x0 x1 x2 x3 x4 k0
abbrev cast_maker_keep_9e9f_Ty : Type 1 := {R : Type} → Int → Int → Int → T9 → T4 → T3 → (Int → Int → T9 → T4 → T3 → Option R) → Option R
noncomputable def cast_maker_keep_9e9f_T (N : Nat) {R : Type} (x0 : Int) (x1 : Int) (x2 : Int) (x3 : T9) (x4 : T4) (x5 : T3) (k0 : Int → Int → T9 → T4 → T3 → Option R) : Option R :=
  br (decide (x2 = (0 : Int)))
  (k0 x0 x1 x3 x4 x5)
  (k0 x0 x2 x3 x4 x5)
noncomputable def cast_maker_keep_9e9f (N : Nat) {R : Type} (x0 : Int) (x1 : Int) (x2 : Int) (x3 : T9) (x4 : T4) (x5 : T3) (k0 : Int → Int → T9 → T4 → T3 → Option R) : Option R := cast_maker_keep_9e9f_T N x0 x1 x2 x3 x4 x5 k0
abbrev cast_maker_variable_9e9f_Ty : Type 1 := {R : Type} → Int → Int → Int → T9 → T4 → T3 → (Int → Int → T4 → T3 → T9 → Option R) → Option R
noncomputable def cast_maker_variable_9e9f_T (N : Nat) (c0 : cast_maker_keep_9e9f_Ty) (c1 : term_Arena_Var_99d8_Ty) {R : Type} (x0 : Int) (x1 : Int) (x2 : Int) (x3 : T9) (x4 : T4) (x5 : T3) (k0 : Int → Int → T4 → T3 → T9 → Option R) : Option R :=
  c1 x0 x1 x3 x4 x5
  (fun i440 i441 l442 l443 l444 => c0 i440 i441 x2 l444 l442 l443
   (fun i445 i446 l447 l448 l449 => k0 i445 i446 l448 l449 l447))
noncomputable def cast_maker_variable_9e9f (N : Nat) {R : Type} (x0 : Int) (x1 : Int) (x2 : Int) (x3 : T9) (x4 : T4) (x5 : T3) (k0 : Int → Int → T4 → T3 → T9 → Option R) : Option R := cast_maker_variable_9e9f_T N (@cast_maker_keep_9e9f N) (@term_Arena_Var_99d8 N) x0 x1 x2 x3 x4 x5 k0
abbrev wide_Mask_Ty : Type 1 := {R : Type} → Int → (Int → Option R) → Option R
noncomputable def wide_Mask_T (N : Nat) (c0 : wide_May_Ty) {R : Type} (x0 : Int) (k0 : Int → Option R) : Option R :=
  c0 x0
  (fun b456 => br (!b456)
   (k0 (0 : Int))
   (br (decide ((IntKind.wrap .u64 x0) < (0 : Int)))
    (none)
    (k0 (IntKind.wrap .u16 ((shlI .u16 (1 : Int) (IntKind.wrap .u64 x0)) - (1 : Int))))))
noncomputable def wide_Mask (N : Nat) {R : Type} (x0 : Int) (k0 : Int → Option R) : Option R := wide_Mask_T N (@wide_May N) x0 k0
abbrev term_Arena_Const_2c81_Ty : Type 1 := {R : Type} → Int → Int → T9 → T4 → T3 → (Int → Int → T4 → T3 → T9 → Option R) → Option R
noncomputable def term_Arena_Const_2c81_T (N : Nat) (c0 : term_Arena_keep_a25e_Ty) (c1 : wide_Mask_Ty) (c2 : wide_May_Ty) {R : Type} (x0 : Int) (x1 : Int) (x2 : T9) (x3 : T4) (x4 : T3) (k0 : Int → Int → T4 → T3 → T9 → Option R) : Option R :=
  c2 x0
  (fun b463 => br (!b463)
   (k0 (0 : Int) (2 : Int) x3 x4 x2)
   (c1 x0
    (fun i464 => c0 (1 : Int) x0 (band .u16 x1 i464) (0 : Int) (0 : Int) (0 : Int) x2 x3 x4
     (fun i465 i466 l467 l468 l469 => k0 i465 i466 l467 l468 l469))))
noncomputable def term_Arena_Const_2c81 (N : Nat) {R : Type} (x0 : Int) (x1 : Int) (x2 : T9) (x3 : T4) (x4 : T3) (k0 : Int → Int → T4 → T3 → T9 → Option R) : Option R := term_Arena_Const_2c81_T N (@term_Arena_keep_a25e N) (@wide_Mask N) (@wide_May N) x0 x1 x2 x3 x4 k0
abbrev cast_maker_number_2f2a_Ty : Type 1 := {R : Type} → Int → Int → T9 → T4 → T3 → (Int → Int → T4 → T3 → T9 → Option R) → Option R
noncomputable def cast_maker_number_2f2a_T (N : Nat) (c0 : cast_maker_keep_9e9f_Ty) (c1 : term_Arena_Const_2c81_Ty) {R : Type} (x0 : Int) (x1 : Int) (x2 : T9) (x3 : T4) (x4 : T3) (k0 : Int → Int → T4 → T3 → T9 → Option R) : Option R :=
  c1 (8 : Int) (IntKind.wrap .u16 x0) x2 x3 x4
  (fun i470 i471 l472 l473 l474 => c0 i470 i471 x1 l474 l472 l473
   (fun i475 i476 l477 l478 l479 => k0 i475 i476 l478 l479 l477))
noncomputable def cast_maker_number_2f2a (N : Nat) {R : Type} (x0 : Int) (x1 : Int) (x2 : T9) (x3 : T4) (x4 : T3) (k0 : Int → Int → T4 → T3 → T9 → Option R) : Option R := cast_maker_number_2f2a_T N (@cast_maker_keep_9e9f N) (@term_Arena_Const_2c81 N) x0 x1 x2 x3 x4 k0
abbrev term_two_Ty : Type 1 := {R : Type} → Int → (Bool → Option R) → Option R
noncomputable def term_two_T (N : Nat) {R : Type} (x0 : Int) (k0 : Bool → Option R) : Option R :=
  br (decide ((4 : Int) ≤ x0))
  (k0 (decide (x0 ≤ (15 : Int))))
  (k0 false)
noncomputable def term_two (N : Nat) {R : Type} (x0 : Int) (k0 : Bool → Option R) : Option R := term_two_T N x0 k0
abbrev term_Arena_Node_43b4_Ty : Type 1 := {R : Type} → Int → T9 → T4 → T3 → (Int → Int → Int → Int → Int → Int → Bool → T9 → T4 → T3 → Option R) → Option R
noncomputable def term_Arena_Node_43b4_T (N : Nat) {R : Type} (x0 : Int) (x1 : T9) (x2 : T4) (x3 : T3) (k0 : Int → Int → Int → Int → Int → Int → Bool → T9 → T4 → T3 → Option R) : Option R :=
  br (!(decide (x0 < (1 : Int))))
  (br (decide ((Nat.cast (List.length x1) : Int) < x0))
   (k0 (0 : Int) (0 : Int) (0 : Int) (0 : Int) (0 : Int) (0 : Int) false x1 x2 x3)
   (br (inB (IntKind.wrap .i64 (x0 - (1 : Int))) (List.length x1))
    (br (decide ((Int.toNat (IntKind.wrap .i64 (x0 - (1 : Int)))) < (List.length x1)))
     (k0 (List.getD x1 (Int.toNat (IntKind.wrap .i64 (x0 - (1 : Int)))) ((0 : Int) , ((0 : Int) , ((0 : Int) , ((0 : Int) , ((0 : Int) , (0 : Int))))))).1 (List.getD x1 (Int.toNat (IntKind.wrap .i64 (x0 - (1 : Int)))) ((0 : Int) , ((0 : Int) , ((0 : Int) , ((0 : Int) , ((0 : Int) , (0 : Int))))))).2.1 (List.getD x1 (Int.toNat (IntKind.wrap .i64 (x0 - (1 : Int)))) ((0 : Int) , ((0 : Int) , ((0 : Int) , ((0 : Int) , ((0 : Int) , (0 : Int))))))).2.2.1 (List.getD x1 (Int.toNat (IntKind.wrap .i64 (x0 - (1 : Int)))) ((0 : Int) , ((0 : Int) , ((0 : Int) , ((0 : Int) , ((0 : Int) , (0 : Int))))))).2.2.2.1 (List.getD x1 (Int.toNat (IntKind.wrap .i64 (x0 - (1 : Int)))) ((0 : Int) , ((0 : Int) , ((0 : Int) , ((0 : Int) , ((0 : Int) , (0 : Int))))))).2.2.2.2.1 (List.getD x1 (Int.toNat (IntKind.wrap .i64 (x0 - (1 : Int)))) ((0 : Int) , ((0 : Int) , ((0 : Int) , ((0 : Int) , ((0 : Int) , (0 : Int))))))).2.2.2.2.2 true x1 x2 x3)
     (none))
    (none)))
  (k0 (0 : Int) (0 : Int) (0 : Int) (0 : Int) (0 : Int) (0 : Int) false x1 x2 x3)
noncomputable def term_Arena_Node_43b4 (N : Nat) {R : Type} (x0 : Int) (x1 : T9) (x2 : T4) (x3 : T3) (k0 : Int → Int → Int → Int → Int → Int → Bool → T9 → T4 → T3 → Option R) : Option R := term_Arena_Node_43b4_T N x0 x1 x2 x3 k0
abbrev term_Arena_there_2549_l0_Ty : Type 1 := {R : Type} → (Bool → T9 → T4 → T3 → T2 → Option R) → (T9 → T4 → T3 → T2 → Option R) → Nat → Int → Int → T9 → T4 → T3 → T2 → Option R
abbrev term_Arena_there_2549_Ty : Type 1 := {R : Type} → T9 → T4 → T3 → T2 → (Bool → T9 → T4 → T3 → T2 → Option R) → Option R
noncomputable def term_Arena_there_2549_l0_T0 (N : Nat) (c0 : term_Arena_Node_43b4_Ty) {R : Type} (nx : Int → Int → T9 → T4 → T3 → T2 → Option R) (k0 : Bool → T9 → T4 → T3 → T2 → Option R) (k1 : T9 → T4 → T3 → T2 → Option R) (x0 : Int) (x1 : Int) (x2 : T9) (x3 : T4) (x4 : T3) (x5 : T2) : Option R :=
  br (decide (x1 < x0))
  (br (inB x1 (List.length x5))
   (br (decide ((Int.toNat x1) < (List.length x5)))
    (c0 (List.getD x5 (Int.toNat x1) (0 : Int)) x2 x3 x4
     (fun i486 i487 i488 i489 i490 i491 b492 l493 l494 l495 => br (!b492)
      (k0 false l493 l494 l495 x5)
      (nx x0 (IntKind.wrap .i64 (x1 + (1 : Int))) l493 l494 l495 x5)))
    (none))
   (none))
  (k1 x2 x3 x4 x5)
noncomputable def term_Arena_there_2549_l0 (N : Nat) {R : Type} (k0 : Bool → T9 → T4 → T3 → T2 → Option R) (k1 : T9 → T4 → T3 → T2 → Option R) : Nat → Int → Int → T9 → T4 → T3 → T2 → Option R
  | 0, _, _, _, _, _, _ => none
  | n + 1, x0, x1, x2, x3, x4, x5 => term_Arena_there_2549_l0_T0 N (@term_Arena_Node_43b4 N) (fun x0 x1 x2 x3 x4 x5 => term_Arena_there_2549_l0 N k0 k1 n x0 x1 x2 x3 x4 x5) k0 k1 x0 x1 x2 x3 x4 x5
noncomputable def term_Arena_there_2549_T (N : Nat) (c0 : term_Arena_Node_43b4_Ty) (w0 : term_Arena_there_2549_l0_Ty) {R : Type} (x0 : T9) (x1 : T4) (x2 : T3) (x3 : T2) (k0 : Bool → T9 → T4 → T3 → T2 → Option R) : Option R :=
  w0
  (fun b496 l497 l498 l499 l500 => k0 b496 l497 l498 l499 l500)
  (fun l501 l502 l503 l504 => k0 true l501 l502 l503 l504)
  N (Nat.cast (List.length x3) : Int) (0 : Int) x0 x1 x2 x3
noncomputable def term_Arena_there_2549 (N : Nat) {R : Type} (x0 : T9) (x1 : T4) (x2 : T3) (x3 : T2) (k0 : Bool → T9 → T4 → T3 → T2 → Option R) : Option R := term_Arena_there_2549_T N (@term_Arena_Node_43b4 N) (@term_Arena_there_2549_l0 N) x0 x1 x2 x3 k0
abbrev term_Arena_Width_43b4_Ty : Type 1 := {R : Type} → Int → T9 → T4 → T3 → (Int → T9 → T4 → T3 → Option R) → Option R
noncomputable def term_Arena_Width_43b4_T (N : Nat) (c0 : term_Arena_Node_43b4_Ty) {R : Type} (x0 : Int) (x1 : T9) (x2 : T4) (x3 : T3) (k0 : Int → T9 → T4 → T3 → Option R) : Option R :=
  c0 x0 x1 x2 x3
  (fun i510 i511 i512 i513 i514 i515 b516 l517 l518 l519 => k0 i511 l517 l518 l519)
noncomputable def term_Arena_Width_43b4 (N : Nat) {R : Type} (x0 : Int) (x1 : T9) (x2 : T4) (x3 : T3) (k0 : Int → T9 → T4 → T3 → Option R) : Option R := term_Arena_Width_43b4_T N (@term_Arena_Node_43b4 N) x0 x1 x2 x3 k0
abbrev term_Arena_Known_43b4_Ty : Type 1 := {R : Type} → Int → T9 → T4 → T3 → (Int → Bool → T9 → T4 → T3 → Option R) → Option R
noncomputable def term_Arena_Known_43b4_T (N : Nat) (c0 : term_Arena_Node_43b4_Ty) {R : Type} (x0 : Int) (x1 : T9) (x2 : T4) (x3 : T3) (k0 : Int → Bool → T9 → T4 → T3 → Option R) : Option R :=
  c0 x0 x1 x2 x3
  (fun i528 i529 i530 i531 i532 i533 b534 l535 l536 l537 => br (decide (i528 = (1 : Int)))
   (k0 i530 (decide ((0 : Int) < i529)) l535 l536 l537)
   (k0 i530 false l535 l536 l537))
noncomputable def term_Arena_Known_43b4 (N : Nat) {R : Type} (x0 : Int) (x1 : T9) (x2 : T4) (x3 : T3) (k0 : Int → Bool → T9 → T4 → T3 → Option R) : Option R := term_Arena_Known_43b4_T N (@term_Arena_Node_43b4 N) x0 x1 x2 x3 k0
abbrev wide_divided_Ty : Type 1 := {R : Type} → Int → Int → Int → (Int → Option R) → Option R
noncomputable def wide_divided_T (N : Nat) (c0 : wide_Mask_Ty) {R : Type} (x0 : Int) (x1 : Int) (x2 : Int) (k0 : Int → Option R) : Option R :=
  br (decide (x2 = (0 : Int)))
  (c0 x0
   (fun i554 => k0 i554))
  (br (decide (x2 = (0 : Int)))
   (none)
   (k0 (IntKind.wrap .u16 (Int.tdiv x1 x2))))
noncomputable def wide_divided (N : Nat) {R : Type} (x0 : Int) (x1 : Int) (x2 : Int) (k0 : Int → Option R) : Option R := wide_divided_T N (@wide_Mask N) x0 x1 x2 k0
abbrev wide_rest_Ty : Type 1 := {R : Type} → Int → Int → (Int → Option R) → Option R
noncomputable def wide_rest_T (N : Nat) {R : Type} (x0 : Int) (x1 : Int) (k0 : Int → Option R) : Option R :=
  br (decide (x1 = (0 : Int)))
  (k0 x0)
  (br (decide (x1 = (0 : Int)))
   (none)
   (k0 (Int.tmod x0 x1)))
noncomputable def wide_rest (N : Nat) {R : Type} (x0 : Int) (x1 : Int) (k0 : Int → Option R) : Option R := wide_rest_T N x0 x1 k0
abbrev wide_truth_Ty : Type 1 := {R : Type} → Bool → (Int → Option R) → Option R
noncomputable def wide_truth_T (N : Nat) {R : Type} (x0 : Bool) (k0 : Int → Option R) : Option R :=
  br x0
  (k0 (1 : Int))
  (k0 (0 : Int))
noncomputable def wide_truth (N : Nat) {R : Type} (x0 : Bool) (k0 : Int → Option R) : Option R := wide_truth_T N x0 k0
abbrev wide_reckon_Ty : Type 1 := {R : Type} → Int → Int → Int → Int → (Int → Bool → Option R) → Option R
noncomputable def wide_reckon_T (N : Nat) (c0 : wide_truth_Ty) (c1 : wide_rest_Ty) (c2 : wide_divided_Ty) {R : Type} (x0 : Int) (x1 : Int) (x2 : Int) (x3 : Int) (k0 : Int → Bool → Option R) : Option R :=
  br (decide (x0 = (3 : Int)))
  (k0 (bxor .u16 (if ((IntKind.signed .u16) = true) then (-1 : Int) else (IntKind.max .u16)) x2) true)
  (br (decide (x0 = (4 : Int)))
   (k0 (band .u16 x2 x3) true)
   (br (decide (x0 = (5 : Int)))
    (k0 (bor .u16 x2 x3) true)
    (br (decide (x0 = (6 : Int)))
     (k0 (bxor .u16 x2 x3) true)
     (br (decide (x0 = (7 : Int)))
      (k0 (IntKind.wrap .u16 (x2 + x3)) true)
      (br (decide (x0 = (8 : Int)))
       (k0 (IntKind.wrap .u16 (x2 - x3)) true)
       (br (decide (x0 = (9 : Int)))
        (k0 (IntKind.wrap .u16 (x2 * x3)) true)
        (br (decide (x0 = (10 : Int)))
         (c2 x1 x2 x3
          (fun i555 => k0 i555 true))
         (br (decide (x0 = (11 : Int)))
          (c1 x2 x3
           (fun i556 => k0 i556 true))
          (br (decide (x0 = (12 : Int)))
           (br (decide (x3 < (0 : Int)))
            (none)
            (k0 (shlI .u16 x2 x3) true))
           (br (decide (x0 = (13 : Int)))
            (br (decide (x3 < (0 : Int)))
             (none)
             (k0 (shrI .u16 x2 x3) true))
            (br (decide (x0 = (14 : Int)))
             (c0 (decide (x2 = x3))
              (fun i557 => k0 i557 true))
             (br (decide (x0 = (15 : Int)))
              (c0 (decide (x2 < x3))
               (fun i558 => k0 i558 true))
              (k0 (0 : Int) false)))))))))))))
noncomputable def wide_reckon (N : Nat) {R : Type} (x0 : Int) (x1 : Int) (x2 : Int) (x3 : Int) (k0 : Int → Bool → Option R) : Option R := wide_reckon_T N (@wide_truth N) (@wide_rest N) (@wide_divided N) x0 x1 x2 x3 k0
abbrev wide_Do_Ty : Type 1 := {R : Type} → Int → Int → Int → Int → (Int → Int → Option R) → Option R
noncomputable def wide_Do_T (N : Nat) (c0 : wide_reckon_Ty) (c1 : wide_Mask_Ty) (c2 : wide_May_Ty) {R : Type} (x0 : Int) (x1 : Int) (x2 : Int) (x3 : Int) (k0 : Int → Int → Option R) : Option R :=
  c2 x1
  (fun b552 => br (!b552)
   (k0 (0 : Int) (2 : Int))
   (c1 x1
    (fun i553 => c0 x0 x1 (band .u16 x2 i553) (band .u16 x3 i553)
     (fun i559 b560 => br (!b560)
      (k0 (0 : Int) (5 : Int))
      (k0 (band .u16 i559 i553) (0 : Int))))))
noncomputable def wide_Do (N : Nat) {R : Type} (x0 : Int) (x1 : Int) (x2 : Int) (x3 : Int) (k0 : Int → Int → Option R) : Option R := wide_Do_T N (@wide_reckon N) (@wide_Mask N) (@wide_May N) x0 x1 x2 x3 k0
abbrev wide_Out_Ty : Type 1 := {R : Type} → Int → Int → (Int → Option R) → Option R
noncomputable def wide_Out_T (N : Nat) (c0 : wide_Do_Ty) {R : Type} (x0 : Int) (x1 : Int) (k0 : Int → Option R) : Option R :=
  c0 x0 x1 (0 : Int) (0 : Int)
  (fun i567 i568 => br (!(decide (i568 = (0 : Int))))
   (k0 (0 : Int))
   (br (!(decide (x0 = (14 : Int))))
    (br (decide (x0 = (15 : Int)))
     (k0 (1 : Int))
     (k0 x1))
    (k0 (1 : Int))))
noncomputable def wide_Out (N : Nat) {R : Type} (x0 : Int) (x1 : Int) (k0 : Int → Option R) : Option R := wide_Out_T N (@wide_Do N) x0 x1 k0
abbrev term_turns_Ty : Type 1 := {R : Type} → Int → (Bool → Option R) → Option R
noncomputable def term_turns_T (N : Nat) {R : Type} (x0 : Int) (k0 : Bool → Option R) : Option R :=
  br (decide (x0 = (4 : Int)))
  (k0 true)
  (br (decide (x0 = (5 : Int)))
   (k0 true)
   (br (decide (x0 = (6 : Int)))
    (k0 true)
    (br (decide (x0 = (7 : Int)))
     (k0 true)
     (br (decide (x0 = (9 : Int)))
      (k0 true)
      (br (decide (x0 = (14 : Int)))
       (k0 true)
       (k0 false))))))
noncomputable def term_turns (N : Nat) {R : Type} (x0 : Int) (k0 : Bool → Option R) : Option R := term_turns_T N x0 k0
abbrev term_Arena_alike_99d8_Ty : Type 1 := {R : Type} → Int → Int → T9 → T4 → T3 → (Int → Int → Bool → T4 → T3 → T9 → Option R) → Option R
noncomputable def term_Arena_alike_99d8_T (N : Nat) (c0 : wide_Do_Ty) (c1 : term_Arena_Const_2c81_Ty) (c2 : term_Arena_Width_43b4_Ty) {R : Type} (x0 : Int) (x1 : Int) (x2 : T9) (x3 : T4) (x4 : T3) (k0 : Int → Int → Bool → T4 → T3 → T9 → Option R) : Option R :=
  c2 x1 x2 x3 x4
  (fun i625 l626 l627 l628 => br (decide (x0 = (4 : Int)))
   (k0 x1 (0 : Int) true l627 l628 l626)
   (br (decide (x0 = (5 : Int)))
    (k0 x1 (0 : Int) true l627 l628 l626)
    (br (decide (x0 = (6 : Int)))
     (c1 i625 (0 : Int) l626 l627 l628
      (fun i629 i630 l631 l632 l633 => k0 i629 i630 true l631 l632 l633))
     (br (decide (x0 = (8 : Int)))
      (c1 i625 (0 : Int) l626 l627 l628
       (fun i634 i635 l636 l637 l638 => k0 i634 i635 true l636 l637 l638))
      (br (decide (x0 = (14 : Int)))
       (c0 x0 i625 (0 : Int) (0 : Int)
        (fun i639 i640 => c1 (1 : Int) i639 l626 l627 l628
         (fun i641 i642 l643 l644 l645 => k0 i641 i642 true l643 l644 l645)))
       (br (decide (x0 = (15 : Int)))
        (c0 x0 i625 (0 : Int) (0 : Int)
         (fun i646 i647 => c1 (1 : Int) i646 l626 l627 l628
          (fun i648 i649 l650 l651 l652 => k0 i648 i649 true l650 l651 l652)))
        (k0 (0 : Int) (0 : Int) false l627 l628 l626)))))))
noncomputable def term_Arena_alike_99d8 (N : Nat) {R : Type} (x0 : Int) (x1 : Int) (x2 : T9) (x3 : T4) (x4 : T3) (k0 : Int → Int → Bool → T4 → T3 → T9 → Option R) : Option R := term_Arena_alike_99d8_T N (@wide_Do N) (@term_Arena_Const_2c81 N) (@term_Arena_Width_43b4 N) x0 x1 x2 x3 x4 k0
abbrev term_Arena_Not_43b4_Ty : Type 1 := {R : Type} → Int → T9 → T4 → T3 → (Int → Int → T4 → T3 → T9 → Option R) → Option R
noncomputable def term_Arena_Not_43b4_T (N : Nat) (c0 : term_Arena_keep_a25e_Ty) (c1 : term_Arena_Const_2c81_Ty) (c2 : term_Arena_Node_43b4_Ty) (c3 : term_Arena_there_2549_Ty) {R : Type} (x0 : Int) (x1 : T9) (x2 : T4) (x3 : T3) (k0 : Int → Int → T4 → T3 → T9 → Option R) : Option R :=
  c3 x1 x2 x3 (x0 :: ([] : List ((Sh.int IntKind.i64).T)))
  (fun b716 l717 l718 l719 l720 => br (!b716)
   (k0 (0 : Int) (1 : Int) l718 l719 l717)
   (c2 x0 l717 l718 l719
    (fun i721 i722 i723 i724 i725 i726 b727 l728 l729 l730 => br (decide (i721 = (1 : Int)))
     (c1 i722 (bxor .u16 (if ((IntKind.signed .u16) = true) then (-1 : Int) else (IntKind.max .u16)) i723) l728 l729 l730
      (fun i731 i732 l733 l734 l735 => k0 i731 i732 l733 l734 l735))
     (br (decide (i721 = (3 : Int)))
      (k0 i724 (0 : Int) l729 l730 l728)
      (c0 (3 : Int) i722 (0 : Int) x0 (0 : Int) (0 : Int) l728 l729 l730
       (fun i736 i737 l738 l739 l740 => k0 i736 i737 l738 l739 l740))))))
noncomputable def term_Arena_Not_43b4 (N : Nat) {R : Type} (x0 : Int) (x1 : T9) (x2 : T4) (x3 : T3) (k0 : Int → Int → T4 → T3 → T9 → Option R) : Option R := term_Arena_Not_43b4_T N (@term_Arena_keep_a25e N) (@term_Arena_Const_2c81 N) (@term_Arena_Node_43b4 N) (@term_Arena_there_2549 N) x0 x1 x2 x3 k0
abbrev ref12_NameMay_l0_Ty : Type 1 := {R : Type} → (Bool → (List (ByteArray)) → Option R) → ((List (ByteArray)) → Option R) → Nat → ByteArray → Int → (List (ByteArray)) → Option R
abbrev ref12_NameMay_l1_Ty : Type 1 := {R : Type} → (Bool → (List (ByteArray)) → Option R) → ((List (ByteArray)) → Option R) → Nat → Int → (List (ByteArray)) → Option R
abbrev ref12_NameMay_Ty : Type 1 := {R : Type} → ByteArray → (Bool → Option R) → Option R
noncomputable def ref12_NameMay_l0_T0 (N : Nat) (w1 : ref12_NameMay_l1_Ty) {R : Type} (nx : ByteArray → Int → (List (ByteArray)) → Option R) (k0 : Bool → (List (ByteArray)) → Option R) (k1 : (List (ByteArray)) → Option R) (x0 : ByteArray) (x1 : Int) (x2 : List (ByteArray)) : Option R :=
  br (decide (x1 < (Nat.cast (ByteArray.size x0) : Int)))
  (br (inB x1 (ByteArray.size x0))
   (br (decide ((bt x0 x1) = (47 : Int)))
    (br (((fits (0 : Nat) (List.length x2) x2) && (decide ((((List.length x2) + (1 : Nat)) * (16 : Nat)) ≤ (70368744177664 : Nat)))) && true)
     (nx x0 (IntKind.wrap .i64 (x1 + (1 : Int))) ((sub x2 (0 : Nat) (List.length x2)) ++ ((bs []) :: ([] : List (Sh.str.T)))))
     (none))
    (br (decide ((97 : Int) ≤ (bt x0 x1)))
     (br (decide ((bt x0 x1) ≤ (122 : Int)))
      (br (inB (IntKind.wrap .i64 ((Nat.cast (List.length x2) : Int) - (1 : Int))) (List.length x2))
       (br (decide ((Int.toNat (IntKind.wrap .i64 ((Nat.cast (List.length x2) : Int) - (1 : Int)))) < (List.length x2)))
        (br (decide (((ByteArray.size (List.getD x2 (Int.toNat (IntKind.wrap .i64 ((Nat.cast (List.length x2) : Int) - (1 : Int)))) (bs []))) + (ByteArray.size (mkStr ((bt x0 x1) :: ([] : List ((Sh.int IntKind.u8).T)))))) < (1099511627776 : Nat)))
         (br (inB (IntKind.wrap .i64 ((Nat.cast (List.length x2) : Int) - (1 : Int))) (List.length x2))
          (br (decide ((Int.toNat (IntKind.wrap .i64 ((Nat.cast (List.length x2) : Int) - (1 : Int)))) < (List.length x2)))
           (nx x0 (IntKind.wrap .i64 (x1 + (1 : Int))) (List.set x2 (Int.toNat (IntKind.wrap .i64 ((Nat.cast (List.length x2) : Int) - (1 : Int)))) ((List.getD x2 (Int.toNat (IntKind.wrap .i64 ((Nat.cast (List.length x2) : Int) - (1 : Int)))) (bs [])) ++ (mkStr ((bt x0 x1) :: ([] : List ((Sh.int IntKind.u8).T)))))))
           (none))
          (none))
         (none))
        (none))
       (none))
      (br (decide ((48 : Int) ≤ (bt x0 x1)))
       (br (decide ((bt x0 x1) ≤ (57 : Int)))
        (br (inB (IntKind.wrap .i64 ((Nat.cast (List.length x2) : Int) - (1 : Int))) (List.length x2))
         (br (decide ((Int.toNat (IntKind.wrap .i64 ((Nat.cast (List.length x2) : Int) - (1 : Int)))) < (List.length x2)))
          (br (decide (((ByteArray.size (List.getD x2 (Int.toNat (IntKind.wrap .i64 ((Nat.cast (List.length x2) : Int) - (1 : Int)))) (bs []))) + (ByteArray.size (mkStr ((bt x0 x1) :: ([] : List ((Sh.int IntKind.u8).T)))))) < (1099511627776 : Nat)))
           (br (inB (IntKind.wrap .i64 ((Nat.cast (List.length x2) : Int) - (1 : Int))) (List.length x2))
            (br (decide ((Int.toNat (IntKind.wrap .i64 ((Nat.cast (List.length x2) : Int) - (1 : Int)))) < (List.length x2)))
             (nx x0 (IntKind.wrap .i64 (x1 + (1 : Int))) (List.set x2 (Int.toNat (IntKind.wrap .i64 ((Nat.cast (List.length x2) : Int) - (1 : Int)))) ((List.getD x2 (Int.toNat (IntKind.wrap .i64 ((Nat.cast (List.length x2) : Int) - (1 : Int)))) (bs [])) ++ (mkStr ((bt x0 x1) :: ([] : List ((Sh.int IntKind.u8).T)))))))
             (none))
            (none))
           (none))
          (none))
         (none))
        (br (decide ((bt x0 x1) = (46 : Int)))
         (br (inB (IntKind.wrap .i64 ((Nat.cast (List.length x2) : Int) - (1 : Int))) (List.length x2))
          (br (decide ((Int.toNat (IntKind.wrap .i64 ((Nat.cast (List.length x2) : Int) - (1 : Int)))) < (List.length x2)))
           (br (decide (((ByteArray.size (List.getD x2 (Int.toNat (IntKind.wrap .i64 ((Nat.cast (List.length x2) : Int) - (1 : Int)))) (bs []))) + (ByteArray.size (mkStr ((bt x0 x1) :: ([] : List ((Sh.int IntKind.u8).T)))))) < (1099511627776 : Nat)))
            (br (inB (IntKind.wrap .i64 ((Nat.cast (List.length x2) : Int) - (1 : Int))) (List.length x2))
             (br (decide ((Int.toNat (IntKind.wrap .i64 ((Nat.cast (List.length x2) : Int) - (1 : Int)))) < (List.length x2)))
              (nx x0 (IntKind.wrap .i64 (x1 + (1 : Int))) (List.set x2 (Int.toNat (IntKind.wrap .i64 ((Nat.cast (List.length x2) : Int) - (1 : Int)))) ((List.getD x2 (Int.toNat (IntKind.wrap .i64 ((Nat.cast (List.length x2) : Int) - (1 : Int)))) (bs [])) ++ (mkStr ((bt x0 x1) :: ([] : List ((Sh.int IntKind.u8).T)))))))
              (none))
             (none))
            (none))
           (none))
          (none))
         (br (decide ((bt x0 x1) = (95 : Int)))
          (br (inB (IntKind.wrap .i64 ((Nat.cast (List.length x2) : Int) - (1 : Int))) (List.length x2))
           (br (decide ((Int.toNat (IntKind.wrap .i64 ((Nat.cast (List.length x2) : Int) - (1 : Int)))) < (List.length x2)))
            (br (decide (((ByteArray.size (List.getD x2 (Int.toNat (IntKind.wrap .i64 ((Nat.cast (List.length x2) : Int) - (1 : Int)))) (bs []))) + (ByteArray.size (mkStr ((bt x0 x1) :: ([] : List ((Sh.int IntKind.u8).T)))))) < (1099511627776 : Nat)))
             (br (inB (IntKind.wrap .i64 ((Nat.cast (List.length x2) : Int) - (1 : Int))) (List.length x2))
              (br (decide ((Int.toNat (IntKind.wrap .i64 ((Nat.cast (List.length x2) : Int) - (1 : Int)))) < (List.length x2)))
               (nx x0 (IntKind.wrap .i64 (x1 + (1 : Int))) (List.set x2 (Int.toNat (IntKind.wrap .i64 ((Nat.cast (List.length x2) : Int) - (1 : Int)))) ((List.getD x2 (Int.toNat (IntKind.wrap .i64 ((Nat.cast (List.length x2) : Int) - (1 : Int)))) (bs [])) ++ (mkStr ((bt x0 x1) :: ([] : List ((Sh.int IntKind.u8).T)))))))
               (none))
              (none))
             (none))
            (none))
           (none))
          (k0 false x2))))
       (br (decide ((bt x0 x1) = (46 : Int)))
        (br (inB (IntKind.wrap .i64 ((Nat.cast (List.length x2) : Int) - (1 : Int))) (List.length x2))
         (br (decide ((Int.toNat (IntKind.wrap .i64 ((Nat.cast (List.length x2) : Int) - (1 : Int)))) < (List.length x2)))
          (br (decide (((ByteArray.size (List.getD x2 (Int.toNat (IntKind.wrap .i64 ((Nat.cast (List.length x2) : Int) - (1 : Int)))) (bs []))) + (ByteArray.size (mkStr ((bt x0 x1) :: ([] : List ((Sh.int IntKind.u8).T)))))) < (1099511627776 : Nat)))
           (br (inB (IntKind.wrap .i64 ((Nat.cast (List.length x2) : Int) - (1 : Int))) (List.length x2))
            (br (decide ((Int.toNat (IntKind.wrap .i64 ((Nat.cast (List.length x2) : Int) - (1 : Int)))) < (List.length x2)))
             (nx x0 (IntKind.wrap .i64 (x1 + (1 : Int))) (List.set x2 (Int.toNat (IntKind.wrap .i64 ((Nat.cast (List.length x2) : Int) - (1 : Int)))) ((List.getD x2 (Int.toNat (IntKind.wrap .i64 ((Nat.cast (List.length x2) : Int) - (1 : Int)))) (bs [])) ++ (mkStr ((bt x0 x1) :: ([] : List ((Sh.int IntKind.u8).T)))))))
             (none))
            (none))
           (none))
          (none))
         (none))
        (br (decide ((bt x0 x1) = (95 : Int)))
         (br (inB (IntKind.wrap .i64 ((Nat.cast (List.length x2) : Int) - (1 : Int))) (List.length x2))
          (br (decide ((Int.toNat (IntKind.wrap .i64 ((Nat.cast (List.length x2) : Int) - (1 : Int)))) < (List.length x2)))
           (br (decide (((ByteArray.size (List.getD x2 (Int.toNat (IntKind.wrap .i64 ((Nat.cast (List.length x2) : Int) - (1 : Int)))) (bs []))) + (ByteArray.size (mkStr ((bt x0 x1) :: ([] : List ((Sh.int IntKind.u8).T)))))) < (1099511627776 : Nat)))
            (br (inB (IntKind.wrap .i64 ((Nat.cast (List.length x2) : Int) - (1 : Int))) (List.length x2))
             (br (decide ((Int.toNat (IntKind.wrap .i64 ((Nat.cast (List.length x2) : Int) - (1 : Int)))) < (List.length x2)))
              (nx x0 (IntKind.wrap .i64 (x1 + (1 : Int))) (List.set x2 (Int.toNat (IntKind.wrap .i64 ((Nat.cast (List.length x2) : Int) - (1 : Int)))) ((List.getD x2 (Int.toNat (IntKind.wrap .i64 ((Nat.cast (List.length x2) : Int) - (1 : Int)))) (bs [])) ++ (mkStr ((bt x0 x1) :: ([] : List ((Sh.int IntKind.u8).T)))))))
              (none))
             (none))
            (none))
           (none))
          (none))
         (k0 false x2)))))
     (br (decide ((48 : Int) ≤ (bt x0 x1)))
      (br (decide ((bt x0 x1) ≤ (57 : Int)))
       (br (inB (IntKind.wrap .i64 ((Nat.cast (List.length x2) : Int) - (1 : Int))) (List.length x2))
        (br (decide ((Int.toNat (IntKind.wrap .i64 ((Nat.cast (List.length x2) : Int) - (1 : Int)))) < (List.length x2)))
         (br (decide (((ByteArray.size (List.getD x2 (Int.toNat (IntKind.wrap .i64 ((Nat.cast (List.length x2) : Int) - (1 : Int)))) (bs []))) + (ByteArray.size (mkStr ((bt x0 x1) :: ([] : List ((Sh.int IntKind.u8).T)))))) < (1099511627776 : Nat)))
          (br (inB (IntKind.wrap .i64 ((Nat.cast (List.length x2) : Int) - (1 : Int))) (List.length x2))
           (br (decide ((Int.toNat (IntKind.wrap .i64 ((Nat.cast (List.length x2) : Int) - (1 : Int)))) < (List.length x2)))
            (nx x0 (IntKind.wrap .i64 (x1 + (1 : Int))) (List.set x2 (Int.toNat (IntKind.wrap .i64 ((Nat.cast (List.length x2) : Int) - (1 : Int)))) ((List.getD x2 (Int.toNat (IntKind.wrap .i64 ((Nat.cast (List.length x2) : Int) - (1 : Int)))) (bs [])) ++ (mkStr ((bt x0 x1) :: ([] : List ((Sh.int IntKind.u8).T)))))))
            (none))
           (none))
          (none))
         (none))
        (none))
       (br (decide ((bt x0 x1) = (46 : Int)))
        (br (inB (IntKind.wrap .i64 ((Nat.cast (List.length x2) : Int) - (1 : Int))) (List.length x2))
         (br (decide ((Int.toNat (IntKind.wrap .i64 ((Nat.cast (List.length x2) : Int) - (1 : Int)))) < (List.length x2)))
          (br (decide (((ByteArray.size (List.getD x2 (Int.toNat (IntKind.wrap .i64 ((Nat.cast (List.length x2) : Int) - (1 : Int)))) (bs []))) + (ByteArray.size (mkStr ((bt x0 x1) :: ([] : List ((Sh.int IntKind.u8).T)))))) < (1099511627776 : Nat)))
           (br (inB (IntKind.wrap .i64 ((Nat.cast (List.length x2) : Int) - (1 : Int))) (List.length x2))
            (br (decide ((Int.toNat (IntKind.wrap .i64 ((Nat.cast (List.length x2) : Int) - (1 : Int)))) < (List.length x2)))
             (nx x0 (IntKind.wrap .i64 (x1 + (1 : Int))) (List.set x2 (Int.toNat (IntKind.wrap .i64 ((Nat.cast (List.length x2) : Int) - (1 : Int)))) ((List.getD x2 (Int.toNat (IntKind.wrap .i64 ((Nat.cast (List.length x2) : Int) - (1 : Int)))) (bs [])) ++ (mkStr ((bt x0 x1) :: ([] : List ((Sh.int IntKind.u8).T)))))))
             (none))
            (none))
           (none))
          (none))
         (none))
        (br (decide ((bt x0 x1) = (95 : Int)))
         (br (inB (IntKind.wrap .i64 ((Nat.cast (List.length x2) : Int) - (1 : Int))) (List.length x2))
          (br (decide ((Int.toNat (IntKind.wrap .i64 ((Nat.cast (List.length x2) : Int) - (1 : Int)))) < (List.length x2)))
           (br (decide (((ByteArray.size (List.getD x2 (Int.toNat (IntKind.wrap .i64 ((Nat.cast (List.length x2) : Int) - (1 : Int)))) (bs []))) + (ByteArray.size (mkStr ((bt x0 x1) :: ([] : List ((Sh.int IntKind.u8).T)))))) < (1099511627776 : Nat)))
            (br (inB (IntKind.wrap .i64 ((Nat.cast (List.length x2) : Int) - (1 : Int))) (List.length x2))
             (br (decide ((Int.toNat (IntKind.wrap .i64 ((Nat.cast (List.length x2) : Int) - (1 : Int)))) < (List.length x2)))
              (nx x0 (IntKind.wrap .i64 (x1 + (1 : Int))) (List.set x2 (Int.toNat (IntKind.wrap .i64 ((Nat.cast (List.length x2) : Int) - (1 : Int)))) ((List.getD x2 (Int.toNat (IntKind.wrap .i64 ((Nat.cast (List.length x2) : Int) - (1 : Int)))) (bs [])) ++ (mkStr ((bt x0 x1) :: ([] : List ((Sh.int IntKind.u8).T)))))))
              (none))
             (none))
            (none))
           (none))
          (none))
         (k0 false x2))))
      (br (decide ((bt x0 x1) = (46 : Int)))
       (br (inB (IntKind.wrap .i64 ((Nat.cast (List.length x2) : Int) - (1 : Int))) (List.length x2))
        (br (decide ((Int.toNat (IntKind.wrap .i64 ((Nat.cast (List.length x2) : Int) - (1 : Int)))) < (List.length x2)))
         (br (decide (((ByteArray.size (List.getD x2 (Int.toNat (IntKind.wrap .i64 ((Nat.cast (List.length x2) : Int) - (1 : Int)))) (bs []))) + (ByteArray.size (mkStr ((bt x0 x1) :: ([] : List ((Sh.int IntKind.u8).T)))))) < (1099511627776 : Nat)))
          (br (inB (IntKind.wrap .i64 ((Nat.cast (List.length x2) : Int) - (1 : Int))) (List.length x2))
           (br (decide ((Int.toNat (IntKind.wrap .i64 ((Nat.cast (List.length x2) : Int) - (1 : Int)))) < (List.length x2)))
            (nx x0 (IntKind.wrap .i64 (x1 + (1 : Int))) (List.set x2 (Int.toNat (IntKind.wrap .i64 ((Nat.cast (List.length x2) : Int) - (1 : Int)))) ((List.getD x2 (Int.toNat (IntKind.wrap .i64 ((Nat.cast (List.length x2) : Int) - (1 : Int)))) (bs [])) ++ (mkStr ((bt x0 x1) :: ([] : List ((Sh.int IntKind.u8).T)))))))
            (none))
           (none))
          (none))
         (none))
        (none))
       (br (decide ((bt x0 x1) = (95 : Int)))
        (br (inB (IntKind.wrap .i64 ((Nat.cast (List.length x2) : Int) - (1 : Int))) (List.length x2))
         (br (decide ((Int.toNat (IntKind.wrap .i64 ((Nat.cast (List.length x2) : Int) - (1 : Int)))) < (List.length x2)))
          (br (decide (((ByteArray.size (List.getD x2 (Int.toNat (IntKind.wrap .i64 ((Nat.cast (List.length x2) : Int) - (1 : Int)))) (bs []))) + (ByteArray.size (mkStr ((bt x0 x1) :: ([] : List ((Sh.int IntKind.u8).T)))))) < (1099511627776 : Nat)))
           (br (inB (IntKind.wrap .i64 ((Nat.cast (List.length x2) : Int) - (1 : Int))) (List.length x2))
            (br (decide ((Int.toNat (IntKind.wrap .i64 ((Nat.cast (List.length x2) : Int) - (1 : Int)))) < (List.length x2)))
             (nx x0 (IntKind.wrap .i64 (x1 + (1 : Int))) (List.set x2 (Int.toNat (IntKind.wrap .i64 ((Nat.cast (List.length x2) : Int) - (1 : Int)))) ((List.getD x2 (Int.toNat (IntKind.wrap .i64 ((Nat.cast (List.length x2) : Int) - (1 : Int)))) (bs [])) ++ (mkStr ((bt x0 x1) :: ([] : List ((Sh.int IntKind.u8).T)))))))
             (none))
            (none))
           (none))
          (none))
         (none))
        (k0 false x2))))))
   (none))
  (k1 x2)
noncomputable def ref12_NameMay_l1_T0 (N : Nat) {R : Type} (nx : Int → (List (ByteArray)) → Option R) (k0 : Bool → (List (ByteArray)) → Option R) (k1 : (List (ByteArray)) → Option R) (x0 : Int) (x1 : List (ByteArray)) : Option R :=
  br (decide (x0 < (Nat.cast (List.length x1) : Int)))
  (br (inB x0 (List.length x1))
   (br (decide ((Int.toNat x0) < (List.length x1)))
    (br (!(decide ((List.getD x1 (Int.toNat x0) (bs [])) = (bs []))))
     (br (inB x0 (List.length x1))
      (br (decide ((Int.toNat x0) < (List.length x1)))
       (br (!(decide ((List.getD x1 (Int.toNat x0) (bs [])) = (bs [46]))))
        (br (inB x0 (List.length x1))
         (br (decide ((Int.toNat x0) < (List.length x1)))
          (br (decide ((List.getD x1 (Int.toNat x0) (bs [])) = (bs [46, 46])))
           (k0 false x1)
           (nx (IntKind.wrap .i64 (x0 + (1 : Int))) x1))
          (none))
         (none))
        (k0 false x1))
       (none))
      (none))
     (k0 false x1))
    (none))
   (none))
  (k1 x1)
noncomputable def ref12_NameMay_l1 (N : Nat) {R : Type} (k0 : Bool → (List (ByteArray)) → Option R) (k1 : (List (ByteArray)) → Option R) : Nat → Int → (List (ByteArray)) → Option R
  | 0, _, _ => none
  | n + 1, x0, x1 => ref12_NameMay_l1_T0 N (fun x0 x1 => ref12_NameMay_l1 N k0 k1 n x0 x1) k0 k1 x0 x1
noncomputable def ref12_NameMay_l0 (N : Nat) {R : Type} (k0 : Bool → (List (ByteArray)) → Option R) (k1 : (List (ByteArray)) → Option R) : Nat → ByteArray → Int → (List (ByteArray)) → Option R
  | 0, _, _, _ => none
  | n + 1, x0, x1, x2 => ref12_NameMay_l0_T0 N (@ref12_NameMay_l1 N) (fun x0 x1 x2 => ref12_NameMay_l0 N k0 k1 n x0 x1 x2) k0 k1 x0 x1 x2
noncomputable def ref12_NameMay_T (N : Nat) (w0 : ref12_NameMay_l0_Ty) (w1 : ref12_NameMay_l1_Ty) {R : Type} (x0 : ByteArray) (k0 : Bool → Option R) : Option R :=
  br (!(decide ((Nat.cast (ByteArray.size x0) : Int) < (1 : Int))))
  (br (decide ((8 : Int) < (Nat.cast (ByteArray.size x0) : Int)))
   (k0 false)
   (w0
    (fun b1584 l1585 => k0 b1584)
    (fun l1586 => w1
     (fun b1587 l1588 => k0 b1587)
     (fun l1589 => k0 (decide ((Nat.cast (List.length l1589) : Int) ≤ (2 : Int))))
     N (0 : Int) l1586)
    N x0 (0 : Int) ((bs []) :: ([] : List (Sh.str.T)))))
  (k0 false)
noncomputable def ref12_NameMay (N : Nat) {R : Type} (x0 : ByteArray) (k0 : Bool → Option R) : Option R := ref12_NameMay_T N (@ref12_NameMay_l0 N) (@ref12_NameMay_l1 N) x0 k0
abbrev ref12_Tree_at_7d70_l0_Ty : Type 1 := {R : Type} → (Int → Int → T5 → Option R) → (Int → T5 → Option R) → Nat → ByteArray → Int → Int → T5 → Option R
abbrev ref12_Tree_at_7d70_Ty : Type 1 := {R : Type} → ByteArray → Int → T5 → (Int → Int → T5 → Option R) → Option R
noncomputable def ref12_Tree_at_7d70_l0_T0 (N : Nat) {R : Type} (nx : ByteArray → Int → Int → T5 → Option R) (k0 : Int → Int → T5 → Option R) (k1 : Int → T5 → Option R) (x0 : ByteArray) (x1 : Int) (x2 : Int) (x3 : T5) : Option R :=
  br (decide (x1 < (Nat.cast (List.length x3) : Int)))
  (br (inB x1 (List.length x3))
   (br (decide ((Int.toNat x1) < (List.length x3)))
    (br (decide ((List.getD x3 (Int.toNat x1) ((bs []) , (false , (0 : Int)))).1 = x0))
     (k0 x1 x2 x3)
     (nx x0 (IntKind.wrap .i64 (x1 + (1 : Int))) x2 x3))
    (none))
   (none))
  (k1 x2 x3)
noncomputable def ref12_Tree_at_7d70_l0 (N : Nat) {R : Type} (k0 : Int → Int → T5 → Option R) (k1 : Int → T5 → Option R) : Nat → ByteArray → Int → Int → T5 → Option R
  | 0, _, _, _, _ => none
  | n + 1, x0, x1, x2, x3 => ref12_Tree_at_7d70_l0_T0 N (fun x0 x1 x2 x3 => ref12_Tree_at_7d70_l0 N k0 k1 n x0 x1 x2 x3) k0 k1 x0 x1 x2 x3
noncomputable def ref12_Tree_at_7d70_T (N : Nat) (w0 : ref12_Tree_at_7d70_l0_Ty) {R : Type} (x0 : ByteArray) (x1 : Int) (x2 : T5) (k0 : Int → Int → T5 → Option R) : Option R :=
  w0
  (fun i1591 i1592 l1593 => k0 i1591 i1592 l1593)
  (fun i1594 l1595 => k0 (-1 : Int) i1594 l1595)
  N x0 (0 : Int) x1 x2
noncomputable def ref12_Tree_at_7d70 (N : Nat) {R : Type} (x0 : ByteArray) (x1 : Int) (x2 : T5) (k0 : Int → Int → T5 → Option R) : Option R := ref12_Tree_at_7d70_T N (@ref12_Tree_at_7d70_l0 N) x0 x1 x2 k0
abbrev ref12_Split_l0_Ty : Type 1 := {R : Type} → (ByteArray → ByteArray → ByteArray → Option R) → (ByteArray → Option R) → Nat → ByteArray → Int → Option R
abbrev ref12_Split_Ty : Type 1 := {R : Type} → ByteArray → (ByteArray → ByteArray → Option R) → Option R
noncomputable def ref12_Split_l0_T0 (N : Nat) (c0 : ref12_NameMay_Ty) {R : Type} (nx : ByteArray → Int → Option R) (k0 : ByteArray → ByteArray → ByteArray → Option R) (k1 : ByteArray → Option R) (x0 : ByteArray) (x1 : Int) : Option R :=
  br (decide (x1 < (Nat.cast (ByteArray.size x0) : Int)))
  (br (inB x1 (ByteArray.size x0))
   (br (decide ((bt x0 x1) = (47 : Int)))
    (br (leB x1 (ByteArray.size x0))
     (br (leB (IntKind.wrap .i64 (x1 + (1 : Int))) (ByteArray.size x0))
      (k0 x0 (ByteArray.extract x0 (0 : Nat) (Int.toNat x1)) (ByteArray.extract x0 (Int.toNat (IntKind.wrap .i64 (x1 + (1 : Int)))) (ByteArray.size x0)))
      (none))
     (none))
    (nx x0 (IntKind.wrap .i64 (x1 + (1 : Int)))))
   (none))
  (k1 x0)
noncomputable def ref12_Split_l0 (N : Nat) {R : Type} (k0 : ByteArray → ByteArray → ByteArray → Option R) (k1 : ByteArray → Option R) : Nat → ByteArray → Int → Option R
  | 0, _, _ => none
  | n + 1, x0, x1 => ref12_Split_l0_T0 N (@ref12_NameMay N) (fun x0 x1 => ref12_Split_l0 N k0 k1 n x0 x1) k0 k1 x0 x1
noncomputable def ref12_Split_T (N : Nat) (c0 : ref12_NameMay_Ty) (w0 : ref12_Split_l0_Ty) {R : Type} (x0 : ByteArray) (k0 : ByteArray → ByteArray → Option R) : Option R :=
  c0 x0
  (fun b1599 => br (!b1599)
   (k0 (bs []) (bs []))
   (w0
    (fun s1600 s1601 s1602 => k0 s1601 s1602)
    (fun s1603 => k0 (bs []) s1603)
    N x0 (0 : Int)))
noncomputable def ref12_Split (N : Nat) {R : Type} (x0 : ByteArray) (k0 : ByteArray → ByteArray → Option R) : Option R := ref12_Split_T N (@ref12_NameMay N) (@ref12_Split_l0 N) x0 k0
abbrev ref12_NewTree_l0_Ty : Type 1 := {R : Type} → (T5 → Int → Int → T5 → Option R) → (T5 → Int → T5 → Option R) → Nat → T5 → Int → Int → T5 → Option R
abbrev ref12_NewTree_Ty : Type 1 := {R : Type} → T5 → (Int → Option R) → (Int → Int → T5 → Option R) → Option R
noncomputable def ref12_NewTree_l0_T0 (N : Nat) (c0 : ref12_Split_Ty) (c1 : ref12_Tree_at_7d70_Ty) (c2 : ref12_NameMay_Ty) {R : Type} (nx : T5 → Int → Int → T5 → Option R) (k0 : T5 → Int → Int → T5 → Option R) (k1 : T5 → Int → T5 → Option R) (x0 : T5) (x1 : Int) (x2 : Int) (x3 : T5) : Option R :=
  br (decide (x1 < (Nat.cast (List.length x0) : Int)))
  (br (inB x1 (List.length x0))
   (c2 (List.getD x0 (Int.toNat x1) ((bs []) , (false , (0 : Int)))).1
    (fun b1590 => br (!(!b1590))
     (br (inB x1 (List.length x0))
      (c1 (List.getD x0 (Int.toNat x1) ((bs []) , (false , (0 : Int)))).1 x2 x3
       (fun i1596 i1597 l1598 => br (decide ((0 : Int) ≤ i1596))
        (k0 x0 (11 : Int) i1597 l1598)
        (br (inB x1 (List.length x0))
         (c0 (List.getD x0 (Int.toNat x1) ((bs []) , (false , (0 : Int)))).1
          (fun s1604 s1605 => br (!(decide (s1604 = (bs []))))
           (br (inB x1 (List.length x0))
            (br (!(List.getD x0 (Int.toNat x1) ((bs []) , (false , (0 : Int)))).2.1)
             (c1 s1604 i1597 l1598
              (fun i1606 i1607 l1608 => br (!(decide (i1606 < (0 : Int))))
               (c1 s1604 i1607 l1608
                (fun i1609 i1610 l1611 => br (inB i1609 (List.length l1611))
                 (br (decide ((Int.toNat i1609) < (List.length l1611)))
                  (br (!(List.getD l1611 (Int.toNat i1609) ((bs []) , (false , (0 : Int)))).2.1)
                   (k0 x0 (11 : Int) i1610 l1611)
                   (br (inB x1 (List.length x0))
                    (br (inB x1 (List.length x0))
                     (br (((fits (0 : Nat) (List.length l1611) l1611) && (decide ((((List.length l1611) + (1 : Nat)) * (32 : Nat)) ≤ (70368744177664 : Nat)))) && true)
                      (nx x0 (IntKind.wrap .i64 (x1 + (1 : Int))) i1610 ((sub l1611 (0 : Nat) (List.length l1611)) ++ (((List.getD x0 (Int.toNat x1) ((bs []) , (false , (0 : Int)))).1 , ((List.getD x0 (Int.toNat x1) ((bs []) , (false , (0 : Int)))).2.1 , x1)) :: ([] : List ((Sh.str.pair (Sh.bool.pair (Sh.int IntKind.i64))).T)))))
                      (none))
                     (none))
                    (none)))
                  (none))
                 (none)))
               (k0 x0 (11 : Int) i1607 l1608)))
             (k0 x0 (11 : Int) i1597 l1598))
            (none))
           (br (inB x1 (List.length x0))
            (br (inB x1 (List.length x0))
             (br (((fits (0 : Nat) (List.length l1598) l1598) && (decide ((((List.length l1598) + (1 : Nat)) * (32 : Nat)) ≤ (70368744177664 : Nat)))) && true)
              (nx x0 (IntKind.wrap .i64 (x1 + (1 : Int))) i1597 ((sub l1598 (0 : Nat) (List.length l1598)) ++ (((List.getD x0 (Int.toNat x1) ((bs []) , (false , (0 : Int)))).1 , ((List.getD x0 (Int.toNat x1) ((bs []) , (false , (0 : Int)))).2.1 , x1)) :: ([] : List ((Sh.str.pair (Sh.bool.pair (Sh.int IntKind.i64))).T)))))
              (none))
             (none))
            (none))))
         (none))))
      (none))
     (k0 x0 (11 : Int) x2 x3)))
   (none))
  (k1 x0 x2 x3)
noncomputable def ref12_NewTree_l0 (N : Nat) {R : Type} (k0 : T5 → Int → Int → T5 → Option R) (k1 : T5 → Int → T5 → Option R) : Nat → T5 → Int → Int → T5 → Option R
  | 0, _, _, _, _ => none
  | n + 1, x0, x1, x2, x3 => ref12_NewTree_l0_T0 N (@ref12_Split N) (@ref12_Tree_at_7d70 N) (@ref12_NameMay N) (fun x0 x1 x2 x3 => ref12_NewTree_l0 N k0 k1 n x0 x1 x2 x3) k0 k1 x0 x1 x2 x3
noncomputable def ref12_NewTree_T (N : Nat) (c0 : ref12_Split_Ty) (c1 : ref12_Tree_at_7d70_Ty) (c2 : ref12_NameMay_Ty) (w0 : ref12_NewTree_l0_Ty) {R : Type} (x0 : T5) (k0 : Int → Option R) (k1 : Int → Int → T5 → Option R) : Option R :=
  br (decide ((8 : Int) < (Nat.cast (List.length x0) : Int)))
  (k0 (11 : Int))
  (w0
   (fun l1612 i1613 i1614 l1615 => k0 i1613)
   (fun l1616 i1617 l1618 => k1 (0 : Int) (Nat.cast (List.length l1616) : Int) l1618)
   N x0 (0 : Int) (0 : Int) ([] : List ((Sh.str.pair (Sh.bool.pair (Sh.int IntKind.i64))).T)))
noncomputable def ref12_NewTree (N : Nat) {R : Type} (x0 : T5) (k0 : Int → Option R) (k1 : Int → Int → T5 → Option R) : Option R := ref12_NewTree_T N (@ref12_Split N) (@ref12_Tree_at_7d70 N) (@ref12_NameMay N) (@ref12_NewTree_l0 N) x0 k0 k1
abbrev ref17_Caps_l0_Ty : Type 1 := {R : Type} → (T5 → T2 → Int → Int → Int → T2 → Option R) → Nat → Int → T5 → T2 → Int → Int → Int → T2 → Option R
abbrev ref17_Caps_Ty : Type 1 := {R : Type} → T5 → T2 → Int → Int → Int → (T2 → Option R) → Option R
noncomputable def ref17_Caps_l0_T0 (N : Nat) {R : Type} (nx : Int → T5 → T2 → Int → Int → Int → T2 → Option R) (k0 : T5 → T2 → Int → Int → Int → T2 → Option R) (x0 : Int) (x1 : T5) (x2 : T2) (x3 : Int) (x4 : Int) (x5 : Int) (x6 : T2) : Option R :=
  br (decide (x0 < (Nat.cast (List.length x1) : Int)))
  (br (inB x0 (List.length x1))
   (br (!(List.getD x1 (Int.toNat x0) ((bs []) , (false , (0 : Int)))).2.1)
    (br (inB x0 (List.length x1))
     (br (((fits (0 : Nat) (List.length x6) x6) && (decide ((((List.length x6) + (1 : Nat)) * (8 : Nat)) ≤ (70368744177664 : Nat)))) && true)
      (nx (IntKind.wrap .i64 (x0 + (1 : Int))) x1 x2 x3 x4 x5 ((sub x6 (0 : Nat) (List.length x6)) ++ ((List.getD x1 (Int.toNat x0) ((bs []) , (false , (0 : Int)))).2.2 :: ([] : List ((Sh.int IntKind.i64).T)))))
      (none))
     (none))
    (nx (IntKind.wrap .i64 (x0 + (1 : Int))) x1 x2 x3 x4 x5 x6))
   (none))
  (k0 x1 x2 x3 x4 x5 x6)
noncomputable def ref17_Caps_l0 (N : Nat) {R : Type} (k0 : T5 → T2 → Int → Int → Int → T2 → Option R) : Nat → Int → T5 → T2 → Int → Int → Int → T2 → Option R
  | 0, _, _, _, _, _, _, _ => none
  | n + 1, x0, x1, x2, x3, x4, x5, x6 => ref17_Caps_l0_T0 N (fun x0 x1 x2 x3 x4 x5 x6 => ref17_Caps_l0 N k0 n x0 x1 x2 x3 x4 x5 x6) k0 x0 x1 x2 x3 x4 x5 x6
noncomputable def ref17_Caps_T (N : Nat) (w0 : ref17_Caps_l0_Ty) {R : Type} (x0 : T5) (x1 : T2) (x2 : Int) (x3 : Int) (x4 : Int) (k0 : T2 → Option R) : Option R :=
  w0
  (fun l1620 l1621 i1622 i1623 i1624 l1625 => br (((fits (0 : Nat) (List.length l1625) l1625) && (decide ((((List.length l1625) + (List.length l1621)) * (8 : Nat)) ≤ (70368744177664 : Nat)))) && true)
   (k0 ((sub l1625 (0 : Nat) (List.length l1625)) ++ l1621))
   (none))
  N (0 : Int) x0 x1 x2 x3 x4 ([] : List ((Sh.int IntKind.i64).T))
noncomputable def ref17_Caps (N : Nat) {R : Type} (x0 : T5) (x1 : T2) (x2 : Int) (x3 : Int) (x4 : Int) (k0 : T2 → Option R) : Option R := ref17_Caps_T N (@ref17_Caps_l0 N) x0 x1 x2 x3 x4 k0
abbrev ref17_files_Ty : Type 1 := {R : Type} → T5 → T2 → Int → Int → Int → (Int → Option R) → Option R
noncomputable def ref17_files_T (N : Nat) (c0 : ref17_Caps_Ty) {R : Type} (x0 : T5) (x1 : T2) (x2 : Int) (x3 : Int) (x4 : Int) (k0 : Int → Option R) : Option R :=
  c0 x0 x1 x2 x3 x4
  (fun l1626 => br (listDec (Sh.dec (.int .i64)) x1 x1)
   (br (decide ((Nat.cast (List.length x1) : Int) = (Nat.cast (List.length x1) : Int)))
    (k0 (IntKind.wrap .i64 ((Nat.cast (List.length l1626) : Int) - (Nat.cast (List.length x1) : Int))))
    (none))
   (none))
noncomputable def ref17_files (N : Nat) {R : Type} (x0 : T5) (x1 : T2) (x2 : Int) (x3 : Int) (x4 : Int) (k0 : Int → Option R) : Option R := ref17_files_T N (@ref17_Caps N) x0 x1 x2 x3 x4 k0
abbrev ref17_May_l0_Ty : Type 1 := {R : Type} → (Bool → T5 → T2 → Int → Int → Int → Option R) → (T5 → T2 → Int → Int → Int → Option R) → Nat → Int → T5 → T2 → Int → Int → Int → Option R
abbrev ref17_May_l1_Ty : Type 1 := {R : Type} → (Bool → Option R) → (Option R) → Nat → Int → T2 → Option R
abbrev ref17_May_Ty : Type 1 := {R : Type} → T5 → T2 → Int → Int → Int → (Bool → Option R) → Option R
noncomputable def ref17_May_l0_T0 (N : Nat) (c0 : ref17_Caps_Ty) (c1 : ref17_files_Ty) (c2 : ref12_NewTree_Ty) (w1 : ref17_May_l1_Ty) {R : Type} (nx : Int → T5 → T2 → Int → Int → Int → Option R) (k0 : Bool → T5 → T2 → Int → Int → Int → Option R) (k1 : T5 → T2 → Int → Int → Int → Option R) (x0 : Int) (x1 : T5) (x2 : T2) (x3 : Int) (x4 : Int) (x5 : Int) : Option R :=
  br (decide (x0 < (Nat.cast (List.length x1) : Int)))
  (br (inB x0 (List.length x1))
   (br (List.getD x1 (Int.toNat x0) ((bs []) , (false , (0 : Int)))).2.1
    (br (inB x0 (List.length x1))
     (br (!(decide ((List.getD x1 (Int.toNat x0) ((bs []) , (false , (0 : Int)))).2.2 = (0 : Int))))
      (k0 false x1 x2 x3 x4 x5)
      (nx (IntKind.wrap .i64 (x0 + (1 : Int))) x1 x2 x3 x4 x5))
     (none))
    (nx (IntKind.wrap .i64 (x0 + (1 : Int))) x1 x2 x3 x4 x5))
   (none))
  (k1 x1 x2 x3 x4 x5)
noncomputable def ref17_May_l1_T0 (N : Nat) (c0 : ref17_Caps_Ty) (c1 : ref17_files_Ty) (c2 : ref12_NewTree_Ty) {R : Type} (nx : Int → T2 → Option R) (k0 : Bool → Option R) (k1 : Option R) (x0 : Int) (x1 : T2) : Option R :=
  br (decide (x0 < (Nat.cast (List.length x1) : Int)))
  (br (inB x0 (List.length x1))
   (br (decide ((Int.toNat x0) < (List.length x1)))
    (br (!(decide ((List.getD x1 (Int.toNat x0) (0 : Int)) < (0 : Int))))
     (br (inB x0 (List.length x1))
      (br (decide ((Int.toNat x0) < (List.length x1)))
       (br (decide ((3 : Int) < (List.getD x1 (Int.toNat x0) (0 : Int))))
        (k0 false)
        (nx (IntKind.wrap .i64 (x0 + (1 : Int))) x1))
       (none))
      (none))
     (k0 false))
    (none))
   (none))
  (k1)
noncomputable def ref17_May_l1 (N : Nat) {R : Type} (k0 : Bool → Option R) (k1 : Option R) : Nat → Int → T2 → Option R
  | 0, _, _ => none
  | n + 1, x0, x1 => ref17_May_l1_T0 N (@ref17_Caps N) (@ref17_files N) (@ref12_NewTree N) (fun x0 x1 => ref17_May_l1 N k0 k1 n x0 x1) k0 k1 x0 x1
noncomputable def ref17_May_l0 (N : Nat) {R : Type} (k0 : Bool → T5 → T2 → Int → Int → Int → Option R) (k1 : T5 → T2 → Int → Int → Int → Option R) : Nat → Int → T5 → T2 → Int → Int → Int → Option R
  | 0, _, _, _, _, _, _ => none
  | n + 1, x0, x1, x2, x3, x4, x5 => ref17_May_l0_T0 N (@ref17_Caps N) (@ref17_files N) (@ref12_NewTree N) (@ref17_May_l1 N) (fun x0 x1 x2 x3 x4 x5 => ref17_May_l0 N k0 k1 n x0 x1 x2 x3 x4 x5) k0 k1 x0 x1 x2 x3 x4 x5
noncomputable def ref17_May_T (N : Nat) (c0 : ref17_Caps_Ty) (c1 : ref17_files_Ty) (c2 : ref12_NewTree_Ty) (w0 : ref17_May_l0_Ty) (w1 : ref17_May_l1_Ty) {R : Type} (x0 : T5) (x1 : T2) (x2 : Int) (x3 : Int) (x4 : Int) (k0 : Bool → Option R) : Option R :=
  c2 x0
  (fun i1619 => br (!(!(decide (i1619 = (0 : Int)))))
   (c1 x0 x1 x2 x3 x4
    (fun i1627 => br (!(decide ((4 : Int) < i1627)))
     (br (!(decide ((2 : Int) < (Nat.cast (List.length x1) : Int))))
      (br (!(decide (x2 < (0 : Int))))
       (br (!(decide ((6 : Int) < x2)))
        (br (!(decide (x3 < (0 : Int))))
         (br (!(decide (x2 < x3)))
          (br (!(decide (x4 < (0 : Int))))
           (br (decide ((400 : Int) < x4))
            (k0 false)
            (w0
             (fun b1628 l1629 l1630 i1631 i1632 i1633 => k0 b1628)
             (fun l1634 l1635 i1636 i1637 i1638 => c0 l1634 l1635 i1636 i1637 i1638
              (fun l1639 => w1
               (fun b1640 => k0 b1640)
               (k0 true)
               N (0 : Int) l1639))
             N (0 : Int) x0 x1 x2 x3 x4))
           (k0 false))
          (k0 false))
         (k0 false))
        (k0 false))
       (k0 false))
      (k0 false))
     (k0 false)))
   (k0 false))
  (fun i1641 i1642 l1643 => br (!(!(decide (i1641 = (0 : Int)))))
   (c1 x0 x1 x2 x3 x4
    (fun i1644 => br (!(decide ((4 : Int) < i1644)))
     (br (!(decide ((2 : Int) < (Nat.cast (List.length x1) : Int))))
      (br (!(decide (x2 < (0 : Int))))
       (br (!(decide ((6 : Int) < x2)))
        (br (!(decide (x3 < (0 : Int))))
         (br (!(decide (x2 < x3)))
          (br (!(decide (x4 < (0 : Int))))
           (br (decide ((400 : Int) < x4))
            (k0 false)
            (w0
             (fun b1645 l1646 l1647 i1648 i1649 i1650 => k0 b1645)
             (fun l1651 l1652 i1653 i1654 i1655 => c0 l1651 l1652 i1653 i1654 i1655
              (fun l1656 => w1
               (fun b1657 => k0 b1657)
               (k0 true)
               N (0 : Int) l1656))
             N (0 : Int) x0 x1 x2 x3 x4))
           (k0 false))
          (k0 false))
         (k0 false))
        (k0 false))
       (k0 false))
      (k0 false))
     (k0 false)))
   (k0 false))
noncomputable def ref17_May (N : Nat) {R : Type} (x0 : T5) (x1 : T2) (x2 : Int) (x3 : Int) (x4 : Int) (k0 : Bool → Option R) : Option R := ref17_May_T N (@ref17_Caps N) (@ref17_files N) (@ref12_NewTree N) (@ref17_May_l0 N) (@ref17_May_l1 N) x0 x1 x2 x3 x4 k0
abbrev ref17_Has_fd41_l0_Ty : Type 1 := {R : Type} → (Bool → T7 → T7 → T8 → T5 → T2 → Int → Int → Int → Option R) → (T7 → T7 → T8 → T5 → T2 → Int → Int → Int → Option R) → Nat → Int → T7 → T7 → T8 → T5 → T2 → Int → Int → Int → T2 → Option R
abbrev ref17_Has_fd41_l1_Ty : Type 1 := {R : Type} → (Bool → T7 → T7 → T8 → T5 → T2 → Int → Int → Int → Option R) → (T7 → T7 → T8 → T5 → T2 → Int → Int → Int → Option R) → Nat → Int → T7 → T7 → T8 → T5 → T2 → Int → Int → Int → Option R
abbrev ref17_Has_fd41_l2_Ty : Type 1 := {R : Type} → (Int → T7 → T7 → T8 → T5 → T2 → Int → Int → Int → Option R) → Nat → Int → Int → T7 → T7 → T8 → T5 → T2 → Int → Int → Int → Option R
abbrev ref17_Has_fd41_Ty : Type 1 := {R : Type} → T5 → T2 → Int → Int → Int → T7 → T7 → T8 → (Bool → T7 → T7 → T8 → Option R) → Option R
noncomputable def ref17_Has_fd41_l0_T0 (N : Nat) (c0 : ref17_Caps_Ty) (c1 : ref17_files_Ty) (c2 : ref17_May_Ty) (w1 : ref17_Has_fd41_l1_Ty) (w2 : ref17_Has_fd41_l2_Ty) {R : Type} (nx : Int → T7 → T7 → T8 → T5 → T2 → Int → Int → Int → T2 → Option R) (k0 : Bool → T7 → T7 → T8 → T5 → T2 → Int → Int → Int → Option R) (k1 : T7 → T7 → T8 → T5 → T2 → Int → Int → Int → Option R) (x0 : Int) (x1 : T7) (x2 : T7) (x3 : T8) (x4 : T5) (x5 : T2) (x6 : Int) (x7 : Int) (x8 : Int) (x9 : T2) : Option R :=
  br (decide (x0 < (Nat.cast (List.length x1) : Int)))
  (br (inB x0 (List.length x1))
   (br (decide ((Int.toNat x0) < (List.length x1)))
    (br (inB x0 (List.length x9))
     (br (decide ((Int.toNat x0) < (List.length x9)))
      (br (decide ((List.getD x9 (Int.toNat x0) (0 : Int)) < (Nat.cast (List.length (List.getD x1 (Int.toNat x0) (Sh.zero (.isl (.int .u8))))) : Int)))
       (k0 false x1 x2 x3 x4 x5 x6 x7 x8)
       (nx (IntKind.wrap .i64 (x0 + (1 : Int))) x1 x2 x3 x4 x5 x6 x7 x8 x9))
      (none))
     (none))
    (none))
   (none))
  (k1 x1 x2 x3 x4 x5 x6 x7 x8)
noncomputable def ref17_Has_fd41_l1_T0 (N : Nat) (c0 : ref17_Caps_Ty) (c1 : ref17_files_Ty) (c2 : ref17_May_Ty) (w2 : ref17_Has_fd41_l2_Ty) {R : Type} (nx : Int → T7 → T7 → T8 → T5 → T2 → Int → Int → Int → Option R) (k0 : Bool → T7 → T7 → T8 → T5 → T2 → Int → Int → Int → Option R) (k1 : T7 → T7 → T8 → T5 → T2 → Int → Int → Int → Option R) (x0 : Int) (x1 : T7) (x2 : T7) (x3 : T8) (x4 : T5) (x5 : T2) (x6 : Int) (x7 : Int) (x8 : Int) : Option R :=
  br (decide (x0 < (Nat.cast (List.length x2) : Int)))
  (br (inB x0 (List.length x2))
   (br (decide ((Int.toNat x0) < (List.length x2)))
    (br (inB x0 (List.length x5))
     (br (decide ((List.getD x5 (Int.toNat x0) (0 : Int)) < (Nat.cast (List.length (List.getD x2 (Int.toNat x0) (Sh.zero (.isl (.int .u8))))) : Int)))
      (k0 false x1 x2 x3 x4 x5 x6 x7 x8)
      (nx (IntKind.wrap .i64 (x0 + (1 : Int))) x1 x2 x3 x4 x5 x6 x7 x8))
     (none))
    (none))
   (none))
  (k1 x1 x2 x3 x4 x5 x6 x7 x8)
noncomputable def ref17_Has_fd41_l2_T0 (N : Nat) (c0 : ref17_Caps_Ty) (c1 : ref17_files_Ty) (c2 : ref17_May_Ty) {R : Type} (nx : Int → Int → T7 → T7 → T8 → T5 → T2 → Int → Int → Int → Option R) (k0 : Int → T7 → T7 → T8 → T5 → T2 → Int → Int → Int → Option R) (x0 : Int) (x1 : Int) (x2 : T7) (x3 : T7) (x4 : T8) (x5 : T5) (x6 : T2) (x7 : Int) (x8 : Int) (x9 : Int) : Option R :=
  br (decide (x1 < (Nat.cast (List.length x4) : Int)))
  (br (inB x1 (List.length x4))
   (br (decide ((Int.toNat x1) < (List.length x4)))
    (br (List.getD x4 (Int.toNat x1) false)
     (nx (IntKind.wrap .i64 (x0 + (1 : Int))) (IntKind.wrap .i64 (x1 + (1 : Int))) x2 x3 x4 x5 x6 x7 x8 x9)
     (nx x0 (IntKind.wrap .i64 (x1 + (1 : Int))) x2 x3 x4 x5 x6 x7 x8 x9))
    (none))
   (none))
  (k0 x0 x2 x3 x4 x5 x6 x7 x8 x9)
noncomputable def ref17_Has_fd41_l2 (N : Nat) {R : Type} (k0 : Int → T7 → T7 → T8 → T5 → T2 → Int → Int → Int → Option R) : Nat → Int → Int → T7 → T7 → T8 → T5 → T2 → Int → Int → Int → Option R
  | 0, _, _, _, _, _, _, _, _, _, _ => none
  | n + 1, x0, x1, x2, x3, x4, x5, x6, x7, x8, x9 => ref17_Has_fd41_l2_T0 N (@ref17_Caps N) (@ref17_files N) (@ref17_May N) (fun x0 x1 x2 x3 x4 x5 x6 x7 x8 x9 => ref17_Has_fd41_l2 N k0 n x0 x1 x2 x3 x4 x5 x6 x7 x8 x9) k0 x0 x1 x2 x3 x4 x5 x6 x7 x8 x9
noncomputable def ref17_Has_fd41_l1 (N : Nat) {R : Type} (k0 : Bool → T7 → T7 → T8 → T5 → T2 → Int → Int → Int → Option R) (k1 : T7 → T7 → T8 → T5 → T2 → Int → Int → Int → Option R) : Nat → Int → T7 → T7 → T8 → T5 → T2 → Int → Int → Int → Option R
  | 0, _, _, _, _, _, _, _, _, _ => none
  | n + 1, x0, x1, x2, x3, x4, x5, x6, x7, x8 => ref17_Has_fd41_l1_T0 N (@ref17_Caps N) (@ref17_files N) (@ref17_May N) (@ref17_Has_fd41_l2 N) (fun x0 x1 x2 x3 x4 x5 x6 x7 x8 => ref17_Has_fd41_l1 N k0 k1 n x0 x1 x2 x3 x4 x5 x6 x7 x8) k0 k1 x0 x1 x2 x3 x4 x5 x6 x7 x8
noncomputable def ref17_Has_fd41_l0 (N : Nat) {R : Type} (k0 : Bool → T7 → T7 → T8 → T5 → T2 → Int → Int → Int → Option R) (k1 : T7 → T7 → T8 → T5 → T2 → Int → Int → Int → Option R) : Nat → Int → T7 → T7 → T8 → T5 → T2 → Int → Int → Int → T2 → Option R
  | 0, _, _, _, _, _, _, _, _, _, _ => none
  | n + 1, x0, x1, x2, x3, x4, x5, x6, x7, x8, x9 => ref17_Has_fd41_l0_T0 N (@ref17_Caps N) (@ref17_files N) (@ref17_May N) (@ref17_Has_fd41_l1 N) (@ref17_Has_fd41_l2 N) (fun x0 x1 x2 x3 x4 x5 x6 x7 x8 x9 => ref17_Has_fd41_l0 N k0 k1 n x0 x1 x2 x3 x4 x5 x6 x7 x8 x9) k0 k1 x0 x1 x2 x3 x4 x5 x6 x7 x8 x9
noncomputable def ref17_Has_fd41_T (N : Nat) (c0 : ref17_Caps_Ty) (c1 : ref17_files_Ty) (c2 : ref17_May_Ty) (w0 : ref17_Has_fd41_l0_Ty) (w1 : ref17_Has_fd41_l1_Ty) (w2 : ref17_Has_fd41_l2_Ty) {R : Type} (x0 : T5) (x1 : T2) (x2 : Int) (x3 : Int) (x4 : Int) (x5 : T7) (x6 : T7) (x7 : T8) (k0 : Bool → T7 → T7 → T8 → Option R) : Option R :=
  c2 x0 x1 x2 x3 x4
  (fun b1782 => br (!(!b1782))
   (c1 x0 x1 x2 x3 x4
    (fun i1783 => br (decide ((Nat.cast (List.length x5) : Int) = (Nat.cast (List.length x5) : Int)))
     (br (!(!(decide ((Nat.cast (List.length x5) : Int) = i1783))))
      (br (!(!(decide ((Nat.cast (List.length x6) : Int) = (Nat.cast (List.length x1) : Int)))))
       (br (!(decide ((Nat.cast (List.length x7) : Int) = x2)))
        (k0 false x5 x6 x7)
        (c0 x0 x1 x2 x3 x4
         (fun l1784 => w0
          (fun b1785 l1786 l1787 l1788 l1789 l1790 i1791 i1792 i1793 => k0 b1785 l1786 l1787 l1788)
          (fun l1794 l1795 l1796 l1797 l1798 i1799 i1800 i1801 => w1
           (fun b1802 l1803 l1804 l1805 l1806 l1807 i1808 i1809 i1810 => k0 b1802 l1803 l1804 l1805)
           (fun l1811 l1812 l1813 l1814 l1815 i1816 i1817 i1818 => w2
            (fun i1819 l1820 l1821 l1822 l1823 l1824 i1825 i1826 i1827 => k0 (decide (i1819 ≤ i1826)) l1820 l1821 l1822)
            N (0 : Int) (0 : Int) l1811 l1812 l1813 l1814 l1815 i1816 i1817 i1818)
           N (0 : Int) l1794 l1795 l1796 l1797 l1798 i1799 i1800 i1801)
          N (0 : Int) x5 x6 x7 x0 x1 x2 x3 x4 l1784)))
       (k0 false x5 x6 x7))
      (k0 false x5 x6 x7))
     (none)))
   (k0 false x5 x6 x7))
noncomputable def ref17_Has_fd41 (N : Nat) {R : Type} (x0 : T5) (x1 : T2) (x2 : Int) (x3 : Int) (x4 : Int) (x5 : T7) (x6 : T7) (x7 : T8) (k0 : Bool → T7 → T7 → T8 → Option R) : Option R := ref17_Has_fd41_T N (@ref17_Caps N) (@ref17_files N) (@ref17_May N) (@ref17_Has_fd41_l0 N) (@ref17_Has_fd41_l1 N) (@ref17_Has_fd41_l2 N) x0 x1 x2 x3 x4 x5 x6 x7 k0
abbrev ref17_Input_ed18_l0_Ty : Type 1 := {R : Type} → (Int → T2 → T5 → T2 → Int → Int → Int → T7 → T7 → T8 → T2 → Option R) → Nat → Int → Int → T2 → T5 → T2 → Int → Int → Int → T7 → T7 → T8 → T2 → Option R
abbrev ref17_Input_ed18_l1_Ty : Type 1 := {R : Type} → (Int → Int → T2 → T5 → T2 → Int → Int → Int → T7 → T7 → T8 → T7 → T7 → T8 → Option R) → (Int → T2 → T5 → T2 → Int → Int → Int → T7 → T7 → T8 → T7 → T7 → T8 → Option R) → Nat → Int → Int → T2 → T5 → T2 → Int → Int → Int → T7 → T7 → T8 → T2 → T7 → T7 → T8 → Option R
abbrev ref17_Input_ed18_l2_Ty : Type 1 := {R : Type} → (Int → Int → Int → T2 → T5 → T2 → Int → Int → Int → T7 → T7 → T8 → T2 → T7 → T7 → T8 → T2 → Option R) → (Int → Int → T2 → T5 → T2 → Int → Int → Int → T7 → T7 → T8 → T2 → T7 → T7 → T8 → T2 → Option R) → Nat → Int → Int → Int → Int → T2 → T5 → T2 → Int → Int → Int → T7 → T7 → T8 → T2 → T7 → T7 → T8 → T2 → Option R
abbrev ref17_Input_ed18_l3_Ty : Type 1 := {R : Type} → (Int → T2 → T5 → T2 → Int → Int → Int → T7 → T7 → T8 → T7 → T7 → T8 → Option R) → (T2 → T5 → T2 → Int → Int → Int → T7 → T7 → T8 → T7 → T7 → T8 → Option R) → Nat → Int → Int → T2 → T5 → T2 → Int → Int → Int → T7 → T7 → T8 → T7 → T7 → T8 → Option R
abbrev ref17_Input_ed18_Ty : Type 1 := {R : Type} → T5 → T2 → Int → Int → Int → T2 → (Int → T2 → T7 → T7 → T8 → Option R) → Option R
noncomputable def ref17_Input_ed18_l0_T0 (N : Nat) (c0 : ref17_Has_fd41_Ty) (c1 : ref17_files_Ty) (c2 : ref17_Caps_Ty) (c3 : ref17_May_Ty) (w1 : ref17_Input_ed18_l1_Ty) (w2 : ref17_Input_ed18_l2_Ty) (w3 : ref17_Input_ed18_l3_Ty) {R : Type} (nx : Int → Int → T2 → T5 → T2 → Int → Int → Int → T7 → T7 → T8 → T2 → Option R) (k0 : Int → T2 → T5 → T2 → Int → Int → Int → T7 → T7 → T8 → T2 → Option R) (x0 : Int) (x1 : Int) (x2 : T2) (x3 : T5) (x4 : T2) (x5 : Int) (x6 : Int) (x7 : Int) (x8 : T7) (x9 : T7) (x10 : T8) (x11 : T2) : Option R :=
  br (decide (x1 < (Nat.cast (List.length x11) : Int)))
  (br (inB x1 (List.length x11))
   (br (decide ((Int.toNat x1) < (List.length x11)))
    (nx (IntKind.wrap .i64 ((IntKind.wrap .i64 (x0 + (1 : Int))) + (List.getD x11 (Int.toNat x1) (0 : Int)))) (IntKind.wrap .i64 (x1 + (1 : Int))) x2 x3 x4 x5 x6 x7 x8 x9 x10 x11)
    (none))
   (none))
  (k0 x0 x2 x3 x4 x5 x6 x7 x8 x9 x10 x11)
noncomputable def ref17_Input_ed18_l1_T0 (N : Nat) (c0 : ref17_Has_fd41_Ty) (c1 : ref17_files_Ty) (c2 : ref17_Caps_Ty) (c3 : ref17_May_Ty) (w2 : ref17_Input_ed18_l2_Ty) (w3 : ref17_Input_ed18_l3_Ty) {R : Type} (nx : Int → Int → T2 → T5 → T2 → Int → Int → Int → T7 → T7 → T8 → T2 → T7 → T7 → T8 → Option R) (k0 : Int → Int → T2 → T5 → T2 → Int → Int → Int → T7 → T7 → T8 → T7 → T7 → T8 → Option R) (k1 : Int → T2 → T5 → T2 → Int → Int → Int → T7 → T7 → T8 → T7 → T7 → T8 → Option R) (x0 : Int) (x1 : Int) (x2 : T2) (x3 : T5) (x4 : T2) (x5 : Int) (x6 : Int) (x7 : Int) (x8 : T7) (x9 : T7) (x10 : T8) (x11 : T2) (x12 : T7) (x13 : T7) (x14 : T8) : Option R :=
  br (decide (x1 < (Nat.cast (List.length x11) : Int)))
  (br (inB x0 (List.length x2))
   (br (decide ((Int.toNat x0) < (List.length x2)))
    (br (inB x1 (List.length x11))
     (br (decide ((Int.toNat x1) < (List.length x11)))
      (br (decide ((List.getD x11 (Int.toNat x1) (0 : Int)) < (IntKind.wrap .i64 (List.getD x2 (Int.toNat x0) (0 : Int)))))
       (k0 (12 : Int) x0 x2 x3 x4 x5 x6 x7 ([] : List ((Sh.int IntKind.u8).isl.T)) ([] : List ((Sh.int IntKind.u8).isl.T)) ([] : List (Sh.bool.T)) x12 x13 x14)
       (w2
        (fun i1696 i1697 i1698 l1699 l1700 l1701 i1702 i1703 i1704 l1705 l1706 l1707 l1708 l1709 l1710 l1711 l1712 => k0 i1696 i1697 l1699 l1700 l1701 i1702 i1703 i1704 l1705 l1706 l1707 l1709 l1710 l1711)
        (fun i1713 i1714 l1715 l1716 l1717 i1718 i1719 i1720 l1721 l1722 l1723 l1724 l1725 l1726 l1727 l1728 => br (inB i1714 (List.length l1724))
         (br (decide ((Int.toNat i1714) < (List.length l1724)))
          (c1 l1716 l1717 i1718 i1719 i1720
           (fun i1729 => br (decide (i1714 < i1729))
            (br (fits (0 : Nat) (List.length l1728) l1728)
             (br (fits (0 : Nat) (List.length l1728) l1728)
              (br (((fits (0 : Nat) (List.length l1725) l1725) && (decide ((((List.length l1725) + (1 : Nat)) * (24 : Nat)) ≤ (70368744177664 : Nat)))) && true)
               (nx (IntKind.wrap .i64 ((IntKind.wrap .i64 (i1713 + (1 : Int))) + (List.getD l1724 (Int.toNat i1714) (0 : Int)))) (IntKind.wrap .i64 (i1714 + (1 : Int))) l1715 l1716 l1717 i1718 i1719 i1720 l1721 l1722 l1723 l1724 ((sub l1725 (0 : Nat) (List.length l1725)) ++ ((sub l1728 (0 : Nat) (List.length l1728)) :: ([] : List ((Sh.int IntKind.u8).isl.T)))) l1726 l1727)
               (none))
              (none))
             (none))
            (br (fits (0 : Nat) (List.length l1728) l1728)
             (br (fits (0 : Nat) (List.length l1728) l1728)
              (br (((fits (0 : Nat) (List.length l1726) l1726) && (decide ((((List.length l1726) + (1 : Nat)) * (24 : Nat)) ≤ (70368744177664 : Nat)))) && true)
               (nx (IntKind.wrap .i64 ((IntKind.wrap .i64 (i1713 + (1 : Int))) + (List.getD l1724 (Int.toNat i1714) (0 : Int)))) (IntKind.wrap .i64 (i1714 + (1 : Int))) l1715 l1716 l1717 i1718 i1719 i1720 l1721 l1722 l1723 l1724 l1725 ((sub l1726 (0 : Nat) (List.length l1726)) ++ ((sub l1728 (0 : Nat) (List.length l1728)) :: ([] : List ((Sh.int IntKind.u8).isl.T)))) l1727)
               (none))
              (none))
             (none))))
          (none))
         (none))
        N x0 x1 (IntKind.wrap .i64 (List.getD x2 (Int.toNat x0) (0 : Int))) (0 : Int) x2 x3 x4 x5 x6 x7 x8 x9 x10 x11 x12 x13 x14 ([] : List ((Sh.int IntKind.u8).T))))
      (none))
     (none))
    (none))
   (none))
  (k1 x0 x2 x3 x4 x5 x6 x7 x8 x9 x10 x12 x13 x14)
noncomputable def ref17_Input_ed18_l2_T0 (N : Nat) (c0 : ref17_Has_fd41_Ty) (c1 : ref17_files_Ty) (c2 : ref17_Caps_Ty) (c3 : ref17_May_Ty) (w3 : ref17_Input_ed18_l3_Ty) {R : Type} (nx : Int → Int → Int → Int → T2 → T5 → T2 → Int → Int → Int → T7 → T7 → T8 → T2 → T7 → T7 → T8 → T2 → Option R) (k0 : Int → Int → Int → T2 → T5 → T2 → Int → Int → Int → T7 → T7 → T8 → T2 → T7 → T7 → T8 → T2 → Option R) (k1 : Int → Int → T2 → T5 → T2 → Int → Int → Int → T7 → T7 → T8 → T2 → T7 → T7 → T8 → T2 → Option R) (x0 : Int) (x1 : Int) (x2 : Int) (x3 : Int) (x4 : T2) (x5 : T5) (x6 : T2) (x7 : Int) (x8 : Int) (x9 : Int) (x10 : T7) (x11 : T7) (x12 : T8) (x13 : T2) (x14 : T7) (x15 : T7) (x16 : T8) (x17 : T2) : Option R :=
  br (inB x1 (List.length x13))
  (br (decide ((Int.toNat x1) < (List.length x13)))
   (br (decide (x3 < (List.getD x13 (Int.toNat x1) (0 : Int))))
    (br (inB (IntKind.wrap .i64 ((IntKind.wrap .i64 (x0 + (1 : Int))) + x3)) (List.length x4))
     (br (decide ((Int.toNat (IntKind.wrap .i64 ((IntKind.wrap .i64 (x0 + (1 : Int))) + x3))) < (List.length x4)))
      (br (!(decide ((255 : Int) < (List.getD x4 (Int.toNat (IntKind.wrap .i64 ((IntKind.wrap .i64 (x0 + (1 : Int))) + x3))) (0 : Int)))))
       (br (decide (x2 ≤ x3))
        (br (!(decide ((List.getD x4 (Int.toNat (IntKind.wrap .i64 ((IntKind.wrap .i64 (x0 + (1 : Int))) + x3))) (0 : Int)) = (0 : Int))))
         (k0 (12 : Int) x0 x1 x4 x5 x6 x7 x8 x9 ([] : List ((Sh.int IntKind.u8).isl.T)) ([] : List ((Sh.int IntKind.u8).isl.T)) ([] : List (Sh.bool.T)) x13 x14 x15 x16 x17)
         (br (decide (x3 < x2))
          (br (((fits (0 : Nat) (List.length x17) x17) && (decide ((((List.length x17) + (1 : Nat)) * (1 : Nat)) ≤ (70368744177664 : Nat)))) && true)
           (nx x0 x1 x2 (IntKind.wrap .i64 (x3 + (1 : Int))) x4 x5 x6 x7 x8 x9 x10 x11 x12 x13 x14 x15 x16 ((sub x17 (0 : Nat) (List.length x17)) ++ ((IntKind.wrap .u8 (List.getD x4 (Int.toNat (IntKind.wrap .i64 ((IntKind.wrap .i64 (x0 + (1 : Int))) + x3))) (0 : Int))) :: ([] : List ((Sh.int IntKind.u8).T)))))
           (none))
          (nx x0 x1 x2 (IntKind.wrap .i64 (x3 + (1 : Int))) x4 x5 x6 x7 x8 x9 x10 x11 x12 x13 x14 x15 x16 x17)))
        (br (decide (x3 < x2))
         (br (((fits (0 : Nat) (List.length x17) x17) && (decide ((((List.length x17) + (1 : Nat)) * (1 : Nat)) ≤ (70368744177664 : Nat)))) && true)
          (nx x0 x1 x2 (IntKind.wrap .i64 (x3 + (1 : Int))) x4 x5 x6 x7 x8 x9 x10 x11 x12 x13 x14 x15 x16 ((sub x17 (0 : Nat) (List.length x17)) ++ ((IntKind.wrap .u8 (List.getD x4 (Int.toNat (IntKind.wrap .i64 ((IntKind.wrap .i64 (x0 + (1 : Int))) + x3))) (0 : Int))) :: ([] : List ((Sh.int IntKind.u8).T)))))
          (none))
         (nx x0 x1 x2 (IntKind.wrap .i64 (x3 + (1 : Int))) x4 x5 x6 x7 x8 x9 x10 x11 x12 x13 x14 x15 x16 x17)))
       (k0 (12 : Int) x0 x1 x4 x5 x6 x7 x8 x9 ([] : List ((Sh.int IntKind.u8).isl.T)) ([] : List ((Sh.int IntKind.u8).isl.T)) ([] : List (Sh.bool.T)) x13 x14 x15 x16 x17))
      (none))
     (none))
    (k1 x0 x1 x4 x5 x6 x7 x8 x9 x10 x11 x12 x13 x14 x15 x16 x17))
   (none))
  (none)
noncomputable def ref17_Input_ed18_l3_T0 (N : Nat) (c0 : ref17_Has_fd41_Ty) (c1 : ref17_files_Ty) (c2 : ref17_Caps_Ty) (c3 : ref17_May_Ty) {R : Type} (nx : Int → Int → T2 → T5 → T2 → Int → Int → Int → T7 → T7 → T8 → T7 → T7 → T8 → Option R) (k0 : Int → T2 → T5 → T2 → Int → Int → Int → T7 → T7 → T8 → T7 → T7 → T8 → Option R) (k1 : T2 → T5 → T2 → Int → Int → Int → T7 → T7 → T8 → T7 → T7 → T8 → Option R) (x0 : Int) (x1 : Int) (x2 : T2) (x3 : T5) (x4 : T2) (x5 : Int) (x6 : Int) (x7 : Int) (x8 : T7) (x9 : T7) (x10 : T8) (x11 : T7) (x12 : T7) (x13 : T8) : Option R :=
  br (decide (x1 < x5))
  (br (inB (IntKind.wrap .i64 (x0 + x1)) (List.length x2))
   (br (decide ((Int.toNat (IntKind.wrap .i64 (x0 + x1))) < (List.length x2)))
    (br (decide ((1 : Int) < (List.getD x2 (Int.toNat (IntKind.wrap .i64 (x0 + x1))) (0 : Int))))
     (k0 (12 : Int) x2 x3 x4 x5 x6 x7 ([] : List ((Sh.int IntKind.u8).isl.T)) ([] : List ((Sh.int IntKind.u8).isl.T)) ([] : List (Sh.bool.T)) x11 x12 x13)
     (br (inB (IntKind.wrap .i64 (x0 + x1)) (List.length x2))
      (br (decide ((Int.toNat (IntKind.wrap .i64 (x0 + x1))) < (List.length x2)))
       (br (((fits (0 : Nat) (List.length x13) x13) && (decide ((((List.length x13) + (1 : Nat)) * (1 : Nat)) ≤ (70368744177664 : Nat)))) && true)
        (nx x0 (IntKind.wrap .i64 (x1 + (1 : Int))) x2 x3 x4 x5 x6 x7 x8 x9 x10 x11 x12 ((sub x13 (0 : Nat) (List.length x13)) ++ ((decide ((List.getD x2 (Int.toNat (IntKind.wrap .i64 (x0 + x1))) (0 : Int)) = (1 : Int))) :: ([] : List (Sh.bool.T)))))
        (none))
       (none))
      (none)))
    (none))
   (none))
  (k1 x2 x3 x4 x5 x6 x7 x8 x9 x10 x11 x12 x13)
noncomputable def ref17_Input_ed18_l3 (N : Nat) {R : Type} (k0 : Int → T2 → T5 → T2 → Int → Int → Int → T7 → T7 → T8 → T7 → T7 → T8 → Option R) (k1 : T2 → T5 → T2 → Int → Int → Int → T7 → T7 → T8 → T7 → T7 → T8 → Option R) : Nat → Int → Int → T2 → T5 → T2 → Int → Int → Int → T7 → T7 → T8 → T7 → T7 → T8 → Option R
  | 0, _, _, _, _, _, _, _, _, _, _, _, _, _, _ => none
  | n + 1, x0, x1, x2, x3, x4, x5, x6, x7, x8, x9, x10, x11, x12, x13 => ref17_Input_ed18_l3_T0 N (@ref17_Has_fd41 N) (@ref17_files N) (@ref17_Caps N) (@ref17_May N) (fun x0 x1 x2 x3 x4 x5 x6 x7 x8 x9 x10 x11 x12 x13 => ref17_Input_ed18_l3 N k0 k1 n x0 x1 x2 x3 x4 x5 x6 x7 x8 x9 x10 x11 x12 x13) k0 k1 x0 x1 x2 x3 x4 x5 x6 x7 x8 x9 x10 x11 x12 x13
noncomputable def ref17_Input_ed18_l2 (N : Nat) {R : Type} (k0 : Int → Int → Int → T2 → T5 → T2 → Int → Int → Int → T7 → T7 → T8 → T2 → T7 → T7 → T8 → T2 → Option R) (k1 : Int → Int → T2 → T5 → T2 → Int → Int → Int → T7 → T7 → T8 → T2 → T7 → T7 → T8 → T2 → Option R) : Nat → Int → Int → Int → Int → T2 → T5 → T2 → Int → Int → Int → T7 → T7 → T8 → T2 → T7 → T7 → T8 → T2 → Option R
  | 0, _, _, _, _, _, _, _, _, _, _, _, _, _, _, _, _, _, _ => none
  | n + 1, x0, x1, x2, x3, x4, x5, x6, x7, x8, x9, x10, x11, x12, x13, x14, x15, x16, x17 => ref17_Input_ed18_l2_T0 N (@ref17_Has_fd41 N) (@ref17_files N) (@ref17_Caps N) (@ref17_May N) (@ref17_Input_ed18_l3 N) (fun x0 x1 x2 x3 x4 x5 x6 x7 x8 x9 x10 x11 x12 x13 x14 x15 x16 x17 => ref17_Input_ed18_l2 N k0 k1 n x0 x1 x2 x3 x4 x5 x6 x7 x8 x9 x10 x11 x12 x13 x14 x15 x16 x17) k0 k1 x0 x1 x2 x3 x4 x5 x6 x7 x8 x9 x10 x11 x12 x13 x14 x15 x16 x17
noncomputable def ref17_Input_ed18_l1 (N : Nat) {R : Type} (k0 : Int → Int → T2 → T5 → T2 → Int → Int → Int → T7 → T7 → T8 → T7 → T7 → T8 → Option R) (k1 : Int → T2 → T5 → T2 → Int → Int → Int → T7 → T7 → T8 → T7 → T7 → T8 → Option R) : Nat → Int → Int → T2 → T5 → T2 → Int → Int → Int → T7 → T7 → T8 → T2 → T7 → T7 → T8 → Option R
  | 0, _, _, _, _, _, _, _, _, _, _, _, _, _, _, _ => none
  | n + 1, x0, x1, x2, x3, x4, x5, x6, x7, x8, x9, x10, x11, x12, x13, x14 => ref17_Input_ed18_l1_T0 N (@ref17_Has_fd41 N) (@ref17_files N) (@ref17_Caps N) (@ref17_May N) (@ref17_Input_ed18_l2 N) (@ref17_Input_ed18_l3 N) (fun x0 x1 x2 x3 x4 x5 x6 x7 x8 x9 x10 x11 x12 x13 x14 => ref17_Input_ed18_l1 N k0 k1 n x0 x1 x2 x3 x4 x5 x6 x7 x8 x9 x10 x11 x12 x13 x14) k0 k1 x0 x1 x2 x3 x4 x5 x6 x7 x8 x9 x10 x11 x12 x13 x14
noncomputable def ref17_Input_ed18_l0 (N : Nat) {R : Type} (k0 : Int → T2 → T5 → T2 → Int → Int → Int → T7 → T7 → T8 → T2 → Option R) : Nat → Int → Int → T2 → T5 → T2 → Int → Int → Int → T7 → T7 → T8 → T2 → Option R
  | 0, _, _, _, _, _, _, _, _, _, _, _, _ => none
  | n + 1, x0, x1, x2, x3, x4, x5, x6, x7, x8, x9, x10, x11 => ref17_Input_ed18_l0_T0 N (@ref17_Has_fd41 N) (@ref17_files N) (@ref17_Caps N) (@ref17_May N) (@ref17_Input_ed18_l1 N) (@ref17_Input_ed18_l2 N) (@ref17_Input_ed18_l3 N) (fun x0 x1 x2 x3 x4 x5 x6 x7 x8 x9 x10 x11 => ref17_Input_ed18_l0 N k0 n x0 x1 x2 x3 x4 x5 x6 x7 x8 x9 x10 x11) k0 x0 x1 x2 x3 x4 x5 x6 x7 x8 x9 x10 x11
noncomputable def ref17_Input_ed18_T (N : Nat) (c0 : ref17_Has_fd41_Ty) (c1 : ref17_files_Ty) (c2 : ref17_Caps_Ty) (c3 : ref17_May_Ty) (w0 : ref17_Input_ed18_l0_Ty) (w1 : ref17_Input_ed18_l1_Ty) (w2 : ref17_Input_ed18_l2_Ty) (w3 : ref17_Input_ed18_l3_Ty) {R : Type} (x0 : T5) (x1 : T2) (x2 : Int) (x3 : Int) (x4 : Int) (x5 : T2) (k0 : Int → T2 → T7 → T7 → T8 → Option R) : Option R :=
  c3 x0 x1 x2 x3 x4
  (fun b1683 => br (!b1683)
   (k0 (11 : Int) x5 ([] : List ((Sh.int IntKind.u8).isl.T)) ([] : List ((Sh.int IntKind.u8).isl.T)) ([] : List (Sh.bool.T)))
   (c2 x0 x1 x2 x3 x4
    (fun l1684 => w0
     (fun i1685 l1686 l1687 l1688 i1689 i1690 i1691 l1692 l1693 l1694 l1695 => br (decide ((Nat.cast (List.length l1686) : Int) < i1685))
      (k0 (12 : Int) l1686 ([] : List ((Sh.int IntKind.u8).isl.T)) ([] : List ((Sh.int IntKind.u8).isl.T)) ([] : List (Sh.bool.T)))
      (w1
       (fun i1730 i1731 l1732 l1733 l1734 i1735 i1736 i1737 l1738 l1739 l1740 l1741 l1742 l1743 => k0 i1730 l1732 l1738 l1739 l1740)
       (fun i1744 l1745 l1746 l1747 i1748 i1749 i1750 l1751 l1752 l1753 l1754 l1755 l1756 => w3
        (fun i1757 l1758 l1759 l1760 i1761 i1762 i1763 l1764 l1765 l1766 l1767 l1768 l1769 => k0 i1757 l1758 l1764 l1765 l1766)
        (fun l1770 l1771 l1772 i1773 i1774 i1775 l1776 l1777 l1778 l1779 l1780 l1781 => c0 l1771 l1772 i1773 i1774 i1775 l1779 l1780 l1781
         (fun b1828 l1829 l1830 l1831 => br (!b1828)
          (k0 (12 : Int) l1770 ([] : List ((Sh.int IntKind.u8).isl.T)) ([] : List ((Sh.int IntKind.u8).isl.T)) ([] : List (Sh.bool.T)))
          (k0 (0 : Int) l1770 l1829 l1830 l1831)))
        N i1744 (0 : Int) l1745 l1746 l1747 i1748 i1749 i1750 l1751 l1752 l1753 l1754 l1755 l1756)
       N (0 : Int) (0 : Int) l1686 l1687 l1688 i1689 i1690 i1691 l1692 l1693 l1694 l1695 ([] : List ((Sh.int IntKind.u8).isl.T)) ([] : List ((Sh.int IntKind.u8).isl.T)) ([] : List (Sh.bool.T))))
     N x2 (0 : Int) x5 x0 x1 x2 x3 x4 ([] : List ((Sh.int IntKind.u8).isl.T)) ([] : List ((Sh.int IntKind.u8).isl.T)) ([] : List (Sh.bool.T)) l1684)))
noncomputable def ref17_Input_ed18 (N : Nat) {R : Type} (x0 : T5) (x1 : T2) (x2 : Int) (x3 : Int) (x4 : Int) (x5 : T2) (k0 : Int → T2 → T7 → T7 → T8 → Option R) : Option R := ref17_Input_ed18_T N (@ref17_Has_fd41 N) (@ref17_files N) (@ref17_Caps N) (@ref17_May N) (@ref17_Input_ed18_l0 N) (@ref17_Input_ed18_l1 N) (@ref17_Input_ed18_l2 N) (@ref17_Input_ed18_l3 N) x0 x1 x2 x3 x4 x5 k0
abbrev term_Value_7344_Ty : Type 1 := {R : Type} → Int → Int → Int → Int → Int → Int → Int → Int → Int → Int → T2 → (Int → T2 → Option R) → Option R
noncomputable def term_Value_7344_T (N : Nat) (c0 : wide_Do_Ty) (c1 : wide_Mask_Ty) {R : Type} (x0 : Int) (x1 : Int) (x2 : Int) (x3 : Int) (x4 : Int) (x5 : Int) (x6 : Int) (x7 : Int) (x8 : Int) (x9 : Int) (x10 : T2) (k0 : Int → T2 → Option R) : Option R :=
  br (decide (x0 = (1 : Int)))
  (k0 x2 x10)
  (br (decide (x0 = (2 : Int)))
   (br (decide ((IntKind.wrap .i64 x2) < (Nat.cast (List.length x10) : Int)))
    (br (inB x2 (List.length x10))
     (br (decide ((Int.toNat x2) < (List.length x10)))
      (c1 x1
       (fun i1871 => br (decide (x2 = x2))
        (br (inB x2 (List.length x10))
         (br (decide (x2 = x2))
          (br (decide ((Int.toNat x2) < (List.length x10)))
           (br (decide ((List.getD x10 (Int.toNat x2) (0 : Int)) = (List.getD x10 (Int.toNat x2) (0 : Int))))
            (k0 (band .u16 (List.getD x10 (Int.toNat x2) (0 : Int)) i1871) x10)
            (none))
           (none))
          (none))
         (none))
        (none)))
      (none))
     (none))
    (k0 (0 : Int) x10))
   (br (decide (x0 = (16 : Int)))
    (br (decide (x7 = (1 : Int)))
     (k0 x8 x10)
     (k0 x9 x10))
    (br (decide (x0 = (17 : Int)))
     (k0 x7 x10)
     (br (decide (x0 = (18 : Int)))
      (c1 x1
       (fun i1872 => k0 (band .u16 x7 i1872) x10))
      (c0 x0 x6 x7 x8
       (fun i1873 i1874 => k0 i1873 x10))))))
noncomputable def term_Value_7344 (N : Nat) {R : Type} (x0 : Int) (x1 : Int) (x2 : Int) (x3 : Int) (x4 : Int) (x5 : Int) (x6 : Int) (x7 : Int) (x8 : Int) (x9 : Int) (x10 : T2) (k0 : Int → T2 → Option R) : Option R := term_Value_7344_T N (@wide_Do N) (@wide_Mask N) x0 x1 x2 x3 x4 x5 x6 x7 x8 x9 x10 k0
abbrev term_Arena_Under_2549_l0_Ty : Type 1 := {R : Type} → (Int → T9 → T4 → T3 → T2 → Option R) → Nat → Int → Int → Int → T9 → T4 → T3 → T2 → Option R
abbrev term_Arena_Under_2549_l1_Ty : Type 1 := {R : Type} → (Int → T9 → T4 → T3 → T2 → T8 → Option R) → Nat → Int → Int → Int → T9 → T4 → T3 → T2 → T8 → Option R
abbrev term_Arena_Under_2549_l2_Ty : Type 1 := {R : Type} → (Int → T9 → T4 → T3 → T2 → T8 → Option R) → Nat → Int → Int → T9 → T4 → T3 → T2 → T8 → Option R
abbrev term_Arena_Under_2549_l3_Ty : Type 1 := {R : Type} → (T9 → T4 → T3 → T2 → T2 → Option R) → Nat → Int → Int → T9 → T4 → T3 → T2 → T8 → T2 → Option R
abbrev term_Arena_Under_2549_Ty : Type 1 := {R : Type} → T9 → T4 → T3 → T2 → (T9 → T4 → T3 → T2 → T2 → Option R) → Option R
noncomputable def term_Arena_Under_2549_l0_T0 (N : Nat) (c0 : term_Arena_there_2549_Ty) (w1 : term_Arena_Under_2549_l1_Ty) (w2 : term_Arena_Under_2549_l2_Ty) (w3 : term_Arena_Under_2549_l3_Ty) {R : Type} (nx : Int → Int → Int → T9 → T4 → T3 → T2 → Option R) (k0 : Int → T9 → T4 → T3 → T2 → Option R) (x0 : Int) (x1 : Int) (x2 : Int) (x3 : T9) (x4 : T4) (x5 : T3) (x6 : T2) : Option R :=
  br (decide (x2 < x1))
  (br (inB x2 (List.length x6))
   (br (decide ((Int.toNat x2) < (List.length x6)))
    (c0 x3 x4 x5 ((List.getD x6 (Int.toNat x2) (0 : Int)) :: ([] : List ((Sh.int IntKind.i64).T)))
     (fun b1884 l1885 l1886 l1887 l1888 => br b1884
      (nx (if (x0 < (List.getD x6 (Int.toNat x2) (0 : Int))) then (List.getD x6 (Int.toNat x2) (0 : Int)) else x0) x1 (IntKind.wrap .i64 (x2 + (1 : Int))) l1885 l1886 l1887 x6)
      (nx x0 x1 (IntKind.wrap .i64 (x2 + (1 : Int))) l1885 l1886 l1887 x6)))
    (none))
   (none))
  (k0 x0 x3 x4 x5 x6)
noncomputable def term_Arena_Under_2549_l1_T0 (N : Nat) (c0 : term_Arena_there_2549_Ty) (w2 : term_Arena_Under_2549_l2_Ty) (w3 : term_Arena_Under_2549_l3_Ty) {R : Type} (nx : Int → Int → Int → T9 → T4 → T3 → T2 → T8 → Option R) (k0 : Int → T9 → T4 → T3 → T2 → T8 → Option R) (x0 : Int) (x1 : Int) (x2 : Int) (x3 : T9) (x4 : T4) (x5 : T3) (x6 : T2) (x7 : T8) : Option R :=
  br (decide (x2 < x1))
  (br (inB x2 (List.length x6))
   (br (decide ((Int.toNat x2) < (List.length x6)))
    (c0 x3 x4 x5 ((List.getD x6 (Int.toNat x2) (0 : Int)) :: ([] : List ((Sh.int IntKind.i64).T)))
     (fun b1894 l1895 l1896 l1897 l1898 => br b1894
      (br (inB (List.getD x6 (Int.toNat x2) (0 : Int)) (List.length x7))
       (br (decide ((Int.toNat (List.getD x6 (Int.toNat x2) (0 : Int))) < (List.length x7)))
        (nx x0 x1 (IntKind.wrap .i64 (x2 + (1 : Int))) l1895 l1896 l1897 x6 (List.set x7 (Int.toNat (List.getD x6 (Int.toNat x2) (0 : Int))) true))
        (none))
       (none))
      (nx x0 x1 (IntKind.wrap .i64 (x2 + (1 : Int))) l1895 l1896 l1897 x6 x7)))
    (none))
   (none))
  (k0 x0 x3 x4 x5 x6 x7)
noncomputable def term_Arena_Under_2549_l2_T0 (N : Nat) (c0 : term_Arena_there_2549_Ty) (w3 : term_Arena_Under_2549_l3_Ty) {R : Type} (nx : Int → Int → T9 → T4 → T3 → T2 → T8 → Option R) (k0 : Int → T9 → T4 → T3 → T2 → T8 → Option R) (x0 : Int) (x1 : Int) (x2 : T9) (x3 : T4) (x4 : T3) (x5 : T2) (x6 : T8) : Option R :=
  br (decide ((0 : Int) < x1))
  (br (inB x1 (List.length x6))
   (br (decide ((Int.toNat x1) < (List.length x6)))
    (br (!(List.getD x6 (Int.toNat x1) false))
     (nx x0 (IntKind.wrap .i64 (x1 - (1 : Int))) x2 x3 x4 x5 x6)
     (br (inB (IntKind.wrap .i64 (x1 - (1 : Int))) (List.length x2))
      (br (decide ((Int.toNat (IntKind.wrap .i64 (x1 - (1 : Int)))) < (List.length x2)))
       (br (inB (List.getD x2 (Int.toNat (IntKind.wrap .i64 (x1 - (1 : Int)))) ((0 : Int) , ((0 : Int) , ((0 : Int) , ((0 : Int) , ((0 : Int) , (0 : Int))))))).2.2.2.1 (List.length x6))
        (br (decide ((Int.toNat (List.getD x2 (Int.toNat (IntKind.wrap .i64 (x1 - (1 : Int)))) ((0 : Int) , ((0 : Int) , ((0 : Int) , ((0 : Int) , ((0 : Int) , (0 : Int))))))).2.2.2.1) < (List.length x6)))
         (br (decide ((List.getD x2 (Int.toNat (IntKind.wrap .i64 (x1 - (1 : Int)))) ((0 : Int) , ((0 : Int) , ((0 : Int) , ((0 : Int) , ((0 : Int) , (0 : Int))))))).2.2.2.2.1 = (List.getD x2 (Int.toNat (IntKind.wrap .i64 (x1 - (1 : Int)))) ((0 : Int) , ((0 : Int) , ((0 : Int) , ((0 : Int) , ((0 : Int) , (0 : Int))))))).2.2.2.2.1))
          (br (decide ((List.getD x2 (Int.toNat (IntKind.wrap .i64 (x1 - (1 : Int)))) ((0 : Int) , ((0 : Int) , ((0 : Int) , ((0 : Int) , ((0 : Int) , (0 : Int))))))).2.2.2.2.2 = (List.getD x2 (Int.toNat (IntKind.wrap .i64 (x1 - (1 : Int)))) ((0 : Int) , ((0 : Int) , ((0 : Int) , ((0 : Int) , ((0 : Int) , (0 : Int))))))).2.2.2.2.2))
           (br (inB (List.getD x2 (Int.toNat (IntKind.wrap .i64 (x1 - (1 : Int)))) ((0 : Int) , ((0 : Int) , ((0 : Int) , ((0 : Int) , ((0 : Int) , (0 : Int))))))).2.2.2.2.1 (List.length x6))
            (br (decide ((Int.toNat (List.getD x2 (Int.toNat (IntKind.wrap .i64 (x1 - (1 : Int)))) ((0 : Int) , ((0 : Int) , ((0 : Int) , ((0 : Int) , ((0 : Int) , (0 : Int))))))).2.2.2.2.1) < (List.length x6)))
             (br (decide ((List.getD x2 (Int.toNat (IntKind.wrap .i64 (x1 - (1 : Int)))) ((0 : Int) , ((0 : Int) , ((0 : Int) , ((0 : Int) , ((0 : Int) , (0 : Int))))))).2.2.2.2.2 = (List.getD x2 (Int.toNat (IntKind.wrap .i64 (x1 - (1 : Int)))) ((0 : Int) , ((0 : Int) , ((0 : Int) , ((0 : Int) , ((0 : Int) , (0 : Int))))))).2.2.2.2.2))
              (br (inB (List.getD x2 (Int.toNat (IntKind.wrap .i64 (x1 - (1 : Int)))) ((0 : Int) , ((0 : Int) , ((0 : Int) , ((0 : Int) , ((0 : Int) , (0 : Int))))))).2.2.2.2.2 (List.length x6))
               (br (decide ((Int.toNat (List.getD x2 (Int.toNat (IntKind.wrap .i64 (x1 - (1 : Int)))) ((0 : Int) , ((0 : Int) , ((0 : Int) , ((0 : Int) , ((0 : Int) , (0 : Int))))))).2.2.2.2.2) < (List.length x6)))
                (nx (IntKind.wrap .i64 (x0 + (1 : Int))) (IntKind.wrap .i64 (x1 - (1 : Int))) x2 x3 x4 x5 (List.set (List.set (List.set x6 (Int.toNat (List.getD x2 (Int.toNat (IntKind.wrap .i64 (x1 - (1 : Int)))) ((0 : Int) , ((0 : Int) , ((0 : Int) , ((0 : Int) , ((0 : Int) , (0 : Int))))))).2.2.2.1) true) (Int.toNat (List.getD x2 (Int.toNat (IntKind.wrap .i64 (x1 - (1 : Int)))) ((0 : Int) , ((0 : Int) , ((0 : Int) , ((0 : Int) , ((0 : Int) , (0 : Int))))))).2.2.2.2.1) true) (Int.toNat (List.getD x2 (Int.toNat (IntKind.wrap .i64 (x1 - (1 : Int)))) ((0 : Int) , ((0 : Int) , ((0 : Int) , ((0 : Int) , ((0 : Int) , (0 : Int))))))).2.2.2.2.2) true))
                (none))
               (none))
              (none))
             (none))
            (none))
           (none))
          (none))
         (none))
        (none))
       (none))
      (none)))
    (none))
   (none))
  (k0 x0 x2 x3 x4 x5 x6)
noncomputable def term_Arena_Under_2549_l3_T0 (N : Nat) (c0 : term_Arena_there_2549_Ty) {R : Type} (nx : Int → Int → T9 → T4 → T3 → T2 → T8 → T2 → Option R) (k0 : T9 → T4 → T3 → T2 → T2 → Option R) (x0 : Int) (x1 : Int) (x2 : T9) (x3 : T4) (x4 : T3) (x5 : T2) (x6 : T8) (x7 : T2) : Option R :=
  br (decide (x1 < x0))
  (br (decide ((0 : Int) < x1))
   (br (inB x1 (List.length x6))
    (br (decide ((Int.toNat x1) < (List.length x6)))
     (br (List.getD x6 (Int.toNat x1) false)
      (br (((fits (0 : Nat) (List.length x7) x7) && (decide ((((List.length x7) + (1 : Nat)) * (8 : Nat)) ≤ (70368744177664 : Nat)))) && true)
       (nx x0 (IntKind.wrap .i64 (x1 + (1 : Int))) x2 x3 x4 x5 x6 ((sub x7 (0 : Nat) (List.length x7)) ++ (x1 :: ([] : List ((Sh.int IntKind.i64).T)))))
       (none))
      (nx x0 (IntKind.wrap .i64 (x1 + (1 : Int))) x2 x3 x4 x5 x6 x7))
     (none))
    (none))
   (nx x0 (IntKind.wrap .i64 (x1 + (1 : Int))) x2 x3 x4 x5 x6 x7))
  (k0 x2 x3 x4 x5 x7)
noncomputable def term_Arena_Under_2549_l3 (N : Nat) {R : Type} (k0 : T9 → T4 → T3 → T2 → T2 → Option R) : Nat → Int → Int → T9 → T4 → T3 → T2 → T8 → T2 → Option R
  | 0, _, _, _, _, _, _, _, _ => none
  | n + 1, x0, x1, x2, x3, x4, x5, x6, x7 => term_Arena_Under_2549_l3_T0 N (@term_Arena_there_2549 N) (fun x0 x1 x2 x3 x4 x5 x6 x7 => term_Arena_Under_2549_l3 N k0 n x0 x1 x2 x3 x4 x5 x6 x7) k0 x0 x1 x2 x3 x4 x5 x6 x7
noncomputable def term_Arena_Under_2549_l2 (N : Nat) {R : Type} (k0 : Int → T9 → T4 → T3 → T2 → T8 → Option R) : Nat → Int → Int → T9 → T4 → T3 → T2 → T8 → Option R
  | 0, _, _, _, _, _, _, _ => none
  | n + 1, x0, x1, x2, x3, x4, x5, x6 => term_Arena_Under_2549_l2_T0 N (@term_Arena_there_2549 N) (@term_Arena_Under_2549_l3 N) (fun x0 x1 x2 x3 x4 x5 x6 => term_Arena_Under_2549_l2 N k0 n x0 x1 x2 x3 x4 x5 x6) k0 x0 x1 x2 x3 x4 x5 x6
noncomputable def term_Arena_Under_2549_l1 (N : Nat) {R : Type} (k0 : Int → T9 → T4 → T3 → T2 → T8 → Option R) : Nat → Int → Int → Int → T9 → T4 → T3 → T2 → T8 → Option R
  | 0, _, _, _, _, _, _, _, _ => none
  | n + 1, x0, x1, x2, x3, x4, x5, x6, x7 => term_Arena_Under_2549_l1_T0 N (@term_Arena_there_2549 N) (@term_Arena_Under_2549_l2 N) (@term_Arena_Under_2549_l3 N) (fun x0 x1 x2 x3 x4 x5 x6 x7 => term_Arena_Under_2549_l1 N k0 n x0 x1 x2 x3 x4 x5 x6 x7) k0 x0 x1 x2 x3 x4 x5 x6 x7
noncomputable def term_Arena_Under_2549_l0 (N : Nat) {R : Type} (k0 : Int → T9 → T4 → T3 → T2 → Option R) : Nat → Int → Int → Int → T9 → T4 → T3 → T2 → Option R
  | 0, _, _, _, _, _, _, _ => none
  | n + 1, x0, x1, x2, x3, x4, x5, x6 => term_Arena_Under_2549_l0_T0 N (@term_Arena_there_2549 N) (@term_Arena_Under_2549_l1 N) (@term_Arena_Under_2549_l2 N) (@term_Arena_Under_2549_l3 N) (fun x0 x1 x2 x3 x4 x5 x6 => term_Arena_Under_2549_l0 N k0 n x0 x1 x2 x3 x4 x5 x6) k0 x0 x1 x2 x3 x4 x5 x6
noncomputable def term_Arena_Under_2549_T (N : Nat) (c0 : term_Arena_there_2549_Ty) (w0 : term_Arena_Under_2549_l0_Ty) (w1 : term_Arena_Under_2549_l1_Ty) (w2 : term_Arena_Under_2549_l2_Ty) (w3 : term_Arena_Under_2549_l3_Ty) {R : Type} (x0 : T9) (x1 : T4) (x2 : T3) (x3 : T2) (k0 : T9 → T4 → T3 → T2 → T2 → Option R) : Option R :=
  w0
  (fun i1889 l1890 l1891 l1892 l1893 => br ((((decide ((0 : Int) ≤ (IntKind.wrap .i64 (i1889 + (1 : Int))))) && (decide ((IntKind.wrap .i64 (i1889 + (1 : Int))) ≤ (IntKind.wrap .i64 (i1889 + (1 : Int)))))) && (decide (((IntKind.wrap .i64 (i1889 + (1 : Int))) * (1 : Int)) ≤ ((2 : Int) ^ (46 : Nat))))) && true)
   (w1
    (fun i1899 l1900 l1901 l1902 l1903 l1904 => w2
     (fun i1905 l1906 l1907 l1908 l1909 l1910 => br (((decide ((0 : Int) ≤ i1905)) && (decide ((i1905 * (8 : Int)) ≤ ((2 : Int) ^ (46 : Nat))))) && true)
      (w3
       (fun l1911 l1912 l1913 l1914 l1915 => k0 l1911 l1912 l1913 l1914 l1915)
       N (Nat.cast (List.length l1910) : Int) (0 : Int) l1906 l1907 l1908 l1909 l1910 ([] : List ((Sh.int IntKind.i64).T)))
      (none))
     N (0 : Int) i1899 l1900 l1901 l1902 l1903 l1904)
    N i1889 (Nat.cast (List.length l1893) : Int) (0 : Int) l1890 l1891 l1892 l1893 (List.replicate (Int.toNat (IntKind.wrap .i64 (i1889 + (1 : Int)))) false))
   (none))
  N (0 : Int) (Nat.cast (List.length x3) : Int) (0 : Int) x0 x1 x2 x3
noncomputable def term_Arena_Under_2549 (N : Nat) {R : Type} (x0 : T9) (x1 : T4) (x2 : T3) (x3 : T2) (k0 : T9 → T4 → T3 → T2 → T2 → Option R) : Option R := term_Arena_Under_2549_T N (@term_Arena_there_2549 N) (@term_Arena_Under_2549_l0 N) (@term_Arena_Under_2549_l1 N) (@term_Arena_Under_2549_l2 N) (@term_Arena_Under_2549_l3 N) x0 x1 x2 x3 k0
abbrev term_Arena_Two_12d2_Ty : Type 1 := {R : Type} → Int → Int → Int → T9 → T4 → T3 → (Int → Int → T4 → T3 → T9 → Option R) → Option R
abbrev term_Arena_less_12d2_Ty : Type 1 := {R : Type} → Int → Int → Int → T9 → T4 → T3 → (Int → Int → Bool → T4 → T3 → T9 → Option R) → Option R
abbrev term_Arena_with_7a2f_Ty : Type 1 := {R : Type} → Int → Int → Int → T9 → T4 → T3 → (Int → Int → Bool → T4 → T3 → T9 → Option R) → Option R
abbrev term_Arena_equal_2c81_Ty : Type 1 := {R : Type} → Int → Int → T9 → T4 → T3 → (Int → Int → Bool → T4 → T3 → T9 → Option R) → Option R
noncomputable def term_Arena_Two_12d2_T (N : Nat) (c0 : term_Arena_keep_a25e_Ty) (c1 : term_Arena_less_12d2_Ty) (c2 : term_turns_Ty) (c3 : term_Arena_Const_2c81_Ty) (c4 : wide_Out_Ty) (c5 : wide_Do_Ty) (c6 : term_Arena_Known_43b4_Ty) (c7 : term_Arena_Width_43b4_Ty) (c8 : term_Arena_there_2549_Ty) (c9 : term_two_Ty) {R : Type} (x0 : Int) (x1 : Int) (x2 : Int) (x3 : T9) (x4 : T4) (x5 : T3) (k0 : Int → Int → T4 → T3 → T9 → Option R) : Option R :=
  c9 x0
  (fun b575 => br (!b575)
   (k0 (0 : Int) (5 : Int) x4 x5 x3)
   (c8 x3 x4 x5 (x1 :: (x2 :: ([] : List ((Sh.int IntKind.i64).T))))
    (fun b576 l577 l578 l579 l580 => br (!b576)
     (k0 (0 : Int) (1 : Int) l578 l579 l577)
     (c7 x1 l577 l578 l579
      (fun i581 l582 l583 l584 => c7 x2 l582 l583 l584
       (fun i585 l586 l587 l588 => br (!(decide (i581 = i585)))
        (k0 (0 : Int) (2 : Int) l587 l588 l586)
        (c6 x1 l586 l587 l588
         (fun i589 b590 l591 l592 l593 => c6 x2 l591 l592 l593
          (fun i594 b595 l596 l597 l598 => br b590
           (br b595
            (c7 x1 l596 l597 l598
             (fun i599 l600 l601 l602 => c5 x0 i599 i589 i594
              (fun i603 i604 => c7 x1 l600 l601 l602
               (fun i605 l606 l607 l608 => c4 x0 i605
                (fun i609 => c3 i609 i603 l606 l607 l608
                 (fun i610 i611 l612 l613 l614 => k0 i610 i611 l612 l613 l614))))))
            (c2 x0
             (fun b615 => br b615
              (br (decide (x2 < x1))
               (c1 x0 x2 x1 l596 l597 l598
                (fun i1010 i1011 b1012 l1013 l1014 l1015 => br b1012
                 (k0 i1010 i1011 l1013 l1014 l1015)
                 (c7 x2 l1015 l1013 l1014
                  (fun i1016 l1017 l1018 l1019 => c4 x0 i1016
                   (fun i1020 => c0 x0 i1020 (0 : Int) x2 x1 (0 : Int) l1017 l1018 l1019
                    (fun i1021 i1022 l1023 l1024 l1025 => k0 i1021 i1022 l1023 l1024 l1025))))))
               (c1 x0 x1 x2 l596 l597 l598
                (fun i1026 i1027 b1028 l1029 l1030 l1031 => br b1028
                 (k0 i1026 i1027 l1029 l1030 l1031)
                 (c7 x1 l1031 l1029 l1030
                  (fun i1032 l1033 l1034 l1035 => c4 x0 i1032
                   (fun i1036 => c0 x0 i1036 (0 : Int) x1 x2 (0 : Int) l1033 l1034 l1035
                    (fun i1037 i1038 l1039 l1040 l1041 => k0 i1037 i1038 l1039 l1040 l1041)))))))
              (c1 x0 x1 x2 l596 l597 l598
               (fun i1042 i1043 b1044 l1045 l1046 l1047 => br b1044
                (k0 i1042 i1043 l1045 l1046 l1047)
                (c7 x1 l1047 l1045 l1046
                 (fun i1048 l1049 l1050 l1051 => c4 x0 i1048
                  (fun i1052 => c0 x0 i1052 (0 : Int) x1 x2 (0 : Int) l1049 l1050 l1051
                   (fun i1053 i1054 l1055 l1056 l1057 => k0 i1053 i1054 l1055 l1056 l1057)))))))))
           (c2 x0
            (fun b1058 => br b1058
             (br (decide (x2 < x1))
              (c1 x0 x2 x1 l596 l597 l598
               (fun i1059 i1060 b1061 l1062 l1063 l1064 => br b1061
                (k0 i1059 i1060 l1062 l1063 l1064)
                (c7 x2 l1064 l1062 l1063
                 (fun i1065 l1066 l1067 l1068 => c4 x0 i1065
                  (fun i1069 => c0 x0 i1069 (0 : Int) x2 x1 (0 : Int) l1066 l1067 l1068
                   (fun i1070 i1071 l1072 l1073 l1074 => k0 i1070 i1071 l1072 l1073 l1074))))))
              (c1 x0 x1 x2 l596 l597 l598
               (fun i1075 i1076 b1077 l1078 l1079 l1080 => br b1077
                (k0 i1075 i1076 l1078 l1079 l1080)
                (c7 x1 l1080 l1078 l1079
                 (fun i1081 l1082 l1083 l1084 => c4 x0 i1081
                  (fun i1085 => c0 x0 i1085 (0 : Int) x1 x2 (0 : Int) l1082 l1083 l1084
                   (fun i1086 i1087 l1088 l1089 l1090 => k0 i1086 i1087 l1088 l1089 l1090)))))))
             (c1 x0 x1 x2 l596 l597 l598
              (fun i1091 i1092 b1093 l1094 l1095 l1096 => br b1093
               (k0 i1091 i1092 l1094 l1095 l1096)
               (c7 x1 l1096 l1094 l1095
                (fun i1097 l1098 l1099 l1100 => c4 x0 i1097
                 (fun i1101 => c0 x0 i1101 (0 : Int) x1 x2 (0 : Int) l1098 l1099 l1100
                  (fun i1102 i1103 l1104 l1105 l1106 => k0 i1102 i1103 l1104 l1105 l1106)))))))))))))))))
noncomputable def term_Arena_less_12d2_T (N : Nat) (c0 : term_Arena_with_7a2f_Ty) (c1 : term_turns_Ty) (c2 : term_Arena_Known_43b4_Ty) (c3 : term_Arena_alike_99d8_Ty) {R : Type} (x0 : Int) (x1 : Int) (x2 : Int) (x3 : T9) (x4 : T4) (x5 : T3) (k0 : Int → Int → Bool → T4 → T3 → T9 → Option R) : Option R :=
  br (decide (x1 = x2))
  (c3 x0 x1 x3 x4 x5
   (fun i970 i971 b972 l973 l974 l975 => k0 i970 i971 b972 l973 l974 l975))
  (c2 x1 x3 x4 x5
   (fun i976 b977 l978 l979 l980 => br b977
    (c1 x0
     (fun b981 => br b981
      (c0 x0 x2 i976 l978 l979 l980
       (fun i982 i983 b984 l985 l986 l987 => k0 i982 i983 b984 l985 l986 l987))
      (c2 x2 l978 l979 l980
       (fun i988 b989 l990 l991 l992 => br b989
        (c0 x0 x1 i988 l990 l991 l992
         (fun i993 i994 b995 l996 l997 l998 => k0 i993 i994 b995 l996 l997 l998))
        (k0 (0 : Int) (0 : Int) false l991 l992 l990)))))
    (c2 x2 l978 l979 l980
     (fun i999 b1000 l1001 l1002 l1003 => br b1000
      (c0 x0 x1 i999 l1001 l1002 l1003
       (fun i1004 i1005 b1006 l1007 l1008 l1009 => k0 i1004 i1005 b1006 l1007 l1008 l1009))
      (k0 (0 : Int) (0 : Int) false l1002 l1003 l1001)))))
noncomputable def term_Arena_with_7a2f_T (N : Nat) (c0 : term_Arena_equal_2c81_Ty) (c1 : wide_Mask_Ty) (c2 : term_Arena_Const_2c81_Ty) (c3 : wide_Out_Ty) (c4 : term_Arena_Width_43b4_Ty) {R : Type} (x0 : Int) (x1 : Int) (x2 : Int) (x3 : T9) (x4 : T4) (x5 : T3) (k0 : Int → Int → Bool → T4 → T3 → T9 → Option R) : Option R :=
  c4 x1 x3 x4 x5
  (fun i675 l676 l677 l678 => br (decide (x2 = (0 : Int)))
   (br (!(decide (x0 = (4 : Int))))
    (br (!(decide (x0 = (9 : Int))))
     (br (decide (x0 = (15 : Int)))
      (c3 x0 i675
       (fun i679 => c2 i679 (0 : Int) l676 l677 l678
        (fun i680 i681 l682 l683 l684 => k0 i680 i681 true l682 l683 l684)))
      (br (decide (x2 = (0 : Int)))
       (br (!(decide (x0 = (5 : Int))))
        (br (!(decide (x0 = (6 : Int))))
         (br (!(decide (x0 = (7 : Int))))
          (br (!(decide (x0 = (8 : Int))))
           (br (!(decide (x0 = (12 : Int))))
            (br (!(decide (x0 = (13 : Int))))
             (br (decide (x0 = (11 : Int)))
              (k0 x1 (0 : Int) true l677 l678 l676)
              (c1 i675
               (fun i685 => br (decide (x2 = i685))
                (br (!(decide (x0 = (4 : Int))))
                 (br (decide (x2 = (1 : Int)))
                  (br (!(decide (x0 = (9 : Int))))
                   (br (decide (x0 = (10 : Int)))
                    (k0 x1 (0 : Int) true l677 l678 l676)
                    (br (decide (x0 = (14 : Int)))
                     (c0 x1 x2 l676 l677 l678
                      (fun i842 i843 b844 l845 l846 l847 => k0 i842 i843 b844 l845 l846 l847))
                     (k0 (0 : Int) (0 : Int) false l677 l678 l676)))
                   (k0 x1 (0 : Int) true l677 l678 l676))
                  (br (decide (x0 = (14 : Int)))
                   (c0 x1 x2 l676 l677 l678
                    (fun i848 i849 b850 l851 l852 l853 => k0 i848 i849 b850 l851 l852 l853))
                   (k0 (0 : Int) (0 : Int) false l677 l678 l676)))
                 (k0 x1 (0 : Int) true l677 l678 l676))
                (br (decide (x2 = (1 : Int)))
                 (br (!(decide (x0 = (9 : Int))))
                  (br (decide (x0 = (10 : Int)))
                   (k0 x1 (0 : Int) true l677 l678 l676)
                   (br (decide (x0 = (14 : Int)))
                    (c0 x1 x2 l676 l677 l678
                     (fun i854 i855 b856 l857 l858 l859 => k0 i854 i855 b856 l857 l858 l859))
                    (k0 (0 : Int) (0 : Int) false l677 l678 l676)))
                  (k0 x1 (0 : Int) true l677 l678 l676))
                 (br (decide (x0 = (14 : Int)))
                  (c0 x1 x2 l676 l677 l678
                   (fun i860 i861 b862 l863 l864 l865 => k0 i860 i861 b862 l863 l864 l865))
                  (k0 (0 : Int) (0 : Int) false l677 l678 l676))))))
             (k0 x1 (0 : Int) true l677 l678 l676))
            (k0 x1 (0 : Int) true l677 l678 l676))
           (k0 x1 (0 : Int) true l677 l678 l676))
          (k0 x1 (0 : Int) true l677 l678 l676))
         (k0 x1 (0 : Int) true l677 l678 l676))
        (k0 x1 (0 : Int) true l677 l678 l676))
       (c1 i675
        (fun i866 => br (decide (x2 = i866))
         (br (!(decide (x0 = (4 : Int))))
          (br (decide (x2 = (1 : Int)))
           (br (!(decide (x0 = (9 : Int))))
            (br (decide (x0 = (10 : Int)))
             (k0 x1 (0 : Int) true l677 l678 l676)
             (br (decide (x0 = (14 : Int)))
              (c0 x1 x2 l676 l677 l678
               (fun i867 i868 b869 l870 l871 l872 => k0 i867 i868 b869 l870 l871 l872))
              (k0 (0 : Int) (0 : Int) false l677 l678 l676)))
            (k0 x1 (0 : Int) true l677 l678 l676))
           (br (decide (x0 = (14 : Int)))
            (c0 x1 x2 l676 l677 l678
             (fun i873 i874 b875 l876 l877 l878 => k0 i873 i874 b875 l876 l877 l878))
            (k0 (0 : Int) (0 : Int) false l677 l678 l676)))
          (k0 x1 (0 : Int) true l677 l678 l676))
         (br (decide (x2 = (1 : Int)))
          (br (!(decide (x0 = (9 : Int))))
           (br (decide (x0 = (10 : Int)))
            (k0 x1 (0 : Int) true l677 l678 l676)
            (br (decide (x0 = (14 : Int)))
             (c0 x1 x2 l676 l677 l678
              (fun i879 i880 b881 l882 l883 l884 => k0 i879 i880 b881 l882 l883 l884))
             (k0 (0 : Int) (0 : Int) false l677 l678 l676)))
           (k0 x1 (0 : Int) true l677 l678 l676))
          (br (decide (x0 = (14 : Int)))
           (c0 x1 x2 l676 l677 l678
            (fun i885 i886 b887 l888 l889 l890 => k0 i885 i886 b887 l888 l889 l890))
           (k0 (0 : Int) (0 : Int) false l677 l678 l676)))))))
     (c3 x0 i675
      (fun i891 => c2 i891 (0 : Int) l676 l677 l678
       (fun i892 i893 l894 l895 l896 => k0 i892 i893 true l894 l895 l896))))
    (c3 x0 i675
     (fun i897 => c2 i897 (0 : Int) l676 l677 l678
      (fun i898 i899 l900 l901 l902 => k0 i898 i899 true l900 l901 l902))))
   (br (decide (x2 = (0 : Int)))
    (br (!(decide (x0 = (5 : Int))))
     (br (!(decide (x0 = (6 : Int))))
      (br (!(decide (x0 = (7 : Int))))
       (br (!(decide (x0 = (8 : Int))))
        (br (!(decide (x0 = (12 : Int))))
         (br (!(decide (x0 = (13 : Int))))
          (br (decide (x0 = (11 : Int)))
           (k0 x1 (0 : Int) true l677 l678 l676)
           (c1 i675
            (fun i903 => br (decide (x2 = i903))
             (br (!(decide (x0 = (4 : Int))))
              (br (decide (x2 = (1 : Int)))
               (br (!(decide (x0 = (9 : Int))))
                (br (decide (x0 = (10 : Int)))
                 (k0 x1 (0 : Int) true l677 l678 l676)
                 (br (decide (x0 = (14 : Int)))
                  (c0 x1 x2 l676 l677 l678
                   (fun i904 i905 b906 l907 l908 l909 => k0 i904 i905 b906 l907 l908 l909))
                  (k0 (0 : Int) (0 : Int) false l677 l678 l676)))
                (k0 x1 (0 : Int) true l677 l678 l676))
               (br (decide (x0 = (14 : Int)))
                (c0 x1 x2 l676 l677 l678
                 (fun i910 i911 b912 l913 l914 l915 => k0 i910 i911 b912 l913 l914 l915))
                (k0 (0 : Int) (0 : Int) false l677 l678 l676)))
              (k0 x1 (0 : Int) true l677 l678 l676))
             (br (decide (x2 = (1 : Int)))
              (br (!(decide (x0 = (9 : Int))))
               (br (decide (x0 = (10 : Int)))
                (k0 x1 (0 : Int) true l677 l678 l676)
                (br (decide (x0 = (14 : Int)))
                 (c0 x1 x2 l676 l677 l678
                  (fun i916 i917 b918 l919 l920 l921 => k0 i916 i917 b918 l919 l920 l921))
                 (k0 (0 : Int) (0 : Int) false l677 l678 l676)))
               (k0 x1 (0 : Int) true l677 l678 l676))
              (br (decide (x0 = (14 : Int)))
               (c0 x1 x2 l676 l677 l678
                (fun i922 i923 b924 l925 l926 l927 => k0 i922 i923 b924 l925 l926 l927))
               (k0 (0 : Int) (0 : Int) false l677 l678 l676))))))
          (k0 x1 (0 : Int) true l677 l678 l676))
         (k0 x1 (0 : Int) true l677 l678 l676))
        (k0 x1 (0 : Int) true l677 l678 l676))
       (k0 x1 (0 : Int) true l677 l678 l676))
      (k0 x1 (0 : Int) true l677 l678 l676))
     (k0 x1 (0 : Int) true l677 l678 l676))
    (c1 i675
     (fun i928 => br (decide (x2 = i928))
      (br (!(decide (x0 = (4 : Int))))
       (br (decide (x2 = (1 : Int)))
        (br (!(decide (x0 = (9 : Int))))
         (br (decide (x0 = (10 : Int)))
          (k0 x1 (0 : Int) true l677 l678 l676)
          (br (decide (x0 = (14 : Int)))
           (c0 x1 x2 l676 l677 l678
            (fun i929 i930 b931 l932 l933 l934 => k0 i929 i930 b931 l932 l933 l934))
           (k0 (0 : Int) (0 : Int) false l677 l678 l676)))
         (k0 x1 (0 : Int) true l677 l678 l676))
        (br (decide (x0 = (14 : Int)))
         (c0 x1 x2 l676 l677 l678
          (fun i935 i936 b937 l938 l939 l940 => k0 i935 i936 b937 l938 l939 l940))
         (k0 (0 : Int) (0 : Int) false l677 l678 l676)))
       (k0 x1 (0 : Int) true l677 l678 l676))
      (br (decide (x2 = (1 : Int)))
       (br (!(decide (x0 = (9 : Int))))
        (br (decide (x0 = (10 : Int)))
         (k0 x1 (0 : Int) true l677 l678 l676)
         (br (decide (x0 = (14 : Int)))
          (c0 x1 x2 l676 l677 l678
           (fun i941 i942 b943 l944 l945 l946 => k0 i941 i942 b943 l944 l945 l946))
          (k0 (0 : Int) (0 : Int) false l677 l678 l676)))
        (k0 x1 (0 : Int) true l677 l678 l676))
       (br (decide (x0 = (14 : Int)))
        (c0 x1 x2 l676 l677 l678
         (fun i947 i948 b949 l950 l951 l952 => k0 i947 i948 b949 l950 l951 l952))
        (k0 (0 : Int) (0 : Int) false l677 l678 l676)))))))
noncomputable def term_Arena_equal_2c81_T (N : Nat) (c0 : term_Arena_Two_12d2_Ty) (c1 : term_Arena_Const_2c81_Ty) (c2 : wide_Mask_Ty) (c3 : term_Arena_Width_43b4_Ty) (c4 : term_Arena_Not_43b4_Ty) (c5 : term_Arena_Node_43b4_Ty) {R : Type} (x0 : Int) (x1 : Int) (x2 : T9) (x3 : T4) (x4 : T3) (k0 : Int → Int → Bool → T4 → T3 → T9 → Option R) : Option R :=
  c5 x0 x2 x3 x4
  (fun i746 i747 i748 i749 i750 i751 b752 l753 l754 l755 => br (decide (i747 = (1 : Int)))
   (br (decide (x1 = (1 : Int)))
    (k0 x0 (0 : Int) true l754 l755 l753)
    (br (decide (i747 = (1 : Int)))
     (c4 x0 l753 l754 l755
      (fun i756 i757 l758 l759 l760 => k0 i756 i757 true l758 l759 l760))
     (br (decide (i746 = (17 : Int)))
      (c3 i749 l753 l754 l755
       (fun i761 l762 l763 l764 => c2 i761
        (fun i765 => br (decide (i765 < x1))
         (c1 (1 : Int) (0 : Int) l762 l763 l764
          (fun i766 i767 l768 l769 l770 => k0 i766 i767 true l768 l769 l770))
         (br (decide (i746 = (17 : Int)))
          (c3 i749 l762 l763 l764
           (fun i771 l772 l773 l774 => c1 i771 x1 l772 l773 l774
            (fun i775 i776 l777 l778 l779 => br (!(decide (i776 = (0 : Int))))
             (k0 (0 : Int) i776 true l777 l778 l779)
             (c0 (14 : Int) i749 i775 l779 l777 l778
              (fun i780 i781 l782 l783 l784 => k0 i780 i781 true l782 l783 l784)))))
          (k0 (0 : Int) (0 : Int) false l763 l764 l762)))))
      (br (decide (i746 = (17 : Int)))
       (c3 i749 l753 l754 l755
        (fun i785 l786 l787 l788 => c1 i785 x1 l786 l787 l788
         (fun i789 i790 l791 l792 l793 => br (!(decide (i790 = (0 : Int))))
          (k0 (0 : Int) i790 true l791 l792 l793)
          (c0 (14 : Int) i749 i789 l793 l791 l792
           (fun i794 i795 l796 l797 l798 => k0 i794 i795 true l796 l797 l798)))))
       (k0 (0 : Int) (0 : Int) false l754 l755 l753)))))
   (br (decide (i747 = (1 : Int)))
    (c4 x0 l753 l754 l755
     (fun i799 i800 l801 l802 l803 => k0 i799 i800 true l801 l802 l803))
    (br (decide (i746 = (17 : Int)))
     (c3 i749 l753 l754 l755
      (fun i804 l805 l806 l807 => c2 i804
       (fun i808 => br (decide (i808 < x1))
        (c1 (1 : Int) (0 : Int) l805 l806 l807
         (fun i809 i810 l811 l812 l813 => k0 i809 i810 true l811 l812 l813))
        (br (decide (i746 = (17 : Int)))
         (c3 i749 l805 l806 l807
          (fun i814 l815 l816 l817 => c1 i814 x1 l815 l816 l817
           (fun i818 i819 l820 l821 l822 => br (!(decide (i819 = (0 : Int))))
            (k0 (0 : Int) i819 true l820 l821 l822)
            (c0 (14 : Int) i749 i818 l822 l820 l821
             (fun i823 i824 l825 l826 l827 => k0 i823 i824 true l825 l826 l827)))))
         (k0 (0 : Int) (0 : Int) false l806 l807 l805)))))
     (br (decide (i746 = (17 : Int)))
      (c3 i749 l753 l754 l755
       (fun i828 l829 l830 l831 => c1 i828 x1 l829 l830 l831
        (fun i832 i833 l834 l835 l836 => br (!(decide (i833 = (0 : Int))))
         (k0 (0 : Int) i833 true l834 l835 l836)
         (c0 (14 : Int) i749 i832 l836 l834 l835
          (fun i837 i838 l839 l840 l841 => k0 i837 i838 true l839 l840 l841)))))
      (k0 (0 : Int) (0 : Int) false l754 l755 l753)))))
structure G_term_Arena_Two_Rec : Type 1 where
  term_Arena_Two_12d2 : term_Arena_Two_12d2_Ty
  term_Arena_less_12d2 : term_Arena_less_12d2_Ty
  term_Arena_with_7a2f : term_Arena_with_7a2f_Ty
  term_Arena_equal_2c81 : term_Arena_equal_2c81_Ty
noncomputable def G_term_Arena_Two_rec (N : Nat) : Nat → G_term_Arena_Two_Rec
  | 0 => ⟨fun {R} _ _ _ _ _ _ _ => none, fun {R} _ _ _ _ _ _ _ => none, fun {R} _ _ _ _ _ _ _ => none, fun {R} _ _ _ _ _ _ => none⟩
  | n + 1 => ⟨fun {R} x0 x1 x2 x3 x4 x5 k0 => term_Arena_Two_12d2_T N (@term_Arena_keep_a25e N) (@G_term_Arena_Two_Rec.term_Arena_less_12d2 (G_term_Arena_Two_rec N n)) (@term_turns N) (@term_Arena_Const_2c81 N) (@wide_Out N) (@wide_Do N) (@term_Arena_Known_43b4 N) (@term_Arena_Width_43b4 N) (@term_Arena_there_2549 N) (@term_two N) x0 x1 x2 x3 x4 x5 k0,
    fun {R} x0 x1 x2 x3 x4 x5 k0 => term_Arena_less_12d2_T N (@G_term_Arena_Two_Rec.term_Arena_with_7a2f (G_term_Arena_Two_rec N n)) (@term_turns N) (@term_Arena_Known_43b4 N) (@term_Arena_alike_99d8 N) x0 x1 x2 x3 x4 x5 k0,
    fun {R} x0 x1 x2 x3 x4 x5 k0 => term_Arena_with_7a2f_T N (@G_term_Arena_Two_Rec.term_Arena_equal_2c81 (G_term_Arena_Two_rec N n)) (@wide_Mask N) (@term_Arena_Const_2c81 N) (@wide_Out N) (@term_Arena_Width_43b4 N) x0 x1 x2 x3 x4 x5 k0,
    fun {R} x0 x1 x2 x3 x4 k0 => term_Arena_equal_2c81_T N (@G_term_Arena_Two_Rec.term_Arena_Two_12d2 (G_term_Arena_Two_rec N n)) (@term_Arena_Const_2c81 N) (@wide_Mask N) (@term_Arena_Width_43b4 N) (@term_Arena_Not_43b4 N) (@term_Arena_Node_43b4 N) x0 x1 x2 x3 x4 k0⟩
noncomputable def term_Arena_Two_12d2 (N : Nat) {R : Type} (x0 : Int) (x1 : Int) (x2 : Int) (x3 : T9) (x4 : T4) (x5 : T3) (k0 : Int → Int → T4 → T3 → T9 → Option R) : Option R := (G_term_Arena_Two_rec N N).term_Arena_Two_12d2 x0 x1 x2 x3 x4 x5 k0
noncomputable def term_Arena_less_12d2 (N : Nat) {R : Type} (x0 : Int) (x1 : Int) (x2 : Int) (x3 : T9) (x4 : T4) (x5 : T3) (k0 : Int → Int → Bool → T4 → T3 → T9 → Option R) : Option R := (G_term_Arena_Two_rec N N).term_Arena_less_12d2 x0 x1 x2 x3 x4 x5 k0
noncomputable def term_Arena_with_7a2f (N : Nat) {R : Type} (x0 : Int) (x1 : Int) (x2 : Int) (x3 : T9) (x4 : T4) (x5 : T3) (k0 : Int → Int → Bool → T4 → T3 → T9 → Option R) : Option R := (G_term_Arena_Two_rec N N).term_Arena_with_7a2f x0 x1 x2 x3 x4 x5 k0
noncomputable def term_Arena_equal_2c81 (N : Nat) {R : Type} (x0 : Int) (x1 : Int) (x2 : T9) (x3 : T4) (x4 : T3) (k0 : Int → Int → Bool → T4 → T3 → T9 → Option R) : Option R := (G_term_Arena_Two_rec N N).term_Arena_equal_2c81 x0 x1 x2 x3 x4 k0
abbrev cast_maker_two_8916_Ty : Type 1 := {R : Type} → Int → Int → Int → Int → T9 → T4 → T3 → (Int → Int → T4 → T3 → T9 → Option R) → Option R
noncomputable def cast_maker_two_8916_T (N : Nat) (c0 : cast_maker_keep_9e9f_Ty) (c1 : term_Arena_Two_12d2_Ty) {R : Type} (x0 : Int) (x1 : Int) (x2 : Int) (x3 : Int) (x4 : T9) (x5 : T4) (x6 : T3) (k0 : Int → Int → T4 → T3 → T9 → Option R) : Option R :=
  br (!(decide (x3 = (0 : Int))))
  (k0 (0 : Int) x3 x5 x6 x4)
  (c1 x0 x1 x2 x4 x5 x6
   (fun i1117 i1118 l1119 l1120 l1121 => c0 i1117 i1118 x3 l1121 l1119 l1120
    (fun i1122 i1123 l1124 l1125 l1126 => k0 i1122 i1123 l1125 l1126 l1124)))
noncomputable def cast_maker_two_8916 (N : Nat) {R : Type} (x0 : Int) (x1 : Int) (x2 : Int) (x3 : Int) (x4 : T9) (x5 : T4) (x6 : T3) (k0 : Int → Int → T4 → T3 → T9 → Option R) : Option R := cast_maker_two_8916_T N (@cast_maker_keep_9e9f N) (@term_Arena_Two_12d2 N) x0 x1 x2 x3 x4 x5 x6 k0
abbrev term_Arena_Ext_99d8_Ty : Type 1 := {R : Type} → Int → Int → T9 → T4 → T3 → (Int → Int → T4 → T3 → T9 → Option R) → Option R
noncomputable def term_Arena_Ext_99d8_T (N : Nat) (c0 : term_Arena_keep_a25e_Ty) (c1 : term_Arena_Ext_99d8_Ty) (c2 : term_Arena_Const_2c81_Ty) (c3 : wide_May_Ty) (c4 : term_Arena_Node_43b4_Ty) {R : Type} (x0 : Int) (x1 : Int) (x2 : T9) (x3 : T4) (x4 : T3) (k0 : Int → Int → T4 → T3 → T9 → Option R) : Option R :=
  c4 x1 x2 x3 x4
  (fun i1279 i1280 i1281 i1282 i1283 i1284 b1285 l1286 l1287 l1288 => br (!b1285)
   (k0 (0 : Int) (1 : Int) l1287 l1288 l1286)
   (c3 x0
    (fun b1289 => br (!(!b1289))
     (br (decide (x0 < i1280))
      (k0 (0 : Int) (2 : Int) l1287 l1288 l1286)
      (br (decide (x0 = i1280))
       (k0 x1 (0 : Int) l1287 l1288 l1286)
       (br (decide (i1279 = (1 : Int)))
        (c2 x0 i1281 l1286 l1287 l1288
         (fun i1290 i1291 l1292 l1293 l1294 => k0 i1290 i1291 l1292 l1293 l1294))
        (br (decide (i1279 = (17 : Int)))
         (c1 x0 i1282 l1286 l1287 l1288
          (fun i1295 i1296 l1297 l1298 l1299 => k0 i1295 i1296 l1297 l1298 l1299))
         (c0 (17 : Int) x0 (0 : Int) x1 (0 : Int) (0 : Int) l1286 l1287 l1288
          (fun i1300 i1301 l1302 l1303 l1304 => k0 i1300 i1301 l1302 l1303 l1304))))))
     (k0 (0 : Int) (2 : Int) l1287 l1288 l1286))))
structure G_term_Arena_Ext_Rec : Type 1 where
  term_Arena_Ext_99d8 : term_Arena_Ext_99d8_Ty
noncomputable def G_term_Arena_Ext_rec (N : Nat) : Nat → G_term_Arena_Ext_Rec
  | 0 => ⟨fun {R} _ _ _ _ _ _ => none⟩
  | n + 1 => ⟨fun {R} x0 x1 x2 x3 x4 k0 => term_Arena_Ext_99d8_T N (@term_Arena_keep_a25e N) (@G_term_Arena_Ext_Rec.term_Arena_Ext_99d8 (G_term_Arena_Ext_rec N n)) (@term_Arena_Const_2c81 N) (@wide_May N) (@term_Arena_Node_43b4 N) x0 x1 x2 x3 x4 k0⟩
noncomputable def term_Arena_Ext_99d8 (N : Nat) {R : Type} (x0 : Int) (x1 : Int) (x2 : T9) (x3 : T4) (x4 : T3) (k0 : Int → Int → T4 → T3 → T9 → Option R) : Option R := (G_term_Arena_Ext_rec N N).term_Arena_Ext_99d8 x0 x1 x2 x3 x4 k0
abbrev cast_Premise_46c2_l0_Ty : Type 1 := {R : Type} → (T4 → T3 → T9 → T5 → T2 → Int → Int → Int → Int → T2 → Option R) → Nat → Int → Int → T4 → T3 → T9 → T5 → T2 → Int → Int → Int → Int → T2 → T2 → Option R
abbrev cast_Premise_46c2_l1_Ty : Type 1 := {R : Type} → (Int → Int → T4 → T3 → T9 → T5 → T2 → Int → Int → Int → Int → T2 → T2 → Option R) → Nat → Int → Int → Int → Int → Int → Int → T4 → T3 → T9 → T5 → T2 → Int → Int → Int → Int → T2 → T2 → Option R
abbrev cast_Premise_46c2_l2_Ty : Type 1 := {R : Type} → (Int → T4 → T3 → T9 → T5 → T2 → Int → Int → Int → Int → T2 → Option R) → Nat → Int → Int → Int → T4 → T3 → T9 → T5 → T2 → Int → Int → Int → Int → T2 → Option R
abbrev cast_Premise_46c2_Ty : Type 1 := {R : Type} → T5 → T2 → Int → Int → Int → T9 → T4 → T3 → (Int → T4 → T3 → T9 → T2 → Option R) → Option R
noncomputable def cast_Premise_46c2_l0_T0 (N : Nat) (c0 : cast_maker_keep_9e9f_Ty) (c1 : term_Arena_Ext_99d8_Ty) (c2 : cast_Fail_9e58_Ty) (c3 : cast_Fail_Ty) (c4 : cast_maker_two_8916_Ty) (c5 : cast_maker_number_2f2a_Ty) (c6 : cast_maker_variable_9e9f_Ty) (c7 : cast_Size_9e58_Ty) (c8 : cast_Size_Ty) (c9 : class_Caps_66e6_Ty) (c10 : class_Caps_Ty) (c11 : class_May_66e6_Ty) (c12 : class_May_Ty) (w1 : cast_Premise_46c2_l1_Ty) (w2 : cast_Premise_46c2_l2_Ty) {R : Type} (nx : Int → Int → T4 → T3 → T9 → T5 → T2 → Int → Int → Int → Int → T2 → T2 → Option R) (k0 : T4 → T3 → T9 → T5 → T2 → Int → Int → Int → Int → T2 → Option R) (x0 : Int) (x1 : Int) (x2 : T4) (x3 : T3) (x4 : T9) (x5 : T5) (x6 : T2) (x7 : Int) (x8 : Int) (x9 : Int) (x10 : Int) (x11 : T2) (x12 : T2) : Option R :=
  br (decide (x1 < x0))
  (br (inB x1 (List.length x12))
   (br (decide ((Int.toNat x1) < (List.length x12)))
    (c8 x5 x6 x7 x8 x9 x1
     (fun i1462 => c6 (8 : Int) i1462 x10 x4 x2 x3
      (fun i1463 i1464 l1465 l1466 l1467 => c5 (IntKind.wrap .i64 ((List.getD x12 (Int.toNat x1) (0 : Int)) + (1 : Int))) i1464 l1467 l1465 l1466
       (fun i1468 i1469 l1470 l1471 l1472 => c4 (15 : Int) i1463 i1468 i1469 l1472 l1470 l1471
        (fun i1473 i1474 l1475 l1476 l1477 => br (((fits (0 : Nat) (List.length x11) x11) && (decide ((((List.length x11) + (1 : Nat)) * (8 : Nat)) ≤ (70368744177664 : Nat)))) && true)
         (w1
          (fun i1508 i1509 l1510 l1511 l1512 l1513 l1514 i1515 i1516 i1517 i1518 l1519 l1520 => nx i1508 (IntKind.wrap .i64 (i1509 + (1 : Int))) l1510 l1511 l1512 l1513 l1514 i1515 i1516 i1517 i1518 l1519 l1520)
          N i1462 i1463 x0 x1 (List.getD x12 (Int.toNat x1) (0 : Int)) (0 : Int) l1475 l1476 l1477 x5 x6 x7 x8 x9 i1474 ((sub x11 (0 : Nat) (List.length x11)) ++ (i1473 :: ([] : List ((Sh.int IntKind.i64).T)))) x12)
         (none))))))
    (none))
   (none))
  (k0 x2 x3 x4 x5 x6 x7 x8 x9 x10 x11)
noncomputable def cast_Premise_46c2_l1_T0 (N : Nat) (c0 : cast_maker_keep_9e9f_Ty) (c1 : term_Arena_Ext_99d8_Ty) (c2 : cast_Fail_9e58_Ty) (c3 : cast_Fail_Ty) (c4 : cast_maker_two_8916_Ty) (c5 : cast_maker_number_2f2a_Ty) (c6 : cast_maker_variable_9e9f_Ty) (c7 : cast_Size_9e58_Ty) (c8 : cast_Size_Ty) (c9 : class_Caps_66e6_Ty) (c10 : class_Caps_Ty) (c11 : class_May_66e6_Ty) (c12 : class_May_Ty) (w2 : cast_Premise_46c2_l2_Ty) {R : Type} (nx : Int → Int → Int → Int → Int → Int → T4 → T3 → T9 → T5 → T2 → Int → Int → Int → Int → T2 → T2 → Option R) (k0 : Int → Int → T4 → T3 → T9 → T5 → T2 → Int → Int → Int → Int → T2 → T2 → Option R) (x0 : Int) (x1 : Int) (x2 : Int) (x3 : Int) (x4 : Int) (x5 : Int) (x6 : T4) (x7 : T3) (x8 : T9) (x9 : T5) (x10 : T2) (x11 : Int) (x12 : Int) (x13 : Int) (x14 : Int) (x15 : T2) (x16 : T2) : Option R :=
  br (decide (x5 < x4))
  (c5 x5 x14 x8 x6 x7
   (fun i1478 i1479 l1480 l1481 l1482 => c4 (15 : Int) i1478 x1 i1479 l1482 l1480 l1481
    (fun i1483 i1484 l1485 l1486 l1487 => c6 (8 : Int) (IntKind.wrap .i64 ((IntKind.wrap .i64 (x0 + (1 : Int))) + x5)) i1484 l1487 l1485 l1486
     (fun i1488 i1489 l1490 l1491 l1492 => c5 (0 : Int) i1489 l1492 l1490 l1491
      (fun i1493 i1494 l1495 l1496 l1497 => c4 (14 : Int) i1488 i1493 i1494 l1497 l1495 l1496
       (fun i1498 i1499 l1500 l1501 l1502 => c4 (5 : Int) i1483 i1498 i1499 l1502 l1500 l1501
        (fun i1503 i1504 l1505 l1506 l1507 => br (((fits (0 : Nat) (List.length x15) x15) && (decide ((((List.length x15) + (1 : Nat)) * (8 : Nat)) ≤ (70368744177664 : Nat)))) && true)
         (nx x0 x1 x2 x3 x4 (IntKind.wrap .i64 (x5 + (1 : Int))) l1505 l1506 l1507 x9 x10 x11 x12 x13 i1504 ((sub x15 (0 : Nat) (List.length x15)) ++ (i1503 :: ([] : List ((Sh.int IntKind.i64).T)))) x16)
         (none))))))))
  (k0 x2 x3 x6 x7 x8 x9 x10 x11 x12 x13 x14 x15 x16)
noncomputable def cast_Premise_46c2_l2_T0 (N : Nat) (c0 : cast_maker_keep_9e9f_Ty) (c1 : term_Arena_Ext_99d8_Ty) (c2 : cast_Fail_9e58_Ty) (c3 : cast_Fail_Ty) (c4 : cast_maker_two_8916_Ty) (c5 : cast_maker_number_2f2a_Ty) (c6 : cast_maker_variable_9e9f_Ty) (c7 : cast_Size_9e58_Ty) (c8 : cast_Size_Ty) (c9 : class_Caps_66e6_Ty) (c10 : class_Caps_Ty) (c11 : class_May_66e6_Ty) (c12 : class_May_Ty) {R : Type} (nx : Int → Int → Int → T4 → T3 → T9 → T5 → T2 → Int → Int → Int → Int → T2 → Option R) (k0 : Int → T4 → T3 → T9 → T5 → T2 → Int → Int → Int → Int → T2 → Option R) (x0 : Int) (x1 : Int) (x2 : Int) (x3 : T4) (x4 : T3) (x5 : T9) (x6 : T5) (x7 : T2) (x8 : Int) (x9 : Int) (x10 : Int) (x11 : Int) (x12 : T2) : Option R :=
  br (decide (x2 < x1))
  (c3 x6 x7 x8 x9 x10 x2
   (fun i1536 b1537 => c6 (1 : Int) i1536 x11 x5 x3 x4
    (fun i1538 i1539 l1540 l1541 l1542 => br (decide (i1539 = (0 : Int)))
     (c1 (8 : Int) i1538 l1542 l1540 l1541
      (fun i1543 i1544 l1545 l1546 l1547 => c0 i1543 i1544 i1539 l1547 l1545 l1546
       (fun i1548 i1549 l1550 l1551 l1552 => c4 (7 : Int) x0 i1548 i1549 l1550 l1551 l1552
        (fun i1553 i1554 l1555 l1556 l1557 => nx i1553 x1 (IntKind.wrap .i64 (x2 + (1 : Int))) l1555 l1556 l1557 x6 x7 x8 x9 x10 i1554 x12))))
     (nx x0 x1 (IntKind.wrap .i64 (x2 + (1 : Int))) l1540 l1541 l1542 x6 x7 x8 x9 x10 i1539 x12))))
  (k0 x0 x3 x4 x5 x6 x7 x8 x9 x10 x11 x12)
noncomputable def cast_Premise_46c2_l2 (N : Nat) {R : Type} (k0 : Int → T4 → T3 → T9 → T5 → T2 → Int → Int → Int → Int → T2 → Option R) : Nat → Int → Int → Int → T4 → T3 → T9 → T5 → T2 → Int → Int → Int → Int → T2 → Option R
  | 0, _, _, _, _, _, _, _, _, _, _, _, _, _ => none
  | n + 1, x0, x1, x2, x3, x4, x5, x6, x7, x8, x9, x10, x11, x12 => cast_Premise_46c2_l2_T0 N (@cast_maker_keep_9e9f N) (@term_Arena_Ext_99d8 N) (@cast_Fail_9e58 N) (@cast_Fail N) (@cast_maker_two_8916 N) (@cast_maker_number_2f2a N) (@cast_maker_variable_9e9f N) (@cast_Size_9e58 N) (@cast_Size N) (@class_Caps_66e6 N) (@class_Caps N) (@class_May_66e6 N) (@class_May N) (fun x0 x1 x2 x3 x4 x5 x6 x7 x8 x9 x10 x11 x12 => cast_Premise_46c2_l2 N k0 n x0 x1 x2 x3 x4 x5 x6 x7 x8 x9 x10 x11 x12) k0 x0 x1 x2 x3 x4 x5 x6 x7 x8 x9 x10 x11 x12
noncomputable def cast_Premise_46c2_l1 (N : Nat) {R : Type} (k0 : Int → Int → T4 → T3 → T9 → T5 → T2 → Int → Int → Int → Int → T2 → T2 → Option R) : Nat → Int → Int → Int → Int → Int → Int → T4 → T3 → T9 → T5 → T2 → Int → Int → Int → Int → T2 → T2 → Option R
  | 0, _, _, _, _, _, _, _, _, _, _, _, _, _, _, _, _, _ => none
  | n + 1, x0, x1, x2, x3, x4, x5, x6, x7, x8, x9, x10, x11, x12, x13, x14, x15, x16 => cast_Premise_46c2_l1_T0 N (@cast_maker_keep_9e9f N) (@term_Arena_Ext_99d8 N) (@cast_Fail_9e58 N) (@cast_Fail N) (@cast_maker_two_8916 N) (@cast_maker_number_2f2a N) (@cast_maker_variable_9e9f N) (@cast_Size_9e58 N) (@cast_Size N) (@class_Caps_66e6 N) (@class_Caps N) (@class_May_66e6 N) (@class_May N) (@cast_Premise_46c2_l2 N) (fun x0 x1 x2 x3 x4 x5 x6 x7 x8 x9 x10 x11 x12 x13 x14 x15 x16 => cast_Premise_46c2_l1 N k0 n x0 x1 x2 x3 x4 x5 x6 x7 x8 x9 x10 x11 x12 x13 x14 x15 x16) k0 x0 x1 x2 x3 x4 x5 x6 x7 x8 x9 x10 x11 x12 x13 x14 x15 x16
noncomputable def cast_Premise_46c2_l0 (N : Nat) {R : Type} (k0 : T4 → T3 → T9 → T5 → T2 → Int → Int → Int → Int → T2 → Option R) : Nat → Int → Int → T4 → T3 → T9 → T5 → T2 → Int → Int → Int → Int → T2 → T2 → Option R
  | 0, _, _, _, _, _, _, _, _, _, _, _, _, _ => none
  | n + 1, x0, x1, x2, x3, x4, x5, x6, x7, x8, x9, x10, x11, x12 => cast_Premise_46c2_l0_T0 N (@cast_maker_keep_9e9f N) (@term_Arena_Ext_99d8 N) (@cast_Fail_9e58 N) (@cast_Fail N) (@cast_maker_two_8916 N) (@cast_maker_number_2f2a N) (@cast_maker_variable_9e9f N) (@cast_Size_9e58 N) (@cast_Size N) (@class_Caps_66e6 N) (@class_Caps N) (@class_May_66e6 N) (@class_May N) (@cast_Premise_46c2_l1 N) (@cast_Premise_46c2_l2 N) (fun x0 x1 x2 x3 x4 x5 x6 x7 x8 x9 x10 x11 x12 => cast_Premise_46c2_l0 N k0 n x0 x1 x2 x3 x4 x5 x6 x7 x8 x9 x10 x11 x12) k0 x0 x1 x2 x3 x4 x5 x6 x7 x8 x9 x10 x11 x12
noncomputable def cast_Premise_46c2_T (N : Nat) (c0 : cast_maker_keep_9e9f_Ty) (c1 : term_Arena_Ext_99d8_Ty) (c2 : cast_Fail_9e58_Ty) (c3 : cast_Fail_Ty) (c4 : cast_maker_two_8916_Ty) (c5 : cast_maker_number_2f2a_Ty) (c6 : cast_maker_variable_9e9f_Ty) (c7 : cast_Size_9e58_Ty) (c8 : cast_Size_Ty) (c9 : class_Caps_66e6_Ty) (c10 : class_Caps_Ty) (c11 : class_May_66e6_Ty) (c12 : class_May_Ty) (w0 : cast_Premise_46c2_l0_Ty) (w1 : cast_Premise_46c2_l1_Ty) (w2 : cast_Premise_46c2_l2_Ty) {R : Type} (x0 : T5) (x1 : T2) (x2 : Int) (x3 : Int) (x4 : Int) (x5 : T9) (x6 : T4) (x7 : T3) (k0 : Int → T4 → T3 → T9 → T2 → Option R) : Option R :=
  c12 x0 x1 x2 x3 x4
  (fun b1460 => br (!b1460)
   (k0 (11 : Int) x6 x7 x5 ([] : List ((Sh.int IntKind.i64).T)))
   (c10 x0 x1 x2 x3 x4
    (fun l1461 => w0
     (fun l1521 l1522 l1523 l1524 l1525 i1526 i1527 i1528 i1529 l1530 => c5 (0 : Int) i1529 l1523 l1521 l1522
      (fun i1531 i1532 l1533 l1534 l1535 => w2
       (fun i1558 l1559 l1560 l1561 l1562 l1563 i1564 i1565 i1566 i1567 l1568 => c5 (IntKind.wrap .i64 (i1565 + (1 : Int))) i1567 l1561 l1559 l1560
        (fun i1569 i1570 l1571 l1572 l1573 => c4 (15 : Int) i1558 i1569 i1570 l1573 l1571 l1572
         (fun i1574 i1575 l1576 l1577 l1578 => br (((fits (0 : Nat) (List.length l1568) l1568) && (decide ((((List.length l1568) + (1 : Nat)) * (8 : Nat)) ≤ (70368744177664 : Nat)))) && true)
          (br (!(decide (i1575 = (0 : Int))))
           (k0 i1575 l1576 l1577 l1578 ([] : List ((Sh.int IntKind.i64).T)))
           (k0 (0 : Int) l1576 l1577 l1578 ((sub l1568 (0 : Nat) (List.length l1568)) ++ (i1574 :: ([] : List ((Sh.int IntKind.i64).T))))))
          (none))))
       N i1531 i1526 (0 : Int) l1533 l1534 l1535 l1524 l1525 i1526 i1527 i1528 i1532 l1530))
     N (Nat.cast (List.length l1461) : Int) (0 : Int) x6 x7 x5 x0 x1 x2 x3 x4 (0 : Int) ([] : List ((Sh.int IntKind.i64).T)) l1461)))
noncomputable def cast_Premise_46c2 (N : Nat) {R : Type} (x0 : T5) (x1 : T2) (x2 : Int) (x3 : Int) (x4 : Int) (x5 : T9) (x6 : T4) (x7 : T3) (k0 : Int → T4 → T3 → T9 → T2 → Option R) : Option R := cast_Premise_46c2_T N (@cast_maker_keep_9e9f N) (@term_Arena_Ext_99d8 N) (@cast_Fail_9e58 N) (@cast_Fail N) (@cast_maker_two_8916 N) (@cast_maker_number_2f2a N) (@cast_maker_variable_9e9f N) (@cast_Size_9e58 N) (@cast_Size N) (@class_Caps_66e6 N) (@class_Caps N) (@class_May_66e6 N) (@class_May N) (@cast_Premise_46c2_l0 N) (@cast_Premise_46c2_l1 N) (@cast_Premise_46c2_l2 N) x0 x1 x2 x3 x4 x5 x6 x7 k0
abbrev term_Arena_quick_520c_Ty : Type 1 := {R : Type} → Int → T9 → T4 → T3 → T2 → Int → (Int → Bool → T9 → T4 → T3 → T2 → Int → Option R) → Option R
noncomputable def term_Arena_quick_520c_T (N : Nat) (c0 : term_Value_7344_Ty) (c1 : term_Arena_Width_43b4_Ty) (c2 : term_Arena_quick_520c_Ty) {R : Type} (x0 : Int) (x1 : T9) (x2 : T4) (x3 : T3) (x4 : T2) (x5 : Int) (k0 : Int → Bool → T9 → T4 → T3 → T2 → Int → Option R) : Option R :=
  br (decide (x0 = (0 : Int)))
  (k0 (0 : Int) true x1 x2 x3 x4 x5)
  (br (decide ((IntKind.wrap .i64 (x5 - (1 : Int))) < (0 : Int)))
   (k0 (0 : Int) false x1 x2 x3 x4 (IntKind.wrap .i64 (x5 - (1 : Int))))
   (br (inB (IntKind.wrap .i64 (x0 - (1 : Int))) (List.length x1))
    (br (decide ((Int.toNat (IntKind.wrap .i64 (x0 - (1 : Int)))) < (List.length x1)))
     (c2 (List.getD x1 (Int.toNat (IntKind.wrap .i64 (x0 - (1 : Int)))) ((0 : Int) , ((0 : Int) , ((0 : Int) , ((0 : Int) , ((0 : Int) , (0 : Int))))))).2.2.2.1 x1 x2 x3 x4 (IntKind.wrap .i64 (x5 - (1 : Int)))
      (fun i1846 b1847 l1848 l1849 l1850 l1851 i1852 => br (!b1847)
       (k0 (0 : Int) false l1848 l1849 l1850 l1851 i1852)
       (c2 (List.getD x1 (Int.toNat (IntKind.wrap .i64 (x0 - (1 : Int)))) ((0 : Int) , ((0 : Int) , ((0 : Int) , ((0 : Int) , ((0 : Int) , (0 : Int))))))).2.2.2.2.1 l1848 l1849 l1850 l1851 i1852
        (fun i1853 b1854 l1855 l1856 l1857 l1858 i1859 => br (!b1854)
         (k0 (0 : Int) false l1855 l1856 l1857 l1858 i1859)
         (c2 (List.getD x1 (Int.toNat (IntKind.wrap .i64 (x0 - (1 : Int)))) ((0 : Int) , ((0 : Int) , ((0 : Int) , ((0 : Int) , ((0 : Int) , (0 : Int))))))).2.2.2.2.2 l1855 l1856 l1857 l1858 i1859
          (fun i1860 b1861 l1862 l1863 l1864 l1865 i1866 => c1 (List.getD x1 (Int.toNat (IntKind.wrap .i64 (x0 - (1 : Int)))) ((0 : Int) , ((0 : Int) , ((0 : Int) , ((0 : Int) , ((0 : Int) , (0 : Int))))))).2.2.2.1 l1862 l1863 l1864
           (fun i1867 l1868 l1869 l1870 => br (decide ((List.getD x1 (Int.toNat (IntKind.wrap .i64 (x0 - (1 : Int)))) ((0 : Int) , ((0 : Int) , ((0 : Int) , ((0 : Int) , ((0 : Int) , (0 : Int))))))).1 = (List.getD x1 (Int.toNat (IntKind.wrap .i64 (x0 - (1 : Int)))) ((0 : Int) , ((0 : Int) , ((0 : Int) , ((0 : Int) , ((0 : Int) , (0 : Int))))))).1))
            (br (decide ((List.getD x1 (Int.toNat (IntKind.wrap .i64 (x0 - (1 : Int)))) ((0 : Int) , ((0 : Int) , ((0 : Int) , ((0 : Int) , ((0 : Int) , (0 : Int))))))).2.1 = (List.getD x1 (Int.toNat (IntKind.wrap .i64 (x0 - (1 : Int)))) ((0 : Int) , ((0 : Int) , ((0 : Int) , ((0 : Int) , ((0 : Int) , (0 : Int))))))).2.1))
             (br (decide ((List.getD x1 (Int.toNat (IntKind.wrap .i64 (x0 - (1 : Int)))) ((0 : Int) , ((0 : Int) , ((0 : Int) , ((0 : Int) , ((0 : Int) , (0 : Int))))))).2.2.1 = (List.getD x1 (Int.toNat (IntKind.wrap .i64 (x0 - (1 : Int)))) ((0 : Int) , ((0 : Int) , ((0 : Int) , ((0 : Int) , ((0 : Int) , (0 : Int))))))).2.2.1))
              (br (decide ((List.getD x1 (Int.toNat (IntKind.wrap .i64 (x0 - (1 : Int)))) ((0 : Int) , ((0 : Int) , ((0 : Int) , ((0 : Int) , ((0 : Int) , (0 : Int))))))).2.2.2.1 = (List.getD x1 (Int.toNat (IntKind.wrap .i64 (x0 - (1 : Int)))) ((0 : Int) , ((0 : Int) , ((0 : Int) , ((0 : Int) , ((0 : Int) , (0 : Int))))))).2.2.2.1))
               (br (decide ((List.getD x1 (Int.toNat (IntKind.wrap .i64 (x0 - (1 : Int)))) ((0 : Int) , ((0 : Int) , ((0 : Int) , ((0 : Int) , ((0 : Int) , (0 : Int))))))).2.2.2.2.1 = (List.getD x1 (Int.toNat (IntKind.wrap .i64 (x0 - (1 : Int)))) ((0 : Int) , ((0 : Int) , ((0 : Int) , ((0 : Int) , ((0 : Int) , (0 : Int))))))).2.2.2.2.1))
                (br (decide ((List.getD x1 (Int.toNat (IntKind.wrap .i64 (x0 - (1 : Int)))) ((0 : Int) , ((0 : Int) , ((0 : Int) , ((0 : Int) , ((0 : Int) , (0 : Int))))))).2.2.2.2.2 = (List.getD x1 (Int.toNat (IntKind.wrap .i64 (x0 - (1 : Int)))) ((0 : Int) , ((0 : Int) , ((0 : Int) , ((0 : Int) , ((0 : Int) , (0 : Int))))))).2.2.2.2.2))
                 (br (decide (i1846 = i1846))
                  (br (decide (i1853 = i1853))
                   (br (decide (i1860 = i1860))
                    (br (b1861 == b1861)
                     (c0 (List.getD x1 (Int.toNat (IntKind.wrap .i64 (x0 - (1 : Int)))) ((0 : Int) , ((0 : Int) , ((0 : Int) , ((0 : Int) , ((0 : Int) , (0 : Int))))))).1 (List.getD x1 (Int.toNat (IntKind.wrap .i64 (x0 - (1 : Int)))) ((0 : Int) , ((0 : Int) , ((0 : Int) , ((0 : Int) , ((0 : Int) , (0 : Int))))))).2.1 (List.getD x1 (Int.toNat (IntKind.wrap .i64 (x0 - (1 : Int)))) ((0 : Int) , ((0 : Int) , ((0 : Int) , ((0 : Int) , ((0 : Int) , (0 : Int))))))).2.2.1 (List.getD x1 (Int.toNat (IntKind.wrap .i64 (x0 - (1 : Int)))) ((0 : Int) , ((0 : Int) , ((0 : Int) , ((0 : Int) , ((0 : Int) , (0 : Int))))))).2.2.2.1 (List.getD x1 (Int.toNat (IntKind.wrap .i64 (x0 - (1 : Int)))) ((0 : Int) , ((0 : Int) , ((0 : Int) , ((0 : Int) , ((0 : Int) , (0 : Int))))))).2.2.2.2.1 (List.getD x1 (Int.toNat (IntKind.wrap .i64 (x0 - (1 : Int)))) ((0 : Int) , ((0 : Int) , ((0 : Int) , ((0 : Int) , ((0 : Int) , (0 : Int))))))).2.2.2.2.2 i1867 i1846 i1853 i1860 l1865
                      (fun i1875 l1876 => br (b1861 == b1861)
                       (k0 i1875 b1861 l1868 l1869 l1870 l1876 i1866)
                       (none)))
                     (none))
                    (none))
                   (none))
                  (none))
                 (none))
                (none))
               (none))
              (none))
             (none))
            (none))))))))
     (none))
    (none)))
structure G_term_Arena_quick_Rec : Type 1 where
  term_Arena_quick_520c : term_Arena_quick_520c_Ty
noncomputable def G_term_Arena_quick_rec (N : Nat) : Nat → G_term_Arena_quick_Rec
  | 0 => ⟨fun {R} _ _ _ _ _ _ _ => none⟩
  | n + 1 => ⟨fun {R} x0 x1 x2 x3 x4 x5 k0 => term_Arena_quick_520c_T N (@term_Value_7344 N) (@term_Arena_Width_43b4 N) (@G_term_Arena_quick_Rec.term_Arena_quick_520c (G_term_Arena_quick_rec N n)) x0 x1 x2 x3 x4 x5 k0⟩
noncomputable def term_Arena_quick_520c (N : Nat) {R : Type} (x0 : Int) (x1 : T9) (x2 : T4) (x3 : T3) (x4 : T2) (x5 : Int) (k0 : Int → Bool → T9 → T4 → T3 → T2 → Int → Option R) : Option R := (G_term_Arena_quick_rec N N).term_Arena_quick_520c x0 x1 x2 x3 x4 x5 k0
abbrev term_Arena_Eval_0112_l0_Ty : Type 1 := {R : Type} → (Int → T9 → T4 → T3 → T2 → T2 → Option R) → Nat → Int → Int → Int → T9 → T4 → T3 → T2 → T2 → T2 → Option R
abbrev term_Arena_Eval_0112_Ty : Type 1 := {R : Type} → Int → T9 → T4 → T3 → T2 → (Int → T9 → T4 → T3 → T2 → Option R) → Option R
noncomputable def term_Arena_Eval_0112_l0_T0 (N : Nat) (c0 : term_Value_7344_Ty) (c1 : term_Arena_Width_43b4_Ty) (c2 : term_Arena_Under_2549_Ty) (c3 : term_Arena_quick_520c_Ty) (c4 : term_Arena_there_2549_Ty) {R : Type} (nx : Int → Int → Int → T9 → T4 → T3 → T2 → T2 → T2 → Option R) (k0 : Int → T9 → T4 → T3 → T2 → T2 → Option R) (x0 : Int) (x1 : Int) (x2 : Int) (x3 : T9) (x4 : T4) (x5 : T3) (x6 : T2) (x7 : T2) (x8 : T2) : Option R :=
  br (decide (x2 < x1))
  (br (inB x2 (List.length x8))
   (br (decide ((Int.toNat x2) < (List.length x8)))
    (br (inB (IntKind.wrap .i64 ((List.getD x8 (Int.toNat x2) (0 : Int)) - (1 : Int))) (List.length x3))
     (br (decide ((Int.toNat (IntKind.wrap .i64 ((List.getD x8 (Int.toNat x2) (0 : Int)) - (1 : Int)))) < (List.length x3)))
      (br (inB (List.getD x3 (Int.toNat (IntKind.wrap .i64 ((List.getD x8 (Int.toNat x2) (0 : Int)) - (1 : Int)))) ((0 : Int) , ((0 : Int) , ((0 : Int) , ((0 : Int) , ((0 : Int) , (0 : Int))))))).2.2.2.1 (List.length x7))
       (br (decide ((Int.toNat (List.getD x3 (Int.toNat (IntKind.wrap .i64 ((List.getD x8 (Int.toNat x2) (0 : Int)) - (1 : Int)))) ((0 : Int) , ((0 : Int) , ((0 : Int) , ((0 : Int) , ((0 : Int) , (0 : Int))))))).2.2.2.1) < (List.length x7)))
        (br (inB (List.getD x3 (Int.toNat (IntKind.wrap .i64 ((List.getD x8 (Int.toNat x2) (0 : Int)) - (1 : Int)))) ((0 : Int) , ((0 : Int) , ((0 : Int) , ((0 : Int) , ((0 : Int) , (0 : Int))))))).2.2.2.2.1 (List.length x7))
         (br (decide ((Int.toNat (List.getD x3 (Int.toNat (IntKind.wrap .i64 ((List.getD x8 (Int.toNat x2) (0 : Int)) - (1 : Int)))) ((0 : Int) , ((0 : Int) , ((0 : Int) , ((0 : Int) , ((0 : Int) , (0 : Int))))))).2.2.2.2.1) < (List.length x7)))
          (br (inB (List.getD x3 (Int.toNat (IntKind.wrap .i64 ((List.getD x8 (Int.toNat x2) (0 : Int)) - (1 : Int)))) ((0 : Int) , ((0 : Int) , ((0 : Int) , ((0 : Int) , ((0 : Int) , (0 : Int))))))).2.2.2.2.2 (List.length x7))
           (br (decide ((Int.toNat (List.getD x3 (Int.toNat (IntKind.wrap .i64 ((List.getD x8 (Int.toNat x2) (0 : Int)) - (1 : Int)))) ((0 : Int) , ((0 : Int) , ((0 : Int) , ((0 : Int) , ((0 : Int) , (0 : Int))))))).2.2.2.2.2) < (List.length x7)))
            (c1 (List.getD x3 (Int.toNat (IntKind.wrap .i64 ((List.getD x8 (Int.toNat x2) (0 : Int)) - (1 : Int)))) ((0 : Int) , ((0 : Int) , ((0 : Int) , ((0 : Int) , ((0 : Int) , (0 : Int))))))).2.2.2.1 x3 x4 x5
             (fun i1921 l1922 l1923 l1924 => br (decide ((List.getD x8 (Int.toNat x2) (0 : Int)) = (List.getD x8 (Int.toNat x2) (0 : Int))))
              (br (decide ((List.getD x3 (Int.toNat (IntKind.wrap .i64 ((List.getD x8 (Int.toNat x2) (0 : Int)) - (1 : Int)))) ((0 : Int) , ((0 : Int) , ((0 : Int) , ((0 : Int) , ((0 : Int) , (0 : Int))))))).1 = (List.getD x3 (Int.toNat (IntKind.wrap .i64 ((List.getD x8 (Int.toNat x2) (0 : Int)) - (1 : Int)))) ((0 : Int) , ((0 : Int) , ((0 : Int) , ((0 : Int) , ((0 : Int) , (0 : Int))))))).1))
               (br (decide ((List.getD x3 (Int.toNat (IntKind.wrap .i64 ((List.getD x8 (Int.toNat x2) (0 : Int)) - (1 : Int)))) ((0 : Int) , ((0 : Int) , ((0 : Int) , ((0 : Int) , ((0 : Int) , (0 : Int))))))).2.1 = (List.getD x3 (Int.toNat (IntKind.wrap .i64 ((List.getD x8 (Int.toNat x2) (0 : Int)) - (1 : Int)))) ((0 : Int) , ((0 : Int) , ((0 : Int) , ((0 : Int) , ((0 : Int) , (0 : Int))))))).2.1))
                (br (decide ((List.getD x3 (Int.toNat (IntKind.wrap .i64 ((List.getD x8 (Int.toNat x2) (0 : Int)) - (1 : Int)))) ((0 : Int) , ((0 : Int) , ((0 : Int) , ((0 : Int) , ((0 : Int) , (0 : Int))))))).2.2.1 = (List.getD x3 (Int.toNat (IntKind.wrap .i64 ((List.getD x8 (Int.toNat x2) (0 : Int)) - (1 : Int)))) ((0 : Int) , ((0 : Int) , ((0 : Int) , ((0 : Int) , ((0 : Int) , (0 : Int))))))).2.2.1))
                 (br (decide ((List.getD x3 (Int.toNat (IntKind.wrap .i64 ((List.getD x8 (Int.toNat x2) (0 : Int)) - (1 : Int)))) ((0 : Int) , ((0 : Int) , ((0 : Int) , ((0 : Int) , ((0 : Int) , (0 : Int))))))).2.2.2.1 = (List.getD x3 (Int.toNat (IntKind.wrap .i64 ((List.getD x8 (Int.toNat x2) (0 : Int)) - (1 : Int)))) ((0 : Int) , ((0 : Int) , ((0 : Int) , ((0 : Int) , ((0 : Int) , (0 : Int))))))).2.2.2.1))
                  (br (decide ((List.getD x3 (Int.toNat (IntKind.wrap .i64 ((List.getD x8 (Int.toNat x2) (0 : Int)) - (1 : Int)))) ((0 : Int) , ((0 : Int) , ((0 : Int) , ((0 : Int) , ((0 : Int) , (0 : Int))))))).2.2.2.2.1 = (List.getD x3 (Int.toNat (IntKind.wrap .i64 ((List.getD x8 (Int.toNat x2) (0 : Int)) - (1 : Int)))) ((0 : Int) , ((0 : Int) , ((0 : Int) , ((0 : Int) , ((0 : Int) , (0 : Int))))))).2.2.2.2.1))
                   (br (decide ((List.getD x3 (Int.toNat (IntKind.wrap .i64 ((List.getD x8 (Int.toNat x2) (0 : Int)) - (1 : Int)))) ((0 : Int) , ((0 : Int) , ((0 : Int) , ((0 : Int) , ((0 : Int) , (0 : Int))))))).2.2.2.2.2 = (List.getD x3 (Int.toNat (IntKind.wrap .i64 ((List.getD x8 (Int.toNat x2) (0 : Int)) - (1 : Int)))) ((0 : Int) , ((0 : Int) , ((0 : Int) , ((0 : Int) , ((0 : Int) , (0 : Int))))))).2.2.2.2.2))
                    (br (decide ((List.getD x3 (Int.toNat (IntKind.wrap .i64 ((List.getD x8 (Int.toNat x2) (0 : Int)) - (1 : Int)))) ((0 : Int) , ((0 : Int) , ((0 : Int) , ((0 : Int) , ((0 : Int) , (0 : Int))))))).2.2.2.1 = (List.getD x3 (Int.toNat (IntKind.wrap .i64 ((List.getD x8 (Int.toNat x2) (0 : Int)) - (1 : Int)))) ((0 : Int) , ((0 : Int) , ((0 : Int) , ((0 : Int) , ((0 : Int) , (0 : Int))))))).2.2.2.1))
                     (br (inB (List.getD x3 (Int.toNat (IntKind.wrap .i64 ((List.getD x8 (Int.toNat x2) (0 : Int)) - (1 : Int)))) ((0 : Int) , ((0 : Int) , ((0 : Int) , ((0 : Int) , ((0 : Int) , (0 : Int))))))).2.2.2.1 (List.length x7))
                      (br (decide ((List.getD x3 (Int.toNat (IntKind.wrap .i64 ((List.getD x8 (Int.toNat x2) (0 : Int)) - (1 : Int)))) ((0 : Int) , ((0 : Int) , ((0 : Int) , ((0 : Int) , ((0 : Int) , (0 : Int))))))).2.2.2.1 = (List.getD x3 (Int.toNat (IntKind.wrap .i64 ((List.getD x8 (Int.toNat x2) (0 : Int)) - (1 : Int)))) ((0 : Int) , ((0 : Int) , ((0 : Int) , ((0 : Int) , ((0 : Int) , (0 : Int))))))).2.2.2.1))
                       (br (decide ((Int.toNat (List.getD x3 (Int.toNat (IntKind.wrap .i64 ((List.getD x8 (Int.toNat x2) (0 : Int)) - (1 : Int)))) ((0 : Int) , ((0 : Int) , ((0 : Int) , ((0 : Int) , ((0 : Int) , (0 : Int))))))).2.2.2.1) < (List.length x7)))
                        (br (decide ((List.getD x7 (Int.toNat (List.getD x3 (Int.toNat (IntKind.wrap .i64 ((List.getD x8 (Int.toNat x2) (0 : Int)) - (1 : Int)))) ((0 : Int) , ((0 : Int) , ((0 : Int) , ((0 : Int) , ((0 : Int) , (0 : Int))))))).2.2.2.1) (0 : Int)) = (List.getD x7 (Int.toNat (List.getD x3 (Int.toNat (IntKind.wrap .i64 ((List.getD x8 (Int.toNat x2) (0 : Int)) - (1 : Int)))) ((0 : Int) , ((0 : Int) , ((0 : Int) , ((0 : Int) , ((0 : Int) , (0 : Int))))))).2.2.2.1) (0 : Int))))
                         (br (decide ((List.getD x3 (Int.toNat (IntKind.wrap .i64 ((List.getD x8 (Int.toNat x2) (0 : Int)) - (1 : Int)))) ((0 : Int) , ((0 : Int) , ((0 : Int) , ((0 : Int) , ((0 : Int) , (0 : Int))))))).2.2.2.2.1 = (List.getD x3 (Int.toNat (IntKind.wrap .i64 ((List.getD x8 (Int.toNat x2) (0 : Int)) - (1 : Int)))) ((0 : Int) , ((0 : Int) , ((0 : Int) , ((0 : Int) , ((0 : Int) , (0 : Int))))))).2.2.2.2.1))
                          (br (inB (List.getD x3 (Int.toNat (IntKind.wrap .i64 ((List.getD x8 (Int.toNat x2) (0 : Int)) - (1 : Int)))) ((0 : Int) , ((0 : Int) , ((0 : Int) , ((0 : Int) , ((0 : Int) , (0 : Int))))))).2.2.2.2.1 (List.length x7))
                           (br (decide ((List.getD x3 (Int.toNat (IntKind.wrap .i64 ((List.getD x8 (Int.toNat x2) (0 : Int)) - (1 : Int)))) ((0 : Int) , ((0 : Int) , ((0 : Int) , ((0 : Int) , ((0 : Int) , (0 : Int))))))).2.2.2.2.1 = (List.getD x3 (Int.toNat (IntKind.wrap .i64 ((List.getD x8 (Int.toNat x2) (0 : Int)) - (1 : Int)))) ((0 : Int) , ((0 : Int) , ((0 : Int) , ((0 : Int) , ((0 : Int) , (0 : Int))))))).2.2.2.2.1))
                            (br (decide ((Int.toNat (List.getD x3 (Int.toNat (IntKind.wrap .i64 ((List.getD x8 (Int.toNat x2) (0 : Int)) - (1 : Int)))) ((0 : Int) , ((0 : Int) , ((0 : Int) , ((0 : Int) , ((0 : Int) , (0 : Int))))))).2.2.2.2.1) < (List.length x7)))
                             (br (decide ((List.getD x7 (Int.toNat (List.getD x3 (Int.toNat (IntKind.wrap .i64 ((List.getD x8 (Int.toNat x2) (0 : Int)) - (1 : Int)))) ((0 : Int) , ((0 : Int) , ((0 : Int) , ((0 : Int) , ((0 : Int) , (0 : Int))))))).2.2.2.2.1) (0 : Int)) = (List.getD x7 (Int.toNat (List.getD x3 (Int.toNat (IntKind.wrap .i64 ((List.getD x8 (Int.toNat x2) (0 : Int)) - (1 : Int)))) ((0 : Int) , ((0 : Int) , ((0 : Int) , ((0 : Int) , ((0 : Int) , (0 : Int))))))).2.2.2.2.1) (0 : Int))))
                              (br (decide ((List.getD x3 (Int.toNat (IntKind.wrap .i64 ((List.getD x8 (Int.toNat x2) (0 : Int)) - (1 : Int)))) ((0 : Int) , ((0 : Int) , ((0 : Int) , ((0 : Int) , ((0 : Int) , (0 : Int))))))).2.2.2.2.2 = (List.getD x3 (Int.toNat (IntKind.wrap .i64 ((List.getD x8 (Int.toNat x2) (0 : Int)) - (1 : Int)))) ((0 : Int) , ((0 : Int) , ((0 : Int) , ((0 : Int) , ((0 : Int) , (0 : Int))))))).2.2.2.2.2))
                               (br (inB (List.getD x3 (Int.toNat (IntKind.wrap .i64 ((List.getD x8 (Int.toNat x2) (0 : Int)) - (1 : Int)))) ((0 : Int) , ((0 : Int) , ((0 : Int) , ((0 : Int) , ((0 : Int) , (0 : Int))))))).2.2.2.2.2 (List.length x7))
                                (br (decide ((List.getD x3 (Int.toNat (IntKind.wrap .i64 ((List.getD x8 (Int.toNat x2) (0 : Int)) - (1 : Int)))) ((0 : Int) , ((0 : Int) , ((0 : Int) , ((0 : Int) , ((0 : Int) , (0 : Int))))))).2.2.2.2.2 = (List.getD x3 (Int.toNat (IntKind.wrap .i64 ((List.getD x8 (Int.toNat x2) (0 : Int)) - (1 : Int)))) ((0 : Int) , ((0 : Int) , ((0 : Int) , ((0 : Int) , ((0 : Int) , (0 : Int))))))).2.2.2.2.2))
                                 (br (decide ((Int.toNat (List.getD x3 (Int.toNat (IntKind.wrap .i64 ((List.getD x8 (Int.toNat x2) (0 : Int)) - (1 : Int)))) ((0 : Int) , ((0 : Int) , ((0 : Int) , ((0 : Int) , ((0 : Int) , (0 : Int))))))).2.2.2.2.2) < (List.length x7)))
                                  (br (decide ((List.getD x7 (Int.toNat (List.getD x3 (Int.toNat (IntKind.wrap .i64 ((List.getD x8 (Int.toNat x2) (0 : Int)) - (1 : Int)))) ((0 : Int) , ((0 : Int) , ((0 : Int) , ((0 : Int) , ((0 : Int) , (0 : Int))))))).2.2.2.2.2) (0 : Int)) = (List.getD x7 (Int.toNat (List.getD x3 (Int.toNat (IntKind.wrap .i64 ((List.getD x8 (Int.toNat x2) (0 : Int)) - (1 : Int)))) ((0 : Int) , ((0 : Int) , ((0 : Int) , ((0 : Int) , ((0 : Int) , (0 : Int))))))).2.2.2.2.2) (0 : Int))))
                                   (c0 (List.getD x3 (Int.toNat (IntKind.wrap .i64 ((List.getD x8 (Int.toNat x2) (0 : Int)) - (1 : Int)))) ((0 : Int) , ((0 : Int) , ((0 : Int) , ((0 : Int) , ((0 : Int) , (0 : Int))))))).1 (List.getD x3 (Int.toNat (IntKind.wrap .i64 ((List.getD x8 (Int.toNat x2) (0 : Int)) - (1 : Int)))) ((0 : Int) , ((0 : Int) , ((0 : Int) , ((0 : Int) , ((0 : Int) , (0 : Int))))))).2.1 (List.getD x3 (Int.toNat (IntKind.wrap .i64 ((List.getD x8 (Int.toNat x2) (0 : Int)) - (1 : Int)))) ((0 : Int) , ((0 : Int) , ((0 : Int) , ((0 : Int) , ((0 : Int) , (0 : Int))))))).2.2.1 (List.getD x3 (Int.toNat (IntKind.wrap .i64 ((List.getD x8 (Int.toNat x2) (0 : Int)) - (1 : Int)))) ((0 : Int) , ((0 : Int) , ((0 : Int) , ((0 : Int) , ((0 : Int) , (0 : Int))))))).2.2.2.1 (List.getD x3 (Int.toNat (IntKind.wrap .i64 ((List.getD x8 (Int.toNat x2) (0 : Int)) - (1 : Int)))) ((0 : Int) , ((0 : Int) , ((0 : Int) , ((0 : Int) , ((0 : Int) , (0 : Int))))))).2.2.2.2.1 (List.getD x3 (Int.toNat (IntKind.wrap .i64 ((List.getD x8 (Int.toNat x2) (0 : Int)) - (1 : Int)))) ((0 : Int) , ((0 : Int) , ((0 : Int) , ((0 : Int) , ((0 : Int) , (0 : Int))))))).2.2.2.2.2 i1921 (List.getD x7 (Int.toNat (List.getD x3 (Int.toNat (IntKind.wrap .i64 ((List.getD x8 (Int.toNat x2) (0 : Int)) - (1 : Int)))) ((0 : Int) , ((0 : Int) , ((0 : Int) , ((0 : Int) , ((0 : Int) , (0 : Int))))))).2.2.2.1) (0 : Int)) (List.getD x7 (Int.toNat (List.getD x3 (Int.toNat (IntKind.wrap .i64 ((List.getD x8 (Int.toNat x2) (0 : Int)) - (1 : Int)))) ((0 : Int) , ((0 : Int) , ((0 : Int) , ((0 : Int) , ((0 : Int) , (0 : Int))))))).2.2.2.2.1) (0 : Int)) (List.getD x7 (Int.toNat (List.getD x3 (Int.toNat (IntKind.wrap .i64 ((List.getD x8 (Int.toNat x2) (0 : Int)) - (1 : Int)))) ((0 : Int) , ((0 : Int) , ((0 : Int) , ((0 : Int) , ((0 : Int) , (0 : Int))))))).2.2.2.2.2) (0 : Int)) x6
                                    (fun i1925 l1926 => br (decide ((List.getD x8 (Int.toNat x2) (0 : Int)) = (List.getD x8 (Int.toNat x2) (0 : Int))))
                                     (br (inB (List.getD x8 (Int.toNat x2) (0 : Int)) (List.length x7))
                                      (br (decide ((Int.toNat (List.getD x8 (Int.toNat x2) (0 : Int))) < (List.length x7)))
                                       (nx x0 x1 (IntKind.wrap .i64 (x2 + (1 : Int))) l1922 l1923 l1924 l1926 (List.set x7 (Int.toNat (List.getD x8 (Int.toNat x2) (0 : Int))) i1925) x8)
                                       (none))
                                      (none))
                                     (none)))
                                   (none))
                                  (none))
                                 (none))
                                (none))
                               (none))
                              (none))
                             (none))
                            (none))
                           (none))
                          (none))
                         (none))
                        (none))
                       (none))
                      (none))
                     (none))
                    (none))
                   (none))
                  (none))
                 (none))
                (none))
               (none))
              (none)))
            (none))
           (none))
          (none))
         (none))
        (none))
       (none))
      (none))
     (none))
    (none))
   (none))
  (k0 x0 x3 x4 x5 x6 x7)
noncomputable def term_Arena_Eval_0112_l0 (N : Nat) {R : Type} (k0 : Int → T9 → T4 → T3 → T2 → T2 → Option R) : Nat → Int → Int → Int → T9 → T4 → T3 → T2 → T2 → T2 → Option R
  | 0, _, _, _, _, _, _, _, _, _ => none
  | n + 1, x0, x1, x2, x3, x4, x5, x6, x7, x8 => term_Arena_Eval_0112_l0_T0 N (@term_Value_7344 N) (@term_Arena_Width_43b4 N) (@term_Arena_Under_2549 N) (@term_Arena_quick_520c N) (@term_Arena_there_2549 N) (fun x0 x1 x2 x3 x4 x5 x6 x7 x8 => term_Arena_Eval_0112_l0 N k0 n x0 x1 x2 x3 x4 x5 x6 x7 x8) k0 x0 x1 x2 x3 x4 x5 x6 x7 x8
noncomputable def term_Arena_Eval_0112_T (N : Nat) (c0 : term_Value_7344_Ty) (c1 : term_Arena_Width_43b4_Ty) (c2 : term_Arena_Under_2549_Ty) (c3 : term_Arena_quick_520c_Ty) (c4 : term_Arena_there_2549_Ty) (w0 : term_Arena_Eval_0112_l0_Ty) {R : Type} (x0 : Int) (x1 : T9) (x2 : T4) (x3 : T3) (x4 : T2) (k0 : Int → T9 → T4 → T3 → T2 → Option R) : Option R :=
  c4 x1 x2 x3 (x0 :: ([] : List ((Sh.int IntKind.i64).T)))
  (fun b1841 l1842 l1843 l1844 l1845 => br (!b1841)
   (k0 (0 : Int) l1842 l1843 l1844 x4)
   (c3 x0 l1842 l1843 l1844 x4 (64 : Int)
    (fun i1877 b1878 l1879 l1880 l1881 l1882 i1883 => br b1878
     (k0 i1877 l1879 l1880 l1881 l1882)
     (br ((((decide ((0 : Int) ≤ (IntKind.wrap .i64 (x0 + (1 : Int))))) && (decide ((IntKind.wrap .i64 (x0 + (1 : Int))) ≤ (IntKind.wrap .i64 (x0 + (1 : Int)))))) && (decide (((IntKind.wrap .i64 (x0 + (1 : Int))) * (2 : Int)) ≤ ((2 : Int) ^ (46 : Nat))))) && true)
      (c2 l1879 l1880 l1881 (x0 :: ([] : List ((Sh.int IntKind.i64).T)))
       (fun l1916 l1917 l1918 l1919 l1920 => w0
        (fun i1927 l1928 l1929 l1930 l1931 l1932 => br (inB i1927 (List.length l1932))
         (br (decide ((Int.toNat i1927) < (List.length l1932)))
          (k0 (List.getD l1932 (Int.toNat i1927) (0 : Int)) l1928 l1929 l1930 l1931)
          (none))
         (none))
        N x0 (Nat.cast (List.length l1920) : Int) (0 : Int) l1916 l1917 l1918 l1882 (List.replicate (Int.toNat (IntKind.wrap .i64 (x0 + (1 : Int)))) (0 : Int)) l1920))
      (none)))))
noncomputable def term_Arena_Eval_0112 (N : Nat) {R : Type} (x0 : Int) (x1 : T9) (x2 : T4) (x3 : T3) (x4 : T2) (k0 : Int → T9 → T4 → T3 → T2 → Option R) : Option R := term_Arena_Eval_0112_T N (@term_Value_7344 N) (@term_Arena_Width_43b4 N) (@term_Arena_Under_2549 N) (@term_Arena_quick_520c N) (@term_Arena_there_2549 N) (@term_Arena_Eval_0112_l0 N) x0 x1 x2 x3 x4 k0
abbrev law18_CastPremise_l0_Ty : Type 1 := {R : Type} → (T5 → T2 → Int → Int → Int → T9 → T4 → T3 → T2 → T2 → Option R) → Nat → T2 → Int → Int → T5 → T2 → Int → Int → Int → T9 → T4 → T3 → T2 → T2 → Option R
abbrev law18_CastPremise_l1_Ty : Type 1 := {R : Type} → (Bool → Int → Bool → Option R) → (Int → Bool → Option R) → Nat → Int → Bool → Int → T9 → T4 → T3 → T2 → T2 → Option R
abbrev law18_CastPremise_Ty : Type 1 := {R : Type} → T5 → T2 → Int → Int → Int → T2 → (Bool → Option R) → Option R
noncomputable def law18_CastPremise_l0_T0 (N : Nat) (c0 : term_Arena_Eval_0112_Ty) (c1 : term_Arena_Width_43b4_Ty) (c2 : ref17_Input_ed18_Ty) (c3 : cast_Vars_66e6_Ty) (c4 : cast_Vars_Ty) (c5 : ref17_May_Ty) (c6 : cast_Premise_46c2_Ty) (c7 : term_New_Ty) (c8 : law17_Small_Ty) (c9 : law18_awake_Ty) (w1 : law18_CastPremise_l1_Ty) {R : Type} (nx : T2 → Int → Int → T5 → T2 → Int → Int → Int → T9 → T4 → T3 → T2 → T2 → Option R) (k0 : T5 → T2 → Int → Int → Int → T9 → T4 → T3 → T2 → T2 → Option R) (x0 : T2) (x1 : Int) (x2 : Int) (x3 : T5) (x4 : T2) (x5 : Int) (x6 : Int) (x7 : Int) (x8 : T9) (x9 : T4) (x10 : T3) (x11 : T2) (x12 : T2) : Option R :=
  br (decide (x2 < x1))
  (br (decide (x2 < (Nat.cast (List.length x0) : Int)))
   (br (inB x2 (List.length x0))
    (br (inB x2 (List.length x12))
     (br (decide ((Int.toNat x2) < (List.length x12)))
      (br (decide ((IntKind.wrap .i64 (x1 - x5)) ≤ x2))
       (br (inB x2 (List.length x0))
        (br (inB x2 (List.length x12))
         (br (decide ((Int.toNat x2) < (List.length x12)))
          (nx x0 x1 (IntKind.wrap .i64 (x2 + (1 : Int))) x3 x4 x5 x6 x7 x8 x9 x10 x11 (List.set (List.set x12 (Int.toNat x2) (band .u16 (List.getD x0 (Int.toNat x2) (0 : Int)) (255 : Int))) (Int.toNat x2) (band .u16 (List.getD x0 (Int.toNat x2) (0 : Int)) (1 : Int))))
          (none))
         (none))
        (none))
       (nx x0 x1 (IntKind.wrap .i64 (x2 + (1 : Int))) x3 x4 x5 x6 x7 x8 x9 x10 x11 (List.set x12 (Int.toNat x2) (band .u16 (List.getD x0 (Int.toNat x2) (0 : Int)) (255 : Int)))))
      (none))
     (none))
    (none))
   (k0 x3 x4 x5 x6 x7 x8 x9 x10 x11 x12))
  (k0 x3 x4 x5 x6 x7 x8 x9 x10 x11 x12)
noncomputable def law18_CastPremise_l1_T0 (N : Nat) (c0 : term_Arena_Eval_0112_Ty) (c1 : term_Arena_Width_43b4_Ty) (c2 : ref17_Input_ed18_Ty) (c3 : cast_Vars_66e6_Ty) (c4 : cast_Vars_Ty) (c5 : ref17_May_Ty) (c6 : cast_Premise_46c2_Ty) (c7 : term_New_Ty) (c8 : law17_Small_Ty) (c9 : law18_awake_Ty) {R : Type} (nx : Int → Bool → Int → T9 → T4 → T3 → T2 → T2 → Option R) (k0 : Bool → Int → Bool → Option R) (k1 : Int → Bool → Option R) (x0 : Int) (x1 : Bool) (x2 : Int) (x3 : T9) (x4 : T4) (x5 : T3) (x6 : T2) (x7 : T2) : Option R :=
  br (decide (x2 < (Nat.cast (List.length x6) : Int)))
  (br (inB x2 (List.length x6))
   (br (decide ((Int.toNat x2) < (List.length x6)))
    (c1 (List.getD x6 (Int.toNat x2) (0 : Int)) x3 x4 x5
     (fun i1837 l1838 l1839 l1840 => br (!(decide (i1837 = (1 : Int))))
      (k0 false x0 x1)
      (br x1
       (br (inB x2 (List.length x6))
        (br (decide ((Int.toNat x2) < (List.length x6)))
         (c0 (List.getD x6 (Int.toNat x2) (0 : Int)) l1838 l1839 l1840 x7
          (fun i1933 l1934 l1935 l1936 l1937 => nx x0 (decide (i1933 = (1 : Int))) (IntKind.wrap .i64 (x2 + (1 : Int))) l1934 l1935 l1936 x6 l1937))
         (none))
        (none))
       (nx x0 false (IntKind.wrap .i64 (x2 + (1 : Int))) l1838 l1839 l1840 x6 x7))))
    (none))
   (none))
  (k1 x0 x1)
noncomputable def law18_CastPremise_l1 (N : Nat) {R : Type} (k0 : Bool → Int → Bool → Option R) (k1 : Int → Bool → Option R) : Nat → Int → Bool → Int → T9 → T4 → T3 → T2 → T2 → Option R
  | 0, _, _, _, _, _, _, _, _ => none
  | n + 1, x0, x1, x2, x3, x4, x5, x6, x7 => law18_CastPremise_l1_T0 N (@term_Arena_Eval_0112 N) (@term_Arena_Width_43b4 N) (@ref17_Input_ed18 N) (@cast_Vars_66e6 N) (@cast_Vars N) (@ref17_May N) (@cast_Premise_46c2 N) (@term_New N) (@law17_Small N) (@law18_awake N) (fun x0 x1 x2 x3 x4 x5 x6 x7 => law18_CastPremise_l1 N k0 k1 n x0 x1 x2 x3 x4 x5 x6 x7) k0 k1 x0 x1 x2 x3 x4 x5 x6 x7
noncomputable def law18_CastPremise_l0 (N : Nat) {R : Type} (k0 : T5 → T2 → Int → Int → Int → T9 → T4 → T3 → T2 → T2 → Option R) : Nat → T2 → Int → Int → T5 → T2 → Int → Int → Int → T9 → T4 → T3 → T2 → T2 → Option R
  | 0, _, _, _, _, _, _, _, _, _, _, _, _, _ => none
  | n + 1, x0, x1, x2, x3, x4, x5, x6, x7, x8, x9, x10, x11, x12 => law18_CastPremise_l0_T0 N (@term_Arena_Eval_0112 N) (@term_Arena_Width_43b4 N) (@ref17_Input_ed18 N) (@cast_Vars_66e6 N) (@cast_Vars N) (@ref17_May N) (@cast_Premise_46c2 N) (@term_New N) (@law17_Small N) (@law18_awake N) (@law18_CastPremise_l1 N) (fun x0 x1 x2 x3 x4 x5 x6 x7 x8 x9 x10 x11 x12 => law18_CastPremise_l0 N k0 n x0 x1 x2 x3 x4 x5 x6 x7 x8 x9 x10 x11 x12) k0 x0 x1 x2 x3 x4 x5 x6 x7 x8 x9 x10 x11 x12
noncomputable def law18_CastPremise_T (N : Nat) (c0 : term_Arena_Eval_0112_Ty) (c1 : term_Arena_Width_43b4_Ty) (c2 : ref17_Input_ed18_Ty) (c3 : cast_Vars_66e6_Ty) (c4 : cast_Vars_Ty) (c5 : ref17_May_Ty) (c6 : cast_Premise_46c2_Ty) (c7 : term_New_Ty) (c8 : law17_Small_Ty) (c9 : law18_awake_Ty) (w0 : law18_CastPremise_l0_Ty) (w1 : law18_CastPremise_l1_Ty) {R : Type} (x0 : T5) (x1 : T2) (x2 : Int) (x3 : Int) (x4 : Int) (x5 : T2) (k0 : Bool → Option R) : Option R :=
  c9
  (fun b329 => br (!b329)
   (k0 false)
   (c8 x0 x1 x2 x3 x4
    (fun b336 => br (!(!b336))
     (br (decide ((300 : Int) < (Nat.cast (List.length x5) : Int)))
      (k0 true)
      (c7
       (fun l337 l338 l339 => c6 x0 x1 x2 x3 x4 l337 l338 l339
        (fun i1579 l1580 l1581 l1582 l1583 => c5 x0 x1 x2 x3 x4
         (fun b1658 => br (!b1658)
          (br (decide (i1579 = (11 : Int)))
           (k0 (decide ((Nat.cast (List.length l1583) : Int) = (0 : Int))))
           (k0 false))
          (br (!(decide (i1579 = (0 : Int))))
           (k0 false)
           (c4 x0 x1 x2 x3 x4
            (fun i1659 => br ((((decide ((0 : Int) ≤ i1659)) && (decide (i1659 ≤ i1659))) && (decide ((i1659 * (2 : Int)) ≤ ((2 : Int) ^ (46 : Nat))))) && true)
             (w0
              (fun l1660 l1661 i1662 i1663 i1664 l1665 l1666 l1667 l1668 l1669 => c2 l1660 l1661 i1662 i1663 i1664 l1669
               (fun i1832 l1833 l1834 l1835 l1836 => w1
                (fun b1938 i1939 b1940 => k0 b1938)
                (fun i1941 b1942 => k0 (b1942 == (decide (i1941 = (0 : Int)))))
                N i1832 true (0 : Int) l1665 l1666 l1667 l1668 l1833))
              N x5 i1659 (0 : Int) x0 x1 x2 x3 x4 l1582 l1580 l1581 l1583 (List.replicate (Int.toNat i1659) (0 : Int)))
             (none)))))))))
     (k0 true))))
noncomputable def law18_CastPremise (N : Nat) {R : Type} (x0 : T5) (x1 : T2) (x2 : Int) (x3 : Int) (x4 : Int) (x5 : T2) (k0 : Bool → Option R) : Option R := law18_CastPremise_T N (@term_Arena_Eval_0112 N) (@term_Arena_Width_43b4 N) (@ref17_Input_ed18 N) (@cast_Vars_66e6 N) (@cast_Vars N) (@ref17_May N) (@cast_Premise_46c2 N) (@term_New N) (@law17_Small N) (@law18_awake N) (@law18_CastPremise_l0 N) (@law18_CastPremise_l1 N) x0 x1 x2 x3 x4 x5 k0
end Go.Proofs.Ytlfhmecdgfennaa
