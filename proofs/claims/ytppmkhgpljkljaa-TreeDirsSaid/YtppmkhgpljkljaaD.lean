/-
  The functions that the statement reaches, each as a function of Lean (printed by a program of this work).
-/
import Derived.Test.YtppmkhgpljkljaaGx5
set_option linter.unusedVariables false
set_option maxRecDepth 100000
namespace Go.Proofs.Ytppmkhgpljkljaa
open Go.Gx
abbrev stringslite_IndexByte_Ty : Type 1 := {R : Type} → (ByteArray) → (Int) → ((Int) → Option R) → Option R
abbrev stringslite_Index_Ty : Type 1 := {R : Type} → (ByteArray) → (ByteArray) → ((Int) → Option R) → Option R
noncomputable def stringslite_Index_T (N : Nat) (c0 : stringslite_IndexByte_Ty) {R : Type} (x0 : ByteArray) (x1 : ByteArray) (k0 : (Int) → Option R) : Option R :=
  br (!(decide ((Nat.cast (ByteArray.size x1) : Int) = (0 : Int))))
  (br (decide (x1 = x0))
   (k0 (0 : Int))
   (br (decide ((Nat.cast (ByteArray.size x1) : Int) = (1 : Int)))
    (br (inB (0 : Int) (ByteArray.size x1))
     (c0 x0 (bt x1 (0 : Int))
      (fun i5 => k0 i5))
     (none))
    (br (decide ((Nat.cast (ByteArray.size x0) : Int) ≤ (Nat.cast (ByteArray.size x1) : Int)))
     (k0 (-1 : Int))
     (none))))
  (k0 (0 : Int))
noncomputable def stringslite_Index (N : Nat) {R : Type} (x0 : ByteArray) (x1 : ByteArray) (k0 : (Int) → Option R) : Option R := stringslite_Index_T N @stringslite_IndexByte x0 x1 k0
abbrev stringslite_Cut_Ty : Type 1 := {R : Type} → (ByteArray) → (ByteArray) → ((ByteArray) → (ByteArray) → (Bool) → Option R) → Option R
noncomputable def stringslite_Cut_T (N : Nat) (c0 : stringslite_Index_Ty) {R : Type} (x0 : ByteArray) (x1 : ByteArray) (k0 : (ByteArray) → (ByteArray) → (Bool) → Option R) : Option R :=
  c0 x0 x1
  (fun i6 => br (decide ((0 : Int) ≤ i6))
   (br (leB i6 (ByteArray.size x0))
    (br (leB (IntKind.wrap .i64 (i6 + (Nat.cast (ByteArray.size x1) : Int))) (ByteArray.size x0))
     (k0 (ByteArray.extract x0 (0 : Nat) (Int.toNat i6)) (ByteArray.extract x0 (Int.toNat (IntKind.wrap .i64 (i6 + (Nat.cast (ByteArray.size x1) : Int)))) (ByteArray.size x0)) true)
     (none))
    (none))
   (k0 x0 (bs []) false))
noncomputable def stringslite_Cut (N : Nat) {R : Type} (x0 : ByteArray) (x1 : ByteArray) (k0 : (ByteArray) → (ByteArray) → (Bool) → Option R) : Option R := stringslite_Cut_T N (@stringslite_Index N) x0 x1 k0
abbrev strings_Cut_Ty : Type 1 := {R : Type} → (ByteArray) → (ByteArray) → ((ByteArray) → (ByteArray) → (Bool) → Option R) → Option R
noncomputable def strings_Cut_T (N : Nat) (c0 : stringslite_Cut_Ty) {R : Type} (x0 : ByteArray) (x1 : ByteArray) (k0 : (ByteArray) → (ByteArray) → (Bool) → Option R) : Option R :=
  c0 x0 x1
  (fun s7 s8 b9 => k0 s7 s8 b9)
noncomputable def strings_Cut (N : Nat) {R : Type} (x0 : ByteArray) (x1 : ByteArray) (k0 : (ByteArray) → (ByteArray) → (Bool) → Option R) : Option R := strings_Cut_T N (@stringslite_Cut N) x0 x1 k0
abbrev check_letter_Ty : Type 1 := {R : Type} → (Int) → ((Bool) → Option R) → Option R
noncomputable def check_letter_T (N : Nat) {R : Type} (x0 : Int) (k0 : (Bool) → Option R) : Option R :=
  br (decide ((97 : Int) ≤ x0))
  (br (!(decide (x0 ≤ (122 : Int))))
   (br (decide ((48 : Int) ≤ x0))
    (br (!(decide (x0 ≤ (57 : Int))))
     (br (!(decide (x0 = (46 : Int))))
      (k0 (decide (x0 = (95 : Int))))
      (k0 true))
     (k0 true))
    (br (!(decide (x0 = (46 : Int))))
     (k0 (decide (x0 = (95 : Int))))
     (k0 true)))
   (k0 true))
  (br (decide ((48 : Int) ≤ x0))
   (br (!(decide (x0 ≤ (57 : Int))))
    (br (!(decide (x0 = (46 : Int))))
     (k0 (decide (x0 = (95 : Int))))
     (k0 true))
    (k0 true))
   (br (!(decide (x0 = (46 : Int))))
    (k0 (decide (x0 = (95 : Int))))
    (k0 true)))
noncomputable def check_letter (N : Nat) {R : Type} (x0 : Int) (k0 : (Bool) → Option R) : Option R := check_letter_T N x0 k0
abbrev check_part_l0_Ty : Type 1 := {R : Type} → ((ByteArray) → (Bool) → Option R) → ((ByteArray) → Option R) → Nat → (ByteArray) → (Int) → (Int) → Option R
abbrev check_part_Ty : Type 1 := {R : Type} → (ByteArray) → ((Bool) → Option R) → Option R
noncomputable def check_part_l0_T0 (N : Nat) (c0 : check_letter_Ty) {R : Type} (nx : (ByteArray) → (Int) → (Int) → Option R) (k0 : (ByteArray) → (Bool) → Option R) (k1 : (ByteArray) → Option R) (x0 : ByteArray) (x1 : Int) (x2 : Int) : Option R :=
  br (decide (x2 < x1))
  (br (inB x2 (ByteArray.size x0))
   (c0 (bt x0 x2)
    (fun b13 => br (!b13)
     (k0 x0 false)
     (nx x0 x1 (IntKind.wrap .i64 (x2 + (1 : Int))))))
   (none))
  (k1 x0)
noncomputable def check_part_l0 (N : Nat) {R : Type} (k0 : (ByteArray) → (Bool) → Option R) (k1 : (ByteArray) → Option R) : Nat → (ByteArray) → (Int) → (Int) → Option R
  | 0, _, _, _ => none
  | n + 1, x0, x1, x2 => check_part_l0_T0 N (@check_letter N) (fun x0 x1 x2 => check_part_l0 N k0 k1 n x0 x1 x2) k0 k1 x0 x1 x2
noncomputable def check_part_T (N : Nat) (c0 : check_letter_Ty) (w0 : check_part_l0_Ty) {R : Type} (x0 : ByteArray) (k0 : (Bool) → Option R) : Option R :=
  w0
  (fun s14 b15 => k0 b15)
  (fun s16 => br (!(decide (s16 = (bs []))))
   (br (!(decide (s16 = (bs [46]))))
    (k0 (!(decide (s16 = (bs [46, 46])))))
    (k0 false))
   (k0 false))
  N x0 (Nat.cast (ByteArray.size x0) : Int) (0 : Int)
noncomputable def check_part (N : Nat) {R : Type} (x0 : ByteArray) (k0 : (Bool) → Option R) : Option R := check_part_T N (@check_letter N) (@check_part_l0 N) x0 k0
abbrev check_Name_Ty : Type 1 := {R : Type} → (ByteArray) → ((Bool) → Option R) → Option R
noncomputable def check_Name_T (N : Nat) (c0 : check_part_Ty) (c1 : strings_Cut_Ty) {R : Type} (x0 : ByteArray) (k0 : (Bool) → Option R) : Option R :=
  br (decide ((8 : Int) < (Nat.cast (ByteArray.size x0) : Int)))
  (k0 false)
  (c1 x0 (bs [47])
   (fun s10 s11 b12 => c0 s10
    (fun b17 => br b17
     (br (!(!b12))
      (c0 s11
       (fun b18 => k0 b18))
      (k0 true))
     (k0 false))))
noncomputable def check_Name (N : Nat) {R : Type} (x0 : ByteArray) (k0 : (Bool) → Option R) : Option R := check_Name_T N (@check_part N) (@strings_Cut N) x0 k0
abbrev names_May_Ty : Type 1 := {R : Type} → (ByteArray) → ((Bool) → Option R) → Option R
noncomputable def names_May_T (N : Nat) (c0 : check_Name_Ty) {R : Type} (x0 : ByteArray) (k0 : (Bool) → Option R) : Option R :=
  c0 x0
  (fun b19 => k0 b19)
noncomputable def names_May (N : Nat) {R : Type} (x0 : ByteArray) (k0 : (Bool) → Option R) : Option R := names_May_T N (@check_Name N) x0 k0
abbrev names_Split_Ty : Type 1 := {R : Type} → (ByteArray) → ((ByteArray) → (ByteArray) → Option R) → Option R
noncomputable def names_Split_T (N : Nat) (c0 : strings_Cut_Ty) (c1 : names_May_Ty) {R : Type} (x0 : ByteArray) (k0 : (ByteArray) → (ByteArray) → Option R) : Option R :=
  c1 x0
  (fun b20 => br (!b20)
   (k0 (bs []) (bs []))
   (c0 x0 (bs [47])
    (fun s21 s22 b23 => br (!b23)
     (k0 (bs []) s21)
     (k0 s21 s22))))
noncomputable def names_Split (N : Nat) {R : Type} (x0 : ByteArray) (k0 : (ByteArray) → (ByteArray) → Option R) : Option R := names_Split_T N (@strings_Cut N) (@names_May N) x0 k0
abbrev tree_of_Ty : Type 1 := {R : Type} → (ByteArray) → ((ByteArray) → (ByteArray) → Option R) → Option R
noncomputable def tree_of_T (N : Nat) (c0 : names_Split_Ty) {R : Type} (x0 : ByteArray) (k0 : (ByteArray) → (ByteArray) → Option R) : Option R :=
  c0 x0
  (fun s24 s25 => k0 s24 s25)
noncomputable def tree_of (N : Nat) {R : Type} (x0 : ByteArray) (k0 : (ByteArray) → (ByteArray) → Option R) : Option R := tree_of_T N (@names_Split N) x0 k0
abbrev tree_Tree_above_2de7_Ty : Type 1 := {R : Type} → (ByteArray) → (ByteArray) → (Int) → (List (((ByteArray) × (ByteArray)) × ((Int) × (Bool)))) → ((Int) → (Int) → (List (((ByteArray) × (ByteArray)) × ((Int) × (Bool)))) → Option R) → Option R
noncomputable def tree_Tree_above_2de7_T (N : Nat) {R : Type} (x0 : ByteArray) (x1 : ByteArray) (x2 : Int) (x3 : List (((ByteArray) × (ByteArray)) × ((Int) × (Bool)))) (k0 : (Int) → (Int) → (List (((ByteArray) × (ByteArray)) × ((Int) × (Bool)))) → Option R) : Option R :=
  br (decide (x1 = (bs [])))
  (k0 (65282 : Int) x2 x3)
  (br (decide (x0 = (bs [])))
   (k0 (0 : Int) x2 x3)
   (br ((Option.isSome (mfind (.pair .str .str) (.pair (.int .i64) .bool) x3 ((bs []) , x0))) == (Option.isSome (mfind (.pair .str .str) (.pair (.int .i64) .bool) x3 ((bs []) , x0))))
    (br (!(Option.isSome (mfind (.pair .str .str) (.pair (.int .i64) .bool) x3 ((bs []) , x0))))
     (k0 (65282 : Int) x2 x3)
     (br (!(Option.getD (mfind (.pair .str .str) (.pair (.int .i64) .bool) x3 ((bs []) , x0)) ((0 : Int) , false)).2)
      (k0 (65300 : Int) x2 x3)
      (k0 (0 : Int) x2 x3)))
    (none)))
noncomputable def tree_Tree_above_2de7 (N : Nat) {R : Type} (x0 : ByteArray) (x1 : ByteArray) (x2 : Int) (x3 : List (((ByteArray) × (ByteArray)) × ((Int) × (Bool)))) (k0 : (Int) → (Int) → (List (((ByteArray) × (ByteArray)) × ((Int) × (Bool)))) → Option R) : Option R := tree_Tree_above_2de7_T N x0 x1 x2 x3 k0
abbrev tree_Tree_Make_c502_Ty : Type 1 := {R : Type} → (ByteArray) → (Bool) → (Int) → (List (((ByteArray) × (ByteArray)) × ((Int) × (Bool)))) → ((Int) → (Int) → (Int) → (List (((ByteArray) × (ByteArray)) × ((Int) × (Bool)))) → Option R) → Option R
noncomputable def tree_Tree_Make_c502_T (N : Nat) (c0 : tree_Tree_above_2de7_Ty) (c1 : tree_of_Ty) {R : Type} (x0 : ByteArray) (x1 : Bool) (x2 : Int) (x3 : List (((ByteArray) × (ByteArray)) × ((Int) × (Bool)))) (k0 : (Int) → (Int) → (Int) → (List (((ByteArray) × (ByteArray)) × ((Int) × (Bool)))) → Option R) : Option R :=
  c1 x0
  (fun s26 s27 => c0 s26 s27 x2 x3
   (fun i28 i29 l30 => br (!(decide (i28 = (0 : Int))))
    (k0 (-1 : Int) i28 i29 l30)
    (br ((Option.isSome (mfind (.pair .str .str) (.pair (.int .i64) .bool) l30 (s26 , s27))) == (Option.isSome (mfind (.pair .str .str) (.pair (.int .i64) .bool) l30 (s26 , s27))))
     (br (Option.isSome (mfind (.pair .str .str) (.pair (.int .i64) .bool) l30 (s26 , s27)))
      (k0 (-1 : Int) (65297 : Int) i29 l30)
      (br x1
       (br (!(decide (s26 = (bs []))))
        (k0 (-1 : Int) (65302 : Int) i29 l30)
        (br (decide ((8 : Int) ≤ (Nat.cast (List.length l30) : Int)))
         (k0 (-1 : Int) (65308 : Int) i29 l30)
         (k0 (IntKind.wrap .i64 ((IntKind.wrap .i64 (i29 + (1 : Int))) - (1 : Int))) (0 : Int) (IntKind.wrap .i64 (i29 + (1 : Int))) (mput (.pair .str .str) (.pair (.int .i64) .bool) l30 (s26 , s27) (i29 , x1)))))
       (br (decide ((8 : Int) ≤ (Nat.cast (List.length l30) : Int)))
        (k0 (-1 : Int) (65308 : Int) i29 l30)
        (k0 (IntKind.wrap .i64 ((IntKind.wrap .i64 (i29 + (1 : Int))) - (1 : Int))) (0 : Int) (IntKind.wrap .i64 (i29 + (1 : Int))) (mput (.pair .str .str) (.pair (.int .i64) .bool) l30 (s26 , s27) (i29 , x1))))))
     (none))))
noncomputable def tree_Tree_Make_c502 (N : Nat) {R : Type} (x0 : ByteArray) (x1 : Bool) (x2 : Int) (x3 : List (((ByteArray) × (ByteArray)) × ((Int) × (Bool)))) (k0 : (Int) → (Int) → (Int) → (List (((ByteArray) × (ByteArray)) × ((Int) × (Bool)))) → Option R) : Option R := tree_Tree_Make_c502_T N (@tree_Tree_above_2de7 N) (@tree_of N) x0 x1 x2 x3 k0
abbrev tree_New_1c12_l0_Ty : Type 1 := {R : Type} → ((Int) → (List (((ByteArray) × (ByteArray)) × ((Int) × (Bool)))) → Option R) → Nat → (Int) → (Int) → (Int) → (List (((ByteArray) × (ByteArray)) × ((Int) × (Bool)))) → Option R
abbrev tree_New_1c12_Ty : Type 1 := {R : Type} → ((Int) → (Int) → (List (((ByteArray) × (ByteArray)) × ((Int) × (Bool)))) → Option R) → Option R
noncomputable def tree_New_1c12_l0_T0 (N : Nat) (c0 : tree_Tree_Make_c502_Ty) (c1 : names_May_Ty) {R : Type} (nx : (Int) → (Int) → (Int) → (List (((ByteArray) × (ByteArray)) × ((Int) × (Bool)))) → Option R) (k0 : (Int) → (List (((ByteArray) × (ByteArray)) × ((Int) × (Bool)))) → Option R) (x0 : Int) (x1 : Int) (x2 : Int) (x3 : List (((ByteArray) × (ByteArray)) × ((Int) × (Bool)))) : Option R :=
  br (decide (x1 < x0))
  (none)
  (k0 x2 x3)
noncomputable def tree_New_1c12_l0 (N : Nat) {R : Type} (k0 : (Int) → (List (((ByteArray) × (ByteArray)) × ((Int) × (Bool)))) → Option R) : Nat → (Int) → (Int) → (Int) → (List (((ByteArray) × (ByteArray)) × ((Int) × (Bool)))) → Option R
  | 0, _, _, _, _ => none
  | n + 1, x0, x1, x2, x3 => tree_New_1c12_l0_T0 N (@tree_Tree_Make_c502 N) (@names_May N) (fun x0 x1 x2 x3 => tree_New_1c12_l0 N k0 n x0 x1 x2 x3) k0 x0 x1 x2 x3
noncomputable def tree_New_1c12_T (N : Nat) (c0 : tree_Tree_Make_c502_Ty) (c1 : names_May_Ty) (w0 : tree_New_1c12_l0_Ty) {R : Type} (k0 : (Int) → (Int) → (List (((ByteArray) × (ByteArray)) × ((Int) × (Bool)))) → Option R) : Option R :=
  w0
  (fun i0 l1 => k0 (0 : Int) i0 l1)
  N (0 : Int) (0 : Int) (0 : Int) ([] : List (((Sh.str.pair Sh.str).T) × (((Sh.int IntKind.i64).pair Sh.bool).T)))
noncomputable def tree_New_1c12 (N : Nat) {R : Type} (k0 : (Int) → (Int) → (List (((ByteArray) × (ByteArray)) × ((Int) × (Bool)))) → Option R) : Option R := tree_New_1c12_T N (@tree_Tree_Make_c502 N) (@names_May N) (@tree_New_1c12_l0 N) k0
abbrev tree_New_644a_l0_Ty : Type 1 := {R : Type} → ((Int) → (List ((ByteArray) × ((Bool) × (Int)))) → (Int) → (List (((ByteArray) × (ByteArray)) × ((Int) × (Bool)))) → Option R) → ((List ((ByteArray) × ((Bool) × (Int)))) → (Int) → (List (((ByteArray) × (ByteArray)) × ((Int) × (Bool)))) → Option R) → Nat → (Int) → (Int) → (List ((ByteArray) × ((Bool) × (Int)))) → (Int) → (List (((ByteArray) × (ByteArray)) × ((Int) × (Bool)))) → Option R
abbrev tree_New_644a_Ty : Type 1 := {R : Type} → (List ((ByteArray) × ((Bool) × (Int)))) → ((Int) → (List ((ByteArray) × ((Bool) × (Int)))) → Option R) → ((Int) → (List ((ByteArray) × ((Bool) × (Int)))) → (Int) → (List (((ByteArray) × (ByteArray)) × ((Int) × (Bool)))) → Option R) → Option R
noncomputable def tree_New_644a_l0_T0 (N : Nat) (c0 : tree_Tree_Make_c502_Ty) (c1 : names_May_Ty) {R : Type} (nx : (Int) → (Int) → (List ((ByteArray) × ((Bool) × (Int)))) → (Int) → (List (((ByteArray) × (ByteArray)) × ((Int) × (Bool)))) → Option R) (k0 : (Int) → (List ((ByteArray) × ((Bool) × (Int)))) → (Int) → (List (((ByteArray) × (ByteArray)) × ((Int) × (Bool)))) → Option R) (k1 : (List ((ByteArray) × ((Bool) × (Int)))) → (Int) → (List (((ByteArray) × (ByteArray)) × ((Int) × (Bool)))) → Option R) (x0 : Int) (x1 : Int) (x2 : List ((ByteArray) × ((Bool) × (Int)))) (x3 : Int) (x4 : List (((ByteArray) × (ByteArray)) × ((Int) × (Bool)))) : Option R :=
  br (decide (x1 < x0))
  (br (inB x1 (List.length x2))
   (br (decide ((Int.toNat x1) < (List.length x2)))
    (c1 (List.getD x2 (Int.toNat x1) ((bs []) , (false , (0 : Int)))).1
     (fun b59 => br (!b59)
      (k0 (11 : Int) x2 x3 x4)
      (c0 (List.getD x2 (Int.toNat x1) ((bs []) , (false , (0 : Int)))).1 (List.getD x2 (Int.toNat x1) ((bs []) , (false , (0 : Int)))).2.1 x3 x4
       (fun i60 i61 i62 l63 => br (!(decide (i61 = (0 : Int))))
        (k0 (11 : Int) x2 i62 l63)
        (nx x0 (IntKind.wrap .i64 (x1 + (1 : Int))) x2 i62 l63)))))
    (none))
   (none))
  (k1 x2 x3 x4)
noncomputable def tree_New_644a_l0 (N : Nat) {R : Type} (k0 : (Int) → (List ((ByteArray) × ((Bool) × (Int)))) → (Int) → (List (((ByteArray) × (ByteArray)) × ((Int) × (Bool)))) → Option R) (k1 : (List ((ByteArray) × ((Bool) × (Int)))) → (Int) → (List (((ByteArray) × (ByteArray)) × ((Int) × (Bool)))) → Option R) : Nat → (Int) → (Int) → (List ((ByteArray) × ((Bool) × (Int)))) → (Int) → (List (((ByteArray) × (ByteArray)) × ((Int) × (Bool)))) → Option R
  | 0, _, _, _, _, _ => none
  | n + 1, x0, x1, x2, x3, x4 => tree_New_644a_l0_T0 N (@tree_Tree_Make_c502 N) (@names_May N) (fun x0 x1 x2 x3 x4 => tree_New_644a_l0 N k0 k1 n x0 x1 x2 x3 x4) k0 k1 x0 x1 x2 x3 x4
noncomputable def tree_New_644a_T (N : Nat) (c0 : tree_Tree_Make_c502_Ty) (c1 : names_May_Ty) (w0 : tree_New_644a_l0_Ty) {R : Type} (x0 : List ((ByteArray) × ((Bool) × (Int)))) (k0 : (Int) → (List ((ByteArray) × ((Bool) × (Int)))) → Option R) (k1 : (Int) → (List ((ByteArray) × ((Bool) × (Int)))) → (Int) → (List (((ByteArray) × (ByteArray)) × ((Int) × (Bool)))) → Option R) : Option R :=
  br (decide ((8 : Int) < (Nat.cast (List.length x0) : Int)))
  (k0 (11 : Int) x0)
  (w0
   (fun i64 l65 i66 l67 => k0 i64 l65)
   (fun l68 i69 l70 => k1 (0 : Int) l68 i69 l70)
   N (Nat.cast (List.length x0) : Int) (0 : Int) x0 (0 : Int) ([] : List (((Sh.str.pair Sh.str).T) × (((Sh.int IntKind.i64).pair Sh.bool).T))))
noncomputable def tree_New_644a (N : Nat) {R : Type} (x0 : List ((ByteArray) × ((Bool) × (Int)))) (k0 : (Int) → (List ((ByteArray) × ((Bool) × (Int)))) → Option R) (k1 : (Int) → (List ((ByteArray) × ((Bool) × (Int)))) → (Int) → (List (((ByteArray) × (ByteArray)) × ((Int) × (Bool)))) → Option R) : Option R := tree_New_644a_T N (@tree_Tree_Make_c502 N) (@names_May N) (@tree_New_644a_l0 N) x0 k0 k1
abbrev tree_Tree_get_fb98_Ty : Type 1 := {R : Type} → (ByteArray) → (Int) → (List (((ByteArray) × (ByteArray)) × ((Int) × (Bool)))) → ((Int) → (Bool) → (Int) → (Int) → (List (((ByteArray) × (ByteArray)) × ((Int) × (Bool)))) → Option R) → Option R
noncomputable def tree_Tree_get_fb98_T (N : Nat) (c0 : tree_Tree_above_2de7_Ty) (c1 : tree_of_Ty) {R : Type} (x0 : ByteArray) (x1 : Int) (x2 : List (((ByteArray) × (ByteArray)) × ((Int) × (Bool)))) (k0 : (Int) → (Bool) → (Int) → (Int) → (List (((ByteArray) × (ByteArray)) × ((Int) × (Bool)))) → Option R) : Option R :=
  c1 x0
  (fun s35 s36 => c0 s35 s36 x1 x2
   (fun i37 i38 l39 => br (!(decide (i37 = (0 : Int))))
    (k0 (0 : Int) false i37 i38 l39)
    (br ((Option.isSome (mfind (.pair .str .str) (.pair (.int .i64) .bool) l39 (s35 , s36))) == (Option.isSome (mfind (.pair .str .str) (.pair (.int .i64) .bool) l39 (s35 , s36))))
     (br (!(Option.isSome (mfind (.pair .str .str) (.pair (.int .i64) .bool) l39 (s35 , s36))))
      (k0 (0 : Int) false (65282 : Int) i38 l39)
      (k0 (Option.getD (mfind (.pair .str .str) (.pair (.int .i64) .bool) l39 (s35 , s36)) ((0 : Int) , false)).1 (Option.getD (mfind (.pair .str .str) (.pair (.int .i64) .bool) l39 (s35 , s36)) ((0 : Int) , false)).2 (0 : Int) i38 l39))
     (none))))
noncomputable def tree_Tree_get_fb98 (N : Nat) {R : Type} (x0 : ByteArray) (x1 : Int) (x2 : List (((ByteArray) × (ByteArray)) × ((Int) × (Bool)))) (k0 : (Int) → (Bool) → (Int) → (Int) → (List (((ByteArray) × (ByteArray)) × ((Int) × (Bool)))) → Option R) : Option R := tree_Tree_get_fb98_T N (@tree_Tree_above_2de7 N) (@tree_of N) x0 x1 x2 k0
abbrev tree_Tree_Find_fb98_Ty : Type 1 := {R : Type} → (ByteArray) → (Int) → (List (((ByteArray) × (ByteArray)) × ((Int) × (Bool)))) → ((Int) → (Bool) → (Int) → (Int) → (List (((ByteArray) × (ByteArray)) × ((Int) × (Bool)))) → Option R) → Option R
noncomputable def tree_Tree_Find_fb98_T (N : Nat) (c0 : tree_Tree_get_fb98_Ty) {R : Type} (x0 : ByteArray) (x1 : Int) (x2 : List (((ByteArray) × (ByteArray)) × ((Int) × (Bool)))) (k0 : (Int) → (Bool) → (Int) → (Int) → (List (((ByteArray) × (ByteArray)) × ((Int) × (Bool)))) → Option R) : Option R :=
  c0 x0 x1 x2
  (fun i40 b41 i42 i43 l44 => br (!(decide (i42 = (0 : Int))))
   (k0 (-1 : Int) false i42 i43 l44)
   (k0 i40 b41 (0 : Int) i43 l44))
noncomputable def tree_Tree_Find_fb98 (N : Nat) {R : Type} (x0 : ByteArray) (x1 : Int) (x2 : List (((ByteArray) × (ByteArray)) × ((Int) × (Bool)))) (k0 : (Int) → (Bool) → (Int) → (Int) → (List (((ByteArray) × (ByteArray)) × ((Int) × (Bool)))) → Option R) : Option R := tree_Tree_Find_fb98_T N (@tree_Tree_get_fb98 N) x0 x1 x2 k0
abbrev tree_Tree_Len_a28d_Ty : Type 1 := {R : Type} → (Int) → (List (((ByteArray) × (ByteArray)) × ((Int) × (Bool)))) → ((Int) → (Int) → (List (((ByteArray) × (ByteArray)) × ((Int) × (Bool)))) → Option R) → Option R
noncomputable def tree_Tree_Len_a28d_T (N : Nat) {R : Type} (x0 : Int) (x1 : List (((ByteArray) × (ByteArray)) × ((Int) × (Bool)))) (k0 : (Int) → (Int) → (List (((ByteArray) × (ByteArray)) × ((Int) × (Bool)))) → Option R) : Option R :=
  k0 (Nat.cast (List.length x1) : Int) x0 x1
noncomputable def tree_Tree_Len_a28d (N : Nat) {R : Type} (x0 : Int) (x1 : List (((ByteArray) × (ByteArray)) × ((Int) × (Bool)))) (k0 : (Int) → (Int) → (List (((ByteArray) × (ByteArray)) × ((Int) × (Bool)))) → Option R) : Option R := tree_Tree_Len_a28d_T N x0 x1 k0
abbrev law13_awake_Ty : Type 1 := {R : Type} → ((Bool) → Option R) → Option R
noncomputable def law13_awake_T (N : Nat) (c0 : tree_Tree_Len_a28d_Ty) (c1 : tree_Tree_Find_fb98_Ty) (c2 : tree_Tree_Make_c502_Ty) (c3 : tree_New_1c12_Ty) (c4 : tree_New_644a_Ty) {R : Type} (k0 : (Bool) → Option R) : Option R :=
  c3
  (fun i2 i3 l4 => br (!(!(decide (i2 = (0 : Int)))))
   (c2 (bs [97]) false i3 l4
    (fun i31 i32 i33 l34 => c1 (bs [97]) i33 l34
     (fun i45 b46 i47 i48 l49 => c1 (bs [98]) i48 l49
      (fun i50 b51 i52 i53 l54 => br (decide (i32 = (0 : Int)))
       (br (decide (i31 = (0 : Int)))
        (br (decide (i47 = (0 : Int)))
         (br (decide (i45 = (0 : Int)))
          (br (!b46)
           (br (decide (i52 = (65282 : Int)))
            (c0 i53 l54
             (fun i55 i56 l57 => k0 (decide (i55 = (1 : Int)))))
            (k0 false))
           (k0 false))
          (k0 false))
         (k0 false))
        (k0 false))
       (k0 false)))))
   (k0 false))
noncomputable def law13_awake (N : Nat) {R : Type} (k0 : (Bool) → Option R) : Option R := law13_awake_T N (@tree_Tree_Len_a28d N) (@tree_Tree_Find_fb98 N) (@tree_Tree_Make_c502 N) (@tree_New_1c12 N) (@tree_New_644a N) k0
abbrev tree_Tree_many_fb98_Ty : Type 1 := {R : Type} → (ByteArray) → (Int) → (List (((ByteArray) × (ByteArray)) × ((Int) × (Bool)))) → ((Int) → (Int) → (List (((ByteArray) × (ByteArray)) × ((Int) × (Bool)))) → Option R) → Option R
noncomputable def tree_Tree_many_fb98 {R : Type} (x0 : ByteArray) (x1 : Int) (x2 : List (((ByteArray) × (ByteArray)) × ((Int) × (Bool)))) (k0 : (Int) → (Int) → (List (((ByteArray) × (ByteArray)) × ((Int) × (Bool)))) → Option R) : Option R := k0 (mcount x0 x2) x1 x2
abbrev tree_Tree_Many_fb98_Ty : Type 1 := {R : Type} → (ByteArray) → (Int) → (List (((ByteArray) × (ByteArray)) × ((Int) × (Bool)))) → ((Int) → (Int) → (List (((ByteArray) × (ByteArray)) × ((Int) × (Bool)))) → Option R) → Option R
noncomputable def tree_Tree_Many_fb98_T (N : Nat) (c0 : tree_Tree_many_fb98_Ty) (c1 : tree_Tree_get_fb98_Ty) {R : Type} (x0 : ByteArray) (x1 : Int) (x2 : List (((ByteArray) × (ByteArray)) × ((Int) × (Bool)))) (k0 : (Int) → (Int) → (List (((ByteArray) × (ByteArray)) × ((Int) × (Bool)))) → Option R) : Option R :=
  c1 x0 x1 x2
  (fun i97 b98 i99 i100 l101 => br (!(decide (i99 = (0 : Int))))
   (k0 i99 i100 l101)
   (br (!b98)
    (k0 (65300 : Int) i100 l101)
    (c0 x0 i100 l101
     (fun i102 i103 l104 => k0 (IntKind.wrap .u16 i102) i103 l104))))
noncomputable def tree_Tree_Many_fb98 (N : Nat) {R : Type} (x0 : ByteArray) (x1 : Int) (x2 : List (((ByteArray) × (ByteArray)) × ((Int) × (Bool)))) (k0 : (Int) → (Int) → (List (((ByteArray) × (ByteArray)) × ((Int) × (Bool)))) → Option R) : Option R := tree_Tree_Many_fb98_T N @tree_Tree_many_fb98 (@tree_Tree_get_fb98 N) x0 x1 x2 k0
abbrev tree_Tree_Drop_c502_Ty : Type 1 := {R : Type} → (ByteArray) → (Bool) → (Int) → (List (((ByteArray) × (ByteArray)) × ((Int) × (Bool)))) → ((Int) → (Int) → (List (((ByteArray) × (ByteArray)) × ((Int) × (Bool)))) → Option R) → Option R
noncomputable def tree_Tree_Drop_c502_T (N : Nat) (c0 : tree_of_Ty) (c1 : tree_Tree_many_fb98_Ty) (c2 : tree_Tree_get_fb98_Ty) {R : Type} (x0 : ByteArray) (x1 : Bool) (x2 : Int) (x3 : List (((ByteArray) × (ByteArray)) × ((Int) × (Bool)))) (k0 : (Int) → (Int) → (List (((ByteArray) × (ByteArray)) × ((Int) × (Bool)))) → Option R) : Option R :=
  c2 x0 x2 x3
  (fun i108 b109 i110 i111 l112 => br (!(decide (i110 = (0 : Int))))
   (k0 i110 i111 l112)
   (br (!x1)
    (br b109
     (k0 (65301 : Int) i111 l112)
     (br x1
      (br (!b109)
       (k0 (65300 : Int) i111 l112)
       (br x1
        (c1 x0 i111 l112
         (fun i113 i114 l115 => br (decide ((0 : Int) < i113))
          (k0 (65319 : Int) i114 l115)
          (c0 x0
           (fun s116 s117 => k0 (0 : Int) i114 (mdel (.pair .str .str) (.pair (.int .i64) .bool) l115 (s116 , s117))))))
        (c0 x0
         (fun s118 s119 => k0 (0 : Int) i111 (mdel (.pair .str .str) (.pair (.int .i64) .bool) l112 (s118 , s119))))))
      (br x1
       (c1 x0 i111 l112
        (fun i120 i121 l122 => br (decide ((0 : Int) < i120))
         (k0 (65319 : Int) i121 l122)
         (c0 x0
          (fun s123 s124 => k0 (0 : Int) i121 (mdel (.pair .str .str) (.pair (.int .i64) .bool) l122 (s123 , s124))))))
       (c0 x0
        (fun s125 s126 => k0 (0 : Int) i111 (mdel (.pair .str .str) (.pair (.int .i64) .bool) l112 (s125 , s126)))))))
    (br x1
     (br (!b109)
      (k0 (65300 : Int) i111 l112)
      (br x1
       (c1 x0 i111 l112
        (fun i127 i128 l129 => br (decide ((0 : Int) < i127))
         (k0 (65319 : Int) i128 l129)
         (c0 x0
          (fun s130 s131 => k0 (0 : Int) i128 (mdel (.pair .str .str) (.pair (.int .i64) .bool) l129 (s130 , s131))))))
       (c0 x0
        (fun s132 s133 => k0 (0 : Int) i111 (mdel (.pair .str .str) (.pair (.int .i64) .bool) l112 (s132 , s133))))))
     (br x1
      (c1 x0 i111 l112
       (fun i134 i135 l136 => br (decide ((0 : Int) < i134))
        (k0 (65319 : Int) i135 l136)
        (c0 x0
         (fun s137 s138 => k0 (0 : Int) i135 (mdel (.pair .str .str) (.pair (.int .i64) .bool) l136 (s137 , s138))))))
      (c0 x0
       (fun s139 s140 => k0 (0 : Int) i111 (mdel (.pair .str .str) (.pair (.int .i64) .bool) l112 (s139 , s140))))))))
noncomputable def tree_Tree_Drop_c502 (N : Nat) {R : Type} (x0 : ByteArray) (x1 : Bool) (x2 : Int) (x3 : List (((ByteArray) × (ByteArray)) × ((Int) × (Bool)))) (k0 : (Int) → (Int) → (List (((ByteArray) × (ByteArray)) × ((Int) × (Bool)))) → Option R) : Option R := tree_Tree_Drop_c502_T N (@tree_of N) @tree_Tree_many_fb98 (@tree_Tree_get_fb98 N) x0 x1 x2 x3 k0
abbrev law13_TreeDirs_l0_Ty : Type 1 := {R : Type} → ((Bool) → Option R) → (Option R) → Nat → (List (Int)) → (Int) → (Int) → (List (((ByteArray) × (ByteArray)) × ((Int) × (Bool)))) → (List (Bool)) → Option R
abbrev law13_TreeDirs_l1_Ty : Type 1 := {R : Type} → ((List (Int)) → (Int) → (Int) → (Int) → (ByteArray) → (Int) → (Int) → (List (((ByteArray) × (ByteArray)) × ((Int) × (Bool)))) → (List (Bool)) → Option R) → Nat → (List (Int)) → (Int) → (Int) → (Int) → (ByteArray) → (Int) → (Int) → (Int) → (List (((ByteArray) × (ByteArray)) × ((Int) × (Bool)))) → (List (Bool)) → Option R
abbrev law13_TreeDirs_l2_Ty : Type 1 := {R : Type} → ((List (Int)) → (Bool) → (Int) → (Int) → (List (((ByteArray) × (ByteArray)) × ((Int) × (Bool)))) → (List (Bool)) → Option R) → ((List (Int)) → (Int) → (Int) → (List (((ByteArray) × (ByteArray)) × ((Int) × (Bool)))) → (List (Bool)) → Option R) → Nat → (List (Int)) → (Int) → (Int) → (Int) → (List (((ByteArray) × (ByteArray)) × ((Int) × (Bool)))) → (List (Bool)) → Option R
abbrev law13_TreeDirs_l3_Ty : Type 1 := {R : Type} → ((List (Int)) → (Int) → (Int) → (Int) → (Int) → (List (((ByteArray) × (ByteArray)) × ((Int) × (Bool)))) → (List (Bool)) → Option R) → Nat → (List (Int)) → (Int) → (Int) → (Int) → (Int) → (Int) → (List (((ByteArray) × (ByteArray)) × ((Int) × (Bool)))) → (List (Bool)) → Option R
abbrev law13_TreeDirs_Ty : Type 1 := {R : Type} → (List (Int)) → ((Bool) → Option R) → Option R
noncomputable def law13_TreeDirs_l0_T0 (N : Nat) (c0 : tree_Tree_Drop_c502_Ty) (c1 : tree_Tree_Many_fb98_Ty) (c2 : tree_Tree_Make_c502_Ty) (c3 : tree_New_1c12_Ty) (c4 : tree_New_644a_Ty) (c5 : law13_awake_Ty) (w1 : law13_TreeDirs_l1_Ty) (w2 : law13_TreeDirs_l2_Ty) (w3 : law13_TreeDirs_l3_Ty) {R : Type} (nx : (List (Int)) → (Int) → (Int) → (List (((ByteArray) × (ByteArray)) × ((Int) × (Bool)))) → (List (Bool)) → Option R) (k0 : (Bool) → Option R) (k1 : Option R) (x0 : List (Int)) (x1 : Int) (x2 : Int) (x3 : List (((ByteArray) × (ByteArray)) × ((Int) × (Bool)))) (x4 : List (Bool)) : Option R :=
  br (decide (x1 < (Nat.cast (List.length x0) : Int)))
  (br (inB x1 (List.length x0))
   (br (inB x1 (List.length x0))
    (w1
     (fun l77 i78 i79 i80 s81 i82 i83 l84 l85 => br (inB i78 (List.length l77))
      (br (decide ((band .u8 (List.getD l77 (Int.toNat i78) (0 : Int)) (3 : Int)) < (2 : Int)))
       (c2 s81 false i83 l84
        (fun i86 i87 i88 l89 => br (inB i79 (2 : Nat))
         (br ((inB i80 (4 : Nat)) && (decide ((0 : Int) ≤ i79)))
          (br (decide ((Int.toNat ((i79 * (4 : Int)) + i80)) < (8 : Nat)))
           (br (List.getD l85 (Int.toNat ((i79 * (4 : Int)) + i80)) false)
            (br (!(!(decide (i87 = (65297 : Int)))))
             (br (inB i79 (2 : Nat))
              (br ((inB i80 (4 : Nat)) && (decide ((0 : Int) ≤ i79)))
               (br (decide ((Int.toNat ((i79 * (4 : Int)) + i80)) < (8 : Nat)))
                (br (!(List.getD l85 (Int.toNat ((i79 * (4 : Int)) + i80)) false))
                 (br (decide ((8 : Int) ≤ i82))
                  (br (!(!(decide (i87 = (65308 : Int)))))
                   (br (inB i79 (2 : Nat))
                    (br ((inB i80 (4 : Nat)) && (decide ((0 : Int) ≤ i79)))
                     (br (decide ((Int.toNat ((i79 * (4 : Int)) + i80)) < (8 : Nat)))
                      (br (!(List.getD l85 (Int.toNat ((i79 * (4 : Int)) + i80)) false))
                       (br (decide (i82 < (8 : Int)))
                        (br (!(decide (i87 = (0 : Int))))
                         (k0 false)
                         (br (inB i79 (2 : Nat))
                          (br ((inB i80 (4 : Nat)) && (decide ((0 : Int) ≤ i79)))
                           (br (decide ((Int.toNat ((i79 * (4 : Int)) + i80)) < (8 : Nat)))
                            (br (!(List.getD l85 (Int.toNat ((i79 * (4 : Int)) + i80)) false))
                             (br (inB i79 (2 : Nat))
                              (br ((inB i80 (4 : Nat)) && (decide ((0 : Int) ≤ i79)))
                               (br (decide ((Int.toNat ((i79 * (4 : Int)) + i80)) < (8 : Nat)))
                                (w2
                                 (fun l144 b145 i146 i147 l148 l149 => k0 b145)
                                 (fun l150 i151 i152 l153 l154 => nx l150 (IntKind.wrap .i64 (i151 + (1 : Int))) i152 l153 l154)
                                 N l77 i78 (0 : Int) i88 l89 (List.set l85 (Int.toNat ((i79 * (4 : Int)) + i80)) (decide (i87 = (0 : Int)))))
                                (none))
                               (none))
                              (none))
                             (br (inB i79 (2 : Nat))
                              (br ((inB i80 (4 : Nat)) && (decide ((0 : Int) ≤ i79)))
                               (br (decide ((Int.toNat ((i79 * (4 : Int)) + i80)) < (8 : Nat)))
                                (w2
                                 (fun l155 b156 i157 i158 l159 l160 => k0 b156)
                                 (fun l161 i162 i163 l164 l165 => nx l161 (IntKind.wrap .i64 (i162 + (1 : Int))) i163 l164 l165)
                                 N l77 i78 (0 : Int) i88 l89 (List.set l85 (Int.toNat ((i79 * (4 : Int)) + i80)) true))
                                (none))
                               (none))
                              (none)))
                            (none))
                           (none))
                          (none)))
                        (br (inB i79 (2 : Nat))
                         (br ((inB i80 (4 : Nat)) && (decide ((0 : Int) ≤ i79)))
                          (br (decide ((Int.toNat ((i79 * (4 : Int)) + i80)) < (8 : Nat)))
                           (br (!(List.getD l85 (Int.toNat ((i79 * (4 : Int)) + i80)) false))
                            (br (inB i79 (2 : Nat))
                             (br ((inB i80 (4 : Nat)) && (decide ((0 : Int) ≤ i79)))
                              (br (decide ((Int.toNat ((i79 * (4 : Int)) + i80)) < (8 : Nat)))
                               (w2
                                (fun l166 b167 i168 i169 l170 l171 => k0 b167)
                                (fun l172 i173 i174 l175 l176 => nx l172 (IntKind.wrap .i64 (i173 + (1 : Int))) i174 l175 l176)
                                N l77 i78 (0 : Int) i88 l89 (List.set l85 (Int.toNat ((i79 * (4 : Int)) + i80)) (decide (i87 = (0 : Int)))))
                               (none))
                              (none))
                             (none))
                            (br (inB i79 (2 : Nat))
                             (br ((inB i80 (4 : Nat)) && (decide ((0 : Int) ≤ i79)))
                              (br (decide ((Int.toNat ((i79 * (4 : Int)) + i80)) < (8 : Nat)))
                               (w2
                                (fun l177 b178 i179 i180 l181 l182 => k0 b178)
                                (fun l183 i184 i185 l186 l187 => nx l183 (IntKind.wrap .i64 (i184 + (1 : Int))) i185 l186 l187)
                                N l77 i78 (0 : Int) i88 l89 (List.set l85 (Int.toNat ((i79 * (4 : Int)) + i80)) true))
                               (none))
                              (none))
                             (none)))
                           (none))
                          (none))
                         (none)))
                       (br (inB i79 (2 : Nat))
                        (br ((inB i80 (4 : Nat)) && (decide ((0 : Int) ≤ i79)))
                         (br (decide ((Int.toNat ((i79 * (4 : Int)) + i80)) < (8 : Nat)))
                          (br (!(List.getD l85 (Int.toNat ((i79 * (4 : Int)) + i80)) false))
                           (br (inB i79 (2 : Nat))
                            (br ((inB i80 (4 : Nat)) && (decide ((0 : Int) ≤ i79)))
                             (br (decide ((Int.toNat ((i79 * (4 : Int)) + i80)) < (8 : Nat)))
                              (w2
                               (fun l188 b189 i190 i191 l192 l193 => k0 b189)
                               (fun l194 i195 i196 l197 l198 => nx l194 (IntKind.wrap .i64 (i195 + (1 : Int))) i196 l197 l198)
                               N l77 i78 (0 : Int) i88 l89 (List.set l85 (Int.toNat ((i79 * (4 : Int)) + i80)) (decide (i87 = (0 : Int)))))
                              (none))
                             (none))
                            (none))
                           (br (inB i79 (2 : Nat))
                            (br ((inB i80 (4 : Nat)) && (decide ((0 : Int) ≤ i79)))
                             (br (decide ((Int.toNat ((i79 * (4 : Int)) + i80)) < (8 : Nat)))
                              (w2
                               (fun l199 b200 i201 i202 l203 l204 => k0 b200)
                               (fun l205 i206 i207 l208 l209 => nx l205 (IntKind.wrap .i64 (i206 + (1 : Int))) i207 l208 l209)
                               N l77 i78 (0 : Int) i88 l89 (List.set l85 (Int.toNat ((i79 * (4 : Int)) + i80)) true))
                              (none))
                             (none))
                            (none)))
                          (none))
                         (none))
                        (none)))
                      (none))
                     (none))
                    (none))
                   (k0 false))
                  (br (inB i79 (2 : Nat))
                   (br ((inB i80 (4 : Nat)) && (decide ((0 : Int) ≤ i79)))
                    (br (decide ((Int.toNat ((i79 * (4 : Int)) + i80)) < (8 : Nat)))
                     (br (!(List.getD l85 (Int.toNat ((i79 * (4 : Int)) + i80)) false))
                      (br (decide (i82 < (8 : Int)))
                       (br (!(decide (i87 = (0 : Int))))
                        (k0 false)
                        (br (inB i79 (2 : Nat))
                         (br ((inB i80 (4 : Nat)) && (decide ((0 : Int) ≤ i79)))
                          (br (decide ((Int.toNat ((i79 * (4 : Int)) + i80)) < (8 : Nat)))
                           (br (!(List.getD l85 (Int.toNat ((i79 * (4 : Int)) + i80)) false))
                            (br (inB i79 (2 : Nat))
                             (br ((inB i80 (4 : Nat)) && (decide ((0 : Int) ≤ i79)))
                              (br (decide ((Int.toNat ((i79 * (4 : Int)) + i80)) < (8 : Nat)))
                               (w2
                                (fun l210 b211 i212 i213 l214 l215 => k0 b211)
                                (fun l216 i217 i218 l219 l220 => nx l216 (IntKind.wrap .i64 (i217 + (1 : Int))) i218 l219 l220)
                                N l77 i78 (0 : Int) i88 l89 (List.set l85 (Int.toNat ((i79 * (4 : Int)) + i80)) (decide (i87 = (0 : Int)))))
                               (none))
                              (none))
                             (none))
                            (br (inB i79 (2 : Nat))
                             (br ((inB i80 (4 : Nat)) && (decide ((0 : Int) ≤ i79)))
                              (br (decide ((Int.toNat ((i79 * (4 : Int)) + i80)) < (8 : Nat)))
                               (w2
                                (fun l221 b222 i223 i224 l225 l226 => k0 b222)
                                (fun l227 i228 i229 l230 l231 => nx l227 (IntKind.wrap .i64 (i228 + (1 : Int))) i229 l230 l231)
                                N l77 i78 (0 : Int) i88 l89 (List.set l85 (Int.toNat ((i79 * (4 : Int)) + i80)) true))
                               (none))
                              (none))
                             (none)))
                           (none))
                          (none))
                         (none)))
                       (br (inB i79 (2 : Nat))
                        (br ((inB i80 (4 : Nat)) && (decide ((0 : Int) ≤ i79)))
                         (br (decide ((Int.toNat ((i79 * (4 : Int)) + i80)) < (8 : Nat)))
                          (br (!(List.getD l85 (Int.toNat ((i79 * (4 : Int)) + i80)) false))
                           (br (inB i79 (2 : Nat))
                            (br ((inB i80 (4 : Nat)) && (decide ((0 : Int) ≤ i79)))
                             (br (decide ((Int.toNat ((i79 * (4 : Int)) + i80)) < (8 : Nat)))
                              (w2
                               (fun l232 b233 i234 i235 l236 l237 => k0 b233)
                               (fun l238 i239 i240 l241 l242 => nx l238 (IntKind.wrap .i64 (i239 + (1 : Int))) i240 l241 l242)
                               N l77 i78 (0 : Int) i88 l89 (List.set l85 (Int.toNat ((i79 * (4 : Int)) + i80)) (decide (i87 = (0 : Int)))))
                              (none))
                             (none))
                            (none))
                           (br (inB i79 (2 : Nat))
                            (br ((inB i80 (4 : Nat)) && (decide ((0 : Int) ≤ i79)))
                             (br (decide ((Int.toNat ((i79 * (4 : Int)) + i80)) < (8 : Nat)))
                              (w2
                               (fun l243 b244 i245 i246 l247 l248 => k0 b244)
                               (fun l249 i250 i251 l252 l253 => nx l249 (IntKind.wrap .i64 (i250 + (1 : Int))) i251 l252 l253)
                               N l77 i78 (0 : Int) i88 l89 (List.set l85 (Int.toNat ((i79 * (4 : Int)) + i80)) true))
                              (none))
                             (none))
                            (none)))
                          (none))
                         (none))
                        (none)))
                      (br (inB i79 (2 : Nat))
                       (br ((inB i80 (4 : Nat)) && (decide ((0 : Int) ≤ i79)))
                        (br (decide ((Int.toNat ((i79 * (4 : Int)) + i80)) < (8 : Nat)))
                         (br (!(List.getD l85 (Int.toNat ((i79 * (4 : Int)) + i80)) false))
                          (br (inB i79 (2 : Nat))
                           (br ((inB i80 (4 : Nat)) && (decide ((0 : Int) ≤ i79)))
                            (br (decide ((Int.toNat ((i79 * (4 : Int)) + i80)) < (8 : Nat)))
                             (w2
                              (fun l254 b255 i256 i257 l258 l259 => k0 b255)
                              (fun l260 i261 i262 l263 l264 => nx l260 (IntKind.wrap .i64 (i261 + (1 : Int))) i262 l263 l264)
                              N l77 i78 (0 : Int) i88 l89 (List.set l85 (Int.toNat ((i79 * (4 : Int)) + i80)) (decide (i87 = (0 : Int)))))
                             (none))
                            (none))
                           (none))
                          (br (inB i79 (2 : Nat))
                           (br ((inB i80 (4 : Nat)) && (decide ((0 : Int) ≤ i79)))
                            (br (decide ((Int.toNat ((i79 * (4 : Int)) + i80)) < (8 : Nat)))
                             (w2
                              (fun l265 b266 i267 i268 l269 l270 => k0 b266)
                              (fun l271 i272 i273 l274 l275 => nx l271 (IntKind.wrap .i64 (i272 + (1 : Int))) i273 l274 l275)
                              N l77 i78 (0 : Int) i88 l89 (List.set l85 (Int.toNat ((i79 * (4 : Int)) + i80)) true))
                             (none))
                            (none))
                           (none)))
                         (none))
                        (none))
                       (none)))
                     (none))
                    (none))
                   (none)))
                 (br (inB i79 (2 : Nat))
                  (br ((inB i80 (4 : Nat)) && (decide ((0 : Int) ≤ i79)))
                   (br (decide ((Int.toNat ((i79 * (4 : Int)) + i80)) < (8 : Nat)))
                    (br (!(List.getD l85 (Int.toNat ((i79 * (4 : Int)) + i80)) false))
                     (br (decide (i82 < (8 : Int)))
                      (br (!(decide (i87 = (0 : Int))))
                       (k0 false)
                       (br (inB i79 (2 : Nat))
                        (br ((inB i80 (4 : Nat)) && (decide ((0 : Int) ≤ i79)))
                         (br (decide ((Int.toNat ((i79 * (4 : Int)) + i80)) < (8 : Nat)))
                          (br (!(List.getD l85 (Int.toNat ((i79 * (4 : Int)) + i80)) false))
                           (br (inB i79 (2 : Nat))
                            (br ((inB i80 (4 : Nat)) && (decide ((0 : Int) ≤ i79)))
                             (br (decide ((Int.toNat ((i79 * (4 : Int)) + i80)) < (8 : Nat)))
                              (w2
                               (fun l276 b277 i278 i279 l280 l281 => k0 b277)
                               (fun l282 i283 i284 l285 l286 => nx l282 (IntKind.wrap .i64 (i283 + (1 : Int))) i284 l285 l286)
                               N l77 i78 (0 : Int) i88 l89 (List.set l85 (Int.toNat ((i79 * (4 : Int)) + i80)) (decide (i87 = (0 : Int)))))
                              (none))
                             (none))
                            (none))
                           (br (inB i79 (2 : Nat))
                            (br ((inB i80 (4 : Nat)) && (decide ((0 : Int) ≤ i79)))
                             (br (decide ((Int.toNat ((i79 * (4 : Int)) + i80)) < (8 : Nat)))
                              (w2
                               (fun l287 b288 i289 i290 l291 l292 => k0 b288)
                               (fun l293 i294 i295 l296 l297 => nx l293 (IntKind.wrap .i64 (i294 + (1 : Int))) i295 l296 l297)
                               N l77 i78 (0 : Int) i88 l89 (List.set l85 (Int.toNat ((i79 * (4 : Int)) + i80)) true))
                              (none))
                             (none))
                            (none)))
                          (none))
                         (none))
                        (none)))
                      (br (inB i79 (2 : Nat))
                       (br ((inB i80 (4 : Nat)) && (decide ((0 : Int) ≤ i79)))
                        (br (decide ((Int.toNat ((i79 * (4 : Int)) + i80)) < (8 : Nat)))
                         (br (!(List.getD l85 (Int.toNat ((i79 * (4 : Int)) + i80)) false))
                          (br (inB i79 (2 : Nat))
                           (br ((inB i80 (4 : Nat)) && (decide ((0 : Int) ≤ i79)))
                            (br (decide ((Int.toNat ((i79 * (4 : Int)) + i80)) < (8 : Nat)))
                             (w2
                              (fun l298 b299 i300 i301 l302 l303 => k0 b299)
                              (fun l304 i305 i306 l307 l308 => nx l304 (IntKind.wrap .i64 (i305 + (1 : Int))) i306 l307 l308)
                              N l77 i78 (0 : Int) i88 l89 (List.set l85 (Int.toNat ((i79 * (4 : Int)) + i80)) (decide (i87 = (0 : Int)))))
                             (none))
                            (none))
                           (none))
                          (br (inB i79 (2 : Nat))
                           (br ((inB i80 (4 : Nat)) && (decide ((0 : Int) ≤ i79)))
                            (br (decide ((Int.toNat ((i79 * (4 : Int)) + i80)) < (8 : Nat)))
                             (w2
                              (fun l309 b310 i311 i312 l313 l314 => k0 b310)
                              (fun l315 i316 i317 l318 l319 => nx l315 (IntKind.wrap .i64 (i316 + (1 : Int))) i317 l318 l319)
                              N l77 i78 (0 : Int) i88 l89 (List.set l85 (Int.toNat ((i79 * (4 : Int)) + i80)) true))
                             (none))
                            (none))
                           (none)))
                         (none))
                        (none))
                       (none)))
                     (br (inB i79 (2 : Nat))
                      (br ((inB i80 (4 : Nat)) && (decide ((0 : Int) ≤ i79)))
                       (br (decide ((Int.toNat ((i79 * (4 : Int)) + i80)) < (8 : Nat)))
                        (br (!(List.getD l85 (Int.toNat ((i79 * (4 : Int)) + i80)) false))
                         (br (inB i79 (2 : Nat))
                          (br ((inB i80 (4 : Nat)) && (decide ((0 : Int) ≤ i79)))
                           (br (decide ((Int.toNat ((i79 * (4 : Int)) + i80)) < (8 : Nat)))
                            (w2
                             (fun l320 b321 i322 i323 l324 l325 => k0 b321)
                             (fun l326 i327 i328 l329 l330 => nx l326 (IntKind.wrap .i64 (i327 + (1 : Int))) i328 l329 l330)
                             N l77 i78 (0 : Int) i88 l89 (List.set l85 (Int.toNat ((i79 * (4 : Int)) + i80)) (decide (i87 = (0 : Int)))))
                            (none))
                           (none))
                          (none))
                         (br (inB i79 (2 : Nat))
                          (br ((inB i80 (4 : Nat)) && (decide ((0 : Int) ≤ i79)))
                           (br (decide ((Int.toNat ((i79 * (4 : Int)) + i80)) < (8 : Nat)))
                            (w2
                             (fun l331 b332 i333 i334 l335 l336 => k0 b332)
                             (fun l337 i338 i339 l340 l341 => nx l337 (IntKind.wrap .i64 (i338 + (1 : Int))) i339 l340 l341)
                             N l77 i78 (0 : Int) i88 l89 (List.set l85 (Int.toNat ((i79 * (4 : Int)) + i80)) true))
                            (none))
                           (none))
                          (none)))
                        (none))
                       (none))
                      (none)))
                    (none))
                   (none))
                  (none)))
                (none))
               (none))
              (none))
             (k0 false))
            (br (inB i79 (2 : Nat))
             (br ((inB i80 (4 : Nat)) && (decide ((0 : Int) ≤ i79)))
              (br (decide ((Int.toNat ((i79 * (4 : Int)) + i80)) < (8 : Nat)))
               (br (!(List.getD l85 (Int.toNat ((i79 * (4 : Int)) + i80)) false))
                (br (decide ((8 : Int) ≤ i82))
                 (br (!(!(decide (i87 = (65308 : Int)))))
                  (br (inB i79 (2 : Nat))
                   (br ((inB i80 (4 : Nat)) && (decide ((0 : Int) ≤ i79)))
                    (br (decide ((Int.toNat ((i79 * (4 : Int)) + i80)) < (8 : Nat)))
                     (br (!(List.getD l85 (Int.toNat ((i79 * (4 : Int)) + i80)) false))
                      (br (decide (i82 < (8 : Int)))
                       (br (!(decide (i87 = (0 : Int))))
                        (k0 false)
                        (br (inB i79 (2 : Nat))
                         (br ((inB i80 (4 : Nat)) && (decide ((0 : Int) ≤ i79)))
                          (br (decide ((Int.toNat ((i79 * (4 : Int)) + i80)) < (8 : Nat)))
                           (br (!(List.getD l85 (Int.toNat ((i79 * (4 : Int)) + i80)) false))
                            (br (inB i79 (2 : Nat))
                             (br ((inB i80 (4 : Nat)) && (decide ((0 : Int) ≤ i79)))
                              (br (decide ((Int.toNat ((i79 * (4 : Int)) + i80)) < (8 : Nat)))
                               (w2
                                (fun l342 b343 i344 i345 l346 l347 => k0 b343)
                                (fun l348 i349 i350 l351 l352 => nx l348 (IntKind.wrap .i64 (i349 + (1 : Int))) i350 l351 l352)
                                N l77 i78 (0 : Int) i88 l89 (List.set l85 (Int.toNat ((i79 * (4 : Int)) + i80)) (decide (i87 = (0 : Int)))))
                               (none))
                              (none))
                             (none))
                            (br (inB i79 (2 : Nat))
                             (br ((inB i80 (4 : Nat)) && (decide ((0 : Int) ≤ i79)))
                              (br (decide ((Int.toNat ((i79 * (4 : Int)) + i80)) < (8 : Nat)))
                               (w2
                                (fun l353 b354 i355 i356 l357 l358 => k0 b354)
                                (fun l359 i360 i361 l362 l363 => nx l359 (IntKind.wrap .i64 (i360 + (1 : Int))) i361 l362 l363)
                                N l77 i78 (0 : Int) i88 l89 (List.set l85 (Int.toNat ((i79 * (4 : Int)) + i80)) true))
                               (none))
                              (none))
                             (none)))
                           (none))
                          (none))
                         (none)))
                       (br (inB i79 (2 : Nat))
                        (br ((inB i80 (4 : Nat)) && (decide ((0 : Int) ≤ i79)))
                         (br (decide ((Int.toNat ((i79 * (4 : Int)) + i80)) < (8 : Nat)))
                          (br (!(List.getD l85 (Int.toNat ((i79 * (4 : Int)) + i80)) false))
                           (br (inB i79 (2 : Nat))
                            (br ((inB i80 (4 : Nat)) && (decide ((0 : Int) ≤ i79)))
                             (br (decide ((Int.toNat ((i79 * (4 : Int)) + i80)) < (8 : Nat)))
                              (w2
                               (fun l364 b365 i366 i367 l368 l369 => k0 b365)
                               (fun l370 i371 i372 l373 l374 => nx l370 (IntKind.wrap .i64 (i371 + (1 : Int))) i372 l373 l374)
                               N l77 i78 (0 : Int) i88 l89 (List.set l85 (Int.toNat ((i79 * (4 : Int)) + i80)) (decide (i87 = (0 : Int)))))
                              (none))
                             (none))
                            (none))
                           (br (inB i79 (2 : Nat))
                            (br ((inB i80 (4 : Nat)) && (decide ((0 : Int) ≤ i79)))
                             (br (decide ((Int.toNat ((i79 * (4 : Int)) + i80)) < (8 : Nat)))
                              (w2
                               (fun l375 b376 i377 i378 l379 l380 => k0 b376)
                               (fun l381 i382 i383 l384 l385 => nx l381 (IntKind.wrap .i64 (i382 + (1 : Int))) i383 l384 l385)
                               N l77 i78 (0 : Int) i88 l89 (List.set l85 (Int.toNat ((i79 * (4 : Int)) + i80)) true))
                              (none))
                             (none))
                            (none)))
                          (none))
                         (none))
                        (none)))
                      (br (inB i79 (2 : Nat))
                       (br ((inB i80 (4 : Nat)) && (decide ((0 : Int) ≤ i79)))
                        (br (decide ((Int.toNat ((i79 * (4 : Int)) + i80)) < (8 : Nat)))
                         (br (!(List.getD l85 (Int.toNat ((i79 * (4 : Int)) + i80)) false))
                          (br (inB i79 (2 : Nat))
                           (br ((inB i80 (4 : Nat)) && (decide ((0 : Int) ≤ i79)))
                            (br (decide ((Int.toNat ((i79 * (4 : Int)) + i80)) < (8 : Nat)))
                             (w2
                              (fun l386 b387 i388 i389 l390 l391 => k0 b387)
                              (fun l392 i393 i394 l395 l396 => nx l392 (IntKind.wrap .i64 (i393 + (1 : Int))) i394 l395 l396)
                              N l77 i78 (0 : Int) i88 l89 (List.set l85 (Int.toNat ((i79 * (4 : Int)) + i80)) (decide (i87 = (0 : Int)))))
                             (none))
                            (none))
                           (none))
                          (br (inB i79 (2 : Nat))
                           (br ((inB i80 (4 : Nat)) && (decide ((0 : Int) ≤ i79)))
                            (br (decide ((Int.toNat ((i79 * (4 : Int)) + i80)) < (8 : Nat)))
                             (w2
                              (fun l397 b398 i399 i400 l401 l402 => k0 b398)
                              (fun l403 i404 i405 l406 l407 => nx l403 (IntKind.wrap .i64 (i404 + (1 : Int))) i405 l406 l407)
                              N l77 i78 (0 : Int) i88 l89 (List.set l85 (Int.toNat ((i79 * (4 : Int)) + i80)) true))
                             (none))
                            (none))
                           (none)))
                         (none))
                        (none))
                       (none)))
                     (none))
                    (none))
                   (none))
                  (k0 false))
                 (br (inB i79 (2 : Nat))
                  (br ((inB i80 (4 : Nat)) && (decide ((0 : Int) ≤ i79)))
                   (br (decide ((Int.toNat ((i79 * (4 : Int)) + i80)) < (8 : Nat)))
                    (br (!(List.getD l85 (Int.toNat ((i79 * (4 : Int)) + i80)) false))
                     (br (decide (i82 < (8 : Int)))
                      (br (!(decide (i87 = (0 : Int))))
                       (k0 false)
                       (br (inB i79 (2 : Nat))
                        (br ((inB i80 (4 : Nat)) && (decide ((0 : Int) ≤ i79)))
                         (br (decide ((Int.toNat ((i79 * (4 : Int)) + i80)) < (8 : Nat)))
                          (br (!(List.getD l85 (Int.toNat ((i79 * (4 : Int)) + i80)) false))
                           (br (inB i79 (2 : Nat))
                            (br ((inB i80 (4 : Nat)) && (decide ((0 : Int) ≤ i79)))
                             (br (decide ((Int.toNat ((i79 * (4 : Int)) + i80)) < (8 : Nat)))
                              (w2
                               (fun l408 b409 i410 i411 l412 l413 => k0 b409)
                               (fun l414 i415 i416 l417 l418 => nx l414 (IntKind.wrap .i64 (i415 + (1 : Int))) i416 l417 l418)
                               N l77 i78 (0 : Int) i88 l89 (List.set l85 (Int.toNat ((i79 * (4 : Int)) + i80)) (decide (i87 = (0 : Int)))))
                              (none))
                             (none))
                            (none))
                           (br (inB i79 (2 : Nat))
                            (br ((inB i80 (4 : Nat)) && (decide ((0 : Int) ≤ i79)))
                             (br (decide ((Int.toNat ((i79 * (4 : Int)) + i80)) < (8 : Nat)))
                              (w2
                               (fun l419 b420 i421 i422 l423 l424 => k0 b420)
                               (fun l425 i426 i427 l428 l429 => nx l425 (IntKind.wrap .i64 (i426 + (1 : Int))) i427 l428 l429)
                               N l77 i78 (0 : Int) i88 l89 (List.set l85 (Int.toNat ((i79 * (4 : Int)) + i80)) true))
                              (none))
                             (none))
                            (none)))
                          (none))
                         (none))
                        (none)))
                      (br (inB i79 (2 : Nat))
                       (br ((inB i80 (4 : Nat)) && (decide ((0 : Int) ≤ i79)))
                        (br (decide ((Int.toNat ((i79 * (4 : Int)) + i80)) < (8 : Nat)))
                         (br (!(List.getD l85 (Int.toNat ((i79 * (4 : Int)) + i80)) false))
                          (br (inB i79 (2 : Nat))
                           (br ((inB i80 (4 : Nat)) && (decide ((0 : Int) ≤ i79)))
                            (br (decide ((Int.toNat ((i79 * (4 : Int)) + i80)) < (8 : Nat)))
                             (w2
                              (fun l430 b431 i432 i433 l434 l435 => k0 b431)
                              (fun l436 i437 i438 l439 l440 => nx l436 (IntKind.wrap .i64 (i437 + (1 : Int))) i438 l439 l440)
                              N l77 i78 (0 : Int) i88 l89 (List.set l85 (Int.toNat ((i79 * (4 : Int)) + i80)) (decide (i87 = (0 : Int)))))
                             (none))
                            (none))
                           (none))
                          (br (inB i79 (2 : Nat))
                           (br ((inB i80 (4 : Nat)) && (decide ((0 : Int) ≤ i79)))
                            (br (decide ((Int.toNat ((i79 * (4 : Int)) + i80)) < (8 : Nat)))
                             (w2
                              (fun l441 b442 i443 i444 l445 l446 => k0 b442)
                              (fun l447 i448 i449 l450 l451 => nx l447 (IntKind.wrap .i64 (i448 + (1 : Int))) i449 l450 l451)
                              N l77 i78 (0 : Int) i88 l89 (List.set l85 (Int.toNat ((i79 * (4 : Int)) + i80)) true))
                             (none))
                            (none))
                           (none)))
                         (none))
                        (none))
                       (none)))
                     (br (inB i79 (2 : Nat))
                      (br ((inB i80 (4 : Nat)) && (decide ((0 : Int) ≤ i79)))
                       (br (decide ((Int.toNat ((i79 * (4 : Int)) + i80)) < (8 : Nat)))
                        (br (!(List.getD l85 (Int.toNat ((i79 * (4 : Int)) + i80)) false))
                         (br (inB i79 (2 : Nat))
                          (br ((inB i80 (4 : Nat)) && (decide ((0 : Int) ≤ i79)))
                           (br (decide ((Int.toNat ((i79 * (4 : Int)) + i80)) < (8 : Nat)))
                            (w2
                             (fun l452 b453 i454 i455 l456 l457 => k0 b453)
                             (fun l458 i459 i460 l461 l462 => nx l458 (IntKind.wrap .i64 (i459 + (1 : Int))) i460 l461 l462)
                             N l77 i78 (0 : Int) i88 l89 (List.set l85 (Int.toNat ((i79 * (4 : Int)) + i80)) (decide (i87 = (0 : Int)))))
                            (none))
                           (none))
                          (none))
                         (br (inB i79 (2 : Nat))
                          (br ((inB i80 (4 : Nat)) && (decide ((0 : Int) ≤ i79)))
                           (br (decide ((Int.toNat ((i79 * (4 : Int)) + i80)) < (8 : Nat)))
                            (w2
                             (fun l463 b464 i465 i466 l467 l468 => k0 b464)
                             (fun l469 i470 i471 l472 l473 => nx l469 (IntKind.wrap .i64 (i470 + (1 : Int))) i471 l472 l473)
                             N l77 i78 (0 : Int) i88 l89 (List.set l85 (Int.toNat ((i79 * (4 : Int)) + i80)) true))
                            (none))
                           (none))
                          (none)))
                        (none))
                       (none))
                      (none)))
                    (none))
                   (none))
                  (none)))
                (br (inB i79 (2 : Nat))
                 (br ((inB i80 (4 : Nat)) && (decide ((0 : Int) ≤ i79)))
                  (br (decide ((Int.toNat ((i79 * (4 : Int)) + i80)) < (8 : Nat)))
                   (br (!(List.getD l85 (Int.toNat ((i79 * (4 : Int)) + i80)) false))
                    (br (decide (i82 < (8 : Int)))
                     (br (!(decide (i87 = (0 : Int))))
                      (k0 false)
                      (br (inB i79 (2 : Nat))
                       (br ((inB i80 (4 : Nat)) && (decide ((0 : Int) ≤ i79)))
                        (br (decide ((Int.toNat ((i79 * (4 : Int)) + i80)) < (8 : Nat)))
                         (br (!(List.getD l85 (Int.toNat ((i79 * (4 : Int)) + i80)) false))
                          (br (inB i79 (2 : Nat))
                           (br ((inB i80 (4 : Nat)) && (decide ((0 : Int) ≤ i79)))
                            (br (decide ((Int.toNat ((i79 * (4 : Int)) + i80)) < (8 : Nat)))
                             (w2
                              (fun l474 b475 i476 i477 l478 l479 => k0 b475)
                              (fun l480 i481 i482 l483 l484 => nx l480 (IntKind.wrap .i64 (i481 + (1 : Int))) i482 l483 l484)
                              N l77 i78 (0 : Int) i88 l89 (List.set l85 (Int.toNat ((i79 * (4 : Int)) + i80)) (decide (i87 = (0 : Int)))))
                             (none))
                            (none))
                           (none))
                          (br (inB i79 (2 : Nat))
                           (br ((inB i80 (4 : Nat)) && (decide ((0 : Int) ≤ i79)))
                            (br (decide ((Int.toNat ((i79 * (4 : Int)) + i80)) < (8 : Nat)))
                             (w2
                              (fun l485 b486 i487 i488 l489 l490 => k0 b486)
                              (fun l491 i492 i493 l494 l495 => nx l491 (IntKind.wrap .i64 (i492 + (1 : Int))) i493 l494 l495)
                              N l77 i78 (0 : Int) i88 l89 (List.set l85 (Int.toNat ((i79 * (4 : Int)) + i80)) true))
                             (none))
                            (none))
                           (none)))
                         (none))
                        (none))
                       (none)))
                     (br (inB i79 (2 : Nat))
                      (br ((inB i80 (4 : Nat)) && (decide ((0 : Int) ≤ i79)))
                       (br (decide ((Int.toNat ((i79 * (4 : Int)) + i80)) < (8 : Nat)))
                        (br (!(List.getD l85 (Int.toNat ((i79 * (4 : Int)) + i80)) false))
                         (br (inB i79 (2 : Nat))
                          (br ((inB i80 (4 : Nat)) && (decide ((0 : Int) ≤ i79)))
                           (br (decide ((Int.toNat ((i79 * (4 : Int)) + i80)) < (8 : Nat)))
                            (w2
                             (fun l496 b497 i498 i499 l500 l501 => k0 b497)
                             (fun l502 i503 i504 l505 l506 => nx l502 (IntKind.wrap .i64 (i503 + (1 : Int))) i504 l505 l506)
                             N l77 i78 (0 : Int) i88 l89 (List.set l85 (Int.toNat ((i79 * (4 : Int)) + i80)) (decide (i87 = (0 : Int)))))
                            (none))
                           (none))
                          (none))
                         (br (inB i79 (2 : Nat))
                          (br ((inB i80 (4 : Nat)) && (decide ((0 : Int) ≤ i79)))
                           (br (decide ((Int.toNat ((i79 * (4 : Int)) + i80)) < (8 : Nat)))
                            (w2
                             (fun l507 b508 i509 i510 l511 l512 => k0 b508)
                             (fun l513 i514 i515 l516 l517 => nx l513 (IntKind.wrap .i64 (i514 + (1 : Int))) i515 l516 l517)
                             N l77 i78 (0 : Int) i88 l89 (List.set l85 (Int.toNat ((i79 * (4 : Int)) + i80)) true))
                            (none))
                           (none))
                          (none)))
                        (none))
                       (none))
                      (none)))
                    (br (inB i79 (2 : Nat))
                     (br ((inB i80 (4 : Nat)) && (decide ((0 : Int) ≤ i79)))
                      (br (decide ((Int.toNat ((i79 * (4 : Int)) + i80)) < (8 : Nat)))
                       (br (!(List.getD l85 (Int.toNat ((i79 * (4 : Int)) + i80)) false))
                        (br (inB i79 (2 : Nat))
                         (br ((inB i80 (4 : Nat)) && (decide ((0 : Int) ≤ i79)))
                          (br (decide ((Int.toNat ((i79 * (4 : Int)) + i80)) < (8 : Nat)))
                           (w2
                            (fun l518 b519 i520 i521 l522 l523 => k0 b519)
                            (fun l524 i525 i526 l527 l528 => nx l524 (IntKind.wrap .i64 (i525 + (1 : Int))) i526 l527 l528)
                            N l77 i78 (0 : Int) i88 l89 (List.set l85 (Int.toNat ((i79 * (4 : Int)) + i80)) (decide (i87 = (0 : Int)))))
                           (none))
                          (none))
                         (none))
                        (br (inB i79 (2 : Nat))
                         (br ((inB i80 (4 : Nat)) && (decide ((0 : Int) ≤ i79)))
                          (br (decide ((Int.toNat ((i79 * (4 : Int)) + i80)) < (8 : Nat)))
                           (w2
                            (fun l529 b530 i531 i532 l533 l534 => k0 b530)
                            (fun l535 i536 i537 l538 l539 => nx l535 (IntKind.wrap .i64 (i536 + (1 : Int))) i537 l538 l539)
                            N l77 i78 (0 : Int) i88 l89 (List.set l85 (Int.toNat ((i79 * (4 : Int)) + i80)) true))
                           (none))
                          (none))
                         (none)))
                       (none))
                      (none))
                     (none)))
                   (none))
                  (none))
                 (none)))
               (none))
              (none))
             (none)))
           (none))
          (none))
         (none)))
       (c0 s81 false i83 l84
        (fun i540 i541 l542 => br (inB i79 (2 : Nat))
         (br ((inB i80 (4 : Nat)) && (decide ((0 : Int) ≤ i79)))
          (br (decide ((Int.toNat ((i79 * (4 : Int)) + i80)) < (8 : Nat)))
           (br (!((decide (i540 = (0 : Int))) == (List.getD l85 (Int.toNat ((i79 * (4 : Int)) + i80)) false)))
            (k0 false)
            (br (inB i79 (2 : Nat))
             (br ((inB i80 (4 : Nat)) && (decide ((0 : Int) ≤ i79)))
              (br (decide ((Int.toNat ((i79 * (4 : Int)) + i80)) < (8 : Nat)))
               (w2
                (fun l543 b544 i545 i546 l547 l548 => k0 b544)
                (fun l549 i550 i551 l552 l553 => nx l549 (IntKind.wrap .i64 (i550 + (1 : Int))) i551 l552 l553)
                N l77 i78 (0 : Int) i541 l542 (List.set l85 (Int.toNat ((i79 * (4 : Int)) + i80)) false))
               (none))
              (none))
             (none)))
           (none))
          (none))
         (none))))
      (none))
     N x0 x1 (band .i64 (IntKind.wrap .i64 (shrI .u8 (List.getD x0 (Int.toNat x1) (0 : Int)) (2 : Int))) (1 : Int)) (Int.tmod (IntKind.wrap .i64 (shrI .u8 (List.getD x0 (Int.toNat x1) (0 : Int)) (3 : Int))) (4 : Int)) (mkStr ((IntKind.wrap .u8 ((100 : Int) + (IntKind.wrap .u8 (band .i64 (IntKind.wrap .i64 (shrI .u8 (List.getD x0 (Int.toNat x1) (0 : Int)) (2 : Int))) (1 : Int))))) :: ((47 : Int) :: ((IntKind.wrap .u8 ((97 : Int) + (IntKind.wrap .u8 (Int.tmod (IntKind.wrap .i64 (shrI .u8 (List.getD x0 (Int.toNat x1) (0 : Int)) (3 : Int))) (4 : Int))))) :: ([] : List ((Sh.int IntKind.u8).T)))))) (2 : Int) (0 : Int) x2 x3 x4)
    (none))
   (none))
  (k1)
noncomputable def law13_TreeDirs_l1_T0 (N : Nat) (c0 : tree_Tree_Drop_c502_Ty) (c1 : tree_Tree_Many_fb98_Ty) (c2 : tree_Tree_Make_c502_Ty) (c3 : tree_New_1c12_Ty) (c4 : tree_New_644a_Ty) (c5 : law13_awake_Ty) (w2 : law13_TreeDirs_l2_Ty) (w3 : law13_TreeDirs_l3_Ty) {R : Type} (nx : (List (Int)) → (Int) → (Int) → (Int) → (ByteArray) → (Int) → (Int) → (Int) → (List (((ByteArray) × (ByteArray)) × ((Int) × (Bool)))) → (List (Bool)) → Option R) (k0 : (List (Int)) → (Int) → (Int) → (Int) → (ByteArray) → (Int) → (Int) → (List (((ByteArray) × (ByteArray)) × ((Int) × (Bool)))) → (List (Bool)) → Option R) (x0 : List (Int)) (x1 : Int) (x2 : Int) (x3 : Int) (x4 : ByteArray) (x5 : Int) (x6 : Int) (x7 : Int) (x8 : List (((ByteArray) × (ByteArray)) × ((Int) × (Bool)))) (x9 : List (Bool)) : Option R :=
  br (decide (x6 < (8 : Int)))
  (br (inB (IntKind.wrap .i64 (Int.tdiv x6 (4 : Int))) (2 : Nat))
   (br ((inB (Int.tmod x6 (4 : Int)) (4 : Nat)) && (decide ((0 : Int) ≤ (IntKind.wrap .i64 (Int.tdiv x6 (4 : Int))))))
    (br (decide ((Int.toNat (((IntKind.wrap .i64 (Int.tdiv x6 (4 : Int))) * (4 : Int)) + (Int.tmod x6 (4 : Int)))) < (8 : Nat)))
     (br (List.getD x9 (Int.toNat (((IntKind.wrap .i64 (Int.tdiv x6 (4 : Int))) * (4 : Int)) + (Int.tmod x6 (4 : Int)))) false)
      (nx x0 x1 x2 x3 x4 (IntKind.wrap .i64 (x5 + (1 : Int))) (IntKind.wrap .i64 (x6 + (1 : Int))) x7 x8 x9)
      (nx x0 x1 x2 x3 x4 x5 (IntKind.wrap .i64 (x6 + (1 : Int))) x7 x8 x9))
     (none))
    (none))
   (none))
  (k0 x0 x1 x2 x3 x4 x5 x7 x8 x9)
noncomputable def law13_TreeDirs_l2_T0 (N : Nat) (c0 : tree_Tree_Drop_c502_Ty) (c1 : tree_Tree_Many_fb98_Ty) (c2 : tree_Tree_Make_c502_Ty) (c3 : tree_New_1c12_Ty) (c4 : tree_New_644a_Ty) (c5 : law13_awake_Ty) (w3 : law13_TreeDirs_l3_Ty) {R : Type} (nx : (List (Int)) → (Int) → (Int) → (Int) → (List (((ByteArray) × (ByteArray)) × ((Int) × (Bool)))) → (List (Bool)) → Option R) (k0 : (List (Int)) → (Bool) → (Int) → (Int) → (List (((ByteArray) × (ByteArray)) × ((Int) × (Bool)))) → (List (Bool)) → Option R) (k1 : (List (Int)) → (Int) → (Int) → (List (((ByteArray) × (ByteArray)) × ((Int) × (Bool)))) → (List (Bool)) → Option R) (x0 : List (Int)) (x1 : Int) (x2 : Int) (x3 : Int) (x4 : List (((ByteArray) × (ByteArray)) × ((Int) × (Bool)))) (x5 : List (Bool)) : Option R :=
  br (decide (x2 < (2 : Int)))
  (w3
   (fun l90 i91 i92 i93 i94 l95 l96 => c1 (mkStr ((IntKind.wrap .u8 ((100 : Int) + (IntKind.wrap .u8 i92))) :: ([] : List ((Sh.int IntKind.u8).T)))) i94 l95
    (fun i105 i106 l107 => br (!(!(decide (i105 = i93))))
     (br (decide ((0 : Int) < i93))
      (c0 (mkStr ((IntKind.wrap .u8 ((100 : Int) + (IntKind.wrap .u8 i92))) :: ([] : List ((Sh.int IntKind.u8).T)))) true i106 l107
       (fun i141 i142 l143 => br (!(decide (i141 = (65319 : Int))))
        (k0 l90 false i91 i142 l143 l96)
        (nx l90 i91 (IntKind.wrap .i64 (i92 + (1 : Int))) i142 l143 l96)))
      (nx l90 i91 (IntKind.wrap .i64 (i92 + (1 : Int))) i106 l107 l96))
     (k0 l90 false i91 i106 l107 l96)))
   N x0 x1 x2 (0 : Int) (0 : Int) x3 x4 x5)
  (k1 x0 x1 x3 x4 x5)
noncomputable def law13_TreeDirs_l3_T0 (N : Nat) (c0 : tree_Tree_Drop_c502_Ty) (c1 : tree_Tree_Many_fb98_Ty) (c2 : tree_Tree_Make_c502_Ty) (c3 : tree_New_1c12_Ty) (c4 : tree_New_644a_Ty) (c5 : law13_awake_Ty) {R : Type} (nx : (List (Int)) → (Int) → (Int) → (Int) → (Int) → (Int) → (List (((ByteArray) × (ByteArray)) × ((Int) × (Bool)))) → (List (Bool)) → Option R) (k0 : (List (Int)) → (Int) → (Int) → (Int) → (Int) → (List (((ByteArray) × (ByteArray)) × ((Int) × (Bool)))) → (List (Bool)) → Option R) (x0 : List (Int)) (x1 : Int) (x2 : Int) (x3 : Int) (x4 : Int) (x5 : Int) (x6 : List (((ByteArray) × (ByteArray)) × ((Int) × (Bool)))) (x7 : List (Bool)) : Option R :=
  br (decide (x4 < (4 : Int)))
  (br (inB x2 (2 : Nat))
   (br ((inB x4 (4 : Nat)) && (decide ((0 : Int) ≤ x2)))
    (br (decide ((Int.toNat ((x2 * (4 : Int)) + x4)) < (8 : Nat)))
     (br (List.getD x7 (Int.toNat ((x2 * (4 : Int)) + x4)) false)
      (nx x0 x1 x2 (IntKind.wrap .u16 (x3 + (1 : Int))) (IntKind.wrap .i64 (x4 + (1 : Int))) x5 x6 x7)
      (nx x0 x1 x2 x3 (IntKind.wrap .i64 (x4 + (1 : Int))) x5 x6 x7))
     (none))
    (none))
   (none))
  (k0 x0 x1 x2 x3 x5 x6 x7)
noncomputable def law13_TreeDirs_l3 (N : Nat) {R : Type} (k0 : (List (Int)) → (Int) → (Int) → (Int) → (Int) → (List (((ByteArray) × (ByteArray)) × ((Int) × (Bool)))) → (List (Bool)) → Option R) : Nat → (List (Int)) → (Int) → (Int) → (Int) → (Int) → (Int) → (List (((ByteArray) × (ByteArray)) × ((Int) × (Bool)))) → (List (Bool)) → Option R
  | 0, _, _, _, _, _, _, _, _ => none
  | n + 1, x0, x1, x2, x3, x4, x5, x6, x7 => law13_TreeDirs_l3_T0 N (@tree_Tree_Drop_c502 N) (@tree_Tree_Many_fb98 N) (@tree_Tree_Make_c502 N) (@tree_New_1c12 N) (@tree_New_644a N) (@law13_awake N) (fun x0 x1 x2 x3 x4 x5 x6 x7 => law13_TreeDirs_l3 N k0 n x0 x1 x2 x3 x4 x5 x6 x7) k0 x0 x1 x2 x3 x4 x5 x6 x7
noncomputable def law13_TreeDirs_l2 (N : Nat) {R : Type} (k0 : (List (Int)) → (Bool) → (Int) → (Int) → (List (((ByteArray) × (ByteArray)) × ((Int) × (Bool)))) → (List (Bool)) → Option R) (k1 : (List (Int)) → (Int) → (Int) → (List (((ByteArray) × (ByteArray)) × ((Int) × (Bool)))) → (List (Bool)) → Option R) : Nat → (List (Int)) → (Int) → (Int) → (Int) → (List (((ByteArray) × (ByteArray)) × ((Int) × (Bool)))) → (List (Bool)) → Option R
  | 0, _, _, _, _, _, _ => none
  | n + 1, x0, x1, x2, x3, x4, x5 => law13_TreeDirs_l2_T0 N (@tree_Tree_Drop_c502 N) (@tree_Tree_Many_fb98 N) (@tree_Tree_Make_c502 N) (@tree_New_1c12 N) (@tree_New_644a N) (@law13_awake N) (@law13_TreeDirs_l3 N) (fun x0 x1 x2 x3 x4 x5 => law13_TreeDirs_l2 N k0 k1 n x0 x1 x2 x3 x4 x5) k0 k1 x0 x1 x2 x3 x4 x5
noncomputable def law13_TreeDirs_l1 (N : Nat) {R : Type} (k0 : (List (Int)) → (Int) → (Int) → (Int) → (ByteArray) → (Int) → (Int) → (List (((ByteArray) × (ByteArray)) × ((Int) × (Bool)))) → (List (Bool)) → Option R) : Nat → (List (Int)) → (Int) → (Int) → (Int) → (ByteArray) → (Int) → (Int) → (Int) → (List (((ByteArray) × (ByteArray)) × ((Int) × (Bool)))) → (List (Bool)) → Option R
  | 0, _, _, _, _, _, _, _, _, _, _ => none
  | n + 1, x0, x1, x2, x3, x4, x5, x6, x7, x8, x9 => law13_TreeDirs_l1_T0 N (@tree_Tree_Drop_c502 N) (@tree_Tree_Many_fb98 N) (@tree_Tree_Make_c502 N) (@tree_New_1c12 N) (@tree_New_644a N) (@law13_awake N) (@law13_TreeDirs_l2 N) (@law13_TreeDirs_l3 N) (fun x0 x1 x2 x3 x4 x5 x6 x7 x8 x9 => law13_TreeDirs_l1 N k0 n x0 x1 x2 x3 x4 x5 x6 x7 x8 x9) k0 x0 x1 x2 x3 x4 x5 x6 x7 x8 x9
noncomputable def law13_TreeDirs_l0 (N : Nat) {R : Type} (k0 : (Bool) → Option R) (k1 : Option R) : Nat → (List (Int)) → (Int) → (Int) → (List (((ByteArray) × (ByteArray)) × ((Int) × (Bool)))) → (List (Bool)) → Option R
  | 0, _, _, _, _, _ => none
  | n + 1, x0, x1, x2, x3, x4 => law13_TreeDirs_l0_T0 N (@tree_Tree_Drop_c502 N) (@tree_Tree_Many_fb98 N) (@tree_Tree_Make_c502 N) (@tree_New_1c12 N) (@tree_New_644a N) (@law13_awake N) (@law13_TreeDirs_l1 N) (@law13_TreeDirs_l2 N) (@law13_TreeDirs_l3 N) (fun x0 x1 x2 x3 x4 => law13_TreeDirs_l0 N k0 k1 n x0 x1 x2 x3 x4) k0 k1 x0 x1 x2 x3 x4
noncomputable def law13_TreeDirs_T (N : Nat) (c0 : tree_Tree_Drop_c502_Ty) (c1 : tree_Tree_Many_fb98_Ty) (c2 : tree_Tree_Make_c502_Ty) (c3 : tree_New_1c12_Ty) (c4 : tree_New_644a_Ty) (c5 : law13_awake_Ty) (w0 : law13_TreeDirs_l0_Ty) (w1 : law13_TreeDirs_l1_Ty) (w2 : law13_TreeDirs_l2_Ty) (w3 : law13_TreeDirs_l3_Ty) {R : Type} (x0 : List (Int)) (k0 : (Bool) → Option R) : Option R :=
  c5
  (fun b58 => br (!b58)
   (k0 false)
   (br (decide ((60 : Int) < (Nat.cast (List.length x0) : Int)))
    (k0 true)
    (c4 (((bs [100]) , (true , (0 : Int))) :: (((bs [101]) , (true , (0 : Int))) :: ([] : List ((Sh.str.pair (Sh.bool.pair (Sh.int IntKind.i64))).T))))
     (fun i71 l72 => br (!(!(decide (i71 = (0 : Int)))))
      (k0 false)
      (k0 false))
     (fun i73 l74 i75 l76 => br (!(!(decide (i73 = (0 : Int)))))
      (w0
       (fun b554 => k0 b554)
       (k0 true)
       N x0 (0 : Int) i75 l76 (List.replicate (8 : Nat) false))
      (k0 false)))))
noncomputable def law13_TreeDirs (N : Nat) {R : Type} (x0 : List (Int)) (k0 : (Bool) → Option R) : Option R := law13_TreeDirs_T N (@tree_Tree_Drop_c502 N) (@tree_Tree_Many_fb98 N) (@tree_Tree_Make_c502 N) (@tree_New_1c12 N) (@tree_New_644a N) (@law13_awake N) (@law13_TreeDirs_l0 N) (@law13_TreeDirs_l1 N) (@law13_TreeDirs_l2 N) (@law13_TreeDirs_l3 N) x0 k0
end Go.Proofs.Ytppmkhgpljkljaa
