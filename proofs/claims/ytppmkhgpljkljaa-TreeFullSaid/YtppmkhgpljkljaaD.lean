/-
  The functions that the statement reaches, each as a function of Lean (printed by a program of this work).
-/
import Derived.Test.YtppmkhgpljkljaaGxZ
set_option linter.unusedVariables false
set_option maxRecDepth 100000
namespace Go.Proofs.Ytppmkhgpljkljaa
open Go.Gx
abbrev stringslite_IndexByte_Ty : Type 1 := {R : Type} → (ByteArray) → (Int) → ((Int) → Option R) → Option R
abbrev tree_New_1c12_l0_Ty : Type 1 := {R : Type} → ((Int) → (List (((ByteArray) × (ByteArray)) × ((Int) × (Bool)))) → Option R) → Nat → (Int) → (Int) → (Int) → (List (((ByteArray) × (ByteArray)) × ((Int) × (Bool)))) → Option R
abbrev tree_New_1c12_Ty : Type 1 := {R : Type} → ((Int) → (Int) → (List (((ByteArray) × (ByteArray)) × ((Int) × (Bool)))) → Option R) → Option R
noncomputable def tree_New_1c12_l0_T0 (N : Nat) {R : Type} (nx : (Int) → (Int) → (Int) → (List (((ByteArray) × (ByteArray)) × ((Int) × (Bool)))) → Option R) (k0 : (Int) → (List (((ByteArray) × (ByteArray)) × ((Int) × (Bool)))) → Option R) (x0 : Int) (x1 : Int) (x2 : Int) (x3 : List (((ByteArray) × (ByteArray)) × ((Int) × (Bool)))) : Option R :=
  br (decide (x1 < x0))
  (none)
  (k0 x2 x3)
noncomputable def tree_New_1c12_l0 (N : Nat) {R : Type} (k0 : (Int) → (List (((ByteArray) × (ByteArray)) × ((Int) × (Bool)))) → Option R) : Nat → (Int) → (Int) → (Int) → (List (((ByteArray) × (ByteArray)) × ((Int) × (Bool)))) → Option R
  | 0, _, _, _, _ => none
  | n + 1, x0, x1, x2, x3 => tree_New_1c12_l0_T0 N (fun x0 x1 x2 x3 => tree_New_1c12_l0 N k0 n x0 x1 x2 x3) k0 x0 x1 x2 x3
noncomputable def tree_New_1c12_T (N : Nat) (w0 : tree_New_1c12_l0_Ty) {R : Type} (k0 : (Int) → (Int) → (List (((ByteArray) × (ByteArray)) × ((Int) × (Bool)))) → Option R) : Option R :=
  w0
  (fun i0 l1 => k0 (0 : Int) i0 l1)
  N (0 : Int) (0 : Int) (0 : Int) ([] : List (((Sh.str.pair Sh.str).T) × (((Sh.int IntKind.i64).pair Sh.bool).T)))
noncomputable def tree_New_1c12 (N : Nat) {R : Type} (k0 : (Int) → (Int) → (List (((ByteArray) × (ByteArray)) × ((Int) × (Bool)))) → Option R) : Option R := tree_New_1c12_T N (@tree_New_1c12_l0 N) k0
abbrev stringslite_Index_Ty : Type 1 := {R : Type} → (ByteArray) → (ByteArray) → ((Int) → Option R) → Option R
noncomputable def stringslite_Index_T (N : Nat) (c0 : stringslite_IndexByte_Ty) {R : Type} (x0 : ByteArray) (x1 : ByteArray) (k0 : (Int) → Option R) : Option R :=
  br (!(decide ((Nat.cast (ByteArray.size x1) : Int) = (0 : Int))))
  (br (decide (x1 = x0))
   (k0 (0 : Int))
   (br (decide ((Nat.cast (ByteArray.size x1) : Int) = (1 : Int)))
    (br (inB (0 : Int) (ByteArray.size x1))
     (c0 x0 (bt x1 (0 : Int))
      (fun i5 => k0 i5))
     (none))
    (br (decide ((Nat.cast (ByteArray.size x0) : Int) ≤ (Nat.cast (ByteArray.size x1) : Int)))
     (k0 (-1 : Int))
     (none))))
  (k0 (0 : Int))
noncomputable def stringslite_Index (N : Nat) {R : Type} (x0 : ByteArray) (x1 : ByteArray) (k0 : (Int) → Option R) : Option R := stringslite_Index_T N @stringslite_IndexByte x0 x1 k0
abbrev stringslite_Cut_Ty : Type 1 := {R : Type} → (ByteArray) → (ByteArray) → ((ByteArray) → (ByteArray) → (Bool) → Option R) → Option R
noncomputable def stringslite_Cut_T (N : Nat) (c0 : stringslite_Index_Ty) {R : Type} (x0 : ByteArray) (x1 : ByteArray) (k0 : (ByteArray) → (ByteArray) → (Bool) → Option R) : Option R :=
  c0 x0 x1
  (fun i6 => br (decide ((0 : Int) ≤ i6))
   (br (leB i6 (ByteArray.size x0))
    (br (leB (IntKind.wrap .i64 (i6 + (Nat.cast (ByteArray.size x1) : Int))) (ByteArray.size x0))
     (k0 (ByteArray.extract x0 (0 : Nat) (Int.toNat i6)) (ByteArray.extract x0 (Int.toNat (IntKind.wrap .i64 (i6 + (Nat.cast (ByteArray.size x1) : Int)))) (ByteArray.size x0)) true)
     (none))
    (none))
   (k0 x0 (bs []) false))
noncomputable def stringslite_Cut (N : Nat) {R : Type} (x0 : ByteArray) (x1 : ByteArray) (k0 : (ByteArray) → (ByteArray) → (Bool) → Option R) : Option R := stringslite_Cut_T N (@stringslite_Index N) x0 x1 k0
abbrev strings_Cut_Ty : Type 1 := {R : Type} → (ByteArray) → (ByteArray) → ((ByteArray) → (ByteArray) → (Bool) → Option R) → Option R
noncomputable def strings_Cut_T (N : Nat) (c0 : stringslite_Cut_Ty) {R : Type} (x0 : ByteArray) (x1 : ByteArray) (k0 : (ByteArray) → (ByteArray) → (Bool) → Option R) : Option R :=
  c0 x0 x1
  (fun s7 s8 b9 => k0 s7 s8 b9)
noncomputable def strings_Cut (N : Nat) {R : Type} (x0 : ByteArray) (x1 : ByteArray) (k0 : (ByteArray) → (ByteArray) → (Bool) → Option R) : Option R := strings_Cut_T N (@stringslite_Cut N) x0 x1 k0
abbrev check_letter_Ty : Type 1 := {R : Type} → (Int) → ((Bool) → Option R) → Option R
noncomputable def check_letter_T (N : Nat) {R : Type} (x0 : Int) (k0 : (Bool) → Option R) : Option R :=
  br (decide ((97 : Int) ≤ x0))
  (br (!(decide (x0 ≤ (122 : Int))))
   (br (decide ((48 : Int) ≤ x0))
    (br (!(decide (x0 ≤ (57 : Int))))
     (br (!(decide (x0 = (46 : Int))))
      (k0 (decide (x0 = (95 : Int))))
      (k0 true))
     (k0 true))
    (br (!(decide (x0 = (46 : Int))))
     (k0 (decide (x0 = (95 : Int))))
     (k0 true)))
   (k0 true))
  (br (decide ((48 : Int) ≤ x0))
   (br (!(decide (x0 ≤ (57 : Int))))
    (br (!(decide (x0 = (46 : Int))))
     (k0 (decide (x0 = (95 : Int))))
     (k0 true))
    (k0 true))
   (br (!(decide (x0 = (46 : Int))))
    (k0 (decide (x0 = (95 : Int))))
    (k0 true)))
noncomputable def check_letter (N : Nat) {R : Type} (x0 : Int) (k0 : (Bool) → Option R) : Option R := check_letter_T N x0 k0
abbrev check_part_l0_Ty : Type 1 := {R : Type} → ((ByteArray) → (Bool) → Option R) → ((ByteArray) → Option R) → Nat → (ByteArray) → (Int) → (Int) → Option R
abbrev check_part_Ty : Type 1 := {R : Type} → (ByteArray) → ((Bool) → Option R) → Option R
noncomputable def check_part_l0_T0 (N : Nat) (c0 : check_letter_Ty) {R : Type} (nx : (ByteArray) → (Int) → (Int) → Option R) (k0 : (ByteArray) → (Bool) → Option R) (k1 : (ByteArray) → Option R) (x0 : ByteArray) (x1 : Int) (x2 : Int) : Option R :=
  br (decide (x2 < x1))
  (br (inB x2 (ByteArray.size x0))
   (c0 (bt x0 x2)
    (fun b13 => br (!b13)
     (k0 x0 false)
     (nx x0 x1 (IntKind.wrap .i64 (x2 + (1 : Int))))))
   (none))
  (k1 x0)
noncomputable def check_part_l0 (N : Nat) {R : Type} (k0 : (ByteArray) → (Bool) → Option R) (k1 : (ByteArray) → Option R) : Nat → (ByteArray) → (Int) → (Int) → Option R
  | 0, _, _, _ => none
  | n + 1, x0, x1, x2 => check_part_l0_T0 N (@check_letter N) (fun x0 x1 x2 => check_part_l0 N k0 k1 n x0 x1 x2) k0 k1 x0 x1 x2
noncomputable def check_part_T (N : Nat) (c0 : check_letter_Ty) (w0 : check_part_l0_Ty) {R : Type} (x0 : ByteArray) (k0 : (Bool) → Option R) : Option R :=
  w0
  (fun s14 b15 => k0 b15)
  (fun s16 => br (!(decide (s16 = (bs []))))
   (br (!(decide (s16 = (bs [46]))))
    (k0 (!(decide (s16 = (bs [46, 46])))))
    (k0 false))
   (k0 false))
  N x0 (Nat.cast (ByteArray.size x0) : Int) (0 : Int)
noncomputable def check_part (N : Nat) {R : Type} (x0 : ByteArray) (k0 : (Bool) → Option R) : Option R := check_part_T N (@check_letter N) (@check_part_l0 N) x0 k0
abbrev check_Name_Ty : Type 1 := {R : Type} → (ByteArray) → ((Bool) → Option R) → Option R
noncomputable def check_Name_T (N : Nat) (c0 : check_part_Ty) (c1 : strings_Cut_Ty) {R : Type} (x0 : ByteArray) (k0 : (Bool) → Option R) : Option R :=
  br (decide ((8 : Int) < (Nat.cast (ByteArray.size x0) : Int)))
  (k0 false)
  (c1 x0 (bs [47])
   (fun s10 s11 b12 => c0 s10
    (fun b17 => br b17
     (br (!(!b12))
      (c0 s11
       (fun b18 => k0 b18))
      (k0 true))
     (k0 false))))
noncomputable def check_Name (N : Nat) {R : Type} (x0 : ByteArray) (k0 : (Bool) → Option R) : Option R := check_Name_T N (@check_part N) (@strings_Cut N) x0 k0
abbrev names_May_Ty : Type 1 := {R : Type} → (ByteArray) → ((Bool) → Option R) → Option R
noncomputable def names_May_T (N : Nat) (c0 : check_Name_Ty) {R : Type} (x0 : ByteArray) (k0 : (Bool) → Option R) : Option R :=
  c0 x0
  (fun b19 => k0 b19)
noncomputable def names_May (N : Nat) {R : Type} (x0 : ByteArray) (k0 : (Bool) → Option R) : Option R := names_May_T N (@check_Name N) x0 k0
abbrev names_Split_Ty : Type 1 := {R : Type} → (ByteArray) → ((ByteArray) → (ByteArray) → Option R) → Option R
noncomputable def names_Split_T (N : Nat) (c0 : strings_Cut_Ty) (c1 : names_May_Ty) {R : Type} (x0 : ByteArray) (k0 : (ByteArray) → (ByteArray) → Option R) : Option R :=
  c1 x0
  (fun b20 => br (!b20)
   (k0 (bs []) (bs []))
   (c0 x0 (bs [47])
    (fun s21 s22 b23 => br (!b23)
     (k0 (bs []) s21)
     (k0 s21 s22))))
noncomputable def names_Split (N : Nat) {R : Type} (x0 : ByteArray) (k0 : (ByteArray) → (ByteArray) → Option R) : Option R := names_Split_T N (@strings_Cut N) (@names_May N) x0 k0
abbrev tree_of_Ty : Type 1 := {R : Type} → (ByteArray) → ((ByteArray) → (ByteArray) → Option R) → Option R
noncomputable def tree_of_T (N : Nat) (c0 : names_Split_Ty) {R : Type} (x0 : ByteArray) (k0 : (ByteArray) → (ByteArray) → Option R) : Option R :=
  c0 x0
  (fun s24 s25 => k0 s24 s25)
noncomputable def tree_of (N : Nat) {R : Type} (x0 : ByteArray) (k0 : (ByteArray) → (ByteArray) → Option R) : Option R := tree_of_T N (@names_Split N) x0 k0
abbrev tree_Tree_above_2de7_Ty : Type 1 := {R : Type} → (ByteArray) → (ByteArray) → (Int) → (List (((ByteArray) × (ByteArray)) × ((Int) × (Bool)))) → ((Int) → (Int) → (List (((ByteArray) × (ByteArray)) × ((Int) × (Bool)))) → Option R) → Option R
noncomputable def tree_Tree_above_2de7_T (N : Nat) {R : Type} (x0 : ByteArray) (x1 : ByteArray) (x2 : Int) (x3 : List (((ByteArray) × (ByteArray)) × ((Int) × (Bool)))) (k0 : (Int) → (Int) → (List (((ByteArray) × (ByteArray)) × ((Int) × (Bool)))) → Option R) : Option R :=
  br (decide (x1 = (bs [])))
  (k0 (65282 : Int) x2 x3)
  (br (decide (x0 = (bs [])))
   (k0 (0 : Int) x2 x3)
   (br ((Option.isSome (mfind (.pair .str .str) (.pair (.int .i64) .bool) x3 ((bs []) , x0))) == (Option.isSome (mfind (.pair .str .str) (.pair (.int .i64) .bool) x3 ((bs []) , x0))))
    (br (!(Option.isSome (mfind (.pair .str .str) (.pair (.int .i64) .bool) x3 ((bs []) , x0))))
     (k0 (65282 : Int) x2 x3)
     (br (!(Option.getD (mfind (.pair .str .str) (.pair (.int .i64) .bool) x3 ((bs []) , x0)) (Sh.zero (.pair (.int .i64) .bool))).2)
      (k0 (65300 : Int) x2 x3)
      (k0 (0 : Int) x2 x3)))
    (none)))
noncomputable def tree_Tree_above_2de7 (N : Nat) {R : Type} (x0 : ByteArray) (x1 : ByteArray) (x2 : Int) (x3 : List (((ByteArray) × (ByteArray)) × ((Int) × (Bool)))) (k0 : (Int) → (Int) → (List (((ByteArray) × (ByteArray)) × ((Int) × (Bool)))) → Option R) : Option R := tree_Tree_above_2de7_T N x0 x1 x2 x3 k0
abbrev tree_Tree_Make_c502_Ty : Type 1 := {R : Type} → (ByteArray) → (Bool) → (Int) → (List (((ByteArray) × (ByteArray)) × ((Int) × (Bool)))) → ((Int) → (Int) → (Int) → (List (((ByteArray) × (ByteArray)) × ((Int) × (Bool)))) → Option R) → Option R
noncomputable def tree_Tree_Make_c502_T (N : Nat) (c0 : tree_Tree_above_2de7_Ty) (c1 : tree_of_Ty) {R : Type} (x0 : ByteArray) (x1 : Bool) (x2 : Int) (x3 : List (((ByteArray) × (ByteArray)) × ((Int) × (Bool)))) (k0 : (Int) → (Int) → (Int) → (List (((ByteArray) × (ByteArray)) × ((Int) × (Bool)))) → Option R) : Option R :=
  c1 x0
  (fun s26 s27 => c0 s26 s27 x2 x3
   (fun i28 i29 l30 => br (!(decide (i28 = (0 : Int))))
    (k0 (-1 : Int) i28 i29 l30)
    (br ((Option.isSome (mfind (.pair .str .str) (.pair (.int .i64) .bool) l30 (s26 , s27))) == (Option.isSome (mfind (.pair .str .str) (.pair (.int .i64) .bool) l30 (s26 , s27))))
     (br (Option.isSome (mfind (.pair .str .str) (.pair (.int .i64) .bool) l30 (s26 , s27)))
      (k0 (-1 : Int) (65297 : Int) i29 l30)
      (br x1
       (br (!(decide (s26 = (bs []))))
        (k0 (-1 : Int) (65302 : Int) i29 l30)
        (br (decide ((8 : Int) ≤ (Nat.cast (List.length l30) : Int)))
         (k0 (-1 : Int) (65308 : Int) i29 l30)
         (k0 (IntKind.wrap .i64 ((IntKind.wrap .i64 (i29 + (1 : Int))) - (1 : Int))) (0 : Int) (IntKind.wrap .i64 (i29 + (1 : Int))) (mput (.pair .str .str) (.pair (.int .i64) .bool) l30 (s26 , s27) (i29 , x1)))))
       (br (decide ((8 : Int) ≤ (Nat.cast (List.length l30) : Int)))
        (k0 (-1 : Int) (65308 : Int) i29 l30)
        (k0 (IntKind.wrap .i64 ((IntKind.wrap .i64 (i29 + (1 : Int))) - (1 : Int))) (0 : Int) (IntKind.wrap .i64 (i29 + (1 : Int))) (mput (.pair .str .str) (.pair (.int .i64) .bool) l30 (s26 , s27) (i29 , x1))))))
     (none))))
noncomputable def tree_Tree_Make_c502 (N : Nat) {R : Type} (x0 : ByteArray) (x1 : Bool) (x2 : Int) (x3 : List (((ByteArray) × (ByteArray)) × ((Int) × (Bool)))) (k0 : (Int) → (Int) → (Int) → (List (((ByteArray) × (ByteArray)) × ((Int) × (Bool)))) → Option R) : Option R := tree_Tree_Make_c502_T N (@tree_Tree_above_2de7 N) (@tree_of N) x0 x1 x2 x3 k0
abbrev tree_Tree_get_fb98_Ty : Type 1 := {R : Type} → (ByteArray) → (Int) → (List (((ByteArray) × (ByteArray)) × ((Int) × (Bool)))) → ((Int) → (Bool) → (Int) → (Int) → (List (((ByteArray) × (ByteArray)) × ((Int) × (Bool)))) → Option R) → Option R
noncomputable def tree_Tree_get_fb98_T (N : Nat) (c0 : tree_Tree_above_2de7_Ty) (c1 : tree_of_Ty) {R : Type} (x0 : ByteArray) (x1 : Int) (x2 : List (((ByteArray) × (ByteArray)) × ((Int) × (Bool)))) (k0 : (Int) → (Bool) → (Int) → (Int) → (List (((ByteArray) × (ByteArray)) × ((Int) × (Bool)))) → Option R) : Option R :=
  c1 x0
  (fun s35 s36 => c0 s35 s36 x1 x2
   (fun i37 i38 l39 => br (!(decide (i37 = (0 : Int))))
    (k0 (0 : Int) false i37 i38 l39)
    (br ((Option.isSome (mfind (.pair .str .str) (.pair (.int .i64) .bool) l39 (s35 , s36))) == (Option.isSome (mfind (.pair .str .str) (.pair (.int .i64) .bool) l39 (s35 , s36))))
     (br (!(Option.isSome (mfind (.pair .str .str) (.pair (.int .i64) .bool) l39 (s35 , s36))))
      (k0 (0 : Int) false (65282 : Int) i38 l39)
      (k0 (Option.getD (mfind (.pair .str .str) (.pair (.int .i64) .bool) l39 (s35 , s36)) (Sh.zero (.pair (.int .i64) .bool))).1 (Option.getD (mfind (.pair .str .str) (.pair (.int .i64) .bool) l39 (s35 , s36)) (Sh.zero (.pair (.int .i64) .bool))).2 (0 : Int) i38 l39))
     (none))))
noncomputable def tree_Tree_get_fb98 (N : Nat) {R : Type} (x0 : ByteArray) (x1 : Int) (x2 : List (((ByteArray) × (ByteArray)) × ((Int) × (Bool)))) (k0 : (Int) → (Bool) → (Int) → (Int) → (List (((ByteArray) × (ByteArray)) × ((Int) × (Bool)))) → Option R) : Option R := tree_Tree_get_fb98_T N (@tree_Tree_above_2de7 N) (@tree_of N) x0 x1 x2 k0
abbrev tree_Tree_Find_fb98_Ty : Type 1 := {R : Type} → (ByteArray) → (Int) → (List (((ByteArray) × (ByteArray)) × ((Int) × (Bool)))) → ((Int) → (Bool) → (Int) → (Int) → (List (((ByteArray) × (ByteArray)) × ((Int) × (Bool)))) → Option R) → Option R
noncomputable def tree_Tree_Find_fb98_T (N : Nat) (c0 : tree_Tree_get_fb98_Ty) {R : Type} (x0 : ByteArray) (x1 : Int) (x2 : List (((ByteArray) × (ByteArray)) × ((Int) × (Bool)))) (k0 : (Int) → (Bool) → (Int) → (Int) → (List (((ByteArray) × (ByteArray)) × ((Int) × (Bool)))) → Option R) : Option R :=
  c0 x0 x1 x2
  (fun i40 b41 i42 i43 l44 => br (!(decide (i42 = (0 : Int))))
   (k0 (-1 : Int) false i42 i43 l44)
   (k0 i40 b41 (0 : Int) i43 l44))
noncomputable def tree_Tree_Find_fb98 (N : Nat) {R : Type} (x0 : ByteArray) (x1 : Int) (x2 : List (((ByteArray) × (ByteArray)) × ((Int) × (Bool)))) (k0 : (Int) → (Bool) → (Int) → (Int) → (List (((ByteArray) × (ByteArray)) × ((Int) × (Bool)))) → Option R) : Option R := tree_Tree_Find_fb98_T N (@tree_Tree_get_fb98 N) x0 x1 x2 k0
abbrev tree_Tree_Len_a28d_Ty : Type 1 := {R : Type} → (Int) → (List (((ByteArray) × (ByteArray)) × ((Int) × (Bool)))) → ((Int) → (Int) → (List (((ByteArray) × (ByteArray)) × ((Int) × (Bool)))) → Option R) → Option R
noncomputable def tree_Tree_Len_a28d_T (N : Nat) {R : Type} (x0 : Int) (x1 : List (((ByteArray) × (ByteArray)) × ((Int) × (Bool)))) (k0 : (Int) → (Int) → (List (((ByteArray) × (ByteArray)) × ((Int) × (Bool)))) → Option R) : Option R :=
  k0 (Nat.cast (List.length x1) : Int) x0 x1
noncomputable def tree_Tree_Len_a28d (N : Nat) {R : Type} (x0 : Int) (x1 : List (((ByteArray) × (ByteArray)) × ((Int) × (Bool)))) (k0 : (Int) → (Int) → (List (((ByteArray) × (ByteArray)) × ((Int) × (Bool)))) → Option R) : Option R := tree_Tree_Len_a28d_T N x0 x1 k0
abbrev law13_awake_Ty : Type 1 := {R : Type} → ((Bool) → Option R) → Option R
noncomputable def law13_awake_T (N : Nat) (c0 : tree_Tree_Len_a28d_Ty) (c1 : tree_Tree_Find_fb98_Ty) (c2 : tree_Tree_Make_c502_Ty) (c3 : tree_New_1c12_Ty) {R : Type} (k0 : (Bool) → Option R) : Option R :=
  c3
  (fun i2 i3 l4 => br (!(!(decide (i2 = (0 : Int)))))
   (c2 (bs [97]) false i3 l4
    (fun i31 i32 i33 l34 => c1 (bs [97]) i33 l34
     (fun i45 b46 i47 i48 l49 => c1 (bs [98]) i48 l49
      (fun i50 b51 i52 i53 l54 => br (decide (i32 = (0 : Int)))
       (br (decide (i31 = (0 : Int)))
        (br (decide (i47 = (0 : Int)))
         (br (decide (i45 = (0 : Int)))
          (br (!b46)
           (br (decide (i52 = (65282 : Int)))
            (c0 i53 l54
             (fun i55 i56 l57 => k0 (decide (i55 = (1 : Int)))))
            (k0 false))
           (k0 false))
          (k0 false))
         (k0 false))
        (k0 false))
       (k0 false)))))
   (k0 false))
noncomputable def law13_awake (N : Nat) {R : Type} (k0 : (Bool) → Option R) : Option R := law13_awake_T N (@tree_Tree_Len_a28d N) (@tree_Tree_Find_fb98 N) (@tree_Tree_Make_c502 N) (@tree_New_1c12 N) k0
abbrev tree_Tree_many_fb98_Ty : Type 1 := {R : Type} → (ByteArray) → (Int) → (List (((ByteArray) × (ByteArray)) × ((Int) × (Bool)))) → Option R
noncomputable def tree_Tree_many_fb98_T (N : Nat) {R : Type} (x0 : ByteArray) (x1 : Int) (x2 : List (((ByteArray) × (ByteArray)) × ((Int) × (Bool)))) : Option R :=
  none
noncomputable def tree_Tree_many_fb98 (N : Nat) {R : Type} (x0 : ByteArray) (x1 : Int) (x2 : List (((ByteArray) × (ByteArray)) × ((Int) × (Bool)))) : Option R := tree_Tree_many_fb98_T N x0 x1 x2
abbrev tree_Tree_Drop_c502_Ty : Type 1 := {R : Type} → (ByteArray) → (Bool) → (Int) → (List (((ByteArray) × (ByteArray)) × ((Int) × (Bool)))) → ((Int) → (Int) → (List (((ByteArray) × (ByteArray)) × ((Int) × (Bool)))) → Option R) → Option R
noncomputable def tree_Tree_Drop_c502_T (N : Nat) (c0 : tree_of_Ty) (c1 : tree_Tree_many_fb98_Ty) (c2 : tree_Tree_get_fb98_Ty) {R : Type} (x0 : ByteArray) (x1 : Bool) (x2 : Int) (x3 : List (((ByteArray) × (ByteArray)) × ((Int) × (Bool)))) (k0 : (Int) → (Int) → (List (((ByteArray) × (ByteArray)) × ((Int) × (Bool)))) → Option R) : Option R :=
  c2 x0 x2 x3
  (fun i75 b76 i77 i78 l79 => br (!(decide (i77 = (0 : Int))))
   (k0 i77 i78 l79)
   (br (!x1)
    (br b76
     (k0 (65301 : Int) i78 l79)
     (br x1
      (br (!b76)
       (k0 (65300 : Int) i78 l79)
       (br x1
        (c1 x0 i78 l79)
        (c0 x0
         (fun s80 s81 => k0 (0 : Int) i78 (mdel (.pair .str .str) (.pair (.int .i64) .bool) l79 (s80 , s81))))))
      (br x1
       (c1 x0 i78 l79)
       (c0 x0
        (fun s82 s83 => k0 (0 : Int) i78 (mdel (.pair .str .str) (.pair (.int .i64) .bool) l79 (s82 , s83)))))))
    (br x1
     (br (!b76)
      (k0 (65300 : Int) i78 l79)
      (br x1
       (c1 x0 i78 l79)
       (c0 x0
        (fun s84 s85 => k0 (0 : Int) i78 (mdel (.pair .str .str) (.pair (.int .i64) .bool) l79 (s84 , s85))))))
     (br x1
      (c1 x0 i78 l79)
      (c0 x0
       (fun s86 s87 => k0 (0 : Int) i78 (mdel (.pair .str .str) (.pair (.int .i64) .bool) l79 (s86 , s87))))))))
noncomputable def tree_Tree_Drop_c502 (N : Nat) {R : Type} (x0 : ByteArray) (x1 : Bool) (x2 : Int) (x3 : List (((ByteArray) × (ByteArray)) × ((Int) × (Bool)))) (k0 : (Int) → (Int) → (List (((ByteArray) × (ByteArray)) × ((Int) × (Bool)))) → Option R) : Option R := tree_Tree_Drop_c502_T N (@tree_of N) (@tree_Tree_many_fb98 N) (@tree_Tree_get_fb98 N) x0 x1 x2 x3 k0
abbrev law13_TreeFull_l0_Ty : Type 1 := {R : Type} → ((Bool) → Option R) → (Option R) → Nat → (List (Int)) → (Nat) → (Int) → (Int) → (Int) → (Int) → (List (((ByteArray) × (ByteArray)) × ((Int) × (Bool)))) → (Nat) → (List (Bool)) → Option R
abbrev law13_TreeFull_Ty : Type 1 := {R : Type} → (List (Int)) → ((Bool) → Option R) → Option R
noncomputable def law13_TreeFull_l0_T0 (N : Nat) (c0 : tree_Tree_Drop_c502_Ty) (c1 : tree_Tree_Len_a28d_Ty) (c2 : tree_Tree_Make_c502_Ty) (c3 : tree_New_1c12_Ty) (c4 : law13_awake_Ty) {R : Type} (nx : (List (Int)) → (Nat) → (Int) → (Int) → (Int) → (Int) → (List (((ByteArray) × (ByteArray)) × ((Int) × (Bool)))) → (Nat) → (List (Bool)) → Option R) (k0 : (Bool) → Option R) (k1 : Option R) (x0 : List (Int)) (x1 : Nat) (x2 : Int) (x3 : Int) (x4 : Int) (x5 : Int) (x6 : List (((ByteArray) × (ByteArray)) × ((Int) × (Bool)))) (x7 : Nat) (x8 : List (Bool)) : Option R :=
  br (decide (x4 < (Nat.cast (List.length x0) : Int)))
  (br (inB x4 (List.length x0))
   (br (fits (0 : Nat) (1 : Nat) (List.set (List.replicate (1 : Nat) (Sh.zero (.int .u8))) (0 : Nat) (IntKind.wrap .u8 ((97 : Int) + (IntKind.wrap .u8 (Int.tmod (IntKind.wrap .i64 (shrI .u8 (List.getD x0 (Int.toNat x4) (Sh.zero (.int .u8))) (1 : Int))) (26 : Int)))))))
    (br (inB x4 (List.length x0))
     (br (decide ((band .u8 (List.getD x0 (Int.toNat x4) (Sh.zero (.int .u8))) (1 : Int)) = (0 : Int)))
      (c2 (mkStr (sub (List.set (List.replicate (1 : Nat) (Sh.zero (.int .u8))) (0 : Nat) (IntKind.wrap .u8 ((97 : Int) + (IntKind.wrap .u8 (Int.tmod (IntKind.wrap .i64 (shrI .u8 (List.getD x0 (Int.toNat x4) (Sh.zero (.int .u8))) (1 : Int))) (26 : Int)))))) (0 : Nat) (1 : Nat))) false x5 x6
       (fun i62 i63 i64 l65 => br (inB (Int.tmod (IntKind.wrap .i64 (shrI .u8 (List.getD x0 (Int.toNat x4) (Sh.zero (.int .u8))) (1 : Int))) (26 : Int)) x1)
        (br (decide ((Int.toNat (Int.tmod (IntKind.wrap .i64 (shrI .u8 (List.getD x0 (Int.toNat x4) (Sh.zero (.int .u8))) (1 : Int))) (26 : Int))) < x7))
         (br (List.getD x8 (Int.toNat (Int.tmod (IntKind.wrap .i64 (shrI .u8 (List.getD x0 (Int.toNat x4) (Sh.zero (.int .u8))) (1 : Int))) (26 : Int))) (Sh.zero .bool))
          (br (!(decide (i63 = (65297 : Int))))
           (k0 false)
           (c1 i64 l65
            (fun i66 i67 l68 => br (!(decide (i66 = x2)))
             (k0 false)
             (nx x0 x1 x2 x3 (IntKind.wrap .i64 (x4 + (1 : Int))) i67 l68 x7 x8))))
          (br (decide (x2 = (8 : Int)))
           (br (!(decide (i63 = (65308 : Int))))
            (k0 false)
            (c1 i64 l65
             (fun i69 i70 l71 => br (!(decide (i69 = x2)))
              (k0 false)
              (nx x0 x1 x2 x3 (IntKind.wrap .i64 (x4 + (1 : Int))) i70 l71 x7 x8))))
           (br (!(!(decide (i63 = (0 : Int)))))
            (br (!(decide (i62 = (IntKind.wrap .i64 (x3 + (1 : Int))))))
             (k0 false)
             (br (inB (Int.tmod (IntKind.wrap .i64 (shrI .u8 (List.getD x0 (Int.toNat x4) (Sh.zero (.int .u8))) (1 : Int))) (26 : Int)) x1)
              (br (decide ((Int.toNat (Int.tmod (IntKind.wrap .i64 (shrI .u8 (List.getD x0 (Int.toNat x4) (Sh.zero (.int .u8))) (1 : Int))) (26 : Int))) < x7))
               (c1 i64 l65
                (fun i72 i73 l74 => br (!(decide (i72 = (IntKind.wrap .i64 (x2 + (1 : Int))))))
                 (k0 false)
                 (nx x0 x1 (IntKind.wrap .i64 (x2 + (1 : Int))) i62 (IntKind.wrap .i64 (x4 + (1 : Int))) i73 l74 x7 (List.set x8 (Int.toNat (Int.tmod (IntKind.wrap .i64 (shrI .u8 (List.getD x0 (Int.toNat x4) (Sh.zero (.int .u8))) (1 : Int))) (26 : Int))) true))))
               (none))
              (none)))
            (k0 false))))
         (none))
        (none)))
      (c0 (mkStr (sub (List.set (List.replicate (1 : Nat) (Sh.zero (.int .u8))) (0 : Nat) (IntKind.wrap .u8 ((97 : Int) + (IntKind.wrap .u8 (Int.tmod (IntKind.wrap .i64 (shrI .u8 (List.getD x0 (Int.toNat x4) (Sh.zero (.int .u8))) (1 : Int))) (26 : Int)))))) (0 : Nat) (1 : Nat))) false x5 x6
       (fun i88 i89 l90 => br (inB (Int.tmod (IntKind.wrap .i64 (shrI .u8 (List.getD x0 (Int.toNat x4) (Sh.zero (.int .u8))) (1 : Int))) (26 : Int)) x1)
        (br (decide ((Int.toNat (Int.tmod (IntKind.wrap .i64 (shrI .u8 (List.getD x0 (Int.toNat x4) (Sh.zero (.int .u8))) (1 : Int))) (26 : Int))) < x7))
         (br (!(!((decide (i88 = (0 : Int))) == (List.getD x8 (Int.toNat (Int.tmod (IntKind.wrap .i64 (shrI .u8 (List.getD x0 (Int.toNat x4) (Sh.zero (.int .u8))) (1 : Int))) (26 : Int))) (Sh.zero .bool)))))
          (br (!(decide (i88 = (0 : Int))))
           (br (!(decide (i88 = (65282 : Int))))
            (k0 false)
            (br (inB (Int.tmod (IntKind.wrap .i64 (shrI .u8 (List.getD x0 (Int.toNat x4) (Sh.zero (.int .u8))) (1 : Int))) (26 : Int)) x1)
             (br (decide ((Int.toNat (Int.tmod (IntKind.wrap .i64 (shrI .u8 (List.getD x0 (Int.toNat x4) (Sh.zero (.int .u8))) (1 : Int))) (26 : Int))) < x7))
              (br (List.getD x8 (Int.toNat (Int.tmod (IntKind.wrap .i64 (shrI .u8 (List.getD x0 (Int.toNat x4) (Sh.zero (.int .u8))) (1 : Int))) (26 : Int))) (Sh.zero .bool))
               (br (inB (Int.tmod (IntKind.wrap .i64 (shrI .u8 (List.getD x0 (Int.toNat x4) (Sh.zero (.int .u8))) (1 : Int))) (26 : Int)) x1)
                (br (decide ((Int.toNat (Int.tmod (IntKind.wrap .i64 (shrI .u8 (List.getD x0 (Int.toNat x4) (Sh.zero (.int .u8))) (1 : Int))) (26 : Int))) < x7))
                 (c1 i89 l90
                  (fun i91 i92 l93 => br (!(decide (i91 = (IntKind.wrap .i64 (x2 - (1 : Int))))))
                   (k0 false)
                   (nx x0 x1 (IntKind.wrap .i64 (x2 - (1 : Int))) x3 (IntKind.wrap .i64 (x4 + (1 : Int))) i92 l93 x7 (List.set x8 (Int.toNat (Int.tmod (IntKind.wrap .i64 (shrI .u8 (List.getD x0 (Int.toNat x4) (Sh.zero (.int .u8))) (1 : Int))) (26 : Int))) false))))
                 (none))
                (none))
               (c1 i89 l90
                (fun i94 i95 l96 => br (!(decide (i94 = x2)))
                 (k0 false)
                 (nx x0 x1 x2 x3 (IntKind.wrap .i64 (x4 + (1 : Int))) i95 l96 x7 x8))))
              (none))
             (none)))
           (br (inB (Int.tmod (IntKind.wrap .i64 (shrI .u8 (List.getD x0 (Int.toNat x4) (Sh.zero (.int .u8))) (1 : Int))) (26 : Int)) x1)
            (br (decide ((Int.toNat (Int.tmod (IntKind.wrap .i64 (shrI .u8 (List.getD x0 (Int.toNat x4) (Sh.zero (.int .u8))) (1 : Int))) (26 : Int))) < x7))
             (br (List.getD x8 (Int.toNat (Int.tmod (IntKind.wrap .i64 (shrI .u8 (List.getD x0 (Int.toNat x4) (Sh.zero (.int .u8))) (1 : Int))) (26 : Int))) (Sh.zero .bool))
              (br (inB (Int.tmod (IntKind.wrap .i64 (shrI .u8 (List.getD x0 (Int.toNat x4) (Sh.zero (.int .u8))) (1 : Int))) (26 : Int)) x1)
               (br (decide ((Int.toNat (Int.tmod (IntKind.wrap .i64 (shrI .u8 (List.getD x0 (Int.toNat x4) (Sh.zero (.int .u8))) (1 : Int))) (26 : Int))) < x7))
                (c1 i89 l90
                 (fun i97 i98 l99 => br (!(decide (i97 = (IntKind.wrap .i64 (x2 - (1 : Int))))))
                  (k0 false)
                  (nx x0 x1 (IntKind.wrap .i64 (x2 - (1 : Int))) x3 (IntKind.wrap .i64 (x4 + (1 : Int))) i98 l99 x7 (List.set x8 (Int.toNat (Int.tmod (IntKind.wrap .i64 (shrI .u8 (List.getD x0 (Int.toNat x4) (Sh.zero (.int .u8))) (1 : Int))) (26 : Int))) false))))
                (none))
               (none))
              (c1 i89 l90
               (fun i100 i101 l102 => br (!(decide (i100 = x2)))
                (k0 false)
                (nx x0 x1 x2 x3 (IntKind.wrap .i64 (x4 + (1 : Int))) i101 l102 x7 x8))))
             (none))
            (none)))
          (k0 false))
         (none))
        (none))))
     (none))
    (none))
   (none))
  (k1)
noncomputable def law13_TreeFull_l0 (N : Nat) {R : Type} (k0 : (Bool) → Option R) (k1 : Option R) : Nat → (List (Int)) → (Nat) → (Int) → (Int) → (Int) → (Int) → (List (((ByteArray) × (ByteArray)) × ((Int) × (Bool)))) → (Nat) → (List (Bool)) → Option R
  | 0, _, _, _, _, _, _, _, _, _ => none
  | n + 1, x0, x1, x2, x3, x4, x5, x6, x7, x8 => law13_TreeFull_l0_T0 N (@tree_Tree_Drop_c502 N) (@tree_Tree_Len_a28d N) (@tree_Tree_Make_c502 N) (@tree_New_1c12 N) (@law13_awake N) (fun x0 x1 x2 x3 x4 x5 x6 x7 x8 => law13_TreeFull_l0 N k0 k1 n x0 x1 x2 x3 x4 x5 x6 x7 x8) k0 k1 x0 x1 x2 x3 x4 x5 x6 x7 x8
noncomputable def law13_TreeFull_T (N : Nat) (c0 : tree_Tree_Drop_c502_Ty) (c1 : tree_Tree_Len_a28d_Ty) (c2 : tree_Tree_Make_c502_Ty) (c3 : tree_New_1c12_Ty) (c4 : law13_awake_Ty) (w0 : law13_TreeFull_l0_Ty) {R : Type} (x0 : List (Int)) (k0 : (Bool) → Option R) : Option R :=
  c4
  (fun b58 => br (!b58)
   (k0 false)
   (c3
    (fun i59 i60 l61 => br (!(!(decide (i59 = (0 : Int)))))
     (br (decide ((200 : Int) < (Nat.cast (List.length x0) : Int)))
      (br (decide (i59 = (0 : Int)))
       (k0 true)
       (k0 false))
      (w0
       (fun b103 => k0 b103)
       (k0 true)
       N x0 (26 : Nat) (0 : Int) (-1 : Int) (0 : Int) i60 l61 (26 : Nat) (List.replicate (Int.toNat (26 : Int)) (Sh.zero .bool))))
     (br (decide (i59 = (0 : Int)))
      (k0 true)
      (k0 false)))))
noncomputable def law13_TreeFull (N : Nat) {R : Type} (x0 : List (Int)) (k0 : (Bool) → Option R) : Option R := law13_TreeFull_T N (@tree_Tree_Drop_c502 N) (@tree_Tree_Len_a28d N) (@tree_Tree_Make_c502 N) (@tree_New_1c12 N) (@law13_awake N) (@law13_TreeFull_l0 N) x0 k0
end Go.Proofs.Ytppmkhgpljkljaa
