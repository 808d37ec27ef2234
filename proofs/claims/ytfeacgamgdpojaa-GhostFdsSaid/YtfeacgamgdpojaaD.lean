/-
  The functions that the statement reaches, each as a function of Lean (printed by a program of this work).
-/
import Derived.Test.YtfeacgamgdpojaaGx5
set_option linter.unusedVariables false
set_option maxRecDepth 100000
namespace Go.Proofs.Ytfeacgamgdpojaa
open Go.Gx
abbrev stringslite_IndexByte_Ty : Type 1 := {R : Type} → (ByteArray) → (Int) → ((Int) → Option R) → Option R
abbrev term_New_Ty : Type 1 := {R : Type} → ((List ((Int) × ((Int) × ((Int) × ((Int) × ((Int) × (Int))))))) → (List (((Int) × ((Int) × ((Int) × ((Int) × ((Int) × (Int)))))) × (Int))) → (List ((Int) × (Int))) → Option R) → Option R
noncomputable def term_New_T (N : Nat) {R : Type} (k0 : (List ((Int) × ((Int) × ((Int) × ((Int) × ((Int) × (Int))))))) → (List (((Int) × ((Int) × ((Int) × ((Int) × ((Int) × (Int)))))) × (Int))) → (List ((Int) × (Int))) → Option R) : Option R :=
  k0 ([] : List (((Sh.int IntKind.i64).pair
    ((Sh.int IntKind.i64).pair
      ((Sh.int IntKind.u16).pair ((Sh.int IntKind.i64).pair ((Sh.int IntKind.i64).pair (Sh.int IntKind.i64)))))).T)) ([] : List ((((Sh.int IntKind.i64).pair
    ((Sh.int IntKind.i64).pair
      ((Sh.int IntKind.u16).pair ((Sh.int IntKind.i64).pair ((Sh.int IntKind.i64).pair (Sh.int IntKind.i64)))))).T) × ((Sh.int IntKind.i64).T))) ([] : List (((Sh.int IntKind.i64).T) × ((Sh.int IntKind.i64).T)))
noncomputable def term_New (N : Nat) {R : Type} (k0 : (List ((Int) × ((Int) × ((Int) × ((Int) × ((Int) × (Int))))))) → (List (((Int) × ((Int) × ((Int) × ((Int) × ((Int) × (Int)))))) × (Int))) → (List ((Int) × (Int))) → Option R) : Option R := term_New_T N k0
abbrev wide_May_Ty : Type 1 := {R : Type} → (Int) → ((Bool) → Option R) → Option R
noncomputable def wide_May_T (N : Nat) {R : Type} (x0 : Int) (k0 : (Bool) → Option R) : Option R :=
  br (!(decide (x0 = (1 : Int))))
  (br (!(decide (x0 = (8 : Int))))
   (k0 (decide (x0 = (16 : Int))))
   (k0 true))
  (k0 true)
noncomputable def wide_May (N : Nat) {R : Type} (x0 : Int) (k0 : (Bool) → Option R) : Option R := wide_May_T N x0 k0
abbrev wide_Mask_Ty : Type 1 := {R : Type} → (Int) → ((Int) → Option R) → Option R
noncomputable def wide_Mask_T (N : Nat) (c0 : wide_May_Ty) {R : Type} (x0 : Int) (k0 : (Int) → Option R) : Option R :=
  c0 x0
  (fun b4 => br (!b4)
   (k0 (0 : Int))
   (br (decide ((IntKind.wrap .u64 x0) < (0 : Int)))
    (none)
    (k0 (IntKind.wrap .u16 ((shlI .u16 (1 : Int) (IntKind.wrap .u64 x0)) - (1 : Int))))))
noncomputable def wide_Mask (N : Nat) {R : Type} (x0 : Int) (k0 : (Int) → Option R) : Option R := wide_Mask_T N (@wide_May N) x0 k0
abbrev term_Arena_keep_a25e_Ty : Type 1 := {R : Type} → (Int) → (Int) → (Int) → (Int) → (Int) → (Int) → (List ((Int) × ((Int) × ((Int) × ((Int) × ((Int) × (Int))))))) → (List (((Int) × ((Int) × ((Int) × ((Int) × ((Int) × (Int)))))) × (Int))) → (List ((Int) × (Int))) → ((Int) → (Int) → (List (((Int) × ((Int) × ((Int) × ((Int) × ((Int) × (Int)))))) × (Int))) → (List ((Int) × (Int))) → (List ((Int) × ((Int) × ((Int) × ((Int) × ((Int) × (Int))))))) → Option R) → Option R
noncomputable def term_Arena_keep_a25e_T (N : Nat) {R : Type} (x0 : Int) (x1 : Int) (x2 : Int) (x3 : Int) (x4 : Int) (x5 : Int) (x6 : List ((Int) × ((Int) × ((Int) × ((Int) × ((Int) × (Int))))))) (x7 : List (((Int) × ((Int) × ((Int) × ((Int) × ((Int) × (Int)))))) × (Int))) (x8 : List ((Int) × (Int))) (k0 : (Int) → (Int) → (List (((Int) × ((Int) × ((Int) × ((Int) × ((Int) × (Int)))))) × (Int))) → (List ((Int) × (Int))) → (List ((Int) × ((Int) × ((Int) × ((Int) × ((Int) × (Int))))))) → Option R) : Option R :=
  br (Option.isSome (mfind (.pair (.int .i64) (.pair (.int .i64) (.pair (.int .u16) (.pair (.int .i64) (.pair (.int .i64) (.int .i64)))))) (.int .i64) x7 (x0 , (x1 , (x2 , (x3 , (x4 , x5)))))))
  (k0 (Option.getD (mfind (.pair (.int .i64) (.pair (.int .i64) (.pair (.int .u16) (.pair (.int .i64) (.pair (.int .i64) (.int .i64)))))) (.int .i64) x7 (x0 , (x1 , (x2 , (x3 , (x4 , x5)))))) (0 : Int)) (0 : Int) x7 x8 x6)
  (br (decide ((65536 : Int) ≤ (Nat.cast (List.length x6) : Int)))
   (k0 (0 : Int) (3 : Int) x7 x8 x6)
   (br (((fits (0 : Nat) (List.length x6) x6) && (decide ((((List.length x6) + (1 : Nat)) * (48 : Nat)) ≤ (70368744177664 : Nat)))) && true)
    (k0 (Nat.cast ((List.length x6) + (1 : Nat)) : Int) (0 : Int) (mput (.pair (.int .i64) (.pair (.int .i64) (.pair (.int .u16) (.pair (.int .i64) (.pair (.int .i64) (.int .i64)))))) (.int .i64) x7 (x0 , (x1 , (x2 , (x3 , (x4 , x5))))) (Nat.cast ((List.length x6) + (1 : Nat)) : Int)) x8 ((sub x6 (0 : Nat) (List.length x6)) ++ ((x0 , (x1 , (x2 , (x3 , (x4 , x5))))) :: ([] : List (((Sh.int IntKind.i64).pair
    ((Sh.int IntKind.i64).pair
      ((Sh.int IntKind.u16).pair ((Sh.int IntKind.i64).pair ((Sh.int IntKind.i64).pair (Sh.int IntKind.i64)))))).T)))))
    (none)))
noncomputable def term_Arena_keep_a25e (N : Nat) {R : Type} (x0 : Int) (x1 : Int) (x2 : Int) (x3 : Int) (x4 : Int) (x5 : Int) (x6 : List ((Int) × ((Int) × ((Int) × ((Int) × ((Int) × (Int))))))) (x7 : List (((Int) × ((Int) × ((Int) × ((Int) × ((Int) × (Int)))))) × (Int))) (x8 : List ((Int) × (Int))) (k0 : (Int) → (Int) → (List (((Int) × ((Int) × ((Int) × ((Int) × ((Int) × (Int)))))) × (Int))) → (List ((Int) × (Int))) → (List ((Int) × ((Int) × ((Int) × ((Int) × ((Int) × (Int))))))) → Option R) : Option R := term_Arena_keep_a25e_T N x0 x1 x2 x3 x4 x5 x6 x7 x8 k0
abbrev term_Arena_Const_2c81_Ty : Type 1 := {R : Type} → (Int) → (Int) → (List ((Int) × ((Int) × ((Int) × ((Int) × ((Int) × (Int))))))) → (List (((Int) × ((Int) × ((Int) × ((Int) × ((Int) × (Int)))))) × (Int))) → (List ((Int) × (Int))) → ((Int) → (Int) → (List (((Int) × ((Int) × ((Int) × ((Int) × ((Int) × (Int)))))) × (Int))) → (List ((Int) × (Int))) → (List ((Int) × ((Int) × ((Int) × ((Int) × ((Int) × (Int))))))) → Option R) → Option R
noncomputable def term_Arena_Const_2c81_T (N : Nat) (c0 : term_Arena_keep_a25e_Ty) (c1 : wide_Mask_Ty) (c2 : wide_May_Ty) {R : Type} (x0 : Int) (x1 : Int) (x2 : List ((Int) × ((Int) × ((Int) × ((Int) × ((Int) × (Int))))))) (x3 : List (((Int) × ((Int) × ((Int) × ((Int) × ((Int) × (Int)))))) × (Int))) (x4 : List ((Int) × (Int))) (k0 : (Int) → (Int) → (List (((Int) × ((Int) × ((Int) × ((Int) × ((Int) × (Int)))))) × (Int))) → (List ((Int) × (Int))) → (List ((Int) × ((Int) × ((Int) × ((Int) × ((Int) × (Int))))))) → Option R) : Option R :=
  c2 x0
  (fun b11 => br (!b11)
   (k0 (0 : Int) (2 : Int) x3 x4 x2)
   (c1 x0
    (fun i12 => c0 (1 : Int) x0 (band .u16 x1 i12) (0 : Int) (0 : Int) (0 : Int) x2 x3 x4
     (fun i13 i14 l15 l16 l17 => k0 i13 i14 l15 l16 l17))))
noncomputable def term_Arena_Const_2c81 (N : Nat) {R : Type} (x0 : Int) (x1 : Int) (x2 : List ((Int) × ((Int) × ((Int) × ((Int) × ((Int) × (Int))))))) (x3 : List (((Int) × ((Int) × ((Int) × ((Int) × ((Int) × (Int)))))) × (Int))) (x4 : List ((Int) × (Int))) (k0 : (Int) → (Int) → (List (((Int) × ((Int) × ((Int) × ((Int) × ((Int) × (Int)))))) × (Int))) → (List ((Int) × (Int))) → (List ((Int) × ((Int) × ((Int) × ((Int) × ((Int) × (Int))))))) → Option R) : Option R := term_Arena_Const_2c81_T N (@term_Arena_keep_a25e N) (@wide_Mask N) (@wide_May N) x0 x1 x2 x3 x4 k0
abbrev term_Arena_Var_99d8_Ty : Type 1 := {R : Type} → (Int) → (Int) → (List ((Int) × ((Int) × ((Int) × ((Int) × ((Int) × (Int))))))) → (List (((Int) × ((Int) × ((Int) × ((Int) × ((Int) × (Int)))))) × (Int))) → (List ((Int) × (Int))) → ((Int) → (Int) → (List (((Int) × ((Int) × ((Int) × ((Int) × ((Int) × (Int)))))) × (Int))) → (List ((Int) × (Int))) → (List ((Int) × ((Int) × ((Int) × ((Int) × ((Int) × (Int))))))) → Option R) → Option R
noncomputable def term_Arena_Var_99d8_T (N : Nat) (c0 : term_Arena_keep_a25e_Ty) (c1 : wide_May_Ty) {R : Type} (x0 : Int) (x1 : Int) (x2 : List ((Int) × ((Int) × ((Int) × ((Int) × ((Int) × (Int))))))) (x3 : List (((Int) × ((Int) × ((Int) × ((Int) × ((Int) × (Int)))))) × (Int))) (x4 : List ((Int) × (Int))) (k0 : (Int) → (Int) → (List (((Int) × ((Int) × ((Int) × ((Int) × ((Int) × (Int)))))) × (Int))) → (List ((Int) × (Int))) → (List ((Int) × ((Int) × ((Int) × ((Int) × ((Int) × (Int))))))) → Option R) : Option R :=
  c1 x0
  (fun b29 => br (!b29)
   (k0 (0 : Int) (2 : Int) x3 x4 x2)
   (br (!(decide (x1 < (0 : Int))))
    (br (!(decide ((64 : Int) ≤ x1)))
     (br (Option.isSome (mfind (.int .i64) (.int .i64) x4 x1))
      (br (!(decide ((Option.getD (mfind (.int .i64) (.int .i64) x4 x1) (0 : Int)) = x0)))
       (k0 (0 : Int) (1 : Int) x3 x4 x2)
       (c0 (2 : Int) x0 (IntKind.wrap .u16 x1) (0 : Int) (0 : Int) (0 : Int) x2 x3 x4
        (fun i30 i31 l32 l33 l34 => br (decide (i31 = (0 : Int)))
         (k0 i30 i31 l32 (mput (.int .i64) (.int .i64) l33 x1 x0) l34)
         (k0 i30 i31 l32 l33 l34))))
      (c0 (2 : Int) x0 (IntKind.wrap .u16 x1) (0 : Int) (0 : Int) (0 : Int) x2 x3 x4
       (fun i35 i36 l37 l38 l39 => br (decide (i36 = (0 : Int)))
        (k0 i35 i36 l37 (mput (.int .i64) (.int .i64) l38 x1 x0) l39)
        (k0 i35 i36 l37 l38 l39))))
     (k0 (0 : Int) (1 : Int) x3 x4 x2))
    (k0 (0 : Int) (1 : Int) x3 x4 x2)))
noncomputable def term_Arena_Var_99d8 (N : Nat) {R : Type} (x0 : Int) (x1 : Int) (x2 : List ((Int) × ((Int) × ((Int) × ((Int) × ((Int) × (Int))))))) (x3 : List (((Int) × ((Int) × ((Int) × ((Int) × ((Int) × (Int)))))) × (Int))) (x4 : List ((Int) × (Int))) (k0 : (Int) → (Int) → (List (((Int) × ((Int) × ((Int) × ((Int) × ((Int) × (Int)))))) × (Int))) → (List ((Int) × (Int))) → (List ((Int) × ((Int) × ((Int) × ((Int) × ((Int) × (Int))))))) → Option R) : Option R := term_Arena_Var_99d8_T N (@term_Arena_keep_a25e N) (@wide_May N) x0 x1 x2 x3 x4 k0
abbrev stringslite_Index_Ty : Type 1 := {R : Type} → (ByteArray) → (ByteArray) → ((Int) → Option R) → Option R
noncomputable def stringslite_Index_T (N : Nat) (c0 : stringslite_IndexByte_Ty) {R : Type} (x0 : ByteArray) (x1 : ByteArray) (k0 : (Int) → Option R) : Option R :=
  br (!(decide ((Nat.cast (ByteArray.size x1) : Int) = (0 : Int))))
  (br (decide (x1 = x0))
   (k0 (0 : Int))
   (br (decide ((Nat.cast (ByteArray.size x1) : Int) = (1 : Int)))
    (br (inB (0 : Int) (ByteArray.size x1))
     (c0 x0 (bt x1 (0 : Int))
      (fun i45 => k0 i45))
     (none))
    (br (decide ((Nat.cast (ByteArray.size x0) : Int) ≤ (Nat.cast (ByteArray.size x1) : Int)))
     (k0 (-1 : Int))
     (none))))
  (k0 (0 : Int))
noncomputable def stringslite_Index (N : Nat) {R : Type} (x0 : ByteArray) (x1 : ByteArray) (k0 : (Int) → Option R) : Option R := stringslite_Index_T N @stringslite_IndexByte x0 x1 k0
abbrev stringslite_Cut_Ty : Type 1 := {R : Type} → (ByteArray) → (ByteArray) → ((ByteArray) → (ByteArray) → (Bool) → Option R) → Option R
noncomputable def stringslite_Cut_T (N : Nat) (c0 : stringslite_Index_Ty) {R : Type} (x0 : ByteArray) (x1 : ByteArray) (k0 : (ByteArray) → (ByteArray) → (Bool) → Option R) : Option R :=
  c0 x0 x1
  (fun i46 => br (decide ((0 : Int) ≤ i46))
   (br (leB i46 (ByteArray.size x0))
    (br (leB (IntKind.wrap .i64 (i46 + (Nat.cast (ByteArray.size x1) : Int))) (ByteArray.size x0))
     (k0 (ByteArray.extract x0 (0 : Nat) (Int.toNat i46)) (ByteArray.extract x0 (Int.toNat (IntKind.wrap .i64 (i46 + (Nat.cast (ByteArray.size x1) : Int)))) (ByteArray.size x0)) true)
     (none))
    (none))
   (k0 x0 (bs []) false))
noncomputable def stringslite_Cut (N : Nat) {R : Type} (x0 : ByteArray) (x1 : ByteArray) (k0 : (ByteArray) → (ByteArray) → (Bool) → Option R) : Option R := stringslite_Cut_T N (@stringslite_Index N) x0 x1 k0
abbrev strings_Cut_Ty : Type 1 := {R : Type} → (ByteArray) → (ByteArray) → ((ByteArray) → (ByteArray) → (Bool) → Option R) → Option R
noncomputable def strings_Cut_T (N : Nat) (c0 : stringslite_Cut_Ty) {R : Type} (x0 : ByteArray) (x1 : ByteArray) (k0 : (ByteArray) → (ByteArray) → (Bool) → Option R) : Option R :=
  c0 x0 x1
  (fun s47 s48 b49 => k0 s47 s48 b49)
noncomputable def strings_Cut (N : Nat) {R : Type} (x0 : ByteArray) (x1 : ByteArray) (k0 : (ByteArray) → (ByteArray) → (Bool) → Option R) : Option R := strings_Cut_T N (@stringslite_Cut N) x0 x1 k0
abbrev check_letter_Ty : Type 1 := {R : Type} → (Int) → ((Bool) → Option R) → Option R
noncomputable def check_letter_T (N : Nat) {R : Type} (x0 : Int) (k0 : (Bool) → Option R) : Option R :=
  br (decide ((97 : Int) ≤ x0))
  (br (!(decide (x0 ≤ (122 : Int))))
   (br (decide ((48 : Int) ≤ x0))
    (br (!(decide (x0 ≤ (57 : Int))))
     (br (!(decide (x0 = (46 : Int))))
      (k0 (decide (x0 = (95 : Int))))
      (k0 true))
     (k0 true))
    (br (!(decide (x0 = (46 : Int))))
     (k0 (decide (x0 = (95 : Int))))
     (k0 true)))
   (k0 true))
  (br (decide ((48 : Int) ≤ x0))
   (br (!(decide (x0 ≤ (57 : Int))))
    (br (!(decide (x0 = (46 : Int))))
     (k0 (decide (x0 = (95 : Int))))
     (k0 true))
    (k0 true))
   (br (!(decide (x0 = (46 : Int))))
    (k0 (decide (x0 = (95 : Int))))
    (k0 true)))
noncomputable def check_letter (N : Nat) {R : Type} (x0 : Int) (k0 : (Bool) → Option R) : Option R := check_letter_T N x0 k0
abbrev check_part_l0_Ty : Type 1 := {R : Type} → ((ByteArray) → (Bool) → Option R) → ((ByteArray) → Option R) → Nat → (ByteArray) → (Int) → (Int) → Option R
abbrev check_part_Ty : Type 1 := {R : Type} → (ByteArray) → ((Bool) → Option R) → Option R
noncomputable def check_part_l0_T0 (N : Nat) (c0 : check_letter_Ty) {R : Type} (nx : (ByteArray) → (Int) → (Int) → Option R) (k0 : (ByteArray) → (Bool) → Option R) (k1 : (ByteArray) → Option R) (x0 : ByteArray) (x1 : Int) (x2 : Int) : Option R :=
  br (decide (x2 < x1))
  (br (inB x2 (ByteArray.size x0))
   (c0 (bt x0 x2)
    (fun b53 => br (!b53)
     (k0 x0 false)
     (nx x0 x1 (IntKind.wrap .i64 (x2 + (1 : Int))))))
   (none))
  (k1 x0)
noncomputable def check_part_l0 (N : Nat) {R : Type} (k0 : (ByteArray) → (Bool) → Option R) (k1 : (ByteArray) → Option R) : Nat → (ByteArray) → (Int) → (Int) → Option R
  | 0, _, _, _ => none
  | n + 1, x0, x1, x2 => check_part_l0_T0 N (@check_letter N) (fun x0 x1 x2 => check_part_l0 N k0 k1 n x0 x1 x2) k0 k1 x0 x1 x2
noncomputable def check_part_T (N : Nat) (c0 : check_letter_Ty) (w0 : check_part_l0_Ty) {R : Type} (x0 : ByteArray) (k0 : (Bool) → Option R) : Option R :=
  w0
  (fun s54 b55 => k0 b55)
  (fun s56 => br (!(decide (s56 = (bs []))))
   (br (!(decide (s56 = (bs [46]))))
    (k0 (!(decide (s56 = (bs [46, 46])))))
    (k0 false))
   (k0 false))
  N x0 (Nat.cast (ByteArray.size x0) : Int) (0 : Int)
noncomputable def check_part (N : Nat) {R : Type} (x0 : ByteArray) (k0 : (Bool) → Option R) : Option R := check_part_T N (@check_letter N) (@check_part_l0 N) x0 k0
abbrev check_Name_Ty : Type 1 := {R : Type} → (ByteArray) → ((Bool) → Option R) → Option R
noncomputable def check_Name_T (N : Nat) (c0 : check_part_Ty) (c1 : strings_Cut_Ty) {R : Type} (x0 : ByteArray) (k0 : (Bool) → Option R) : Option R :=
  br (decide ((8 : Int) < (Nat.cast (ByteArray.size x0) : Int)))
  (k0 false)
  (c1 x0 (bs [47])
   (fun s50 s51 b52 => c0 s50
    (fun b57 => br b57
     (br (!(!b52))
      (c0 s51
       (fun b58 => k0 b58))
      (k0 true))
     (k0 false))))
noncomputable def check_Name (N : Nat) {R : Type} (x0 : ByteArray) (k0 : (Bool) → Option R) : Option R := check_Name_T N (@check_part N) (@strings_Cut N) x0 k0
abbrev names_May_Ty : Type 1 := {R : Type} → (ByteArray) → ((Bool) → Option R) → Option R
noncomputable def names_May_T (N : Nat) (c0 : check_Name_Ty) {R : Type} (x0 : ByteArray) (k0 : (Bool) → Option R) : Option R :=
  c0 x0
  (fun b59 => k0 b59)
noncomputable def names_May (N : Nat) {R : Type} (x0 : ByteArray) (k0 : (Bool) → Option R) : Option R := names_May_T N (@check_Name N) x0 k0
abbrev names_Split_Ty : Type 1 := {R : Type} → (ByteArray) → ((ByteArray) → (ByteArray) → Option R) → Option R
noncomputable def names_Split_T (N : Nat) (c0 : strings_Cut_Ty) (c1 : names_May_Ty) {R : Type} (x0 : ByteArray) (k0 : (ByteArray) → (ByteArray) → Option R) : Option R :=
  c1 x0
  (fun b61 => br (!b61)
   (k0 (bs []) (bs []))
   (c0 x0 (bs [47])
    (fun s62 s63 b64 => br (!b64)
     (k0 (bs []) s62)
     (k0 s62 s63))))
noncomputable def names_Split (N : Nat) {R : Type} (x0 : ByteArray) (k0 : (ByteArray) → (ByteArray) → Option R) : Option R := names_Split_T N (@strings_Cut N) (@names_May N) x0 k0
abbrev tree_of_Ty : Type 1 := {R : Type} → (ByteArray) → ((ByteArray) → (ByteArray) → Option R) → Option R
noncomputable def tree_of_T (N : Nat) (c0 : names_Split_Ty) {R : Type} (x0 : ByteArray) (k0 : (ByteArray) → (ByteArray) → Option R) : Option R :=
  c0 x0
  (fun s65 s66 => k0 s65 s66)
noncomputable def tree_of (N : Nat) {R : Type} (x0 : ByteArray) (k0 : (ByteArray) → (ByteArray) → Option R) : Option R := tree_of_T N (@names_Split N) x0 k0
abbrev tree_Tree_above_2de7_Ty : Type 1 := {R : Type} → (ByteArray) → (ByteArray) → (Int) → (List (((ByteArray) × (ByteArray)) × ((Int) × (Bool)))) → ((Int) → (Int) → (List (((ByteArray) × (ByteArray)) × ((Int) × (Bool)))) → Option R) → Option R
noncomputable def tree_Tree_above_2de7_T (N : Nat) {R : Type} (x0 : ByteArray) (x1 : ByteArray) (x2 : Int) (x3 : List (((ByteArray) × (ByteArray)) × ((Int) × (Bool)))) (k0 : (Int) → (Int) → (List (((ByteArray) × (ByteArray)) × ((Int) × (Bool)))) → Option R) : Option R :=
  br (decide (x1 = (bs [])))
  (k0 (65282 : Int) x2 x3)
  (br (decide (x0 = (bs [])))
   (k0 (0 : Int) x2 x3)
   (br ((Option.isSome (mfind (.pair .str .str) (.pair (.int .i64) .bool) x3 ((bs []) , x0))) == (Option.isSome (mfind (.pair .str .str) (.pair (.int .i64) .bool) x3 ((bs []) , x0))))
    (br (!(Option.isSome (mfind (.pair .str .str) (.pair (.int .i64) .bool) x3 ((bs []) , x0))))
     (k0 (65282 : Int) x2 x3)
     (br (!(Option.getD (mfind (.pair .str .str) (.pair (.int .i64) .bool) x3 ((bs []) , x0)) ((0 : Int) , false)).2)
      (k0 (65300 : Int) x2 x3)
      (k0 (0 : Int) x2 x3)))
    (none)))
noncomputable def tree_Tree_above_2de7 (N : Nat) {R : Type} (x0 : ByteArray) (x1 : ByteArray) (x2 : Int) (x3 : List (((ByteArray) × (ByteArray)) × ((Int) × (Bool)))) (k0 : (Int) → (Int) → (List (((ByteArray) × (ByteArray)) × ((Int) × (Bool)))) → Option R) : Option R := tree_Tree_above_2de7_T N x0 x1 x2 x3 k0
abbrev tree_Tree_Make_c502_Ty : Type 1 := {R : Type} → (ByteArray) → (Bool) → (Int) → (List (((ByteArray) × (ByteArray)) × ((Int) × (Bool)))) → ((Int) → (Int) → (Int) → (List (((ByteArray) × (ByteArray)) × ((Int) × (Bool)))) → Option R) → Option R
noncomputable def tree_Tree_Make_c502_T (N : Nat) (c0 : tree_Tree_above_2de7_Ty) (c1 : tree_of_Ty) {R : Type} (x0 : ByteArray) (x1 : Bool) (x2 : Int) (x3 : List (((ByteArray) × (ByteArray)) × ((Int) × (Bool)))) (k0 : (Int) → (Int) → (Int) → (List (((ByteArray) × (ByteArray)) × ((Int) × (Bool)))) → Option R) : Option R :=
  c1 x0
  (fun s67 s68 => c0 s67 s68 x2 x3
   (fun i69 i70 l71 => br (!(decide (i69 = (0 : Int))))
    (k0 (-1 : Int) i69 i70 l71)
    (br ((Option.isSome (mfind (.pair .str .str) (.pair (.int .i64) .bool) l71 (s67 , s68))) == (Option.isSome (mfind (.pair .str .str) (.pair (.int .i64) .bool) l71 (s67 , s68))))
     (br (Option.isSome (mfind (.pair .str .str) (.pair (.int .i64) .bool) l71 (s67 , s68)))
      (k0 (-1 : Int) (65297 : Int) i70 l71)
      (br x1
       (br (!(decide (s67 = (bs []))))
        (k0 (-1 : Int) (65302 : Int) i70 l71)
        (br (decide ((8 : Int) ≤ (Nat.cast (List.length l71) : Int)))
         (k0 (-1 : Int) (65308 : Int) i70 l71)
         (k0 (IntKind.wrap .i64 ((IntKind.wrap .i64 (i70 + (1 : Int))) - (1 : Int))) (0 : Int) (IntKind.wrap .i64 (i70 + (1 : Int))) (mput (.pair .str .str) (.pair (.int .i64) .bool) l71 (s67 , s68) (i70 , x1)))))
       (br (decide ((8 : Int) ≤ (Nat.cast (List.length l71) : Int)))
        (k0 (-1 : Int) (65308 : Int) i70 l71)
        (k0 (IntKind.wrap .i64 ((IntKind.wrap .i64 (i70 + (1 : Int))) - (1 : Int))) (0 : Int) (IntKind.wrap .i64 (i70 + (1 : Int))) (mput (.pair .str .str) (.pair (.int .i64) .bool) l71 (s67 , s68) (i70 , x1))))))
     (none))))
noncomputable def tree_Tree_Make_c502 (N : Nat) {R : Type} (x0 : ByteArray) (x1 : Bool) (x2 : Int) (x3 : List (((ByteArray) × (ByteArray)) × ((Int) × (Bool)))) (k0 : (Int) → (Int) → (Int) → (List (((ByteArray) × (ByteArray)) × ((Int) × (Bool)))) → Option R) : Option R := tree_Tree_Make_c502_T N (@tree_Tree_above_2de7 N) (@tree_of N) x0 x1 x2 x3 k0
abbrev tree_Tree_Make_Ty : Type 1 := {R : Type} → (ByteArray) → (Bool) → ((Int) → (Int) → Option R) → Option R
noncomputable def tree_Tree_Make_T (N : Nat) (c0 : tree_Tree_above_2de7_Ty) (c1 : tree_of_Ty) {R : Type} (x0 : ByteArray) (x1 : Bool) (k0 : (Int) → (Int) → Option R) : Option R :=
  k0 (0 : Int) (0 : Int)
noncomputable def tree_Tree_Make (N : Nat) {R : Type} (x0 : ByteArray) (x1 : Bool) (k0 : (Int) → (Int) → Option R) : Option R := tree_Tree_Make_T N (@tree_Tree_above_2de7 N) (@tree_of N) x0 x1 k0
abbrev tree_New_644a_l0_Ty : Type 1 := {R : Type} → ((Int) → (List ((ByteArray) × ((Bool) × (Int)))) → (Int) → (List (((ByteArray) × (ByteArray)) × ((Int) × (Bool)))) → Option R) → ((List ((ByteArray) × ((Bool) × (Int)))) → (Int) → (List (((ByteArray) × (ByteArray)) × ((Int) × (Bool)))) → Option R) → Nat → (Int) → (Int) → (List ((ByteArray) × ((Bool) × (Int)))) → (Int) → (List (((ByteArray) × (ByteArray)) × ((Int) × (Bool)))) → Option R
abbrev tree_New_644a_Ty : Type 1 := {R : Type} → (List ((ByteArray) × ((Bool) × (Int)))) → ((Int) → (List ((ByteArray) × ((Bool) × (Int)))) → Option R) → ((Int) → (List ((ByteArray) × ((Bool) × (Int)))) → (Int) → (List (((ByteArray) × (ByteArray)) × ((Int) × (Bool)))) → Option R) → Option R
noncomputable def tree_New_644a_l0_T0 (N : Nat) (c0 : tree_Tree_Make_c502_Ty) (c1 : tree_Tree_Make_Ty) (c2 : names_May_Ty) {R : Type} (nx : (Int) → (Int) → (List ((ByteArray) × ((Bool) × (Int)))) → (Int) → (List (((ByteArray) × (ByteArray)) × ((Int) × (Bool)))) → Option R) (k0 : (Int) → (List ((ByteArray) × ((Bool) × (Int)))) → (Int) → (List (((ByteArray) × (ByteArray)) × ((Int) × (Bool)))) → Option R) (k1 : (List ((ByteArray) × ((Bool) × (Int)))) → (Int) → (List (((ByteArray) × (ByteArray)) × ((Int) × (Bool)))) → Option R) (x0 : Int) (x1 : Int) (x2 : List ((ByteArray) × ((Bool) × (Int)))) (x3 : Int) (x4 : List (((ByteArray) × (ByteArray)) × ((Int) × (Bool)))) : Option R :=
  br (decide (x1 < x0))
  (br (inB x1 (List.length x2))
   (br (decide ((Int.toNat x1) < (List.length x2)))
    (c2 (List.getD x2 (Int.toNat x1) ((bs []) , (false , (0 : Int)))).1
     (fun b60 => br (!b60)
      (k0 (11 : Int) x2 x3 x4)
      (c0 (List.getD x2 (Int.toNat x1) ((bs []) , (false , (0 : Int)))).1 (List.getD x2 (Int.toNat x1) ((bs []) , (false , (0 : Int)))).2.1 x3 x4
       (fun i72 i73 i74 l75 => br (!(decide (i73 = (0 : Int))))
        (k0 (11 : Int) x2 i74 l75)
        (nx x0 (IntKind.wrap .i64 (x1 + (1 : Int))) x2 i74 l75)))))
    (none))
   (none))
  (k1 x2 x3 x4)
noncomputable def tree_New_644a_l0 (N : Nat) {R : Type} (k0 : (Int) → (List ((ByteArray) × ((Bool) × (Int)))) → (Int) → (List (((ByteArray) × (ByteArray)) × ((Int) × (Bool)))) → Option R) (k1 : (List ((ByteArray) × ((Bool) × (Int)))) → (Int) → (List (((ByteArray) × (ByteArray)) × ((Int) × (Bool)))) → Option R) : Nat → (Int) → (Int) → (List ((ByteArray) × ((Bool) × (Int)))) → (Int) → (List (((ByteArray) × (ByteArray)) × ((Int) × (Bool)))) → Option R
  | 0, _, _, _, _, _ => none
  | n + 1, x0, x1, x2, x3, x4 => tree_New_644a_l0_T0 N (@tree_Tree_Make_c502 N) (@tree_Tree_Make N) (@names_May N) (fun x0 x1 x2 x3 x4 => tree_New_644a_l0 N k0 k1 n x0 x1 x2 x3 x4) k0 k1 x0 x1 x2 x3 x4
noncomputable def tree_New_644a_T (N : Nat) (c0 : tree_Tree_Make_c502_Ty) (c1 : tree_Tree_Make_Ty) (c2 : names_May_Ty) (w0 : tree_New_644a_l0_Ty) {R : Type} (x0 : List ((ByteArray) × ((Bool) × (Int)))) (k0 : (Int) → (List ((ByteArray) × ((Bool) × (Int)))) → Option R) (k1 : (Int) → (List ((ByteArray) × ((Bool) × (Int)))) → (Int) → (List (((ByteArray) × (ByteArray)) × ((Int) × (Bool)))) → Option R) : Option R :=
  br (decide ((8 : Int) < (Nat.cast (List.length x0) : Int)))
  (k0 (11 : Int) x0)
  (w0
   (fun i76 l77 i78 l79 => k0 i76 l77)
   (fun l80 i81 l82 => k1 (0 : Int) l80 i81 l82)
   N (Nat.cast (List.length x0) : Int) (0 : Int) x0 (0 : Int) ([] : List (((Sh.str.pair Sh.str).T) × (((Sh.int IntKind.i64).pair Sh.bool).T))))
noncomputable def tree_New_644a (N : Nat) {R : Type} (x0 : List ((ByteArray) × ((Bool) × (Int)))) (k0 : (Int) → (List ((ByteArray) × ((Bool) × (Int)))) → Option R) (k1 : (Int) → (List ((ByteArray) × ((Bool) × (Int)))) → (Int) → (List (((ByteArray) × (ByteArray)) × ((Int) × (Bool)))) → Option R) : Option R := tree_New_644a_T N (@tree_Tree_Make_c502 N) (@tree_Tree_Make N) (@names_May N) (@tree_New_644a_l0 N) x0 k0 k1
abbrev slices_Clone__term_T_term_T_Ty : Type 1 := {R : Type} → (List (Int)) → ((List (Int)) → Option R) → Option R
noncomputable def slices_Clone__term_T_term_T {R : Type} (x0 : List (Int)) (k0 : (List (Int)) → Option R) : Option R := br ((decide (((0 : Nat) + (List.length x0)) * (8 : Nat) ≤ (70368744177664 : Nat))) && true) (k0 x0) (none)
inductive ghost_New_669c_S0 where
  | v0 (x0 : Int) (x1 : Int) (x2 : List ((ByteArray) × ((Bool) × (Int)))) (x3 : List (List (Int))) (x4 : List (Int)) (x5 : Int) (x6 : List ((Int) × (List (Int)))) (x7 : List ((Int) × (Int)))
  | v1 (x0 : Nat) (x1 : Nat) (x2 : Int) (x3 : Int) (x4 : List ((ByteArray) × ((Bool) × (Int)))) (x5 : List (List (Int))) (x6 : List (Int)) (x7 : Int) (x8 : List ((Int) × (List (Int)))) (x9 : List ((Int) × (Int)))
  | v2 (x0 : Int) (x1 : Int) (x2 : List ((ByteArray) × ((Bool) × (Int)))) (x3 : List (List (Int))) (x4 : List (Int)) (x5 : Int) (x6 : Int) (x7 : List (((ByteArray) × (ByteArray)) × ((Int) × (Bool)))) (x8 : List ((Int) × (List (Int)))) (x9 : List ((Int) × (Int)))
  | v3 (x0 : Nat) (x1 : Nat) (x2 : Int) (x3 : Int) (x4 : List ((ByteArray) × ((Bool) × (Int)))) (x5 : List (List (Int))) (x6 : List (Int)) (x7 : Int) (x8 : Int) (x9 : List (((ByteArray) × (ByteArray)) × ((Int) × (Bool)))) (x10 : List ((Int) × (List (Int)))) (x11 : List ((Int) × (Int)))
abbrev ghost_New_669c_l0_Ty : Type 1 := {R : Type} → ((Int) → (List ((ByteArray) × ((Bool) × (Int)))) → (List (List (Int))) → (List (Int)) → (Int) → (List ((Int) × (List (Int)))) → (List ((Int) × (Int))) → Option R) → ((List ((ByteArray) × ((Bool) × (Int)))) → (List (List (Int))) → (List (Int)) → (Int) → (List ((Int) × (List (Int)))) → (List ((Int) × (Int))) → Option R) → ((Nat) → (Nat) → (Int) → (List ((ByteArray) × ((Bool) × (Int)))) → (List (List (Int))) → (List (Int)) → (Int) → (List ((Int) × (List (Int)))) → (List ((Int) × (Int))) → Option R) → ((Nat) → (Nat) → (List ((ByteArray) × ((Bool) × (Int)))) → (List (List (Int))) → (List (Int)) → (Int) → (List ((Int) × (List (Int)))) → (List ((Int) × (Int))) → Option R) → ((Int) → (List ((ByteArray) × ((Bool) × (Int)))) → (List (List (Int))) → (List (Int)) → (Int) → (Int) → (List (((ByteArray) × (ByteArray)) × ((Int) × (Bool)))) → (List ((Int) × (List (Int)))) → (List ((Int) × (Int))) → Option R) → ((List ((ByteArray) × ((Bool) × (Int)))) → (List (List (Int))) → (List (Int)) → (Int) → (Int) → (List (((ByteArray) × (ByteArray)) × ((Int) × (Bool)))) → (List ((Int) × (List (Int)))) → (List ((Int) × (Int))) → Option R) → ((Nat) → (Nat) → (Int) → (List ((ByteArray) × ((Bool) × (Int)))) → (List (List (Int))) → (List (Int)) → (Int) → (Int) → (List (((ByteArray) × (ByteArray)) × ((Int) × (Bool)))) → (List ((Int) × (List (Int)))) → (List ((Int) × (Int))) → Option R) → ((Nat) → (Nat) → (List ((ByteArray) × ((Bool) × (Int)))) → (List (List (Int))) → (List (Int)) → (Int) → (Int) → (List (((ByteArray) × (ByteArray)) × ((Int) × (Bool)))) → (List ((Int) × (List (Int)))) → (List ((Int) × (Int))) → Option R) → Nat → ghost_New_669c_S0 → Option R
abbrev ghost_New_669c_Ty : Type 1 := {R : Type} → (Int) → (List ((ByteArray) × ((Bool) × (Int)))) → (List (List (Int))) → ((Int) → (List ((ByteArray) × ((Bool) × (Int)))) → (List (List (Int))) → Option R) → ((Int) → (List ((ByteArray) × ((Bool) × (Int)))) → (List (List (Int))) → (List (Int)) → (Int) → (List ((Int) × (List (Int)))) → (List ((Int) × (Int))) → Option R) → ((Int) → (List ((ByteArray) × ((Bool) × (Int)))) → (List (List (Int))) → (List (Int)) → (Int) → (Int) → (List (((ByteArray) × (ByteArray)) × ((Int) × (Bool)))) → (List ((Int) × (List (Int)))) → (List ((Int) × (Int))) → Option R) → Option R
noncomputable def ghost_New_669c_l0_T0 (N : Nat) (c0 : slices_Clone__term_T_term_T_Ty) (c1 : tree_New_644a_Ty) {R : Type} (nx : ghost_New_669c_S0 → Option R) (k0 : (Int) → (List ((ByteArray) × ((Bool) × (Int)))) → (List (List (Int))) → (List (Int)) → (Int) → (List ((Int) × (List (Int)))) → (List ((Int) × (Int))) → Option R) (k1 : (List ((ByteArray) × ((Bool) × (Int)))) → (List (List (Int))) → (List (Int)) → (Int) → (List ((Int) × (List (Int)))) → (List ((Int) × (Int))) → Option R) (k2 : (Nat) → (Nat) → (Int) → (List ((ByteArray) × ((Bool) × (Int)))) → (List (List (Int))) → (List (Int)) → (Int) → (List ((Int) × (List (Int)))) → (List ((Int) × (Int))) → Option R) (k3 : (Nat) → (Nat) → (List ((ByteArray) × ((Bool) × (Int)))) → (List (List (Int))) → (List (Int)) → (Int) → (List ((Int) × (List (Int)))) → (List ((Int) × (Int))) → Option R) (k4 : (Int) → (List ((ByteArray) × ((Bool) × (Int)))) → (List (List (Int))) → (List (Int)) → (Int) → (Int) → (List (((ByteArray) × (ByteArray)) × ((Int) × (Bool)))) → (List ((Int) × (List (Int)))) → (List ((Int) × (Int))) → Option R) (k5 : (List ((ByteArray) × ((Bool) × (Int)))) → (List (List (Int))) → (List (Int)) → (Int) → (Int) → (List (((ByteArray) × (ByteArray)) × ((Int) × (Bool)))) → (List ((Int) × (List (Int)))) → (List ((Int) × (Int))) → Option R) (k6 : (Nat) → (Nat) → (Int) → (List ((ByteArray) × ((Bool) × (Int)))) → (List (List (Int))) → (List (Int)) → (Int) → (Int) → (List (((ByteArray) × (ByteArray)) × ((Int) × (Bool)))) → (List ((Int) × (List (Int)))) → (List ((Int) × (Int))) → Option R) (k7 : (Nat) → (Nat) → (List ((ByteArray) × ((Bool) × (Int)))) → (List (List (Int))) → (List (Int)) → (Int) → (Int) → (List (((ByteArray) × (ByteArray)) × ((Int) × (Bool)))) → (List ((Int) × (List (Int)))) → (List ((Int) × (Int))) → Option R) (x0 : Int) (x1 : Int) (x2 : List ((ByteArray) × ((Bool) × (Int)))) (x3 : List (List (Int))) (x4 : List (Int)) (x5 : Int) (x6 : List ((Int) × (List (Int)))) (x7 : List ((Int) × (Int))) : Option R :=
  br (decide (x1 < x0))
  (br (inB x1 (List.length x2))
   (br (decide ((Int.toNat x1) < (List.length x2)))
    (br (List.getD x2 (Int.toNat x1) ((bs []) , (false , (0 : Int)))).2.1
     (nx (.v0 x0 (IntKind.wrap .i64 (x1 + (1 : Int))) x2 x3 x4 x5 x6 x7))
     (br (!(decide ((Nat.cast (List.length x3) : Int) = (0 : Int))))
      (br (inB (0 : Int) (List.length x3))
       (br (decide ((0 : Nat) < (List.length x3)))
        (br (decide ((8 : Int) < (Nat.cast (List.length (List.getD x3 (0 : Nat) (Sh.zero (.isl (.int .i64))))) : Int)))
         (k0 (12 : Int) x2 x3 x4 x5 x6 x7)
         (br (inB (0 : Int) (List.length x3))
          (br (decide ((0 : Nat) < (List.length x3)))
           (c0 (List.getD x3 (0 : Nat) (Sh.zero (.isl (.int .i64))))
            (fun l193 => br (decide (x1 = x1))
             (br (fits (0 : Nat) (List.length l193) l193)
              (br (leB (1 : Int) (List.length x3))
               (nx (.v1 (1 : Nat) ((List.length x3) - (1 : Nat)) x0 (IntKind.wrap .i64 (x1 + (1 : Int))) x2 x3 x4 x5 (mput (.int .i64) (.isl (.int .i64)) x6 x1 (sub l193 (0 : Nat) (List.length l193))) x7))
               (none))
              (none))
             (none)))
           (none))
          (none)))
        (none))
       (none))
      (k0 (12 : Int) x2 x3 x4 x5 x6 x7)))
    (none))
   (none))
  (k1 x2 x3 x4 x5 x6 x7)
noncomputable def ghost_New_669c_l0_T1 (N : Nat) (c0 : slices_Clone__term_T_term_T_Ty) (c1 : tree_New_644a_Ty) {R : Type} (nx : ghost_New_669c_S0 → Option R) (k0 : (Int) → (List ((ByteArray) × ((Bool) × (Int)))) → (List (List (Int))) → (List (Int)) → (Int) → (List ((Int) × (List (Int)))) → (List ((Int) × (Int))) → Option R) (k1 : (List ((ByteArray) × ((Bool) × (Int)))) → (List (List (Int))) → (List (Int)) → (Int) → (List ((Int) × (List (Int)))) → (List ((Int) × (Int))) → Option R) (k2 : (Nat) → (Nat) → (Int) → (List ((ByteArray) × ((Bool) × (Int)))) → (List (List (Int))) → (List (Int)) → (Int) → (List ((Int) × (List (Int)))) → (List ((Int) × (Int))) → Option R) (k3 : (Nat) → (Nat) → (List ((ByteArray) × ((Bool) × (Int)))) → (List (List (Int))) → (List (Int)) → (Int) → (List ((Int) × (List (Int)))) → (List ((Int) × (Int))) → Option R) (k4 : (Int) → (List ((ByteArray) × ((Bool) × (Int)))) → (List (List (Int))) → (List (Int)) → (Int) → (Int) → (List (((ByteArray) × (ByteArray)) × ((Int) × (Bool)))) → (List ((Int) × (List (Int)))) → (List ((Int) × (Int))) → Option R) (k5 : (List ((ByteArray) × ((Bool) × (Int)))) → (List (List (Int))) → (List (Int)) → (Int) → (Int) → (List (((ByteArray) × (ByteArray)) × ((Int) × (Bool)))) → (List ((Int) × (List (Int)))) → (List ((Int) × (Int))) → Option R) (k6 : (Nat) → (Nat) → (Int) → (List ((ByteArray) × ((Bool) × (Int)))) → (List (List (Int))) → (List (Int)) → (Int) → (Int) → (List (((ByteArray) × (ByteArray)) × ((Int) × (Bool)))) → (List ((Int) × (List (Int)))) → (List ((Int) × (Int))) → Option R) (k7 : (Nat) → (Nat) → (List ((ByteArray) × ((Bool) × (Int)))) → (List (List (Int))) → (List (Int)) → (Int) → (Int) → (List (((ByteArray) × (ByteArray)) × ((Int) × (Bool)))) → (List ((Int) × (List (Int)))) → (List ((Int) × (Int))) → Option R) (x0 : Nat) (x1 : Nat) (x2 : Int) (x3 : Int) (x4 : List ((ByteArray) × ((Bool) × (Int)))) (x5 : List (List (Int))) (x6 : List (Int)) (x7 : Int) (x8 : List ((Int) × (List (Int)))) (x9 : List ((Int) × (Int))) : Option R :=
  br (decide (x3 < x2))
  (br (inB x3 (List.length x4))
   (br (decide ((Int.toNat x3) < (List.length x4)))
    (br (List.getD x4 (Int.toNat x3) ((bs []) , (false , (0 : Int)))).2.1
     (nx (.v1 x0 x1 x2 (IntKind.wrap .i64 (x3 + (1 : Int))) x4 x5 x6 x7 x8 x9))
     (br (!(decide ((Nat.cast x1 : Int) = (0 : Int))))
      (br (inB (0 : Int) x1)
       (br (decide ((Int.toNat (addLo x0 (0 : Int))) < (List.length x5)))
        (br (decide ((8 : Int) < (Nat.cast (List.length (List.getD x5 (Int.toNat (addLo x0 (0 : Int))) (Sh.zero (.isl (.int .i64))))) : Int)))
         (k2 x0 x1 (12 : Int) x4 x5 x6 x7 x8 x9)
         (br (inB (0 : Int) x1)
          (br (decide ((Int.toNat (addLo x0 (0 : Int))) < (List.length x5)))
           (c0 (List.getD x5 (Int.toNat (addLo x0 (0 : Int))) (Sh.zero (.isl (.int .i64))))
            (fun l194 => br (decide (x3 = x3))
             (br (fits (0 : Nat) (List.length l194) l194)
              (br (leB (1 : Int) x1)
               (nx (.v1 (addN x0 (1 : Nat)) (x1 - (1 : Nat)) x2 (IntKind.wrap .i64 (x3 + (1 : Int))) x4 x5 x6 x7 (mput (.int .i64) (.isl (.int .i64)) x8 x3 (sub l194 (0 : Nat) (List.length l194))) x9))
               (none))
              (none))
             (none)))
           (none))
          (none)))
        (none))
       (none))
      (k2 x0 x1 (12 : Int) x4 x5 x6 x7 x8 x9)))
    (none))
   (none))
  (k3 x0 x1 x4 x5 x6 x7 x8 x9)
noncomputable def ghost_New_669c_l0_T2 (N : Nat) (c0 : slices_Clone__term_T_term_T_Ty) (c1 : tree_New_644a_Ty) {R : Type} (nx : ghost_New_669c_S0 → Option R) (k0 : (Int) → (List ((ByteArray) × ((Bool) × (Int)))) → (List (List (Int))) → (List (Int)) → (Int) → (List ((Int) × (List (Int)))) → (List ((Int) × (Int))) → Option R) (k1 : (List ((ByteArray) × ((Bool) × (Int)))) → (List (List (Int))) → (List (Int)) → (Int) → (List ((Int) × (List (Int)))) → (List ((Int) × (Int))) → Option R) (k2 : (Nat) → (Nat) → (Int) → (List ((ByteArray) × ((Bool) × (Int)))) → (List (List (Int))) → (List (Int)) → (Int) → (List ((Int) × (List (Int)))) → (List ((Int) × (Int))) → Option R) (k3 : (Nat) → (Nat) → (List ((ByteArray) × ((Bool) × (Int)))) → (List (List (Int))) → (List (Int)) → (Int) → (List ((Int) × (List (Int)))) → (List ((Int) × (Int))) → Option R) (k4 : (Int) → (List ((ByteArray) × ((Bool) × (Int)))) → (List (List (Int))) → (List (Int)) → (Int) → (Int) → (List (((ByteArray) × (ByteArray)) × ((Int) × (Bool)))) → (List ((Int) × (List (Int)))) → (List ((Int) × (Int))) → Option R) (k5 : (List ((ByteArray) × ((Bool) × (Int)))) → (List (List (Int))) → (List (Int)) → (Int) → (Int) → (List (((ByteArray) × (ByteArray)) × ((Int) × (Bool)))) → (List ((Int) × (List (Int)))) → (List ((Int) × (Int))) → Option R) (k6 : (Nat) → (Nat) → (Int) → (List ((ByteArray) × ((Bool) × (Int)))) → (List (List (Int))) → (List (Int)) → (Int) → (Int) → (List (((ByteArray) × (ByteArray)) × ((Int) × (Bool)))) → (List ((Int) × (List (Int)))) → (List ((Int) × (Int))) → Option R) (k7 : (Nat) → (Nat) → (List ((ByteArray) × ((Bool) × (Int)))) → (List (List (Int))) → (List (Int)) → (Int) → (Int) → (List (((ByteArray) × (ByteArray)) × ((Int) × (Bool)))) → (List ((Int) × (List (Int)))) → (List ((Int) × (Int))) → Option R) (x0 : Int) (x1 : Int) (x2 : List ((ByteArray) × ((Bool) × (Int)))) (x3 : List (List (Int))) (x4 : List (Int)) (x5 : Int) (x6 : Int) (x7 : List (((ByteArray) × (ByteArray)) × ((Int) × (Bool)))) (x8 : List ((Int) × (List (Int)))) (x9 : List ((Int) × (Int))) : Option R :=
  br (decide (x1 < x0))
  (br (inB x1 (List.length x2))
   (br (decide ((Int.toNat x1) < (List.length x2)))
    (br (List.getD x2 (Int.toNat x1) ((bs []) , (false , (0 : Int)))).2.1
     (nx (.v2 x0 (IntKind.wrap .i64 (x1 + (1 : Int))) x2 x3 x4 x5 x6 x7 x8 x9))
     (br (!(decide ((Nat.cast (List.length x3) : Int) = (0 : Int))))
      (br (inB (0 : Int) (List.length x3))
       (br (decide ((0 : Nat) < (List.length x3)))
        (br (decide ((8 : Int) < (Nat.cast (List.length (List.getD x3 (0 : Nat) (Sh.zero (.isl (.int .i64))))) : Int)))
         (k4 (12 : Int) x2 x3 x4 x5 x6 x7 x8 x9)
         (br (inB (0 : Int) (List.length x3))
          (br (decide ((0 : Nat) < (List.length x3)))
           (c0 (List.getD x3 (0 : Nat) (Sh.zero (.isl (.int .i64))))
            (fun l195 => br (decide (x1 = x1))
             (br (fits (0 : Nat) (List.length l195) l195)
              (br (leB (1 : Int) (List.length x3))
               (nx (.v3 (1 : Nat) ((List.length x3) - (1 : Nat)) x0 (IntKind.wrap .i64 (x1 + (1 : Int))) x2 x3 x4 x5 x6 x7 (mput (.int .i64) (.isl (.int .i64)) x8 x1 (sub l195 (0 : Nat) (List.length l195))) x9))
               (none))
              (none))
             (none)))
           (none))
          (none)))
        (none))
       (none))
      (k4 (12 : Int) x2 x3 x4 x5 x6 x7 x8 x9)))
    (none))
   (none))
  (k5 x2 x3 x4 x5 x6 x7 x8 x9)
noncomputable def ghost_New_669c_l0_T3 (N : Nat) (c0 : slices_Clone__term_T_term_T_Ty) (c1 : tree_New_644a_Ty) {R : Type} (nx : ghost_New_669c_S0 → Option R) (k0 : (Int) → (List ((ByteArray) × ((Bool) × (Int)))) → (List (List (Int))) → (List (Int)) → (Int) → (List ((Int) × (List (Int)))) → (List ((Int) × (Int))) → Option R) (k1 : (List ((ByteArray) × ((Bool) × (Int)))) → (List (List (Int))) → (List (Int)) → (Int) → (List ((Int) × (List (Int)))) → (List ((Int) × (Int))) → Option R) (k2 : (Nat) → (Nat) → (Int) → (List ((ByteArray) × ((Bool) × (Int)))) → (List (List (Int))) → (List (Int)) → (Int) → (List ((Int) × (List (Int)))) → (List ((Int) × (Int))) → Option R) (k3 : (Nat) → (Nat) → (List ((ByteArray) × ((Bool) × (Int)))) → (List (List (Int))) → (List (Int)) → (Int) → (List ((Int) × (List (Int)))) → (List ((Int) × (Int))) → Option R) (k4 : (Int) → (List ((ByteArray) × ((Bool) × (Int)))) → (List (List (Int))) → (List (Int)) → (Int) → (Int) → (List (((ByteArray) × (ByteArray)) × ((Int) × (Bool)))) → (List ((Int) × (List (Int)))) → (List ((Int) × (Int))) → Option R) (k5 : (List ((ByteArray) × ((Bool) × (Int)))) → (List (List (Int))) → (List (Int)) → (Int) → (Int) → (List (((ByteArray) × (ByteArray)) × ((Int) × (Bool)))) → (List ((Int) × (List (Int)))) → (List ((Int) × (Int))) → Option R) (k6 : (Nat) → (Nat) → (Int) → (List ((ByteArray) × ((Bool) × (Int)))) → (List (List (Int))) → (List (Int)) → (Int) → (Int) → (List (((ByteArray) × (ByteArray)) × ((Int) × (Bool)))) → (List ((Int) × (List (Int)))) → (List ((Int) × (Int))) → Option R) (k7 : (Nat) → (Nat) → (List ((ByteArray) × ((Bool) × (Int)))) → (List (List (Int))) → (List (Int)) → (Int) → (Int) → (List (((ByteArray) × (ByteArray)) × ((Int) × (Bool)))) → (List ((Int) × (List (Int)))) → (List ((Int) × (Int))) → Option R) (x0 : Nat) (x1 : Nat) (x2 : Int) (x3 : Int) (x4 : List ((ByteArray) × ((Bool) × (Int)))) (x5 : List (List (Int))) (x6 : List (Int)) (x7 : Int) (x8 : Int) (x9 : List (((ByteArray) × (ByteArray)) × ((Int) × (Bool)))) (x10 : List ((Int) × (List (Int)))) (x11 : List ((Int) × (Int))) : Option R :=
  br (decide (x3 < x2))
  (br (inB x3 (List.length x4))
   (br (decide ((Int.toNat x3) < (List.length x4)))
    (br (List.getD x4 (Int.toNat x3) ((bs []) , (false , (0 : Int)))).2.1
     (nx (.v3 x0 x1 x2 (IntKind.wrap .i64 (x3 + (1 : Int))) x4 x5 x6 x7 x8 x9 x10 x11))
     (br (!(decide ((Nat.cast x1 : Int) = (0 : Int))))
      (br (inB (0 : Int) x1)
       (br (decide ((Int.toNat (addLo x0 (0 : Int))) < (List.length x5)))
        (br (decide ((8 : Int) < (Nat.cast (List.length (List.getD x5 (Int.toNat (addLo x0 (0 : Int))) (Sh.zero (.isl (.int .i64))))) : Int)))
         (k6 x0 x1 (12 : Int) x4 x5 x6 x7 x8 x9 x10 x11)
         (br (inB (0 : Int) x1)
          (br (decide ((Int.toNat (addLo x0 (0 : Int))) < (List.length x5)))
           (c0 (List.getD x5 (Int.toNat (addLo x0 (0 : Int))) (Sh.zero (.isl (.int .i64))))
            (fun l196 => br (decide (x3 = x3))
             (br (fits (0 : Nat) (List.length l196) l196)
              (br (leB (1 : Int) x1)
               (nx (.v3 (addN x0 (1 : Nat)) (x1 - (1 : Nat)) x2 (IntKind.wrap .i64 (x3 + (1 : Int))) x4 x5 x6 x7 x8 x9 (mput (.int .i64) (.isl (.int .i64)) x10 x3 (sub l196 (0 : Nat) (List.length l196))) x11))
               (none))
              (none))
             (none)))
           (none))
          (none)))
        (none))
       (none))
      (k6 x0 x1 (12 : Int) x4 x5 x6 x7 x8 x9 x10 x11)))
    (none))
   (none))
  (k7 x0 x1 x4 x5 x6 x7 x8 x9 x10 x11)
noncomputable def ghost_New_669c_l0 (N : Nat) {R : Type} (k0 : (Int) → (List ((ByteArray) × ((Bool) × (Int)))) → (List (List (Int))) → (List (Int)) → (Int) → (List ((Int) × (List (Int)))) → (List ((Int) × (Int))) → Option R) (k1 : (List ((ByteArray) × ((Bool) × (Int)))) → (List (List (Int))) → (List (Int)) → (Int) → (List ((Int) × (List (Int)))) → (List ((Int) × (Int))) → Option R) (k2 : (Nat) → (Nat) → (Int) → (List ((ByteArray) × ((Bool) × (Int)))) → (List (List (Int))) → (List (Int)) → (Int) → (List ((Int) × (List (Int)))) → (List ((Int) × (Int))) → Option R) (k3 : (Nat) → (Nat) → (List ((ByteArray) × ((Bool) × (Int)))) → (List (List (Int))) → (List (Int)) → (Int) → (List ((Int) × (List (Int)))) → (List ((Int) × (Int))) → Option R) (k4 : (Int) → (List ((ByteArray) × ((Bool) × (Int)))) → (List (List (Int))) → (List (Int)) → (Int) → (Int) → (List (((ByteArray) × (ByteArray)) × ((Int) × (Bool)))) → (List ((Int) × (List (Int)))) → (List ((Int) × (Int))) → Option R) (k5 : (List ((ByteArray) × ((Bool) × (Int)))) → (List (List (Int))) → (List (Int)) → (Int) → (Int) → (List (((ByteArray) × (ByteArray)) × ((Int) × (Bool)))) → (List ((Int) × (List (Int)))) → (List ((Int) × (Int))) → Option R) (k6 : (Nat) → (Nat) → (Int) → (List ((ByteArray) × ((Bool) × (Int)))) → (List (List (Int))) → (List (Int)) → (Int) → (Int) → (List (((ByteArray) × (ByteArray)) × ((Int) × (Bool)))) → (List ((Int) × (List (Int)))) → (List ((Int) × (Int))) → Option R) (k7 : (Nat) → (Nat) → (List ((ByteArray) × ((Bool) × (Int)))) → (List (List (Int))) → (List (Int)) → (Int) → (Int) → (List (((ByteArray) × (ByteArray)) × ((Int) × (Bool)))) → (List ((Int) × (List (Int)))) → (List ((Int) × (Int))) → Option R) : Nat → ghost_New_669c_S0 → Option R
  | 0, _ => none
  | n + 1, .v0 x0 x1 x2 x3 x4 x5 x6 x7 => ghost_New_669c_l0_T0 N @slices_Clone__term_T_term_T (@tree_New_644a N) (fun s => ghost_New_669c_l0 N k0 k1 k2 k3 k4 k5 k6 k7 n s) k0 k1 k2 k3 k4 k5 k6 k7 x0 x1 x2 x3 x4 x5 x6 x7
  | n + 1, .v1 x0 x1 x2 x3 x4 x5 x6 x7 x8 x9 => ghost_New_669c_l0_T1 N @slices_Clone__term_T_term_T (@tree_New_644a N) (fun s => ghost_New_669c_l0 N k0 k1 k2 k3 k4 k5 k6 k7 n s) k0 k1 k2 k3 k4 k5 k6 k7 x0 x1 x2 x3 x4 x5 x6 x7 x8 x9
  | n + 1, .v2 x0 x1 x2 x3 x4 x5 x6 x7 x8 x9 => ghost_New_669c_l0_T2 N @slices_Clone__term_T_term_T (@tree_New_644a N) (fun s => ghost_New_669c_l0 N k0 k1 k2 k3 k4 k5 k6 k7 n s) k0 k1 k2 k3 k4 k5 k6 k7 x0 x1 x2 x3 x4 x5 x6 x7 x8 x9
  | n + 1, .v3 x0 x1 x2 x3 x4 x5 x6 x7 x8 x9 x10 x11 => ghost_New_669c_l0_T3 N @slices_Clone__term_T_term_T (@tree_New_644a N) (fun s => ghost_New_669c_l0 N k0 k1 k2 k3 k4 k5 k6 k7 n s) k0 k1 k2 k3 k4 k5 k6 k7 x0 x1 x2 x3 x4 x5 x6 x7 x8 x9 x10 x11
noncomputable def ghost_New_669c_T (N : Nat) (c0 : slices_Clone__term_T_term_T_Ty) (c1 : tree_New_644a_Ty) (w0 : ghost_New_669c_l0_Ty) {R : Type} (x0 : Int) (x1 : List ((ByteArray) × ((Bool) × (Int)))) (x2 : List (List (Int))) (k0 : (Int) → (List ((ByteArray) × ((Bool) × (Int)))) → (List (List (Int))) → Option R) (k1 : (Int) → (List ((ByteArray) × ((Bool) × (Int)))) → (List (List (Int))) → (List (Int)) → (Int) → (List ((Int) × (List (Int)))) → (List ((Int) × (Int))) → Option R) (k2 : (Int) → (List ((ByteArray) × ((Bool) × (Int)))) → (List (List (Int))) → (List (Int)) → (Int) → (Int) → (List (((ByteArray) × (ByteArray)) × ((Int) × (Bool)))) → (List ((Int) × (List (Int)))) → (List ((Int) × (Int))) → Option R) : Option R :=
  c1 x1
  (fun i191 l192 => br (!(decide (i191 = (0 : Int))))
   (k0 i191 l192 x2)
   (w0
    (fun i197 l198 l199 l200 i201 l202 l203 => k0 i197 l198 l199)
    (fun l204 l205 l206 i207 l208 l209 => br (decide ((0 : Int) < (Nat.cast (List.length l205) : Int)))
     (k0 (12 : Int) l204 l205)
     (k1 (0 : Int) l204 l205 l206 i207 l208 l209))
    (fun n210 n211 i212 l213 l214 l215 i216 l217 l218 => k0 i212 l213 l214)
    (fun n219 n220 l221 l222 l223 i224 l225 l226 => br (decide ((0 : Int) < (Nat.cast n220 : Int)))
     (k0 (12 : Int) l221 l222)
     (k1 (0 : Int) l221 l222 l223 i224 l225 l226))
    (fun i227 l228 l229 l230 i231 i232 l233 l234 l235 => k0 i227 l228 l229)
    (fun l236 l237 l238 i239 i240 l241 l242 l243 => br (decide ((0 : Int) < (Nat.cast (List.length l237) : Int)))
     (k0 (12 : Int) l236 l237)
     (k2 (0 : Int) l236 l237 l238 i239 i240 l241 l242 l243))
    (fun n244 n245 i246 l247 l248 l249 i250 i251 l252 l253 l254 => k0 i246 l247 l248)
    (fun n255 n256 l257 l258 l259 i260 i261 l262 l263 l264 => br (decide ((0 : Int) < (Nat.cast n256 : Int)))
     (k0 (12 : Int) l257 l258)
     (k2 (0 : Int) l257 l258 l259 i260 i261 l262 l263 l264))
    N (.v0 (Nat.cast (List.length l192) : Int) (0 : Int) l192 x2 ((0 : Int) :: ((0 : Int) :: ((0 : Int) :: ((0 : Int) :: ([] : List ((Sh.int IntKind.i64).T)))))) x0 ([] : List (((Sh.int IntKind.i64).T) × ((Sh.int IntKind.i64).isl.T))) ([] : List (((Sh.int IntKind.i64).pair (Sh.int IntKind.i64)).T)))))
  (fun i265 l266 i267 l268 => br (!(decide (i265 = (0 : Int))))
   (k0 i265 l266 x2)
   (w0
    (fun i269 l270 l271 l272 i273 l274 l275 => k0 i269 l270 l271)
    (fun l276 l277 l278 i279 l280 l281 => br (decide ((0 : Int) < (Nat.cast (List.length l277) : Int)))
     (k0 (12 : Int) l276 l277)
     (k1 (0 : Int) l276 l277 l278 i279 l280 l281))
    (fun n282 n283 i284 l285 l286 l287 i288 l289 l290 => k0 i284 l285 l286)
    (fun n291 n292 l293 l294 l295 i296 l297 l298 => br (decide ((0 : Int) < (Nat.cast n292 : Int)))
     (k0 (12 : Int) l293 l294)
     (k1 (0 : Int) l293 l294 l295 i296 l297 l298))
    (fun i299 l300 l301 l302 i303 i304 l305 l306 l307 => k0 i299 l300 l301)
    (fun l308 l309 l310 i311 i312 l313 l314 l315 => br (decide ((0 : Int) < (Nat.cast (List.length l309) : Int)))
     (k0 (12 : Int) l308 l309)
     (k2 (0 : Int) l308 l309 l310 i311 i312 l313 l314 l315))
    (fun n316 n317 i318 l319 l320 l321 i322 i323 l324 l325 l326 => k0 i318 l319 l320)
    (fun n327 n328 l329 l330 l331 i332 i333 l334 l335 l336 => br (decide ((0 : Int) < (Nat.cast n328 : Int)))
     (k0 (12 : Int) l329 l330)
     (k2 (0 : Int) l329 l330 l331 i332 i333 l334 l335 l336))
    N (.v2 (Nat.cast (List.length l266) : Int) (0 : Int) l266 x2 ((0 : Int) :: ((0 : Int) :: ((0 : Int) :: ((0 : Int) :: ([] : List ((Sh.int IntKind.i64).T)))))) x0 i267 l268 ([] : List (((Sh.int IntKind.i64).T) × ((Sh.int IntKind.i64).isl.T))) ([] : List (((Sh.int IntKind.i64).pair (Sh.int IntKind.i64)).T)))))
noncomputable def ghost_New_669c (N : Nat) {R : Type} (x0 : Int) (x1 : List ((ByteArray) × ((Bool) × (Int)))) (x2 : List (List (Int))) (k0 : (Int) → (List ((ByteArray) × ((Bool) × (Int)))) → (List (List (Int))) → Option R) (k1 : (Int) → (List ((ByteArray) × ((Bool) × (Int)))) → (List (List (Int))) → (List (Int)) → (Int) → (List ((Int) × (List (Int)))) → (List ((Int) × (Int))) → Option R) (k2 : (Int) → (List ((ByteArray) × ((Bool) × (Int)))) → (List (List (Int))) → (List (Int)) → (Int) → (Int) → (List (((ByteArray) × (ByteArray)) × ((Int) × (Bool)))) → (List ((Int) × (List (Int)))) → (List ((Int) × (Int))) → Option R) : Option R := ghost_New_669c_T N @slices_Clone__term_T_term_T (@tree_New_644a N) (@ghost_New_669c_l0 N) x0 x1 x2 k0 k1 k2
abbrev slices_Index__int_int_8e17_l0_Ty : Type 1 := {R : Type} → ((Int) → (List (Int)) → (Int) → (List ((Int) × (List (Int)))) → (List ((Int) × (Int))) → Option R) → ((List (Int)) → (Int) → (List ((Int) × (List (Int)))) → (List ((Int) × (Int))) → Option R) → Nat → (Nat) → (Nat) → (Int) → (Int) → (Int) → (List (Int)) → (Int) → (List ((Int) × (List (Int)))) → (List ((Int) × (Int))) → Option R
abbrev slices_Index__int_int_8e17_Ty : Type 1 := {R : Type} → (Nat) → (Nat) → (Int) → (List (Int)) → (Int) → (List ((Int) × (List (Int)))) → (List ((Int) × (Int))) → ((Int) → (List (Int)) → (Int) → (List ((Int) × (List (Int)))) → (List ((Int) × (Int))) → Option R) → Option R
noncomputable def slices_Index__int_int_8e17_l0_T0 (N : Nat) {R : Type} (nx : (Nat) → (Nat) → (Int) → (Int) → (Int) → (List (Int)) → (Int) → (List ((Int) × (List (Int)))) → (List ((Int) × (Int))) → Option R) (k0 : (Int) → (List (Int)) → (Int) → (List ((Int) × (List (Int)))) → (List ((Int) × (Int))) → Option R) (k1 : (List (Int)) → (Int) → (List ((Int) × (List (Int)))) → (List ((Int) × (Int))) → Option R) (x0 : Nat) (x1 : Nat) (x2 : Int) (x3 : Int) (x4 : Int) (x5 : List (Int)) (x6 : Int) (x7 : List ((Int) × (List (Int)))) (x8 : List ((Int) × (Int))) : Option R :=
  br (decide (x4 < x3))
  (br (inB x4 x0)
   (br (decide ((Int.toNat x4) < (4 : Nat)))
    (br (decide (x2 = (List.getD x5 (Int.toNat x4) (0 : Int))))
     (k0 x4 x5 x6 x7 x8)
     (nx x0 x1 x2 x3 (IntKind.wrap .i64 (x4 + (1 : Int))) x5 x6 x7 x8))
    (none))
   (none))
  (k1 x5 x6 x7 x8)
noncomputable def slices_Index__int_int_8e17_l0 (N : Nat) {R : Type} (k0 : (Int) → (List (Int)) → (Int) → (List ((Int) × (List (Int)))) → (List ((Int) × (Int))) → Option R) (k1 : (List (Int)) → (Int) → (List ((Int) × (List (Int)))) → (List ((Int) × (Int))) → Option R) : Nat → (Nat) → (Nat) → (Int) → (Int) → (Int) → (List (Int)) → (Int) → (List ((Int) × (List (Int)))) → (List ((Int) × (Int))) → Option R
  | 0, _, _, _, _, _, _, _, _, _ => none
  | n + 1, x0, x1, x2, x3, x4, x5, x6, x7, x8 => slices_Index__int_int_8e17_l0_T0 N (fun x0 x1 x2 x3 x4 x5 x6 x7 x8 => slices_Index__int_int_8e17_l0 N k0 k1 n x0 x1 x2 x3 x4 x5 x6 x7 x8) k0 k1 x0 x1 x2 x3 x4 x5 x6 x7 x8
noncomputable def slices_Index__int_int_8e17_T (N : Nat) (w0 : slices_Index__int_int_8e17_l0_Ty) {R : Type} (x0 : Nat) (x1 : Nat) (x2 : Int) (x3 : List (Int)) (x4 : Int) (x5 : List ((Int) × (List (Int)))) (x6 : List ((Int) × (Int))) (k0 : (Int) → (List (Int)) → (Int) → (List ((Int) × (List (Int)))) → (List ((Int) × (Int))) → Option R) : Option R :=
  w0
  (fun i350 l351 i352 l353 l354 => k0 i350 l351 i352 l353 l354)
  (fun l355 i356 l357 l358 => k0 (-1 : Int) l355 i356 l357 l358)
  N x0 x1 x2 (Nat.cast x0 : Int) (0 : Int) x3 x4 x5 x6
noncomputable def slices_Index__int_int_8e17 (N : Nat) {R : Type} (x0 : Nat) (x1 : Nat) (x2 : Int) (x3 : List (Int)) (x4 : Int) (x5 : List ((Int) × (List (Int)))) (x6 : List ((Int) × (Int))) (k0 : (Int) → (List (Int)) → (Int) → (List ((Int) × (List (Int)))) → (List ((Int) × (Int))) → Option R) : Option R := slices_Index__int_int_8e17_T N (@slices_Index__int_int_8e17_l0 N) x0 x1 x2 x3 x4 x5 x6 k0
abbrev slices_Index__int_int_4bb2_l0_Ty : Type 1 := {R : Type} → ((Int) → (List (Int)) → (Int) → (Int) → (List (((ByteArray) × (ByteArray)) × ((Int) × (Bool)))) → (List ((Int) × (List (Int)))) → (List ((Int) × (Int))) → Option R) → ((List (Int)) → (Int) → (Int) → (List (((ByteArray) × (ByteArray)) × ((Int) × (Bool)))) → (List ((Int) × (List (Int)))) → (List ((Int) × (Int))) → Option R) → Nat → (Nat) → (Nat) → (Int) → (Int) → (Int) → (List (Int)) → (Int) → (Int) → (List (((ByteArray) × (ByteArray)) × ((Int) × (Bool)))) → (List ((Int) × (List (Int)))) → (List ((Int) × (Int))) → Option R
abbrev slices_Index__int_int_4bb2_Ty : Type 1 := {R : Type} → (Nat) → (Nat) → (Int) → (List (Int)) → (Int) → (Int) → (List (((ByteArray) × (ByteArray)) × ((Int) × (Bool)))) → (List ((Int) × (List (Int)))) → (List ((Int) × (Int))) → ((Int) → (List (Int)) → (Int) → (Int) → (List (((ByteArray) × (ByteArray)) × ((Int) × (Bool)))) → (List ((Int) × (List (Int)))) → (List ((Int) × (Int))) → Option R) → Option R
noncomputable def slices_Index__int_int_4bb2_l0_T0 (N : Nat) {R : Type} (nx : (Nat) → (Nat) → (Int) → (Int) → (Int) → (List (Int)) → (Int) → (Int) → (List (((ByteArray) × (ByteArray)) × ((Int) × (Bool)))) → (List ((Int) × (List (Int)))) → (List ((Int) × (Int))) → Option R) (k0 : (Int) → (List (Int)) → (Int) → (Int) → (List (((ByteArray) × (ByteArray)) × ((Int) × (Bool)))) → (List ((Int) × (List (Int)))) → (List ((Int) × (Int))) → Option R) (k1 : (List (Int)) → (Int) → (Int) → (List (((ByteArray) × (ByteArray)) × ((Int) × (Bool)))) → (List ((Int) × (List (Int)))) → (List ((Int) × (Int))) → Option R) (x0 : Nat) (x1 : Nat) (x2 : Int) (x3 : Int) (x4 : Int) (x5 : List (Int)) (x6 : Int) (x7 : Int) (x8 : List (((ByteArray) × (ByteArray)) × ((Int) × (Bool)))) (x9 : List ((Int) × (List (Int)))) (x10 : List ((Int) × (Int))) : Option R :=
  br (decide (x4 < x3))
  (br (inB x4 x0)
   (br (decide ((Int.toNat x4) < (4 : Nat)))
    (br (decide (x2 = (List.getD x5 (Int.toNat x4) (0 : Int))))
     (k0 x4 x5 x6 x7 x8 x9 x10)
     (nx x0 x1 x2 x3 (IntKind.wrap .i64 (x4 + (1 : Int))) x5 x6 x7 x8 x9 x10))
    (none))
   (none))
  (k1 x5 x6 x7 x8 x9 x10)
noncomputable def slices_Index__int_int_4bb2_l0 (N : Nat) {R : Type} (k0 : (Int) → (List (Int)) → (Int) → (Int) → (List (((ByteArray) × (ByteArray)) × ((Int) × (Bool)))) → (List ((Int) × (List (Int)))) → (List ((Int) × (Int))) → Option R) (k1 : (List (Int)) → (Int) → (Int) → (List (((ByteArray) × (ByteArray)) × ((Int) × (Bool)))) → (List ((Int) × (List (Int)))) → (List ((Int) × (Int))) → Option R) : Nat → (Nat) → (Nat) → (Int) → (Int) → (Int) → (List (Int)) → (Int) → (Int) → (List (((ByteArray) × (ByteArray)) × ((Int) × (Bool)))) → (List ((Int) × (List (Int)))) → (List ((Int) × (Int))) → Option R
  | 0, _, _, _, _, _, _, _, _, _, _, _ => none
  | n + 1, x0, x1, x2, x3, x4, x5, x6, x7, x8, x9, x10 => slices_Index__int_int_4bb2_l0_T0 N (fun x0 x1 x2 x3 x4 x5 x6 x7 x8 x9 x10 => slices_Index__int_int_4bb2_l0 N k0 k1 n x0 x1 x2 x3 x4 x5 x6 x7 x8 x9 x10) k0 k1 x0 x1 x2 x3 x4 x5 x6 x7 x8 x9 x10
noncomputable def slices_Index__int_int_4bb2_T (N : Nat) (w0 : slices_Index__int_int_4bb2_l0_Ty) {R : Type} (x0 : Nat) (x1 : Nat) (x2 : Int) (x3 : List (Int)) (x4 : Int) (x5 : Int) (x6 : List (((ByteArray) × (ByteArray)) × ((Int) × (Bool)))) (x7 : List ((Int) × (List (Int)))) (x8 : List ((Int) × (Int))) (k0 : (Int) → (List (Int)) → (Int) → (Int) → (List (((ByteArray) × (ByteArray)) × ((Int) × (Bool)))) → (List ((Int) × (List (Int)))) → (List ((Int) × (Int))) → Option R) : Option R :=
  w0
  (fun i475 l476 i477 i478 l479 l480 l481 => k0 i475 l476 i477 i478 l479 l480 l481)
  (fun l482 i483 i484 l485 l486 l487 => k0 (-1 : Int) l482 i483 i484 l485 l486 l487)
  N x0 x1 x2 (Nat.cast x0 : Int) (0 : Int) x3 x4 x5 x6 x7 x8
noncomputable def slices_Index__int_int_4bb2 (N : Nat) {R : Type} (x0 : Nat) (x1 : Nat) (x2 : Int) (x3 : List (Int)) (x4 : Int) (x5 : Int) (x6 : List (((ByteArray) × (ByteArray)) × ((Int) × (Bool)))) (x7 : List ((Int) × (List (Int)))) (x8 : List ((Int) × (Int))) (k0 : (Int) → (List (Int)) → (Int) → (Int) → (List (((ByteArray) × (ByteArray)) × ((Int) × (Bool)))) → (List ((Int) × (List (Int)))) → (List ((Int) × (Int))) → Option R) : Option R := slices_Index__int_int_4bb2_T N (@slices_Index__int_int_4bb2_l0 N) x0 x1 x2 x3 x4 x5 x6 x7 x8 k0
abbrev ghost_Ghost_free_109a_Ty : Type 1 := {R : Type} → (List (Int)) → (Int) → (List ((Int) × (List (Int)))) → (List ((Int) × (Int))) → ((Int) → (Bool) → (List (Int)) → (Int) → (List ((Int) × (List (Int)))) → (List ((Int) × (Int))) → Option R) → Option R
noncomputable def ghost_Ghost_free_109a_T (N : Nat) (c0 : slices_Index__int_int_8e17_Ty) (c1 : slices_Index__int_int_4bb2_Ty) {R : Type} (x0 : List (Int)) (x1 : Int) (x2 : List ((Int) × (List (Int)))) (x3 : List ((Int) × (Int))) (k0 : (Int) → (Bool) → (List (Int)) → (Int) → (List ((Int) × (List (Int)))) → (List ((Int) × (Int))) → Option R) : Option R :=
  c0 (4 : Nat) (4 : Nat) (0 : Int) x0 x1 x2 x3
  (fun i359 l360 i361 l362 l363 => k0 i359 (decide ((0 : Int) ≤ i359)) l360 i361 l362 l363)
noncomputable def ghost_Ghost_free_109a (N : Nat) {R : Type} (x0 : List (Int)) (x1 : Int) (x2 : List ((Int) × (List (Int)))) (x3 : List ((Int) × (Int))) (k0 : (Int) → (Bool) → (List (Int)) → (Int) → (List ((Int) × (List (Int)))) → (List ((Int) × (Int))) → Option R) : Option R := ghost_Ghost_free_109a_T N (@slices_Index__int_int_8e17 N) (@slices_Index__int_int_4bb2 N) x0 x1 x2 x3 k0
abbrev ghost_Ghost_free_f1e4_Ty : Type 1 := {R : Type} → (List (Int)) → (Int) → (Int) → (List (((ByteArray) × (ByteArray)) × ((Int) × (Bool)))) → (List ((Int) × (List (Int)))) → (List ((Int) × (Int))) → ((Int) → (Bool) → (List (Int)) → (Int) → (Int) → (List (((ByteArray) × (ByteArray)) × ((Int) × (Bool)))) → (List ((Int) × (List (Int)))) → (List ((Int) × (Int))) → Option R) → Option R
noncomputable def ghost_Ghost_free_f1e4_T (N : Nat) (c0 : slices_Index__int_int_8e17_Ty) (c1 : slices_Index__int_int_4bb2_Ty) {R : Type} (x0 : List (Int)) (x1 : Int) (x2 : Int) (x3 : List (((ByteArray) × (ByteArray)) × ((Int) × (Bool)))) (x4 : List ((Int) × (List (Int)))) (x5 : List ((Int) × (Int))) (k0 : (Int) → (Bool) → (List (Int)) → (Int) → (Int) → (List (((ByteArray) × (ByteArray)) × ((Int) × (Bool)))) → (List ((Int) × (List (Int)))) → (List ((Int) × (Int))) → Option R) : Option R :=
  c1 (4 : Nat) (4 : Nat) (0 : Int) x0 x1 x2 x3 x4 x5
  (fun i488 l489 i490 i491 l492 l493 l494 => k0 i488 (decide ((0 : Int) ≤ i488)) l489 i490 i491 l492 l493 l494)
noncomputable def ghost_Ghost_free_f1e4 (N : Nat) {R : Type} (x0 : List (Int)) (x1 : Int) (x2 : Int) (x3 : List (((ByteArray) × (ByteArray)) × ((Int) × (Bool)))) (x4 : List ((Int) × (List (Int)))) (x5 : List ((Int) × (Int))) (k0 : (Int) → (Bool) → (List (Int)) → (Int) → (Int) → (List (((ByteArray) × (ByteArray)) × ((Int) × (Bool)))) → (List ((Int) × (List (Int)))) → (List ((Int) × (Int))) → Option R) : Option R := ghost_Ghost_free_f1e4_T N (@slices_Index__int_int_8e17 N) (@slices_Index__int_int_4bb2 N) x0 x1 x2 x3 x4 x5 k0
abbrev ghost_Ghost_file_4cb0_Ty : Type 1 := {R : Type} → (Int) → (List (Int)) → (Int) → (List ((Int) × (List (Int)))) → (List ((Int) × (Int))) → ((List (Int)) → (Int) → (List ((Int) × (List (Int)))) → (List ((Int) × (Int))) → Option R) → ((Int) → (List (Int)) → (Int) → (List ((Int) × (List (Int)))) → (List ((Int) × (Int))) → Option R) → Option R
noncomputable def ghost_Ghost_file_4cb0_T (N : Nat) {R : Type} (x0 : Int) (x1 : List (Int)) (x2 : Int) (x3 : List ((Int) × (List (Int)))) (x4 : List ((Int) × (Int))) (k0 : (List (Int)) → (Int) → (List ((Int) × (List (Int)))) → (List ((Int) × (Int))) → Option R) (k1 : (Int) → (List (Int)) → (Int) → (List ((Int) × (List (Int)))) → (List ((Int) × (Int))) → Option R) : Option R :=
  br (!(decide ((4 : Int) ≤ x0)))
  (br (inB x0 (4 : Nat))
   (br (decide ((Int.toNat x0) < (4 : Nat)))
    (br (decide ((List.getD x1 (Int.toNat x0) (0 : Int)) = (0 : Int)))
     (k0 x1 x2 x3 x4)
     (br (inB x0 (4 : Nat))
      (br (decide ((Int.toNat x0) < (4 : Nat)))
       (br (inB (IntKind.wrap .i64 ((List.getD x1 (Int.toNat x0) (0 : Int)) - (1 : Int))) (List.length x4))
        (k1 (IntKind.wrap .i64 ((List.getD x1 (Int.toNat x0) (0 : Int)) - (1 : Int))) x1 x2 x3 x4)
        (none))
       (none))
      (none)))
    (none))
   (none))
  (k0 x1 x2 x3 x4)
noncomputable def ghost_Ghost_file_4cb0 (N : Nat) {R : Type} (x0 : Int) (x1 : List (Int)) (x2 : Int) (x3 : List ((Int) × (List (Int)))) (x4 : List ((Int) × (Int))) (k0 : (List (Int)) → (Int) → (List ((Int) × (List (Int)))) → (List ((Int) × (Int))) → Option R) (k1 : (Int) → (List (Int)) → (Int) → (List ((Int) × (List (Int)))) → (List ((Int) × (Int))) → Option R) : Option R := ghost_Ghost_file_4cb0_T N x0 x1 x2 x3 x4 k0 k1
abbrev ghost_Ghost_file_7504_Ty : Type 1 := {R : Type} → (Int) → (List (Int)) → (Int) → (Int) → (List (((ByteArray) × (ByteArray)) × ((Int) × (Bool)))) → (List ((Int) × (List (Int)))) → (List ((Int) × (Int))) → ((List (Int)) → (Int) → (Int) → (List (((ByteArray) × (ByteArray)) × ((Int) × (Bool)))) → (List ((Int) × (List (Int)))) → (List ((Int) × (Int))) → Option R) → ((Int) → (List (Int)) → (Int) → (Int) → (List (((ByteArray) × (ByteArray)) × ((Int) × (Bool)))) → (List ((Int) × (List (Int)))) → (List ((Int) × (Int))) → Option R) → Option R
noncomputable def ghost_Ghost_file_7504_T (N : Nat) {R : Type} (x0 : Int) (x1 : List (Int)) (x2 : Int) (x3 : Int) (x4 : List (((ByteArray) × (ByteArray)) × ((Int) × (Bool)))) (x5 : List ((Int) × (List (Int)))) (x6 : List ((Int) × (Int))) (k0 : (List (Int)) → (Int) → (Int) → (List (((ByteArray) × (ByteArray)) × ((Int) × (Bool)))) → (List ((Int) × (List (Int)))) → (List ((Int) × (Int))) → Option R) (k1 : (Int) → (List (Int)) → (Int) → (Int) → (List (((ByteArray) × (ByteArray)) × ((Int) × (Bool)))) → (List ((Int) × (List (Int)))) → (List ((Int) × (Int))) → Option R) : Option R :=
  br (!(decide ((4 : Int) ≤ x0)))
  (br (inB x0 (4 : Nat))
   (br (decide ((Int.toNat x0) < (4 : Nat)))
    (br (decide ((List.getD x1 (Int.toNat x0) (0 : Int)) = (0 : Int)))
     (k0 x1 x2 x3 x4 x5 x6)
     (br (inB x0 (4 : Nat))
      (br (decide ((Int.toNat x0) < (4 : Nat)))
       (br (inB (IntKind.wrap .i64 ((List.getD x1 (Int.toNat x0) (0 : Int)) - (1 : Int))) (List.length x6))
        (k1 (IntKind.wrap .i64 ((List.getD x1 (Int.toNat x0) (0 : Int)) - (1 : Int))) x1 x2 x3 x4 x5 x6)
        (none))
       (none))
      (none)))
    (none))
   (none))
  (k0 x1 x2 x3 x4 x5 x6)
noncomputable def ghost_Ghost_file_7504 (N : Nat) {R : Type} (x0 : Int) (x1 : List (Int)) (x2 : Int) (x3 : Int) (x4 : List (((ByteArray) × (ByteArray)) × ((Int) × (Bool)))) (x5 : List ((Int) × (List (Int)))) (x6 : List ((Int) × (Int))) (k0 : (List (Int)) → (Int) → (Int) → (List (((ByteArray) × (ByteArray)) × ((Int) × (Bool)))) → (List ((Int) × (List (Int)))) → (List ((Int) × (Int))) → Option R) (k1 : (Int) → (List (Int)) → (Int) → (Int) → (List (((ByteArray) × (ByteArray)) × ((Int) × (Bool)))) → (List ((Int) × (List (Int)))) → (List ((Int) × (Int))) → Option R) : Option R := ghost_Ghost_file_7504_T N x0 x1 x2 x3 x4 x5 x6 k0 k1
abbrev ghost_Ghost_Read_ab5b_Ty : Type 1 := {R : Type} → (Int) → (Int) → (List (Int)) → (Int) → (List ((Int) × (List (Int)))) → (List ((Int) × (Int))) → ((Int) → (List (Int)) → (Int) → (List ((Int) × (List (Int)))) → (List ((Int) × (Int))) → (List (Int)) → Option R) → Option R
noncomputable def ghost_Ghost_Read_ab5b_T (N : Nat) (c0 : slices_Clone__term_T_term_T_Ty) (c1 : ghost_Ghost_file_4cb0_Ty) (c2 : ghost_Ghost_file_7504_Ty) {R : Type} (x0 : Int) (x1 : Int) (x2 : List (Int)) (x3 : Int) (x4 : List ((Int) × (List (Int)))) (x5 : List ((Int) × (Int))) (k0 : (Int) → (List (Int)) → (Int) → (List ((Int) × (List (Int)))) → (List ((Int) × (Int))) → (List (Int)) → Option R) : Option R :=
  c1 x0 x2 x3 x4 x5
  (fun l421 i422 l423 l424 => k0 (65289 : Int) l421 i422 l423 l424 ([] : List ((Sh.int IntKind.i64).T)))
  (fun i425 l426 i427 l428 l429 => br (decide ((Int.toNat i425) < (List.length l429)))
   (br (decide ((Int.toNat i425) < (List.length l429)))
    (br (leB (if ((Nat.cast (List.length (Option.getD (mfind (.int .i64) (.isl (.int .i64)) l428 (List.getD l429 (Int.toNat i425) ((0 : Int) , (0 : Int))).1) (Sh.zero (.isl (.int .i64))))) : Int) < (List.getD l429 (Int.toNat i425) ((0 : Int) , (0 : Int))).2) then (Nat.cast (List.length (Option.getD (mfind (.int .i64) (.isl (.int .i64)) l428 (List.getD l429 (Int.toNat i425) ((0 : Int) , (0 : Int))).1) (Sh.zero (.isl (.int .i64))))) : Int) else (List.getD l429 (Int.toNat i425) ((0 : Int) , (0 : Int))).2) (List.length (Option.getD (mfind (.int .i64) (.isl (.int .i64)) l428 (List.getD l429 (Int.toNat i425) ((0 : Int) , (0 : Int))).1) (Sh.zero (.isl (.int .i64))))))
     (br (leB (if ((Nat.cast (List.length (sub (Option.getD (mfind (.int .i64) (.isl (.int .i64)) l428 (List.getD l429 (Int.toNat i425) ((0 : Int) , (0 : Int))).1) (Sh.zero (.isl (.int .i64)))) (Int.toNat (if ((Nat.cast (List.length (Option.getD (mfind (.int .i64) (.isl (.int .i64)) l428 (List.getD l429 (Int.toNat i425) ((0 : Int) , (0 : Int))).1) (Sh.zero (.isl (.int .i64))))) : Int) < (List.getD l429 (Int.toNat i425) ((0 : Int) , (0 : Int))).2) then (Nat.cast (List.length (Option.getD (mfind (.int .i64) (.isl (.int .i64)) l428 (List.getD l429 (Int.toNat i425) ((0 : Int) , (0 : Int))).1) (Sh.zero (.isl (.int .i64))))) : Int) else (List.getD l429 (Int.toNat i425) ((0 : Int) , (0 : Int))).2)) ((List.length (Option.getD (mfind (.int .i64) (.isl (.int .i64)) l428 (List.getD l429 (Int.toNat i425) ((0 : Int) , (0 : Int))).1) (Sh.zero (.isl (.int .i64))))) - (Int.toNat (if ((Nat.cast (List.length (Option.getD (mfind (.int .i64) (.isl (.int .i64)) l428 (List.getD l429 (Int.toNat i425) ((0 : Int) , (0 : Int))).1) (Sh.zero (.isl (.int .i64))))) : Int) < (List.getD l429 (Int.toNat i425) ((0 : Int) , (0 : Int))).2) then (Nat.cast (List.length (Option.getD (mfind (.int .i64) (.isl (.int .i64)) l428 (List.getD l429 (Int.toNat i425) ((0 : Int) , (0 : Int))).1) (Sh.zero (.isl (.int .i64))))) : Int) else (List.getD l429 (Int.toNat i425) ((0 : Int) , (0 : Int))).2))))) : Int) < (IntKind.wrap .i64 x1)) then (Nat.cast (List.length (sub (Option.getD (mfind (.int .i64) (.isl (.int .i64)) l428 (List.getD l429 (Int.toNat i425) ((0 : Int) , (0 : Int))).1) (Sh.zero (.isl (.int .i64)))) (Int.toNat (if ((Nat.cast (List.length (Option.getD (mfind (.int .i64) (.isl (.int .i64)) l428 (List.getD l429 (Int.toNat i425) ((0 : Int) , (0 : Int))).1) (Sh.zero (.isl (.int .i64))))) : Int) < (List.getD l429 (Int.toNat i425) ((0 : Int) , (0 : Int))).2) then (Nat.cast (List.length (Option.getD (mfind (.int .i64) (.isl (.int .i64)) l428 (List.getD l429 (Int.toNat i425) ((0 : Int) , (0 : Int))).1) (Sh.zero (.isl (.int .i64))))) : Int) else (List.getD l429 (Int.toNat i425) ((0 : Int) , (0 : Int))).2)) ((List.length (Option.getD (mfind (.int .i64) (.isl (.int .i64)) l428 (List.getD l429 (Int.toNat i425) ((0 : Int) , (0 : Int))).1) (Sh.zero (.isl (.int .i64))))) - (Int.toNat (if ((Nat.cast (List.length (Option.getD (mfind (.int .i64) (.isl (.int .i64)) l428 (List.getD l429 (Int.toNat i425) ((0 : Int) , (0 : Int))).1) (Sh.zero (.isl (.int .i64))))) : Int) < (List.getD l429 (Int.toNat i425) ((0 : Int) , (0 : Int))).2) then (Nat.cast (List.length (Option.getD (mfind (.int .i64) (.isl (.int .i64)) l428 (List.getD l429 (Int.toNat i425) ((0 : Int) , (0 : Int))).1) (Sh.zero (.isl (.int .i64))))) : Int) else (List.getD l429 (Int.toNat i425) ((0 : Int) , (0 : Int))).2))))) : Int) else (IntKind.wrap .i64 x1)) (List.length (sub (Option.getD (mfind (.int .i64) (.isl (.int .i64)) l428 (List.getD l429 (Int.toNat i425) ((0 : Int) , (0 : Int))).1) (Sh.zero (.isl (.int .i64)))) (Int.toNat (if ((Nat.cast (List.length (Option.getD (mfind (.int .i64) (.isl (.int .i64)) l428 (List.getD l429 (Int.toNat i425) ((0 : Int) , (0 : Int))).1) (Sh.zero (.isl (.int .i64))))) : Int) < (List.getD l429 (Int.toNat i425) ((0 : Int) , (0 : Int))).2) then (Nat.cast (List.length (Option.getD (mfind (.int .i64) (.isl (.int .i64)) l428 (List.getD l429 (Int.toNat i425) ((0 : Int) , (0 : Int))).1) (Sh.zero (.isl (.int .i64))))) : Int) else (List.getD l429 (Int.toNat i425) ((0 : Int) , (0 : Int))).2)) ((List.length (Option.getD (mfind (.int .i64) (.isl (.int .i64)) l428 (List.getD l429 (Int.toNat i425) ((0 : Int) , (0 : Int))).1) (Sh.zero (.isl (.int .i64))))) - (Int.toNat (if ((Nat.cast (List.length (Option.getD (mfind (.int .i64) (.isl (.int .i64)) l428 (List.getD l429 (Int.toNat i425) ((0 : Int) , (0 : Int))).1) (Sh.zero (.isl (.int .i64))))) : Int) < (List.getD l429 (Int.toNat i425) ((0 : Int) , (0 : Int))).2) then (Nat.cast (List.length (Option.getD (mfind (.int .i64) (.isl (.int .i64)) l428 (List.getD l429 (Int.toNat i425) ((0 : Int) , (0 : Int))).1) (Sh.zero (.isl (.int .i64))))) : Int) else (List.getD l429 (Int.toNat i425) ((0 : Int) , (0 : Int))).2))))))
      (c0 (sub (sub (Option.getD (mfind (.int .i64) (.isl (.int .i64)) l428 (List.getD l429 (Int.toNat i425) ((0 : Int) , (0 : Int))).1) (Sh.zero (.isl (.int .i64)))) (Int.toNat (if ((Nat.cast (List.length (Option.getD (mfind (.int .i64) (.isl (.int .i64)) l428 (List.getD l429 (Int.toNat i425) ((0 : Int) , (0 : Int))).1) (Sh.zero (.isl (.int .i64))))) : Int) < (List.getD l429 (Int.toNat i425) ((0 : Int) , (0 : Int))).2) then (Nat.cast (List.length (Option.getD (mfind (.int .i64) (.isl (.int .i64)) l428 (List.getD l429 (Int.toNat i425) ((0 : Int) , (0 : Int))).1) (Sh.zero (.isl (.int .i64))))) : Int) else (List.getD l429 (Int.toNat i425) ((0 : Int) , (0 : Int))).2)) ((List.length (Option.getD (mfind (.int .i64) (.isl (.int .i64)) l428 (List.getD l429 (Int.toNat i425) ((0 : Int) , (0 : Int))).1) (Sh.zero (.isl (.int .i64))))) - (Int.toNat (if ((Nat.cast (List.length (Option.getD (mfind (.int .i64) (.isl (.int .i64)) l428 (List.getD l429 (Int.toNat i425) ((0 : Int) , (0 : Int))).1) (Sh.zero (.isl (.int .i64))))) : Int) < (List.getD l429 (Int.toNat i425) ((0 : Int) , (0 : Int))).2) then (Nat.cast (List.length (Option.getD (mfind (.int .i64) (.isl (.int .i64)) l428 (List.getD l429 (Int.toNat i425) ((0 : Int) , (0 : Int))).1) (Sh.zero (.isl (.int .i64))))) : Int) else (List.getD l429 (Int.toNat i425) ((0 : Int) , (0 : Int))).2)))) (0 : Nat) ((Int.toNat (if ((Nat.cast (List.length (sub (Option.getD (mfind (.int .i64) (.isl (.int .i64)) l428 (List.getD l429 (Int.toNat i425) ((0 : Int) , (0 : Int))).1) (Sh.zero (.isl (.int .i64)))) (Int.toNat (if ((Nat.cast (List.length (Option.getD (mfind (.int .i64) (.isl (.int .i64)) l428 (List.getD l429 (Int.toNat i425) ((0 : Int) , (0 : Int))).1) (Sh.zero (.isl (.int .i64))))) : Int) < (List.getD l429 (Int.toNat i425) ((0 : Int) , (0 : Int))).2) then (Nat.cast (List.length (Option.getD (mfind (.int .i64) (.isl (.int .i64)) l428 (List.getD l429 (Int.toNat i425) ((0 : Int) , (0 : Int))).1) (Sh.zero (.isl (.int .i64))))) : Int) else (List.getD l429 (Int.toNat i425) ((0 : Int) , (0 : Int))).2)) ((List.length (Option.getD (mfind (.int .i64) (.isl (.int .i64)) l428 (List.getD l429 (Int.toNat i425) ((0 : Int) , (0 : Int))).1) (Sh.zero (.isl (.int .i64))))) - (Int.toNat (if ((Nat.cast (List.length (Option.getD (mfind (.int .i64) (.isl (.int .i64)) l428 (List.getD l429 (Int.toNat i425) ((0 : Int) , (0 : Int))).1) (Sh.zero (.isl (.int .i64))))) : Int) < (List.getD l429 (Int.toNat i425) ((0 : Int) , (0 : Int))).2) then (Nat.cast (List.length (Option.getD (mfind (.int .i64) (.isl (.int .i64)) l428 (List.getD l429 (Int.toNat i425) ((0 : Int) , (0 : Int))).1) (Sh.zero (.isl (.int .i64))))) : Int) else (List.getD l429 (Int.toNat i425) ((0 : Int) , (0 : Int))).2))))) : Int) < (IntKind.wrap .i64 x1)) then (Nat.cast (List.length (sub (Option.getD (mfind (.int .i64) (.isl (.int .i64)) l428 (List.getD l429 (Int.toNat i425) ((0 : Int) , (0 : Int))).1) (Sh.zero (.isl (.int .i64)))) (Int.toNat (if ((Nat.cast (List.length (Option.getD (mfind (.int .i64) (.isl (.int .i64)) l428 (List.getD l429 (Int.toNat i425) ((0 : Int) , (0 : Int))).1) (Sh.zero (.isl (.int .i64))))) : Int) < (List.getD l429 (Int.toNat i425) ((0 : Int) , (0 : Int))).2) then (Nat.cast (List.length (Option.getD (mfind (.int .i64) (.isl (.int .i64)) l428 (List.getD l429 (Int.toNat i425) ((0 : Int) , (0 : Int))).1) (Sh.zero (.isl (.int .i64))))) : Int) else (List.getD l429 (Int.toNat i425) ((0 : Int) , (0 : Int))).2)) ((List.length (Option.getD (mfind (.int .i64) (.isl (.int .i64)) l428 (List.getD l429 (Int.toNat i425) ((0 : Int) , (0 : Int))).1) (Sh.zero (.isl (.int .i64))))) - (Int.toNat (if ((Nat.cast (List.length (Option.getD (mfind (.int .i64) (.isl (.int .i64)) l428 (List.getD l429 (Int.toNat i425) ((0 : Int) , (0 : Int))).1) (Sh.zero (.isl (.int .i64))))) : Int) < (List.getD l429 (Int.toNat i425) ((0 : Int) , (0 : Int))).2) then (Nat.cast (List.length (Option.getD (mfind (.int .i64) (.isl (.int .i64)) l428 (List.getD l429 (Int.toNat i425) ((0 : Int) , (0 : Int))).1) (Sh.zero (.isl (.int .i64))))) : Int) else (List.getD l429 (Int.toNat i425) ((0 : Int) , (0 : Int))).2))))) : Int) else (IntKind.wrap .i64 x1))) - (0 : Nat)))
       (fun l430 => br (decide ((Int.toNat i425) < (List.length l429)))
        (br (decide ((Int.toNat i425) < (List.length l429)))
         (k0 (IntKind.wrap .u16 (Nat.cast (List.length l430) : Int)) l426 i427 l428 (List.set l429 (Int.toNat i425) ((List.getD l429 (Int.toNat i425) ((0 : Int) , (0 : Int))).1 , (IntKind.wrap .i64 ((List.getD l429 (Int.toNat i425) ((0 : Int) , (0 : Int))).2 + (Nat.cast (List.length l430) : Int))))) l430)
         (none))
        (none)))
      (none))
     (none))
    (none))
   (none))
noncomputable def ghost_Ghost_Read_ab5b (N : Nat) {R : Type} (x0 : Int) (x1 : Int) (x2 : List (Int)) (x3 : Int) (x4 : List ((Int) × (List (Int)))) (x5 : List ((Int) × (Int))) (k0 : (Int) → (List (Int)) → (Int) → (List ((Int) × (List (Int)))) → (List ((Int) × (Int))) → (List (Int)) → Option R) : Option R := ghost_Ghost_Read_ab5b_T N @slices_Clone__term_T_term_T (@ghost_Ghost_file_4cb0 N) (@ghost_Ghost_file_7504 N) x0 x1 x2 x3 x4 x5 k0
abbrev ghost_Ghost_Read_5658_Ty : Type 1 := {R : Type} → (Int) → (Int) → (List (Int)) → (Int) → (Int) → (List (((ByteArray) × (ByteArray)) × ((Int) × (Bool)))) → (List ((Int) × (List (Int)))) → (List ((Int) × (Int))) → ((Int) → (List (Int)) → (Int) → (Int) → (List (((ByteArray) × (ByteArray)) × ((Int) × (Bool)))) → (List ((Int) × (List (Int)))) → (List ((Int) × (Int))) → (List (Int)) → Option R) → Option R
noncomputable def ghost_Ghost_Read_5658_T (N : Nat) (c0 : slices_Clone__term_T_term_T_Ty) (c1 : ghost_Ghost_file_4cb0_Ty) (c2 : ghost_Ghost_file_7504_Ty) {R : Type} (x0 : Int) (x1 : Int) (x2 : List (Int)) (x3 : Int) (x4 : Int) (x5 : List (((ByteArray) × (ByteArray)) × ((Int) × (Bool)))) (x6 : List ((Int) × (List (Int)))) (x7 : List ((Int) × (Int))) (k0 : (Int) → (List (Int)) → (Int) → (Int) → (List (((ByteArray) × (ByteArray)) × ((Int) × (Bool)))) → (List ((Int) × (List (Int)))) → (List ((Int) × (Int))) → (List (Int)) → Option R) : Option R :=
  c2 x0 x2 x3 x4 x5 x6 x7
  (fun l588 i589 i590 l591 l592 l593 => k0 (65289 : Int) l588 i589 i590 l591 l592 l593 ([] : List ((Sh.int IntKind.i64).T)))
  (fun i594 l595 i596 i597 l598 l599 l600 => br (decide ((Int.toNat i594) < (List.length l600)))
   (br (decide ((Int.toNat i594) < (List.length l600)))
    (br (leB (if ((Nat.cast (List.length (Option.getD (mfind (.int .i64) (.isl (.int .i64)) l599 (List.getD l600 (Int.toNat i594) ((0 : Int) , (0 : Int))).1) (Sh.zero (.isl (.int .i64))))) : Int) < (List.getD l600 (Int.toNat i594) ((0 : Int) , (0 : Int))).2) then (Nat.cast (List.length (Option.getD (mfind (.int .i64) (.isl (.int .i64)) l599 (List.getD l600 (Int.toNat i594) ((0 : Int) , (0 : Int))).1) (Sh.zero (.isl (.int .i64))))) : Int) else (List.getD l600 (Int.toNat i594) ((0 : Int) , (0 : Int))).2) (List.length (Option.getD (mfind (.int .i64) (.isl (.int .i64)) l599 (List.getD l600 (Int.toNat i594) ((0 : Int) , (0 : Int))).1) (Sh.zero (.isl (.int .i64))))))
     (br (leB (if ((Nat.cast (List.length (sub (Option.getD (mfind (.int .i64) (.isl (.int .i64)) l599 (List.getD l600 (Int.toNat i594) ((0 : Int) , (0 : Int))).1) (Sh.zero (.isl (.int .i64)))) (Int.toNat (if ((Nat.cast (List.length (Option.getD (mfind (.int .i64) (.isl (.int .i64)) l599 (List.getD l600 (Int.toNat i594) ((0 : Int) , (0 : Int))).1) (Sh.zero (.isl (.int .i64))))) : Int) < (List.getD l600 (Int.toNat i594) ((0 : Int) , (0 : Int))).2) then (Nat.cast (List.length (Option.getD (mfind (.int .i64) (.isl (.int .i64)) l599 (List.getD l600 (Int.toNat i594) ((0 : Int) , (0 : Int))).1) (Sh.zero (.isl (.int .i64))))) : Int) else (List.getD l600 (Int.toNat i594) ((0 : Int) , (0 : Int))).2)) ((List.length (Option.getD (mfind (.int .i64) (.isl (.int .i64)) l599 (List.getD l600 (Int.toNat i594) ((0 : Int) , (0 : Int))).1) (Sh.zero (.isl (.int .i64))))) - (Int.toNat (if ((Nat.cast (List.length (Option.getD (mfind (.int .i64) (.isl (.int .i64)) l599 (List.getD l600 (Int.toNat i594) ((0 : Int) , (0 : Int))).1) (Sh.zero (.isl (.int .i64))))) : Int) < (List.getD l600 (Int.toNat i594) ((0 : Int) , (0 : Int))).2) then (Nat.cast (List.length (Option.getD (mfind (.int .i64) (.isl (.int .i64)) l599 (List.getD l600 (Int.toNat i594) ((0 : Int) , (0 : Int))).1) (Sh.zero (.isl (.int .i64))))) : Int) else (List.getD l600 (Int.toNat i594) ((0 : Int) , (0 : Int))).2))))) : Int) < (IntKind.wrap .i64 x1)) then (Nat.cast (List.length (sub (Option.getD (mfind (.int .i64) (.isl (.int .i64)) l599 (List.getD l600 (Int.toNat i594) ((0 : Int) , (0 : Int))).1) (Sh.zero (.isl (.int .i64)))) (Int.toNat (if ((Nat.cast (List.length (Option.getD (mfind (.int .i64) (.isl (.int .i64)) l599 (List.getD l600 (Int.toNat i594) ((0 : Int) , (0 : Int))).1) (Sh.zero (.isl (.int .i64))))) : Int) < (List.getD l600 (Int.toNat i594) ((0 : Int) , (0 : Int))).2) then (Nat.cast (List.length (Option.getD (mfind (.int .i64) (.isl (.int .i64)) l599 (List.getD l600 (Int.toNat i594) ((0 : Int) , (0 : Int))).1) (Sh.zero (.isl (.int .i64))))) : Int) else (List.getD l600 (Int.toNat i594) ((0 : Int) , (0 : Int))).2)) ((List.length (Option.getD (mfind (.int .i64) (.isl (.int .i64)) l599 (List.getD l600 (Int.toNat i594) ((0 : Int) , (0 : Int))).1) (Sh.zero (.isl (.int .i64))))) - (Int.toNat (if ((Nat.cast (List.length (Option.getD (mfind (.int .i64) (.isl (.int .i64)) l599 (List.getD l600 (Int.toNat i594) ((0 : Int) , (0 : Int))).1) (Sh.zero (.isl (.int .i64))))) : Int) < (List.getD l600 (Int.toNat i594) ((0 : Int) , (0 : Int))).2) then (Nat.cast (List.length (Option.getD (mfind (.int .i64) (.isl (.int .i64)) l599 (List.getD l600 (Int.toNat i594) ((0 : Int) , (0 : Int))).1) (Sh.zero (.isl (.int .i64))))) : Int) else (List.getD l600 (Int.toNat i594) ((0 : Int) , (0 : Int))).2))))) : Int) else (IntKind.wrap .i64 x1)) (List.length (sub (Option.getD (mfind (.int .i64) (.isl (.int .i64)) l599 (List.getD l600 (Int.toNat i594) ((0 : Int) , (0 : Int))).1) (Sh.zero (.isl (.int .i64)))) (Int.toNat (if ((Nat.cast (List.length (Option.getD (mfind (.int .i64) (.isl (.int .i64)) l599 (List.getD l600 (Int.toNat i594) ((0 : Int) , (0 : Int))).1) (Sh.zero (.isl (.int .i64))))) : Int) < (List.getD l600 (Int.toNat i594) ((0 : Int) , (0 : Int))).2) then (Nat.cast (List.length (Option.getD (mfind (.int .i64) (.isl (.int .i64)) l599 (List.getD l600 (Int.toNat i594) ((0 : Int) , (0 : Int))).1) (Sh.zero (.isl (.int .i64))))) : Int) else (List.getD l600 (Int.toNat i594) ((0 : Int) , (0 : Int))).2)) ((List.length (Option.getD (mfind (.int .i64) (.isl (.int .i64)) l599 (List.getD l600 (Int.toNat i594) ((0 : Int) , (0 : Int))).1) (Sh.zero (.isl (.int .i64))))) - (Int.toNat (if ((Nat.cast (List.length (Option.getD (mfind (.int .i64) (.isl (.int .i64)) l599 (List.getD l600 (Int.toNat i594) ((0 : Int) , (0 : Int))).1) (Sh.zero (.isl (.int .i64))))) : Int) < (List.getD l600 (Int.toNat i594) ((0 : Int) , (0 : Int))).2) then (Nat.cast (List.length (Option.getD (mfind (.int .i64) (.isl (.int .i64)) l599 (List.getD l600 (Int.toNat i594) ((0 : Int) , (0 : Int))).1) (Sh.zero (.isl (.int .i64))))) : Int) else (List.getD l600 (Int.toNat i594) ((0 : Int) , (0 : Int))).2))))))
      (c0 (sub (sub (Option.getD (mfind (.int .i64) (.isl (.int .i64)) l599 (List.getD l600 (Int.toNat i594) ((0 : Int) , (0 : Int))).1) (Sh.zero (.isl (.int .i64)))) (Int.toNat (if ((Nat.cast (List.length (Option.getD (mfind (.int .i64) (.isl (.int .i64)) l599 (List.getD l600 (Int.toNat i594) ((0 : Int) , (0 : Int))).1) (Sh.zero (.isl (.int .i64))))) : Int) < (List.getD l600 (Int.toNat i594) ((0 : Int) , (0 : Int))).2) then (Nat.cast (List.length (Option.getD (mfind (.int .i64) (.isl (.int .i64)) l599 (List.getD l600 (Int.toNat i594) ((0 : Int) , (0 : Int))).1) (Sh.zero (.isl (.int .i64))))) : Int) else (List.getD l600 (Int.toNat i594) ((0 : Int) , (0 : Int))).2)) ((List.length (Option.getD (mfind (.int .i64) (.isl (.int .i64)) l599 (List.getD l600 (Int.toNat i594) ((0 : Int) , (0 : Int))).1) (Sh.zero (.isl (.int .i64))))) - (Int.toNat (if ((Nat.cast (List.length (Option.getD (mfind (.int .i64) (.isl (.int .i64)) l599 (List.getD l600 (Int.toNat i594) ((0 : Int) , (0 : Int))).1) (Sh.zero (.isl (.int .i64))))) : Int) < (List.getD l600 (Int.toNat i594) ((0 : Int) , (0 : Int))).2) then (Nat.cast (List.length (Option.getD (mfind (.int .i64) (.isl (.int .i64)) l599 (List.getD l600 (Int.toNat i594) ((0 : Int) , (0 : Int))).1) (Sh.zero (.isl (.int .i64))))) : Int) else (List.getD l600 (Int.toNat i594) ((0 : Int) , (0 : Int))).2)))) (0 : Nat) ((Int.toNat (if ((Nat.cast (List.length (sub (Option.getD (mfind (.int .i64) (.isl (.int .i64)) l599 (List.getD l600 (Int.toNat i594) ((0 : Int) , (0 : Int))).1) (Sh.zero (.isl (.int .i64)))) (Int.toNat (if ((Nat.cast (List.length (Option.getD (mfind (.int .i64) (.isl (.int .i64)) l599 (List.getD l600 (Int.toNat i594) ((0 : Int) , (0 : Int))).1) (Sh.zero (.isl (.int .i64))))) : Int) < (List.getD l600 (Int.toNat i594) ((0 : Int) , (0 : Int))).2) then (Nat.cast (List.length (Option.getD (mfind (.int .i64) (.isl (.int .i64)) l599 (List.getD l600 (Int.toNat i594) ((0 : Int) , (0 : Int))).1) (Sh.zero (.isl (.int .i64))))) : Int) else (List.getD l600 (Int.toNat i594) ((0 : Int) , (0 : Int))).2)) ((List.length (Option.getD (mfind (.int .i64) (.isl (.int .i64)) l599 (List.getD l600 (Int.toNat i594) ((0 : Int) , (0 : Int))).1) (Sh.zero (.isl (.int .i64))))) - (Int.toNat (if ((Nat.cast (List.length (Option.getD (mfind (.int .i64) (.isl (.int .i64)) l599 (List.getD l600 (Int.toNat i594) ((0 : Int) , (0 : Int))).1) (Sh.zero (.isl (.int .i64))))) : Int) < (List.getD l600 (Int.toNat i594) ((0 : Int) , (0 : Int))).2) then (Nat.cast (List.length (Option.getD (mfind (.int .i64) (.isl (.int .i64)) l599 (List.getD l600 (Int.toNat i594) ((0 : Int) , (0 : Int))).1) (Sh.zero (.isl (.int .i64))))) : Int) else (List.getD l600 (Int.toNat i594) ((0 : Int) , (0 : Int))).2))))) : Int) < (IntKind.wrap .i64 x1)) then (Nat.cast (List.length (sub (Option.getD (mfind (.int .i64) (.isl (.int .i64)) l599 (List.getD l600 (Int.toNat i594) ((0 : Int) , (0 : Int))).1) (Sh.zero (.isl (.int .i64)))) (Int.toNat (if ((Nat.cast (List.length (Option.getD (mfind (.int .i64) (.isl (.int .i64)) l599 (List.getD l600 (Int.toNat i594) ((0 : Int) , (0 : Int))).1) (Sh.zero (.isl (.int .i64))))) : Int) < (List.getD l600 (Int.toNat i594) ((0 : Int) , (0 : Int))).2) then (Nat.cast (List.length (Option.getD (mfind (.int .i64) (.isl (.int .i64)) l599 (List.getD l600 (Int.toNat i594) ((0 : Int) , (0 : Int))).1) (Sh.zero (.isl (.int .i64))))) : Int) else (List.getD l600 (Int.toNat i594) ((0 : Int) , (0 : Int))).2)) ((List.length (Option.getD (mfind (.int .i64) (.isl (.int .i64)) l599 (List.getD l600 (Int.toNat i594) ((0 : Int) , (0 : Int))).1) (Sh.zero (.isl (.int .i64))))) - (Int.toNat (if ((Nat.cast (List.length (Option.getD (mfind (.int .i64) (.isl (.int .i64)) l599 (List.getD l600 (Int.toNat i594) ((0 : Int) , (0 : Int))).1) (Sh.zero (.isl (.int .i64))))) : Int) < (List.getD l600 (Int.toNat i594) ((0 : Int) , (0 : Int))).2) then (Nat.cast (List.length (Option.getD (mfind (.int .i64) (.isl (.int .i64)) l599 (List.getD l600 (Int.toNat i594) ((0 : Int) , (0 : Int))).1) (Sh.zero (.isl (.int .i64))))) : Int) else (List.getD l600 (Int.toNat i594) ((0 : Int) , (0 : Int))).2))))) : Int) else (IntKind.wrap .i64 x1))) - (0 : Nat)))
       (fun l601 => br (decide ((Int.toNat i594) < (List.length l600)))
        (br (decide ((Int.toNat i594) < (List.length l600)))
         (k0 (IntKind.wrap .u16 (Nat.cast (List.length l601) : Int)) l595 i596 i597 l598 l599 (List.set l600 (Int.toNat i594) ((List.getD l600 (Int.toNat i594) ((0 : Int) , (0 : Int))).1 , (IntKind.wrap .i64 ((List.getD l600 (Int.toNat i594) ((0 : Int) , (0 : Int))).2 + (Nat.cast (List.length l601) : Int))))) l601)
         (none))
        (none)))
      (none))
     (none))
    (none))
   (none))
noncomputable def ghost_Ghost_Read_5658 (N : Nat) {R : Type} (x0 : Int) (x1 : Int) (x2 : List (Int)) (x3 : Int) (x4 : Int) (x5 : List (((ByteArray) × (ByteArray)) × ((Int) × (Bool)))) (x6 : List ((Int) × (List (Int)))) (x7 : List ((Int) × (Int))) (k0 : (Int) → (List (Int)) → (Int) → (Int) → (List (((ByteArray) × (ByteArray)) × ((Int) × (Bool)))) → (List ((Int) × (List (Int)))) → (List ((Int) × (Int))) → (List (Int)) → Option R) : Option R := ghost_Ghost_Read_5658_T N @slices_Clone__term_T_term_T (@ghost_Ghost_file_4cb0 N) (@ghost_Ghost_file_7504 N) x0 x1 x2 x3 x4 x5 x6 x7 k0
abbrev ghost_Ghost_Size_4cb0_Ty : Type 1 := {R : Type} → (Int) → (List (Int)) → (Int) → (List ((Int) × (List (Int)))) → (List ((Int) × (Int))) → ((Int) → (List (Int)) → (Int) → (List ((Int) × (List (Int)))) → (List ((Int) × (Int))) → Option R) → Option R
noncomputable def ghost_Ghost_Size_4cb0_T (N : Nat) (c0 : ghost_Ghost_file_4cb0_Ty) (c1 : ghost_Ghost_file_7504_Ty) {R : Type} (x0 : Int) (x1 : List (Int)) (x2 : Int) (x3 : List ((Int) × (List (Int)))) (x4 : List ((Int) × (Int))) (k0 : (Int) → (List (Int)) → (Int) → (List ((Int) × (List (Int)))) → (List ((Int) × (Int))) → Option R) : Option R :=
  c0 x0 x1 x2 x3 x4
  (fun l437 i438 l439 l440 => k0 (65289 : Int) l437 i438 l439 l440)
  (fun i441 l442 i443 l444 l445 => br (decide ((Int.toNat i441) < (List.length l445)))
   (k0 (IntKind.wrap .u16 (Nat.cast (List.length (Option.getD (mfind (.int .i64) (.isl (.int .i64)) l444 (List.getD l445 (Int.toNat i441) ((0 : Int) , (0 : Int))).1) (Sh.zero (.isl (.int .i64))))) : Int)) l442 i443 l444 l445)
   (none))
noncomputable def ghost_Ghost_Size_4cb0 (N : Nat) {R : Type} (x0 : Int) (x1 : List (Int)) (x2 : Int) (x3 : List ((Int) × (List (Int)))) (x4 : List ((Int) × (Int))) (k0 : (Int) → (List (Int)) → (Int) → (List ((Int) × (List (Int)))) → (List ((Int) × (Int))) → Option R) : Option R := ghost_Ghost_Size_4cb0_T N (@ghost_Ghost_file_4cb0 N) (@ghost_Ghost_file_7504 N) x0 x1 x2 x3 x4 k0
abbrev ghost_Ghost_Size_7504_Ty : Type 1 := {R : Type} → (Int) → (List (Int)) → (Int) → (Int) → (List (((ByteArray) × (ByteArray)) × ((Int) × (Bool)))) → (List ((Int) × (List (Int)))) → (List ((Int) × (Int))) → ((Int) → (List (Int)) → (Int) → (Int) → (List (((ByteArray) × (ByteArray)) × ((Int) × (Bool)))) → (List ((Int) × (List (Int)))) → (List ((Int) × (Int))) → Option R) → Option R
noncomputable def ghost_Ghost_Size_7504_T (N : Nat) (c0 : ghost_Ghost_file_4cb0_Ty) (c1 : ghost_Ghost_file_7504_Ty) {R : Type} (x0 : Int) (x1 : List (Int)) (x2 : Int) (x3 : Int) (x4 : List (((ByteArray) × (ByteArray)) × ((Int) × (Bool)))) (x5 : List ((Int) × (List (Int)))) (x6 : List ((Int) × (Int))) (k0 : (Int) → (List (Int)) → (Int) → (Int) → (List (((ByteArray) × (ByteArray)) × ((Int) × (Bool)))) → (List ((Int) × (List (Int)))) → (List ((Int) × (Int))) → Option R) : Option R :=
  c1 x0 x1 x2 x3 x4 x5 x6
  (fun l610 i611 i612 l613 l614 l615 => k0 (65289 : Int) l610 i611 i612 l613 l614 l615)
  (fun i616 l617 i618 i619 l620 l621 l622 => br (decide ((Int.toNat i616) < (List.length l622)))
   (k0 (IntKind.wrap .u16 (Nat.cast (List.length (Option.getD (mfind (.int .i64) (.isl (.int .i64)) l621 (List.getD l622 (Int.toNat i616) ((0 : Int) , (0 : Int))).1) (Sh.zero (.isl (.int .i64))))) : Int)) l617 i618 i619 l620 l621 l622)
   (none))
noncomputable def ghost_Ghost_Size_7504 (N : Nat) {R : Type} (x0 : Int) (x1 : List (Int)) (x2 : Int) (x3 : Int) (x4 : List (((ByteArray) × (ByteArray)) × ((Int) × (Bool)))) (x5 : List ((Int) × (List (Int)))) (x6 : List ((Int) × (Int))) (k0 : (Int) → (List (Int)) → (Int) → (Int) → (List (((ByteArray) × (ByteArray)) × ((Int) × (Bool)))) → (List ((Int) × (List (Int)))) → (List ((Int) × (Int))) → Option R) : Option R := ghost_Ghost_Size_7504_T N (@ghost_Ghost_file_4cb0 N) (@ghost_Ghost_file_7504 N) x0 x1 x2 x3 x4 x5 x6 k0
abbrev tree_Tree_get_fb98_Ty : Type 1 := {R : Type} → (ByteArray) → (Int) → (List (((ByteArray) × (ByteArray)) × ((Int) × (Bool)))) → ((Int) → (Bool) → (Int) → (Int) → (List (((ByteArray) × (ByteArray)) × ((Int) × (Bool)))) → Option R) → Option R
noncomputable def tree_Tree_get_fb98_T (N : Nat) (c0 : tree_Tree_above_2de7_Ty) (c1 : tree_of_Ty) {R : Type} (x0 : ByteArray) (x1 : Int) (x2 : List (((ByteArray) × (ByteArray)) × ((Int) × (Bool)))) (k0 : (Int) → (Bool) → (Int) → (Int) → (List (((ByteArray) × (ByteArray)) × ((Int) × (Bool)))) → Option R) : Option R :=
  c1 x0
  (fun s460 s461 => c0 s460 s461 x1 x2
   (fun i462 i463 l464 => br (!(decide (i462 = (0 : Int))))
    (k0 (0 : Int) false i462 i463 l464)
    (br ((Option.isSome (mfind (.pair .str .str) (.pair (.int .i64) .bool) l464 (s460 , s461))) == (Option.isSome (mfind (.pair .str .str) (.pair (.int .i64) .bool) l464 (s460 , s461))))
     (br (!(Option.isSome (mfind (.pair .str .str) (.pair (.int .i64) .bool) l464 (s460 , s461))))
      (k0 (0 : Int) false (65282 : Int) i463 l464)
      (k0 (Option.getD (mfind (.pair .str .str) (.pair (.int .i64) .bool) l464 (s460 , s461)) ((0 : Int) , false)).1 (Option.getD (mfind (.pair .str .str) (.pair (.int .i64) .bool) l464 (s460 , s461)) ((0 : Int) , false)).2 (0 : Int) i463 l464))
     (none))))
noncomputable def tree_Tree_get_fb98 (N : Nat) {R : Type} (x0 : ByteArray) (x1 : Int) (x2 : List (((ByteArray) × (ByteArray)) × ((Int) × (Bool)))) (k0 : (Int) → (Bool) → (Int) → (Int) → (List (((ByteArray) × (ByteArray)) × ((Int) × (Bool)))) → Option R) : Option R := tree_Tree_get_fb98_T N (@tree_Tree_above_2de7 N) (@tree_of N) x0 x1 x2 k0
abbrev tree_Tree_Find_Ty : Type 1 := {R : Type} → (ByteArray) → ((Int) → (Bool) → (Int) → Option R) → Option R
noncomputable def tree_Tree_Find_T (N : Nat) (c0 : tree_Tree_get_fb98_Ty) {R : Type} (x0 : ByteArray) (k0 : (Int) → (Bool) → (Int) → Option R) : Option R :=
  k0 (0 : Int) false (0 : Int)
noncomputable def tree_Tree_Find (N : Nat) {R : Type} (x0 : ByteArray) (k0 : (Int) → (Bool) → (Int) → Option R) : Option R := tree_Tree_Find_T N (@tree_Tree_get_fb98 N) x0 k0
abbrev tree_Tree_Find_fb98_Ty : Type 1 := {R : Type} → (ByteArray) → (Int) → (List (((ByteArray) × (ByteArray)) × ((Int) × (Bool)))) → ((Int) → (Bool) → (Int) → (Int) → (List (((ByteArray) × (ByteArray)) × ((Int) × (Bool)))) → Option R) → Option R
noncomputable def tree_Tree_Find_fb98_T (N : Nat) (c0 : tree_Tree_get_fb98_Ty) {R : Type} (x0 : ByteArray) (x1 : Int) (x2 : List (((ByteArray) × (ByteArray)) × ((Int) × (Bool)))) (k0 : (Int) → (Bool) → (Int) → (Int) → (List (((ByteArray) × (ByteArray)) × ((Int) × (Bool)))) → Option R) : Option R :=
  c0 x0 x1 x2
  (fun i465 b466 i467 i468 l469 => br (!(decide (i467 = (0 : Int))))
   (k0 (-1 : Int) false i467 i468 l469)
   (k0 i465 b466 (0 : Int) i468 l469))
noncomputable def tree_Tree_Find_fb98 (N : Nat) {R : Type} (x0 : ByteArray) (x1 : Int) (x2 : List (((ByteArray) × (ByteArray)) × ((Int) × (Bool)))) (k0 : (Int) → (Bool) → (Int) → (Int) → (List (((ByteArray) × (ByteArray)) × ((Int) × (Bool)))) → Option R) : Option R := tree_Tree_Find_fb98_T N (@tree_Tree_get_fb98 N) x0 x1 x2 k0
abbrev maps_Clone_map_tree_keytree_entry_tree_key_tree_entry_df6b_Ty : Type 1 := {R : Type} → (List (((ByteArray) × (ByteArray)) × ((Int) × (Bool)))) → ((List (((ByteArray) × (ByteArray)) × ((Int) × (Bool)))) → (List (((ByteArray) × (ByteArray)) × ((Int) × (Bool)))) → Option R) → Option R
noncomputable def maps_Clone_map_tree_keytree_entry_tree_key_tree_entry_df6b {R : Type} (x0 : List (((ByteArray) × (ByteArray)) × ((Int) × (Bool)))) (k0 : (List (((ByteArray) × (ByteArray)) × ((Int) × (Bool)))) → (List (((ByteArray) × (ByteArray)) × ((Int) × (Bool)))) → Option R) : Option R := k0 x0 x0
abbrev tree_Tree_Copy_Ty : Type 1 := {R : Type} → (Option R) → Option R
noncomputable def tree_Tree_Copy_T (N : Nat) (c0 : maps_Clone_map_tree_keytree_entry_tree_key_tree_entry_df6b_Ty) {R : Type} (k0 : Option R) : Option R :=
  k0
noncomputable def tree_Tree_Copy (N : Nat) {R : Type} (k0 : Option R) : Option R := tree_Tree_Copy_T N @maps_Clone_map_tree_keytree_entry_tree_key_tree_entry_df6b k0
abbrev tree_Tree_Copy_a28d_Ty : Type 1 := {R : Type} → (Int) → (List (((ByteArray) × (ByteArray)) × ((Int) × (Bool)))) → ((Int) → (List (((ByteArray) × (ByteArray)) × ((Int) × (Bool)))) → (Int) → (List (((ByteArray) × (ByteArray)) × ((Int) × (Bool)))) → Option R) → Option R
noncomputable def tree_Tree_Copy_a28d_T (N : Nat) (c0 : maps_Clone_map_tree_keytree_entry_tree_key_tree_entry_df6b_Ty) {R : Type} (x0 : Int) (x1 : List (((ByteArray) × (ByteArray)) × ((Int) × (Bool)))) (k0 : (Int) → (List (((ByteArray) × (ByteArray)) × ((Int) × (Bool)))) → (Int) → (List (((ByteArray) × (ByteArray)) × ((Int) × (Bool)))) → Option R) : Option R :=
  c0 x1
  (fun l503 l504 => br (decide (x0 = x0))
   (k0 x0 l503 x0 l504)
   (none))
noncomputable def tree_Tree_Copy_a28d (N : Nat) {R : Type} (x0 : Int) (x1 : List (((ByteArray) × (ByteArray)) × ((Int) × (Bool)))) (k0 : (Int) → (List (((ByteArray) × (ByteArray)) × ((Int) × (Bool)))) → (Int) → (List (((ByteArray) × (ByteArray)) × ((Int) × (Bool)))) → Option R) : Option R := tree_Tree_Copy_a28d_T N @maps_Clone_map_tree_keytree_entry_tree_key_tree_entry_df6b x0 x1 k0
abbrev ghost_Ghost_may_9183_Ty : Type 1 := {R : Type} → (ByteArray) → (List (Int)) → (Int) → (List ((Int) × (List (Int)))) → (List ((Int) × (Int))) → ((Bool) → (List (Int)) → (Int) → (List ((Int) × (List (Int)))) → (List ((Int) × (Int))) → Option R) → Option R
noncomputable def ghost_Ghost_may_9183_T (N : Nat) (c0 : tree_Tree_Make_c502_Ty) (c1 : tree_Tree_Make_Ty) (c2 : tree_Tree_Copy_Ty) (c3 : tree_Tree_Copy_a28d_Ty) {R : Type} (x0 : ByteArray) (x1 : List (Int)) (x2 : Int) (x3 : List ((Int) × (List (Int)))) (x4 : List ((Int) × (Int))) (k0 : (Bool) → (List (Int)) → (Int) → (List ((Int) × (List (Int)))) → (List ((Int) × (Int))) → Option R) : Option R :=
  c2
  (c1 x0 false
   (fun i370 i371 => k0 (!(decide (i371 = (65282 : Int)))) x1 x2 x3 x4))
noncomputable def ghost_Ghost_may_9183 (N : Nat) {R : Type} (x0 : ByteArray) (x1 : List (Int)) (x2 : Int) (x3 : List ((Int) × (List (Int)))) (x4 : List ((Int) × (Int))) (k0 : (Bool) → (List (Int)) → (Int) → (List ((Int) × (List (Int)))) → (List ((Int) × (Int))) → Option R) : Option R := ghost_Ghost_may_9183_T N (@tree_Tree_Make_c502 N) (@tree_Tree_Make N) (@tree_Tree_Copy N) (@tree_Tree_Copy_a28d N) x0 x1 x2 x3 x4 k0
abbrev ghost_Ghost_may_e876_Ty : Type 1 := {R : Type} → (ByteArray) → (List (Int)) → (Int) → (Int) → (List (((ByteArray) × (ByteArray)) × ((Int) × (Bool)))) → (List ((Int) × (List (Int)))) → (List ((Int) × (Int))) → ((Bool) → (List (Int)) → (Int) → (Int) → (List (((ByteArray) × (ByteArray)) × ((Int) × (Bool)))) → (List ((Int) × (List (Int)))) → (List ((Int) × (Int))) → Option R) → Option R
noncomputable def ghost_Ghost_may_e876_T (N : Nat) (c0 : tree_Tree_Make_c502_Ty) (c1 : tree_Tree_Make_Ty) (c2 : tree_Tree_Copy_Ty) (c3 : tree_Tree_Copy_a28d_Ty) {R : Type} (x0 : ByteArray) (x1 : List (Int)) (x2 : Int) (x3 : Int) (x4 : List (((ByteArray) × (ByteArray)) × ((Int) × (Bool)))) (x5 : List ((Int) × (List (Int)))) (x6 : List ((Int) × (Int))) (k0 : (Bool) → (List (Int)) → (Int) → (Int) → (List (((ByteArray) × (ByteArray)) × ((Int) × (Bool)))) → (List ((Int) × (List (Int)))) → (List ((Int) × (Int))) → Option R) : Option R :=
  c3 x3 x4
  (fun i505 l506 i507 l508 => c0 x0 false i507 l508
   (fun i509 i510 i511 l512 => k0 (!(decide (i510 = (65282 : Int)))) x1 x2 i505 l506 x5 x6))
noncomputable def ghost_Ghost_may_e876 (N : Nat) {R : Type} (x0 : ByteArray) (x1 : List (Int)) (x2 : Int) (x3 : Int) (x4 : List (((ByteArray) × (ByteArray)) × ((Int) × (Bool)))) (x5 : List ((Int) × (List (Int)))) (x6 : List ((Int) × (Int))) (k0 : (Bool) → (List (Int)) → (Int) → (Int) → (List (((ByteArray) × (ByteArray)) × ((Int) × (Bool)))) → (List ((Int) × (List (Int)))) → (List ((Int) × (Int))) → Option R) : Option R := ghost_Ghost_may_e876_T N (@tree_Tree_Make_c502 N) (@tree_Tree_Make N) (@tree_Tree_Copy N) (@tree_Tree_Copy_a28d N) x0 x1 x2 x3 x4 x5 x6 k0
abbrev ghost_Ghost_Open_9183_Ty : Type 1 := {R : Type} → (ByteArray) → (List (Int)) → (Int) → (List ((Int) × (List (Int)))) → (List ((Int) × (Int))) → ((Int) → (List (Int)) → (Int) → (List ((Int) × (List (Int)))) → (List ((Int) × (Int))) → Option R) → Option R
noncomputable def ghost_Ghost_Open_9183_T (N : Nat) (c0 : tree_Tree_Make_c502_Ty) (c1 : tree_Tree_Make_Ty) (c2 : ghost_Ghost_may_9183_Ty) (c3 : ghost_Ghost_may_e876_Ty) (c4 : ghost_Ghost_free_109a_Ty) (c5 : ghost_Ghost_free_f1e4_Ty) (c6 : tree_Tree_Find_Ty) (c7 : tree_Tree_Find_fb98_Ty) {R : Type} (x0 : ByteArray) (x1 : List (Int)) (x2 : Int) (x3 : List ((Int) × (List (Int)))) (x4 : List ((Int) × (Int))) (k0 : (Int) → (List (Int)) → (Int) → (List ((Int) × (List (Int)))) → (List ((Int) × (Int))) → Option R) : Option R :=
  c6 x0
  (fun i379 b380 i381 => c4 x1 x2 x3 x4
   (fun i382 b383 l384 i385 l386 l387 => br (decide (i381 = (0 : Int)))
    (br b380
     (k0 (65301 : Int) l384 i385 l386 l387)
     (br (decide (i381 = (65300 : Int)))
      (k0 i381 l384 i385 l386 l387)
      (br (!(decide (i381 = (0 : Int))))
       (c2 x0 l384 i385 l386 l387
        (fun b388 l389 i390 l391 l392 => br (!b388)
         (k0 (65282 : Int) l389 i390 l391 l392)
         (br (!b383)
          (k0 (65304 : Int) l389 i390 l391 l392)
          (br (!(decide (i381 = (0 : Int))))
           (c1 x0 false
            (fun i393 i394 => br (!(decide (i394 = (0 : Int))))
             (k0 i394 l389 i390 l391 l392)
             (br (((fits (0 : Nat) (List.length l392) l392) && (decide ((((List.length l392) + (1 : Nat)) * (16 : Nat)) ≤ (70368744177664 : Nat)))) && true)
              (br (inB i382 (4 : Nat))
               (br (decide ((Int.toNat i382) < (4 : Nat)))
                (k0 (IntKind.wrap .u16 i382) (List.set l389 (Int.toNat i382) (Nat.cast ((List.length l392) + (1 : Nat)) : Int)) i390 l391 ((sub l392 (0 : Nat) (List.length l392)) ++ ((i393 , (0 : Int)) :: ([] : List (((Sh.int IntKind.i64).pair (Sh.int IntKind.i64)).T)))))
                (none))
               (none))
              (none))))
           (br (((fits (0 : Nat) (List.length l392) l392) && (decide ((((List.length l392) + (1 : Nat)) * (16 : Nat)) ≤ (70368744177664 : Nat)))) && true)
            (br (inB i382 (4 : Nat))
             (br (decide ((Int.toNat i382) < (4 : Nat)))
              (k0 (IntKind.wrap .u16 i382) (List.set l389 (Int.toNat i382) (Nat.cast ((List.length l392) + (1 : Nat)) : Int)) i390 l391 ((sub l392 (0 : Nat) (List.length l392)) ++ ((i379 , (0 : Int)) :: ([] : List (((Sh.int IntKind.i64).pair (Sh.int IntKind.i64)).T)))))
              (none))
             (none))
            (none))))))
       (br (!b383)
        (k0 (65304 : Int) l384 i385 l386 l387)
        (br (!(decide (i381 = (0 : Int))))
         (c1 x0 false
          (fun i395 i396 => br (!(decide (i396 = (0 : Int))))
           (k0 i396 l384 i385 l386 l387)
           (br (((fits (0 : Nat) (List.length l387) l387) && (decide ((((List.length l387) + (1 : Nat)) * (16 : Nat)) ≤ (70368744177664 : Nat)))) && true)
            (br (inB i382 (4 : Nat))
             (br (decide ((Int.toNat i382) < (4 : Nat)))
              (k0 (IntKind.wrap .u16 i382) (List.set l384 (Int.toNat i382) (Nat.cast ((List.length l387) + (1 : Nat)) : Int)) i385 l386 ((sub l387 (0 : Nat) (List.length l387)) ++ ((i395 , (0 : Int)) :: ([] : List (((Sh.int IntKind.i64).pair (Sh.int IntKind.i64)).T)))))
              (none))
             (none))
            (none))))
         (br (((fits (0 : Nat) (List.length l387) l387) && (decide ((((List.length l387) + (1 : Nat)) * (16 : Nat)) ≤ (70368744177664 : Nat)))) && true)
          (br (inB i382 (4 : Nat))
           (br (decide ((Int.toNat i382) < (4 : Nat)))
            (k0 (IntKind.wrap .u16 i382) (List.set l384 (Int.toNat i382) (Nat.cast ((List.length l387) + (1 : Nat)) : Int)) i385 l386 ((sub l387 (0 : Nat) (List.length l387)) ++ ((i379 , (0 : Int)) :: ([] : List (((Sh.int IntKind.i64).pair (Sh.int IntKind.i64)).T)))))
            (none))
           (none))
          (none)))))))
    (br (decide (i381 = (65300 : Int)))
     (k0 i381 l384 i385 l386 l387)
     (br (!(decide (i381 = (0 : Int))))
      (c2 x0 l384 i385 l386 l387
       (fun b397 l398 i399 l400 l401 => br (!b397)
        (k0 (65282 : Int) l398 i399 l400 l401)
        (br (!b383)
         (k0 (65304 : Int) l398 i399 l400 l401)
         (br (!(decide (i381 = (0 : Int))))
          (c1 x0 false
           (fun i402 i403 => br (!(decide (i403 = (0 : Int))))
            (k0 i403 l398 i399 l400 l401)
            (br (((fits (0 : Nat) (List.length l401) l401) && (decide ((((List.length l401) + (1 : Nat)) * (16 : Nat)) ≤ (70368744177664 : Nat)))) && true)
             (br (inB i382 (4 : Nat))
              (br (decide ((Int.toNat i382) < (4 : Nat)))
               (k0 (IntKind.wrap .u16 i382) (List.set l398 (Int.toNat i382) (Nat.cast ((List.length l401) + (1 : Nat)) : Int)) i399 l400 ((sub l401 (0 : Nat) (List.length l401)) ++ ((i402 , (0 : Int)) :: ([] : List (((Sh.int IntKind.i64).pair (Sh.int IntKind.i64)).T)))))
               (none))
              (none))
             (none))))
          (br (((fits (0 : Nat) (List.length l401) l401) && (decide ((((List.length l401) + (1 : Nat)) * (16 : Nat)) ≤ (70368744177664 : Nat)))) && true)
           (br (inB i382 (4 : Nat))
            (br (decide ((Int.toNat i382) < (4 : Nat)))
             (k0 (IntKind.wrap .u16 i382) (List.set l398 (Int.toNat i382) (Nat.cast ((List.length l401) + (1 : Nat)) : Int)) i399 l400 ((sub l401 (0 : Nat) (List.length l401)) ++ ((i379 , (0 : Int)) :: ([] : List (((Sh.int IntKind.i64).pair (Sh.int IntKind.i64)).T)))))
             (none))
            (none))
           (none))))))
      (br (!b383)
       (k0 (65304 : Int) l384 i385 l386 l387)
       (br (!(decide (i381 = (0 : Int))))
        (c1 x0 false
         (fun i404 i405 => br (!(decide (i405 = (0 : Int))))
          (k0 i405 l384 i385 l386 l387)
          (br (((fits (0 : Nat) (List.length l387) l387) && (decide ((((List.length l387) + (1 : Nat)) * (16 : Nat)) ≤ (70368744177664 : Nat)))) && true)
           (br (inB i382 (4 : Nat))
            (br (decide ((Int.toNat i382) < (4 : Nat)))
             (k0 (IntKind.wrap .u16 i382) (List.set l384 (Int.toNat i382) (Nat.cast ((List.length l387) + (1 : Nat)) : Int)) i385 l386 ((sub l387 (0 : Nat) (List.length l387)) ++ ((i404 , (0 : Int)) :: ([] : List (((Sh.int IntKind.i64).pair (Sh.int IntKind.i64)).T)))))
             (none))
            (none))
           (none))))
        (br (((fits (0 : Nat) (List.length l387) l387) && (decide ((((List.length l387) + (1 : Nat)) * (16 : Nat)) ≤ (70368744177664 : Nat)))) && true)
         (br (inB i382 (4 : Nat))
          (br (decide ((Int.toNat i382) < (4 : Nat)))
           (k0 (IntKind.wrap .u16 i382) (List.set l384 (Int.toNat i382) (Nat.cast ((List.length l387) + (1 : Nat)) : Int)) i385 l386 ((sub l387 (0 : Nat) (List.length l387)) ++ ((i379 , (0 : Int)) :: ([] : List (((Sh.int IntKind.i64).pair (Sh.int IntKind.i64)).T)))))
           (none))
          (none))
         (none))))))))
noncomputable def ghost_Ghost_Open_9183 (N : Nat) {R : Type} (x0 : ByteArray) (x1 : List (Int)) (x2 : Int) (x3 : List ((Int) × (List (Int)))) (x4 : List ((Int) × (Int))) (k0 : (Int) → (List (Int)) → (Int) → (List ((Int) × (List (Int)))) → (List ((Int) × (Int))) → Option R) : Option R := ghost_Ghost_Open_9183_T N (@tree_Tree_Make_c502 N) (@tree_Tree_Make N) (@ghost_Ghost_may_9183 N) (@ghost_Ghost_may_e876 N) (@ghost_Ghost_free_109a N) (@ghost_Ghost_free_f1e4 N) (@tree_Tree_Find N) (@tree_Tree_Find_fb98 N) x0 x1 x2 x3 x4 k0
abbrev ghost_Ghost_Open_e876_Ty : Type 1 := {R : Type} → (ByteArray) → (List (Int)) → (Int) → (Int) → (List (((ByteArray) × (ByteArray)) × ((Int) × (Bool)))) → (List ((Int) × (List (Int)))) → (List ((Int) × (Int))) → ((Int) → (List (Int)) → (Int) → (Int) → (List (((ByteArray) × (ByteArray)) × ((Int) × (Bool)))) → (List ((Int) × (List (Int)))) → (List ((Int) × (Int))) → Option R) → Option R
noncomputable def ghost_Ghost_Open_e876_T (N : Nat) (c0 : tree_Tree_Make_c502_Ty) (c1 : tree_Tree_Make_Ty) (c2 : ghost_Ghost_may_9183_Ty) (c3 : ghost_Ghost_may_e876_Ty) (c4 : ghost_Ghost_free_109a_Ty) (c5 : ghost_Ghost_free_f1e4_Ty) (c6 : tree_Tree_Find_Ty) (c7 : tree_Tree_Find_fb98_Ty) {R : Type} (x0 : ByteArray) (x1 : List (Int)) (x2 : Int) (x3 : Int) (x4 : List (((ByteArray) × (ByteArray)) × ((Int) × (Bool)))) (x5 : List ((Int) × (List (Int)))) (x6 : List ((Int) × (Int))) (k0 : (Int) → (List (Int)) → (Int) → (Int) → (List (((ByteArray) × (ByteArray)) × ((Int) × (Bool)))) → (List ((Int) × (List (Int)))) → (List ((Int) × (Int))) → Option R) : Option R :=
  c7 x0 x3 x4
  (fun i524 b525 i526 i527 l528 => c5 x1 x2 i527 l528 x5 x6
   (fun i529 b530 l531 i532 i533 l534 l535 l536 => br (decide (i526 = (0 : Int)))
    (br b525
     (k0 (65301 : Int) l531 i532 i533 l534 l535 l536)
     (br (decide (i526 = (65300 : Int)))
      (k0 i526 l531 i532 i533 l534 l535 l536)
      (br (!(decide (i526 = (0 : Int))))
       (c3 x0 l531 i532 i533 l534 l535 l536
        (fun b537 l538 i539 i540 l541 l542 l543 => br (!b537)
         (k0 (65282 : Int) l538 i539 i540 l541 l542 l543)
         (br (!b530)
          (k0 (65304 : Int) l538 i539 i540 l541 l542 l543)
          (br (!(decide (i526 = (0 : Int))))
           (c0 x0 false i540 l541
            (fun i544 i545 i546 l547 => br (!(decide (i545 = (0 : Int))))
             (k0 i545 l538 i539 i546 l547 l542 l543)
             (br (((fits (0 : Nat) (List.length l543) l543) && (decide ((((List.length l543) + (1 : Nat)) * (16 : Nat)) ≤ (70368744177664 : Nat)))) && true)
              (br (inB i529 (4 : Nat))
               (br (decide ((Int.toNat i529) < (4 : Nat)))
                (k0 (IntKind.wrap .u16 i529) (List.set l538 (Int.toNat i529) (Nat.cast ((List.length l543) + (1 : Nat)) : Int)) i539 i546 l547 l542 ((sub l543 (0 : Nat) (List.length l543)) ++ ((i544 , (0 : Int)) :: ([] : List (((Sh.int IntKind.i64).pair (Sh.int IntKind.i64)).T)))))
                (none))
               (none))
              (none))))
           (br (((fits (0 : Nat) (List.length l543) l543) && (decide ((((List.length l543) + (1 : Nat)) * (16 : Nat)) ≤ (70368744177664 : Nat)))) && true)
            (br (inB i529 (4 : Nat))
             (br (decide ((Int.toNat i529) < (4 : Nat)))
              (k0 (IntKind.wrap .u16 i529) (List.set l538 (Int.toNat i529) (Nat.cast ((List.length l543) + (1 : Nat)) : Int)) i539 i540 l541 l542 ((sub l543 (0 : Nat) (List.length l543)) ++ ((i524 , (0 : Int)) :: ([] : List (((Sh.int IntKind.i64).pair (Sh.int IntKind.i64)).T)))))
              (none))
             (none))
            (none))))))
       (br (!b530)
        (k0 (65304 : Int) l531 i532 i533 l534 l535 l536)
        (br (!(decide (i526 = (0 : Int))))
         (c0 x0 false i533 l534
          (fun i548 i549 i550 l551 => br (!(decide (i549 = (0 : Int))))
           (k0 i549 l531 i532 i550 l551 l535 l536)
           (br (((fits (0 : Nat) (List.length l536) l536) && (decide ((((List.length l536) + (1 : Nat)) * (16 : Nat)) ≤ (70368744177664 : Nat)))) && true)
            (br (inB i529 (4 : Nat))
             (br (decide ((Int.toNat i529) < (4 : Nat)))
              (k0 (IntKind.wrap .u16 i529) (List.set l531 (Int.toNat i529) (Nat.cast ((List.length l536) + (1 : Nat)) : Int)) i532 i550 l551 l535 ((sub l536 (0 : Nat) (List.length l536)) ++ ((i548 , (0 : Int)) :: ([] : List (((Sh.int IntKind.i64).pair (Sh.int IntKind.i64)).T)))))
              (none))
             (none))
            (none))))
         (br (((fits (0 : Nat) (List.length l536) l536) && (decide ((((List.length l536) + (1 : Nat)) * (16 : Nat)) ≤ (70368744177664 : Nat)))) && true)
          (br (inB i529 (4 : Nat))
           (br (decide ((Int.toNat i529) < (4 : Nat)))
            (k0 (IntKind.wrap .u16 i529) (List.set l531 (Int.toNat i529) (Nat.cast ((List.length l536) + (1 : Nat)) : Int)) i532 i533 l534 l535 ((sub l536 (0 : Nat) (List.length l536)) ++ ((i524 , (0 : Int)) :: ([] : List (((Sh.int IntKind.i64).pair (Sh.int IntKind.i64)).T)))))
            (none))
           (none))
          (none)))))))
    (br (decide (i526 = (65300 : Int)))
     (k0 i526 l531 i532 i533 l534 l535 l536)
     (br (!(decide (i526 = (0 : Int))))
      (c3 x0 l531 i532 i533 l534 l535 l536
       (fun b552 l553 i554 i555 l556 l557 l558 => br (!b552)
        (k0 (65282 : Int) l553 i554 i555 l556 l557 l558)
        (br (!b530)
         (k0 (65304 : Int) l553 i554 i555 l556 l557 l558)
         (br (!(decide (i526 = (0 : Int))))
          (c0 x0 false i555 l556
           (fun i559 i560 i561 l562 => br (!(decide (i560 = (0 : Int))))
            (k0 i560 l553 i554 i561 l562 l557 l558)
            (br (((fits (0 : Nat) (List.length l558) l558) && (decide ((((List.length l558) + (1 : Nat)) * (16 : Nat)) ≤ (70368744177664 : Nat)))) && true)
             (br (inB i529 (4 : Nat))
              (br (decide ((Int.toNat i529) < (4 : Nat)))
               (k0 (IntKind.wrap .u16 i529) (List.set l553 (Int.toNat i529) (Nat.cast ((List.length l558) + (1 : Nat)) : Int)) i554 i561 l562 l557 ((sub l558 (0 : Nat) (List.length l558)) ++ ((i559 , (0 : Int)) :: ([] : List (((Sh.int IntKind.i64).pair (Sh.int IntKind.i64)).T)))))
               (none))
              (none))
             (none))))
          (br (((fits (0 : Nat) (List.length l558) l558) && (decide ((((List.length l558) + (1 : Nat)) * (16 : Nat)) ≤ (70368744177664 : Nat)))) && true)
           (br (inB i529 (4 : Nat))
            (br (decide ((Int.toNat i529) < (4 : Nat)))
             (k0 (IntKind.wrap .u16 i529) (List.set l553 (Int.toNat i529) (Nat.cast ((List.length l558) + (1 : Nat)) : Int)) i554 i555 l556 l557 ((sub l558 (0 : Nat) (List.length l558)) ++ ((i524 , (0 : Int)) :: ([] : List (((Sh.int IntKind.i64).pair (Sh.int IntKind.i64)).T)))))
             (none))
            (none))
           (none))))))
      (br (!b530)
       (k0 (65304 : Int) l531 i532 i533 l534 l535 l536)
       (br (!(decide (i526 = (0 : Int))))
        (c0 x0 false i533 l534
         (fun i563 i564 i565 l566 => br (!(decide (i564 = (0 : Int))))
          (k0 i564 l531 i532 i565 l566 l535 l536)
          (br (((fits (0 : Nat) (List.length l536) l536) && (decide ((((List.length l536) + (1 : Nat)) * (16 : Nat)) ≤ (70368744177664 : Nat)))) && true)
           (br (inB i529 (4 : Nat))
            (br (decide ((Int.toNat i529) < (4 : Nat)))
             (k0 (IntKind.wrap .u16 i529) (List.set l531 (Int.toNat i529) (Nat.cast ((List.length l536) + (1 : Nat)) : Int)) i532 i565 l566 l535 ((sub l536 (0 : Nat) (List.length l536)) ++ ((i563 , (0 : Int)) :: ([] : List (((Sh.int IntKind.i64).pair (Sh.int IntKind.i64)).T)))))
             (none))
            (none))
           (none))))
        (br (((fits (0 : Nat) (List.length l536) l536) && (decide ((((List.length l536) + (1 : Nat)) * (16 : Nat)) ≤ (70368744177664 : Nat)))) && true)
         (br (inB i529 (4 : Nat))
          (br (decide ((Int.toNat i529) < (4 : Nat)))
           (k0 (IntKind.wrap .u16 i529) (List.set l531 (Int.toNat i529) (Nat.cast ((List.length l536) + (1 : Nat)) : Int)) i532 i533 l534 l535 ((sub l536 (0 : Nat) (List.length l536)) ++ ((i524 , (0 : Int)) :: ([] : List (((Sh.int IntKind.i64).pair (Sh.int IntKind.i64)).T)))))
           (none))
          (none))
         (none))))))))
noncomputable def ghost_Ghost_Open_e876 (N : Nat) {R : Type} (x0 : ByteArray) (x1 : List (Int)) (x2 : Int) (x3 : Int) (x4 : List (((ByteArray) × (ByteArray)) × ((Int) × (Bool)))) (x5 : List ((Int) × (List (Int)))) (x6 : List ((Int) × (Int))) (k0 : (Int) → (List (Int)) → (Int) → (Int) → (List (((ByteArray) × (ByteArray)) × ((Int) × (Bool)))) → (List ((Int) × (List (Int)))) → (List ((Int) × (Int))) → Option R) : Option R := ghost_Ghost_Open_e876_T N (@tree_Tree_Make_c502 N) (@tree_Tree_Make N) (@ghost_Ghost_may_9183 N) (@ghost_Ghost_may_e876 N) (@ghost_Ghost_free_109a N) (@ghost_Ghost_free_f1e4 N) (@tree_Tree_Find N) (@tree_Tree_Find_fb98 N) x0 x1 x2 x3 x4 x5 x6 k0
abbrev law19_awake_Ty : Type 1 := {R : Type} → ((Bool) → Option R) → Option R
noncomputable def law19_awake_T (N : Nat) (c0 : ghost_Ghost_Size_4cb0_Ty) (c1 : ghost_Ghost_Size_7504_Ty) (c2 : ghost_Ghost_Read_ab5b_Ty) (c3 : ghost_Ghost_Read_5658_Ty) (c4 : ghost_Ghost_Open_9183_Ty) (c5 : ghost_Ghost_Open_e876_Ty) (c6 : ghost_New_669c_Ty) (c7 : term_Arena_Var_99d8_Ty) (c8 : term_Arena_Const_2c81_Ty) (c9 : term_New_Ty) {R : Type} (k0 : (Bool) → Option R) : Option R :=
  c9
  (fun l0 l1 l2 => c8 (8 : Int) (0 : Int) l0 l1 l2
   (fun i18 i19 l20 l21 l22 => c7 (8 : Int) (0 : Int) l22 l20 l21
    (fun i40 i41 l42 l43 l44 => c6 i18 (((bs [97]) , (false , (0 : Int))) :: ([] : List ((Sh.str.pair (Sh.bool.pair (Sh.int IntKind.i64))).T))) ((i40 :: ([] : List ((Sh.int IntKind.i64).T))) :: ([] : List ((Sh.int IntKind.i64).isl.T)))
     (fun i337 l338 l339 => br (!(!(decide (i337 = (0 : Int)))))
      (k0 false)
      (k0 false))
     (fun i340 l341 l342 l343 i344 l345 l346 => br (!(!(decide (i340 = (0 : Int)))))
      (c4 (bs [97]) l343 i344 l345 l346
       (fun i406 l407 i408 l409 l410 => c2 (0 : Int) (5 : Int) l407 i408 l409 l410
        (fun i431 l432 i433 l434 l435 l436 => br (decide (i406 = (0 : Int)))
         (br (decide (i431 = (1 : Int)))
          (br (decide ((Nat.cast (List.length l436) : Int) = (1 : Int)))
           (br (inB (0 : Int) (List.length l436))
            (br (decide ((0 : Nat) < (List.length l436)))
             (br (decide ((List.getD l436 (0 : Nat) (0 : Int)) = i40))
              (c0 (0 : Int) l432 i433 l434 l435
               (fun i446 l447 i448 l449 l450 => k0 (decide (i446 = (1 : Int)))))
              (k0 false))
             (none))
            (none))
           (k0 false))
          (k0 false))
         (k0 false))))
      (k0 false))
     (fun i451 l452 l453 l454 i455 i456 l457 l458 l459 => br (!(!(decide (i451 = (0 : Int)))))
      (c5 (bs [97]) l454 i455 i456 l457 l458 l459
       (fun i567 l568 i569 i570 l571 l572 l573 => c3 (0 : Int) (5 : Int) l568 i569 i570 l571 l572 l573
        (fun i602 l603 i604 i605 l606 l607 l608 l609 => br (decide (i567 = (0 : Int)))
         (br (decide (i602 = (1 : Int)))
          (br (decide ((Nat.cast (List.length l609) : Int) = (1 : Int)))
           (br (inB (0 : Int) (List.length l609))
            (br (decide ((0 : Nat) < (List.length l609)))
             (br (decide ((List.getD l609 (0 : Nat) (0 : Int)) = i40))
              (c1 (0 : Int) l603 i604 i605 l606 l607 l608
               (fun i623 l624 i625 i626 l627 l628 l629 => k0 (decide (i623 = (1 : Int)))))
              (k0 false))
             (none))
            (none))
           (k0 false))
          (k0 false))
         (k0 false))))
      (k0 false)))))
noncomputable def law19_awake (N : Nat) {R : Type} (k0 : (Bool) → Option R) : Option R := law19_awake_T N (@ghost_Ghost_Size_4cb0 N) (@ghost_Ghost_Size_7504 N) (@ghost_Ghost_Read_ab5b N) (@ghost_Ghost_Read_5658 N) (@ghost_Ghost_Open_9183 N) (@ghost_Ghost_Open_e876 N) (@ghost_New_669c N) (@term_Arena_Var_99d8 N) (@term_Arena_Const_2c81 N) (@term_New N) k0
abbrev ghost_Ghost_Twin_4cb0_Ty : Type 1 := {R : Type} → (Int) → (List (Int)) → (Int) → (List ((Int) × (List (Int)))) → (List ((Int) × (Int))) → ((Int) → (List (Int)) → (Int) → (List ((Int) × (List (Int)))) → (List ((Int) × (Int))) → Option R) → Option R
noncomputable def ghost_Ghost_Twin_4cb0_T (N : Nat) (c0 : ghost_Ghost_free_109a_Ty) (c1 : ghost_Ghost_free_f1e4_Ty) (c2 : ghost_Ghost_file_4cb0_Ty) (c3 : ghost_Ghost_file_7504_Ty) {R : Type} (x0 : Int) (x1 : List (Int)) (x2 : Int) (x3 : List ((Int) × (List (Int)))) (x4 : List ((Int) × (Int))) (k0 : (Int) → (List (Int)) → (Int) → (List ((Int) × (List (Int)))) → (List ((Int) × (Int))) → Option R) : Option R :=
  c2 x0 x1 x2 x3 x4
  (fun l677 i678 l679 l680 => k0 (65289 : Int) l677 i678 l679 l680)
  (fun i681 l682 i683 l684 l685 => c0 l682 i683 l684 l685
   (fun i686 b687 l688 i689 l690 l691 => br (!b687)
    (k0 (65304 : Int) l688 i689 l690 l691)
    (br (inB x0 (4 : Nat))
     (br (decide ((Int.toNat x0) < (4 : Nat)))
      (br (inB i686 (4 : Nat))
       (br (decide ((Int.toNat i686) < (4 : Nat)))
        (k0 (IntKind.wrap .u16 i686) (List.set l688 (Int.toNat i686) (List.getD l688 (Int.toNat x0) (0 : Int))) i689 l690 l691)
        (none))
       (none))
      (none))
     (none))))
noncomputable def ghost_Ghost_Twin_4cb0 (N : Nat) {R : Type} (x0 : Int) (x1 : List (Int)) (x2 : Int) (x3 : List ((Int) × (List (Int)))) (x4 : List ((Int) × (Int))) (k0 : (Int) → (List (Int)) → (Int) → (List ((Int) × (List (Int)))) → (List ((Int) × (Int))) → Option R) : Option R := ghost_Ghost_Twin_4cb0_T N (@ghost_Ghost_free_109a N) (@ghost_Ghost_free_f1e4 N) (@ghost_Ghost_file_4cb0 N) (@ghost_Ghost_file_7504 N) x0 x1 x2 x3 x4 k0
abbrev ghost_Ghost_Twin_7504_Ty : Type 1 := {R : Type} → (Int) → (List (Int)) → (Int) → (Int) → (List (((ByteArray) × (ByteArray)) × ((Int) × (Bool)))) → (List ((Int) × (List (Int)))) → (List ((Int) × (Int))) → ((Int) → (List (Int)) → (Int) → (Int) → (List (((ByteArray) × (ByteArray)) × ((Int) × (Bool)))) → (List ((Int) × (List (Int)))) → (List ((Int) × (Int))) → Option R) → Option R
noncomputable def ghost_Ghost_Twin_7504_T (N : Nat) (c0 : ghost_Ghost_free_109a_Ty) (c1 : ghost_Ghost_free_f1e4_Ty) (c2 : ghost_Ghost_file_4cb0_Ty) (c3 : ghost_Ghost_file_7504_Ty) {R : Type} (x0 : Int) (x1 : List (Int)) (x2 : Int) (x3 : Int) (x4 : List (((ByteArray) × (ByteArray)) × ((Int) × (Bool)))) (x5 : List ((Int) × (List (Int)))) (x6 : List ((Int) × (Int))) (k0 : (Int) → (List (Int)) → (Int) → (Int) → (List (((ByteArray) × (ByteArray)) × ((Int) × (Bool)))) → (List ((Int) × (List (Int)))) → (List ((Int) × (Int))) → Option R) : Option R :=
  c3 x0 x1 x2 x3 x4 x5 x6
  (fun l749 i750 i751 l752 l753 l754 => k0 (65289 : Int) l749 i750 i751 l752 l753 l754)
  (fun i755 l756 i757 i758 l759 l760 l761 => c1 l756 i757 i758 l759 l760 l761
   (fun i762 b763 l764 i765 i766 l767 l768 l769 => br (!b763)
    (k0 (65304 : Int) l764 i765 i766 l767 l768 l769)
    (br (inB x0 (4 : Nat))
     (br (decide ((Int.toNat x0) < (4 : Nat)))
      (br (inB i762 (4 : Nat))
       (br (decide ((Int.toNat i762) < (4 : Nat)))
        (k0 (IntKind.wrap .u16 i762) (List.set l764 (Int.toNat i762) (List.getD l764 (Int.toNat x0) (0 : Int))) i765 i766 l767 l768 l769)
        (none))
       (none))
      (none))
     (none))))
noncomputable def ghost_Ghost_Twin_7504 (N : Nat) {R : Type} (x0 : Int) (x1 : List (Int)) (x2 : Int) (x3 : Int) (x4 : List (((ByteArray) × (ByteArray)) × ((Int) × (Bool)))) (x5 : List ((Int) × (List (Int)))) (x6 : List ((Int) × (Int))) (k0 : (Int) → (List (Int)) → (Int) → (Int) → (List (((ByteArray) × (ByteArray)) × ((Int) × (Bool)))) → (List ((Int) × (List (Int)))) → (List ((Int) × (Int))) → Option R) : Option R := ghost_Ghost_Twin_7504_T N (@ghost_Ghost_free_109a N) (@ghost_Ghost_free_f1e4 N) (@ghost_Ghost_file_4cb0 N) (@ghost_Ghost_file_7504 N) x0 x1 x2 x3 x4 x5 x6 k0
abbrev maps_Clone_map_int_term_T_int__term_T_d9f3_Ty : Type 1 := {R : Type} → (List ((Int) × (List (Int)))) → ((List ((Int) × (List (Int)))) → (List ((Int) × (List (Int)))) → Option R) → Option R
noncomputable def maps_Clone_map_int_term_T_int__term_T_d9f3 {R : Type} (x0 : List ((Int) × (List (Int)))) (k0 : (List ((Int) × (List (Int)))) → (List ((Int) × (List (Int)))) → Option R) : Option R := k0 x0 x0
abbrev slices_Clone__ghost_open_ghost_open_4ed5_Ty : Type 1 := {R : Type} → (List ((Int) × (Int))) → ((List ((Int) × (Int))) → (List ((Int) × (Int))) → Option R) → Option R
noncomputable def slices_Clone__ghost_open_ghost_open_4ed5 {R : Type} (x0 : List ((Int) × (Int))) (k0 : (List ((Int) × (Int))) → (List ((Int) × (Int))) → Option R) : Option R := br (fits (0 : Nat) (List.length x0) x0) (br ((decide (((0 : Nat) + (List.length (sub x0 (0 : Nat) (List.length x0)))) * (16 : Nat) ≤ (70368744177664 : Nat))) && true) (k0 x0 (sub x0 (0 : Nat) (List.length x0))) (none)) (none)
abbrev ghost_Ghost_Copy_109a_Ty : Type 1 := {R : Type} → (List (Int)) → (Int) → (List ((Int) × (List (Int)))) → (List ((Int) × (Int))) → ((List (Int)) → (Int) → (List ((Int) × (List (Int)))) → (List ((Int) × (Int))) → (List (Int)) → (Int) → (List ((Int) × (List (Int)))) → (List ((Int) × (Int))) → Option R) → Option R
noncomputable def ghost_Ghost_Copy_109a_T (N : Nat) (c0 : slices_Clone__ghost_open_ghost_open_4ed5_Ty) (c1 : maps_Clone_map_int_term_T_int__term_T_d9f3_Ty) (c2 : tree_Tree_Copy_Ty) (c3 : tree_Tree_Copy_a28d_Ty) {R : Type} (x0 : List (Int)) (x1 : Int) (x2 : List ((Int) × (List (Int)))) (x3 : List ((Int) × (Int))) (k0 : (List (Int)) → (Int) → (List ((Int) × (List (Int)))) → (List ((Int) × (Int))) → (List (Int)) → (Int) → (List ((Int) × (List (Int)))) → (List ((Int) × (Int))) → Option R) : Option R :=
  c2
  (br (listDec (Sh.dec (.int .i64)) x0 x0)
   (br (decide (x1 = x1))
    (c1 x2
     (fun l703 l704 => br (listDec (Sh.dec (.int .i64)) x0 x0)
      (br (decide (x1 = x1))
       (c0 x3
        (fun l705 l706 => br (listDec (Sh.dec (.int .i64)) x0 x0)
         (br (decide (x1 = x1))
          (k0 x0 x1 l703 l705 x0 x1 l704 l706)
          (none))
         (none)))
       (none))
      (none)))
    (none))
   (none))
noncomputable def ghost_Ghost_Copy_109a (N : Nat) {R : Type} (x0 : List (Int)) (x1 : Int) (x2 : List ((Int) × (List (Int)))) (x3 : List ((Int) × (Int))) (k0 : (List (Int)) → (Int) → (List ((Int) × (List (Int)))) → (List ((Int) × (Int))) → (List (Int)) → (Int) → (List ((Int) × (List (Int)))) → (List ((Int) × (Int))) → Option R) : Option R := ghost_Ghost_Copy_109a_T N @slices_Clone__ghost_open_ghost_open_4ed5 @maps_Clone_map_int_term_T_int__term_T_d9f3 (@tree_Tree_Copy N) (@tree_Tree_Copy_a28d N) x0 x1 x2 x3 k0
abbrev ghost_Ghost_Copy_f1e4_Ty : Type 1 := {R : Type} → (List (Int)) → (Int) → (Int) → (List (((ByteArray) × (ByteArray)) × ((Int) × (Bool)))) → (List ((Int) × (List (Int)))) → (List ((Int) × (Int))) → ((List (Int)) → (Int) → (Int) → (List (((ByteArray) × (ByteArray)) × ((Int) × (Bool)))) → (List ((Int) × (List (Int)))) → (List ((Int) × (Int))) → (List (Int)) → (Int) → (Int) → (List (((ByteArray) × (ByteArray)) × ((Int) × (Bool)))) → (List ((Int) × (List (Int)))) → (List ((Int) × (Int))) → Option R) → Option R
noncomputable def ghost_Ghost_Copy_f1e4_T (N : Nat) (c0 : slices_Clone__ghost_open_ghost_open_4ed5_Ty) (c1 : maps_Clone_map_int_term_T_int__term_T_d9f3_Ty) (c2 : tree_Tree_Copy_Ty) (c3 : tree_Tree_Copy_a28d_Ty) {R : Type} (x0 : List (Int)) (x1 : Int) (x2 : Int) (x3 : List (((ByteArray) × (ByteArray)) × ((Int) × (Bool)))) (x4 : List ((Int) × (List (Int)))) (x5 : List ((Int) × (Int))) (k0 : (List (Int)) → (Int) → (Int) → (List (((ByteArray) × (ByteArray)) × ((Int) × (Bool)))) → (List ((Int) × (List (Int)))) → (List ((Int) × (Int))) → (List (Int)) → (Int) → (Int) → (List (((ByteArray) × (ByteArray)) × ((Int) × (Bool)))) → (List ((Int) × (List (Int)))) → (List ((Int) × (Int))) → Option R) : Option R :=
  c3 x2 x3
  (fun i785 l786 i787 l788 => br (listDec (Sh.dec (.int .i64)) x0 x0)
   (br (decide (x1 = x1))
    (c1 x4
     (fun l789 l790 => br (listDec (Sh.dec (.int .i64)) x0 x0)
      (br (decide (x1 = x1))
       (c0 x5
        (fun l791 l792 => br (listDec (Sh.dec (.int .i64)) x0 x0)
         (br (decide (x1 = x1))
          (k0 x0 x1 i785 l786 l789 l791 x0 x1 i787 l788 l790 l792)
          (none))
         (none)))
       (none))
      (none)))
    (none))
   (none))
noncomputable def ghost_Ghost_Copy_f1e4 (N : Nat) {R : Type} (x0 : List (Int)) (x1 : Int) (x2 : Int) (x3 : List (((ByteArray) × (ByteArray)) × ((Int) × (Bool)))) (x4 : List ((Int) × (List (Int)))) (x5 : List ((Int) × (Int))) (k0 : (List (Int)) → (Int) → (Int) → (List (((ByteArray) × (ByteArray)) × ((Int) × (Bool)))) → (List ((Int) × (List (Int)))) → (List ((Int) × (Int))) → (List (Int)) → (Int) → (Int) → (List (((ByteArray) × (ByteArray)) × ((Int) × (Bool)))) → (List ((Int) × (List (Int)))) → (List ((Int) × (Int))) → Option R) : Option R := ghost_Ghost_Copy_f1e4_T N @slices_Clone__ghost_open_ghost_open_4ed5 @maps_Clone_map_int_term_T_int__term_T_d9f3 (@tree_Tree_Copy N) (@tree_Tree_Copy_a28d N) x0 x1 x2 x3 x4 x5 k0
abbrev law19_GhostFds_l0_Ty : Type 1 := {R : Type} → ((Int) → (Int) → (Int) → (List (Int)) → Option R) → Nat → (Int) → (Int) → (Int) → (Int) → (List ((Int) × ((Int) × ((Int) × ((Int) × ((Int) × (Int))))))) → (List (((Int) × ((Int) × ((Int) × ((Int) × ((Int) × (Int)))))) × (Int))) → (List ((Int) × (Int))) → (List (Int)) → Option R
abbrev law19_GhostFds_Ty : Type 1 := {R : Type} → (Int) → (Int) → ((Bool) → Option R) → Option R
noncomputable def law19_GhostFds_l0_T0 (N : Nat) (c0 : ghost_Ghost_Copy_109a_Ty) (c1 : ghost_Ghost_Copy_f1e4_Ty) (c2 : ghost_Ghost_Read_ab5b_Ty) (c3 : ghost_Ghost_Read_5658_Ty) (c4 : ghost_Ghost_Twin_4cb0_Ty) (c5 : ghost_Ghost_Twin_7504_Ty) (c6 : ghost_Ghost_Open_9183_Ty) (c7 : ghost_Ghost_Open_e876_Ty) (c8 : ghost_New_669c_Ty) (c9 : term_Arena_Var_99d8_Ty) (c10 : term_Arena_Const_2c81_Ty) (c11 : term_New_Ty) (c12 : law19_awake_Ty) {R : Type} (nx : (Int) → (Int) → (Int) → (Int) → (List ((Int) × ((Int) × ((Int) × ((Int) × ((Int) × (Int))))))) → (List (((Int) × ((Int) × ((Int) × ((Int) × ((Int) × (Int)))))) × (Int))) → (List ((Int) × (Int))) → (List (Int)) → Option R) (k0 : (Int) → (Int) → (Int) → (List (Int)) → Option R) (x0 : Int) (x1 : Int) (x2 : Int) (x3 : Int) (x4 : List ((Int) × ((Int) × ((Int) × ((Int) × ((Int) × (Int))))))) (x5 : List (((Int) × ((Int) × ((Int) × ((Int) × ((Int) × (Int)))))) × (Int))) (x6 : List ((Int) × (Int))) (x7 : List (Int)) : Option R :=
  br (decide (x3 < (8 : Int)))
  (c9 (8 : Int) x3 x4 x5 x6
   (fun i653 i654 l655 l656 l657 => br (((fits (0 : Nat) (List.length x7) x7) && (decide ((((List.length x7) + (1 : Nat)) * (8 : Nat)) ≤ (70368744177664 : Nat)))) && true)
    (nx x0 x1 x2 (IntKind.wrap .i64 (x3 + (1 : Int))) l657 l655 l656 ((sub x7 (0 : Nat) (List.length x7)) ++ (i653 :: ([] : List ((Sh.int IntKind.i64).T)))))
    (none)))
  (k0 x0 x1 x2 x7)
noncomputable def law19_GhostFds_l0 (N : Nat) {R : Type} (k0 : (Int) → (Int) → (Int) → (List (Int)) → Option R) : Nat → (Int) → (Int) → (Int) → (Int) → (List ((Int) × ((Int) × ((Int) × ((Int) × ((Int) × (Int))))))) → (List (((Int) × ((Int) × ((Int) × ((Int) × ((Int) × (Int)))))) × (Int))) → (List ((Int) × (Int))) → (List (Int)) → Option R
  | 0, _, _, _, _, _, _, _, _ => none
  | n + 1, x0, x1, x2, x3, x4, x5, x6, x7 => law19_GhostFds_l0_T0 N (@ghost_Ghost_Copy_109a N) (@ghost_Ghost_Copy_f1e4 N) (@ghost_Ghost_Read_ab5b N) (@ghost_Ghost_Read_5658 N) (@ghost_Ghost_Twin_4cb0 N) (@ghost_Ghost_Twin_7504 N) (@ghost_Ghost_Open_9183 N) (@ghost_Ghost_Open_e876 N) (@ghost_New_669c N) (@term_Arena_Var_99d8 N) (@term_Arena_Const_2c81 N) (@term_New N) (@law19_awake N) (fun x0 x1 x2 x3 x4 x5 x6 x7 => law19_GhostFds_l0 N k0 n x0 x1 x2 x3 x4 x5 x6 x7) k0 x0 x1 x2 x3 x4 x5 x6 x7
noncomputable def law19_GhostFds_T (N : Nat) (c0 : ghost_Ghost_Copy_109a_Ty) (c1 : ghost_Ghost_Copy_f1e4_Ty) (c2 : ghost_Ghost_Read_ab5b_Ty) (c3 : ghost_Ghost_Read_5658_Ty) (c4 : ghost_Ghost_Twin_4cb0_Ty) (c5 : ghost_Ghost_Twin_7504_Ty) (c6 : ghost_Ghost_Open_9183_Ty) (c7 : ghost_Ghost_Open_e876_Ty) (c8 : ghost_New_669c_Ty) (c9 : term_Arena_Var_99d8_Ty) (c10 : term_Arena_Const_2c81_Ty) (c11 : term_New_Ty) (c12 : law19_awake_Ty) (w0 : law19_GhostFds_l0_Ty) {R : Type} (x0 : Int) (x1 : Int) (k0 : (Bool) → Option R) : Option R :=
  c12
  (fun b644 => br (!b644)
   (k0 false)
   (c11
    (fun l645 l646 l647 => c10 (8 : Int) (0 : Int) l645 l646 l647
     (fun i648 i649 l650 l651 l652 => w0
      (fun i658 i659 i660 l661 => br (fits (0 : Nat) (List.length l661) l661)
       (br (fits (0 : Nat) (List.length l661) l661)
        (c8 i660 (((bs [97]) , (false , (0 : Int))) :: ([] : List ((Sh.str.pair (Sh.bool.pair (Sh.int IntKind.i64))).T))) ((sub l661 (0 : Nat) (List.length l661)) :: ([] : List ((Sh.int IntKind.i64).isl.T)))
         (fun i662 l663 l664 => br (!(!(decide (i662 = (0 : Int)))))
          (k0 false)
          (k0 false))
         (fun i665 l666 l667 l668 i669 l670 l671 => br (!(!(decide (i665 = (0 : Int)))))
          (c6 (bs [97]) l668 i669 l670 l671
           (fun i672 l673 i674 l675 l676 => br (!(!(decide (i672 = (0 : Int)))))
            (c4 (0 : Int) l673 i674 l675 l676
             (fun i692 l693 i694 l695 l696 => br (!(decide (i692 = (1 : Int))))
              (k0 false)
              (c2 (0 : Int) (IntKind.wrap .u16 (Int.tmod (IntKind.wrap .i64 i658) (9 : Int))) l693 i694 l695 l696
               (fun i697 l698 i699 l700 l701 l702 => c0 l698 i699 l700 l701
                (fun l707 i708 l709 l710 l711 i712 l713 l714 => c2 (0 : Int) (IntKind.wrap .u16 (Int.tmod (IntKind.wrap .i64 i659) (9 : Int))) l711 i712 l713 l714
                 (fun i715 l716 i717 l718 l719 l720 => c2 (1 : Int) (1 : Int) l716 i717 l718 l719
                  (fun i721 l722 i723 l724 l725 l726 => c2 (1 : Int) (1 : Int) l707 i708 l709 l710
                   (fun i727 l728 i729 l730 l731 l732 => br (decide ((if ((8 : Int) < (IntKind.wrap .i64 ((Int.tmod (IntKind.wrap .i64 i658) (9 : Int)) + (Int.tmod (IntKind.wrap .i64 i659) (9 : Int))))) then (8 : Int) else (IntKind.wrap .i64 ((Int.tmod (IntKind.wrap .i64 i658) (9 : Int)) + (Int.tmod (IntKind.wrap .i64 i659) (9 : Int))))) < (8 : Int)))
                    (br (!(!(decide ((Nat.cast (List.length l726) : Int) = (1 : Int)))))
                     (br (inB (0 : Int) (List.length l726))
                      (br (decide ((0 : Nat) < (List.length l726)))
                       (br (inB (if ((8 : Int) < (IntKind.wrap .i64 ((Int.tmod (IntKind.wrap .i64 i658) (9 : Int)) + (Int.tmod (IntKind.wrap .i64 i659) (9 : Int))))) then (8 : Int) else (IntKind.wrap .i64 ((Int.tmod (IntKind.wrap .i64 i658) (9 : Int)) + (Int.tmod (IntKind.wrap .i64 i659) (9 : Int))))) (List.length (sub l661 (0 : Nat) (List.length l661))))
                        (br (!(!(decide ((List.getD l726 (0 : Nat) (0 : Int)) = (List.getD (sub l661 (0 : Nat) (List.length l661)) (Int.toNat (if ((8 : Int) < (IntKind.wrap .i64 ((Int.tmod (IntKind.wrap .i64 i658) (9 : Int)) + (Int.tmod (IntKind.wrap .i64 i659) (9 : Int))))) then (8 : Int) else (IntKind.wrap .i64 ((Int.tmod (IntKind.wrap .i64 i658) (9 : Int)) + (Int.tmod (IntKind.wrap .i64 i659) (9 : Int)))))) (0 : Int))))))
                         (br (decide ((8 : Int) ≤ (if ((8 : Int) < (IntKind.wrap .i64 ((Int.tmod (IntKind.wrap .i64 i658) (9 : Int)) + (Int.tmod (IntKind.wrap .i64 i659) (9 : Int))))) then (8 : Int) else (IntKind.wrap .i64 ((Int.tmod (IntKind.wrap .i64 i658) (9 : Int)) + (Int.tmod (IntKind.wrap .i64 i659) (9 : Int)))))))
                          (br (!(decide ((Nat.cast (List.length l726) : Int) = (0 : Int))))
                           (k0 false)
                           (br (decide ((Int.tmod (IntKind.wrap .i64 i658) (9 : Int)) < (8 : Int)))
                            (br (decide ((Nat.cast (List.length l732) : Int) = (1 : Int)))
                             (br (inB (0 : Int) (List.length l732))
                              (br (decide ((0 : Nat) < (List.length l732)))
                               (br (inB (Int.tmod (IntKind.wrap .i64 i658) (9 : Int)) (List.length (sub l661 (0 : Nat) (List.length l661))))
                                (br (!(decide ((List.getD l732 (0 : Nat) (0 : Int)) = (List.getD (sub l661 (0 : Nat) (List.length l661)) (Int.toNat (Int.tmod (IntKind.wrap .i64 i658) (9 : Int))) (0 : Int)))))
                                 (br (decide ((8 : Int) ≤ (Int.tmod (IntKind.wrap .i64 i658) (9 : Int))))
                                  (k0 (decide ((Nat.cast (List.length l732) : Int) = (0 : Int))))
                                  (k0 false))
                                 (k0 true))
                                (none))
                               (none))
                              (none))
                             (br (decide ((8 : Int) ≤ (Int.tmod (IntKind.wrap .i64 i658) (9 : Int))))
                              (k0 (decide ((Nat.cast (List.length l732) : Int) = (0 : Int))))
                              (k0 false)))
                            (br (decide ((8 : Int) ≤ (Int.tmod (IntKind.wrap .i64 i658) (9 : Int))))
                             (k0 (decide ((Nat.cast (List.length l732) : Int) = (0 : Int))))
                             (k0 false))))
                          (br (decide ((Int.tmod (IntKind.wrap .i64 i658) (9 : Int)) < (8 : Int)))
                           (br (decide ((Nat.cast (List.length l732) : Int) = (1 : Int)))
                            (br (inB (0 : Int) (List.length l732))
                             (br (decide ((0 : Nat) < (List.length l732)))
                              (br (inB (Int.tmod (IntKind.wrap .i64 i658) (9 : Int)) (List.length (sub l661 (0 : Nat) (List.length l661))))
                               (br (!(decide ((List.getD l732 (0 : Nat) (0 : Int)) = (List.getD (sub l661 (0 : Nat) (List.length l661)) (Int.toNat (Int.tmod (IntKind.wrap .i64 i658) (9 : Int))) (0 : Int)))))
                                (br (decide ((8 : Int) ≤ (Int.tmod (IntKind.wrap .i64 i658) (9 : Int))))
                                 (k0 (decide ((Nat.cast (List.length l732) : Int) = (0 : Int))))
                                 (k0 false))
                                (k0 true))
                               (none))
                              (none))
                             (none))
                            (br (decide ((8 : Int) ≤ (Int.tmod (IntKind.wrap .i64 i658) (9 : Int))))
                             (k0 (decide ((Nat.cast (List.length l732) : Int) = (0 : Int))))
                             (k0 false)))
                           (br (decide ((8 : Int) ≤ (Int.tmod (IntKind.wrap .i64 i658) (9 : Int))))
                            (k0 (decide ((Nat.cast (List.length l732) : Int) = (0 : Int))))
                            (k0 false))))
                         (k0 false))
                        (none))
                       (none))
                      (none))
                     (k0 false))
                    (br (decide ((8 : Int) ≤ (if ((8 : Int) < (IntKind.wrap .i64 ((Int.tmod (IntKind.wrap .i64 i658) (9 : Int)) + (Int.tmod (IntKind.wrap .i64 i659) (9 : Int))))) then (8 : Int) else (IntKind.wrap .i64 ((Int.tmod (IntKind.wrap .i64 i658) (9 : Int)) + (Int.tmod (IntKind.wrap .i64 i659) (9 : Int)))))))
                     (br (!(decide ((Nat.cast (List.length l726) : Int) = (0 : Int))))
                      (k0 false)
                      (br (decide ((Int.tmod (IntKind.wrap .i64 i658) (9 : Int)) < (8 : Int)))
                       (br (decide ((Nat.cast (List.length l732) : Int) = (1 : Int)))
                        (br (inB (0 : Int) (List.length l732))
                         (br (decide ((0 : Nat) < (List.length l732)))
                          (br (inB (Int.tmod (IntKind.wrap .i64 i658) (9 : Int)) (List.length (sub l661 (0 : Nat) (List.length l661))))
                           (br (!(decide ((List.getD l732 (0 : Nat) (0 : Int)) = (List.getD (sub l661 (0 : Nat) (List.length l661)) (Int.toNat (Int.tmod (IntKind.wrap .i64 i658) (9 : Int))) (0 : Int)))))
                            (br (decide ((8 : Int) ≤ (Int.tmod (IntKind.wrap .i64 i658) (9 : Int))))
                             (k0 (decide ((Nat.cast (List.length l732) : Int) = (0 : Int))))
                             (k0 false))
                            (k0 true))
                           (none))
                          (none))
                         (none))
                        (br (decide ((8 : Int) ≤ (Int.tmod (IntKind.wrap .i64 i658) (9 : Int))))
                         (k0 (decide ((Nat.cast (List.length l732) : Int) = (0 : Int))))
                         (k0 false)))
                       (br (decide ((8 : Int) ≤ (Int.tmod (IntKind.wrap .i64 i658) (9 : Int))))
                        (k0 (decide ((Nat.cast (List.length l732) : Int) = (0 : Int))))
                        (k0 false))))
                     (br (decide ((Int.tmod (IntKind.wrap .i64 i658) (9 : Int)) < (8 : Int)))
                      (br (decide ((Nat.cast (List.length l732) : Int) = (1 : Int)))
                       (br (inB (0 : Int) (List.length l732))
                        (br (decide ((0 : Nat) < (List.length l732)))
                         (br (inB (Int.tmod (IntKind.wrap .i64 i658) (9 : Int)) (List.length (sub l661 (0 : Nat) (List.length l661))))
                          (br (!(decide ((List.getD l732 (0 : Nat) (0 : Int)) = (List.getD (sub l661 (0 : Nat) (List.length l661)) (Int.toNat (Int.tmod (IntKind.wrap .i64 i658) (9 : Int))) (0 : Int)))))
                           (br (decide ((8 : Int) ≤ (Int.tmod (IntKind.wrap .i64 i658) (9 : Int))))
                            (k0 (decide ((Nat.cast (List.length l732) : Int) = (0 : Int))))
                            (k0 false))
                           (k0 true))
                          (none))
                         (none))
                        (none))
                       (br (decide ((8 : Int) ≤ (Int.tmod (IntKind.wrap .i64 i658) (9 : Int))))
                        (k0 (decide ((Nat.cast (List.length l732) : Int) = (0 : Int))))
                        (k0 false)))
                      (br (decide ((8 : Int) ≤ (Int.tmod (IntKind.wrap .i64 i658) (9 : Int))))
                       (k0 (decide ((Nat.cast (List.length l732) : Int) = (0 : Int))))
                       (k0 false))))))))))))
            (k0 false)))
          (k0 false))
         (fun i733 l734 l735 l736 i737 i738 l739 l740 l741 => br (!(!(decide (i733 = (0 : Int)))))
          (c7 (bs [97]) l736 i737 i738 l739 l740 l741
           (fun i742 l743 i744 i745 l746 l747 l748 => br (!(!(decide (i742 = (0 : Int)))))
            (c5 (0 : Int) l743 i744 i745 l746 l747 l748
             (fun i770 l771 i772 i773 l774 l775 l776 => br (!(decide (i770 = (1 : Int))))
              (k0 false)
              (c3 (0 : Int) (IntKind.wrap .u16 (Int.tmod (IntKind.wrap .i64 i658) (9 : Int))) l771 i772 i773 l774 l775 l776
               (fun i777 l778 i779 i780 l781 l782 l783 l784 => c1 l778 i779 i780 l781 l782 l783
                (fun l793 i794 i795 l796 l797 l798 l799 i800 i801 l802 l803 l804 => c3 (0 : Int) (IntKind.wrap .u16 (Int.tmod (IntKind.wrap .i64 i659) (9 : Int))) l799 i800 i801 l802 l803 l804
                 (fun i805 l806 i807 i808 l809 l810 l811 l812 => c3 (1 : Int) (1 : Int) l806 i807 i808 l809 l810 l811
                  (fun i813 l814 i815 i816 l817 l818 l819 l820 => c3 (1 : Int) (1 : Int) l793 i794 i795 l796 l797 l798
                   (fun i821 l822 i823 i824 l825 l826 l827 l828 => br (decide ((if ((8 : Int) < (IntKind.wrap .i64 ((Int.tmod (IntKind.wrap .i64 i658) (9 : Int)) + (Int.tmod (IntKind.wrap .i64 i659) (9 : Int))))) then (8 : Int) else (IntKind.wrap .i64 ((Int.tmod (IntKind.wrap .i64 i658) (9 : Int)) + (Int.tmod (IntKind.wrap .i64 i659) (9 : Int))))) < (8 : Int)))
                    (br (!(!(decide ((Nat.cast (List.length l820) : Int) = (1 : Int)))))
                     (br (inB (0 : Int) (List.length l820))
                      (br (decide ((0 : Nat) < (List.length l820)))
                       (br (inB (if ((8 : Int) < (IntKind.wrap .i64 ((Int.tmod (IntKind.wrap .i64 i658) (9 : Int)) + (Int.tmod (IntKind.wrap .i64 i659) (9 : Int))))) then (8 : Int) else (IntKind.wrap .i64 ((Int.tmod (IntKind.wrap .i64 i658) (9 : Int)) + (Int.tmod (IntKind.wrap .i64 i659) (9 : Int))))) (List.length (sub l661 (0 : Nat) (List.length l661))))
                        (br (!(!(decide ((List.getD l820 (0 : Nat) (0 : Int)) = (List.getD (sub l661 (0 : Nat) (List.length l661)) (Int.toNat (if ((8 : Int) < (IntKind.wrap .i64 ((Int.tmod (IntKind.wrap .i64 i658) (9 : Int)) + (Int.tmod (IntKind.wrap .i64 i659) (9 : Int))))) then (8 : Int) else (IntKind.wrap .i64 ((Int.tmod (IntKind.wrap .i64 i658) (9 : Int)) + (Int.tmod (IntKind.wrap .i64 i659) (9 : Int)))))) (0 : Int))))))
                         (br (decide ((8 : Int) ≤ (if ((8 : Int) < (IntKind.wrap .i64 ((Int.tmod (IntKind.wrap .i64 i658) (9 : Int)) + (Int.tmod (IntKind.wrap .i64 i659) (9 : Int))))) then (8 : Int) else (IntKind.wrap .i64 ((Int.tmod (IntKind.wrap .i64 i658) (9 : Int)) + (Int.tmod (IntKind.wrap .i64 i659) (9 : Int)))))))
                          (br (!(decide ((Nat.cast (List.length l820) : Int) = (0 : Int))))
                           (k0 false)
                           (br (decide ((Int.tmod (IntKind.wrap .i64 i658) (9 : Int)) < (8 : Int)))
                            (br (decide ((Nat.cast (List.length l828) : Int) = (1 : Int)))
                             (br (inB (0 : Int) (List.length l828))
                              (br (decide ((0 : Nat) < (List.length l828)))
                               (br (inB (Int.tmod (IntKind.wrap .i64 i658) (9 : Int)) (List.length (sub l661 (0 : Nat) (List.length l661))))
                                (br (!(decide ((List.getD l828 (0 : Nat) (0 : Int)) = (List.getD (sub l661 (0 : Nat) (List.length l661)) (Int.toNat (Int.tmod (IntKind.wrap .i64 i658) (9 : Int))) (0 : Int)))))
                                 (br (decide ((8 : Int) ≤ (Int.tmod (IntKind.wrap .i64 i658) (9 : Int))))
                                  (k0 (decide ((Nat.cast (List.length l828) : Int) = (0 : Int))))
                                  (k0 false))
                                 (k0 true))
                                (none))
                               (none))
                              (none))
                             (br (decide ((8 : Int) ≤ (Int.tmod (IntKind.wrap .i64 i658) (9 : Int))))
                              (k0 (decide ((Nat.cast (List.length l828) : Int) = (0 : Int))))
                              (k0 false)))
                            (br (decide ((8 : Int) ≤ (Int.tmod (IntKind.wrap .i64 i658) (9 : Int))))
                             (k0 (decide ((Nat.cast (List.length l828) : Int) = (0 : Int))))
                             (k0 false))))
                          (br (decide ((Int.tmod (IntKind.wrap .i64 i658) (9 : Int)) < (8 : Int)))
                           (br (decide ((Nat.cast (List.length l828) : Int) = (1 : Int)))
                            (br (inB (0 : Int) (List.length l828))
                             (br (decide ((0 : Nat) < (List.length l828)))
                              (br (inB (Int.tmod (IntKind.wrap .i64 i658) (9 : Int)) (List.length (sub l661 (0 : Nat) (List.length l661))))
                               (br (!(decide ((List.getD l828 (0 : Nat) (0 : Int)) = (List.getD (sub l661 (0 : Nat) (List.length l661)) (Int.toNat (Int.tmod (IntKind.wrap .i64 i658) (9 : Int))) (0 : Int)))))
                                (br (decide ((8 : Int) ≤ (Int.tmod (IntKind.wrap .i64 i658) (9 : Int))))
                                 (k0 (decide ((Nat.cast (List.length l828) : Int) = (0 : Int))))
                                 (k0 false))
                                (k0 true))
                               (none))
                              (none))
                             (none))
                            (br (decide ((8 : Int) ≤ (Int.tmod (IntKind.wrap .i64 i658) (9 : Int))))
                             (k0 (decide ((Nat.cast (List.length l828) : Int) = (0 : Int))))
                             (k0 false)))
                           (br (decide ((8 : Int) ≤ (Int.tmod (IntKind.wrap .i64 i658) (9 : Int))))
                            (k0 (decide ((Nat.cast (List.length l828) : Int) = (0 : Int))))
                            (k0 false))))
                         (k0 false))
                        (none))
                       (none))
                      (none))
                     (k0 false))
                    (br (decide ((8 : Int) ≤ (if ((8 : Int) < (IntKind.wrap .i64 ((Int.tmod (IntKind.wrap .i64 i658) (9 : Int)) + (Int.tmod (IntKind.wrap .i64 i659) (9 : Int))))) then (8 : Int) else (IntKind.wrap .i64 ((Int.tmod (IntKind.wrap .i64 i658) (9 : Int)) + (Int.tmod (IntKind.wrap .i64 i659) (9 : Int)))))))
                     (br (!(decide ((Nat.cast (List.length l820) : Int) = (0 : Int))))
                      (k0 false)
                      (br (decide ((Int.tmod (IntKind.wrap .i64 i658) (9 : Int)) < (8 : Int)))
                       (br (decide ((Nat.cast (List.length l828) : Int) = (1 : Int)))
                        (br (inB (0 : Int) (List.length l828))
                         (br (decide ((0 : Nat) < (List.length l828)))
                          (br (inB (Int.tmod (IntKind.wrap .i64 i658) (9 : Int)) (List.length (sub l661 (0 : Nat) (List.length l661))))
                           (br (!(decide ((List.getD l828 (0 : Nat) (0 : Int)) = (List.getD (sub l661 (0 : Nat) (List.length l661)) (Int.toNat (Int.tmod (IntKind.wrap .i64 i658) (9 : Int))) (0 : Int)))))
                            (br (decide ((8 : Int) ≤ (Int.tmod (IntKind.wrap .i64 i658) (9 : Int))))
                             (k0 (decide ((Nat.cast (List.length l828) : Int) = (0 : Int))))
                             (k0 false))
                            (k0 true))
                           (none))
                          (none))
                         (none))
                        (br (decide ((8 : Int) ≤ (Int.tmod (IntKind.wrap .i64 i658) (9 : Int))))
                         (k0 (decide ((Nat.cast (List.length l828) : Int) = (0 : Int))))
                         (k0 false)))
                       (br (decide ((8 : Int) ≤ (Int.tmod (IntKind.wrap .i64 i658) (9 : Int))))
                        (k0 (decide ((Nat.cast (List.length l828) : Int) = (0 : Int))))
                        (k0 false))))
                     (br (decide ((Int.tmod (IntKind.wrap .i64 i658) (9 : Int)) < (8 : Int)))
                      (br (decide ((Nat.cast (List.length l828) : Int) = (1 : Int)))
                       (br (inB (0 : Int) (List.length l828))
                        (br (decide ((0 : Nat) < (List.length l828)))
                         (br (inB (Int.tmod (IntKind.wrap .i64 i658) (9 : Int)) (List.length (sub l661 (0 : Nat) (List.length l661))))
                          (br (!(decide ((List.getD l828 (0 : Nat) (0 : Int)) = (List.getD (sub l661 (0 : Nat) (List.length l661)) (Int.toNat (Int.tmod (IntKind.wrap .i64 i658) (9 : Int))) (0 : Int)))))
                           (br (decide ((8 : Int) ≤ (Int.tmod (IntKind.wrap .i64 i658) (9 : Int))))
                            (k0 (decide ((Nat.cast (List.length l828) : Int) = (0 : Int))))
                            (k0 false))
                           (k0 true))
                          (none))
                         (none))
                        (none))
                       (br (decide ((8 : Int) ≤ (Int.tmod (IntKind.wrap .i64 i658) (9 : Int))))
                        (k0 (decide ((Nat.cast (List.length l828) : Int) = (0 : Int))))
                        (k0 false)))
                      (br (decide ((8 : Int) ≤ (Int.tmod (IntKind.wrap .i64 i658) (9 : Int))))
                       (k0 (decide ((Nat.cast (List.length l828) : Int) = (0 : Int))))
                       (k0 false))))))))))))
            (k0 false)))
          (k0 false)))
        (none))
       (none))
      N x0 x1 i648 (0 : Int) l652 l650 l651 ([] : List ((Sh.int IntKind.i64).T))))))
noncomputable def law19_GhostFds (N : Nat) {R : Type} (x0 : Int) (x1 : Int) (k0 : (Bool) → Option R) : Option R := law19_GhostFds_T N (@ghost_Ghost_Copy_109a N) (@ghost_Ghost_Copy_f1e4 N) (@ghost_Ghost_Read_ab5b N) (@ghost_Ghost_Read_5658 N) (@ghost_Ghost_Twin_4cb0 N) (@ghost_Ghost_Twin_7504 N) (@ghost_Ghost_Open_9183 N) (@ghost_Ghost_Open_e876 N) (@ghost_New_669c N) (@term_Arena_Var_99d8 N) (@term_Arena_Const_2c81 N) (@term_New N) (@law19_awake N) (@law19_GhostFds_l0 N) x0 x1 k0
end Go.Proofs.Ytfeacgamgdpojaa
