/-
  The functions that the statement reaches, each as a function of Lean (printed by a program of this work).
-/
import Derived.Test.YtfeacgamgdpojaaGx5
set_option linter.unusedVariables false
set_option maxRecDepth 100000
namespace Go.Proofs.Ytfeacgamgdpojaa
open Go.Gx
abbrev stringslite_IndexByte_Ty : Type 1 := {R : Type} → (ByteArray) → (Int) → ((Int) → Option R) → Option R
abbrev term_New_Ty : Type 1 := {R : Type} → ((List ((Int) × ((Int) × ((Int) × ((Int) × ((Int) × (Int))))))) → (List (((Int) × ((Int) × ((Int) × ((Int) × ((Int) × (Int)))))) × (Int))) → (List ((Int) × (Int))) → Option R) → Option R
noncomputable def term_New_T (N : Nat) {R : Type} (k0 : (List ((Int) × ((Int) × ((Int) × ((Int) × ((Int) × (Int))))))) → (List (((Int) × ((Int) × ((Int) × ((Int) × ((Int) × (Int)))))) × (Int))) → (List ((Int) × (Int))) → Option R) : Option R :=
  k0 ([] : List (((Sh.int IntKind.i64).pair
    ((Sh.int IntKind.i64).pair
      ((Sh.int IntKind.u16).pair ((Sh.int IntKind.i64).pair ((Sh.int IntKind.i64).pair (Sh.int IntKind.i64)))))).T)) ([] : List ((((Sh.int IntKind.i64).pair
    ((Sh.int IntKind.i64).pair
      ((Sh.int IntKind.u16).pair ((Sh.int IntKind.i64).pair ((Sh.int IntKind.i64).pair (Sh.int IntKind.i64)))))).T) × ((Sh.int IntKind.i64).T))) ([] : List (((Sh.int IntKind.i64).T) × ((Sh.int IntKind.i64).T)))
noncomputable def term_New (N : Nat) {R : Type} (k0 : (List ((Int) × ((Int) × ((Int) × ((Int) × ((Int) × (Int))))))) → (List (((Int) × ((Int) × ((Int) × ((Int) × ((Int) × (Int)))))) × (Int))) → (List ((Int) × (Int))) → Option R) : Option R := term_New_T N k0
abbrev wide_May_Ty : Type 1 := {R : Type} → (Int) → ((Bool) → Option R) → Option R
noncomputable def wide_May_T (N : Nat) {R : Type} (x0 : Int) (k0 : (Bool) → Option R) : Option R :=
  br (!(decide (x0 = (1 : Int))))
  (br (!(decide (x0 = (8 : Int))))
   (k0 (decide (x0 = (16 : Int))))
   (k0 true))
  (k0 true)
noncomputable def wide_May (N : Nat) {R : Type} (x0 : Int) (k0 : (Bool) → Option R) : Option R := wide_May_T N x0 k0
abbrev wide_Mask_Ty : Type 1 := {R : Type} → (Int) → ((Int) → Option R) → Option R
noncomputable def wide_Mask_T (N : Nat) (c0 : wide_May_Ty) {R : Type} (x0 : Int) (k0 : (Int) → Option R) : Option R :=
  c0 x0
  (fun b4 => br (!b4)
   (k0 (0 : Int))
   (br (decide ((IntKind.wrap .u64 x0) < (0 : Int)))
    (none)
    (k0 (IntKind.wrap .u16 ((shlI .u16 (1 : Int) (IntKind.wrap .u64 x0)) - (1 : Int))))))
noncomputable def wide_Mask (N : Nat) {R : Type} (x0 : Int) (k0 : (Int) → Option R) : Option R := wide_Mask_T N (@wide_May N) x0 k0
abbrev term_Arena_keep_a25e_Ty : Type 1 := {R : Type} → (Int) → (Int) → (Int) → (Int) → (Int) → (Int) → (List ((Int) × ((Int) × ((Int) × ((Int) × ((Int) × (Int))))))) → (List (((Int) × ((Int) × ((Int) × ((Int) × ((Int) × (Int)))))) × (Int))) → (List ((Int) × (Int))) → ((Int) → (Int) → (List (((Int) × ((Int) × ((Int) × ((Int) × ((Int) × (Int)))))) × (Int))) → (List ((Int) × (Int))) → (List ((Int) × ((Int) × ((Int) × ((Int) × ((Int) × (Int))))))) → Option R) → Option R
noncomputable def term_Arena_keep_a25e_T (N : Nat) {R : Type} (x0 : Int) (x1 : Int) (x2 : Int) (x3 : Int) (x4 : Int) (x5 : Int) (x6 : List ((Int) × ((Int) × ((Int) × ((Int) × ((Int) × (Int))))))) (x7 : List (((Int) × ((Int) × ((Int) × ((Int) × ((Int) × (Int)))))) × (Int))) (x8 : List ((Int) × (Int))) (k0 : (Int) → (Int) → (List (((Int) × ((Int) × ((Int) × ((Int) × ((Int) × (Int)))))) × (Int))) → (List ((Int) × (Int))) → (List ((Int) × ((Int) × ((Int) × ((Int) × ((Int) × (Int))))))) → Option R) : Option R :=
  br (Option.isSome (mfind (.pair (.int .i64) (.pair (.int .i64) (.pair (.int .u16) (.pair (.int .i64) (.pair (.int .i64) (.int .i64)))))) (.int .i64) x7 (x0 , (x1 , (x2 , (x3 , (x4 , x5)))))))
  (k0 (Option.getD (mfind (.pair (.int .i64) (.pair (.int .i64) (.pair (.int .u16) (.pair (.int .i64) (.pair (.int .i64) (.int .i64)))))) (.int .i64) x7 (x0 , (x1 , (x2 , (x3 , (x4 , x5)))))) (0 : Int)) (0 : Int) x7 x8 x6)
  (br (decide ((65536 : Int) ≤ (Nat.cast (List.length x6) : Int)))
   (k0 (0 : Int) (3 : Int) x7 x8 x6)
   (br (((fits (0 : Nat) (List.length x6) x6) && (decide ((((List.length x6) + (1 : Nat)) * (48 : Nat)) ≤ (70368744177664 : Nat)))) && true)
    (k0 (Nat.cast ((List.length x6) + (1 : Nat)) : Int) (0 : Int) (mput (.pair (.int .i64) (.pair (.int .i64) (.pair (.int .u16) (.pair (.int .i64) (.pair (.int .i64) (.int .i64)))))) (.int .i64) x7 (x0 , (x1 , (x2 , (x3 , (x4 , x5))))) (Nat.cast ((List.length x6) + (1 : Nat)) : Int)) x8 ((sub x6 (0 : Nat) (List.length x6)) ++ ((x0 , (x1 , (x2 , (x3 , (x4 , x5))))) :: ([] : List (((Sh.int IntKind.i64).pair
    ((Sh.int IntKind.i64).pair
      ((Sh.int IntKind.u16).pair ((Sh.int IntKind.i64).pair ((Sh.int IntKind.i64).pair (Sh.int IntKind.i64)))))).T)))))
    (none)))
noncomputable def term_Arena_keep_a25e (N : Nat) {R : Type} (x0 : Int) (x1 : Int) (x2 : Int) (x3 : Int) (x4 : Int) (x5 : Int) (x6 : List ((Int) × ((Int) × ((Int) × ((Int) × ((Int) × (Int))))))) (x7 : List (((Int) × ((Int) × ((Int) × ((Int) × ((Int) × (Int)))))) × (Int))) (x8 : List ((Int) × (Int))) (k0 : (Int) → (Int) → (List (((Int) × ((Int) × ((Int) × ((Int) × ((Int) × (Int)))))) × (Int))) → (List ((Int) × (Int))) → (List ((Int) × ((Int) × ((Int) × ((Int) × ((Int) × (Int))))))) → Option R) : Option R := term_Arena_keep_a25e_T N x0 x1 x2 x3 x4 x5 x6 x7 x8 k0
abbrev term_Arena_Const_2c81_Ty : Type 1 := {R : Type} → (Int) → (Int) → (List ((Int) × ((Int) × ((Int) × ((Int) × ((Int) × (Int))))))) → (List (((Int) × ((Int) × ((Int) × ((Int) × ((Int) × (Int)))))) × (Int))) → (List ((Int) × (Int))) → ((Int) → (Int) → (List (((Int) × ((Int) × ((Int) × ((Int) × ((Int) × (Int)))))) × (Int))) → (List ((Int) × (Int))) → (List ((Int) × ((Int) × ((Int) × ((Int) × ((Int) × (Int))))))) → Option R) → Option R
noncomputable def term_Arena_Const_2c81_T (N : Nat) (c0 : term_Arena_keep_a25e_Ty) (c1 : wide_Mask_Ty) (c2 : wide_May_Ty) {R : Type} (x0 : Int) (x1 : Int) (x2 : List ((Int) × ((Int) × ((Int) × ((Int) × ((Int) × (Int))))))) (x3 : List (((Int) × ((Int) × ((Int) × ((Int) × ((Int) × (Int)))))) × (Int))) (x4 : List ((Int) × (Int))) (k0 : (Int) → (Int) → (List (((Int) × ((Int) × ((Int) × ((Int) × ((Int) × (Int)))))) × (Int))) → (List ((Int) × (Int))) → (List ((Int) × ((Int) × ((Int) × ((Int) × ((Int) × (Int))))))) → Option R) : Option R :=
  c2 x0
  (fun b11 => br (!b11)
   (k0 (0 : Int) (2 : Int) x3 x4 x2)
   (c1 x0
    (fun i12 => c0 (1 : Int) x0 (band .u16 x1 i12) (0 : Int) (0 : Int) (0 : Int) x2 x3 x4
     (fun i13 i14 l15 l16 l17 => k0 i13 i14 l15 l16 l17))))
noncomputable def term_Arena_Const_2c81 (N : Nat) {R : Type} (x0 : Int) (x1 : Int) (x2 : List ((Int) × ((Int) × ((Int) × ((Int) × ((Int) × (Int))))))) (x3 : List (((Int) × ((Int) × ((Int) × ((Int) × ((Int) × (Int)))))) × (Int))) (x4 : List ((Int) × (Int))) (k0 : (Int) → (Int) → (List (((Int) × ((Int) × ((Int) × ((Int) × ((Int) × (Int)))))) × (Int))) → (List ((Int) × (Int))) → (List ((Int) × ((Int) × ((Int) × ((Int) × ((Int) × (Int))))))) → Option R) : Option R := term_Arena_Const_2c81_T N (@term_Arena_keep_a25e N) (@wide_Mask N) (@wide_May N) x0 x1 x2 x3 x4 k0
abbrev term_Arena_Var_99d8_Ty : Type 1 := {R : Type} → (Int) → (Int) → (List ((Int) × ((Int) × ((Int) × ((Int) × ((Int) × (Int))))))) → (List (((Int) × ((Int) × ((Int) × ((Int) × ((Int) × (Int)))))) × (Int))) → (List ((Int) × (Int))) → ((Int) → (Int) → (List (((Int) × ((Int) × ((Int) × ((Int) × ((Int) × (Int)))))) × (Int))) → (List ((Int) × (Int))) → (List ((Int) × ((Int) × ((Int) × ((Int) × ((Int) × (Int))))))) → Option R) → Option R
noncomputable def term_Arena_Var_99d8_T (N : Nat) (c0 : term_Arena_keep_a25e_Ty) (c1 : wide_May_Ty) {R : Type} (x0 : Int) (x1 : Int) (x2 : List ((Int) × ((Int) × ((Int) × ((Int) × ((Int) × (Int))))))) (x3 : List (((Int) × ((Int) × ((Int) × ((Int) × ((Int) × (Int)))))) × (Int))) (x4 : List ((Int) × (Int))) (k0 : (Int) → (Int) → (List (((Int) × ((Int) × ((Int) × ((Int) × ((Int) × (Int)))))) × (Int))) → (List ((Int) × (Int))) → (List ((Int) × ((Int) × ((Int) × ((Int) × ((Int) × (Int))))))) → Option R) : Option R :=
  c1 x0
  (fun b29 => br (!b29)
   (k0 (0 : Int) (2 : Int) x3 x4 x2)
   (br (!(decide (x1 < (0 : Int))))
    (br (!(decide ((64 : Int) ≤ x1)))
     (br (Option.isSome (mfind (.int .i64) (.int .i64) x4 x1))
      (br (!(decide ((Option.getD (mfind (.int .i64) (.int .i64) x4 x1) (0 : Int)) = x0)))
       (k0 (0 : Int) (1 : Int) x3 x4 x2)
       (c0 (2 : Int) x0 (IntKind.wrap .u16 x1) (0 : Int) (0 : Int) (0 : Int) x2 x3 x4
        (fun i30 i31 l32 l33 l34 => br (decide (i31 = (0 : Int)))
         (k0 i30 i31 l32 (mput (.int .i64) (.int .i64) l33 x1 x0) l34)
         (k0 i30 i31 l32 l33 l34))))
      (c0 (2 : Int) x0 (IntKind.wrap .u16 x1) (0 : Int) (0 : Int) (0 : Int) x2 x3 x4
       (fun i35 i36 l37 l38 l39 => br (decide (i36 = (0 : Int)))
        (k0 i35 i36 l37 (mput (.int .i64) (.int .i64) l38 x1 x0) l39)
        (k0 i35 i36 l37 l38 l39))))
     (k0 (0 : Int) (1 : Int) x3 x4 x2))
    (k0 (0 : Int) (1 : Int) x3 x4 x2)))
noncomputable def term_Arena_Var_99d8 (N : Nat) {R : Type} (x0 : Int) (x1 : Int) (x2 : List ((Int) × ((Int) × ((Int) × ((Int) × ((Int) × (Int))))))) (x3 : List (((Int) × ((Int) × ((Int) × ((Int) × ((Int) × (Int)))))) × (Int))) (x4 : List ((Int) × (Int))) (k0 : (Int) → (Int) → (List (((Int) × ((Int) × ((Int) × ((Int) × ((Int) × (Int)))))) × (Int))) → (List ((Int) × (Int))) → (List ((Int) × ((Int) × ((Int) × ((Int) × ((Int) × (Int))))))) → Option R) : Option R := term_Arena_Var_99d8_T N (@term_Arena_keep_a25e N) (@wide_May N) x0 x1 x2 x3 x4 k0
abbrev stringslite_Index_Ty : Type 1 := {R : Type} → (ByteArray) → (ByteArray) → ((Int) → Option R) → Option R
noncomputable def stringslite_Index_T (N : Nat) (c0 : stringslite_IndexByte_Ty) {R : Type} (x0 : ByteArray) (x1 : ByteArray) (k0 : (Int) → Option R) : Option R :=
  br (!(decide ((Nat.cast (ByteArray.size x1) : Int) = (0 : Int))))
  (br (decide (x1 = x0))
   (k0 (0 : Int))
   (br (decide ((Nat.cast (ByteArray.size x1) : Int) = (1 : Int)))
    (br (inB (0 : Int) (ByteArray.size x1))
     (c0 x0 (bt x1 (0 : Int))
      (fun i45 => k0 i45))
     (none))
    (br (decide ((Nat.cast (ByteArray.size x0) : Int) ≤ (Nat.cast (ByteArray.size x1) : Int)))
     (k0 (-1 : Int))
     (none))))
  (k0 (0 : Int))
noncomputable def stringslite_Index (N : Nat) {R : Type} (x0 : ByteArray) (x1 : ByteArray) (k0 : (Int) → Option R) : Option R := stringslite_Index_T N @stringslite_IndexByte x0 x1 k0
abbrev stringslite_Cut_Ty : Type 1 := {R : Type} → (ByteArray) → (ByteArray) → ((ByteArray) → (ByteArray) → (Bool) → Option R) → Option R
noncomputable def stringslite_Cut_T (N : Nat) (c0 : stringslite_Index_Ty) {R : Type} (x0 : ByteArray) (x1 : ByteArray) (k0 : (ByteArray) → (ByteArray) → (Bool) → Option R) : Option R :=
  c0 x0 x1
  (fun i46 => br (decide ((0 : Int) ≤ i46))
   (br (leB i46 (ByteArray.size x0))
    (br (leB (IntKind.wrap .i64 (i46 + (Nat.cast (ByteArray.size x1) : Int))) (ByteArray.size x0))
     (k0 (ByteArray.extract x0 (0 : Nat) (Int.toNat i46)) (ByteArray.extract x0 (Int.toNat (IntKind.wrap .i64 (i46 + (Nat.cast (ByteArray.size x1) : Int)))) (ByteArray.size x0)) true)
     (none))
    (none))
   (k0 x0 (bs []) false))
noncomputable def stringslite_Cut (N : Nat) {R : Type} (x0 : ByteArray) (x1 : ByteArray) (k0 : (ByteArray) → (ByteArray) → (Bool) → Option R) : Option R := stringslite_Cut_T N (@stringslite_Index N) x0 x1 k0
abbrev strings_Cut_Ty : Type 1 := {R : Type} → (ByteArray) → (ByteArray) → ((ByteArray) → (ByteArray) → (Bool) → Option R) → Option R
noncomputable def strings_Cut_T (N : Nat) (c0 : stringslite_Cut_Ty) {R : Type} (x0 : ByteArray) (x1 : ByteArray) (k0 : (ByteArray) → (ByteArray) → (Bool) → Option R) : Option R :=
  c0 x0 x1
  (fun s47 s48 b49 => k0 s47 s48 b49)
noncomputable def strings_Cut (N : Nat) {R : Type} (x0 : ByteArray) (x1 : ByteArray) (k0 : (ByteArray) → (ByteArray) → (Bool) → Option R) : Option R := strings_Cut_T N (@stringslite_Cut N) x0 x1 k0
abbrev check_letter_Ty : Type 1 := {R : Type} → (Int) → ((Bool) → Option R) → Option R
noncomputable def check_letter_T (N : Nat) {R : Type} (x0 : Int) (k0 : (Bool) → Option R) : Option R :=
  br (decide ((97 : Int) ≤ x0))
  (br (!(decide (x0 ≤ (122 : Int))))
   (br (decide ((48 : Int) ≤ x0))
    (br (!(decide (x0 ≤ (57 : Int))))
     (br (!(decide (x0 = (46 : Int))))
      (k0 (decide (x0 = (95 : Int))))
      (k0 true))
     (k0 true))
    (br (!(decide (x0 = (46 : Int))))
     (k0 (decide (x0 = (95 : Int))))
     (k0 true)))
   (k0 true))
  (br (decide ((48 : Int) ≤ x0))
   (br (!(decide (x0 ≤ (57 : Int))))
    (br (!(decide (x0 = (46 : Int))))
     (k0 (decide (x0 = (95 : Int))))
     (k0 true))
    (k0 true))
   (br (!(decide (x0 = (46 : Int))))
    (k0 (decide (x0 = (95 : Int))))
    (k0 true)))
noncomputable def check_letter (N : Nat) {R : Type} (x0 : Int) (k0 : (Bool) → Option R) : Option R := check_letter_T N x0 k0
abbrev check_part_l0_Ty : Type 1 := {R : Type} → ((ByteArray) → (Bool) → Option R) → ((ByteArray) → Option R) → Nat → (ByteArray) → (Int) → (Int) → Option R
abbrev check_part_Ty : Type 1 := {R : Type} → (ByteArray) → ((Bool) → Option R) → Option R
noncomputable def check_part_l0_T0 (N : Nat) (c0 : check_letter_Ty) {R : Type} (nx : (ByteArray) → (Int) → (Int) → Option R) (k0 : (ByteArray) → (Bool) → Option R) (k1 : (ByteArray) → Option R) (x0 : ByteArray) (x1 : Int) (x2 : Int) : Option R :=
  br (decide (x2 < x1))
  (br (inB x2 (ByteArray.size x0))
   (c0 (bt x0 x2)
    (fun b53 => br (!b53)
     (k0 x0 false)
     (nx x0 x1 (IntKind.wrap .i64 (x2 + (1 : Int))))))
   (none))
  (k1 x0)
noncomputable def check_part_l0 (N : Nat) {R : Type} (k0 : (ByteArray) → (Bool) → Option R) (k1 : (ByteArray) → Option R) : Nat → (ByteArray) → (Int) → (Int) → Option R
  | 0, _, _, _ => none
  | n + 1, x0, x1, x2 => check_part_l0_T0 N (@check_letter N) (fun x0 x1 x2 => check_part_l0 N k0 k1 n x0 x1 x2) k0 k1 x0 x1 x2
noncomputable def check_part_T (N : Nat) (c0 : check_letter_Ty) (w0 : check_part_l0_Ty) {R : Type} (x0 : ByteArray) (k0 : (Bool) → Option R) : Option R :=
  w0
  (fun s54 b55 => k0 b55)
  (fun s56 => br (!(decide (s56 = (bs []))))
   (br (!(decide (s56 = (bs [46]))))
    (k0 (!(decide (s56 = (bs [46, 46])))))
    (k0 false))
   (k0 false))
  N x0 (Nat.cast (ByteArray.size x0) : Int) (0 : Int)
noncomputable def check_part (N : Nat) {R : Type} (x0 : ByteArray) (k0 : (Bool) → Option R) : Option R := check_part_T N (@check_letter N) (@check_part_l0 N) x0 k0
abbrev check_Name_Ty : Type 1 := {R : Type} → (ByteArray) → ((Bool) → Option R) → Option R
noncomputable def check_Name_T (N : Nat) (c0 : check_part_Ty) (c1 : strings_Cut_Ty) {R : Type} (x0 : ByteArray) (k0 : (Bool) → Option R) : Option R :=
  br (decide ((8 : Int) < (Nat.cast (ByteArray.size x0) : Int)))
  (k0 false)
  (c1 x0 (bs [47])
   (fun s50 s51 b52 => c0 s50
    (fun b57 => br b57
     (br (!(!b52))
      (c0 s51
       (fun b58 => k0 b58))
      (k0 true))
     (k0 false))))
noncomputable def check_Name (N : Nat) {R : Type} (x0 : ByteArray) (k0 : (Bool) → Option R) : Option R := check_Name_T N (@check_part N) (@strings_Cut N) x0 k0
abbrev names_May_Ty : Type 1 := {R : Type} → (ByteArray) → ((Bool) → Option R) → Option R
noncomputable def names_May_T (N : Nat) (c0 : check_Name_Ty) {R : Type} (x0 : ByteArray) (k0 : (Bool) → Option R) : Option R :=
  c0 x0
  (fun b59 => k0 b59)
noncomputable def names_May (N : Nat) {R : Type} (x0 : ByteArray) (k0 : (Bool) → Option R) : Option R := names_May_T N (@check_Name N) x0 k0
abbrev names_Split_Ty : Type 1 := {R : Type} → (ByteArray) → ((ByteArray) → (ByteArray) → Option R) → Option R
noncomputable def names_Split_T (N : Nat) (c0 : strings_Cut_Ty) (c1 : names_May_Ty) {R : Type} (x0 : ByteArray) (k0 : (ByteArray) → (ByteArray) → Option R) : Option R :=
  c1 x0
  (fun b61 => br (!b61)
   (k0 (bs []) (bs []))
   (c0 x0 (bs [47])
    (fun s62 s63 b64 => br (!b64)
     (k0 (bs []) s62)
     (k0 s62 s63))))
noncomputable def names_Split (N : Nat) {R : Type} (x0 : ByteArray) (k0 : (ByteArray) → (ByteArray) → Option R) : Option R := names_Split_T N (@strings_Cut N) (@names_May N) x0 k0
abbrev tree_of_Ty : Type 1 := {R : Type} → (ByteArray) → ((ByteArray) → (ByteArray) → Option R) → Option R
noncomputable def tree_of_T (N : Nat) (c0 : names_Split_Ty) {R : Type} (x0 : ByteArray) (k0 : (ByteArray) → (ByteArray) → Option R) : Option R :=
  c0 x0
  (fun s65 s66 => k0 s65 s66)
noncomputable def tree_of (N : Nat) {R : Type} (x0 : ByteArray) (k0 : (ByteArray) → (ByteArray) → Option R) : Option R := tree_of_T N (@names_Split N) x0 k0
abbrev tree_Tree_above_2de7_Ty : Type 1 := {R : Type} → (ByteArray) → (ByteArray) → (Int) → (List (((ByteArray) × (ByteArray)) × ((Int) × (Bool)))) → ((Int) → (Int) → (List (((ByteArray) × (ByteArray)) × ((Int) × (Bool)))) → Option R) → Option R
noncomputable def tree_Tree_above_2de7_T (N : Nat) {R : Type} (x0 : ByteArray) (x1 : ByteArray) (x2 : Int) (x3 : List (((ByteArray) × (ByteArray)) × ((Int) × (Bool)))) (k0 : (Int) → (Int) → (List (((ByteArray) × (ByteArray)) × ((Int) × (Bool)))) → Option R) : Option R :=
  br (decide (x1 = (bs [])))
  (k0 (65282 : Int) x2 x3)
  (br (decide (x0 = (bs [])))
   (k0 (0 : Int) x2 x3)
   (br ((Option.isSome (mfind (.pair .str .str) (.pair (.int .i64) .bool) x3 ((bs []) , x0))) == (Option.isSome (mfind (.pair .str .str) (.pair (.int .i64) .bool) x3 ((bs []) , x0))))
    (br (!(Option.isSome (mfind (.pair .str .str) (.pair (.int .i64) .bool) x3 ((bs []) , x0))))
     (k0 (65282 : Int) x2 x3)
     (br (!(Option.getD (mfind (.pair .str .str) (.pair (.int .i64) .bool) x3 ((bs []) , x0)) ((0 : Int) , false)).2)
      (k0 (65300 : Int) x2 x3)
      (k0 (0 : Int) x2 x3)))
    (none)))
noncomputable def tree_Tree_above_2de7 (N : Nat) {R : Type} (x0 : ByteArray) (x1 : ByteArray) (x2 : Int) (x3 : List (((ByteArray) × (ByteArray)) × ((Int) × (Bool)))) (k0 : (Int) → (Int) → (List (((ByteArray) × (ByteArray)) × ((Int) × (Bool)))) → Option R) : Option R := tree_Tree_above_2de7_T N x0 x1 x2 x3 k0
abbrev tree_Tree_Make_c502_Ty : Type 1 := {R : Type} → (ByteArray) → (Bool) → (Int) → (List (((ByteArray) × (ByteArray)) × ((Int) × (Bool)))) → ((Int) → (Int) → (Int) → (List (((ByteArray) × (ByteArray)) × ((Int) × (Bool)))) → Option R) → Option R
noncomputable def tree_Tree_Make_c502_T (N : Nat) (c0 : tree_Tree_above_2de7_Ty) (c1 : tree_of_Ty) {R : Type} (x0 : ByteArray) (x1 : Bool) (x2 : Int) (x3 : List (((ByteArray) × (ByteArray)) × ((Int) × (Bool)))) (k0 : (Int) → (Int) → (Int) → (List (((ByteArray) × (ByteArray)) × ((Int) × (Bool)))) → Option R) : Option R :=
  c1 x0
  (fun s67 s68 => c0 s67 s68 x2 x3
   (fun i69 i70 l71 => br (!(decide (i69 = (0 : Int))))
    (k0 (-1 : Int) i69 i70 l71)
    (br ((Option.isSome (mfind (.pair .str .str) (.pair (.int .i64) .bool) l71 (s67 , s68))) == (Option.isSome (mfind (.pair .str .str) (.pair (.int .i64) .bool) l71 (s67 , s68))))
     (br (Option.isSome (mfind (.pair .str .str) (.pair (.int .i64) .bool) l71 (s67 , s68)))
      (k0 (-1 : Int) (65297 : Int) i70 l71)
      (br x1
       (br (!(decide (s67 = (bs []))))
        (k0 (-1 : Int) (65302 : Int) i70 l71)
        (br (decide ((8 : Int) ≤ (Nat.cast (List.length l71) : Int)))
         (k0 (-1 : Int) (65308 : Int) i70 l71)
         (k0 (IntKind.wrap .i64 ((IntKind.wrap .i64 (i70 + (1 : Int))) - (1 : Int))) (0 : Int) (IntKind.wrap .i64 (i70 + (1 : Int))) (mput (.pair .str .str) (.pair (.int .i64) .bool) l71 (s67 , s68) (i70 , x1)))))
       (br (decide ((8 : Int) ≤ (Nat.cast (List.length l71) : Int)))
        (k0 (-1 : Int) (65308 : Int) i70 l71)
        (k0 (IntKind.wrap .i64 ((IntKind.wrap .i64 (i70 + (1 : Int))) - (1 : Int))) (0 : Int) (IntKind.wrap .i64 (i70 + (1 : Int))) (mput (.pair .str .str) (.pair (.int .i64) .bool) l71 (s67 , s68) (i70 , x1))))))
     (none))))
noncomputable def tree_Tree_Make_c502 (N : Nat) {R : Type} (x0 : ByteArray) (x1 : Bool) (x2 : Int) (x3 : List (((ByteArray) × (ByteArray)) × ((Int) × (Bool)))) (k0 : (Int) → (Int) → (Int) → (List (((ByteArray) × (ByteArray)) × ((Int) × (Bool)))) → Option R) : Option R := tree_Tree_Make_c502_T N (@tree_Tree_above_2de7 N) (@tree_of N) x0 x1 x2 x3 k0
abbrev tree_Tree_Make_Ty : Type 1 := {R : Type} → (ByteArray) → (Bool) → ((Int) → (Int) → Option R) → Option R
noncomputable def tree_Tree_Make_T (N : Nat) (c0 : tree_Tree_above_2de7_Ty) (c1 : tree_of_Ty) {R : Type} (x0 : ByteArray) (x1 : Bool) (k0 : (Int) → (Int) → Option R) : Option R :=
  k0 (0 : Int) (0 : Int)
noncomputable def tree_Tree_Make (N : Nat) {R : Type} (x0 : ByteArray) (x1 : Bool) (k0 : (Int) → (Int) → Option R) : Option R := tree_Tree_Make_T N (@tree_Tree_above_2de7 N) (@tree_of N) x0 x1 k0
abbrev tree_New_644a_l0_Ty : Type 1 := {R : Type} → ((Int) → (List ((ByteArray) × ((Bool) × (Int)))) → (Int) → (List (((ByteArray) × (ByteArray)) × ((Int) × (Bool)))) → Option R) → ((List ((ByteArray) × ((Bool) × (Int)))) → (Int) → (List (((ByteArray) × (ByteArray)) × ((Int) × (Bool)))) → Option R) → Nat → (Int) → (Int) → (List ((ByteArray) × ((Bool) × (Int)))) → (Int) → (List (((ByteArray) × (ByteArray)) × ((Int) × (Bool)))) → Option R
abbrev tree_New_644a_Ty : Type 1 := {R : Type} → (List ((ByteArray) × ((Bool) × (Int)))) → ((Int) → (List ((ByteArray) × ((Bool) × (Int)))) → Option R) → ((Int) → (List ((ByteArray) × ((Bool) × (Int)))) → (Int) → (List (((ByteArray) × (ByteArray)) × ((Int) × (Bool)))) → Option R) → Option R
noncomputable def tree_New_644a_l0_T0 (N : Nat) (c0 : tree_Tree_Make_c502_Ty) (c1 : tree_Tree_Make_Ty) (c2 : names_May_Ty) {R : Type} (nx : (Int) → (Int) → (List ((ByteArray) × ((Bool) × (Int)))) → (Int) → (List (((ByteArray) × (ByteArray)) × ((Int) × (Bool)))) → Option R) (k0 : (Int) → (List ((ByteArray) × ((Bool) × (Int)))) → (Int) → (List (((ByteArray) × (ByteArray)) × ((Int) × (Bool)))) → Option R) (k1 : (List ((ByteArray) × ((Bool) × (Int)))) → (Int) → (List (((ByteArray) × (ByteArray)) × ((Int) × (Bool)))) → Option R) (x0 : Int) (x1 : Int) (x2 : List ((ByteArray) × ((Bool) × (Int)))) (x3 : Int) (x4 : List (((ByteArray) × (ByteArray)) × ((Int) × (Bool)))) : Option R :=
  br (decide (x1 < x0))
  (br (inB x1 (List.length x2))
   (br (decide ((Int.toNat x1) < (List.length x2)))
    (c2 (List.getD x2 (Int.toNat x1) ((bs []) , (false , (0 : Int)))).1
     (fun b60 => br (!b60)
      (k0 (11 : Int) x2 x3 x4)
      (c0 (List.getD x2 (Int.toNat x1) ((bs []) , (false , (0 : Int)))).1 (List.getD x2 (Int.toNat x1) ((bs []) , (false , (0 : Int)))).2.1 x3 x4
       (fun i72 i73 i74 l75 => br (!(decide (i73 = (0 : Int))))
        (k0 (11 : Int) x2 i74 l75)
        (nx x0 (IntKind.wrap .i64 (x1 + (1 : Int))) x2 i74 l75)))))
    (none))
   (none))
  (k1 x2 x3 x4)
noncomputable def tree_New_644a_l0 (N : Nat) {R : Type} (k0 : (Int) → (List ((ByteArray) × ((Bool) × (Int)))) → (Int) → (List (((ByteArray) × (ByteArray)) × ((Int) × (Bool)))) → Option R) (k1 : (List ((ByteArray) × ((Bool) × (Int)))) → (Int) → (List (((ByteArray) × (ByteArray)) × ((Int) × (Bool)))) → Option R) : Nat → (Int) → (Int) → (List ((ByteArray) × ((Bool) × (Int)))) → (Int) → (List (((ByteArray) × (ByteArray)) × ((Int) × (Bool)))) → Option R
  | 0, _, _, _, _, _ => none
  | n + 1, x0, x1, x2, x3, x4 => tree_New_644a_l0_T0 N (@tree_Tree_Make_c502 N) (@tree_Tree_Make N) (@names_May N) (fun x0 x1 x2 x3 x4 => tree_New_644a_l0 N k0 k1 n x0 x1 x2 x3 x4) k0 k1 x0 x1 x2 x3 x4
noncomputable def tree_New_644a_T (N : Nat) (c0 : tree_Tree_Make_c502_Ty) (c1 : tree_Tree_Make_Ty) (c2 : names_May_Ty) (w0 : tree_New_644a_l0_Ty) {R : Type} (x0 : List ((ByteArray) × ((Bool) × (Int)))) (k0 : (Int) → (List ((ByteArray) × ((Bool) × (Int)))) → Option R) (k1 : (Int) → (List ((ByteArray) × ((Bool) × (Int)))) → (Int) → (List (((ByteArray) × (ByteArray)) × ((Int) × (Bool)))) → Option R) : Option R :=
  br (decide ((8 : Int) < (Nat.cast (List.length x0) : Int)))
  (k0 (11 : Int) x0)
  (w0
   (fun i76 l77 i78 l79 => k0 i76 l77)
   (fun l80 i81 l82 => k1 (0 : Int) l80 i81 l82)
   N (Nat.cast (List.length x0) : Int) (0 : Int) x0 (0 : Int) ([] : List (((Sh.str.pair Sh.str).T) × (((Sh.int IntKind.i64).pair Sh.bool).T))))
noncomputable def tree_New_644a (N : Nat) {R : Type} (x0 : List ((ByteArray) × ((Bool) × (Int)))) (k0 : (Int) → (List ((ByteArray) × ((Bool) × (Int)))) → Option R) (k1 : (Int) → (List ((ByteArray) × ((Bool) × (Int)))) → (Int) → (List (((ByteArray) × (ByteArray)) × ((Int) × (Bool)))) → Option R) : Option R := tree_New_644a_T N (@tree_Tree_Make_c502 N) (@tree_Tree_Make N) (@names_May N) (@tree_New_644a_l0 N) x0 k0 k1
abbrev tree_New_91b4_l0_Ty : Type 1 := {R : Type} → ((Int) → (Nat) → (List ((ByteArray) × ((Bool) × (Int)))) → (Int) → (List (((ByteArray) × (ByteArray)) × ((Int) × (Bool)))) → Option R) → ((Nat) → (List ((ByteArray) × ((Bool) × (Int)))) → (Int) → (List (((ByteArray) × (ByteArray)) × ((Int) × (Bool)))) → Option R) → Nat → (Nat) → (Nat) → (Int) → (Int) → (Nat) → (List ((ByteArray) × ((Bool) × (Int)))) → (Int) → (List (((ByteArray) × (ByteArray)) × ((Int) × (Bool)))) → Option R
abbrev tree_New_91b4_Ty : Type 1 := {R : Type} → (Nat) → (Nat) → (Nat) → (List ((ByteArray) × ((Bool) × (Int)))) → ((Int) → (Nat) → (List ((ByteArray) × ((Bool) × (Int)))) → Option R) → ((Int) → (Nat) → (List ((ByteArray) × ((Bool) × (Int)))) → (Int) → (List (((ByteArray) × (ByteArray)) × ((Int) × (Bool)))) → Option R) → Option R
noncomputable def tree_New_91b4_l0_T0 (N : Nat) (c0 : tree_Tree_Make_c502_Ty) (c1 : tree_Tree_Make_Ty) (c2 : names_May_Ty) {R : Type} (nx : (Nat) → (Nat) → (Int) → (Int) → (Nat) → (List ((ByteArray) × ((Bool) × (Int)))) → (Int) → (List (((ByteArray) × (ByteArray)) × ((Int) × (Bool)))) → Option R) (k0 : (Int) → (Nat) → (List ((ByteArray) × ((Bool) × (Int)))) → (Int) → (List (((ByteArray) × (ByteArray)) × ((Int) × (Bool)))) → Option R) (k1 : (Nat) → (List ((ByteArray) × ((Bool) × (Int)))) → (Int) → (List (((ByteArray) × (ByteArray)) × ((Int) × (Bool)))) → Option R) (x0 : Nat) (x1 : Nat) (x2 : Int) (x3 : Int) (x4 : Nat) (x5 : List ((ByteArray) × ((Bool) × (Int)))) (x6 : Int) (x7 : List (((ByteArray) × (ByteArray)) × ((Int) × (Bool)))) : Option R :=
  br (decide (x3 < x2))
  (br (inB x3 x0)
   (br (decide ((Int.toNat x3) < x4))
    (c2 (List.getD x5 (Int.toNat x3) ((bs []) , (false , (0 : Int)))).1
     (fun b652 => br (!b652)
      (k0 (11 : Int) x4 x5 x6 x7)
      (c0 (List.getD x5 (Int.toNat x3) ((bs []) , (false , (0 : Int)))).1 (List.getD x5 (Int.toNat x3) ((bs []) , (false , (0 : Int)))).2.1 x6 x7
       (fun i653 i654 i655 l656 => br (!(decide (i654 = (0 : Int))))
        (k0 (11 : Int) x4 x5 i655 l656)
        (nx x0 x1 x2 (IntKind.wrap .i64 (x3 + (1 : Int))) x4 x5 i655 l656)))))
    (none))
   (none))
  (k1 x4 x5 x6 x7)
noncomputable def tree_New_91b4_l0 (N : Nat) {R : Type} (k0 : (Int) → (Nat) → (List ((ByteArray) × ((Bool) × (Int)))) → (Int) → (List (((ByteArray) × (ByteArray)) × ((Int) × (Bool)))) → Option R) (k1 : (Nat) → (List ((ByteArray) × ((Bool) × (Int)))) → (Int) → (List (((ByteArray) × (ByteArray)) × ((Int) × (Bool)))) → Option R) : Nat → (Nat) → (Nat) → (Int) → (Int) → (Nat) → (List ((ByteArray) × ((Bool) × (Int)))) → (Int) → (List (((ByteArray) × (ByteArray)) × ((Int) × (Bool)))) → Option R
  | 0, _, _, _, _, _, _, _, _ => none
  | n + 1, x0, x1, x2, x3, x4, x5, x6, x7 => tree_New_91b4_l0_T0 N (@tree_Tree_Make_c502 N) (@tree_Tree_Make N) (@names_May N) (fun x0 x1 x2 x3 x4 x5 x6 x7 => tree_New_91b4_l0 N k0 k1 n x0 x1 x2 x3 x4 x5 x6 x7) k0 k1 x0 x1 x2 x3 x4 x5 x6 x7
noncomputable def tree_New_91b4_T (N : Nat) (c0 : tree_Tree_Make_c502_Ty) (c1 : tree_Tree_Make_Ty) (c2 : names_May_Ty) (w0 : tree_New_91b4_l0_Ty) {R : Type} (x0 : Nat) (x1 : Nat) (x2 : Nat) (x3 : List ((ByteArray) × ((Bool) × (Int)))) (k0 : (Int) → (Nat) → (List ((ByteArray) × ((Bool) × (Int)))) → Option R) (k1 : (Int) → (Nat) → (List ((ByteArray) × ((Bool) × (Int)))) → (Int) → (List (((ByteArray) × (ByteArray)) × ((Int) × (Bool)))) → Option R) : Option R :=
  br (decide ((8 : Int) < (Nat.cast x0 : Int)))
  (k0 (11 : Int) x2 x3)
  (w0
   (fun i657 n658 l659 i660 l661 => k0 i657 n658 l659)
   (fun n662 l663 i664 l665 => k1 (0 : Int) n662 l663 i664 l665)
   N x0 x1 (Nat.cast x0 : Int) (0 : Int) x2 x3 (0 : Int) ([] : List (((Sh.str.pair Sh.str).T) × (((Sh.int IntKind.i64).pair Sh.bool).T))))
noncomputable def tree_New_91b4 (N : Nat) {R : Type} (x0 : Nat) (x1 : Nat) (x2 : Nat) (x3 : List ((ByteArray) × ((Bool) × (Int)))) (k0 : (Int) → (Nat) → (List ((ByteArray) × ((Bool) × (Int)))) → Option R) (k1 : (Int) → (Nat) → (List ((ByteArray) × ((Bool) × (Int)))) → (Int) → (List (((ByteArray) × (ByteArray)) × ((Int) × (Bool)))) → Option R) : Option R := tree_New_91b4_T N (@tree_Tree_Make_c502 N) (@tree_Tree_Make N) (@names_May N) (@tree_New_91b4_l0 N) x0 x1 x2 x3 k0 k1
abbrev slices_Clone__term_T_term_T_Ty : Type 1 := {R : Type} → (List (Int)) → ((List (Int)) → Option R) → Option R
noncomputable def slices_Clone__term_T_term_T {R : Type} (x0 : List (Int)) (k0 : (List (Int)) → Option R) : Option R := br ((decide (((0 : Nat) + (List.length x0)) * (8 : Nat) ≤ (70368744177664 : Nat))) && true) (k0 x0) (none)
inductive ghost_New_669c_S0 where
  | v0 (x0 : Int) (x1 : Int) (x2 : List ((ByteArray) × ((Bool) × (Int)))) (x3 : List (List (Int))) (x4 : List (Int)) (x5 : Int) (x6 : List ((Int) × (List (Int)))) (x7 : List ((Int) × (Int)))
  | v1 (x0 : Nat) (x1 : Nat) (x2 : Int) (x3 : Int) (x4 : List ((ByteArray) × ((Bool) × (Int)))) (x5 : List (List (Int))) (x6 : List (Int)) (x7 : Int) (x8 : List ((Int) × (List (Int)))) (x9 : List ((Int) × (Int)))
  | v2 (x0 : Int) (x1 : Int) (x2 : List ((ByteArray) × ((Bool) × (Int)))) (x3 : List (List (Int))) (x4 : List (Int)) (x5 : Int) (x6 : Int) (x7 : List (((ByteArray) × (ByteArray)) × ((Int) × (Bool)))) (x8 : List ((Int) × (List (Int)))) (x9 : List ((Int) × (Int)))
  | v3 (x0 : Nat) (x1 : Nat) (x2 : Int) (x3 : Int) (x4 : List ((ByteArray) × ((Bool) × (Int)))) (x5 : List (List (Int))) (x6 : List (Int)) (x7 : Int) (x8 : Int) (x9 : List (((ByteArray) × (ByteArray)) × ((Int) × (Bool)))) (x10 : List ((Int) × (List (Int)))) (x11 : List ((Int) × (Int)))
abbrev ghost_New_669c_l0_Ty : Type 1 := {R : Type} → ((Int) → (List ((ByteArray) × ((Bool) × (Int)))) → (List (List (Int))) → (List (Int)) → (Int) → (List ((Int) × (List (Int)))) → (List ((Int) × (Int))) → Option R) → ((List ((ByteArray) × ((Bool) × (Int)))) → (List (List (Int))) → (List (Int)) → (Int) → (List ((Int) × (List (Int)))) → (List ((Int) × (Int))) → Option R) → ((Nat) → (Nat) → (Int) → (List ((ByteArray) × ((Bool) × (Int)))) → (List (List (Int))) → (List (Int)) → (Int) → (List ((Int) × (List (Int)))) → (List ((Int) × (Int))) → Option R) → ((Nat) → (Nat) → (List ((ByteArray) × ((Bool) × (Int)))) → (List (List (Int))) → (List (Int)) → (Int) → (List ((Int) × (List (Int)))) → (List ((Int) × (Int))) → Option R) → ((Int) → (List ((ByteArray) × ((Bool) × (Int)))) → (List (List (Int))) → (List (Int)) → (Int) → (Int) → (List (((ByteArray) × (ByteArray)) × ((Int) × (Bool)))) → (List ((Int) × (List (Int)))) → (List ((Int) × (Int))) → Option R) → ((List ((ByteArray) × ((Bool) × (Int)))) → (List (List (Int))) → (List (Int)) → (Int) → (Int) → (List (((ByteArray) × (ByteArray)) × ((Int) × (Bool)))) → (List ((Int) × (List (Int)))) → (List ((Int) × (Int))) → Option R) → ((Nat) → (Nat) → (Int) → (List ((ByteArray) × ((Bool) × (Int)))) → (List (List (Int))) → (List (Int)) → (Int) → (Int) → (List (((ByteArray) × (ByteArray)) × ((Int) × (Bool)))) → (List ((Int) × (List (Int)))) → (List ((Int) × (Int))) → Option R) → ((Nat) → (Nat) → (List ((ByteArray) × ((Bool) × (Int)))) → (List (List (Int))) → (List (Int)) → (Int) → (Int) → (List (((ByteArray) × (ByteArray)) × ((Int) × (Bool)))) → (List ((Int) × (List (Int)))) → (List ((Int) × (Int))) → Option R) → Nat → ghost_New_669c_S0 → Option R
abbrev ghost_New_669c_Ty : Type 1 := {R : Type} → (Int) → (List ((ByteArray) × ((Bool) × (Int)))) → (List (List (Int))) → ((Int) → (List ((ByteArray) × ((Bool) × (Int)))) → (List (List (Int))) → Option R) → ((Int) → (List ((ByteArray) × ((Bool) × (Int)))) → (List (List (Int))) → (List (Int)) → (Int) → (List ((Int) × (List (Int)))) → (List ((Int) × (Int))) → Option R) → ((Int) → (List ((ByteArray) × ((Bool) × (Int)))) → (List (List (Int))) → (List (Int)) → (Int) → (Int) → (List (((ByteArray) × (ByteArray)) × ((Int) × (Bool)))) → (List ((Int) × (List (Int)))) → (List ((Int) × (Int))) → Option R) → Option R
noncomputable def ghost_New_669c_l0_T0 (N : Nat) (c0 : slices_Clone__term_T_term_T_Ty) (c1 : tree_New_644a_Ty) (c2 : tree_New_91b4_Ty) {R : Type} (nx : ghost_New_669c_S0 → Option R) (k0 : (Int) → (List ((ByteArray) × ((Bool) × (Int)))) → (List (List (Int))) → (List (Int)) → (Int) → (List ((Int) × (List (Int)))) → (List ((Int) × (Int))) → Option R) (k1 : (List ((ByteArray) × ((Bool) × (Int)))) → (List (List (Int))) → (List (Int)) → (Int) → (List ((Int) × (List (Int)))) → (List ((Int) × (Int))) → Option R) (k2 : (Nat) → (Nat) → (Int) → (List ((ByteArray) × ((Bool) × (Int)))) → (List (List (Int))) → (List (Int)) → (Int) → (List ((Int) × (List (Int)))) → (List ((Int) × (Int))) → Option R) (k3 : (Nat) → (Nat) → (List ((ByteArray) × ((Bool) × (Int)))) → (List (List (Int))) → (List (Int)) → (Int) → (List ((Int) × (List (Int)))) → (List ((Int) × (Int))) → Option R) (k4 : (Int) → (List ((ByteArray) × ((Bool) × (Int)))) → (List (List (Int))) → (List (Int)) → (Int) → (Int) → (List (((ByteArray) × (ByteArray)) × ((Int) × (Bool)))) → (List ((Int) × (List (Int)))) → (List ((Int) × (Int))) → Option R) (k5 : (List ((ByteArray) × ((Bool) × (Int)))) → (List (List (Int))) → (List (Int)) → (Int) → (Int) → (List (((ByteArray) × (ByteArray)) × ((Int) × (Bool)))) → (List ((Int) × (List (Int)))) → (List ((Int) × (Int))) → Option R) (k6 : (Nat) → (Nat) → (Int) → (List ((ByteArray) × ((Bool) × (Int)))) → (List (List (Int))) → (List (Int)) → (Int) → (Int) → (List (((ByteArray) × (ByteArray)) × ((Int) × (Bool)))) → (List ((Int) × (List (Int)))) → (List ((Int) × (Int))) → Option R) (k7 : (Nat) → (Nat) → (List ((ByteArray) × ((Bool) × (Int)))) → (List (List (Int))) → (List (Int)) → (Int) → (Int) → (List (((ByteArray) × (ByteArray)) × ((Int) × (Bool)))) → (List ((Int) × (List (Int)))) → (List ((Int) × (Int))) → Option R) (x0 : Int) (x1 : Int) (x2 : List ((ByteArray) × ((Bool) × (Int)))) (x3 : List (List (Int))) (x4 : List (Int)) (x5 : Int) (x6 : List ((Int) × (List (Int)))) (x7 : List ((Int) × (Int))) : Option R :=
  br (decide (x1 < x0))
  (br (inB x1 (List.length x2))
   (br (decide ((Int.toNat x1) < (List.length x2)))
    (br (List.getD x2 (Int.toNat x1) ((bs []) , (false , (0 : Int)))).2.1
     (nx (.v0 x0 (IntKind.wrap .i64 (x1 + (1 : Int))) x2 x3 x4 x5 x6 x7))
     (br (!(decide ((Nat.cast (List.length x3) : Int) = (0 : Int))))
      (br (inB (0 : Int) (List.length x3))
       (br (decide ((0 : Nat) < (List.length x3)))
        (br (decide ((8 : Int) < (Nat.cast (List.length (List.getD x3 (0 : Nat) (Sh.zero (.isl (.int .i64))))) : Int)))
         (k0 (12 : Int) x2 x3 x4 x5 x6 x7)
         (br (inB (0 : Int) (List.length x3))
          (br (decide ((0 : Nat) < (List.length x3)))
           (c0 (List.getD x3 (0 : Nat) (Sh.zero (.isl (.int .i64))))
            (fun l193 => br (decide (x1 = x1))
             (br (fits (0 : Nat) (List.length l193) l193)
              (br (leB (1 : Int) (List.length x3))
               (nx (.v1 (1 : Nat) ((List.length x3) - (1 : Nat)) x0 (IntKind.wrap .i64 (x1 + (1 : Int))) x2 x3 x4 x5 (mput (.int .i64) (.isl (.int .i64)) x6 x1 (sub l193 (0 : Nat) (List.length l193))) x7))
               (none))
              (none))
             (none)))
           (none))
          (none)))
        (none))
       (none))
      (k0 (12 : Int) x2 x3 x4 x5 x6 x7)))
    (none))
   (none))
  (k1 x2 x3 x4 x5 x6 x7)
noncomputable def ghost_New_669c_l0_T1 (N : Nat) (c0 : slices_Clone__term_T_term_T_Ty) (c1 : tree_New_644a_Ty) (c2 : tree_New_91b4_Ty) {R : Type} (nx : ghost_New_669c_S0 → Option R) (k0 : (Int) → (List ((ByteArray) × ((Bool) × (Int)))) → (List (List (Int))) → (List (Int)) → (Int) → (List ((Int) × (List (Int)))) → (List ((Int) × (Int))) → Option R) (k1 : (List ((ByteArray) × ((Bool) × (Int)))) → (List (List (Int))) → (List (Int)) → (Int) → (List ((Int) × (List (Int)))) → (List ((Int) × (Int))) → Option R) (k2 : (Nat) → (Nat) → (Int) → (List ((ByteArray) × ((Bool) × (Int)))) → (List (List (Int))) → (List (Int)) → (Int) → (List ((Int) × (List (Int)))) → (List ((Int) × (Int))) → Option R) (k3 : (Nat) → (Nat) → (List ((ByteArray) × ((Bool) × (Int)))) → (List (List (Int))) → (List (Int)) → (Int) → (List ((Int) × (List (Int)))) → (List ((Int) × (Int))) → Option R) (k4 : (Int) → (List ((ByteArray) × ((Bool) × (Int)))) → (List (List (Int))) → (List (Int)) → (Int) → (Int) → (List (((ByteArray) × (ByteArray)) × ((Int) × (Bool)))) → (List ((Int) × (List (Int)))) → (List ((Int) × (Int))) → Option R) (k5 : (List ((ByteArray) × ((Bool) × (Int)))) → (List (List (Int))) → (List (Int)) → (Int) → (Int) → (List (((ByteArray) × (ByteArray)) × ((Int) × (Bool)))) → (List ((Int) × (List (Int)))) → (List ((Int) × (Int))) → Option R) (k6 : (Nat) → (Nat) → (Int) → (List ((ByteArray) × ((Bool) × (Int)))) → (List (List (Int))) → (List (Int)) → (Int) → (Int) → (List (((ByteArray) × (ByteArray)) × ((Int) × (Bool)))) → (List ((Int) × (List (Int)))) → (List ((Int) × (Int))) → Option R) (k7 : (Nat) → (Nat) → (List ((ByteArray) × ((Bool) × (Int)))) → (List (List (Int))) → (List (Int)) → (Int) → (Int) → (List (((ByteArray) × (ByteArray)) × ((Int) × (Bool)))) → (List ((Int) × (List (Int)))) → (List ((Int) × (Int))) → Option R) (x0 : Nat) (x1 : Nat) (x2 : Int) (x3 : Int) (x4 : List ((ByteArray) × ((Bool) × (Int)))) (x5 : List (List (Int))) (x6 : List (Int)) (x7 : Int) (x8 : List ((Int) × (List (Int)))) (x9 : List ((Int) × (Int))) : Option R :=
  br (decide (x3 < x2))
  (br (inB x3 (List.length x4))
   (br (decide ((Int.toNat x3) < (List.length x4)))
    (br (List.getD x4 (Int.toNat x3) ((bs []) , (false , (0 : Int)))).2.1
     (nx (.v1 x0 x1 x2 (IntKind.wrap .i64 (x3 + (1 : Int))) x4 x5 x6 x7 x8 x9))
     (br (!(decide ((Nat.cast x1 : Int) = (0 : Int))))
      (br (inB (0 : Int) x1)
       (br (decide ((Int.toNat (addLo x0 (0 : Int))) < (List.length x5)))
        (br (decide ((8 : Int) < (Nat.cast (List.length (List.getD x5 (Int.toNat (addLo x0 (0 : Int))) (Sh.zero (.isl (.int .i64))))) : Int)))
         (k2 x0 x1 (12 : Int) x4 x5 x6 x7 x8 x9)
         (br (inB (0 : Int) x1)
          (br (decide ((Int.toNat (addLo x0 (0 : Int))) < (List.length x5)))
           (c0 (List.getD x5 (Int.toNat (addLo x0 (0 : Int))) (Sh.zero (.isl (.int .i64))))
            (fun l194 => br (decide (x3 = x3))
             (br (fits (0 : Nat) (List.length l194) l194)
              (br (leB (1 : Int) x1)
               (nx (.v1 (addN x0 (1 : Nat)) (x1 - (1 : Nat)) x2 (IntKind.wrap .i64 (x3 + (1 : Int))) x4 x5 x6 x7 (mput (.int .i64) (.isl (.int .i64)) x8 x3 (sub l194 (0 : Nat) (List.length l194))) x9))
               (none))
              (none))
             (none)))
           (none))
          (none)))
        (none))
       (none))
      (k2 x0 x1 (12 : Int) x4 x5 x6 x7 x8 x9)))
    (none))
   (none))
  (k3 x0 x1 x4 x5 x6 x7 x8 x9)
noncomputable def ghost_New_669c_l0_T2 (N : Nat) (c0 : slices_Clone__term_T_term_T_Ty) (c1 : tree_New_644a_Ty) (c2 : tree_New_91b4_Ty) {R : Type} (nx : ghost_New_669c_S0 → Option R) (k0 : (Int) → (List ((ByteArray) × ((Bool) × (Int)))) → (List (List (Int))) → (List (Int)) → (Int) → (List ((Int) × (List (Int)))) → (List ((Int) × (Int))) → Option R) (k1 : (List ((ByteArray) × ((Bool) × (Int)))) → (List (List (Int))) → (List (Int)) → (Int) → (List ((Int) × (List (Int)))) → (List ((Int) × (Int))) → Option R) (k2 : (Nat) → (Nat) → (Int) → (List ((ByteArray) × ((Bool) × (Int)))) → (List (List (Int))) → (List (Int)) → (Int) → (List ((Int) × (List (Int)))) → (List ((Int) × (Int))) → Option R) (k3 : (Nat) → (Nat) → (List ((ByteArray) × ((Bool) × (Int)))) → (List (List (Int))) → (List (Int)) → (Int) → (List ((Int) × (List (Int)))) → (List ((Int) × (Int))) → Option R) (k4 : (Int) → (List ((ByteArray) × ((Bool) × (Int)))) → (List (List (Int))) → (List (Int)) → (Int) → (Int) → (List (((ByteArray) × (ByteArray)) × ((Int) × (Bool)))) → (List ((Int) × (List (Int)))) → (List ((Int) × (Int))) → Option R) (k5 : (List ((ByteArray) × ((Bool) × (Int)))) → (List (List (Int))) → (List (Int)) → (Int) → (Int) → (List (((ByteArray) × (ByteArray)) × ((Int) × (Bool)))) → (List ((Int) × (List (Int)))) → (List ((Int) × (Int))) → Option R) (k6 : (Nat) → (Nat) → (Int) → (List ((ByteArray) × ((Bool) × (Int)))) → (List (List (Int))) → (List (Int)) → (Int) → (Int) → (List (((ByteArray) × (ByteArray)) × ((Int) × (Bool)))) → (List ((Int) × (List (Int)))) → (List ((Int) × (Int))) → Option R) (k7 : (Nat) → (Nat) → (List ((ByteArray) × ((Bool) × (Int)))) → (List (List (Int))) → (List (Int)) → (Int) → (Int) → (List (((ByteArray) × (ByteArray)) × ((Int) × (Bool)))) → (List ((Int) × (List (Int)))) → (List ((Int) × (Int))) → Option R) (x0 : Int) (x1 : Int) (x2 : List ((ByteArray) × ((Bool) × (Int)))) (x3 : List (List (Int))) (x4 : List (Int)) (x5 : Int) (x6 : Int) (x7 : List (((ByteArray) × (ByteArray)) × ((Int) × (Bool)))) (x8 : List ((Int) × (List (Int)))) (x9 : List ((Int) × (Int))) : Option R :=
  br (decide (x1 < x0))
  (br (inB x1 (List.length x2))
   (br (decide ((Int.toNat x1) < (List.length x2)))
    (br (List.getD x2 (Int.toNat x1) ((bs []) , (false , (0 : Int)))).2.1
     (nx (.v2 x0 (IntKind.wrap .i64 (x1 + (1 : Int))) x2 x3 x4 x5 x6 x7 x8 x9))
     (br (!(decide ((Nat.cast (List.length x3) : Int) = (0 : Int))))
      (br (inB (0 : Int) (List.length x3))
       (br (decide ((0 : Nat) < (List.length x3)))
        (br (decide ((8 : Int) < (Nat.cast (List.length (List.getD x3 (0 : Nat) (Sh.zero (.isl (.int .i64))))) : Int)))
         (k4 (12 : Int) x2 x3 x4 x5 x6 x7 x8 x9)
         (br (inB (0 : Int) (List.length x3))
          (br (decide ((0 : Nat) < (List.length x3)))
           (c0 (List.getD x3 (0 : Nat) (Sh.zero (.isl (.int .i64))))
            (fun l195 => br (decide (x1 = x1))
             (br (fits (0 : Nat) (List.length l195) l195)
              (br (leB (1 : Int) (List.length x3))
               (nx (.v3 (1 : Nat) ((List.length x3) - (1 : Nat)) x0 (IntKind.wrap .i64 (x1 + (1 : Int))) x2 x3 x4 x5 x6 x7 (mput (.int .i64) (.isl (.int .i64)) x8 x1 (sub l195 (0 : Nat) (List.length l195))) x9))
               (none))
              (none))
             (none)))
           (none))
          (none)))
        (none))
       (none))
      (k4 (12 : Int) x2 x3 x4 x5 x6 x7 x8 x9)))
    (none))
   (none))
  (k5 x2 x3 x4 x5 x6 x7 x8 x9)
noncomputable def ghost_New_669c_l0_T3 (N : Nat) (c0 : slices_Clone__term_T_term_T_Ty) (c1 : tree_New_644a_Ty) (c2 : tree_New_91b4_Ty) {R : Type} (nx : ghost_New_669c_S0 → Option R) (k0 : (Int) → (List ((ByteArray) × ((Bool) × (Int)))) → (List (List (Int))) → (List (Int)) → (Int) → (List ((Int) × (List (Int)))) → (List ((Int) × (Int))) → Option R) (k1 : (List ((ByteArray) × ((Bool) × (Int)))) → (List (List (Int))) → (List (Int)) → (Int) → (List ((Int) × (List (Int)))) → (List ((Int) × (Int))) → Option R) (k2 : (Nat) → (Nat) → (Int) → (List ((ByteArray) × ((Bool) × (Int)))) → (List (List (Int))) → (List (Int)) → (Int) → (List ((Int) × (List (Int)))) → (List ((Int) × (Int))) → Option R) (k3 : (Nat) → (Nat) → (List ((ByteArray) × ((Bool) × (Int)))) → (List (List (Int))) → (List (Int)) → (Int) → (List ((Int) × (List (Int)))) → (List ((Int) × (Int))) → Option R) (k4 : (Int) → (List ((ByteArray) × ((Bool) × (Int)))) → (List (List (Int))) → (List (Int)) → (Int) → (Int) → (List (((ByteArray) × (ByteArray)) × ((Int) × (Bool)))) → (List ((Int) × (List (Int)))) → (List ((Int) × (Int))) → Option R) (k5 : (List ((ByteArray) × ((Bool) × (Int)))) → (List (List (Int))) → (List (Int)) → (Int) → (Int) → (List (((ByteArray) × (ByteArray)) × ((Int) × (Bool)))) → (List ((Int) × (List (Int)))) → (List ((Int) × (Int))) → Option R) (k6 : (Nat) → (Nat) → (Int) → (List ((ByteArray) × ((Bool) × (Int)))) → (List (List (Int))) → (List (Int)) → (Int) → (Int) → (List (((ByteArray) × (ByteArray)) × ((Int) × (Bool)))) → (List ((Int) × (List (Int)))) → (List ((Int) × (Int))) → Option R) (k7 : (Nat) → (Nat) → (List ((ByteArray) × ((Bool) × (Int)))) → (List (List (Int))) → (List (Int)) → (Int) → (Int) → (List (((ByteArray) × (ByteArray)) × ((Int) × (Bool)))) → (List ((Int) × (List (Int)))) → (List ((Int) × (Int))) → Option R) (x0 : Nat) (x1 : Nat) (x2 : Int) (x3 : Int) (x4 : List ((ByteArray) × ((Bool) × (Int)))) (x5 : List (List (Int))) (x6 : List (Int)) (x7 : Int) (x8 : Int) (x9 : List (((ByteArray) × (ByteArray)) × ((Int) × (Bool)))) (x10 : List ((Int) × (List (Int)))) (x11 : List ((Int) × (Int))) : Option R :=
  br (decide (x3 < x2))
  (br (inB x3 (List.length x4))
   (br (decide ((Int.toNat x3) < (List.length x4)))
    (br (List.getD x4 (Int.toNat x3) ((bs []) , (false , (0 : Int)))).2.1
     (nx (.v3 x0 x1 x2 (IntKind.wrap .i64 (x3 + (1 : Int))) x4 x5 x6 x7 x8 x9 x10 x11))
     (br (!(decide ((Nat.cast x1 : Int) = (0 : Int))))
      (br (inB (0 : Int) x1)
       (br (decide ((Int.toNat (addLo x0 (0 : Int))) < (List.length x5)))
        (br (decide ((8 : Int) < (Nat.cast (List.length (List.getD x5 (Int.toNat (addLo x0 (0 : Int))) (Sh.zero (.isl (.int .i64))))) : Int)))
         (k6 x0 x1 (12 : Int) x4 x5 x6 x7 x8 x9 x10 x11)
         (br (inB (0 : Int) x1)
          (br (decide ((Int.toNat (addLo x0 (0 : Int))) < (List.length x5)))
           (c0 (List.getD x5 (Int.toNat (addLo x0 (0 : Int))) (Sh.zero (.isl (.int .i64))))
            (fun l196 => br (decide (x3 = x3))
             (br (fits (0 : Nat) (List.length l196) l196)
              (br (leB (1 : Int) x1)
               (nx (.v3 (addN x0 (1 : Nat)) (x1 - (1 : Nat)) x2 (IntKind.wrap .i64 (x3 + (1 : Int))) x4 x5 x6 x7 x8 x9 (mput (.int .i64) (.isl (.int .i64)) x10 x3 (sub l196 (0 : Nat) (List.length l196))) x11))
               (none))
              (none))
             (none)))
           (none))
          (none)))
        (none))
       (none))
      (k6 x0 x1 (12 : Int) x4 x5 x6 x7 x8 x9 x10 x11)))
    (none))
   (none))
  (k7 x0 x1 x4 x5 x6 x7 x8 x9 x10 x11)
noncomputable def ghost_New_669c_l0 (N : Nat) {R : Type} (k0 : (Int) → (List ((ByteArray) × ((Bool) × (Int)))) → (List (List (Int))) → (List (Int)) → (Int) → (List ((Int) × (List (Int)))) → (List ((Int) × (Int))) → Option R) (k1 : (List ((ByteArray) × ((Bool) × (Int)))) → (List (List (Int))) → (List (Int)) → (Int) → (List ((Int) × (List (Int)))) → (List ((Int) × (Int))) → Option R) (k2 : (Nat) → (Nat) → (Int) → (List ((ByteArray) × ((Bool) × (Int)))) → (List (List (Int))) → (List (Int)) → (Int) → (List ((Int) × (List (Int)))) → (List ((Int) × (Int))) → Option R) (k3 : (Nat) → (Nat) → (List ((ByteArray) × ((Bool) × (Int)))) → (List (List (Int))) → (List (Int)) → (Int) → (List ((Int) × (List (Int)))) → (List ((Int) × (Int))) → Option R) (k4 : (Int) → (List ((ByteArray) × ((Bool) × (Int)))) → (List (List (Int))) → (List (Int)) → (Int) → (Int) → (List (((ByteArray) × (ByteArray)) × ((Int) × (Bool)))) → (List ((Int) × (List (Int)))) → (List ((Int) × (Int))) → Option R) (k5 : (List ((ByteArray) × ((Bool) × (Int)))) → (List (List (Int))) → (List (Int)) → (Int) → (Int) → (List (((ByteArray) × (ByteArray)) × ((Int) × (Bool)))) → (List ((Int) × (List (Int)))) → (List ((Int) × (Int))) → Option R) (k6 : (Nat) → (Nat) → (Int) → (List ((ByteArray) × ((Bool) × (Int)))) → (List (List (Int))) → (List (Int)) → (Int) → (Int) → (List (((ByteArray) × (ByteArray)) × ((Int) × (Bool)))) → (List ((Int) × (List (Int)))) → (List ((Int) × (Int))) → Option R) (k7 : (Nat) → (Nat) → (List ((ByteArray) × ((Bool) × (Int)))) → (List (List (Int))) → (List (Int)) → (Int) → (Int) → (List (((ByteArray) × (ByteArray)) × ((Int) × (Bool)))) → (List ((Int) × (List (Int)))) → (List ((Int) × (Int))) → Option R) : Nat → ghost_New_669c_S0 → Option R
  | 0, _ => none
  | n + 1, .v0 x0 x1 x2 x3 x4 x5 x6 x7 => ghost_New_669c_l0_T0 N @slices_Clone__term_T_term_T (@tree_New_644a N) (@tree_New_91b4 N) (fun s => ghost_New_669c_l0 N k0 k1 k2 k3 k4 k5 k6 k7 n s) k0 k1 k2 k3 k4 k5 k6 k7 x0 x1 x2 x3 x4 x5 x6 x7
  | n + 1, .v1 x0 x1 x2 x3 x4 x5 x6 x7 x8 x9 => ghost_New_669c_l0_T1 N @slices_Clone__term_T_term_T (@tree_New_644a N) (@tree_New_91b4 N) (fun s => ghost_New_669c_l0 N k0 k1 k2 k3 k4 k5 k6 k7 n s) k0 k1 k2 k3 k4 k5 k6 k7 x0 x1 x2 x3 x4 x5 x6 x7 x8 x9
  | n + 1, .v2 x0 x1 x2 x3 x4 x5 x6 x7 x8 x9 => ghost_New_669c_l0_T2 N @slices_Clone__term_T_term_T (@tree_New_644a N) (@tree_New_91b4 N) (fun s => ghost_New_669c_l0 N k0 k1 k2 k3 k4 k5 k6 k7 n s) k0 k1 k2 k3 k4 k5 k6 k7 x0 x1 x2 x3 x4 x5 x6 x7 x8 x9
  | n + 1, .v3 x0 x1 x2 x3 x4 x5 x6 x7 x8 x9 x10 x11 => ghost_New_669c_l0_T3 N @slices_Clone__term_T_term_T (@tree_New_644a N) (@tree_New_91b4 N) (fun s => ghost_New_669c_l0 N k0 k1 k2 k3 k4 k5 k6 k7 n s) k0 k1 k2 k3 k4 k5 k6 k7 x0 x1 x2 x3 x4 x5 x6 x7 x8 x9 x10 x11
noncomputable def ghost_New_669c_T (N : Nat) (c0 : slices_Clone__term_T_term_T_Ty) (c1 : tree_New_644a_Ty) (c2 : tree_New_91b4_Ty) (w0 : ghost_New_669c_l0_Ty) {R : Type} (x0 : Int) (x1 : List ((ByteArray) × ((Bool) × (Int)))) (x2 : List (List (Int))) (k0 : (Int) → (List ((ByteArray) × ((Bool) × (Int)))) → (List (List (Int))) → Option R) (k1 : (Int) → (List ((ByteArray) × ((Bool) × (Int)))) → (List (List (Int))) → (List (Int)) → (Int) → (List ((Int) × (List (Int)))) → (List ((Int) × (Int))) → Option R) (k2 : (Int) → (List ((ByteArray) × ((Bool) × (Int)))) → (List (List (Int))) → (List (Int)) → (Int) → (Int) → (List (((ByteArray) × (ByteArray)) × ((Int) × (Bool)))) → (List ((Int) × (List (Int)))) → (List ((Int) × (Int))) → Option R) : Option R :=
  c1 x1
  (fun i191 l192 => br (!(decide (i191 = (0 : Int))))
   (k0 i191 l192 x2)
   (w0
    (fun i197 l198 l199 l200 i201 l202 l203 => k0 i197 l198 l199)
    (fun l204 l205 l206 i207 l208 l209 => br (decide ((0 : Int) < (Nat.cast (List.length l205) : Int)))
     (k0 (12 : Int) l204 l205)
     (k1 (0 : Int) l204 l205 l206 i207 l208 l209))
    (fun n210 n211 i212 l213 l214 l215 i216 l217 l218 => k0 i212 l213 l214)
    (fun n219 n220 l221 l222 l223 i224 l225 l226 => br (decide ((0 : Int) < (Nat.cast n220 : Int)))
     (k0 (12 : Int) l221 l222)
     (k1 (0 : Int) l221 l222 l223 i224 l225 l226))
    (fun i227 l228 l229 l230 i231 i232 l233 l234 l235 => k0 i227 l228 l229)
    (fun l236 l237 l238 i239 i240 l241 l242 l243 => br (decide ((0 : Int) < (Nat.cast (List.length l237) : Int)))
     (k0 (12 : Int) l236 l237)
     (k2 (0 : Int) l236 l237 l238 i239 i240 l241 l242 l243))
    (fun n244 n245 i246 l247 l248 l249 i250 i251 l252 l253 l254 => k0 i246 l247 l248)
    (fun n255 n256 l257 l258 l259 i260 i261 l262 l263 l264 => br (decide ((0 : Int) < (Nat.cast n256 : Int)))
     (k0 (12 : Int) l257 l258)
     (k2 (0 : Int) l257 l258 l259 i260 i261 l262 l263 l264))
    N (.v0 (Nat.cast (List.length l192) : Int) (0 : Int) l192 x2 ((0 : Int) :: ((0 : Int) :: ((0 : Int) :: ((0 : Int) :: ([] : List ((Sh.int IntKind.i64).T)))))) x0 ([] : List (((Sh.int IntKind.i64).T) × ((Sh.int IntKind.i64).isl.T))) ([] : List (((Sh.int IntKind.i64).pair (Sh.int IntKind.i64)).T)))))
  (fun i265 l266 i267 l268 => br (!(decide (i265 = (0 : Int))))
   (k0 i265 l266 x2)
   (w0
    (fun i269 l270 l271 l272 i273 l274 l275 => k0 i269 l270 l271)
    (fun l276 l277 l278 i279 l280 l281 => br (decide ((0 : Int) < (Nat.cast (List.length l277) : Int)))
     (k0 (12 : Int) l276 l277)
     (k1 (0 : Int) l276 l277 l278 i279 l280 l281))
    (fun n282 n283 i284 l285 l286 l287 i288 l289 l290 => k0 i284 l285 l286)
    (fun n291 n292 l293 l294 l295 i296 l297 l298 => br (decide ((0 : Int) < (Nat.cast n292 : Int)))
     (k0 (12 : Int) l293 l294)
     (k1 (0 : Int) l293 l294 l295 i296 l297 l298))
    (fun i299 l300 l301 l302 i303 i304 l305 l306 l307 => k0 i299 l300 l301)
    (fun l308 l309 l310 i311 i312 l313 l314 l315 => br (decide ((0 : Int) < (Nat.cast (List.length l309) : Int)))
     (k0 (12 : Int) l308 l309)
     (k2 (0 : Int) l308 l309 l310 i311 i312 l313 l314 l315))
    (fun n316 n317 i318 l319 l320 l321 i322 i323 l324 l325 l326 => k0 i318 l319 l320)
    (fun n327 n328 l329 l330 l331 i332 i333 l334 l335 l336 => br (decide ((0 : Int) < (Nat.cast n328 : Int)))
     (k0 (12 : Int) l329 l330)
     (k2 (0 : Int) l329 l330 l331 i332 i333 l334 l335 l336))
    N (.v2 (Nat.cast (List.length l266) : Int) (0 : Int) l266 x2 ((0 : Int) :: ((0 : Int) :: ((0 : Int) :: ((0 : Int) :: ([] : List ((Sh.int IntKind.i64).T)))))) x0 i267 l268 ([] : List (((Sh.int IntKind.i64).T) × ((Sh.int IntKind.i64).isl.T))) ([] : List (((Sh.int IntKind.i64).pair (Sh.int IntKind.i64)).T)))))
noncomputable def ghost_New_669c (N : Nat) {R : Type} (x0 : Int) (x1 : List ((ByteArray) × ((Bool) × (Int)))) (x2 : List (List (Int))) (k0 : (Int) → (List ((ByteArray) × ((Bool) × (Int)))) → (List (List (Int))) → Option R) (k1 : (Int) → (List ((ByteArray) × ((Bool) × (Int)))) → (List (List (Int))) → (List (Int)) → (Int) → (List ((Int) × (List (Int)))) → (List ((Int) × (Int))) → Option R) (k2 : (Int) → (List ((ByteArray) × ((Bool) × (Int)))) → (List (List (Int))) → (List (Int)) → (Int) → (Int) → (List (((ByteArray) × (ByteArray)) × ((Int) × (Bool)))) → (List ((Int) × (List (Int)))) → (List ((Int) × (Int))) → Option R) : Option R := ghost_New_669c_T N @slices_Clone__term_T_term_T (@tree_New_644a N) (@tree_New_91b4 N) (@ghost_New_669c_l0 N) x0 x1 x2 k0 k1 k2
inductive ghost_New_92d3_S0 where
  | v0 (x0 : Nat) (x1 : Nat) (x2 : Int) (x3 : Int) (x4 : Nat) (x5 : List ((ByteArray) × ((Bool) × (Int)))) (x6 : List (List (Int))) (x7 : List (Int)) (x8 : Int) (x9 : List ((Int) × (List (Int)))) (x10 : List ((Int) × (Int)))
  | v1 (x0 : Nat) (x1 : Nat) (x2 : Nat) (x3 : Nat) (x4 : Int) (x5 : Int) (x6 : Nat) (x7 : List ((ByteArray) × ((Bool) × (Int)))) (x8 : List (List (Int))) (x9 : List (Int)) (x10 : Int) (x11 : List ((Int) × (List (Int)))) (x12 : List ((Int) × (Int)))
  | v2 (x0 : Nat) (x1 : Nat) (x2 : Int) (x3 : Int) (x4 : Nat) (x5 : List ((ByteArray) × ((Bool) × (Int)))) (x6 : List (List (Int))) (x7 : List (Int)) (x8 : Int) (x9 : Int) (x10 : List (((ByteArray) × (ByteArray)) × ((Int) × (Bool)))) (x11 : List ((Int) × (List (Int)))) (x12 : List ((Int) × (Int)))
  | v3 (x0 : Nat) (x1 : Nat) (x2 : Nat) (x3 : Nat) (x4 : Int) (x5 : Int) (x6 : Nat) (x7 : List ((ByteArray) × ((Bool) × (Int)))) (x8 : List (List (Int))) (x9 : List (Int)) (x10 : Int) (x11 : Int) (x12 : List (((ByteArray) × (ByteArray)) × ((Int) × (Bool)))) (x13 : List ((Int) × (List (Int)))) (x14 : List ((Int) × (Int)))
abbrev ghost_New_92d3_l0_Ty : Type 1 := {R : Type} → ((Int) → (Nat) → (List ((ByteArray) × ((Bool) × (Int)))) → (List (List (Int))) → (List (Int)) → (Int) → (List ((Int) × (List (Int)))) → (List ((Int) × (Int))) → Option R) → ((Nat) → (List ((ByteArray) × ((Bool) × (Int)))) → (List (List (Int))) → (List (Int)) → (Int) → (List ((Int) × (List (Int)))) → (List ((Int) × (Int))) → Option R) → ((Nat) → (Nat) → (Int) → (Nat) → (List ((ByteArray) × ((Bool) × (Int)))) → (List (List (Int))) → (List (Int)) → (Int) → (List ((Int) × (List (Int)))) → (List ((Int) × (Int))) → Option R) → ((Nat) → (Nat) → (Nat) → (List ((ByteArray) × ((Bool) × (Int)))) → (List (List (Int))) → (List (Int)) → (Int) → (List ((Int) × (List (Int)))) → (List ((Int) × (Int))) → Option R) → ((Int) → (Nat) → (List ((ByteArray) × ((Bool) × (Int)))) → (List (List (Int))) → (List (Int)) → (Int) → (Int) → (List (((ByteArray) × (ByteArray)) × ((Int) × (Bool)))) → (List ((Int) × (List (Int)))) → (List ((Int) × (Int))) → Option R) → ((Nat) → (List ((ByteArray) × ((Bool) × (Int)))) → (List (List (Int))) → (List (Int)) → (Int) → (Int) → (List (((ByteArray) × (ByteArray)) × ((Int) × (Bool)))) → (List ((Int) × (List (Int)))) → (List ((Int) × (Int))) → Option R) → ((Nat) → (Nat) → (Int) → (Nat) → (List ((ByteArray) × ((Bool) × (Int)))) → (List (List (Int))) → (List (Int)) → (Int) → (Int) → (List (((ByteArray) × (ByteArray)) × ((Int) × (Bool)))) → (List ((Int) × (List (Int)))) → (List ((Int) × (Int))) → Option R) → ((Nat) → (Nat) → (Nat) → (List ((ByteArray) × ((Bool) × (Int)))) → (List (List (Int))) → (List (Int)) → (Int) → (Int) → (List (((ByteArray) × (ByteArray)) × ((Int) × (Bool)))) → (List ((Int) × (List (Int)))) → (List ((Int) × (Int))) → Option R) → Nat → ghost_New_92d3_S0 → Option R
abbrev ghost_New_92d3_Ty : Type 1 := {R : Type} → (Nat) → (Nat) → (Int) → (Nat) → (List ((ByteArray) × ((Bool) × (Int)))) → (List (List (Int))) → ((Int) → (Nat) → (List ((ByteArray) × ((Bool) × (Int)))) → (List (List (Int))) → Option R) → ((Int) → (Nat) → (List ((ByteArray) × ((Bool) × (Int)))) → (List (List (Int))) → (List (Int)) → (Int) → (List ((Int) × (List (Int)))) → (List ((Int) × (Int))) → Option R) → ((Int) → (Nat) → (List ((ByteArray) × ((Bool) × (Int)))) → (List (List (Int))) → (List (Int)) → (Int) → (Int) → (List (((ByteArray) × (ByteArray)) × ((Int) × (Bool)))) → (List ((Int) × (List (Int)))) → (List ((Int) × (Int))) → Option R) → Option R
noncomputable def ghost_New_92d3_l0_T0 (N : Nat) (c0 : slices_Clone__term_T_term_T_Ty) (c1 : tree_New_644a_Ty) (c2 : tree_New_91b4_Ty) {R : Type} (nx : ghost_New_92d3_S0 → Option R) (k0 : (Int) → (Nat) → (List ((ByteArray) × ((Bool) × (Int)))) → (List (List (Int))) → (List (Int)) → (Int) → (List ((Int) × (List (Int)))) → (List ((Int) × (Int))) → Option R) (k1 : (Nat) → (List ((ByteArray) × ((Bool) × (Int)))) → (List (List (Int))) → (List (Int)) → (Int) → (List ((Int) × (List (Int)))) → (List ((Int) × (Int))) → Option R) (k2 : (Nat) → (Nat) → (Int) → (Nat) → (List ((ByteArray) × ((Bool) × (Int)))) → (List (List (Int))) → (List (Int)) → (Int) → (List ((Int) × (List (Int)))) → (List ((Int) × (Int))) → Option R) (k3 : (Nat) → (Nat) → (Nat) → (List ((ByteArray) × ((Bool) × (Int)))) → (List (List (Int))) → (List (Int)) → (Int) → (List ((Int) × (List (Int)))) → (List ((Int) × (Int))) → Option R) (k4 : (Int) → (Nat) → (List ((ByteArray) × ((Bool) × (Int)))) → (List (List (Int))) → (List (Int)) → (Int) → (Int) → (List (((ByteArray) × (ByteArray)) × ((Int) × (Bool)))) → (List ((Int) × (List (Int)))) → (List ((Int) × (Int))) → Option R) (k5 : (Nat) → (List ((ByteArray) × ((Bool) × (Int)))) → (List (List (Int))) → (List (Int)) → (Int) → (Int) → (List (((ByteArray) × (ByteArray)) × ((Int) × (Bool)))) → (List ((Int) × (List (Int)))) → (List ((Int) × (Int))) → Option R) (k6 : (Nat) → (Nat) → (Int) → (Nat) → (List ((ByteArray) × ((Bool) × (Int)))) → (List (List (Int))) → (List (Int)) → (Int) → (Int) → (List (((ByteArray) × (ByteArray)) × ((Int) × (Bool)))) → (List ((Int) × (List (Int)))) → (List ((Int) × (Int))) → Option R) (k7 : (Nat) → (Nat) → (Nat) → (List ((ByteArray) × ((Bool) × (Int)))) → (List (List (Int))) → (List (Int)) → (Int) → (Int) → (List (((ByteArray) × (ByteArray)) × ((Int) × (Bool)))) → (List ((Int) × (List (Int)))) → (List ((Int) × (Int))) → Option R) (x0 : Nat) (x1 : Nat) (x2 : Int) (x3 : Int) (x4 : Nat) (x5 : List ((ByteArray) × ((Bool) × (Int)))) (x6 : List (List (Int))) (x7 : List (Int)) (x8 : Int) (x9 : List ((Int) × (List (Int)))) (x10 : List ((Int) × (Int))) : Option R :=
  br (decide (x3 < x2))
  (br (inB x3 x0)
   (br (decide ((Int.toNat x3) < x4))
    (br (List.getD x5 (Int.toNat x3) ((bs []) , (false , (0 : Int)))).2.1
     (nx (.v0 x0 x1 x2 (IntKind.wrap .i64 (x3 + (1 : Int))) x4 x5 x6 x7 x8 x9 x10))
     (br (!(decide ((Nat.cast (List.length x6) : Int) = (0 : Int))))
      (br (inB (0 : Int) (List.length x6))
       (br (decide ((0 : Nat) < (List.length x6)))
        (br (decide ((8 : Int) < (Nat.cast (List.length (List.getD x6 (0 : Nat) (Sh.zero (.isl (.int .i64))))) : Int)))
         (k0 (12 : Int) x4 x5 x6 x7 x8 x9 x10)
         (br (inB (0 : Int) (List.length x6))
          (br (decide ((0 : Nat) < (List.length x6)))
           (c0 (List.getD x6 (0 : Nat) (Sh.zero (.isl (.int .i64))))
            (fun l791 => br (decide (x3 = x3))
             (br (fits (0 : Nat) (List.length l791) l791)
              (br (leB (1 : Int) (List.length x6))
               (nx (.v1 (1 : Nat) ((List.length x6) - (1 : Nat)) x0 x1 x2 (IntKind.wrap .i64 (x3 + (1 : Int))) x4 x5 x6 x7 x8 (mput (.int .i64) (.isl (.int .i64)) x9 x3 (sub l791 (0 : Nat) (List.length l791))) x10))
               (none))
              (none))
             (none)))
           (none))
          (none)))
        (none))
       (none))
      (k0 (12 : Int) x4 x5 x6 x7 x8 x9 x10)))
    (none))
   (none))
  (k1 x4 x5 x6 x7 x8 x9 x10)
noncomputable def ghost_New_92d3_l0_T1 (N : Nat) (c0 : slices_Clone__term_T_term_T_Ty) (c1 : tree_New_644a_Ty) (c2 : tree_New_91b4_Ty) {R : Type} (nx : ghost_New_92d3_S0 → Option R) (k0 : (Int) → (Nat) → (List ((ByteArray) × ((Bool) × (Int)))) → (List (List (Int))) → (List (Int)) → (Int) → (List ((Int) × (List (Int)))) → (List ((Int) × (Int))) → Option R) (k1 : (Nat) → (List ((ByteArray) × ((Bool) × (Int)))) → (List (List (Int))) → (List (Int)) → (Int) → (List ((Int) × (List (Int)))) → (List ((Int) × (Int))) → Option R) (k2 : (Nat) → (Nat) → (Int) → (Nat) → (List ((ByteArray) × ((Bool) × (Int)))) → (List (List (Int))) → (List (Int)) → (Int) → (List ((Int) × (List (Int)))) → (List ((Int) × (Int))) → Option R) (k3 : (Nat) → (Nat) → (Nat) → (List ((ByteArray) × ((Bool) × (Int)))) → (List (List (Int))) → (List (Int)) → (Int) → (List ((Int) × (List (Int)))) → (List ((Int) × (Int))) → Option R) (k4 : (Int) → (Nat) → (List ((ByteArray) × ((Bool) × (Int)))) → (List (List (Int))) → (List (Int)) → (Int) → (Int) → (List (((ByteArray) × (ByteArray)) × ((Int) × (Bool)))) → (List ((Int) × (List (Int)))) → (List ((Int) × (Int))) → Option R) (k5 : (Nat) → (List ((ByteArray) × ((Bool) × (Int)))) → (List (List (Int))) → (List (Int)) → (Int) → (Int) → (List (((ByteArray) × (ByteArray)) × ((Int) × (Bool)))) → (List ((Int) × (List (Int)))) → (List ((Int) × (Int))) → Option R) (k6 : (Nat) → (Nat) → (Int) → (Nat) → (List ((ByteArray) × ((Bool) × (Int)))) → (List (List (Int))) → (List (Int)) → (Int) → (Int) → (List (((ByteArray) × (ByteArray)) × ((Int) × (Bool)))) → (List ((Int) × (List (Int)))) → (List ((Int) × (Int))) → Option R) (k7 : (Nat) → (Nat) → (Nat) → (List ((ByteArray) × ((Bool) × (Int)))) → (List (List (Int))) → (List (Int)) → (Int) → (Int) → (List (((ByteArray) × (ByteArray)) × ((Int) × (Bool)))) → (List ((Int) × (List (Int)))) → (List ((Int) × (Int))) → Option R) (x0 : Nat) (x1 : Nat) (x2 : Nat) (x3 : Nat) (x4 : Int) (x5 : Int) (x6 : Nat) (x7 : List ((ByteArray) × ((Bool) × (Int)))) (x8 : List (List (Int))) (x9 : List (Int)) (x10 : Int) (x11 : List ((Int) × (List (Int)))) (x12 : List ((Int) × (Int))) : Option R :=
  br (decide (x5 < x4))
  (br (inB x5 x2)
   (br (decide ((Int.toNat x5) < x6))
    (br (List.getD x7 (Int.toNat x5) ((bs []) , (false , (0 : Int)))).2.1
     (nx (.v1 x0 x1 x2 x3 x4 (IntKind.wrap .i64 (x5 + (1 : Int))) x6 x7 x8 x9 x10 x11 x12))
     (br (!(decide ((Nat.cast x1 : Int) = (0 : Int))))
      (br (inB (0 : Int) x1)
       (br (decide ((Int.toNat (addLo x0 (0 : Int))) < (List.length x8)))
        (br (decide ((8 : Int) < (Nat.cast (List.length (List.getD x8 (Int.toNat (addLo x0 (0 : Int))) (Sh.zero (.isl (.int .i64))))) : Int)))
         (k2 x0 x1 (12 : Int) x6 x7 x8 x9 x10 x11 x12)
         (br (inB (0 : Int) x1)
          (br (decide ((Int.toNat (addLo x0 (0 : Int))) < (List.length x8)))
           (c0 (List.getD x8 (Int.toNat (addLo x0 (0 : Int))) (Sh.zero (.isl (.int .i64))))
            (fun l792 => br (decide (x5 = x5))
             (br (fits (0 : Nat) (List.length l792) l792)
              (br (leB (1 : Int) x1)
               (nx (.v1 (addN x0 (1 : Nat)) (x1 - (1 : Nat)) x2 x3 x4 (IntKind.wrap .i64 (x5 + (1 : Int))) x6 x7 x8 x9 x10 (mput (.int .i64) (.isl (.int .i64)) x11 x5 (sub l792 (0 : Nat) (List.length l792))) x12))
               (none))
              (none))
             (none)))
           (none))
          (none)))
        (none))
       (none))
      (k2 x0 x1 (12 : Int) x6 x7 x8 x9 x10 x11 x12)))
    (none))
   (none))
  (k3 x0 x1 x6 x7 x8 x9 x10 x11 x12)
noncomputable def ghost_New_92d3_l0_T2 (N : Nat) (c0 : slices_Clone__term_T_term_T_Ty) (c1 : tree_New_644a_Ty) (c2 : tree_New_91b4_Ty) {R : Type} (nx : ghost_New_92d3_S0 → Option R) (k0 : (Int) → (Nat) → (List ((ByteArray) × ((Bool) × (Int)))) → (List (List (Int))) → (List (Int)) → (Int) → (List ((Int) × (List (Int)))) → (List ((Int) × (Int))) → Option R) (k1 : (Nat) → (List ((ByteArray) × ((Bool) × (Int)))) → (List (List (Int))) → (List (Int)) → (Int) → (List ((Int) × (List (Int)))) → (List ((Int) × (Int))) → Option R) (k2 : (Nat) → (Nat) → (Int) → (Nat) → (List ((ByteArray) × ((Bool) × (Int)))) → (List (List (Int))) → (List (Int)) → (Int) → (List ((Int) × (List (Int)))) → (List ((Int) × (Int))) → Option R) (k3 : (Nat) → (Nat) → (Nat) → (List ((ByteArray) × ((Bool) × (Int)))) → (List (List (Int))) → (List (Int)) → (Int) → (List ((Int) × (List (Int)))) → (List ((Int) × (Int))) → Option R) (k4 : (Int) → (Nat) → (List ((ByteArray) × ((Bool) × (Int)))) → (List (List (Int))) → (List (Int)) → (Int) → (Int) → (List (((ByteArray) × (ByteArray)) × ((Int) × (Bool)))) → (List ((Int) × (List (Int)))) → (List ((Int) × (Int))) → Option R) (k5 : (Nat) → (List ((ByteArray) × ((Bool) × (Int)))) → (List (List (Int))) → (List (Int)) → (Int) → (Int) → (List (((ByteArray) × (ByteArray)) × ((Int) × (Bool)))) → (List ((Int) × (List (Int)))) → (List ((Int) × (Int))) → Option R) (k6 : (Nat) → (Nat) → (Int) → (Nat) → (List ((ByteArray) × ((Bool) × (Int)))) → (List (List (Int))) → (List (Int)) → (Int) → (Int) → (List (((ByteArray) × (ByteArray)) × ((Int) × (Bool)))) → (List ((Int) × (List (Int)))) → (List ((Int) × (Int))) → Option R) (k7 : (Nat) → (Nat) → (Nat) → (List ((ByteArray) × ((Bool) × (Int)))) → (List (List (Int))) → (List (Int)) → (Int) → (Int) → (List (((ByteArray) × (ByteArray)) × ((Int) × (Bool)))) → (List ((Int) × (List (Int)))) → (List ((Int) × (Int))) → Option R) (x0 : Nat) (x1 : Nat) (x2 : Int) (x3 : Int) (x4 : Nat) (x5 : List ((ByteArray) × ((Bool) × (Int)))) (x6 : List (List (Int))) (x7 : List (Int)) (x8 : Int) (x9 : Int) (x10 : List (((ByteArray) × (ByteArray)) × ((Int) × (Bool)))) (x11 : List ((Int) × (List (Int)))) (x12 : List ((Int) × (Int))) : Option R :=
  br (decide (x3 < x2))
  (br (inB x3 x0)
   (br (decide ((Int.toNat x3) < x4))
    (br (List.getD x5 (Int.toNat x3) ((bs []) , (false , (0 : Int)))).2.1
     (nx (.v2 x0 x1 x2 (IntKind.wrap .i64 (x3 + (1 : Int))) x4 x5 x6 x7 x8 x9 x10 x11 x12))
     (br (!(decide ((Nat.cast (List.length x6) : Int) = (0 : Int))))
      (br (inB (0 : Int) (List.length x6))
       (br (decide ((0 : Nat) < (List.length x6)))
        (br (decide ((8 : Int) < (Nat.cast (List.length (List.getD x6 (0 : Nat) (Sh.zero (.isl (.int .i64))))) : Int)))
         (k4 (12 : Int) x4 x5 x6 x7 x8 x9 x10 x11 x12)
         (br (inB (0 : Int) (List.length x6))
          (br (decide ((0 : Nat) < (List.length x6)))
           (c0 (List.getD x6 (0 : Nat) (Sh.zero (.isl (.int .i64))))
            (fun l793 => br (decide (x3 = x3))
             (br (fits (0 : Nat) (List.length l793) l793)
              (br (leB (1 : Int) (List.length x6))
               (nx (.v3 (1 : Nat) ((List.length x6) - (1 : Nat)) x0 x1 x2 (IntKind.wrap .i64 (x3 + (1 : Int))) x4 x5 x6 x7 x8 x9 x10 (mput (.int .i64) (.isl (.int .i64)) x11 x3 (sub l793 (0 : Nat) (List.length l793))) x12))
               (none))
              (none))
             (none)))
           (none))
          (none)))
        (none))
       (none))
      (k4 (12 : Int) x4 x5 x6 x7 x8 x9 x10 x11 x12)))
    (none))
   (none))
  (k5 x4 x5 x6 x7 x8 x9 x10 x11 x12)
noncomputable def ghost_New_92d3_l0_T3 (N : Nat) (c0 : slices_Clone__term_T_term_T_Ty) (c1 : tree_New_644a_Ty) (c2 : tree_New_91b4_Ty) {R : Type} (nx : ghost_New_92d3_S0 → Option R) (k0 : (Int) → (Nat) → (List ((ByteArray) × ((Bool) × (Int)))) → (List (List (Int))) → (List (Int)) → (Int) → (List ((Int) × (List (Int)))) → (List ((Int) × (Int))) → Option R) (k1 : (Nat) → (List ((ByteArray) × ((Bool) × (Int)))) → (List (List (Int))) → (List (Int)) → (Int) → (List ((Int) × (List (Int)))) → (List ((Int) × (Int))) → Option R) (k2 : (Nat) → (Nat) → (Int) → (Nat) → (List ((ByteArray) × ((Bool) × (Int)))) → (List (List (Int))) → (List (Int)) → (Int) → (List ((Int) × (List (Int)))) → (List ((Int) × (Int))) → Option R) (k3 : (Nat) → (Nat) → (Nat) → (List ((ByteArray) × ((Bool) × (Int)))) → (List (List (Int))) → (List (Int)) → (Int) → (List ((Int) × (List (Int)))) → (List ((Int) × (Int))) → Option R) (k4 : (Int) → (Nat) → (List ((ByteArray) × ((Bool) × (Int)))) → (List (List (Int))) → (List (Int)) → (Int) → (Int) → (List (((ByteArray) × (ByteArray)) × ((Int) × (Bool)))) → (List ((Int) × (List (Int)))) → (List ((Int) × (Int))) → Option R) (k5 : (Nat) → (List ((ByteArray) × ((Bool) × (Int)))) → (List (List (Int))) → (List (Int)) → (Int) → (Int) → (List (((ByteArray) × (ByteArray)) × ((Int) × (Bool)))) → (List ((Int) × (List (Int)))) → (List ((Int) × (Int))) → Option R) (k6 : (Nat) → (Nat) → (Int) → (Nat) → (List ((ByteArray) × ((Bool) × (Int)))) → (List (List (Int))) → (List (Int)) → (Int) → (Int) → (List (((ByteArray) × (ByteArray)) × ((Int) × (Bool)))) → (List ((Int) × (List (Int)))) → (List ((Int) × (Int))) → Option R) (k7 : (Nat) → (Nat) → (Nat) → (List ((ByteArray) × ((Bool) × (Int)))) → (List (List (Int))) → (List (Int)) → (Int) → (Int) → (List (((ByteArray) × (ByteArray)) × ((Int) × (Bool)))) → (List ((Int) × (List (Int)))) → (List ((Int) × (Int))) → Option R) (x0 : Nat) (x1 : Nat) (x2 : Nat) (x3 : Nat) (x4 : Int) (x5 : Int) (x6 : Nat) (x7 : List ((ByteArray) × ((Bool) × (Int)))) (x8 : List (List (Int))) (x9 : List (Int)) (x10 : Int) (x11 : Int) (x12 : List (((ByteArray) × (ByteArray)) × ((Int) × (Bool)))) (x13 : List ((Int) × (List (Int)))) (x14 : List ((Int) × (Int))) : Option R :=
  br (decide (x5 < x4))
  (br (inB x5 x2)
   (br (decide ((Int.toNat x5) < x6))
    (br (List.getD x7 (Int.toNat x5) ((bs []) , (false , (0 : Int)))).2.1
     (nx (.v3 x0 x1 x2 x3 x4 (IntKind.wrap .i64 (x5 + (1 : Int))) x6 x7 x8 x9 x10 x11 x12 x13 x14))
     (br (!(decide ((Nat.cast x1 : Int) = (0 : Int))))
      (br (inB (0 : Int) x1)
       (br (decide ((Int.toNat (addLo x0 (0 : Int))) < (List.length x8)))
        (br (decide ((8 : Int) < (Nat.cast (List.length (List.getD x8 (Int.toNat (addLo x0 (0 : Int))) (Sh.zero (.isl (.int .i64))))) : Int)))
         (k6 x0 x1 (12 : Int) x6 x7 x8 x9 x10 x11 x12 x13 x14)
         (br (inB (0 : Int) x1)
          (br (decide ((Int.toNat (addLo x0 (0 : Int))) < (List.length x8)))
           (c0 (List.getD x8 (Int.toNat (addLo x0 (0 : Int))) (Sh.zero (.isl (.int .i64))))
            (fun l794 => br (decide (x5 = x5))
             (br (fits (0 : Nat) (List.length l794) l794)
              (br (leB (1 : Int) x1)
               (nx (.v3 (addN x0 (1 : Nat)) (x1 - (1 : Nat)) x2 x3 x4 (IntKind.wrap .i64 (x5 + (1 : Int))) x6 x7 x8 x9 x10 x11 x12 (mput (.int .i64) (.isl (.int .i64)) x13 x5 (sub l794 (0 : Nat) (List.length l794))) x14))
               (none))
              (none))
             (none)))
           (none))
          (none)))
        (none))
       (none))
      (k6 x0 x1 (12 : Int) x6 x7 x8 x9 x10 x11 x12 x13 x14)))
    (none))
   (none))
  (k7 x0 x1 x6 x7 x8 x9 x10 x11 x12 x13 x14)
noncomputable def ghost_New_92d3_l0 (N : Nat) {R : Type} (k0 : (Int) → (Nat) → (List ((ByteArray) × ((Bool) × (Int)))) → (List (List (Int))) → (List (Int)) → (Int) → (List ((Int) × (List (Int)))) → (List ((Int) × (Int))) → Option R) (k1 : (Nat) → (List ((ByteArray) × ((Bool) × (Int)))) → (List (List (Int))) → (List (Int)) → (Int) → (List ((Int) × (List (Int)))) → (List ((Int) × (Int))) → Option R) (k2 : (Nat) → (Nat) → (Int) → (Nat) → (List ((ByteArray) × ((Bool) × (Int)))) → (List (List (Int))) → (List (Int)) → (Int) → (List ((Int) × (List (Int)))) → (List ((Int) × (Int))) → Option R) (k3 : (Nat) → (Nat) → (Nat) → (List ((ByteArray) × ((Bool) × (Int)))) → (List (List (Int))) → (List (Int)) → (Int) → (List ((Int) × (List (Int)))) → (List ((Int) × (Int))) → Option R) (k4 : (Int) → (Nat) → (List ((ByteArray) × ((Bool) × (Int)))) → (List (List (Int))) → (List (Int)) → (Int) → (Int) → (List (((ByteArray) × (ByteArray)) × ((Int) × (Bool)))) → (List ((Int) × (List (Int)))) → (List ((Int) × (Int))) → Option R) (k5 : (Nat) → (List ((ByteArray) × ((Bool) × (Int)))) → (List (List (Int))) → (List (Int)) → (Int) → (Int) → (List (((ByteArray) × (ByteArray)) × ((Int) × (Bool)))) → (List ((Int) × (List (Int)))) → (List ((Int) × (Int))) → Option R) (k6 : (Nat) → (Nat) → (Int) → (Nat) → (List ((ByteArray) × ((Bool) × (Int)))) → (List (List (Int))) → (List (Int)) → (Int) → (Int) → (List (((ByteArray) × (ByteArray)) × ((Int) × (Bool)))) → (List ((Int) × (List (Int)))) → (List ((Int) × (Int))) → Option R) (k7 : (Nat) → (Nat) → (Nat) → (List ((ByteArray) × ((Bool) × (Int)))) → (List (List (Int))) → (List (Int)) → (Int) → (Int) → (List (((ByteArray) × (ByteArray)) × ((Int) × (Bool)))) → (List ((Int) × (List (Int)))) → (List ((Int) × (Int))) → Option R) : Nat → ghost_New_92d3_S0 → Option R
  | 0, _ => none
  | n + 1, .v0 x0 x1 x2 x3 x4 x5 x6 x7 x8 x9 x10 => ghost_New_92d3_l0_T0 N @slices_Clone__term_T_term_T (@tree_New_644a N) (@tree_New_91b4 N) (fun s => ghost_New_92d3_l0 N k0 k1 k2 k3 k4 k5 k6 k7 n s) k0 k1 k2 k3 k4 k5 k6 k7 x0 x1 x2 x3 x4 x5 x6 x7 x8 x9 x10
  | n + 1, .v1 x0 x1 x2 x3 x4 x5 x6 x7 x8 x9 x10 x11 x12 => ghost_New_92d3_l0_T1 N @slices_Clone__term_T_term_T (@tree_New_644a N) (@tree_New_91b4 N) (fun s => ghost_New_92d3_l0 N k0 k1 k2 k3 k4 k5 k6 k7 n s) k0 k1 k2 k3 k4 k5 k6 k7 x0 x1 x2 x3 x4 x5 x6 x7 x8 x9 x10 x11 x12
  | n + 1, .v2 x0 x1 x2 x3 x4 x5 x6 x7 x8 x9 x10 x11 x12 => ghost_New_92d3_l0_T2 N @slices_Clone__term_T_term_T (@tree_New_644a N) (@tree_New_91b4 N) (fun s => ghost_New_92d3_l0 N k0 k1 k2 k3 k4 k5 k6 k7 n s) k0 k1 k2 k3 k4 k5 k6 k7 x0 x1 x2 x3 x4 x5 x6 x7 x8 x9 x10 x11 x12
  | n + 1, .v3 x0 x1 x2 x3 x4 x5 x6 x7 x8 x9 x10 x11 x12 x13 x14 => ghost_New_92d3_l0_T3 N @slices_Clone__term_T_term_T (@tree_New_644a N) (@tree_New_91b4 N) (fun s => ghost_New_92d3_l0 N k0 k1 k2 k3 k4 k5 k6 k7 n s) k0 k1 k2 k3 k4 k5 k6 k7 x0 x1 x2 x3 x4 x5 x6 x7 x8 x9 x10 x11 x12 x13 x14
noncomputable def ghost_New_92d3_T (N : Nat) (c0 : slices_Clone__term_T_term_T_Ty) (c1 : tree_New_644a_Ty) (c2 : tree_New_91b4_Ty) (w0 : ghost_New_92d3_l0_Ty) {R : Type} (x0 : Nat) (x1 : Nat) (x2 : Int) (x3 : Nat) (x4 : List ((ByteArray) × ((Bool) × (Int)))) (x5 : List (List (Int))) (k0 : (Int) → (Nat) → (List ((ByteArray) × ((Bool) × (Int)))) → (List (List (Int))) → Option R) (k1 : (Int) → (Nat) → (List ((ByteArray) × ((Bool) × (Int)))) → (List (List (Int))) → (List (Int)) → (Int) → (List ((Int) × (List (Int)))) → (List ((Int) × (Int))) → Option R) (k2 : (Int) → (Nat) → (List ((ByteArray) × ((Bool) × (Int)))) → (List (List (Int))) → (List (Int)) → (Int) → (Int) → (List (((ByteArray) × (ByteArray)) × ((Int) × (Bool)))) → (List ((Int) × (List (Int)))) → (List ((Int) × (Int))) → Option R) : Option R :=
  c2 x0 x1 x3 x4
  (fun i788 n789 l790 => br (!(decide (i788 = (0 : Int))))
   (k0 i788 n789 l790 x5)
   (w0
    (fun i795 n796 l797 l798 l799 i800 l801 l802 => k0 i795 n796 l797 l798)
    (fun n803 l804 l805 l806 i807 l808 l809 => br (decide ((0 : Int) < (Nat.cast (List.length l805) : Int)))
     (k0 (12 : Int) n803 l804 l805)
     (k1 (0 : Int) n803 l804 l805 l806 i807 l808 l809))
    (fun n810 n811 i812 n813 l814 l815 l816 i817 l818 l819 => k0 i812 n813 l814 l815)
    (fun n820 n821 n822 l823 l824 l825 i826 l827 l828 => br (decide ((0 : Int) < (Nat.cast n821 : Int)))
     (k0 (12 : Int) n822 l823 l824)
     (k1 (0 : Int) n822 l823 l824 l825 i826 l827 l828))
    (fun i829 n830 l831 l832 l833 i834 i835 l836 l837 l838 => k0 i829 n830 l831 l832)
    (fun n839 l840 l841 l842 i843 i844 l845 l846 l847 => br (decide ((0 : Int) < (Nat.cast (List.length l841) : Int)))
     (k0 (12 : Int) n839 l840 l841)
     (k2 (0 : Int) n839 l840 l841 l842 i843 i844 l845 l846 l847))
    (fun n848 n849 i850 n851 l852 l853 l854 i855 i856 l857 l858 l859 => k0 i850 n851 l852 l853)
    (fun n860 n861 n862 l863 l864 l865 i866 i867 l868 l869 l870 => br (decide ((0 : Int) < (Nat.cast n861 : Int)))
     (k0 (12 : Int) n862 l863 l864)
     (k2 (0 : Int) n862 l863 l864 l865 i866 i867 l868 l869 l870))
    N (.v0 x0 x1 (Nat.cast x0 : Int) (0 : Int) n789 l790 x5 ((0 : Int) :: ((0 : Int) :: ((0 : Int) :: ((0 : Int) :: ([] : List ((Sh.int IntKind.i64).T)))))) x2 ([] : List (((Sh.int IntKind.i64).T) × ((Sh.int IntKind.i64).isl.T))) ([] : List (((Sh.int IntKind.i64).pair (Sh.int IntKind.i64)).T)))))
  (fun i871 n872 l873 i874 l875 => br (!(decide (i871 = (0 : Int))))
   (k0 i871 n872 l873 x5)
   (w0
    (fun i876 n877 l878 l879 l880 i881 l882 l883 => k0 i876 n877 l878 l879)
    (fun n884 l885 l886 l887 i888 l889 l890 => br (decide ((0 : Int) < (Nat.cast (List.length l886) : Int)))
     (k0 (12 : Int) n884 l885 l886)
     (k1 (0 : Int) n884 l885 l886 l887 i888 l889 l890))
    (fun n891 n892 i893 n894 l895 l896 l897 i898 l899 l900 => k0 i893 n894 l895 l896)
    (fun n901 n902 n903 l904 l905 l906 i907 l908 l909 => br (decide ((0 : Int) < (Nat.cast n902 : Int)))
     (k0 (12 : Int) n903 l904 l905)
     (k1 (0 : Int) n903 l904 l905 l906 i907 l908 l909))
    (fun i910 n911 l912 l913 l914 i915 i916 l917 l918 l919 => k0 i910 n911 l912 l913)
    (fun n920 l921 l922 l923 i924 i925 l926 l927 l928 => br (decide ((0 : Int) < (Nat.cast (List.length l922) : Int)))
     (k0 (12 : Int) n920 l921 l922)
     (k2 (0 : Int) n920 l921 l922 l923 i924 i925 l926 l927 l928))
    (fun n929 n930 i931 n932 l933 l934 l935 i936 i937 l938 l939 l940 => k0 i931 n932 l933 l934)
    (fun n941 n942 n943 l944 l945 l946 i947 i948 l949 l950 l951 => br (decide ((0 : Int) < (Nat.cast n942 : Int)))
     (k0 (12 : Int) n943 l944 l945)
     (k2 (0 : Int) n943 l944 l945 l946 i947 i948 l949 l950 l951))
    N (.v2 x0 x1 (Nat.cast x0 : Int) (0 : Int) n872 l873 x5 ((0 : Int) :: ((0 : Int) :: ((0 : Int) :: ((0 : Int) :: ([] : List ((Sh.int IntKind.i64).T)))))) x2 i874 l875 ([] : List (((Sh.int IntKind.i64).T) × ((Sh.int IntKind.i64).isl.T))) ([] : List (((Sh.int IntKind.i64).pair (Sh.int IntKind.i64)).T)))))
noncomputable def ghost_New_92d3 (N : Nat) {R : Type} (x0 : Nat) (x1 : Nat) (x2 : Int) (x3 : Nat) (x4 : List ((ByteArray) × ((Bool) × (Int)))) (x5 : List (List (Int))) (k0 : (Int) → (Nat) → (List ((ByteArray) × ((Bool) × (Int)))) → (List (List (Int))) → Option R) (k1 : (Int) → (Nat) → (List ((ByteArray) × ((Bool) × (Int)))) → (List (List (Int))) → (List (Int)) → (Int) → (List ((Int) × (List (Int)))) → (List ((Int) × (Int))) → Option R) (k2 : (Int) → (Nat) → (List ((ByteArray) × ((Bool) × (Int)))) → (List (List (Int))) → (List (Int)) → (Int) → (Int) → (List (((ByteArray) × (ByteArray)) × ((Int) × (Bool)))) → (List ((Int) × (List (Int)))) → (List ((Int) × (Int))) → Option R) : Option R := ghost_New_92d3_T N @slices_Clone__term_T_term_T (@tree_New_644a N) (@tree_New_91b4 N) (@ghost_New_92d3_l0 N) x0 x1 x2 x3 x4 x5 k0 k1 k2
abbrev slices_Index__int_int_8e17_l0_Ty : Type 1 := {R : Type} → ((Int) → (List (Int)) → (Int) → (List ((Int) × (List (Int)))) → (List ((Int) × (Int))) → Option R) → ((List (Int)) → (Int) → (List ((Int) × (List (Int)))) → (List ((Int) × (Int))) → Option R) → Nat → (Nat) → (Nat) → (Int) → (Int) → (Int) → (List (Int)) → (Int) → (List ((Int) × (List (Int)))) → (List ((Int) × (Int))) → Option R
abbrev slices_Index__int_int_8e17_Ty : Type 1 := {R : Type} → (Nat) → (Nat) → (Int) → (List (Int)) → (Int) → (List ((Int) × (List (Int)))) → (List ((Int) × (Int))) → ((Int) → (List (Int)) → (Int) → (List ((Int) × (List (Int)))) → (List ((Int) × (Int))) → Option R) → Option R
noncomputable def slices_Index__int_int_8e17_l0_T0 (N : Nat) {R : Type} (nx : (Nat) → (Nat) → (Int) → (Int) → (Int) → (List (Int)) → (Int) → (List ((Int) × (List (Int)))) → (List ((Int) × (Int))) → Option R) (k0 : (Int) → (List (Int)) → (Int) → (List ((Int) × (List (Int)))) → (List ((Int) × (Int))) → Option R) (k1 : (List (Int)) → (Int) → (List ((Int) × (List (Int)))) → (List ((Int) × (Int))) → Option R) (x0 : Nat) (x1 : Nat) (x2 : Int) (x3 : Int) (x4 : Int) (x5 : List (Int)) (x6 : Int) (x7 : List ((Int) × (List (Int)))) (x8 : List ((Int) × (Int))) : Option R :=
  br (decide (x4 < x3))
  (br (inB x4 x0)
   (br (decide ((Int.toNat x4) < (4 : Nat)))
    (br (decide (x2 = (List.getD x5 (Int.toNat x4) (0 : Int))))
     (k0 x4 x5 x6 x7 x8)
     (nx x0 x1 x2 x3 (IntKind.wrap .i64 (x4 + (1 : Int))) x5 x6 x7 x8))
    (none))
   (none))
  (k1 x5 x6 x7 x8)
noncomputable def slices_Index__int_int_8e17_l0 (N : Nat) {R : Type} (k0 : (Int) → (List (Int)) → (Int) → (List ((Int) × (List (Int)))) → (List ((Int) × (Int))) → Option R) (k1 : (List (Int)) → (Int) → (List ((Int) × (List (Int)))) → (List ((Int) × (Int))) → Option R) : Nat → (Nat) → (Nat) → (Int) → (Int) → (Int) → (List (Int)) → (Int) → (List ((Int) × (List (Int)))) → (List ((Int) × (Int))) → Option R
  | 0, _, _, _, _, _, _, _, _, _ => none
  | n + 1, x0, x1, x2, x3, x4, x5, x6, x7, x8 => slices_Index__int_int_8e17_l0_T0 N (fun x0 x1 x2 x3 x4 x5 x6 x7 x8 => slices_Index__int_int_8e17_l0 N k0 k1 n x0 x1 x2 x3 x4 x5 x6 x7 x8) k0 k1 x0 x1 x2 x3 x4 x5 x6 x7 x8
noncomputable def slices_Index__int_int_8e17_T (N : Nat) (w0 : slices_Index__int_int_8e17_l0_Ty) {R : Type} (x0 : Nat) (x1 : Nat) (x2 : Int) (x3 : List (Int)) (x4 : Int) (x5 : List ((Int) × (List (Int)))) (x6 : List ((Int) × (Int))) (k0 : (Int) → (List (Int)) → (Int) → (List ((Int) × (List (Int)))) → (List ((Int) × (Int))) → Option R) : Option R :=
  w0
  (fun i350 l351 i352 l353 l354 => k0 i350 l351 i352 l353 l354)
  (fun l355 i356 l357 l358 => k0 (-1 : Int) l355 i356 l357 l358)
  N x0 x1 x2 (Nat.cast x0 : Int) (0 : Int) x3 x4 x5 x6
noncomputable def slices_Index__int_int_8e17 (N : Nat) {R : Type} (x0 : Nat) (x1 : Nat) (x2 : Int) (x3 : List (Int)) (x4 : Int) (x5 : List ((Int) × (List (Int)))) (x6 : List ((Int) × (Int))) (k0 : (Int) → (List (Int)) → (Int) → (List ((Int) × (List (Int)))) → (List ((Int) × (Int))) → Option R) : Option R := slices_Index__int_int_8e17_T N (@slices_Index__int_int_8e17_l0 N) x0 x1 x2 x3 x4 x5 x6 k0
abbrev slices_Index__int_int_4bb2_l0_Ty : Type 1 := {R : Type} → ((Int) → (List (Int)) → (Int) → (Int) → (List (((ByteArray) × (ByteArray)) × ((Int) × (Bool)))) → (List ((Int) × (List (Int)))) → (List ((Int) × (Int))) → Option R) → ((List (Int)) → (Int) → (Int) → (List (((ByteArray) × (ByteArray)) × ((Int) × (Bool)))) → (List ((Int) × (List (Int)))) → (List ((Int) × (Int))) → Option R) → Nat → (Nat) → (Nat) → (Int) → (Int) → (Int) → (List (Int)) → (Int) → (Int) → (List (((ByteArray) × (ByteArray)) × ((Int) × (Bool)))) → (List ((Int) × (List (Int)))) → (List ((Int) × (Int))) → Option R
abbrev slices_Index__int_int_4bb2_Ty : Type 1 := {R : Type} → (Nat) → (Nat) → (Int) → (List (Int)) → (Int) → (Int) → (List (((ByteArray) × (ByteArray)) × ((Int) × (Bool)))) → (List ((Int) × (List (Int)))) → (List ((Int) × (Int))) → ((Int) → (List (Int)) → (Int) → (Int) → (List (((ByteArray) × (ByteArray)) × ((Int) × (Bool)))) → (List ((Int) × (List (Int)))) → (List ((Int) × (Int))) → Option R) → Option R
noncomputable def slices_Index__int_int_4bb2_l0_T0 (N : Nat) {R : Type} (nx : (Nat) → (Nat) → (Int) → (Int) → (Int) → (List (Int)) → (Int) → (Int) → (List (((ByteArray) × (ByteArray)) × ((Int) × (Bool)))) → (List ((Int) × (List (Int)))) → (List ((Int) × (Int))) → Option R) (k0 : (Int) → (List (Int)) → (Int) → (Int) → (List (((ByteArray) × (ByteArray)) × ((Int) × (Bool)))) → (List ((Int) × (List (Int)))) → (List ((Int) × (Int))) → Option R) (k1 : (List (Int)) → (Int) → (Int) → (List (((ByteArray) × (ByteArray)) × ((Int) × (Bool)))) → (List ((Int) × (List (Int)))) → (List ((Int) × (Int))) → Option R) (x0 : Nat) (x1 : Nat) (x2 : Int) (x3 : Int) (x4 : Int) (x5 : List (Int)) (x6 : Int) (x7 : Int) (x8 : List (((ByteArray) × (ByteArray)) × ((Int) × (Bool)))) (x9 : List ((Int) × (List (Int)))) (x10 : List ((Int) × (Int))) : Option R :=
  br (decide (x4 < x3))
  (br (inB x4 x0)
   (br (decide ((Int.toNat x4) < (4 : Nat)))
    (br (decide (x2 = (List.getD x5 (Int.toNat x4) (0 : Int))))
     (k0 x4 x5 x6 x7 x8 x9 x10)
     (nx x0 x1 x2 x3 (IntKind.wrap .i64 (x4 + (1 : Int))) x5 x6 x7 x8 x9 x10))
    (none))
   (none))
  (k1 x5 x6 x7 x8 x9 x10)
noncomputable def slices_Index__int_int_4bb2_l0 (N : Nat) {R : Type} (k0 : (Int) → (List (Int)) → (Int) → (Int) → (List (((ByteArray) × (ByteArray)) × ((Int) × (Bool)))) → (List ((Int) × (List (Int)))) → (List ((Int) × (Int))) → Option R) (k1 : (List (Int)) → (Int) → (Int) → (List (((ByteArray) × (ByteArray)) × ((Int) × (Bool)))) → (List ((Int) × (List (Int)))) → (List ((Int) × (Int))) → Option R) : Nat → (Nat) → (Nat) → (Int) → (Int) → (Int) → (List (Int)) → (Int) → (Int) → (List (((ByteArray) × (ByteArray)) × ((Int) × (Bool)))) → (List ((Int) × (List (Int)))) → (List ((Int) × (Int))) → Option R
  | 0, _, _, _, _, _, _, _, _, _, _, _ => none
  | n + 1, x0, x1, x2, x3, x4, x5, x6, x7, x8, x9, x10 => slices_Index__int_int_4bb2_l0_T0 N (fun x0 x1 x2 x3 x4 x5 x6 x7 x8 x9 x10 => slices_Index__int_int_4bb2_l0 N k0 k1 n x0 x1 x2 x3 x4 x5 x6 x7 x8 x9 x10) k0 k1 x0 x1 x2 x3 x4 x5 x6 x7 x8 x9 x10
noncomputable def slices_Index__int_int_4bb2_T (N : Nat) (w0 : slices_Index__int_int_4bb2_l0_Ty) {R : Type} (x0 : Nat) (x1 : Nat) (x2 : Int) (x3 : List (Int)) (x4 : Int) (x5 : Int) (x6 : List (((ByteArray) × (ByteArray)) × ((Int) × (Bool)))) (x7 : List ((Int) × (List (Int)))) (x8 : List ((Int) × (Int))) (k0 : (Int) → (List (Int)) → (Int) → (Int) → (List (((ByteArray) × (ByteArray)) × ((Int) × (Bool)))) → (List ((Int) × (List (Int)))) → (List ((Int) × (Int))) → Option R) : Option R :=
  w0
  (fun i475 l476 i477 i478 l479 l480 l481 => k0 i475 l476 i477 i478 l479 l480 l481)
  (fun l482 i483 i484 l485 l486 l487 => k0 (-1 : Int) l482 i483 i484 l485 l486 l487)
  N x0 x1 x2 (Nat.cast x0 : Int) (0 : Int) x3 x4 x5 x6 x7 x8
noncomputable def slices_Index__int_int_4bb2 (N : Nat) {R : Type} (x0 : Nat) (x1 : Nat) (x2 : Int) (x3 : List (Int)) (x4 : Int) (x5 : Int) (x6 : List (((ByteArray) × (ByteArray)) × ((Int) × (Bool)))) (x7 : List ((Int) × (List (Int)))) (x8 : List ((Int) × (Int))) (k0 : (Int) → (List (Int)) → (Int) → (Int) → (List (((ByteArray) × (ByteArray)) × ((Int) × (Bool)))) → (List ((Int) × (List (Int)))) → (List ((Int) × (Int))) → Option R) : Option R := slices_Index__int_int_4bb2_T N (@slices_Index__int_int_4bb2_l0 N) x0 x1 x2 x3 x4 x5 x6 x7 x8 k0
abbrev ghost_Ghost_free_109a_Ty : Type 1 := {R : Type} → (List (Int)) → (Int) → (List ((Int) × (List (Int)))) → (List ((Int) × (Int))) → ((Int) → (Bool) → (List (Int)) → (Int) → (List ((Int) × (List (Int)))) → (List ((Int) × (Int))) → Option R) → Option R
noncomputable def ghost_Ghost_free_109a_T (N : Nat) (c0 : slices_Index__int_int_8e17_Ty) (c1 : slices_Index__int_int_4bb2_Ty) {R : Type} (x0 : List (Int)) (x1 : Int) (x2 : List ((Int) × (List (Int)))) (x3 : List ((Int) × (Int))) (k0 : (Int) → (Bool) → (List (Int)) → (Int) → (List ((Int) × (List (Int)))) → (List ((Int) × (Int))) → Option R) : Option R :=
  c0 (4 : Nat) (4 : Nat) (0 : Int) x0 x1 x2 x3
  (fun i359 l360 i361 l362 l363 => k0 i359 (decide ((0 : Int) ≤ i359)) l360 i361 l362 l363)
noncomputable def ghost_Ghost_free_109a (N : Nat) {R : Type} (x0 : List (Int)) (x1 : Int) (x2 : List ((Int) × (List (Int)))) (x3 : List ((Int) × (Int))) (k0 : (Int) → (Bool) → (List (Int)) → (Int) → (List ((Int) × (List (Int)))) → (List ((Int) × (Int))) → Option R) : Option R := ghost_Ghost_free_109a_T N (@slices_Index__int_int_8e17 N) (@slices_Index__int_int_4bb2 N) x0 x1 x2 x3 k0
abbrev ghost_Ghost_free_f1e4_Ty : Type 1 := {R : Type} → (List (Int)) → (Int) → (Int) → (List (((ByteArray) × (ByteArray)) × ((Int) × (Bool)))) → (List ((Int) × (List (Int)))) → (List ((Int) × (Int))) → ((Int) → (Bool) → (List (Int)) → (Int) → (Int) → (List (((ByteArray) × (ByteArray)) × ((Int) × (Bool)))) → (List ((Int) × (List (Int)))) → (List ((Int) × (Int))) → Option R) → Option R
noncomputable def ghost_Ghost_free_f1e4_T (N : Nat) (c0 : slices_Index__int_int_8e17_Ty) (c1 : slices_Index__int_int_4bb2_Ty) {R : Type} (x0 : List (Int)) (x1 : Int) (x2 : Int) (x3 : List (((ByteArray) × (ByteArray)) × ((Int) × (Bool)))) (x4 : List ((Int) × (List (Int)))) (x5 : List ((Int) × (Int))) (k0 : (Int) → (Bool) → (List (Int)) → (Int) → (Int) → (List (((ByteArray) × (ByteArray)) × ((Int) × (Bool)))) → (List ((Int) × (List (Int)))) → (List ((Int) × (Int))) → Option R) : Option R :=
  c1 (4 : Nat) (4 : Nat) (0 : Int) x0 x1 x2 x3 x4 x5
  (fun i488 l489 i490 i491 l492 l493 l494 => k0 i488 (decide ((0 : Int) ≤ i488)) l489 i490 i491 l492 l493 l494)
noncomputable def ghost_Ghost_free_f1e4 (N : Nat) {R : Type} (x0 : List (Int)) (x1 : Int) (x2 : Int) (x3 : List (((ByteArray) × (ByteArray)) × ((Int) × (Bool)))) (x4 : List ((Int) × (List (Int)))) (x5 : List ((Int) × (Int))) (k0 : (Int) → (Bool) → (List (Int)) → (Int) → (Int) → (List (((ByteArray) × (ByteArray)) × ((Int) × (Bool)))) → (List ((Int) × (List (Int)))) → (List ((Int) × (Int))) → Option R) : Option R := ghost_Ghost_free_f1e4_T N (@slices_Index__int_int_8e17 N) (@slices_Index__int_int_4bb2 N) x0 x1 x2 x3 x4 x5 k0
abbrev ghost_Ghost_file_4cb0_Ty : Type 1 := {R : Type} → (Int) → (List (Int)) → (Int) → (List ((Int) × (List (Int)))) → (List ((Int) × (Int))) → ((List (Int)) → (Int) → (List ((Int) × (List (Int)))) → (List ((Int) × (Int))) → Option R) → ((Int) → (List (Int)) → (Int) → (List ((Int) × (List (Int)))) → (List ((Int) × (Int))) → Option R) → Option R
noncomputable def ghost_Ghost_file_4cb0_T (N : Nat) {R : Type} (x0 : Int) (x1 : List (Int)) (x2 : Int) (x3 : List ((Int) × (List (Int)))) (x4 : List ((Int) × (Int))) (k0 : (List (Int)) → (Int) → (List ((Int) × (List (Int)))) → (List ((Int) × (Int))) → Option R) (k1 : (Int) → (List (Int)) → (Int) → (List ((Int) × (List (Int)))) → (List ((Int) × (Int))) → Option R) : Option R :=
  br (!(decide ((4 : Int) ≤ x0)))
  (br (inB x0 (4 : Nat))
   (br (decide ((Int.toNat x0) < (4 : Nat)))
    (br (decide ((List.getD x1 (Int.toNat x0) (0 : Int)) = (0 : Int)))
     (k0 x1 x2 x3 x4)
     (br (inB x0 (4 : Nat))
      (br (decide ((Int.toNat x0) < (4 : Nat)))
       (br (inB (IntKind.wrap .i64 ((List.getD x1 (Int.toNat x0) (0 : Int)) - (1 : Int))) (List.length x4))
        (k1 (IntKind.wrap .i64 ((List.getD x1 (Int.toNat x0) (0 : Int)) - (1 : Int))) x1 x2 x3 x4)
        (none))
       (none))
      (none)))
    (none))
   (none))
  (k0 x1 x2 x3 x4)
noncomputable def ghost_Ghost_file_4cb0 (N : Nat) {R : Type} (x0 : Int) (x1 : List (Int)) (x2 : Int) (x3 : List ((Int) × (List (Int)))) (x4 : List ((Int) × (Int))) (k0 : (List (Int)) → (Int) → (List ((Int) × (List (Int)))) → (List ((Int) × (Int))) → Option R) (k1 : (Int) → (List (Int)) → (Int) → (List ((Int) × (List (Int)))) → (List ((Int) × (Int))) → Option R) : Option R := ghost_Ghost_file_4cb0_T N x0 x1 x2 x3 x4 k0 k1
abbrev ghost_Ghost_file_7504_Ty : Type 1 := {R : Type} → (Int) → (List (Int)) → (Int) → (Int) → (List (((ByteArray) × (ByteArray)) × ((Int) × (Bool)))) → (List ((Int) × (List (Int)))) → (List ((Int) × (Int))) → ((List (Int)) → (Int) → (Int) → (List (((ByteArray) × (ByteArray)) × ((Int) × (Bool)))) → (List ((Int) × (List (Int)))) → (List ((Int) × (Int))) → Option R) → ((Int) → (List (Int)) → (Int) → (Int) → (List (((ByteArray) × (ByteArray)) × ((Int) × (Bool)))) → (List ((Int) × (List (Int)))) → (List ((Int) × (Int))) → Option R) → Option R
noncomputable def ghost_Ghost_file_7504_T (N : Nat) {R : Type} (x0 : Int) (x1 : List (Int)) (x2 : Int) (x3 : Int) (x4 : List (((ByteArray) × (ByteArray)) × ((Int) × (Bool)))) (x5 : List ((Int) × (List (Int)))) (x6 : List ((Int) × (Int))) (k0 : (List (Int)) → (Int) → (Int) → (List (((ByteArray) × (ByteArray)) × ((Int) × (Bool)))) → (List ((Int) × (List (Int)))) → (List ((Int) × (Int))) → Option R) (k1 : (Int) → (List (Int)) → (Int) → (Int) → (List (((ByteArray) × (ByteArray)) × ((Int) × (Bool)))) → (List ((Int) × (List (Int)))) → (List ((Int) × (Int))) → Option R) : Option R :=
  br (!(decide ((4 : Int) ≤ x0)))
  (br (inB x0 (4 : Nat))
   (br (decide ((Int.toNat x0) < (4 : Nat)))
    (br (decide ((List.getD x1 (Int.toNat x0) (0 : Int)) = (0 : Int)))
     (k0 x1 x2 x3 x4 x5 x6)
     (br (inB x0 (4 : Nat))
      (br (decide ((Int.toNat x0) < (4 : Nat)))
       (br (inB (IntKind.wrap .i64 ((List.getD x1 (Int.toNat x0) (0 : Int)) - (1 : Int))) (List.length x6))
        (k1 (IntKind.wrap .i64 ((List.getD x1 (Int.toNat x0) (0 : Int)) - (1 : Int))) x1 x2 x3 x4 x5 x6)
        (none))
       (none))
      (none)))
    (none))
   (none))
  (k0 x1 x2 x3 x4 x5 x6)
noncomputable def ghost_Ghost_file_7504 (N : Nat) {R : Type} (x0 : Int) (x1 : List (Int)) (x2 : Int) (x3 : Int) (x4 : List (((ByteArray) × (ByteArray)) × ((Int) × (Bool)))) (x5 : List ((Int) × (List (Int)))) (x6 : List ((Int) × (Int))) (k0 : (List (Int)) → (Int) → (Int) → (List (((ByteArray) × (ByteArray)) × ((Int) × (Bool)))) → (List ((Int) × (List (Int)))) → (List ((Int) × (Int))) → Option R) (k1 : (Int) → (List (Int)) → (Int) → (Int) → (List (((ByteArray) × (ByteArray)) × ((Int) × (Bool)))) → (List ((Int) × (List (Int)))) → (List ((Int) × (Int))) → Option R) : Option R := ghost_Ghost_file_7504_T N x0 x1 x2 x3 x4 x5 x6 k0 k1
abbrev ghost_Ghost_Read_ab5b_Ty : Type 1 := {R : Type} → (Int) → (Int) → (List (Int)) → (Int) → (List ((Int) × (List (Int)))) → (List ((Int) × (Int))) → ((Int) → (List (Int)) → (Int) → (List ((Int) × (List (Int)))) → (List ((Int) × (Int))) → (List (Int)) → Option R) → Option R
noncomputable def ghost_Ghost_Read_ab5b_T (N : Nat) (c0 : slices_Clone__term_T_term_T_Ty) (c1 : ghost_Ghost_file_4cb0_Ty) (c2 : ghost_Ghost_file_7504_Ty) {R : Type} (x0 : Int) (x1 : Int) (x2 : List (Int)) (x3 : Int) (x4 : List ((Int) × (List (Int)))) (x5 : List ((Int) × (Int))) (k0 : (Int) → (List (Int)) → (Int) → (List ((Int) × (List (Int)))) → (List ((Int) × (Int))) → (List (Int)) → Option R) : Option R :=
  c1 x0 x2 x3 x4 x5
  (fun l421 i422 l423 l424 => k0 (65289 : Int) l421 i422 l423 l424 ([] : List ((Sh.int IntKind.i64).T)))
  (fun i425 l426 i427 l428 l429 => br (decide ((Int.toNat i425) < (List.length l429)))
   (br (decide ((Int.toNat i425) < (List.length l429)))
    (br (leB (if ((Nat.cast (List.length (Option.getD (mfind (.int .i64) (.isl (.int .i64)) l428 (List.getD l429 (Int.toNat i425) ((0 : Int) , (0 : Int))).1) (Sh.zero (.isl (.int .i64))))) : Int) < (List.getD l429 (Int.toNat i425) ((0 : Int) , (0 : Int))).2) then (Nat.cast (List.length (Option.getD (mfind (.int .i64) (.isl (.int .i64)) l428 (List.getD l429 (Int.toNat i425) ((0 : Int) , (0 : Int))).1) (Sh.zero (.isl (.int .i64))))) : Int) else (List.getD l429 (Int.toNat i425) ((0 : Int) , (0 : Int))).2) (List.length (Option.getD (mfind (.int .i64) (.isl (.int .i64)) l428 (List.getD l429 (Int.toNat i425) ((0 : Int) , (0 : Int))).1) (Sh.zero (.isl (.int .i64))))))
     (br (leB (if ((Nat.cast (List.length (sub (Option.getD (mfind (.int .i64) (.isl (.int .i64)) l428 (List.getD l429 (Int.toNat i425) ((0 : Int) , (0 : Int))).1) (Sh.zero (.isl (.int .i64)))) (Int.toNat (if ((Nat.cast (List.length (Option.getD (mfind (.int .i64) (.isl (.int .i64)) l428 (List.getD l429 (Int.toNat i425) ((0 : Int) , (0 : Int))).1) (Sh.zero (.isl (.int .i64))))) : Int) < (List.getD l429 (Int.toNat i425) ((0 : Int) , (0 : Int))).2) then (Nat.cast (List.length (Option.getD (mfind (.int .i64) (.isl (.int .i64)) l428 (List.getD l429 (Int.toNat i425) ((0 : Int) , (0 : Int))).1) (Sh.zero (.isl (.int .i64))))) : Int) else (List.getD l429 (Int.toNat i425) ((0 : Int) , (0 : Int))).2)) ((List.length (Option.getD (mfind (.int .i64) (.isl (.int .i64)) l428 (List.getD l429 (Int.toNat i425) ((0 : Int) , (0 : Int))).1) (Sh.zero (.isl (.int .i64))))) - (Int.toNat (if ((Nat.cast (List.length (Option.getD (mfind (.int .i64) (.isl (.int .i64)) l428 (List.getD l429 (Int.toNat i425) ((0 : Int) , (0 : Int))).1) (Sh.zero (.isl (.int .i64))))) : Int) < (List.getD l429 (Int.toNat i425) ((0 : Int) , (0 : Int))).2) then (Nat.cast (List.length (Option.getD (mfind (.int .i64) (.isl (.int .i64)) l428 (List.getD l429 (Int.toNat i425) ((0 : Int) , (0 : Int))).1) (Sh.zero (.isl (.int .i64))))) : Int) else (List.getD l429 (Int.toNat i425) ((0 : Int) , (0 : Int))).2))))) : Int) < (IntKind.wrap .i64 x1)) then (Nat.cast (List.length (sub (Option.getD (mfind (.int .i64) (.isl (.int .i64)) l428 (List.getD l429 (Int.toNat i425) ((0 : Int) , (0 : Int))).1) (Sh.zero (.isl (.int .i64)))) (Int.toNat (if ((Nat.cast (List.length (Option.getD (mfind (.int .i64) (.isl (.int .i64)) l428 (List.getD l429 (Int.toNat i425) ((0 : Int) , (0 : Int))).1) (Sh.zero (.isl (.int .i64))))) : Int) < (List.getD l429 (Int.toNat i425) ((0 : Int) , (0 : Int))).2) then (Nat.cast (List.length (Option.getD (mfind (.int .i64) (.isl (.int .i64)) l428 (List.getD l429 (Int.toNat i425) ((0 : Int) , (0 : Int))).1) (Sh.zero (.isl (.int .i64))))) : Int) else (List.getD l429 (Int.toNat i425) ((0 : Int) , (0 : Int))).2)) ((List.length (Option.getD (mfind (.int .i64) (.isl (.int .i64)) l428 (List.getD l429 (Int.toNat i425) ((0 : Int) , (0 : Int))).1) (Sh.zero (.isl (.int .i64))))) - (Int.toNat (if ((Nat.cast (List.length (Option.getD (mfind (.int .i64) (.isl (.int .i64)) l428 (List.getD l429 (Int.toNat i425) ((0 : Int) , (0 : Int))).1) (Sh.zero (.isl (.int .i64))))) : Int) < (List.getD l429 (Int.toNat i425) ((0 : Int) , (0 : Int))).2) then (Nat.cast (List.length (Option.getD (mfind (.int .i64) (.isl (.int .i64)) l428 (List.getD l429 (Int.toNat i425) ((0 : Int) , (0 : Int))).1) (Sh.zero (.isl (.int .i64))))) : Int) else (List.getD l429 (Int.toNat i425) ((0 : Int) , (0 : Int))).2))))) : Int) else (IntKind.wrap .i64 x1)) (List.length (sub (Option.getD (mfind (.int .i64) (.isl (.int .i64)) l428 (List.getD l429 (Int.toNat i425) ((0 : Int) , (0 : Int))).1) (Sh.zero (.isl (.int .i64)))) (Int.toNat (if ((Nat.cast (List.length (Option.getD (mfind (.int .i64) (.isl (.int .i64)) l428 (List.getD l429 (Int.toNat i425) ((0 : Int) , (0 : Int))).1) (Sh.zero (.isl (.int .i64))))) : Int) < (List.getD l429 (Int.toNat i425) ((0 : Int) , (0 : Int))).2) then (Nat.cast (List.length (Option.getD (mfind (.int .i64) (.isl (.int .i64)) l428 (List.getD l429 (Int.toNat i425) ((0 : Int) , (0 : Int))).1) (Sh.zero (.isl (.int .i64))))) : Int) else (List.getD l429 (Int.toNat i425) ((0 : Int) , (0 : Int))).2)) ((List.length (Option.getD (mfind (.int .i64) (.isl (.int .i64)) l428 (List.getD l429 (Int.toNat i425) ((0 : Int) , (0 : Int))).1) (Sh.zero (.isl (.int .i64))))) - (Int.toNat (if ((Nat.cast (List.length (Option.getD (mfind (.int .i64) (.isl (.int .i64)) l428 (List.getD l429 (Int.toNat i425) ((0 : Int) , (0 : Int))).1) (Sh.zero (.isl (.int .i64))))) : Int) < (List.getD l429 (Int.toNat i425) ((0 : Int) , (0 : Int))).2) then (Nat.cast (List.length (Option.getD (mfind (.int .i64) (.isl (.int .i64)) l428 (List.getD l429 (Int.toNat i425) ((0 : Int) , (0 : Int))).1) (Sh.zero (.isl (.int .i64))))) : Int) else (List.getD l429 (Int.toNat i425) ((0 : Int) , (0 : Int))).2))))))
      (c0 (sub (sub (Option.getD (mfind (.int .i64) (.isl (.int .i64)) l428 (List.getD l429 (Int.toNat i425) ((0 : Int) , (0 : Int))).1) (Sh.zero (.isl (.int .i64)))) (Int.toNat (if ((Nat.cast (List.length (Option.getD (mfind (.int .i64) (.isl (.int .i64)) l428 (List.getD l429 (Int.toNat i425) ((0 : Int) , (0 : Int))).1) (Sh.zero (.isl (.int .i64))))) : Int) < (List.getD l429 (Int.toNat i425) ((0 : Int) , (0 : Int))).2) then (Nat.cast (List.length (Option.getD (mfind (.int .i64) (.isl (.int .i64)) l428 (List.getD l429 (Int.toNat i425) ((0 : Int) , (0 : Int))).1) (Sh.zero (.isl (.int .i64))))) : Int) else (List.getD l429 (Int.toNat i425) ((0 : Int) , (0 : Int))).2)) ((List.length (Option.getD (mfind (.int .i64) (.isl (.int .i64)) l428 (List.getD l429 (Int.toNat i425) ((0 : Int) , (0 : Int))).1) (Sh.zero (.isl (.int .i64))))) - (Int.toNat (if ((Nat.cast (List.length (Option.getD (mfind (.int .i64) (.isl (.int .i64)) l428 (List.getD l429 (Int.toNat i425) ((0 : Int) , (0 : Int))).1) (Sh.zero (.isl (.int .i64))))) : Int) < (List.getD l429 (Int.toNat i425) ((0 : Int) , (0 : Int))).2) then (Nat.cast (List.length (Option.getD (mfind (.int .i64) (.isl (.int .i64)) l428 (List.getD l429 (Int.toNat i425) ((0 : Int) , (0 : Int))).1) (Sh.zero (.isl (.int .i64))))) : Int) else (List.getD l429 (Int.toNat i425) ((0 : Int) , (0 : Int))).2)))) (0 : Nat) ((Int.toNat (if ((Nat.cast (List.length (sub (Option.getD (mfind (.int .i64) (.isl (.int .i64)) l428 (List.getD l429 (Int.toNat i425) ((0 : Int) , (0 : Int))).1) (Sh.zero (.isl (.int .i64)))) (Int.toNat (if ((Nat.cast (List.length (Option.getD (mfind (.int .i64) (.isl (.int .i64)) l428 (List.getD l429 (Int.toNat i425) ((0 : Int) , (0 : Int))).1) (Sh.zero (.isl (.int .i64))))) : Int) < (List.getD l429 (Int.toNat i425) ((0 : Int) , (0 : Int))).2) then (Nat.cast (List.length (Option.getD (mfind (.int .i64) (.isl (.int .i64)) l428 (List.getD l429 (Int.toNat i425) ((0 : Int) , (0 : Int))).1) (Sh.zero (.isl (.int .i64))))) : Int) else (List.getD l429 (Int.toNat i425) ((0 : Int) , (0 : Int))).2)) ((List.length (Option.getD (mfind (.int .i64) (.isl (.int .i64)) l428 (List.getD l429 (Int.toNat i425) ((0 : Int) , (0 : Int))).1) (Sh.zero (.isl (.int .i64))))) - (Int.toNat (if ((Nat.cast (List.length (Option.getD (mfind (.int .i64) (.isl (.int .i64)) l428 (List.getD l429 (Int.toNat i425) ((0 : Int) , (0 : Int))).1) (Sh.zero (.isl (.int .i64))))) : Int) < (List.getD l429 (Int.toNat i425) ((0 : Int) , (0 : Int))).2) then (Nat.cast (List.length (Option.getD (mfind (.int .i64) (.isl (.int .i64)) l428 (List.getD l429 (Int.toNat i425) ((0 : Int) , (0 : Int))).1) (Sh.zero (.isl (.int .i64))))) : Int) else (List.getD l429 (Int.toNat i425) ((0 : Int) , (0 : Int))).2))))) : Int) < (IntKind.wrap .i64 x1)) then (Nat.cast (List.length (sub (Option.getD (mfind (.int .i64) (.isl (.int .i64)) l428 (List.getD l429 (Int.toNat i425) ((0 : Int) , (0 : Int))).1) (Sh.zero (.isl (.int .i64)))) (Int.toNat (if ((Nat.cast (List.length (Option.getD (mfind (.int .i64) (.isl (.int .i64)) l428 (List.getD l429 (Int.toNat i425) ((0 : Int) , (0 : Int))).1) (Sh.zero (.isl (.int .i64))))) : Int) < (List.getD l429 (Int.toNat i425) ((0 : Int) , (0 : Int))).2) then (Nat.cast (List.length (Option.getD (mfind (.int .i64) (.isl (.int .i64)) l428 (List.getD l429 (Int.toNat i425) ((0 : Int) , (0 : Int))).1) (Sh.zero (.isl (.int .i64))))) : Int) else (List.getD l429 (Int.toNat i425) ((0 : Int) , (0 : Int))).2)) ((List.length (Option.getD (mfind (.int .i64) (.isl (.int .i64)) l428 (List.getD l429 (Int.toNat i425) ((0 : Int) , (0 : Int))).1) (Sh.zero (.isl (.int .i64))))) - (Int.toNat (if ((Nat.cast (List.length (Option.getD (mfind (.int .i64) (.isl (.int .i64)) l428 (List.getD l429 (Int.toNat i425) ((0 : Int) , (0 : Int))).1) (Sh.zero (.isl (.int .i64))))) : Int) < (List.getD l429 (Int.toNat i425) ((0 : Int) , (0 : Int))).2) then (Nat.cast (List.length (Option.getD (mfind (.int .i64) (.isl (.int .i64)) l428 (List.getD l429 (Int.toNat i425) ((0 : Int) , (0 : Int))).1) (Sh.zero (.isl (.int .i64))))) : Int) else (List.getD l429 (Int.toNat i425) ((0 : Int) , (0 : Int))).2))))) : Int) else (IntKind.wrap .i64 x1))) - (0 : Nat)))
       (fun l430 => br (decide ((Int.toNat i425) < (List.length l429)))
        (br (decide ((Int.toNat i425) < (List.length l429)))
         (k0 (IntKind.wrap .u16 (Nat.cast (List.length l430) : Int)) l426 i427 l428 (List.set l429 (Int.toNat i425) ((List.getD l429 (Int.toNat i425) ((0 : Int) , (0 : Int))).1 , (IntKind.wrap .i64 ((List.getD l429 (Int.toNat i425) ((0 : Int) , (0 : Int))).2 + (Nat.cast (List.length l430) : Int))))) l430)
         (none))
        (none)))
      (none))
     (none))
    (none))
   (none))
noncomputable def ghost_Ghost_Read_ab5b (N : Nat) {R : Type} (x0 : Int) (x1 : Int) (x2 : List (Int)) (x3 : Int) (x4 : List ((Int) × (List (Int)))) (x5 : List ((Int) × (Int))) (k0 : (Int) → (List (Int)) → (Int) → (List ((Int) × (List (Int)))) → (List ((Int) × (Int))) → (List (Int)) → Option R) : Option R := ghost_Ghost_Read_ab5b_T N @slices_Clone__term_T_term_T (@ghost_Ghost_file_4cb0 N) (@ghost_Ghost_file_7504 N) x0 x1 x2 x3 x4 x5 k0
abbrev ghost_Ghost_Read_5658_Ty : Type 1 := {R : Type} → (Int) → (Int) → (List (Int)) → (Int) → (Int) → (List (((ByteArray) × (ByteArray)) × ((Int) × (Bool)))) → (List ((Int) × (List (Int)))) → (List ((Int) × (Int))) → ((Int) → (List (Int)) → (Int) → (Int) → (List (((ByteArray) × (ByteArray)) × ((Int) × (Bool)))) → (List ((Int) × (List (Int)))) → (List ((Int) × (Int))) → (List (Int)) → Option R) → Option R
noncomputable def ghost_Ghost_Read_5658_T (N : Nat) (c0 : slices_Clone__term_T_term_T_Ty) (c1 : ghost_Ghost_file_4cb0_Ty) (c2 : ghost_Ghost_file_7504_Ty) {R : Type} (x0 : Int) (x1 : Int) (x2 : List (Int)) (x3 : Int) (x4 : Int) (x5 : List (((ByteArray) × (ByteArray)) × ((Int) × (Bool)))) (x6 : List ((Int) × (List (Int)))) (x7 : List ((Int) × (Int))) (k0 : (Int) → (List (Int)) → (Int) → (Int) → (List (((ByteArray) × (ByteArray)) × ((Int) × (Bool)))) → (List ((Int) × (List (Int)))) → (List ((Int) × (Int))) → (List (Int)) → Option R) : Option R :=
  c2 x0 x2 x3 x4 x5 x6 x7
  (fun l588 i589 i590 l591 l592 l593 => k0 (65289 : Int) l588 i589 i590 l591 l592 l593 ([] : List ((Sh.int IntKind.i64).T)))
  (fun i594 l595 i596 i597 l598 l599 l600 => br (decide ((Int.toNat i594) < (List.length l600)))
   (br (decide ((Int.toNat i594) < (List.length l600)))
    (br (leB (if ((Nat.cast (List.length (Option.getD (mfind (.int .i64) (.isl (.int .i64)) l599 (List.getD l600 (Int.toNat i594) ((0 : Int) , (0 : Int))).1) (Sh.zero (.isl (.int .i64))))) : Int) < (List.getD l600 (Int.toNat i594) ((0 : Int) , (0 : Int))).2) then (Nat.cast (List.length (Option.getD (mfind (.int .i64) (.isl (.int .i64)) l599 (List.getD l600 (Int.toNat i594) ((0 : Int) , (0 : Int))).1) (Sh.zero (.isl (.int .i64))))) : Int) else (List.getD l600 (Int.toNat i594) ((0 : Int) , (0 : Int))).2) (List.length (Option.getD (mfind (.int .i64) (.isl (.int .i64)) l599 (List.getD l600 (Int.toNat i594) ((0 : Int) , (0 : Int))).1) (Sh.zero (.isl (.int .i64))))))
     (br (leB (if ((Nat.cast (List.length (sub (Option.getD (mfind (.int .i64) (.isl (.int .i64)) l599 (List.getD l600 (Int.toNat i594) ((0 : Int) , (0 : Int))).1) (Sh.zero (.isl (.int .i64)))) (Int.toNat (if ((Nat.cast (List.length (Option.getD (mfind (.int .i64) (.isl (.int .i64)) l599 (List.getD l600 (Int.toNat i594) ((0 : Int) , (0 : Int))).1) (Sh.zero (.isl (.int .i64))))) : Int) < (List.getD l600 (Int.toNat i594) ((0 : Int) , (0 : Int))).2) then (Nat.cast (List.length (Option.getD (mfind (.int .i64) (.isl (.int .i64)) l599 (List.getD l600 (Int.toNat i594) ((0 : Int) , (0 : Int))).1) (Sh.zero (.isl (.int .i64))))) : Int) else (List.getD l600 (Int.toNat i594) ((0 : Int) , (0 : Int))).2)) ((List.length (Option.getD (mfind (.int .i64) (.isl (.int .i64)) l599 (List.getD l600 (Int.toNat i594) ((0 : Int) , (0 : Int))).1) (Sh.zero (.isl (.int .i64))))) - (Int.toNat (if ((Nat.cast (List.length (Option.getD (mfind (.int .i64) (.isl (.int .i64)) l599 (List.getD l600 (Int.toNat i594) ((0 : Int) , (0 : Int))).1) (Sh.zero (.isl (.int .i64))))) : Int) < (List.getD l600 (Int.toNat i594) ((0 : Int) , (0 : Int))).2) then (Nat.cast (List.length (Option.getD (mfind (.int .i64) (.isl (.int .i64)) l599 (List.getD l600 (Int.toNat i594) ((0 : Int) , (0 : Int))).1) (Sh.zero (.isl (.int .i64))))) : Int) else (List.getD l600 (Int.toNat i594) ((0 : Int) , (0 : Int))).2))))) : Int) < (IntKind.wrap .i64 x1)) then (Nat.cast (List.length (sub (Option.getD (mfind (.int .i64) (.isl (.int .i64)) l599 (List.getD l600 (Int.toNat i594) ((0 : Int) , (0 : Int))).1) (Sh.zero (.isl (.int .i64)))) (Int.toNat (if ((Nat.cast (List.length (Option.getD (mfind (.int .i64) (.isl (.int .i64)) l599 (List.getD l600 (Int.toNat i594) ((0 : Int) , (0 : Int))).1) (Sh.zero (.isl (.int .i64))))) : Int) < (List.getD l600 (Int.toNat i594) ((0 : Int) , (0 : Int))).2) then (Nat.cast (List.length (Option.getD (mfind (.int .i64) (.isl (.int .i64)) l599 (List.getD l600 (Int.toNat i594) ((0 : Int) , (0 : Int))).1) (Sh.zero (.isl (.int .i64))))) : Int) else (List.getD l600 (Int.toNat i594) ((0 : Int) , (0 : Int))).2)) ((List.length (Option.getD (mfind (.int .i64) (.isl (.int .i64)) l599 (List.getD l600 (Int.toNat i594) ((0 : Int) , (0 : Int))).1) (Sh.zero (.isl (.int .i64))))) - (Int.toNat (if ((Nat.cast (List.length (Option.getD (mfind (.int .i64) (.isl (.int .i64)) l599 (List.getD l600 (Int.toNat i594) ((0 : Int) , (0 : Int))).1) (Sh.zero (.isl (.int .i64))))) : Int) < (List.getD l600 (Int.toNat i594) ((0 : Int) , (0 : Int))).2) then (Nat.cast (List.length (Option.getD (mfind (.int .i64) (.isl (.int .i64)) l599 (List.getD l600 (Int.toNat i594) ((0 : Int) , (0 : Int))).1) (Sh.zero (.isl (.int .i64))))) : Int) else (List.getD l600 (Int.toNat i594) ((0 : Int) , (0 : Int))).2))))) : Int) else (IntKind.wrap .i64 x1)) (List.length (sub (Option.getD (mfind (.int .i64) (.isl (.int .i64)) l599 (List.getD l600 (Int.toNat i594) ((0 : Int) , (0 : Int))).1) (Sh.zero (.isl (.int .i64)))) (Int.toNat (if ((Nat.cast (List.length (Option.getD (mfind (.int .i64) (.isl (.int .i64)) l599 (List.getD l600 (Int.toNat i594) ((0 : Int) , (0 : Int))).1) (Sh.zero (.isl (.int .i64))))) : Int) < (List.getD l600 (Int.toNat i594) ((0 : Int) , (0 : Int))).2) then (Nat.cast (List.length (Option.getD (mfind (.int .i64) (.isl (.int .i64)) l599 (List.getD l600 (Int.toNat i594) ((0 : Int) , (0 : Int))).1) (Sh.zero (.isl (.int .i64))))) : Int) else (List.getD l600 (Int.toNat i594) ((0 : Int) , (0 : Int))).2)) ((List.length (Option.getD (mfind (.int .i64) (.isl (.int .i64)) l599 (List.getD l600 (Int.toNat i594) ((0 : Int) , (0 : Int))).1) (Sh.zero (.isl (.int .i64))))) - (Int.toNat (if ((Nat.cast (List.length (Option.getD (mfind (.int .i64) (.isl (.int .i64)) l599 (List.getD l600 (Int.toNat i594) ((0 : Int) , (0 : Int))).1) (Sh.zero (.isl (.int .i64))))) : Int) < (List.getD l600 (Int.toNat i594) ((0 : Int) , (0 : Int))).2) then (Nat.cast (List.length (Option.getD (mfind (.int .i64) (.isl (.int .i64)) l599 (List.getD l600 (Int.toNat i594) ((0 : Int) , (0 : Int))).1) (Sh.zero (.isl (.int .i64))))) : Int) else (List.getD l600 (Int.toNat i594) ((0 : Int) , (0 : Int))).2))))))
      (c0 (sub (sub (Option.getD (mfind (.int .i64) (.isl (.int .i64)) l599 (List.getD l600 (Int.toNat i594) ((0 : Int) , (0 : Int))).1) (Sh.zero (.isl (.int .i64)))) (Int.toNat (if ((Nat.cast (List.length (Option.getD (mfind (.int .i64) (.isl (.int .i64)) l599 (List.getD l600 (Int.toNat i594) ((0 : Int) , (0 : Int))).1) (Sh.zero (.isl (.int .i64))))) : Int) < (List.getD l600 (Int.toNat i594) ((0 : Int) , (0 : Int))).2) then (Nat.cast (List.length (Option.getD (mfind (.int .i64) (.isl (.int .i64)) l599 (List.getD l600 (Int.toNat i594) ((0 : Int) , (0 : Int))).1) (Sh.zero (.isl (.int .i64))))) : Int) else (List.getD l600 (Int.toNat i594) ((0 : Int) , (0 : Int))).2)) ((List.length (Option.getD (mfind (.int .i64) (.isl (.int .i64)) l599 (List.getD l600 (Int.toNat i594) ((0 : Int) , (0 : Int))).1) (Sh.zero (.isl (.int .i64))))) - (Int.toNat (if ((Nat.cast (List.length (Option.getD (mfind (.int .i64) (.isl (.int .i64)) l599 (List.getD l600 (Int.toNat i594) ((0 : Int) , (0 : Int))).1) (Sh.zero (.isl (.int .i64))))) : Int) < (List.getD l600 (Int.toNat i594) ((0 : Int) , (0 : Int))).2) then (Nat.cast (List.length (Option.getD (mfind (.int .i64) (.isl (.int .i64)) l599 (List.getD l600 (Int.toNat i594) ((0 : Int) , (0 : Int))).1) (Sh.zero (.isl (.int .i64))))) : Int) else (List.getD l600 (Int.toNat i594) ((0 : Int) , (0 : Int))).2)))) (0 : Nat) ((Int.toNat (if ((Nat.cast (List.length (sub (Option.getD (mfind (.int .i64) (.isl (.int .i64)) l599 (List.getD l600 (Int.toNat i594) ((0 : Int) , (0 : Int))).1) (Sh.zero (.isl (.int .i64)))) (Int.toNat (if ((Nat.cast (List.length (Option.getD (mfind (.int .i64) (.isl (.int .i64)) l599 (List.getD l600 (Int.toNat i594) ((0 : Int) , (0 : Int))).1) (Sh.zero (.isl (.int .i64))))) : Int) < (List.getD l600 (Int.toNat i594) ((0 : Int) , (0 : Int))).2) then (Nat.cast (List.length (Option.getD (mfind (.int .i64) (.isl (.int .i64)) l599 (List.getD l600 (Int.toNat i594) ((0 : Int) , (0 : Int))).1) (Sh.zero (.isl (.int .i64))))) : Int) else (List.getD l600 (Int.toNat i594) ((0 : Int) , (0 : Int))).2)) ((List.length (Option.getD (mfind (.int .i64) (.isl (.int .i64)) l599 (List.getD l600 (Int.toNat i594) ((0 : Int) , (0 : Int))).1) (Sh.zero (.isl (.int .i64))))) - (Int.toNat (if ((Nat.cast (List.length (Option.getD (mfind (.int .i64) (.isl (.int .i64)) l599 (List.getD l600 (Int.toNat i594) ((0 : Int) , (0 : Int))).1) (Sh.zero (.isl (.int .i64))))) : Int) < (List.getD l600 (Int.toNat i594) ((0 : Int) , (0 : Int))).2) then (Nat.cast (List.length (Option.getD (mfind (.int .i64) (.isl (.int .i64)) l599 (List.getD l600 (Int.toNat i594) ((0 : Int) , (0 : Int))).1) (Sh.zero (.isl (.int .i64))))) : Int) else (List.getD l600 (Int.toNat i594) ((0 : Int) , (0 : Int))).2))))) : Int) < (IntKind.wrap .i64 x1)) then (Nat.cast (List.length (sub (Option.getD (mfind (.int .i64) (.isl (.int .i64)) l599 (List.getD l600 (Int.toNat i594) ((0 : Int) , (0 : Int))).1) (Sh.zero (.isl (.int .i64)))) (Int.toNat (if ((Nat.cast (List.length (Option.getD (mfind (.int .i64) (.isl (.int .i64)) l599 (List.getD l600 (Int.toNat i594) ((0 : Int) , (0 : Int))).1) (Sh.zero (.isl (.int .i64))))) : Int) < (List.getD l600 (Int.toNat i594) ((0 : Int) , (0 : Int))).2) then (Nat.cast (List.length (Option.getD (mfind (.int .i64) (.isl (.int .i64)) l599 (List.getD l600 (Int.toNat i594) ((0 : Int) , (0 : Int))).1) (Sh.zero (.isl (.int .i64))))) : Int) else (List.getD l600 (Int.toNat i594) ((0 : Int) , (0 : Int))).2)) ((List.length (Option.getD (mfind (.int .i64) (.isl (.int .i64)) l599 (List.getD l600 (Int.toNat i594) ((0 : Int) , (0 : Int))).1) (Sh.zero (.isl (.int .i64))))) - (Int.toNat (if ((Nat.cast (List.length (Option.getD (mfind (.int .i64) (.isl (.int .i64)) l599 (List.getD l600 (Int.toNat i594) ((0 : Int) , (0 : Int))).1) (Sh.zero (.isl (.int .i64))))) : Int) < (List.getD l600 (Int.toNat i594) ((0 : Int) , (0 : Int))).2) then (Nat.cast (List.length (Option.getD (mfind (.int .i64) (.isl (.int .i64)) l599 (List.getD l600 (Int.toNat i594) ((0 : Int) , (0 : Int))).1) (Sh.zero (.isl (.int .i64))))) : Int) else (List.getD l600 (Int.toNat i594) ((0 : Int) , (0 : Int))).2))))) : Int) else (IntKind.wrap .i64 x1))) - (0 : Nat)))
       (fun l601 => br (decide ((Int.toNat i594) < (List.length l600)))
        (br (decide ((Int.toNat i594) < (List.length l600)))
         (k0 (IntKind.wrap .u16 (Nat.cast (List.length l601) : Int)) l595 i596 i597 l598 l599 (List.set l600 (Int.toNat i594) ((List.getD l600 (Int.toNat i594) ((0 : Int) , (0 : Int))).1 , (IntKind.wrap .i64 ((List.getD l600 (Int.toNat i594) ((0 : Int) , (0 : Int))).2 + (Nat.cast (List.length l601) : Int))))) l601)
         (none))
        (none)))
      (none))
     (none))
    (none))
   (none))
noncomputable def ghost_Ghost_Read_5658 (N : Nat) {R : Type} (x0 : Int) (x1 : Int) (x2 : List (Int)) (x3 : Int) (x4 : Int) (x5 : List (((ByteArray) × (ByteArray)) × ((Int) × (Bool)))) (x6 : List ((Int) × (List (Int)))) (x7 : List ((Int) × (Int))) (k0 : (Int) → (List (Int)) → (Int) → (Int) → (List (((ByteArray) × (ByteArray)) × ((Int) × (Bool)))) → (List ((Int) × (List (Int)))) → (List ((Int) × (Int))) → (List (Int)) → Option R) : Option R := ghost_Ghost_Read_5658_T N @slices_Clone__term_T_term_T (@ghost_Ghost_file_4cb0 N) (@ghost_Ghost_file_7504 N) x0 x1 x2 x3 x4 x5 x6 x7 k0
abbrev ghost_Ghost_Size_4cb0_Ty : Type 1 := {R : Type} → (Int) → (List (Int)) → (Int) → (List ((Int) × (List (Int)))) → (List ((Int) × (Int))) → ((Int) → (List (Int)) → (Int) → (List ((Int) × (List (Int)))) → (List ((Int) × (Int))) → Option R) → Option R
noncomputable def ghost_Ghost_Size_4cb0_T (N : Nat) (c0 : ghost_Ghost_file_4cb0_Ty) (c1 : ghost_Ghost_file_7504_Ty) {R : Type} (x0 : Int) (x1 : List (Int)) (x2 : Int) (x3 : List ((Int) × (List (Int)))) (x4 : List ((Int) × (Int))) (k0 : (Int) → (List (Int)) → (Int) → (List ((Int) × (List (Int)))) → (List ((Int) × (Int))) → Option R) : Option R :=
  c0 x0 x1 x2 x3 x4
  (fun l437 i438 l439 l440 => k0 (65289 : Int) l437 i438 l439 l440)
  (fun i441 l442 i443 l444 l445 => br (decide ((Int.toNat i441) < (List.length l445)))
   (k0 (IntKind.wrap .u16 (Nat.cast (List.length (Option.getD (mfind (.int .i64) (.isl (.int .i64)) l444 (List.getD l445 (Int.toNat i441) ((0 : Int) , (0 : Int))).1) (Sh.zero (.isl (.int .i64))))) : Int)) l442 i443 l444 l445)
   (none))
noncomputable def ghost_Ghost_Size_4cb0 (N : Nat) {R : Type} (x0 : Int) (x1 : List (Int)) (x2 : Int) (x3 : List ((Int) × (List (Int)))) (x4 : List ((Int) × (Int))) (k0 : (Int) → (List (Int)) → (Int) → (List ((Int) × (List (Int)))) → (List ((Int) × (Int))) → Option R) : Option R := ghost_Ghost_Size_4cb0_T N (@ghost_Ghost_file_4cb0 N) (@ghost_Ghost_file_7504 N) x0 x1 x2 x3 x4 k0
abbrev ghost_Ghost_Size_7504_Ty : Type 1 := {R : Type} → (Int) → (List (Int)) → (Int) → (Int) → (List (((ByteArray) × (ByteArray)) × ((Int) × (Bool)))) → (List ((Int) × (List (Int)))) → (List ((Int) × (Int))) → ((Int) → (List (Int)) → (Int) → (Int) → (List (((ByteArray) × (ByteArray)) × ((Int) × (Bool)))) → (List ((Int) × (List (Int)))) → (List ((Int) × (Int))) → Option R) → Option R
noncomputable def ghost_Ghost_Size_7504_T (N : Nat) (c0 : ghost_Ghost_file_4cb0_Ty) (c1 : ghost_Ghost_file_7504_Ty) {R : Type} (x0 : Int) (x1 : List (Int)) (x2 : Int) (x3 : Int) (x4 : List (((ByteArray) × (ByteArray)) × ((Int) × (Bool)))) (x5 : List ((Int) × (List (Int)))) (x6 : List ((Int) × (Int))) (k0 : (Int) → (List (Int)) → (Int) → (Int) → (List (((ByteArray) × (ByteArray)) × ((Int) × (Bool)))) → (List ((Int) × (List (Int)))) → (List ((Int) × (Int))) → Option R) : Option R :=
  c1 x0 x1 x2 x3 x4 x5 x6
  (fun l610 i611 i612 l613 l614 l615 => k0 (65289 : Int) l610 i611 i612 l613 l614 l615)
  (fun i616 l617 i618 i619 l620 l621 l622 => br (decide ((Int.toNat i616) < (List.length l622)))
   (k0 (IntKind.wrap .u16 (Nat.cast (List.length (Option.getD (mfind (.int .i64) (.isl (.int .i64)) l621 (List.getD l622 (Int.toNat i616) ((0 : Int) , (0 : Int))).1) (Sh.zero (.isl (.int .i64))))) : Int)) l617 i618 i619 l620 l621 l622)
   (none))
noncomputable def ghost_Ghost_Size_7504 (N : Nat) {R : Type} (x0 : Int) (x1 : List (Int)) (x2 : Int) (x3 : Int) (x4 : List (((ByteArray) × (ByteArray)) × ((Int) × (Bool)))) (x5 : List ((Int) × (List (Int)))) (x6 : List ((Int) × (Int))) (k0 : (Int) → (List (Int)) → (Int) → (Int) → (List (((ByteArray) × (ByteArray)) × ((Int) × (Bool)))) → (List ((Int) × (List (Int)))) → (List ((Int) × (Int))) → Option R) : Option R := ghost_Ghost_Size_7504_T N (@ghost_Ghost_file_4cb0 N) (@ghost_Ghost_file_7504 N) x0 x1 x2 x3 x4 x5 x6 k0
abbrev tree_Tree_get_fb98_Ty : Type 1 := {R : Type} → (ByteArray) → (Int) → (List (((ByteArray) × (ByteArray)) × ((Int) × (Bool)))) → ((Int) → (Bool) → (Int) → (Int) → (List (((ByteArray) × (ByteArray)) × ((Int) × (Bool)))) → Option R) → Option R
noncomputable def tree_Tree_get_fb98_T (N : Nat) (c0 : tree_Tree_above_2de7_Ty) (c1 : tree_of_Ty) {R : Type} (x0 : ByteArray) (x1 : Int) (x2 : List (((ByteArray) × (ByteArray)) × ((Int) × (Bool)))) (k0 : (Int) → (Bool) → (Int) → (Int) → (List (((ByteArray) × (ByteArray)) × ((Int) × (Bool)))) → Option R) : Option R :=
  c1 x0
  (fun s460 s461 => c0 s460 s461 x1 x2
   (fun i462 i463 l464 => br (!(decide (i462 = (0 : Int))))
    (k0 (0 : Int) false i462 i463 l464)
    (br ((Option.isSome (mfind (.pair .str .str) (.pair (.int .i64) .bool) l464 (s460 , s461))) == (Option.isSome (mfind (.pair .str .str) (.pair (.int .i64) .bool) l464 (s460 , s461))))
     (br (!(Option.isSome (mfind (.pair .str .str) (.pair (.int .i64) .bool) l464 (s460 , s461))))
      (k0 (0 : Int) false (65282 : Int) i463 l464)
      (k0 (Option.getD (mfind (.pair .str .str) (.pair (.int .i64) .bool) l464 (s460 , s461)) ((0 : Int) , false)).1 (Option.getD (mfind (.pair .str .str) (.pair (.int .i64) .bool) l464 (s460 , s461)) ((0 : Int) , false)).2 (0 : Int) i463 l464))
     (none))))
noncomputable def tree_Tree_get_fb98 (N : Nat) {R : Type} (x0 : ByteArray) (x1 : Int) (x2 : List (((ByteArray) × (ByteArray)) × ((Int) × (Bool)))) (k0 : (Int) → (Bool) → (Int) → (Int) → (List (((ByteArray) × (ByteArray)) × ((Int) × (Bool)))) → Option R) : Option R := tree_Tree_get_fb98_T N (@tree_Tree_above_2de7 N) (@tree_of N) x0 x1 x2 k0
abbrev tree_Tree_Find_Ty : Type 1 := {R : Type} → (ByteArray) → ((Int) → (Bool) → (Int) → Option R) → Option R
noncomputable def tree_Tree_Find_T (N : Nat) (c0 : tree_Tree_get_fb98_Ty) {R : Type} (x0 : ByteArray) (k0 : (Int) → (Bool) → (Int) → Option R) : Option R :=
  k0 (0 : Int) false (0 : Int)
noncomputable def tree_Tree_Find (N : Nat) {R : Type} (x0 : ByteArray) (k0 : (Int) → (Bool) → (Int) → Option R) : Option R := tree_Tree_Find_T N (@tree_Tree_get_fb98 N) x0 k0
abbrev tree_Tree_Find_fb98_Ty : Type 1 := {R : Type} → (ByteArray) → (Int) → (List (((ByteArray) × (ByteArray)) × ((Int) × (Bool)))) → ((Int) → (Bool) → (Int) → (Int) → (List (((ByteArray) × (ByteArray)) × ((Int) × (Bool)))) → Option R) → Option R
noncomputable def tree_Tree_Find_fb98_T (N : Nat) (c0 : tree_Tree_get_fb98_Ty) {R : Type} (x0 : ByteArray) (x1 : Int) (x2 : List (((ByteArray) × (ByteArray)) × ((Int) × (Bool)))) (k0 : (Int) → (Bool) → (Int) → (Int) → (List (((ByteArray) × (ByteArray)) × ((Int) × (Bool)))) → Option R) : Option R :=
  c0 x0 x1 x2
  (fun i465 b466 i467 i468 l469 => br (!(decide (i467 = (0 : Int))))
   (k0 (-1 : Int) false i467 i468 l469)
   (k0 i465 b466 (0 : Int) i468 l469))
noncomputable def tree_Tree_Find_fb98 (N : Nat) {R : Type} (x0 : ByteArray) (x1 : Int) (x2 : List (((ByteArray) × (ByteArray)) × ((Int) × (Bool)))) (k0 : (Int) → (Bool) → (Int) → (Int) → (List (((ByteArray) × (ByteArray)) × ((Int) × (Bool)))) → Option R) : Option R := tree_Tree_Find_fb98_T N (@tree_Tree_get_fb98 N) x0 x1 x2 k0
abbrev maps_Clone_map_tree_keytree_entry_tree_key_tree_entry_df6b_Ty : Type 1 := {R : Type} → (List (((ByteArray) × (ByteArray)) × ((Int) × (Bool)))) → ((List (((ByteArray) × (ByteArray)) × ((Int) × (Bool)))) → (List (((ByteArray) × (ByteArray)) × ((Int) × (Bool)))) → Option R) → Option R
noncomputable def maps_Clone_map_tree_keytree_entry_tree_key_tree_entry_df6b {R : Type} (x0 : List (((ByteArray) × (ByteArray)) × ((Int) × (Bool)))) (k0 : (List (((ByteArray) × (ByteArray)) × ((Int) × (Bool)))) → (List (((ByteArray) × (ByteArray)) × ((Int) × (Bool)))) → Option R) : Option R := k0 x0 x0
abbrev tree_Tree_Copy_Ty : Type 1 := {R : Type} → (Option R) → Option R
noncomputable def tree_Tree_Copy_T (N : Nat) (c0 : maps_Clone_map_tree_keytree_entry_tree_key_tree_entry_df6b_Ty) {R : Type} (k0 : Option R) : Option R :=
  k0
noncomputable def tree_Tree_Copy (N : Nat) {R : Type} (k0 : Option R) : Option R := tree_Tree_Copy_T N @maps_Clone_map_tree_keytree_entry_tree_key_tree_entry_df6b k0
abbrev tree_Tree_Copy_a28d_Ty : Type 1 := {R : Type} → (Int) → (List (((ByteArray) × (ByteArray)) × ((Int) × (Bool)))) → ((Int) → (List (((ByteArray) × (ByteArray)) × ((Int) × (Bool)))) → (Int) → (List (((ByteArray) × (ByteArray)) × ((Int) × (Bool)))) → Option R) → Option R
noncomputable def tree_Tree_Copy_a28d_T (N : Nat) (c0 : maps_Clone_map_tree_keytree_entry_tree_key_tree_entry_df6b_Ty) {R : Type} (x0 : Int) (x1 : List (((ByteArray) × (ByteArray)) × ((Int) × (Bool)))) (k0 : (Int) → (List (((ByteArray) × (ByteArray)) × ((Int) × (Bool)))) → (Int) → (List (((ByteArray) × (ByteArray)) × ((Int) × (Bool)))) → Option R) : Option R :=
  c0 x1
  (fun l503 l504 => br (decide (x0 = x0))
   (k0 x0 l503 x0 l504)
   (none))
noncomputable def tree_Tree_Copy_a28d (N : Nat) {R : Type} (x0 : Int) (x1 : List (((ByteArray) × (ByteArray)) × ((Int) × (Bool)))) (k0 : (Int) → (List (((ByteArray) × (ByteArray)) × ((Int) × (Bool)))) → (Int) → (List (((ByteArray) × (ByteArray)) × ((Int) × (Bool)))) → Option R) : Option R := tree_Tree_Copy_a28d_T N @maps_Clone_map_tree_keytree_entry_tree_key_tree_entry_df6b x0 x1 k0
abbrev ghost_Ghost_may_9183_Ty : Type 1 := {R : Type} → (ByteArray) → (List (Int)) → (Int) → (List ((Int) × (List (Int)))) → (List ((Int) × (Int))) → ((Bool) → (List (Int)) → (Int) → (List ((Int) × (List (Int)))) → (List ((Int) × (Int))) → Option R) → Option R
noncomputable def ghost_Ghost_may_9183_T (N : Nat) (c0 : tree_Tree_Make_c502_Ty) (c1 : tree_Tree_Make_Ty) (c2 : tree_Tree_Copy_Ty) (c3 : tree_Tree_Copy_a28d_Ty) {R : Type} (x0 : ByteArray) (x1 : List (Int)) (x2 : Int) (x3 : List ((Int) × (List (Int)))) (x4 : List ((Int) × (Int))) (k0 : (Bool) → (List (Int)) → (Int) → (List ((Int) × (List (Int)))) → (List ((Int) × (Int))) → Option R) : Option R :=
  c2
  (c1 x0 false
   (fun i370 i371 => k0 (!(decide (i371 = (65282 : Int)))) x1 x2 x3 x4))
noncomputable def ghost_Ghost_may_9183 (N : Nat) {R : Type} (x0 : ByteArray) (x1 : List (Int)) (x2 : Int) (x3 : List ((Int) × (List (Int)))) (x4 : List ((Int) × (Int))) (k0 : (Bool) → (List (Int)) → (Int) → (List ((Int) × (List (Int)))) → (List ((Int) × (Int))) → Option R) : Option R := ghost_Ghost_may_9183_T N (@tree_Tree_Make_c502 N) (@tree_Tree_Make N) (@tree_Tree_Copy N) (@tree_Tree_Copy_a28d N) x0 x1 x2 x3 x4 k0
abbrev ghost_Ghost_may_e876_Ty : Type 1 := {R : Type} → (ByteArray) → (List (Int)) → (Int) → (Int) → (List (((ByteArray) × (ByteArray)) × ((Int) × (Bool)))) → (List ((Int) × (List (Int)))) → (List ((Int) × (Int))) → ((Bool) → (List (Int)) → (Int) → (Int) → (List (((ByteArray) × (ByteArray)) × ((Int) × (Bool)))) → (List ((Int) × (List (Int)))) → (List ((Int) × (Int))) → Option R) → Option R
noncomputable def ghost_Ghost_may_e876_T (N : Nat) (c0 : tree_Tree_Make_c502_Ty) (c1 : tree_Tree_Make_Ty) (c2 : tree_Tree_Copy_Ty) (c3 : tree_Tree_Copy_a28d_Ty) {R : Type} (x0 : ByteArray) (x1 : List (Int)) (x2 : Int) (x3 : Int) (x4 : List (((ByteArray) × (ByteArray)) × ((Int) × (Bool)))) (x5 : List ((Int) × (List (Int)))) (x6 : List ((Int) × (Int))) (k0 : (Bool) → (List (Int)) → (Int) → (Int) → (List (((ByteArray) × (ByteArray)) × ((Int) × (Bool)))) → (List ((Int) × (List (Int)))) → (List ((Int) × (Int))) → Option R) : Option R :=
  c3 x3 x4
  (fun i505 l506 i507 l508 => c0 x0 false i507 l508
   (fun i509 i510 i511 l512 => k0 (!(decide (i510 = (65282 : Int)))) x1 x2 i505 l506 x5 x6))
noncomputable def ghost_Ghost_may_e876 (N : Nat) {R : Type} (x0 : ByteArray) (x1 : List (Int)) (x2 : Int) (x3 : Int) (x4 : List (((ByteArray) × (ByteArray)) × ((Int) × (Bool)))) (x5 : List ((Int) × (List (Int)))) (x6 : List ((Int) × (Int))) (k0 : (Bool) → (List (Int)) → (Int) → (Int) → (List (((ByteArray) × (ByteArray)) × ((Int) × (Bool)))) → (List ((Int) × (List (Int)))) → (List ((Int) × (Int))) → Option R) : Option R := ghost_Ghost_may_e876_T N (@tree_Tree_Make_c502 N) (@tree_Tree_Make N) (@tree_Tree_Copy N) (@tree_Tree_Copy_a28d N) x0 x1 x2 x3 x4 x5 x6 k0
abbrev ghost_Ghost_Open_9183_Ty : Type 1 := {R : Type} → (ByteArray) → (List (Int)) → (Int) → (List ((Int) × (List (Int)))) → (List ((Int) × (Int))) → ((Int) → (List (Int)) → (Int) → (List ((Int) × (List (Int)))) → (List ((Int) × (Int))) → Option R) → Option R
noncomputable def ghost_Ghost_Open_9183_T (N : Nat) (c0 : tree_Tree_Make_c502_Ty) (c1 : tree_Tree_Make_Ty) (c2 : ghost_Ghost_may_9183_Ty) (c3 : ghost_Ghost_may_e876_Ty) (c4 : ghost_Ghost_free_109a_Ty) (c5 : ghost_Ghost_free_f1e4_Ty) (c6 : tree_Tree_Find_Ty) (c7 : tree_Tree_Find_fb98_Ty) {R : Type} (x0 : ByteArray) (x1 : List (Int)) (x2 : Int) (x3 : List ((Int) × (List (Int)))) (x4 : List ((Int) × (Int))) (k0 : (Int) → (List (Int)) → (Int) → (List ((Int) × (List (Int)))) → (List ((Int) × (Int))) → Option R) : Option R :=
  c6 x0
  (fun i379 b380 i381 => c4 x1 x2 x3 x4
   (fun i382 b383 l384 i385 l386 l387 => br (decide (i381 = (0 : Int)))
    (br b380
     (k0 (65301 : Int) l384 i385 l386 l387)
     (br (decide (i381 = (65300 : Int)))
      (k0 i381 l384 i385 l386 l387)
      (br (!(decide (i381 = (0 : Int))))
       (c2 x0 l384 i385 l386 l387
        (fun b388 l389 i390 l391 l392 => br (!b388)
         (k0 (65282 : Int) l389 i390 l391 l392)
         (br (!b383)
          (k0 (65304 : Int) l389 i390 l391 l392)
          (br (!(decide (i381 = (0 : Int))))
           (c1 x0 false
            (fun i393 i394 => br (!(decide (i394 = (0 : Int))))
             (k0 i394 l389 i390 l391 l392)
             (br (((fits (0 : Nat) (List.length l392) l392) && (decide ((((List.length l392) + (1 : Nat)) * (16 : Nat)) ≤ (70368744177664 : Nat)))) && true)
              (br (inB i382 (4 : Nat))
               (br (decide ((Int.toNat i382) < (4 : Nat)))
                (k0 (IntKind.wrap .u16 i382) (List.set l389 (Int.toNat i382) (Nat.cast ((List.length l392) + (1 : Nat)) : Int)) i390 l391 ((sub l392 (0 : Nat) (List.length l392)) ++ ((i393 , (0 : Int)) :: ([] : List (((Sh.int IntKind.i64).pair (Sh.int IntKind.i64)).T)))))
                (none))
               (none))
              (none))))
           (br (((fits (0 : Nat) (List.length l392) l392) && (decide ((((List.length l392) + (1 : Nat)) * (16 : Nat)) ≤ (70368744177664 : Nat)))) && true)
            (br (inB i382 (4 : Nat))
             (br (decide ((Int.toNat i382) < (4 : Nat)))
              (k0 (IntKind.wrap .u16 i382) (List.set l389 (Int.toNat i382) (Nat.cast ((List.length l392) + (1 : Nat)) : Int)) i390 l391 ((sub l392 (0 : Nat) (List.length l392)) ++ ((i379 , (0 : Int)) :: ([] : List (((Sh.int IntKind.i64).pair (Sh.int IntKind.i64)).T)))))
              (none))
             (none))
            (none))))))
       (br (!b383)
        (k0 (65304 : Int) l384 i385 l386 l387)
        (br (!(decide (i381 = (0 : Int))))
         (c1 x0 false
          (fun i395 i396 => br (!(decide (i396 = (0 : Int))))
           (k0 i396 l384 i385 l386 l387)
           (br (((fits (0 : Nat) (List.length l387) l387) && (decide ((((List.length l387) + (1 : Nat)) * (16 : Nat)) ≤ (70368744177664 : Nat)))) && true)
            (br (inB i382 (4 : Nat))
             (br (decide ((Int.toNat i382) < (4 : Nat)))
              (k0 (IntKind.wrap .u16 i382) (List.set l384 (Int.toNat i382) (Nat.cast ((List.length l387) + (1 : Nat)) : Int)) i385 l386 ((sub l387 (0 : Nat) (List.length l387)) ++ ((i395 , (0 : Int)) :: ([] : List (((Sh.int IntKind.i64).pair (Sh.int IntKind.i64)).T)))))
              (none))
             (none))
            (none))))
         (br (((fits (0 : Nat) (List.length l387) l387) && (decide ((((List.length l387) + (1 : Nat)) * (16 : Nat)) ≤ (70368744177664 : Nat)))) && true)
          (br (inB i382 (4 : Nat))
           (br (decide ((Int.toNat i382) < (4 : Nat)))
            (k0 (IntKind.wrap .u16 i382) (List.set l384 (Int.toNat i382) (Nat.cast ((List.length l387) + (1 : Nat)) : Int)) i385 l386 ((sub l387 (0 : Nat) (List.length l387)) ++ ((i379 , (0 : Int)) :: ([] : List (((Sh.int IntKind.i64).pair (Sh.int IntKind.i64)).T)))))
            (none))
           (none))
          (none)))))))
    (br (decide (i381 = (65300 : Int)))
     (k0 i381 l384 i385 l386 l387)
     (br (!(decide (i381 = (0 : Int))))
      (c2 x0 l384 i385 l386 l387
       (fun b397 l398 i399 l400 l401 => br (!b397)
        (k0 (65282 : Int) l398 i399 l400 l401)
        (br (!b383)
         (k0 (65304 : Int) l398 i399 l400 l401)
         (br (!(decide (i381 = (0 : Int))))
          (c1 x0 false
           (fun i402 i403 => br (!(decide (i403 = (0 : Int))))
            (k0 i403 l398 i399 l400 l401)
            (br (((fits (0 : Nat) (List.length l401) l401) && (decide ((((List.length l401) + (1 : Nat)) * (16 : Nat)) ≤ (70368744177664 : Nat)))) && true)
             (br (inB i382 (4 : Nat))
              (br (decide ((Int.toNat i382) < (4 : Nat)))
               (k0 (IntKind.wrap .u16 i382) (List.set l398 (Int.toNat i382) (Nat.cast ((List.length l401) + (1 : Nat)) : Int)) i399 l400 ((sub l401 (0 : Nat) (List.length l401)) ++ ((i402 , (0 : Int)) :: ([] : List (((Sh.int IntKind.i64).pair (Sh.int IntKind.i64)).T)))))
               (none))
              (none))
             (none))))
          (br (((fits (0 : Nat) (List.length l401) l401) && (decide ((((List.length l401) + (1 : Nat)) * (16 : Nat)) ≤ (70368744177664 : Nat)))) && true)
           (br (inB i382 (4 : Nat))
            (br (decide ((Int.toNat i382) < (4 : Nat)))
             (k0 (IntKind.wrap .u16 i382) (List.set l398 (Int.toNat i382) (Nat.cast ((List.length l401) + (1 : Nat)) : Int)) i399 l400 ((sub l401 (0 : Nat) (List.length l401)) ++ ((i379 , (0 : Int)) :: ([] : List (((Sh.int IntKind.i64).pair (Sh.int IntKind.i64)).T)))))
             (none))
            (none))
           (none))))))
      (br (!b383)
       (k0 (65304 : Int) l384 i385 l386 l387)
       (br (!(decide (i381 = (0 : Int))))
        (c1 x0 false
         (fun i404 i405 => br (!(decide (i405 = (0 : Int))))
          (k0 i405 l384 i385 l386 l387)
          (br (((fits (0 : Nat) (List.length l387) l387) && (decide ((((List.length l387) + (1 : Nat)) * (16 : Nat)) ≤ (70368744177664 : Nat)))) && true)
           (br (inB i382 (4 : Nat))
            (br (decide ((Int.toNat i382) < (4 : Nat)))
             (k0 (IntKind.wrap .u16 i382) (List.set l384 (Int.toNat i382) (Nat.cast ((List.length l387) + (1 : Nat)) : Int)) i385 l386 ((sub l387 (0 : Nat) (List.length l387)) ++ ((i404 , (0 : Int)) :: ([] : List (((Sh.int IntKind.i64).pair (Sh.int IntKind.i64)).T)))))
             (none))
            (none))
           (none))))
        (br (((fits (0 : Nat) (List.length l387) l387) && (decide ((((List.length l387) + (1 : Nat)) * (16 : Nat)) ≤ (70368744177664 : Nat)))) && true)
         (br (inB i382 (4 : Nat))
          (br (decide ((Int.toNat i382) < (4 : Nat)))
           (k0 (IntKind.wrap .u16 i382) (List.set l384 (Int.toNat i382) (Nat.cast ((List.length l387) + (1 : Nat)) : Int)) i385 l386 ((sub l387 (0 : Nat) (List.length l387)) ++ ((i379 , (0 : Int)) :: ([] : List (((Sh.int IntKind.i64).pair (Sh.int IntKind.i64)).T)))))
           (none))
          (none))
         (none))))))))
noncomputable def ghost_Ghost_Open_9183 (N : Nat) {R : Type} (x0 : ByteArray) (x1 : List (Int)) (x2 : Int) (x3 : List ((Int) × (List (Int)))) (x4 : List ((Int) × (Int))) (k0 : (Int) → (List (Int)) → (Int) → (List ((Int) × (List (Int)))) → (List ((Int) × (Int))) → Option R) : Option R := ghost_Ghost_Open_9183_T N (@tree_Tree_Make_c502 N) (@tree_Tree_Make N) (@ghost_Ghost_may_9183 N) (@ghost_Ghost_may_e876 N) (@ghost_Ghost_free_109a N) (@ghost_Ghost_free_f1e4 N) (@tree_Tree_Find N) (@tree_Tree_Find_fb98 N) x0 x1 x2 x3 x4 k0
abbrev ghost_Ghost_Open_e876_Ty : Type 1 := {R : Type} → (ByteArray) → (List (Int)) → (Int) → (Int) → (List (((ByteArray) × (ByteArray)) × ((Int) × (Bool)))) → (List ((Int) × (List (Int)))) → (List ((Int) × (Int))) → ((Int) → (List (Int)) → (Int) → (Int) → (List (((ByteArray) × (ByteArray)) × ((Int) × (Bool)))) → (List ((Int) × (List (Int)))) → (List ((Int) × (Int))) → Option R) → Option R
noncomputable def ghost_Ghost_Open_e876_T (N : Nat) (c0 : tree_Tree_Make_c502_Ty) (c1 : tree_Tree_Make_Ty) (c2 : ghost_Ghost_may_9183_Ty) (c3 : ghost_Ghost_may_e876_Ty) (c4 : ghost_Ghost_free_109a_Ty) (c5 : ghost_Ghost_free_f1e4_Ty) (c6 : tree_Tree_Find_Ty) (c7 : tree_Tree_Find_fb98_Ty) {R : Type} (x0 : ByteArray) (x1 : List (Int)) (x2 : Int) (x3 : Int) (x4 : List (((ByteArray) × (ByteArray)) × ((Int) × (Bool)))) (x5 : List ((Int) × (List (Int)))) (x6 : List ((Int) × (Int))) (k0 : (Int) → (List (Int)) → (Int) → (Int) → (List (((ByteArray) × (ByteArray)) × ((Int) × (Bool)))) → (List ((Int) × (List (Int)))) → (List ((Int) × (Int))) → Option R) : Option R :=
  c7 x0 x3 x4
  (fun i524 b525 i526 i527 l528 => c5 x1 x2 i527 l528 x5 x6
   (fun i529 b530 l531 i532 i533 l534 l535 l536 => br (decide (i526 = (0 : Int)))
    (br b525
     (k0 (65301 : Int) l531 i532 i533 l534 l535 l536)
     (br (decide (i526 = (65300 : Int)))
      (k0 i526 l531 i532 i533 l534 l535 l536)
      (br (!(decide (i526 = (0 : Int))))
       (c3 x0 l531 i532 i533 l534 l535 l536
        (fun b537 l538 i539 i540 l541 l542 l543 => br (!b537)
         (k0 (65282 : Int) l538 i539 i540 l541 l542 l543)
         (br (!b530)
          (k0 (65304 : Int) l538 i539 i540 l541 l542 l543)
          (br (!(decide (i526 = (0 : Int))))
           (c0 x0 false i540 l541
            (fun i544 i545 i546 l547 => br (!(decide (i545 = (0 : Int))))
             (k0 i545 l538 i539 i546 l547 l542 l543)
             (br (((fits (0 : Nat) (List.length l543) l543) && (decide ((((List.length l543) + (1 : Nat)) * (16 : Nat)) ≤ (70368744177664 : Nat)))) && true)
              (br (inB i529 (4 : Nat))
               (br (decide ((Int.toNat i529) < (4 : Nat)))
                (k0 (IntKind.wrap .u16 i529) (List.set l538 (Int.toNat i529) (Nat.cast ((List.length l543) + (1 : Nat)) : Int)) i539 i546 l547 l542 ((sub l543 (0 : Nat) (List.length l543)) ++ ((i544 , (0 : Int)) :: ([] : List (((Sh.int IntKind.i64).pair (Sh.int IntKind.i64)).T)))))
                (none))
               (none))
              (none))))
           (br (((fits (0 : Nat) (List.length l543) l543) && (decide ((((List.length l543) + (1 : Nat)) * (16 : Nat)) ≤ (70368744177664 : Nat)))) && true)
            (br (inB i529 (4 : Nat))
             (br (decide ((Int.toNat i529) < (4 : Nat)))
              (k0 (IntKind.wrap .u16 i529) (List.set l538 (Int.toNat i529) (Nat.cast ((List.length l543) + (1 : Nat)) : Int)) i539 i540 l541 l542 ((sub l543 (0 : Nat) (List.length l543)) ++ ((i524 , (0 : Int)) :: ([] : List (((Sh.int IntKind.i64).pair (Sh.int IntKind.i64)).T)))))
              (none))
             (none))
            (none))))))
       (br (!b530)
        (k0 (65304 : Int) l531 i532 i533 l534 l535 l536)
        (br (!(decide (i526 = (0 : Int))))
         (c0 x0 false i533 l534
          (fun i548 i549 i550 l551 => br (!(decide (i549 = (0 : Int))))
           (k0 i549 l531 i532 i550 l551 l535 l536)
           (br (((fits (0 : Nat) (List.length l536) l536) && (decide ((((List.length l536) + (1 : Nat)) * (16 : Nat)) ≤ (70368744177664 : Nat)))) && true)
            (br (inB i529 (4 : Nat))
             (br (decide ((Int.toNat i529) < (4 : Nat)))
              (k0 (IntKind.wrap .u16 i529) (List.set l531 (Int.toNat i529) (Nat.cast ((List.length l536) + (1 : Nat)) : Int)) i532 i550 l551 l535 ((sub l536 (0 : Nat) (List.length l536)) ++ ((i548 , (0 : Int)) :: ([] : List (((Sh.int IntKind.i64).pair (Sh.int IntKind.i64)).T)))))
              (none))
             (none))
            (none))))
         (br (((fits (0 : Nat) (List.length l536) l536) && (decide ((((List.length l536) + (1 : Nat)) * (16 : Nat)) ≤ (70368744177664 : Nat)))) && true)
          (br (inB i529 (4 : Nat))
           (br (decide ((Int.toNat i529) < (4 : Nat)))
            (k0 (IntKind.wrap .u16 i529) (List.set l531 (Int.toNat i529) (Nat.cast ((List.length l536) + (1 : Nat)) : Int)) i532 i533 l534 l535 ((sub l536 (0 : Nat) (List.length l536)) ++ ((i524 , (0 : Int)) :: ([] : List (((Sh.int IntKind.i64).pair (Sh.int IntKind.i64)).T)))))
            (none))
           (none))
          (none)))))))
    (br (decide (i526 = (65300 : Int)))
     (k0 i526 l531 i532 i533 l534 l535 l536)
     (br (!(decide (i526 = (0 : Int))))
      (c3 x0 l531 i532 i533 l534 l535 l536
       (fun b552 l553 i554 i555 l556 l557 l558 => br (!b552)
        (k0 (65282 : Int) l553 i554 i555 l556 l557 l558)
        (br (!b530)
         (k0 (65304 : Int) l553 i554 i555 l556 l557 l558)
         (br (!(decide (i526 = (0 : Int))))
          (c0 x0 false i555 l556
           (fun i559 i560 i561 l562 => br (!(decide (i560 = (0 : Int))))
            (k0 i560 l553 i554 i561 l562 l557 l558)
            (br (((fits (0 : Nat) (List.length l558) l558) && (decide ((((List.length l558) + (1 : Nat)) * (16 : Nat)) ≤ (70368744177664 : Nat)))) && true)
             (br (inB i529 (4 : Nat))
              (br (decide ((Int.toNat i529) < (4 : Nat)))
               (k0 (IntKind.wrap .u16 i529) (List.set l553 (Int.toNat i529) (Nat.cast ((List.length l558) + (1 : Nat)) : Int)) i554 i561 l562 l557 ((sub l558 (0 : Nat) (List.length l558)) ++ ((i559 , (0 : Int)) :: ([] : List (((Sh.int IntKind.i64).pair (Sh.int IntKind.i64)).T)))))
               (none))
              (none))
             (none))))
          (br (((fits (0 : Nat) (List.length l558) l558) && (decide ((((List.length l558) + (1 : Nat)) * (16 : Nat)) ≤ (70368744177664 : Nat)))) && true)
           (br (inB i529 (4 : Nat))
            (br (decide ((Int.toNat i529) < (4 : Nat)))
             (k0 (IntKind.wrap .u16 i529) (List.set l553 (Int.toNat i529) (Nat.cast ((List.length l558) + (1 : Nat)) : Int)) i554 i555 l556 l557 ((sub l558 (0 : Nat) (List.length l558)) ++ ((i524 , (0 : Int)) :: ([] : List (((Sh.int IntKind.i64).pair (Sh.int IntKind.i64)).T)))))
             (none))
            (none))
           (none))))))
      (br (!b530)
       (k0 (65304 : Int) l531 i532 i533 l534 l535 l536)
       (br (!(decide (i526 = (0 : Int))))
        (c0 x0 false i533 l534
         (fun i563 i564 i565 l566 => br (!(decide (i564 = (0 : Int))))
          (k0 i564 l531 i532 i565 l566 l535 l536)
          (br (((fits (0 : Nat) (List.length l536) l536) && (decide ((((List.length l536) + (1 : Nat)) * (16 : Nat)) ≤ (70368744177664 : Nat)))) && true)
           (br (inB i529 (4 : Nat))
            (br (decide ((Int.toNat i529) < (4 : Nat)))
             (k0 (IntKind.wrap .u16 i529) (List.set l531 (Int.toNat i529) (Nat.cast ((List.length l536) + (1 : Nat)) : Int)) i532 i565 l566 l535 ((sub l536 (0 : Nat) (List.length l536)) ++ ((i563 , (0 : Int)) :: ([] : List (((Sh.int IntKind.i64).pair (Sh.int IntKind.i64)).T)))))
             (none))
            (none))
           (none))))
        (br (((fits (0 : Nat) (List.length l536) l536) && (decide ((((List.length l536) + (1 : Nat)) * (16 : Nat)) ≤ (70368744177664 : Nat)))) && true)
         (br (inB i529 (4 : Nat))
          (br (decide ((Int.toNat i529) < (4 : Nat)))
           (k0 (IntKind.wrap .u16 i529) (List.set l531 (Int.toNat i529) (Nat.cast ((List.length l536) + (1 : Nat)) : Int)) i532 i533 l534 l535 ((sub l536 (0 : Nat) (List.length l536)) ++ ((i524 , (0 : Int)) :: ([] : List (((Sh.int IntKind.i64).pair (Sh.int IntKind.i64)).T)))))
           (none))
          (none))
         (none))))))))
noncomputable def ghost_Ghost_Open_e876 (N : Nat) {R : Type} (x0 : ByteArray) (x1 : List (Int)) (x2 : Int) (x3 : Int) (x4 : List (((ByteArray) × (ByteArray)) × ((Int) × (Bool)))) (x5 : List ((Int) × (List (Int)))) (x6 : List ((Int) × (Int))) (k0 : (Int) → (List (Int)) → (Int) → (Int) → (List (((ByteArray) × (ByteArray)) × ((Int) × (Bool)))) → (List ((Int) × (List (Int)))) → (List ((Int) × (Int))) → Option R) : Option R := ghost_Ghost_Open_e876_T N (@tree_Tree_Make_c502 N) (@tree_Tree_Make N) (@ghost_Ghost_may_9183 N) (@ghost_Ghost_may_e876 N) (@ghost_Ghost_free_109a N) (@ghost_Ghost_free_f1e4 N) (@tree_Tree_Find N) (@tree_Tree_Find_fb98 N) x0 x1 x2 x3 x4 x5 x6 k0
abbrev law19_awake_Ty : Type 1 := {R : Type} → ((Bool) → Option R) → Option R
noncomputable def law19_awake_T (N : Nat) (c0 : ghost_Ghost_Size_4cb0_Ty) (c1 : ghost_Ghost_Size_7504_Ty) (c2 : ghost_Ghost_Read_ab5b_Ty) (c3 : ghost_Ghost_Read_5658_Ty) (c4 : ghost_Ghost_Open_9183_Ty) (c5 : ghost_Ghost_Open_e876_Ty) (c6 : ghost_New_669c_Ty) (c7 : ghost_New_92d3_Ty) (c8 : term_Arena_Var_99d8_Ty) (c9 : term_Arena_Const_2c81_Ty) (c10 : term_New_Ty) {R : Type} (k0 : (Bool) → Option R) : Option R :=
  c10
  (fun l0 l1 l2 => c9 (8 : Int) (0 : Int) l0 l1 l2
   (fun i18 i19 l20 l21 l22 => c8 (8 : Int) (0 : Int) l22 l20 l21
    (fun i40 i41 l42 l43 l44 => c6 i18 (((bs [97]) , (false , (0 : Int))) :: ([] : List ((Sh.str.pair (Sh.bool.pair (Sh.int IntKind.i64))).T))) ((i40 :: ([] : List ((Sh.int IntKind.i64).T))) :: ([] : List ((Sh.int IntKind.i64).isl.T)))
     (fun i337 l338 l339 => br (!(!(decide (i337 = (0 : Int)))))
      (k0 false)
      (k0 false))
     (fun i340 l341 l342 l343 i344 l345 l346 => br (!(!(decide (i340 = (0 : Int)))))
      (c4 (bs [97]) l343 i344 l345 l346
       (fun i406 l407 i408 l409 l410 => c2 (0 : Int) (5 : Int) l407 i408 l409 l410
        (fun i431 l432 i433 l434 l435 l436 => br (decide (i406 = (0 : Int)))
         (br (decide (i431 = (1 : Int)))
          (br (decide ((Nat.cast (List.length l436) : Int) = (1 : Int)))
           (br (inB (0 : Int) (List.length l436))
            (br (decide ((0 : Nat) < (List.length l436)))
             (br (decide ((List.getD l436 (0 : Nat) (0 : Int)) = i40))
              (c0 (0 : Int) l432 i433 l434 l435
               (fun i446 l447 i448 l449 l450 => k0 (decide (i446 = (1 : Int)))))
              (k0 false))
             (none))
            (none))
           (k0 false))
          (k0 false))
         (k0 false))))
      (k0 false))
     (fun i451 l452 l453 l454 i455 i456 l457 l458 l459 => br (!(!(decide (i451 = (0 : Int)))))
      (c5 (bs [97]) l454 i455 i456 l457 l458 l459
       (fun i567 l568 i569 i570 l571 l572 l573 => c3 (0 : Int) (5 : Int) l568 i569 i570 l571 l572 l573
        (fun i602 l603 i604 i605 l606 l607 l608 l609 => br (decide (i567 = (0 : Int)))
         (br (decide (i602 = (1 : Int)))
          (br (decide ((Nat.cast (List.length l609) : Int) = (1 : Int)))
           (br (inB (0 : Int) (List.length l609))
            (br (decide ((0 : Nat) < (List.length l609)))
             (br (decide ((List.getD l609 (0 : Nat) (0 : Int)) = i40))
              (c1 (0 : Int) l603 i604 i605 l606 l607 l608
               (fun i623 l624 i625 i626 l627 l628 l629 => k0 (decide (i623 = (1 : Int)))))
              (k0 false))
             (none))
            (none))
           (k0 false))
          (k0 false))
         (k0 false))))
      (k0 false)))))
noncomputable def law19_awake (N : Nat) {R : Type} (k0 : (Bool) → Option R) : Option R := law19_awake_T N (@ghost_Ghost_Size_4cb0 N) (@ghost_Ghost_Size_7504 N) (@ghost_Ghost_Read_ab5b N) (@ghost_Ghost_Read_5658 N) (@ghost_Ghost_Open_9183 N) (@ghost_Ghost_Open_e876 N) (@ghost_New_669c N) (@ghost_New_92d3 N) (@term_Arena_Var_99d8 N) (@term_Arena_Const_2c81 N) (@term_New N) k0
abbrev ghost_Ghost_Seek_ab5b_Ty : Type 1 := {R : Type} → (Int) → (Int) → (List (Int)) → (Int) → (List ((Int) × (List (Int)))) → (List ((Int) × (Int))) → ((Int) → (List (Int)) → (Int) → (List ((Int) × (List (Int)))) → (List ((Int) × (Int))) → Option R) → Option R
noncomputable def ghost_Ghost_Seek_ab5b_T (N : Nat) (c0 : ghost_Ghost_file_4cb0_Ty) (c1 : ghost_Ghost_file_7504_Ty) {R : Type} (x0 : Int) (x1 : Int) (x2 : List (Int)) (x3 : Int) (x4 : List ((Int) × (List (Int)))) (x5 : List ((Int) × (Int))) (k0 : (Int) → (List (Int)) → (Int) → (List ((Int) × (List (Int)))) → (List ((Int) × (Int))) → Option R) : Option R :=
  c0 x0 x2 x3 x4 x5
  (fun l985 i986 l987 l988 => k0 (65289 : Int) l985 i986 l987 l988)
  (fun i989 l990 i991 l992 l993 => br (decide ((255 : Int) < x1))
   (k0 (65302 : Int) l990 i991 l992 l993)
   (br (decide ((Int.toNat i989) < (List.length l993)))
    (k0 x1 l990 i991 l992 (List.set l993 (Int.toNat i989) ((List.getD l993 (Int.toNat i989) ((0 : Int) , (0 : Int))).1 , (IntKind.wrap .i64 x1))))
    (none)))
noncomputable def ghost_Ghost_Seek_ab5b (N : Nat) {R : Type} (x0 : Int) (x1 : Int) (x2 : List (Int)) (x3 : Int) (x4 : List ((Int) × (List (Int)))) (x5 : List ((Int) × (Int))) (k0 : (Int) → (List (Int)) → (Int) → (List ((Int) × (List (Int)))) → (List ((Int) × (Int))) → Option R) : Option R := ghost_Ghost_Seek_ab5b_T N (@ghost_Ghost_file_4cb0 N) (@ghost_Ghost_file_7504 N) x0 x1 x2 x3 x4 x5 k0
abbrev ghost_Ghost_Seek_5658_Ty : Type 1 := {R : Type} → (Int) → (Int) → (List (Int)) → (Int) → (Int) → (List (((ByteArray) × (ByteArray)) × ((Int) × (Bool)))) → (List ((Int) × (List (Int)))) → (List ((Int) × (Int))) → ((Int) → (List (Int)) → (Int) → (Int) → (List (((ByteArray) × (ByteArray)) × ((Int) × (Bool)))) → (List ((Int) × (List (Int)))) → (List ((Int) × (Int))) → Option R) → Option R
noncomputable def ghost_Ghost_Seek_5658_T (N : Nat) (c0 : ghost_Ghost_file_4cb0_Ty) (c1 : ghost_Ghost_file_7504_Ty) {R : Type} (x0 : Int) (x1 : Int) (x2 : List (Int)) (x3 : Int) (x4 : Int) (x5 : List (((ByteArray) × (ByteArray)) × ((Int) × (Bool)))) (x6 : List ((Int) × (List (Int)))) (x7 : List ((Int) × (Int))) (k0 : (Int) → (List (Int)) → (Int) → (Int) → (List (((ByteArray) × (ByteArray)) × ((Int) × (Bool)))) → (List ((Int) × (List (Int)))) → (List ((Int) × (Int))) → Option R) : Option R :=
  c1 x0 x2 x3 x4 x5 x6 x7
  (fun l1120 i1121 i1122 l1123 l1124 l1125 => k0 (65289 : Int) l1120 i1121 i1122 l1123 l1124 l1125)
  (fun i1126 l1127 i1128 i1129 l1130 l1131 l1132 => br (decide ((255 : Int) < x1))
   (k0 (65302 : Int) l1127 i1128 i1129 l1130 l1131 l1132)
   (br (decide ((Int.toNat i1126) < (List.length l1132)))
    (k0 x1 l1127 i1128 i1129 l1130 l1131 (List.set l1132 (Int.toNat i1126) ((List.getD l1132 (Int.toNat i1126) ((0 : Int) , (0 : Int))).1 , (IntKind.wrap .i64 x1))))
    (none)))
noncomputable def ghost_Ghost_Seek_5658 (N : Nat) {R : Type} (x0 : Int) (x1 : Int) (x2 : List (Int)) (x3 : Int) (x4 : Int) (x5 : List (((ByteArray) × (ByteArray)) × ((Int) × (Bool)))) (x6 : List ((Int) × (List (Int)))) (x7 : List ((Int) × (Int))) (k0 : (Int) → (List (Int)) → (Int) → (Int) → (List (((ByteArray) × (ByteArray)) × ((Int) × (Bool)))) → (List ((Int) × (List (Int)))) → (List ((Int) × (Int))) → Option R) : Option R := ghost_Ghost_Seek_5658_T N (@ghost_Ghost_file_4cb0 N) (@ghost_Ghost_file_7504 N) x0 x1 x2 x3 x4 x5 x6 x7 k0
abbrev ghost_Ghost_sized_0c83_l0_Ty : Type 1 := {R : Type} → ((List (Int)) → (Int) → (List ((Int) × (List (Int)))) → (List ((Int) × (Int))) → (List (Int)) → Option R) → Nat → (Int) → (List (Int)) → (Int) → (List ((Int) × (List (Int)))) → (List ((Int) × (Int))) → (List (Int)) → Option R
abbrev ghost_Ghost_sized_0c83_Ty : Type 1 := {R : Type} → (List (Int)) → (Int) → (List (Int)) → (Int) → (List ((Int) × (List (Int)))) → (List ((Int) × (Int))) → ((List (Int)) → (Int) → (List ((Int) × (List (Int)))) → (List ((Int) × (Int))) → (List (Int)) → Option R) → Option R
noncomputable def ghost_Ghost_sized_0c83_l0_T0 (N : Nat) (c0 : slices_Clone__term_T_term_T_Ty) {R : Type} (nx : (Int) → (List (Int)) → (Int) → (List ((Int) × (List (Int)))) → (List ((Int) × (Int))) → (List (Int)) → Option R) (k0 : (List (Int)) → (Int) → (List ((Int) × (List (Int)))) → (List ((Int) × (Int))) → (List (Int)) → Option R) (x0 : Int) (x1 : List (Int)) (x2 : Int) (x3 : List ((Int) × (List (Int)))) (x4 : List ((Int) × (Int))) (x5 : List (Int)) : Option R :=
  br (decide ((Nat.cast (List.length x5) : Int) < x0))
  (br (((fits (0 : Nat) (List.length x5) x5) && (decide ((((List.length x5) + (1 : Nat)) * (8 : Nat)) ≤ (70368744177664 : Nat)))) && true)
   (nx x0 x1 x2 x3 x4 ((sub x5 (0 : Nat) (List.length x5)) ++ (x2 :: ([] : List ((Sh.int IntKind.i64).T)))))
   (none))
  (k0 x1 x2 x3 x4 x5)
noncomputable def ghost_Ghost_sized_0c83_l0 (N : Nat) {R : Type} (k0 : (List (Int)) → (Int) → (List ((Int) × (List (Int)))) → (List ((Int) × (Int))) → (List (Int)) → Option R) : Nat → (Int) → (List (Int)) → (Int) → (List ((Int) × (List (Int)))) → (List ((Int) × (Int))) → (List (Int)) → Option R
  | 0, _, _, _, _, _, _ => none
  | n + 1, x0, x1, x2, x3, x4, x5 => ghost_Ghost_sized_0c83_l0_T0 N @slices_Clone__term_T_term_T (fun x0 x1 x2 x3 x4 x5 => ghost_Ghost_sized_0c83_l0 N k0 n x0 x1 x2 x3 x4 x5) k0 x0 x1 x2 x3 x4 x5
noncomputable def ghost_Ghost_sized_0c83_T (N : Nat) (c0 : slices_Clone__term_T_term_T_Ty) (w0 : ghost_Ghost_sized_0c83_l0_Ty) {R : Type} (x0 : List (Int)) (x1 : Int) (x2 : List (Int)) (x3 : Int) (x4 : List ((Int) × (List (Int)))) (x5 : List ((Int) × (Int))) (k0 : (List (Int)) → (Int) → (List ((Int) × (List (Int)))) → (List ((Int) × (Int))) → (List (Int)) → Option R) : Option R :=
  br (leB (if ((Nat.cast (List.length x0) : Int) < x1) then (Nat.cast (List.length x0) : Int) else x1) (List.length x0))
  (c0 (sub x0 (0 : Nat) ((Int.toNat (if ((Nat.cast (List.length x0) : Int) < x1) then (Nat.cast (List.length x0) : Int) else x1)) - (0 : Nat)))
   (fun l1008 => w0
    (fun l1009 i1010 l1011 l1012 l1013 => k0 l1009 i1010 l1011 l1012 l1013)
    N x1 x2 x3 x4 x5 l1008))
  (none)
noncomputable def ghost_Ghost_sized_0c83 (N : Nat) {R : Type} (x0 : List (Int)) (x1 : Int) (x2 : List (Int)) (x3 : Int) (x4 : List ((Int) × (List (Int)))) (x5 : List ((Int) × (Int))) (k0 : (List (Int)) → (Int) → (List ((Int) × (List (Int)))) → (List ((Int) × (Int))) → (List (Int)) → Option R) : Option R := ghost_Ghost_sized_0c83_T N @slices_Clone__term_T_term_T (@ghost_Ghost_sized_0c83_l0 N) x0 x1 x2 x3 x4 x5 k0
abbrev ghost_Ghost_sized_1ab6_l0_Ty : Type 1 := {R : Type} → ((List (Int)) → (Int) → (Int) → (List (((ByteArray) × (ByteArray)) × ((Int) × (Bool)))) → (List ((Int) × (List (Int)))) → (List ((Int) × (Int))) → (List (Int)) → Option R) → Nat → (Int) → (List (Int)) → (Int) → (Int) → (List (((ByteArray) × (ByteArray)) × ((Int) × (Bool)))) → (List ((Int) × (List (Int)))) → (List ((Int) × (Int))) → (List (Int)) → Option R
abbrev ghost_Ghost_sized_1ab6_Ty : Type 1 := {R : Type} → (List (Int)) → (Int) → (List (Int)) → (Int) → (Int) → (List (((ByteArray) × (ByteArray)) × ((Int) × (Bool)))) → (List ((Int) × (List (Int)))) → (List ((Int) × (Int))) → ((List (Int)) → (Int) → (Int) → (List (((ByteArray) × (ByteArray)) × ((Int) × (Bool)))) → (List ((Int) × (List (Int)))) → (List ((Int) × (Int))) → (List (Int)) → Option R) → Option R
noncomputable def ghost_Ghost_sized_1ab6_l0_T0 (N : Nat) (c0 : slices_Clone__term_T_term_T_Ty) {R : Type} (nx : (Int) → (List (Int)) → (Int) → (Int) → (List (((ByteArray) × (ByteArray)) × ((Int) × (Bool)))) → (List ((Int) × (List (Int)))) → (List ((Int) × (Int))) → (List (Int)) → Option R) (k0 : (List (Int)) → (Int) → (Int) → (List (((ByteArray) × (ByteArray)) × ((Int) × (Bool)))) → (List ((Int) × (List (Int)))) → (List ((Int) × (Int))) → (List (Int)) → Option R) (x0 : Int) (x1 : List (Int)) (x2 : Int) (x3 : Int) (x4 : List (((ByteArray) × (ByteArray)) × ((Int) × (Bool)))) (x5 : List ((Int) × (List (Int)))) (x6 : List ((Int) × (Int))) (x7 : List (Int)) : Option R :=
  br (decide ((Nat.cast (List.length x7) : Int) < x0))
  (br (((fits (0 : Nat) (List.length x7) x7) && (decide ((((List.length x7) + (1 : Nat)) * (8 : Nat)) ≤ (70368744177664 : Nat)))) && true)
   (nx x0 x1 x2 x3 x4 x5 x6 ((sub x7 (0 : Nat) (List.length x7)) ++ (x2 :: ([] : List ((Sh.int IntKind.i64).T)))))
   (none))
  (k0 x1 x2 x3 x4 x5 x6 x7)
noncomputable def ghost_Ghost_sized_1ab6_l0 (N : Nat) {R : Type} (k0 : (List (Int)) → (Int) → (Int) → (List (((ByteArray) × (ByteArray)) × ((Int) × (Bool)))) → (List ((Int) × (List (Int)))) → (List ((Int) × (Int))) → (List (Int)) → Option R) : Nat → (Int) → (List (Int)) → (Int) → (Int) → (List (((ByteArray) × (ByteArray)) × ((Int) × (Bool)))) → (List ((Int) × (List (Int)))) → (List ((Int) × (Int))) → (List (Int)) → Option R
  | 0, _, _, _, _, _, _, _, _ => none
  | n + 1, x0, x1, x2, x3, x4, x5, x6, x7 => ghost_Ghost_sized_1ab6_l0_T0 N @slices_Clone__term_T_term_T (fun x0 x1 x2 x3 x4 x5 x6 x7 => ghost_Ghost_sized_1ab6_l0 N k0 n x0 x1 x2 x3 x4 x5 x6 x7) k0 x0 x1 x2 x3 x4 x5 x6 x7
noncomputable def ghost_Ghost_sized_1ab6_T (N : Nat) (c0 : slices_Clone__term_T_term_T_Ty) (w0 : ghost_Ghost_sized_1ab6_l0_Ty) {R : Type} (x0 : List (Int)) (x1 : Int) (x2 : List (Int)) (x3 : Int) (x4 : Int) (x5 : List (((ByteArray) × (ByteArray)) × ((Int) × (Bool)))) (x6 : List ((Int) × (List (Int)))) (x7 : List ((Int) × (Int))) (k0 : (List (Int)) → (Int) → (Int) → (List (((ByteArray) × (ByteArray)) × ((Int) × (Bool)))) → (List ((Int) × (List (Int)))) → (List ((Int) × (Int))) → (List (Int)) → Option R) : Option R :=
  br (leB (if ((Nat.cast (List.length x0) : Int) < x1) then (Nat.cast (List.length x0) : Int) else x1) (List.length x0))
  (c0 (sub x0 (0 : Nat) ((Int.toNat (if ((Nat.cast (List.length x0) : Int) < x1) then (Nat.cast (List.length x0) : Int) else x1)) - (0 : Nat)))
   (fun l1153 => w0
    (fun l1154 i1155 i1156 l1157 l1158 l1159 l1160 => k0 l1154 i1155 i1156 l1157 l1158 l1159 l1160)
    N x1 x2 x3 x4 x5 x6 x7 l1153))
  (none)
noncomputable def ghost_Ghost_sized_1ab6 (N : Nat) {R : Type} (x0 : List (Int)) (x1 : Int) (x2 : List (Int)) (x3 : Int) (x4 : Int) (x5 : List (((ByteArray) × (ByteArray)) × ((Int) × (Bool)))) (x6 : List ((Int) × (List (Int)))) (x7 : List ((Int) × (Int))) (k0 : (List (Int)) → (Int) → (Int) → (List (((ByteArray) × (ByteArray)) × ((Int) × (Bool)))) → (List ((Int) × (List (Int)))) → (List ((Int) × (Int))) → (List (Int)) → Option R) : Option R := ghost_Ghost_sized_1ab6_T N @slices_Clone__term_T_term_T (@ghost_Ghost_sized_1ab6_l0 N) x0 x1 x2 x3 x4 x5 x6 x7 k0
abbrev ghost_Ghost_Write_f6e0_Ty : Type 1 := {R : Type} → (Int) → (List (Int)) → (Int) → (List ((Int) × (List (Int)))) → (List ((Int) × (Int))) → (List (Int)) → ((Int) → (List (Int)) → (Int) → (List ((Int) × (List (Int)))) → (List ((Int) × (Int))) → (List (Int)) → Option R) → Option R
noncomputable def ghost_Ghost_Write_f6e0_T (N : Nat) (c0 : ghost_Ghost_sized_0c83_Ty) (c1 : ghost_Ghost_sized_1ab6_Ty) (c2 : ghost_Ghost_file_4cb0_Ty) (c3 : ghost_Ghost_file_7504_Ty) {R : Type} (x0 : Int) (x1 : List (Int)) (x2 : Int) (x3 : List ((Int) × (List (Int)))) (x4 : List ((Int) × (Int))) (x5 : List (Int)) (k0 : (Int) → (List (Int)) → (Int) → (List ((Int) × (List (Int)))) → (List ((Int) × (Int))) → (List (Int)) → Option R) : Option R :=
  c2 x0 x1 x2 x3 x4
  (fun l999 i1000 l1001 l1002 => k0 (65289 : Int) l999 i1000 l1001 l1002 x5)
  (fun i1003 l1004 i1005 l1006 l1007 => br (decide ((Nat.cast (List.length x5) : Int) = (0 : Int)))
   (k0 (0 : Int) l1004 i1005 l1006 l1007 x5)
   (br (decide ((Int.toNat i1003) < (List.length l1007)))
    (br (decide ((8 : Int) ≤ (List.getD l1007 (Int.toNat i1003) ((0 : Int) , (0 : Int))).2))
     (k0 (65308 : Int) l1004 i1005 l1006 l1007 x5)
     (br (decide ((Int.toNat i1003) < (List.length l1007)))
      (br (leB (if ((IntKind.wrap .i64 ((8 : Int) - (List.getD l1007 (Int.toNat i1003) ((0 : Int) , (0 : Int))).2)) < (Nat.cast (List.length x5) : Int)) then (IntKind.wrap .i64 ((8 : Int) - (List.getD l1007 (Int.toNat i1003) ((0 : Int) , (0 : Int))).2)) else (Nat.cast (List.length x5) : Int)) (List.length x5))
       (br (decide ((Int.toNat i1003) < (List.length l1007)))
        (br (decide ((Int.toNat i1003) < (List.length l1007)))
         (c0 (Option.getD (mfind (.int .i64) (.isl (.int .i64)) l1006 (List.getD l1007 (Int.toNat i1003) ((0 : Int) , (0 : Int))).1) (Sh.zero (.isl (.int .i64)))) (if ((Nat.cast (List.length (Option.getD (mfind (.int .i64) (.isl (.int .i64)) l1006 (List.getD l1007 (Int.toNat i1003) ((0 : Int) , (0 : Int))).1) (Sh.zero (.isl (.int .i64))))) : Int) < (IntKind.wrap .i64 ((List.getD l1007 (Int.toNat i1003) ((0 : Int) , (0 : Int))).2 + (Nat.cast ((Int.toNat (if ((IntKind.wrap .i64 ((8 : Int) - (List.getD l1007 (Int.toNat i1003) ((0 : Int) , (0 : Int))).2)) < (Nat.cast (List.length x5) : Int)) then (IntKind.wrap .i64 ((8 : Int) - (List.getD l1007 (Int.toNat i1003) ((0 : Int) , (0 : Int))).2)) else (Nat.cast (List.length x5) : Int))) - (0 : Nat)) : Int)))) then (IntKind.wrap .i64 ((List.getD l1007 (Int.toNat i1003) ((0 : Int) , (0 : Int))).2 + (Nat.cast ((Int.toNat (if ((IntKind.wrap .i64 ((8 : Int) - (List.getD l1007 (Int.toNat i1003) ((0 : Int) , (0 : Int))).2)) < (Nat.cast (List.length x5) : Int)) then (IntKind.wrap .i64 ((8 : Int) - (List.getD l1007 (Int.toNat i1003) ((0 : Int) , (0 : Int))).2)) else (Nat.cast (List.length x5) : Int))) - (0 : Nat)) : Int))) else (Nat.cast (List.length (Option.getD (mfind (.int .i64) (.isl (.int .i64)) l1006 (List.getD l1007 (Int.toNat i1003) ((0 : Int) , (0 : Int))).1) (Sh.zero (.isl (.int .i64))))) : Int)) l1004 i1005 l1006 l1007
          (fun l1014 i1015 l1016 l1017 l1018 => br (decide ((Int.toNat i1003) < (List.length l1017)))
           (br (leB (List.getD l1017 (Int.toNat i1003) ((0 : Int) , (0 : Int))).2 (List.length l1018))
            (br (fits (0 : Nat) ((Int.toNat (if ((IntKind.wrap .i64 ((8 : Int) - (List.getD l1007 (Int.toNat i1003) ((0 : Int) , (0 : Int))).2)) < (Nat.cast (List.length x5) : Int)) then (IntKind.wrap .i64 ((8 : Int) - (List.getD l1007 (Int.toNat i1003) ((0 : Int) , (0 : Int))).2)) else (Nat.cast (List.length x5) : Int))) - (0 : Nat)) x5)
             (br (fits (Int.toNat (List.getD l1017 (Int.toNat i1003) ((0 : Int) , (0 : Int))).2) ((List.length l1018) - (Int.toNat (List.getD l1017 (Int.toNat i1003) ((0 : Int) , (0 : Int))).2)) l1018)
              (br (decide ((Int.toNat i1003) < (List.length l1017)))
               (br (fits (0 : Nat) (List.length l1018) ((List.take (Int.toNat (List.getD l1017 (Int.toNat i1003) ((0 : Int) , (0 : Int))).2) l1018) ++ ((List.take (Min.min (List.length (sub x5 (0 : Nat) ((Int.toNat (if ((IntKind.wrap .i64 ((8 : Int) - (List.getD l1007 (Int.toNat i1003) ((0 : Int) , (0 : Int))).2)) < (Nat.cast (List.length x5) : Int)) then (IntKind.wrap .i64 ((8 : Int) - (List.getD l1007 (Int.toNat i1003) ((0 : Int) , (0 : Int))).2)) else (Nat.cast (List.length x5) : Int))) - (0 : Nat)))) ((List.length l1018) - (Int.toNat (List.getD l1017 (Int.toNat i1003) ((0 : Int) , (0 : Int))).2))) (sub x5 (0 : Nat) ((Int.toNat (if ((IntKind.wrap .i64 ((8 : Int) - (List.getD l1007 (Int.toNat i1003) ((0 : Int) , (0 : Int))).2)) < (Nat.cast (List.length x5) : Int)) then (IntKind.wrap .i64 ((8 : Int) - (List.getD l1007 (Int.toNat i1003) ((0 : Int) , (0 : Int))).2)) else (Nat.cast (List.length x5) : Int))) - (0 : Nat)))) ++ (List.drop ((Int.toNat (List.getD l1017 (Int.toNat i1003) ((0 : Int) , (0 : Int))).2) + (Min.min (List.length (sub x5 (0 : Nat) ((Int.toNat (if ((IntKind.wrap .i64 ((8 : Int) - (List.getD l1007 (Int.toNat i1003) ((0 : Int) , (0 : Int))).2)) < (Nat.cast (List.length x5) : Int)) then (IntKind.wrap .i64 ((8 : Int) - (List.getD l1007 (Int.toNat i1003) ((0 : Int) , (0 : Int))).2)) else (Nat.cast (List.length x5) : Int))) - (0 : Nat)))) ((List.length l1018) - (Int.toNat (List.getD l1017 (Int.toNat i1003) ((0 : Int) , (0 : Int))).2)))) l1018))))
                (br (decide ((Int.toNat i1003) < (List.length l1017)))
                 (br (decide ((Int.toNat i1003) < (List.length l1017)))
                  (k0 (IntKind.wrap .u16 (Nat.cast ((Int.toNat (if ((IntKind.wrap .i64 ((8 : Int) - (List.getD l1007 (Int.toNat i1003) ((0 : Int) , (0 : Int))).2)) < (Nat.cast (List.length x5) : Int)) then (IntKind.wrap .i64 ((8 : Int) - (List.getD l1007 (Int.toNat i1003) ((0 : Int) , (0 : Int))).2)) else (Nat.cast (List.length x5) : Int))) - (0 : Nat)) : Int)) l1014 i1015 (mput (.int .i64) (.isl (.int .i64)) l1016 (List.getD l1017 (Int.toNat i1003) ((0 : Int) , (0 : Int))).1 (sub ((List.take (Int.toNat (List.getD l1017 (Int.toNat i1003) ((0 : Int) , (0 : Int))).2) l1018) ++ ((List.take (Min.min (List.length (sub x5 (0 : Nat) ((Int.toNat (if ((IntKind.wrap .i64 ((8 : Int) - (List.getD l1007 (Int.toNat i1003) ((0 : Int) , (0 : Int))).2)) < (Nat.cast (List.length x5) : Int)) then (IntKind.wrap .i64 ((8 : Int) - (List.getD l1007 (Int.toNat i1003) ((0 : Int) , (0 : Int))).2)) else (Nat.cast (List.length x5) : Int))) - (0 : Nat)))) ((List.length l1018) - (Int.toNat (List.getD l1017 (Int.toNat i1003) ((0 : Int) , (0 : Int))).2))) (sub x5 (0 : Nat) ((Int.toNat (if ((IntKind.wrap .i64 ((8 : Int) - (List.getD l1007 (Int.toNat i1003) ((0 : Int) , (0 : Int))).2)) < (Nat.cast (List.length x5) : Int)) then (IntKind.wrap .i64 ((8 : Int) - (List.getD l1007 (Int.toNat i1003) ((0 : Int) , (0 : Int))).2)) else (Nat.cast (List.length x5) : Int))) - (0 : Nat)))) ++ (List.drop ((Int.toNat (List.getD l1017 (Int.toNat i1003) ((0 : Int) , (0 : Int))).2) + (Min.min (List.length (sub x5 (0 : Nat) ((Int.toNat (if ((IntKind.wrap .i64 ((8 : Int) - (List.getD l1007 (Int.toNat i1003) ((0 : Int) , (0 : Int))).2)) < (Nat.cast (List.length x5) : Int)) then (IntKind.wrap .i64 ((8 : Int) - (List.getD l1007 (Int.toNat i1003) ((0 : Int) , (0 : Int))).2)) else (Nat.cast (List.length x5) : Int))) - (0 : Nat)))) ((List.length l1018) - (Int.toNat (List.getD l1017 (Int.toNat i1003) ((0 : Int) , (0 : Int))).2)))) l1018))) (0 : Nat) (List.length l1018))) (List.set l1017 (Int.toNat i1003) ((List.getD l1017 (Int.toNat i1003) ((0 : Int) , (0 : Int))).1 , (IntKind.wrap .i64 ((List.getD l1017 (Int.toNat i1003) ((0 : Int) , (0 : Int))).2 + (Nat.cast ((Int.toNat (if ((IntKind.wrap .i64 ((8 : Int) - (List.getD l1007 (Int.toNat i1003) ((0 : Int) , (0 : Int))).2)) < (Nat.cast (List.length x5) : Int)) then (IntKind.wrap .i64 ((8 : Int) - (List.getD l1007 (Int.toNat i1003) ((0 : Int) , (0 : Int))).2)) else (Nat.cast (List.length x5) : Int))) - (0 : Nat)) : Int))))) x5)
                  (none))
                 (none))
                (none))
               (none))
              (none))
             (none))
            (none))
           (none)))
         (none))
        (none))
       (none))
      (none)))
    (none)))
noncomputable def ghost_Ghost_Write_f6e0 (N : Nat) {R : Type} (x0 : Int) (x1 : List (Int)) (x2 : Int) (x3 : List ((Int) × (List (Int)))) (x4 : List ((Int) × (Int))) (x5 : List (Int)) (k0 : (Int) → (List (Int)) → (Int) → (List ((Int) × (List (Int)))) → (List ((Int) × (Int))) → (List (Int)) → Option R) : Option R := ghost_Ghost_Write_f6e0_T N (@ghost_Ghost_sized_0c83 N) (@ghost_Ghost_sized_1ab6 N) (@ghost_Ghost_file_4cb0 N) (@ghost_Ghost_file_7504 N) x0 x1 x2 x3 x4 x5 k0
abbrev ghost_Ghost_Write_d5de_Ty : Type 1 := {R : Type} → (Int) → (List (Int)) → (Int) → (Int) → (List (((ByteArray) × (ByteArray)) × ((Int) × (Bool)))) → (List ((Int) × (List (Int)))) → (List ((Int) × (Int))) → (List (Int)) → ((Int) → (List (Int)) → (Int) → (Int) → (List (((ByteArray) × (ByteArray)) × ((Int) × (Bool)))) → (List ((Int) × (List (Int)))) → (List ((Int) × (Int))) → (List (Int)) → Option R) → Option R
noncomputable def ghost_Ghost_Write_d5de_T (N : Nat) (c0 : ghost_Ghost_sized_0c83_Ty) (c1 : ghost_Ghost_sized_1ab6_Ty) (c2 : ghost_Ghost_file_4cb0_Ty) (c3 : ghost_Ghost_file_7504_Ty) {R : Type} (x0 : Int) (x1 : List (Int)) (x2 : Int) (x3 : Int) (x4 : List (((ByteArray) × (ByteArray)) × ((Int) × (Bool)))) (x5 : List ((Int) × (List (Int)))) (x6 : List ((Int) × (Int))) (x7 : List (Int)) (k0 : (Int) → (List (Int)) → (Int) → (Int) → (List (((ByteArray) × (ByteArray)) × ((Int) × (Bool)))) → (List ((Int) × (List (Int)))) → (List ((Int) × (Int))) → (List (Int)) → Option R) : Option R :=
  c3 x0 x1 x2 x3 x4 x5 x6
  (fun l1140 i1141 i1142 l1143 l1144 l1145 => k0 (65289 : Int) l1140 i1141 i1142 l1143 l1144 l1145 x7)
  (fun i1146 l1147 i1148 i1149 l1150 l1151 l1152 => br (decide ((Nat.cast (List.length x7) : Int) = (0 : Int)))
   (k0 (0 : Int) l1147 i1148 i1149 l1150 l1151 l1152 x7)
   (br (decide ((Int.toNat i1146) < (List.length l1152)))
    (br (decide ((8 : Int) ≤ (List.getD l1152 (Int.toNat i1146) ((0 : Int) , (0 : Int))).2))
     (k0 (65308 : Int) l1147 i1148 i1149 l1150 l1151 l1152 x7)
     (br (decide ((Int.toNat i1146) < (List.length l1152)))
      (br (leB (if ((IntKind.wrap .i64 ((8 : Int) - (List.getD l1152 (Int.toNat i1146) ((0 : Int) , (0 : Int))).2)) < (Nat.cast (List.length x7) : Int)) then (IntKind.wrap .i64 ((8 : Int) - (List.getD l1152 (Int.toNat i1146) ((0 : Int) , (0 : Int))).2)) else (Nat.cast (List.length x7) : Int)) (List.length x7))
       (br (decide ((Int.toNat i1146) < (List.length l1152)))
        (br (decide ((Int.toNat i1146) < (List.length l1152)))
         (c1 (Option.getD (mfind (.int .i64) (.isl (.int .i64)) l1151 (List.getD l1152 (Int.toNat i1146) ((0 : Int) , (0 : Int))).1) (Sh.zero (.isl (.int .i64)))) (if ((Nat.cast (List.length (Option.getD (mfind (.int .i64) (.isl (.int .i64)) l1151 (List.getD l1152 (Int.toNat i1146) ((0 : Int) , (0 : Int))).1) (Sh.zero (.isl (.int .i64))))) : Int) < (IntKind.wrap .i64 ((List.getD l1152 (Int.toNat i1146) ((0 : Int) , (0 : Int))).2 + (Nat.cast ((Int.toNat (if ((IntKind.wrap .i64 ((8 : Int) - (List.getD l1152 (Int.toNat i1146) ((0 : Int) , (0 : Int))).2)) < (Nat.cast (List.length x7) : Int)) then (IntKind.wrap .i64 ((8 : Int) - (List.getD l1152 (Int.toNat i1146) ((0 : Int) , (0 : Int))).2)) else (Nat.cast (List.length x7) : Int))) - (0 : Nat)) : Int)))) then (IntKind.wrap .i64 ((List.getD l1152 (Int.toNat i1146) ((0 : Int) , (0 : Int))).2 + (Nat.cast ((Int.toNat (if ((IntKind.wrap .i64 ((8 : Int) - (List.getD l1152 (Int.toNat i1146) ((0 : Int) , (0 : Int))).2)) < (Nat.cast (List.length x7) : Int)) then (IntKind.wrap .i64 ((8 : Int) - (List.getD l1152 (Int.toNat i1146) ((0 : Int) , (0 : Int))).2)) else (Nat.cast (List.length x7) : Int))) - (0 : Nat)) : Int))) else (Nat.cast (List.length (Option.getD (mfind (.int .i64) (.isl (.int .i64)) l1151 (List.getD l1152 (Int.toNat i1146) ((0 : Int) , (0 : Int))).1) (Sh.zero (.isl (.int .i64))))) : Int)) l1147 i1148 i1149 l1150 l1151 l1152
          (fun l1161 i1162 i1163 l1164 l1165 l1166 l1167 => br (decide ((Int.toNat i1146) < (List.length l1166)))
           (br (leB (List.getD l1166 (Int.toNat i1146) ((0 : Int) , (0 : Int))).2 (List.length l1167))
            (br (fits (0 : Nat) ((Int.toNat (if ((IntKind.wrap .i64 ((8 : Int) - (List.getD l1152 (Int.toNat i1146) ((0 : Int) , (0 : Int))).2)) < (Nat.cast (List.length x7) : Int)) then (IntKind.wrap .i64 ((8 : Int) - (List.getD l1152 (Int.toNat i1146) ((0 : Int) , (0 : Int))).2)) else (Nat.cast (List.length x7) : Int))) - (0 : Nat)) x7)
             (br (fits (Int.toNat (List.getD l1166 (Int.toNat i1146) ((0 : Int) , (0 : Int))).2) ((List.length l1167) - (Int.toNat (List.getD l1166 (Int.toNat i1146) ((0 : Int) , (0 : Int))).2)) l1167)
              (br (decide ((Int.toNat i1146) < (List.length l1166)))
               (br (fits (0 : Nat) (List.length l1167) ((List.take (Int.toNat (List.getD l1166 (Int.toNat i1146) ((0 : Int) , (0 : Int))).2) l1167) ++ ((List.take (Min.min (List.length (sub x7 (0 : Nat) ((Int.toNat (if ((IntKind.wrap .i64 ((8 : Int) - (List.getD l1152 (Int.toNat i1146) ((0 : Int) , (0 : Int))).2)) < (Nat.cast (List.length x7) : Int)) then (IntKind.wrap .i64 ((8 : Int) - (List.getD l1152 (Int.toNat i1146) ((0 : Int) , (0 : Int))).2)) else (Nat.cast (List.length x7) : Int))) - (0 : Nat)))) ((List.length l1167) - (Int.toNat (List.getD l1166 (Int.toNat i1146) ((0 : Int) , (0 : Int))).2))) (sub x7 (0 : Nat) ((Int.toNat (if ((IntKind.wrap .i64 ((8 : Int) - (List.getD l1152 (Int.toNat i1146) ((0 : Int) , (0 : Int))).2)) < (Nat.cast (List.length x7) : Int)) then (IntKind.wrap .i64 ((8 : Int) - (List.getD l1152 (Int.toNat i1146) ((0 : Int) , (0 : Int))).2)) else (Nat.cast (List.length x7) : Int))) - (0 : Nat)))) ++ (List.drop ((Int.toNat (List.getD l1166 (Int.toNat i1146) ((0 : Int) , (0 : Int))).2) + (Min.min (List.length (sub x7 (0 : Nat) ((Int.toNat (if ((IntKind.wrap .i64 ((8 : Int) - (List.getD l1152 (Int.toNat i1146) ((0 : Int) , (0 : Int))).2)) < (Nat.cast (List.length x7) : Int)) then (IntKind.wrap .i64 ((8 : Int) - (List.getD l1152 (Int.toNat i1146) ((0 : Int) , (0 : Int))).2)) else (Nat.cast (List.length x7) : Int))) - (0 : Nat)))) ((List.length l1167) - (Int.toNat (List.getD l1166 (Int.toNat i1146) ((0 : Int) , (0 : Int))).2)))) l1167))))
                (br (decide ((Int.toNat i1146) < (List.length l1166)))
                 (br (decide ((Int.toNat i1146) < (List.length l1166)))
                  (k0 (IntKind.wrap .u16 (Nat.cast ((Int.toNat (if ((IntKind.wrap .i64 ((8 : Int) - (List.getD l1152 (Int.toNat i1146) ((0 : Int) , (0 : Int))).2)) < (Nat.cast (List.length x7) : Int)) then (IntKind.wrap .i64 ((8 : Int) - (List.getD l1152 (Int.toNat i1146) ((0 : Int) , (0 : Int))).2)) else (Nat.cast (List.length x7) : Int))) - (0 : Nat)) : Int)) l1161 i1162 i1163 l1164 (mput (.int .i64) (.isl (.int .i64)) l1165 (List.getD l1166 (Int.toNat i1146) ((0 : Int) , (0 : Int))).1 (sub ((List.take (Int.toNat (List.getD l1166 (Int.toNat i1146) ((0 : Int) , (0 : Int))).2) l1167) ++ ((List.take (Min.min (List.length (sub x7 (0 : Nat) ((Int.toNat (if ((IntKind.wrap .i64 ((8 : Int) - (List.getD l1152 (Int.toNat i1146) ((0 : Int) , (0 : Int))).2)) < (Nat.cast (List.length x7) : Int)) then (IntKind.wrap .i64 ((8 : Int) - (List.getD l1152 (Int.toNat i1146) ((0 : Int) , (0 : Int))).2)) else (Nat.cast (List.length x7) : Int))) - (0 : Nat)))) ((List.length l1167) - (Int.toNat (List.getD l1166 (Int.toNat i1146) ((0 : Int) , (0 : Int))).2))) (sub x7 (0 : Nat) ((Int.toNat (if ((IntKind.wrap .i64 ((8 : Int) - (List.getD l1152 (Int.toNat i1146) ((0 : Int) , (0 : Int))).2)) < (Nat.cast (List.length x7) : Int)) then (IntKind.wrap .i64 ((8 : Int) - (List.getD l1152 (Int.toNat i1146) ((0 : Int) , (0 : Int))).2)) else (Nat.cast (List.length x7) : Int))) - (0 : Nat)))) ++ (List.drop ((Int.toNat (List.getD l1166 (Int.toNat i1146) ((0 : Int) , (0 : Int))).2) + (Min.min (List.length (sub x7 (0 : Nat) ((Int.toNat (if ((IntKind.wrap .i64 ((8 : Int) - (List.getD l1152 (Int.toNat i1146) ((0 : Int) , (0 : Int))).2)) < (Nat.cast (List.length x7) : Int)) then (IntKind.wrap .i64 ((8 : Int) - (List.getD l1152 (Int.toNat i1146) ((0 : Int) , (0 : Int))).2)) else (Nat.cast (List.length x7) : Int))) - (0 : Nat)))) ((List.length l1167) - (Int.toNat (List.getD l1166 (Int.toNat i1146) ((0 : Int) , (0 : Int))).2)))) l1167))) (0 : Nat) (List.length l1167))) (List.set l1166 (Int.toNat i1146) ((List.getD l1166 (Int.toNat i1146) ((0 : Int) , (0 : Int))).1 , (IntKind.wrap .i64 ((List.getD l1166 (Int.toNat i1146) ((0 : Int) , (0 : Int))).2 + (Nat.cast ((Int.toNat (if ((IntKind.wrap .i64 ((8 : Int) - (List.getD l1152 (Int.toNat i1146) ((0 : Int) , (0 : Int))).2)) < (Nat.cast (List.length x7) : Int)) then (IntKind.wrap .i64 ((8 : Int) - (List.getD l1152 (Int.toNat i1146) ((0 : Int) , (0 : Int))).2)) else (Nat.cast (List.length x7) : Int))) - (0 : Nat)) : Int))))) x7)
                  (none))
                 (none))
                (none))
               (none))
              (none))
             (none))
            (none))
           (none)))
         (none))
        (none))
       (none))
      (none)))
    (none)))
noncomputable def ghost_Ghost_Write_d5de (N : Nat) {R : Type} (x0 : Int) (x1 : List (Int)) (x2 : Int) (x3 : Int) (x4 : List (((ByteArray) × (ByteArray)) × ((Int) × (Bool)))) (x5 : List ((Int) × (List (Int)))) (x6 : List ((Int) × (Int))) (x7 : List (Int)) (k0 : (Int) → (List (Int)) → (Int) → (Int) → (List (((ByteArray) × (ByteArray)) × ((Int) × (Bool)))) → (List ((Int) × (List (Int)))) → (List ((Int) × (Int))) → (List (Int)) → Option R) : Option R := ghost_Ghost_Write_d5de_T N (@ghost_Ghost_sized_0c83 N) (@ghost_Ghost_sized_1ab6 N) (@ghost_Ghost_file_4cb0 N) (@ghost_Ghost_file_7504 N) x0 x1 x2 x3 x4 x5 x6 x7 k0
abbrev ghost_Ghost_Data_9183_Ty : Type 1 := {R : Type} → (ByteArray) → (List (Int)) → (Int) → (List ((Int) × (List (Int)))) → (List ((Int) × (Int))) → ((Int) → (List (Int)) → (Int) → (List ((Int) × (List (Int)))) → (List ((Int) × (Int))) → (List (Int)) → Option R) → Option R
noncomputable def ghost_Ghost_Data_9183_T (N : Nat) (c0 : slices_Clone__term_T_term_T_Ty) (c1 : tree_Tree_Find_Ty) (c2 : tree_Tree_Find_fb98_Ty) {R : Type} (x0 : ByteArray) (x1 : List (Int)) (x2 : Int) (x3 : List ((Int) × (List (Int)))) (x4 : List ((Int) × (Int))) (k0 : (Int) → (List (Int)) → (Int) → (List ((Int) × (List (Int)))) → (List ((Int) × (Int))) → (List (Int)) → Option R) : Option R :=
  c1 x0
  (fun i1029 b1030 i1031 => br (!(decide (i1031 = (0 : Int))))
   (k0 i1031 x1 x2 x3 x4 ([] : List ((Sh.int IntKind.i64).T)))
   (br b1030
    (k0 (65301 : Int) x1 x2 x3 x4 ([] : List ((Sh.int IntKind.i64).T)))
    (c0 (Option.getD (mfind (.int .i64) (.isl (.int .i64)) x3 i1029) (Sh.zero (.isl (.int .i64))))
     (fun l1032 => k0 (0 : Int) x1 x2 x3 x4 l1032))))
noncomputable def ghost_Ghost_Data_9183 (N : Nat) {R : Type} (x0 : ByteArray) (x1 : List (Int)) (x2 : Int) (x3 : List ((Int) × (List (Int)))) (x4 : List ((Int) × (Int))) (k0 : (Int) → (List (Int)) → (Int) → (List ((Int) × (List (Int)))) → (List ((Int) × (Int))) → (List (Int)) → Option R) : Option R := ghost_Ghost_Data_9183_T N @slices_Clone__term_T_term_T (@tree_Tree_Find N) (@tree_Tree_Find_fb98 N) x0 x1 x2 x3 x4 k0
abbrev ghost_Ghost_Data_e876_Ty : Type 1 := {R : Type} → (ByteArray) → (List (Int)) → (Int) → (Int) → (List (((ByteArray) × (ByteArray)) × ((Int) × (Bool)))) → (List ((Int) × (List (Int)))) → (List ((Int) × (Int))) → ((Int) → (List (Int)) → (Int) → (Int) → (List (((ByteArray) × (ByteArray)) × ((Int) × (Bool)))) → (List ((Int) × (List (Int)))) → (List ((Int) × (Int))) → (List (Int)) → Option R) → Option R
noncomputable def ghost_Ghost_Data_e876_T (N : Nat) (c0 : slices_Clone__term_T_term_T_Ty) (c1 : tree_Tree_Find_Ty) (c2 : tree_Tree_Find_fb98_Ty) {R : Type} (x0 : ByteArray) (x1 : List (Int)) (x2 : Int) (x3 : Int) (x4 : List (((ByteArray) × (ByteArray)) × ((Int) × (Bool)))) (x5 : List ((Int) × (List (Int)))) (x6 : List ((Int) × (Int))) (k0 : (Int) → (List (Int)) → (Int) → (Int) → (List (((ByteArray) × (ByteArray)) × ((Int) × (Bool)))) → (List ((Int) × (List (Int)))) → (List ((Int) × (Int))) → (List (Int)) → Option R) : Option R :=
  c2 x0 x3 x4
  (fun i1182 b1183 i1184 i1185 l1186 => br (!(decide (i1184 = (0 : Int))))
   (k0 i1184 x1 x2 i1185 l1186 x5 x6 ([] : List ((Sh.int IntKind.i64).T)))
   (br b1183
    (k0 (65301 : Int) x1 x2 i1185 l1186 x5 x6 ([] : List ((Sh.int IntKind.i64).T)))
    (c0 (Option.getD (mfind (.int .i64) (.isl (.int .i64)) x5 i1182) (Sh.zero (.isl (.int .i64))))
     (fun l1187 => k0 (0 : Int) x1 x2 i1185 l1186 x5 x6 l1187))))
noncomputable def ghost_Ghost_Data_e876 (N : Nat) {R : Type} (x0 : ByteArray) (x1 : List (Int)) (x2 : Int) (x3 : Int) (x4 : List (((ByteArray) × (ByteArray)) × ((Int) × (Bool)))) (x5 : List ((Int) × (List (Int)))) (x6 : List ((Int) × (Int))) (k0 : (Int) → (List (Int)) → (Int) → (Int) → (List (((ByteArray) × (ByteArray)) × ((Int) × (Bool)))) → (List ((Int) × (List (Int)))) → (List ((Int) × (Int))) → (List (Int)) → Option R) : Option R := ghost_Ghost_Data_e876_T N @slices_Clone__term_T_term_T (@tree_Tree_Find N) (@tree_Tree_Find_fb98 N) x0 x1 x2 x3 x4 x5 x6 k0
abbrev ghost_Ghost_Trunc_ab5b_Ty : Type 1 := {R : Type} → (Int) → (Int) → (List (Int)) → (Int) → (List ((Int) × (List (Int)))) → (List ((Int) × (Int))) → ((Int) → (List (Int)) → (Int) → (List ((Int) × (List (Int)))) → (List ((Int) × (Int))) → Option R) → Option R
noncomputable def ghost_Ghost_Trunc_ab5b_T (N : Nat) (c0 : ghost_Ghost_sized_0c83_Ty) (c1 : ghost_Ghost_sized_1ab6_Ty) (c2 : ghost_Ghost_file_4cb0_Ty) (c3 : ghost_Ghost_file_7504_Ty) {R : Type} (x0 : Int) (x1 : Int) (x2 : List (Int)) (x3 : Int) (x4 : List ((Int) × (List (Int)))) (x5 : List ((Int) × (Int))) (k0 : (Int) → (List (Int)) → (Int) → (List ((Int) × (List (Int)))) → (List ((Int) × (Int))) → Option R) : Option R :=
  c2 x0 x2 x3 x4 x5
  (fun l1039 i1040 l1041 l1042 => k0 (65289 : Int) l1039 i1040 l1041 l1042)
  (fun i1043 l1044 i1045 l1046 l1047 => br (decide ((8 : Int) < x1))
   (k0 (65302 : Int) l1044 i1045 l1046 l1047)
   (br (decide ((Int.toNat i1043) < (List.length l1047)))
    (br (decide ((Int.toNat i1043) < (List.length l1047)))
     (c0 (Option.getD (mfind (.int .i64) (.isl (.int .i64)) l1046 (List.getD l1047 (Int.toNat i1043) ((0 : Int) , (0 : Int))).1) (Sh.zero (.isl (.int .i64)))) (IntKind.wrap .i64 x1) l1044 i1045 l1046 l1047
      (fun l1048 i1049 l1050 l1051 l1052 => br (decide (i1043 = i1043))
       (br (decide (i1043 = i1043))
        (br (decide (i1043 = i1043))
         (br (decide ((Int.toNat i1043) < (List.length l1051)))
          (br (decide ((List.getD l1051 (Int.toNat i1043) ((0 : Int) , (0 : Int))).1 = (List.getD l1047 (Int.toNat i1043) ((0 : Int) , (0 : Int))).1))
           (br (fits (0 : Nat) (List.length l1052) l1052)
            (k0 (0 : Int) l1048 i1049 (mput (.int .i64) (.isl (.int .i64)) l1050 (List.getD l1047 (Int.toNat i1043) ((0 : Int) , (0 : Int))).1 (sub l1052 (0 : Nat) (List.length l1052))) l1051)
            (none))
           (none))
          (none))
         (none))
        (none))
       (none)))
     (none))
    (none)))
noncomputable def ghost_Ghost_Trunc_ab5b (N : Nat) {R : Type} (x0 : Int) (x1 : Int) (x2 : List (Int)) (x3 : Int) (x4 : List ((Int) × (List (Int)))) (x5 : List ((Int) × (Int))) (k0 : (Int) → (List (Int)) → (Int) → (List ((Int) × (List (Int)))) → (List ((Int) × (Int))) → Option R) : Option R := ghost_Ghost_Trunc_ab5b_T N (@ghost_Ghost_sized_0c83 N) (@ghost_Ghost_sized_1ab6 N) (@ghost_Ghost_file_4cb0 N) (@ghost_Ghost_file_7504 N) x0 x1 x2 x3 x4 x5 k0
abbrev ghost_Ghost_Trunc_5658_Ty : Type 1 := {R : Type} → (Int) → (Int) → (List (Int)) → (Int) → (Int) → (List (((ByteArray) × (ByteArray)) × ((Int) × (Bool)))) → (List ((Int) × (List (Int)))) → (List ((Int) × (Int))) → ((Int) → (List (Int)) → (Int) → (Int) → (List (((ByteArray) × (ByteArray)) × ((Int) × (Bool)))) → (List ((Int) × (List (Int)))) → (List ((Int) × (Int))) → Option R) → Option R
noncomputable def ghost_Ghost_Trunc_5658_T (N : Nat) (c0 : ghost_Ghost_sized_0c83_Ty) (c1 : ghost_Ghost_sized_1ab6_Ty) (c2 : ghost_Ghost_file_4cb0_Ty) (c3 : ghost_Ghost_file_7504_Ty) {R : Type} (x0 : Int) (x1 : Int) (x2 : List (Int)) (x3 : Int) (x4 : Int) (x5 : List (((ByteArray) × (ByteArray)) × ((Int) × (Bool)))) (x6 : List ((Int) × (List (Int)))) (x7 : List ((Int) × (Int))) (k0 : (Int) → (List (Int)) → (Int) → (Int) → (List (((ByteArray) × (ByteArray)) × ((Int) × (Bool)))) → (List ((Int) × (List (Int)))) → (List ((Int) × (Int))) → Option R) : Option R :=
  c3 x0 x2 x3 x4 x5 x6 x7
  (fun l1196 i1197 i1198 l1199 l1200 l1201 => k0 (65289 : Int) l1196 i1197 i1198 l1199 l1200 l1201)
  (fun i1202 l1203 i1204 i1205 l1206 l1207 l1208 => br (decide ((8 : Int) < x1))
   (k0 (65302 : Int) l1203 i1204 i1205 l1206 l1207 l1208)
   (br (decide ((Int.toNat i1202) < (List.length l1208)))
    (br (decide ((Int.toNat i1202) < (List.length l1208)))
     (c1 (Option.getD (mfind (.int .i64) (.isl (.int .i64)) l1207 (List.getD l1208 (Int.toNat i1202) ((0 : Int) , (0 : Int))).1) (Sh.zero (.isl (.int .i64)))) (IntKind.wrap .i64 x1) l1203 i1204 i1205 l1206 l1207 l1208
      (fun l1209 i1210 i1211 l1212 l1213 l1214 l1215 => br (decide (i1202 = i1202))
       (br (decide (i1202 = i1202))
        (br (decide (i1202 = i1202))
         (br (decide ((Int.toNat i1202) < (List.length l1214)))
          (br (decide ((List.getD l1214 (Int.toNat i1202) ((0 : Int) , (0 : Int))).1 = (List.getD l1208 (Int.toNat i1202) ((0 : Int) , (0 : Int))).1))
           (br (fits (0 : Nat) (List.length l1215) l1215)
            (k0 (0 : Int) l1209 i1210 i1211 l1212 (mput (.int .i64) (.isl (.int .i64)) l1213 (List.getD l1208 (Int.toNat i1202) ((0 : Int) , (0 : Int))).1 (sub l1215 (0 : Nat) (List.length l1215))) l1214)
            (none))
           (none))
          (none))
         (none))
        (none))
       (none)))
     (none))
    (none)))
noncomputable def ghost_Ghost_Trunc_5658 (N : Nat) {R : Type} (x0 : Int) (x1 : Int) (x2 : List (Int)) (x3 : Int) (x4 : Int) (x5 : List (((ByteArray) × (ByteArray)) × ((Int) × (Bool)))) (x6 : List ((Int) × (List (Int)))) (x7 : List ((Int) × (Int))) (k0 : (Int) → (List (Int)) → (Int) → (Int) → (List (((ByteArray) × (ByteArray)) × ((Int) × (Bool)))) → (List ((Int) × (List (Int)))) → (List ((Int) × (Int))) → Option R) : Option R := ghost_Ghost_Trunc_5658_T N (@ghost_Ghost_sized_0c83 N) (@ghost_Ghost_sized_1ab6 N) (@ghost_Ghost_file_4cb0 N) (@ghost_Ghost_file_7504 N) x0 x1 x2 x3 x4 x5 x6 x7 k0
abbrev tree_Tree_Move_Ty : Type 1 := {R : Type} → (ByteArray) → (ByteArray) → ((Int) → (Int) → Option R) → Option R
noncomputable def tree_Tree_Move_T (N : Nat) (c0 : tree_Tree_above_2de7_Ty) (c1 : tree_of_Ty) (c2 : tree_Tree_get_fb98_Ty) {R : Type} (x0 : ByteArray) (x1 : ByteArray) (k0 : (Int) → (Int) → Option R) : Option R :=
  k0 (0 : Int) (0 : Int)
noncomputable def tree_Tree_Move (N : Nat) {R : Type} (x0 : ByteArray) (x1 : ByteArray) (k0 : (Int) → (Int) → Option R) : Option R := tree_Tree_Move_T N (@tree_Tree_above_2de7 N) (@tree_of N) (@tree_Tree_get_fb98 N) x0 x1 k0
abbrev tree_Tree_Move_f9be_Ty : Type 1 := {R : Type} → (ByteArray) → (ByteArray) → (Int) → (List (((ByteArray) × (ByteArray)) × ((Int) × (Bool)))) → ((Int) → (Int) → (Int) → (List (((ByteArray) × (ByteArray)) × ((Int) × (Bool)))) → Option R) → Option R
noncomputable def tree_Tree_Move_f9be_T (N : Nat) (c0 : tree_Tree_above_2de7_Ty) (c1 : tree_of_Ty) (c2 : tree_Tree_get_fb98_Ty) {R : Type} (x0 : ByteArray) (x1 : ByteArray) (x2 : Int) (x3 : List (((ByteArray) × (ByteArray)) × ((Int) × (Bool)))) (k0 : (Int) → (Int) → (Int) → (List (((ByteArray) × (ByteArray)) × ((Int) × (Bool)))) → Option R) : Option R :=
  c2 x0 x2 x3
  (fun i1247 b1248 i1249 i1250 l1251 => br (decide (i1249 = (0 : Int)))
   (br b1248
    (c1 x1
     (fun s1252 s1253 => k0 (-1 : Int) (65301 : Int) i1250 l1251))
    (c1 x1
     (fun s1254 s1255 => br (decide (i1249 = (0 : Int)))
      (c0 s1254 s1255 i1250 l1251
       (fun i1256 i1257 l1258 => br (!(!(decide (i1256 = (0 : Int)))))
        (br (decide (x0 = x1))
         (k0 (-1 : Int) i1256 i1257 l1258)
         (br ((Option.isSome (mfind (.pair .str .str) (.pair (.int .i64) .bool) l1258 (s1254 , s1255))) == (Option.isSome (mfind (.pair .str .str) (.pair (.int .i64) .bool) l1258 (s1254 , s1255))))
          (br (Option.isSome (mfind (.pair .str .str) (.pair (.int .i64) .bool) l1258 (s1254 , s1255)))
           (br (Option.getD (mfind (.pair .str .str) (.pair (.int .i64) .bool) l1258 (s1254 , s1255)) ((0 : Int) , false)).2
            (k0 (-1 : Int) (65301 : Int) i1257 l1258)
            (c1 x0
             (fun s1259 s1260 => br (!(Option.isSome (mfind (.pair .str .str) (.pair (.int .i64) .bool) l1258 (s1254 , s1255))))
              (k0 (-1 : Int) (0 : Int) i1257 (mput (.pair .str .str) (.pair (.int .i64) .bool) (mdel (.pair .str .str) (.pair (.int .i64) .bool) l1258 (s1259 , s1260)) (s1254 , s1255) (i1247 , b1248)))
              (k0 (Option.getD (mfind (.pair .str .str) (.pair (.int .i64) .bool) l1258 (s1254 , s1255)) ((0 : Int) , false)).1 (0 : Int) i1257 (mput (.pair .str .str) (.pair (.int .i64) .bool) (mdel (.pair .str .str) (.pair (.int .i64) .bool) l1258 (s1259 , s1260)) (s1254 , s1255) (i1247 , b1248))))))
           (c1 x0
            (fun s1261 s1262 => br (!(Option.isSome (mfind (.pair .str .str) (.pair (.int .i64) .bool) l1258 (s1254 , s1255))))
             (k0 (-1 : Int) (0 : Int) i1257 (mput (.pair .str .str) (.pair (.int .i64) .bool) (mdel (.pair .str .str) (.pair (.int .i64) .bool) l1258 (s1261 , s1262)) (s1254 , s1255) (i1247 , b1248)))
             (k0 (Option.getD (mfind (.pair .str .str) (.pair (.int .i64) .bool) l1258 (s1254 , s1255)) ((0 : Int) , false)).1 (0 : Int) i1257 (mput (.pair .str .str) (.pair (.int .i64) .bool) (mdel (.pair .str .str) (.pair (.int .i64) .bool) l1258 (s1261 , s1262)) (s1254 , s1255) (i1247 , b1248))))))
          (none)))
        (k0 (-1 : Int) i1256 i1257 l1258)))
      (br (!(!(decide (i1249 = (0 : Int)))))
       (br (decide (x0 = x1))
        (k0 (-1 : Int) i1249 i1250 l1251)
        (br ((Option.isSome (mfind (.pair .str .str) (.pair (.int .i64) .bool) l1251 (s1254 , s1255))) == (Option.isSome (mfind (.pair .str .str) (.pair (.int .i64) .bool) l1251 (s1254 , s1255))))
         (br (Option.isSome (mfind (.pair .str .str) (.pair (.int .i64) .bool) l1251 (s1254 , s1255)))
          (br (Option.getD (mfind (.pair .str .str) (.pair (.int .i64) .bool) l1251 (s1254 , s1255)) ((0 : Int) , false)).2
           (k0 (-1 : Int) (65301 : Int) i1250 l1251)
           (c1 x0
            (fun s1263 s1264 => br (!(Option.isSome (mfind (.pair .str .str) (.pair (.int .i64) .bool) l1251 (s1254 , s1255))))
             (k0 (-1 : Int) (0 : Int) i1250 (mput (.pair .str .str) (.pair (.int .i64) .bool) (mdel (.pair .str .str) (.pair (.int .i64) .bool) l1251 (s1263 , s1264)) (s1254 , s1255) (i1247 , b1248)))
             (k0 (Option.getD (mfind (.pair .str .str) (.pair (.int .i64) .bool) l1251 (s1254 , s1255)) ((0 : Int) , false)).1 (0 : Int) i1250 (mput (.pair .str .str) (.pair (.int .i64) .bool) (mdel (.pair .str .str) (.pair (.int .i64) .bool) l1251 (s1263 , s1264)) (s1254 , s1255) (i1247 , b1248))))))
          (c1 x0
           (fun s1265 s1266 => br (!(Option.isSome (mfind (.pair .str .str) (.pair (.int .i64) .bool) l1251 (s1254 , s1255))))
            (k0 (-1 : Int) (0 : Int) i1250 (mput (.pair .str .str) (.pair (.int .i64) .bool) (mdel (.pair .str .str) (.pair (.int .i64) .bool) l1251 (s1265 , s1266)) (s1254 , s1255) (i1247 , b1248)))
            (k0 (Option.getD (mfind (.pair .str .str) (.pair (.int .i64) .bool) l1251 (s1254 , s1255)) ((0 : Int) , false)).1 (0 : Int) i1250 (mput (.pair .str .str) (.pair (.int .i64) .bool) (mdel (.pair .str .str) (.pair (.int .i64) .bool) l1251 (s1265 , s1266)) (s1254 , s1255) (i1247 , b1248))))))
         (none)))
       (k0 (-1 : Int) i1249 i1250 l1251)))))
   (c1 x1
    (fun s1267 s1268 => br (decide (i1249 = (0 : Int)))
     (c0 s1267 s1268 i1250 l1251
      (fun i1269 i1270 l1271 => br (!(!(decide (i1269 = (0 : Int)))))
       (br (decide (x0 = x1))
        (k0 (-1 : Int) i1269 i1270 l1271)
        (br ((Option.isSome (mfind (.pair .str .str) (.pair (.int .i64) .bool) l1271 (s1267 , s1268))) == (Option.isSome (mfind (.pair .str .str) (.pair (.int .i64) .bool) l1271 (s1267 , s1268))))
         (br (Option.isSome (mfind (.pair .str .str) (.pair (.int .i64) .bool) l1271 (s1267 , s1268)))
          (br (Option.getD (mfind (.pair .str .str) (.pair (.int .i64) .bool) l1271 (s1267 , s1268)) ((0 : Int) , false)).2
           (k0 (-1 : Int) (65301 : Int) i1270 l1271)
           (c1 x0
            (fun s1272 s1273 => br (!(Option.isSome (mfind (.pair .str .str) (.pair (.int .i64) .bool) l1271 (s1267 , s1268))))
             (k0 (-1 : Int) (0 : Int) i1270 (mput (.pair .str .str) (.pair (.int .i64) .bool) (mdel (.pair .str .str) (.pair (.int .i64) .bool) l1271 (s1272 , s1273)) (s1267 , s1268) (i1247 , b1248)))
             (k0 (Option.getD (mfind (.pair .str .str) (.pair (.int .i64) .bool) l1271 (s1267 , s1268)) ((0 : Int) , false)).1 (0 : Int) i1270 (mput (.pair .str .str) (.pair (.int .i64) .bool) (mdel (.pair .str .str) (.pair (.int .i64) .bool) l1271 (s1272 , s1273)) (s1267 , s1268) (i1247 , b1248))))))
          (c1 x0
           (fun s1274 s1275 => br (!(Option.isSome (mfind (.pair .str .str) (.pair (.int .i64) .bool) l1271 (s1267 , s1268))))
            (k0 (-1 : Int) (0 : Int) i1270 (mput (.pair .str .str) (.pair (.int .i64) .bool) (mdel (.pair .str .str) (.pair (.int .i64) .bool) l1271 (s1274 , s1275)) (s1267 , s1268) (i1247 , b1248)))
            (k0 (Option.getD (mfind (.pair .str .str) (.pair (.int .i64) .bool) l1271 (s1267 , s1268)) ((0 : Int) , false)).1 (0 : Int) i1270 (mput (.pair .str .str) (.pair (.int .i64) .bool) (mdel (.pair .str .str) (.pair (.int .i64) .bool) l1271 (s1274 , s1275)) (s1267 , s1268) (i1247 , b1248))))))
         (none)))
       (k0 (-1 : Int) i1269 i1270 l1271)))
     (br (!(!(decide (i1249 = (0 : Int)))))
      (br (decide (x0 = x1))
       (k0 (-1 : Int) i1249 i1250 l1251)
       (br ((Option.isSome (mfind (.pair .str .str) (.pair (.int .i64) .bool) l1251 (s1267 , s1268))) == (Option.isSome (mfind (.pair .str .str) (.pair (.int .i64) .bool) l1251 (s1267 , s1268))))
        (br (Option.isSome (mfind (.pair .str .str) (.pair (.int .i64) .bool) l1251 (s1267 , s1268)))
         (br (Option.getD (mfind (.pair .str .str) (.pair (.int .i64) .bool) l1251 (s1267 , s1268)) ((0 : Int) , false)).2
          (k0 (-1 : Int) (65301 : Int) i1250 l1251)
          (c1 x0
           (fun s1276 s1277 => br (!(Option.isSome (mfind (.pair .str .str) (.pair (.int .i64) .bool) l1251 (s1267 , s1268))))
            (k0 (-1 : Int) (0 : Int) i1250 (mput (.pair .str .str) (.pair (.int .i64) .bool) (mdel (.pair .str .str) (.pair (.int .i64) .bool) l1251 (s1276 , s1277)) (s1267 , s1268) (i1247 , b1248)))
            (k0 (Option.getD (mfind (.pair .str .str) (.pair (.int .i64) .bool) l1251 (s1267 , s1268)) ((0 : Int) , false)).1 (0 : Int) i1250 (mput (.pair .str .str) (.pair (.int .i64) .bool) (mdel (.pair .str .str) (.pair (.int .i64) .bool) l1251 (s1276 , s1277)) (s1267 , s1268) (i1247 , b1248))))))
         (c1 x0
          (fun s1278 s1279 => br (!(Option.isSome (mfind (.pair .str .str) (.pair (.int .i64) .bool) l1251 (s1267 , s1268))))
           (k0 (-1 : Int) (0 : Int) i1250 (mput (.pair .str .str) (.pair (.int .i64) .bool) (mdel (.pair .str .str) (.pair (.int .i64) .bool) l1251 (s1278 , s1279)) (s1267 , s1268) (i1247 , b1248)))
           (k0 (Option.getD (mfind (.pair .str .str) (.pair (.int .i64) .bool) l1251 (s1267 , s1268)) ((0 : Int) , false)).1 (0 : Int) i1250 (mput (.pair .str .str) (.pair (.int .i64) .bool) (mdel (.pair .str .str) (.pair (.int .i64) .bool) l1251 (s1278 , s1279)) (s1267 , s1268) (i1247 , b1248))))))
        (none)))
      (k0 (-1 : Int) i1249 i1250 l1251)))))
noncomputable def tree_Tree_Move_f9be (N : Nat) {R : Type} (x0 : ByteArray) (x1 : ByteArray) (x2 : Int) (x3 : List (((ByteArray) × (ByteArray)) × ((Int) × (Bool)))) (k0 : (Int) → (Int) → (Int) → (List (((ByteArray) × (ByteArray)) × ((Int) × (Bool)))) → Option R) : Option R := tree_Tree_Move_f9be_T N (@tree_Tree_above_2de7 N) (@tree_of N) (@tree_Tree_get_fb98 N) x0 x1 x2 x3 k0
abbrev tree_Tree_many_fb98_Ty : Type 1 := {R : Type} → (ByteArray) → (Int) → (List (((ByteArray) × (ByteArray)) × ((Int) × (Bool)))) → Option R
noncomputable def tree_Tree_many_fb98_T (N : Nat) {R : Type} (x0 : ByteArray) (x1 : Int) (x2 : List (((ByteArray) × (ByteArray)) × ((Int) × (Bool)))) : Option R :=
  none
noncomputable def tree_Tree_many_fb98 (N : Nat) {R : Type} (x0 : ByteArray) (x1 : Int) (x2 : List (((ByteArray) × (ByteArray)) × ((Int) × (Bool)))) : Option R := tree_Tree_many_fb98_T N x0 x1 x2
abbrev tree_Tree_Drop_Ty : Type 1 := {R : Type} → (ByteArray) → (Bool) → ((Int) → Option R) → Option R
noncomputable def tree_Tree_Drop_T (N : Nat) (c0 : tree_of_Ty) (c1 : tree_Tree_many_fb98_Ty) (c2 : tree_Tree_get_fb98_Ty) {R : Type} (x0 : ByteArray) (x1 : Bool) (k0 : (Int) → Option R) : Option R :=
  k0 (0 : Int)
noncomputable def tree_Tree_Drop (N : Nat) {R : Type} (x0 : ByteArray) (x1 : Bool) (k0 : (Int) → Option R) : Option R := tree_Tree_Drop_T N (@tree_of N) (@tree_Tree_many_fb98 N) (@tree_Tree_get_fb98 N) x0 x1 k0
abbrev tree_Tree_Drop_c502_Ty : Type 1 := {R : Type} → (ByteArray) → (Bool) → (Int) → (List (((ByteArray) × (ByteArray)) × ((Int) × (Bool)))) → ((Int) → (Int) → (List (((ByteArray) × (ByteArray)) × ((Int) × (Bool)))) → Option R) → Option R
noncomputable def tree_Tree_Drop_c502_T (N : Nat) (c0 : tree_of_Ty) (c1 : tree_Tree_many_fb98_Ty) (c2 : tree_Tree_get_fb98_Ty) {R : Type} (x0 : ByteArray) (x1 : Bool) (x2 : Int) (x3 : List (((ByteArray) × (ByteArray)) × ((Int) × (Bool)))) (k0 : (Int) → (Int) → (List (((ByteArray) × (ByteArray)) × ((Int) × (Bool)))) → Option R) : Option R :=
  c2 x0 x2 x3
  (fun i1231 b1232 i1233 i1234 l1235 => br (!(decide (i1233 = (0 : Int))))
   (k0 i1233 i1234 l1235)
   (br (!x1)
    (br b1232
     (k0 (65301 : Int) i1234 l1235)
     (br x1
      (br (!b1232)
       (k0 (65300 : Int) i1234 l1235)
       (br x1
        (c1 x0 i1234 l1235)
        (c0 x0
         (fun s1236 s1237 => k0 (0 : Int) i1234 (mdel (.pair .str .str) (.pair (.int .i64) .bool) l1235 (s1236 , s1237))))))
      (br x1
       (c1 x0 i1234 l1235)
       (c0 x0
        (fun s1238 s1239 => k0 (0 : Int) i1234 (mdel (.pair .str .str) (.pair (.int .i64) .bool) l1235 (s1238 , s1239)))))))
    (br x1
     (br (!b1232)
      (k0 (65300 : Int) i1234 l1235)
      (br x1
       (c1 x0 i1234 l1235)
       (c0 x0
        (fun s1240 s1241 => k0 (0 : Int) i1234 (mdel (.pair .str .str) (.pair (.int .i64) .bool) l1235 (s1240 , s1241))))))
     (br x1
      (c1 x0 i1234 l1235)
      (c0 x0
       (fun s1242 s1243 => k0 (0 : Int) i1234 (mdel (.pair .str .str) (.pair (.int .i64) .bool) l1235 (s1242 , s1243))))))))
noncomputable def tree_Tree_Drop_c502 (N : Nat) {R : Type} (x0 : ByteArray) (x1 : Bool) (x2 : Int) (x3 : List (((ByteArray) × (ByteArray)) × ((Int) × (Bool)))) (k0 : (Int) → (Int) → (List (((ByteArray) × (ByteArray)) × ((Int) × (Bool)))) → Option R) : Option R := tree_Tree_Drop_c502_T N (@tree_of N) (@tree_Tree_many_fb98 N) (@tree_Tree_get_fb98 N) x0 x1 x2 x3 k0
abbrev tree_Tree_Many_Ty : Type 1 := {R : Type} → (ByteArray) → ((Int) → Option R) → Option R
noncomputable def tree_Tree_Many_T (N : Nat) (c0 : tree_Tree_many_fb98_Ty) (c1 : tree_Tree_get_fb98_Ty) {R : Type} (x0 : ByteArray) (k0 : (Int) → Option R) : Option R :=
  k0 (0 : Int)
noncomputable def tree_Tree_Many (N : Nat) {R : Type} (x0 : ByteArray) (k0 : (Int) → Option R) : Option R := tree_Tree_Many_T N (@tree_Tree_many_fb98 N) (@tree_Tree_get_fb98 N) x0 k0
abbrev tree_Tree_Many_fb98_Ty : Type 1 := {R : Type} → (ByteArray) → (Int) → (List (((ByteArray) × (ByteArray)) × ((Int) × (Bool)))) → ((Int) → (Int) → (List (((ByteArray) × (ByteArray)) × ((Int) × (Bool)))) → Option R) → Option R
noncomputable def tree_Tree_Many_fb98_T (N : Nat) (c0 : tree_Tree_many_fb98_Ty) (c1 : tree_Tree_get_fb98_Ty) {R : Type} (x0 : ByteArray) (x1 : Int) (x2 : List (((ByteArray) × (ByteArray)) × ((Int) × (Bool)))) (k0 : (Int) → (Int) → (List (((ByteArray) × (ByteArray)) × ((Int) × (Bool)))) → Option R) : Option R :=
  c1 x0 x1 x2
  (fun i1291 b1292 i1293 i1294 l1295 => br (!(decide (i1293 = (0 : Int))))
   (k0 i1293 i1294 l1295)
   (br (!b1292)
    (k0 (65300 : Int) i1294 l1295)
    (c0 x0 i1294 l1295)))
noncomputable def tree_Tree_Many_fb98 (N : Nat) {R : Type} (x0 : ByteArray) (x1 : Int) (x2 : List (((ByteArray) × (ByteArray)) × ((Int) × (Bool)))) (k0 : (Int) → (Int) → (List (((ByteArray) × (ByteArray)) × ((Int) × (Bool)))) → Option R) : Option R := tree_Tree_Many_fb98_T N (@tree_Tree_many_fb98 N) (@tree_Tree_get_fb98 N) x0 x1 x2 k0
abbrev ghost_Ghost_Name_6d90_Ty : Type 1 := {R : Type} → (Int) → (ByteArray) → (ByteArray) → (List (Int)) → (Int) → (List ((Int) × (List (Int)))) → (List ((Int) × (Int))) → ((Int) → (List (Int)) → (Int) → (List ((Int) × (List (Int)))) → (List ((Int) × (Int))) → Option R) → Option R
noncomputable def ghost_Ghost_Name_6d90_T (N : Nat) (c0 : tree_Tree_Many_Ty) (c1 : tree_Tree_Many_fb98_Ty) (c2 : tree_Tree_Make_c502_Ty) (c3 : tree_Tree_Make_Ty) (c4 : tree_Tree_Move_Ty) (c5 : tree_Tree_Move_f9be_Ty) (c6 : tree_Tree_Drop_Ty) (c7 : tree_Tree_Drop_c502_Ty) {R : Type} (x0 : Int) (x1 : ByteArray) (x2 : ByteArray) (x3 : List (Int)) (x4 : Int) (x5 : List ((Int) × (List (Int)))) (x6 : List ((Int) × (Int))) (k0 : (Int) → (List (Int)) → (Int) → (List ((Int) × (List (Int)))) → (List ((Int) × (Int))) → Option R) : Option R :=
  br (decide (x0 = (33 : Int)))
  (c6 x1 false
   (fun i1064 => k0 i1064 x3 x4 x5 x6))
  (br (decide (x0 = (34 : Int)))
   (c4 x1 x2
    (fun i1065 i1066 => k0 i1066 x3 x4 x5 x6))
   (br (decide (x0 = (35 : Int)))
    (c3 x1 true
     (fun i1067 i1068 => k0 i1068 x3 x4 x5 x6))
    (br (decide (x0 = (36 : Int)))
     (c6 x1 true
      (fun i1069 => k0 i1069 x3 x4 x5 x6))
     (br (decide (x0 = (37 : Int)))
      (c0 x1
       (fun i1070 => k0 i1070 x3 x4 x5 x6))
      (k0 (65302 : Int) x3 x4 x5 x6)))))
noncomputable def ghost_Ghost_Name_6d90 (N : Nat) {R : Type} (x0 : Int) (x1 : ByteArray) (x2 : ByteArray) (x3 : List (Int)) (x4 : Int) (x5 : List ((Int) × (List (Int)))) (x6 : List ((Int) × (Int))) (k0 : (Int) → (List (Int)) → (Int) → (List ((Int) × (List (Int)))) → (List ((Int) × (Int))) → Option R) : Option R := ghost_Ghost_Name_6d90_T N (@tree_Tree_Many N) (@tree_Tree_Many_fb98 N) (@tree_Tree_Make_c502 N) (@tree_Tree_Make N) (@tree_Tree_Move N) (@tree_Tree_Move_f9be N) (@tree_Tree_Drop N) (@tree_Tree_Drop_c502 N) x0 x1 x2 x3 x4 x5 x6 k0
abbrev ghost_Ghost_Name_8b03_Ty : Type 1 := {R : Type} → (Int) → (ByteArray) → (ByteArray) → (List (Int)) → (Int) → (Int) → (List (((ByteArray) × (ByteArray)) × ((Int) × (Bool)))) → (List ((Int) × (List (Int)))) → (List ((Int) × (Int))) → ((Int) → (List (Int)) → (Int) → (Int) → (List (((ByteArray) × (ByteArray)) × ((Int) × (Bool)))) → (List ((Int) × (List (Int)))) → (List ((Int) × (Int))) → Option R) → Option R
noncomputable def ghost_Ghost_Name_8b03_T (N : Nat) (c0 : tree_Tree_Many_Ty) (c1 : tree_Tree_Many_fb98_Ty) (c2 : tree_Tree_Make_c502_Ty) (c3 : tree_Tree_Make_Ty) (c4 : tree_Tree_Move_Ty) (c5 : tree_Tree_Move_f9be_Ty) (c6 : tree_Tree_Drop_Ty) (c7 : tree_Tree_Drop_c502_Ty) {R : Type} (x0 : Int) (x1 : ByteArray) (x2 : ByteArray) (x3 : List (Int)) (x4 : Int) (x5 : Int) (x6 : List (((ByteArray) × (ByteArray)) × ((Int) × (Bool)))) (x7 : List ((Int) × (List (Int)))) (x8 : List ((Int) × (Int))) (k0 : (Int) → (List (Int)) → (Int) → (Int) → (List (((ByteArray) × (ByteArray)) × ((Int) × (Bool)))) → (List ((Int) × (List (Int)))) → (List ((Int) × (Int))) → Option R) : Option R :=
  br (decide (x0 = (33 : Int)))
  (c7 x1 false x5 x6
   (fun i1244 i1245 l1246 => k0 i1244 x3 x4 i1245 l1246 x7 x8))
  (br (decide (x0 = (34 : Int)))
   (c5 x1 x2 x5 x6
    (fun i1280 i1281 i1282 l1283 => k0 i1281 x3 x4 i1282 l1283 x7 x8))
   (br (decide (x0 = (35 : Int)))
    (c2 x1 true x5 x6
     (fun i1284 i1285 i1286 l1287 => k0 i1285 x3 x4 i1286 l1287 x7 x8))
    (br (decide (x0 = (36 : Int)))
     (c7 x1 true x5 x6
      (fun i1288 i1289 l1290 => k0 i1288 x3 x4 i1289 l1290 x7 x8))
     (br (decide (x0 = (37 : Int)))
      (c1 x1 x5 x6
       (fun i1296 i1297 l1298 => k0 i1296 x3 x4 i1297 l1298 x7 x8))
      (k0 (65302 : Int) x3 x4 x5 x6 x7 x8)))))
noncomputable def ghost_Ghost_Name_8b03 (N : Nat) {R : Type} (x0 : Int) (x1 : ByteArray) (x2 : ByteArray) (x3 : List (Int)) (x4 : Int) (x5 : Int) (x6 : List (((ByteArray) × (ByteArray)) × ((Int) × (Bool)))) (x7 : List ((Int) × (List (Int)))) (x8 : List ((Int) × (Int))) (k0 : (Int) → (List (Int)) → (Int) → (Int) → (List (((ByteArray) × (ByteArray)) × ((Int) × (Bool)))) → (List ((Int) × (List (Int)))) → (List ((Int) × (Int))) → Option R) : Option R := ghost_Ghost_Name_8b03_T N (@tree_Tree_Many N) (@tree_Tree_Many_fb98 N) (@tree_Tree_Make_c502 N) (@tree_Tree_Make N) (@tree_Tree_Move N) (@tree_Tree_Move_f9be N) (@tree_Tree_Drop N) (@tree_Tree_Drop_c502 N) x0 x1 x2 x3 x4 x5 x6 x7 x8 k0
abbrev law19_GhostKnown_lj0_Ty : Type 1 := {R : Type} → ((Bool) → Option R) → Nat → (Int) → (Int) → (Int) → Option R
abbrev law19_GhostKnown_lj1_Ty : Type 1 := {R : Type} → ((Bool) → Option R) → Nat → (Int) → (Int) → (Int) → (Int) → (Int) → (Int) → (List ((ByteArray) × ((Bool) × (Int)))) → Option R
inductive law19_GhostKnown_Sj2 where
  | v0 (x0 : Int) (x1 : Int) (x2 : Int) (x3 : Int) (x4 : Int) (x5 : Int) (x6 : Int) (x7 : List (Int)) (x8 : Int) (x9 : List ((Int) × (List (Int)))) (x10 : List ((Int) × (Int))) (x11 : List (Int))
  | v1 (x0 : Int) (x1 : Int) (x2 : Int) (x3 : Int) (x4 : Int) (x5 : Int) (x6 : Int) (x7 : List (Int)) (x8 : Int) (x9 : Int) (x10 : List (((ByteArray) × (ByteArray)) × ((Int) × (Bool)))) (x11 : List ((Int) × (List (Int)))) (x12 : List ((Int) × (Int))) (x13 : List (Int))
abbrev law19_GhostKnown_lj2_Ty : Type 1 := {R : Type} → ((Bool) → Option R) → Nat → law19_GhostKnown_Sj2 → Option R
inductive law19_GhostKnown_Sj3 where
  | v0 (x0 : Int) (x1 : Int) (x2 : Int) (x3 : Int) (x4 : Int) (x5 : Int) (x6 : Int) (x7 : Int) (x8 : Int) (x9 : Int) (x10 : Int) (x11 : Int) (x12 : Int) (x13 : List (Int)) (x14 : Int) (x15 : List ((Int) × (List (Int)))) (x16 : List ((Int) × (Int))) (x17 : List (Int)) (x18 : List (Int)) (x19 : List (Int))
  | v1 (x0 : Int) (x1 : Int) (x2 : Int) (x3 : Int) (x4 : Int) (x5 : Int) (x6 : Int) (x7 : Int) (x8 : Int) (x9 : Int) (x10 : Int) (x11 : Int) (x12 : Int) (x13 : List (Int)) (x14 : Int) (x15 : Int) (x16 : List (((ByteArray) × (ByteArray)) × ((Int) × (Bool)))) (x17 : List ((Int) × (List (Int)))) (x18 : List ((Int) × (Int))) (x19 : List (Int)) (x20 : List (Int)) (x21 : List (Int))
abbrev law19_GhostKnown_lj3_Ty : Type 1 := {R : Type} → ((Bool) → Option R) → Nat → law19_GhostKnown_Sj3 → Option R
abbrev law19_GhostKnown_Ty : Type 1 := {R : Type} → ((Bool) → Option R) → Option R
noncomputable def law19_GhostKnown_lj0_T0 (N : Nat) (c0 : ghost_Ghost_Size_4cb0_Ty) (c1 : ghost_Ghost_Size_7504_Ty) (c2 : ghost_Ghost_Name_6d90_Ty) (c3 : ghost_Ghost_Name_8b03_Ty) (c4 : ghost_Ghost_Trunc_ab5b_Ty) (c5 : ghost_Ghost_Trunc_5658_Ty) (c6 : ghost_Ghost_Data_9183_Ty) (c7 : ghost_Ghost_Data_e876_Ty) (c8 : ghost_Ghost_Write_f6e0_Ty) (c9 : ghost_Ghost_Write_d5de_Ty) (c10 : ghost_Ghost_Seek_ab5b_Ty) (c11 : ghost_Ghost_Seek_5658_Ty) (c12 : ghost_Ghost_Read_ab5b_Ty) (c13 : ghost_Ghost_Read_5658_Ty) (c14 : ghost_Ghost_Open_9183_Ty) (c15 : ghost_Ghost_Open_e876_Ty) (c16 : ghost_New_669c_Ty) (c17 : ghost_New_92d3_Ty) (c18 : term_Arena_Var_99d8_Ty) (c19 : term_Arena_Const_2c81_Ty) (c20 : term_New_Ty) (c21 : law19_awake_Ty) (wj1 : law19_GhostKnown_lj1_Ty) (wj2 : law19_GhostKnown_lj2_Ty) (wj3 : law19_GhostKnown_lj3_Ty) {R : Type} (k0 : (Bool) → Option R) (x0 : Int) (x1 : Int) (x2 : Int) : Option R :=
  c16 x0 (((bs [97]) , (false , (0 : Int))) :: (((bs [98]) , (false , (0 : Int))) :: ([] : List ((Sh.str.pair (Sh.bool.pair (Sh.int IntKind.i64))).T)))) ((x1 :: ([] : List ((Sh.int IntKind.i64).T))) :: ([] : List ((Sh.int IntKind.i64).isl.T)))
  (fun i649 l650 l651 => br (leB (1 : Int) (List.length l650))
   (c17 (1 : Nat) ((List.length l650) - (0 : Nat)) x0 (List.length l650) l650 ((sub (List.replicate (9 : Nat) (0 : Int)) (0 : Nat) (9 : Nat)) :: ([] : List ((Sh.int IntKind.i64).isl.T)))
    (fun i952 n953 l954 l955 => c16 x0 (((bs []) , (false , (0 : Int))) :: ([] : List ((Sh.str.pair (Sh.bool.pair (Sh.int IntKind.i64))).T))) (([] : List ((Sh.int IntKind.i64).T)) :: ([] : List ((Sh.int IntKind.i64).isl.T)))
     (fun i956 l957 l958 => wj1
      (fun b1323 => k0 b1323)
      N x0 x1 x2 i649 i952 i956 l954)
     (fun i1324 l1325 l1326 l1327 i1328 l1329 l1330 => wj1
      (fun b1331 => k0 b1331)
      N x0 x1 x2 i649 i952 i1324 l954)
     (fun i1332 l1333 l1334 l1335 i1336 i1337 l1338 l1339 l1340 => wj1
      (fun b1341 => k0 b1341)
      N x0 x1 x2 i649 i952 i1332 l954))
    (fun i1342 n1343 l1344 l1345 l1346 i1347 l1348 l1349 => c16 x0 (((bs []) , (false , (0 : Int))) :: ([] : List ((Sh.str.pair (Sh.bool.pair (Sh.int IntKind.i64))).T))) (([] : List ((Sh.int IntKind.i64).T)) :: ([] : List ((Sh.int IntKind.i64).isl.T)))
     (fun i1350 l1351 l1352 => wj1
      (fun b1353 => k0 b1353)
      N x0 x1 x2 i649 i1342 i1350 l1344)
     (fun i1354 l1355 l1356 l1357 i1358 l1359 l1360 => wj1
      (fun b1361 => k0 b1361)
      N x0 x1 x2 i649 i1342 i1354 l1344)
     (fun i1362 l1363 l1364 l1365 i1366 i1367 l1368 l1369 l1370 => wj1
      (fun b1371 => k0 b1371)
      N x0 x1 x2 i649 i1342 i1362 l1344))
    (fun i1372 n1373 l1374 l1375 l1376 i1377 i1378 l1379 l1380 l1381 => c16 x0 (((bs []) , (false , (0 : Int))) :: ([] : List ((Sh.str.pair (Sh.bool.pair (Sh.int IntKind.i64))).T))) (([] : List ((Sh.int IntKind.i64).T)) :: ([] : List ((Sh.int IntKind.i64).isl.T)))
     (fun i1382 l1383 l1384 => wj1
      (fun b1385 => k0 b1385)
      N x0 x1 x2 i649 i1372 i1382 l1374)
     (fun i1386 l1387 l1388 l1389 i1390 l1391 l1392 => wj1
      (fun b1393 => k0 b1393)
      N x0 x1 x2 i649 i1372 i1386 l1374)
     (fun i1394 l1395 l1396 l1397 i1398 i1399 l1400 l1401 l1402 => wj1
      (fun b1403 => k0 b1403)
      N x0 x1 x2 i649 i1372 i1394 l1374)))
   (none))
  (fun i1404 l1405 l1406 l1407 i1408 l1409 l1410 => br (leB (1 : Int) (List.length l1405))
   (c17 (1 : Nat) ((List.length l1405) - (0 : Nat)) x0 (List.length l1405) l1405 ((sub (List.replicate (9 : Nat) (0 : Int)) (0 : Nat) (9 : Nat)) :: ([] : List ((Sh.int IntKind.i64).isl.T)))
    (fun i1411 n1412 l1413 l1414 => c16 x0 (((bs []) , (false , (0 : Int))) :: ([] : List ((Sh.str.pair (Sh.bool.pair (Sh.int IntKind.i64))).T))) (([] : List ((Sh.int IntKind.i64).T)) :: ([] : List ((Sh.int IntKind.i64).isl.T)))
     (fun i1415 l1416 l1417 => wj1
      (fun b1418 => k0 b1418)
      N x0 x1 x2 i1404 i1411 i1415 l1413)
     (fun i1419 l1420 l1421 l1422 i1423 l1424 l1425 => wj1
      (fun b1426 => k0 b1426)
      N x0 x1 x2 i1404 i1411 i1419 l1413)
     (fun i1427 l1428 l1429 l1430 i1431 i1432 l1433 l1434 l1435 => wj1
      (fun b1436 => k0 b1436)
      N x0 x1 x2 i1404 i1411 i1427 l1413))
    (fun i1437 n1438 l1439 l1440 l1441 i1442 l1443 l1444 => c16 x0 (((bs []) , (false , (0 : Int))) :: ([] : List ((Sh.str.pair (Sh.bool.pair (Sh.int IntKind.i64))).T))) (([] : List ((Sh.int IntKind.i64).T)) :: ([] : List ((Sh.int IntKind.i64).isl.T)))
     (fun i1445 l1446 l1447 => wj1
      (fun b1448 => k0 b1448)
      N x0 x1 x2 i1404 i1437 i1445 l1439)
     (fun i1449 l1450 l1451 l1452 i1453 l1454 l1455 => wj1
      (fun b1456 => k0 b1456)
      N x0 x1 x2 i1404 i1437 i1449 l1439)
     (fun i1457 l1458 l1459 l1460 i1461 i1462 l1463 l1464 l1465 => wj1
      (fun b1466 => k0 b1466)
      N x0 x1 x2 i1404 i1437 i1457 l1439))
    (fun i1467 n1468 l1469 l1470 l1471 i1472 i1473 l1474 l1475 l1476 => c16 x0 (((bs []) , (false , (0 : Int))) :: ([] : List ((Sh.str.pair (Sh.bool.pair (Sh.int IntKind.i64))).T))) (([] : List ((Sh.int IntKind.i64).T)) :: ([] : List ((Sh.int IntKind.i64).isl.T)))
     (fun i1477 l1478 l1479 => wj1
      (fun b1480 => k0 b1480)
      N x0 x1 x2 i1404 i1467 i1477 l1469)
     (fun i1481 l1482 l1483 l1484 i1485 l1486 l1487 => wj1
      (fun b1488 => k0 b1488)
      N x0 x1 x2 i1404 i1467 i1481 l1469)
     (fun i1489 l1490 l1491 l1492 i1493 i1494 l1495 l1496 l1497 => wj1
      (fun b1498 => k0 b1498)
      N x0 x1 x2 i1404 i1467 i1489 l1469)))
   (none))
  (fun i1499 l1500 l1501 l1502 i1503 i1504 l1505 l1506 l1507 => br (leB (1 : Int) (List.length l1500))
   (c17 (1 : Nat) ((List.length l1500) - (0 : Nat)) x0 (List.length l1500) l1500 ((sub (List.replicate (9 : Nat) (0 : Int)) (0 : Nat) (9 : Nat)) :: ([] : List ((Sh.int IntKind.i64).isl.T)))
    (fun i1508 n1509 l1510 l1511 => c16 x0 (((bs []) , (false , (0 : Int))) :: ([] : List ((Sh.str.pair (Sh.bool.pair (Sh.int IntKind.i64))).T))) (([] : List ((Sh.int IntKind.i64).T)) :: ([] : List ((Sh.int IntKind.i64).isl.T)))
     (fun i1512 l1513 l1514 => wj1
      (fun b1515 => k0 b1515)
      N x0 x1 x2 i1499 i1508 i1512 l1510)
     (fun i1516 l1517 l1518 l1519 i1520 l1521 l1522 => wj1
      (fun b1523 => k0 b1523)
      N x0 x1 x2 i1499 i1508 i1516 l1510)
     (fun i1524 l1525 l1526 l1527 i1528 i1529 l1530 l1531 l1532 => wj1
      (fun b1533 => k0 b1533)
      N x0 x1 x2 i1499 i1508 i1524 l1510))
    (fun i1534 n1535 l1536 l1537 l1538 i1539 l1540 l1541 => c16 x0 (((bs []) , (false , (0 : Int))) :: ([] : List ((Sh.str.pair (Sh.bool.pair (Sh.int IntKind.i64))).T))) (([] : List ((Sh.int IntKind.i64).T)) :: ([] : List ((Sh.int IntKind.i64).isl.T)))
     (fun i1542 l1543 l1544 => wj1
      (fun b1545 => k0 b1545)
      N x0 x1 x2 i1499 i1534 i1542 l1536)
     (fun i1546 l1547 l1548 l1549 i1550 l1551 l1552 => wj1
      (fun b1553 => k0 b1553)
      N x0 x1 x2 i1499 i1534 i1546 l1536)
     (fun i1554 l1555 l1556 l1557 i1558 i1559 l1560 l1561 l1562 => wj1
      (fun b1563 => k0 b1563)
      N x0 x1 x2 i1499 i1534 i1554 l1536))
    (fun i1564 n1565 l1566 l1567 l1568 i1569 i1570 l1571 l1572 l1573 => c16 x0 (((bs []) , (false , (0 : Int))) :: ([] : List ((Sh.str.pair (Sh.bool.pair (Sh.int IntKind.i64))).T))) (([] : List ((Sh.int IntKind.i64).T)) :: ([] : List ((Sh.int IntKind.i64).isl.T)))
     (fun i1574 l1575 l1576 => wj1
      (fun b1577 => k0 b1577)
      N x0 x1 x2 i1499 i1564 i1574 l1566)
     (fun i1578 l1579 l1580 l1581 i1582 l1583 l1584 => wj1
      (fun b1585 => k0 b1585)
      N x0 x1 x2 i1499 i1564 i1578 l1566)
     (fun i1586 l1587 l1588 l1589 i1590 i1591 l1592 l1593 l1594 => wj1
      (fun b1595 => k0 b1595)
      N x0 x1 x2 i1499 i1564 i1586 l1566)))
   (none))
noncomputable def law19_GhostKnown_lj1_T0 (N : Nat) (c0 : ghost_Ghost_Size_4cb0_Ty) (c1 : ghost_Ghost_Size_7504_Ty) (c2 : ghost_Ghost_Name_6d90_Ty) (c3 : ghost_Ghost_Name_8b03_Ty) (c4 : ghost_Ghost_Trunc_ab5b_Ty) (c5 : ghost_Ghost_Trunc_5658_Ty) (c6 : ghost_Ghost_Data_9183_Ty) (c7 : ghost_Ghost_Data_e876_Ty) (c8 : ghost_Ghost_Write_f6e0_Ty) (c9 : ghost_Ghost_Write_d5de_Ty) (c10 : ghost_Ghost_Seek_ab5b_Ty) (c11 : ghost_Ghost_Seek_5658_Ty) (c12 : ghost_Ghost_Read_ab5b_Ty) (c13 : ghost_Ghost_Read_5658_Ty) (c14 : ghost_Ghost_Open_9183_Ty) (c15 : ghost_Ghost_Open_e876_Ty) (c16 : ghost_New_669c_Ty) (c17 : ghost_New_92d3_Ty) (c18 : term_Arena_Var_99d8_Ty) (c19 : term_Arena_Const_2c81_Ty) (c20 : term_New_Ty) (c21 : law19_awake_Ty) (wj2 : law19_GhostKnown_lj2_Ty) (wj3 : law19_GhostKnown_lj3_Ty) {R : Type} (k0 : (Bool) → Option R) (x0 : Int) (x1 : Int) (x2 : Int) (x3 : Int) (x4 : Int) (x5 : Int) (x6 : List ((ByteArray) × ((Bool) × (Int)))) : Option R :=
  c16 x0 x6 ((x1 :: (x2 :: ([] : List ((Sh.int IntKind.i64).T)))) :: (([] : List ((Sh.int IntKind.i64).T)) :: ([] : List ((Sh.int IntKind.i64).isl.T))))
  (fun i959 l960 l961 => br (!(!(decide (i959 = (0 : Int)))))
   (k0 false)
   (k0 false))
  (fun i962 l963 l964 l965 i966 l967 l968 => br (!(!(decide (i962 = (0 : Int)))))
   (c14 (bs [97]) l965 i966 l967 l968
    (fun i969 l970 i971 l972 l973 => br (!(!(decide (i969 = (0 : Int)))))
     (c14 (bs [98]) l970 i971 l972 l973
      (fun i974 l975 i976 l977 l978 => br (!(decide (i974 = (1 : Int))))
       (k0 false)
       (c12 (0 : Int) (9 : Int) l975 i976 l977 l978
        (fun i979 l980 i981 l982 l983 l984 => wj2
         (fun b1088 => k0 b1088)
         N (.v0 x0 x1 x2 x3 x4 x5 i979 l980 i981 l982 l983 l984)))))
     (k0 false)))
   (k0 false))
  (fun i1089 l1090 l1091 l1092 i1093 i1094 l1095 l1096 l1097 => br (!(!(decide (i1089 = (0 : Int)))))
   (c15 (bs [97]) l1092 i1093 i1094 l1095 l1096 l1097
    (fun i1098 l1099 i1100 i1101 l1102 l1103 l1104 => br (!(!(decide (i1098 = (0 : Int)))))
     (c15 (bs [98]) l1099 i1100 i1101 l1102 l1103 l1104
      (fun i1105 l1106 i1107 i1108 l1109 l1110 l1111 => br (!(decide (i1105 = (1 : Int))))
       (k0 false)
       (c13 (0 : Int) (9 : Int) l1106 i1107 i1108 l1109 l1110 l1111
        (fun i1112 l1113 i1114 i1115 l1116 l1117 l1118 l1119 => wj2
         (fun b1322 => k0 b1322)
         N (.v1 x0 x1 x2 x3 x4 x5 i1112 l1113 i1114 i1115 l1116 l1117 l1118 l1119)))))
     (k0 false)))
   (k0 false))
noncomputable def law19_GhostKnown_lj2_T0 (N : Nat) (c0 : ghost_Ghost_Size_4cb0_Ty) (c1 : ghost_Ghost_Size_7504_Ty) (c2 : ghost_Ghost_Name_6d90_Ty) (c3 : ghost_Ghost_Name_8b03_Ty) (c4 : ghost_Ghost_Trunc_ab5b_Ty) (c5 : ghost_Ghost_Trunc_5658_Ty) (c6 : ghost_Ghost_Data_9183_Ty) (c7 : ghost_Ghost_Data_e876_Ty) (c8 : ghost_Ghost_Write_f6e0_Ty) (c9 : ghost_Ghost_Write_d5de_Ty) (c10 : ghost_Ghost_Seek_ab5b_Ty) (c11 : ghost_Ghost_Seek_5658_Ty) (c12 : ghost_Ghost_Read_ab5b_Ty) (c13 : ghost_Ghost_Read_5658_Ty) (c14 : ghost_Ghost_Open_9183_Ty) (c15 : ghost_Ghost_Open_e876_Ty) (c16 : ghost_New_669c_Ty) (c17 : ghost_New_92d3_Ty) (c18 : term_Arena_Var_99d8_Ty) (c19 : term_Arena_Const_2c81_Ty) (c20 : term_New_Ty) (c21 : law19_awake_Ty) (wj3 : law19_GhostKnown_lj3_Ty) {R : Type} (k0 : (Bool) → Option R) (x0 : Int) (x1 : Int) (x2 : Int) (x3 : Int) (x4 : Int) (x5 : Int) (x6 : Int) (x7 : List (Int)) (x8 : Int) (x9 : List ((Int) × (List (Int)))) (x10 : List ((Int) × (Int))) (x11 : List (Int)) : Option R :=
  c10 (1 : Int) (2 : Int) x7 x8 x9 x10
  (fun i994 l995 i996 l997 l998 => c8 (1 : Int) l995 i996 l997 l998 x11
   (fun i1019 l1020 i1021 l1022 l1023 l1024 => c6 (bs [98]) l1020 i1021 l1022 l1023
    (fun i1033 l1034 i1035 l1036 l1037 l1038 => c4 (0 : Int) (3 : Int) l1034 i1035 l1036 l1037
     (fun i1053 l1054 i1055 l1056 l1057 => c6 (bs [97]) l1054 i1055 l1056 l1057
      (fun i1058 l1059 i1060 l1061 l1062 l1063 => c2 (34 : Int) (bs [98]) (bs [97]) l1059 i1060 l1061 l1062
       (fun i1071 l1072 i1073 l1074 l1075 => wj3
        (fun b1087 => k0 b1087)
        N (.v0 x0 x1 x2 x3 x4 x5 x6 i994 i1019 i1033 i1053 i1058 i1071 l1072 i1073 l1074 l1075 l1024 l1038 l1063)))))))
noncomputable def law19_GhostKnown_lj2_T1 (N : Nat) (c0 : ghost_Ghost_Size_4cb0_Ty) (c1 : ghost_Ghost_Size_7504_Ty) (c2 : ghost_Ghost_Name_6d90_Ty) (c3 : ghost_Ghost_Name_8b03_Ty) (c4 : ghost_Ghost_Trunc_ab5b_Ty) (c5 : ghost_Ghost_Trunc_5658_Ty) (c6 : ghost_Ghost_Data_9183_Ty) (c7 : ghost_Ghost_Data_e876_Ty) (c8 : ghost_Ghost_Write_f6e0_Ty) (c9 : ghost_Ghost_Write_d5de_Ty) (c10 : ghost_Ghost_Seek_ab5b_Ty) (c11 : ghost_Ghost_Seek_5658_Ty) (c12 : ghost_Ghost_Read_ab5b_Ty) (c13 : ghost_Ghost_Read_5658_Ty) (c14 : ghost_Ghost_Open_9183_Ty) (c15 : ghost_Ghost_Open_e876_Ty) (c16 : ghost_New_669c_Ty) (c17 : ghost_New_92d3_Ty) (c18 : term_Arena_Var_99d8_Ty) (c19 : term_Arena_Const_2c81_Ty) (c20 : term_New_Ty) (c21 : law19_awake_Ty) (wj3 : law19_GhostKnown_lj3_Ty) {R : Type} (k0 : (Bool) → Option R) (x0 : Int) (x1 : Int) (x2 : Int) (x3 : Int) (x4 : Int) (x5 : Int) (x6 : Int) (x7 : List (Int)) (x8 : Int) (x9 : Int) (x10 : List (((ByteArray) × (ByteArray)) × ((Int) × (Bool)))) (x11 : List ((Int) × (List (Int)))) (x12 : List ((Int) × (Int))) (x13 : List (Int)) : Option R :=
  c11 (1 : Int) (2 : Int) x7 x8 x9 x10 x11 x12
  (fun i1133 l1134 i1135 i1136 l1137 l1138 l1139 => c9 (1 : Int) l1134 i1135 i1136 l1137 l1138 l1139 x13
   (fun i1168 l1169 i1170 i1171 l1172 l1173 l1174 l1175 => c7 (bs [98]) l1169 i1170 i1171 l1172 l1173 l1174
    (fun i1188 l1189 i1190 i1191 l1192 l1193 l1194 l1195 => c5 (0 : Int) (3 : Int) l1189 i1190 i1191 l1192 l1193 l1194
     (fun i1216 l1217 i1218 i1219 l1220 l1221 l1222 => c7 (bs [97]) l1217 i1218 i1219 l1220 l1221 l1222
      (fun i1223 l1224 i1225 i1226 l1227 l1228 l1229 l1230 => c3 (34 : Int) (bs [98]) (bs [97]) l1224 i1225 i1226 l1227 l1228 l1229
       (fun i1299 l1300 i1301 i1302 l1303 l1304 l1305 => wj3
        (fun b1321 => k0 b1321)
        N (.v1 x0 x1 x2 x3 x4 x5 x6 i1133 i1168 i1188 i1216 i1223 i1299 l1300 i1301 i1302 l1303 l1304 l1305 l1175 l1195 l1230)))))))
noncomputable def law19_GhostKnown_lj3_T0 (N : Nat) (c0 : ghost_Ghost_Size_4cb0_Ty) (c1 : ghost_Ghost_Size_7504_Ty) (c2 : ghost_Ghost_Name_6d90_Ty) (c3 : ghost_Ghost_Name_8b03_Ty) (c4 : ghost_Ghost_Trunc_ab5b_Ty) (c5 : ghost_Ghost_Trunc_5658_Ty) (c6 : ghost_Ghost_Data_9183_Ty) (c7 : ghost_Ghost_Data_e876_Ty) (c8 : ghost_Ghost_Write_f6e0_Ty) (c9 : ghost_Ghost_Write_d5de_Ty) (c10 : ghost_Ghost_Seek_ab5b_Ty) (c11 : ghost_Ghost_Seek_5658_Ty) (c12 : ghost_Ghost_Read_ab5b_Ty) (c13 : ghost_Ghost_Read_5658_Ty) (c14 : ghost_Ghost_Open_9183_Ty) (c15 : ghost_Ghost_Open_e876_Ty) (c16 : ghost_New_669c_Ty) (c17 : ghost_New_92d3_Ty) (c18 : term_Arena_Var_99d8_Ty) (c19 : term_Arena_Const_2c81_Ty) (c20 : term_New_Ty) (c21 : law19_awake_Ty) {R : Type} (k0 : (Bool) → Option R) (x0 : Int) (x1 : Int) (x2 : Int) (x3 : Int) (x4 : Int) (x5 : Int) (x6 : Int) (x7 : Int) (x8 : Int) (x9 : Int) (x10 : Int) (x11 : Int) (x12 : Int) (x13 : List (Int)) (x14 : Int) (x15 : List ((Int) × (List (Int)))) (x16 : List ((Int) × (Int))) (x17 : List (Int)) (x18 : List (Int)) (x19 : List (Int)) : Option R :=
  c6 (bs [97]) x13 x14 x15 x16
  (fun i1076 l1077 i1078 l1079 l1080 l1081 => br (decide (x3 = (12 : Int)))
   (br (decide (x4 = (12 : Int)))
    (br (decide (x5 = (11 : Int)))
     (br (decide (x6 = (2 : Int)))
      (br (decide ((Nat.cast (List.length x17) : Int) = (2 : Int)))
       (br (inB (0 : Int) (List.length x17))
        (br (decide ((0 : Nat) < (List.length x17)))
         (br (decide ((List.getD x17 (0 : Nat) (0 : Int)) = x1))
          (br (inB (1 : Int) (List.length x17))
           (br (decide ((1 : Nat) < (List.length x17)))
            (br (decide ((List.getD x17 (1 : Nat) (0 : Int)) = x2))
             (br (decide (x7 = (2 : Int)))
              (br (decide (x8 = (2 : Int)))
               (br (decide (x9 = (0 : Int)))
                (br (decide ((Nat.cast (List.length x18) : Int) = (4 : Int)))
                 (br (inB (0 : Int) (List.length x18))
                  (br (decide ((0 : Nat) < (List.length x18)))
                   (br (decide ((List.getD x18 (0 : Nat) (0 : Int)) = x0))
                    (br (inB (1 : Int) (List.length x18))
                     (br (decide ((1 : Nat) < (List.length x18)))
                      (br (decide ((List.getD x18 (1 : Nat) (0 : Int)) = x0))
                       (br (inB (2 : Int) (List.length x18))
                        (br (decide ((2 : Nat) < (List.length x18)))
                         (br (decide ((List.getD x18 (2 : Nat) (0 : Int)) = x1))
                          (br (inB (3 : Int) (List.length x18))
                           (br (decide ((3 : Nat) < (List.length x18)))
                            (br (decide ((List.getD x18 (3 : Nat) (0 : Int)) = x2))
                             (br (decide (x10 = (0 : Int)))
                              (br (decide (x11 = (0 : Int)))
                               (br (decide ((Nat.cast (List.length x19) : Int) = (3 : Int)))
                                (br (inB (2 : Int) (List.length x19))
                                 (br (decide ((2 : Nat) < (List.length x19)))
                                  (br (decide ((List.getD x19 (2 : Nat) (0 : Int)) = x0))
                                   (br (decide (x12 = (0 : Int)))
                                    (br (decide (i1076 = (0 : Int)))
                                     (br (decide ((Nat.cast (List.length l1081) : Int) = (4 : Int)))
                                      (br (inB (3 : Int) (List.length l1081))
                                       (br (decide ((3 : Nat) < (List.length l1081)))
                                        (br (decide ((List.getD l1081 (3 : Nat) (0 : Int)) = x2))
                                         (c0 (0 : Int) l1077 i1078 l1079 l1080
                                          (fun i1082 l1083 i1084 l1085 l1086 => k0 (decide (i1082 = (3 : Int)))))
                                         (k0 false))
                                        (none))
                                       (none))
                                      (k0 false))
                                     (k0 false))
                                    (k0 false))
                                   (k0 false))
                                  (none))
                                 (none))
                                (k0 false))
                               (k0 false))
                              (k0 false))
                             (k0 false))
                            (none))
                           (none))
                          (k0 false))
                         (none))
                        (none))
                       (k0 false))
                      (none))
                     (none))
                    (k0 false))
                   (none))
                  (none))
                 (k0 false))
                (k0 false))
               (k0 false))
              (k0 false))
             (k0 false))
            (none))
           (none))
          (k0 false))
         (none))
        (none))
       (k0 false))
      (k0 false))
     (k0 false))
    (k0 false))
   (k0 false))
noncomputable def law19_GhostKnown_lj3_T1 (N : Nat) (c0 : ghost_Ghost_Size_4cb0_Ty) (c1 : ghost_Ghost_Size_7504_Ty) (c2 : ghost_Ghost_Name_6d90_Ty) (c3 : ghost_Ghost_Name_8b03_Ty) (c4 : ghost_Ghost_Trunc_ab5b_Ty) (c5 : ghost_Ghost_Trunc_5658_Ty) (c6 : ghost_Ghost_Data_9183_Ty) (c7 : ghost_Ghost_Data_e876_Ty) (c8 : ghost_Ghost_Write_f6e0_Ty) (c9 : ghost_Ghost_Write_d5de_Ty) (c10 : ghost_Ghost_Seek_ab5b_Ty) (c11 : ghost_Ghost_Seek_5658_Ty) (c12 : ghost_Ghost_Read_ab5b_Ty) (c13 : ghost_Ghost_Read_5658_Ty) (c14 : ghost_Ghost_Open_9183_Ty) (c15 : ghost_Ghost_Open_e876_Ty) (c16 : ghost_New_669c_Ty) (c17 : ghost_New_92d3_Ty) (c18 : term_Arena_Var_99d8_Ty) (c19 : term_Arena_Const_2c81_Ty) (c20 : term_New_Ty) (c21 : law19_awake_Ty) {R : Type} (k0 : (Bool) → Option R) (x0 : Int) (x1 : Int) (x2 : Int) (x3 : Int) (x4 : Int) (x5 : Int) (x6 : Int) (x7 : Int) (x8 : Int) (x9 : Int) (x10 : Int) (x11 : Int) (x12 : Int) (x13 : List (Int)) (x14 : Int) (x15 : Int) (x16 : List (((ByteArray) × (ByteArray)) × ((Int) × (Bool)))) (x17 : List ((Int) × (List (Int)))) (x18 : List ((Int) × (Int))) (x19 : List (Int)) (x20 : List (Int)) (x21 : List (Int)) : Option R :=
  c7 (bs [97]) x13 x14 x15 x16 x17 x18
  (fun i1306 l1307 i1308 i1309 l1310 l1311 l1312 l1313 => br (decide (x3 = (12 : Int)))
   (br (decide (x4 = (12 : Int)))
    (br (decide (x5 = (11 : Int)))
     (br (decide (x6 = (2 : Int)))
      (br (decide ((Nat.cast (List.length x19) : Int) = (2 : Int)))
       (br (inB (0 : Int) (List.length x19))
        (br (decide ((0 : Nat) < (List.length x19)))
         (br (decide ((List.getD x19 (0 : Nat) (0 : Int)) = x1))
          (br (inB (1 : Int) (List.length x19))
           (br (decide ((1 : Nat) < (List.length x19)))
            (br (decide ((List.getD x19 (1 : Nat) (0 : Int)) = x2))
             (br (decide (x7 = (2 : Int)))
              (br (decide (x8 = (2 : Int)))
               (br (decide (x9 = (0 : Int)))
                (br (decide ((Nat.cast (List.length x20) : Int) = (4 : Int)))
                 (br (inB (0 : Int) (List.length x20))
                  (br (decide ((0 : Nat) < (List.length x20)))
                   (br (decide ((List.getD x20 (0 : Nat) (0 : Int)) = x0))
                    (br (inB (1 : Int) (List.length x20))
                     (br (decide ((1 : Nat) < (List.length x20)))
                      (br (decide ((List.getD x20 (1 : Nat) (0 : Int)) = x0))
                       (br (inB (2 : Int) (List.length x20))
                        (br (decide ((2 : Nat) < (List.length x20)))
                         (br (decide ((List.getD x20 (2 : Nat) (0 : Int)) = x1))
                          (br (inB (3 : Int) (List.length x20))
                           (br (decide ((3 : Nat) < (List.length x20)))
                            (br (decide ((List.getD x20 (3 : Nat) (0 : Int)) = x2))
                             (br (decide (x10 = (0 : Int)))
                              (br (decide (x11 = (0 : Int)))
                               (br (decide ((Nat.cast (List.length x21) : Int) = (3 : Int)))
                                (br (inB (2 : Int) (List.length x21))
                                 (br (decide ((2 : Nat) < (List.length x21)))
                                  (br (decide ((List.getD x21 (2 : Nat) (0 : Int)) = x0))
                                   (br (decide (x12 = (0 : Int)))
                                    (br (decide (i1306 = (0 : Int)))
                                     (br (decide ((Nat.cast (List.length l1313) : Int) = (4 : Int)))
                                      (br (inB (3 : Int) (List.length l1313))
                                       (br (decide ((3 : Nat) < (List.length l1313)))
                                        (br (decide ((List.getD l1313 (3 : Nat) (0 : Int)) = x2))
                                         (c1 (0 : Int) l1307 i1308 i1309 l1310 l1311 l1312
                                          (fun i1314 l1315 i1316 i1317 l1318 l1319 l1320 => k0 (decide (i1314 = (3 : Int)))))
                                         (k0 false))
                                        (none))
                                       (none))
                                      (k0 false))
                                     (k0 false))
                                    (k0 false))
                                   (k0 false))
                                  (none))
                                 (none))
                                (k0 false))
                               (k0 false))
                              (k0 false))
                             (k0 false))
                            (none))
                           (none))
                          (k0 false))
                         (none))
                        (none))
                       (k0 false))
                      (none))
                     (none))
                    (k0 false))
                   (none))
                  (none))
                 (k0 false))
                (k0 false))
               (k0 false))
              (k0 false))
             (k0 false))
            (none))
           (none))
          (k0 false))
         (none))
        (none))
       (k0 false))
      (k0 false))
     (k0 false))
    (k0 false))
   (k0 false))
noncomputable def law19_GhostKnown_lj3 (N : Nat) {R : Type} (k0 : (Bool) → Option R) (_ : Nat) : law19_GhostKnown_Sj3 → Option R
  | .v0 x0 x1 x2 x3 x4 x5 x6 x7 x8 x9 x10 x11 x12 x13 x14 x15 x16 x17 x18 x19 => law19_GhostKnown_lj3_T0 N (@ghost_Ghost_Size_4cb0 N) (@ghost_Ghost_Size_7504 N) (@ghost_Ghost_Name_6d90 N) (@ghost_Ghost_Name_8b03 N) (@ghost_Ghost_Trunc_ab5b N) (@ghost_Ghost_Trunc_5658 N) (@ghost_Ghost_Data_9183 N) (@ghost_Ghost_Data_e876 N) (@ghost_Ghost_Write_f6e0 N) (@ghost_Ghost_Write_d5de N) (@ghost_Ghost_Seek_ab5b N) (@ghost_Ghost_Seek_5658 N) (@ghost_Ghost_Read_ab5b N) (@ghost_Ghost_Read_5658 N) (@ghost_Ghost_Open_9183 N) (@ghost_Ghost_Open_e876 N) (@ghost_New_669c N) (@ghost_New_92d3 N) (@term_Arena_Var_99d8 N) (@term_Arena_Const_2c81 N) (@term_New N) (@law19_awake N) k0 x0 x1 x2 x3 x4 x5 x6 x7 x8 x9 x10 x11 x12 x13 x14 x15 x16 x17 x18 x19
  | .v1 x0 x1 x2 x3 x4 x5 x6 x7 x8 x9 x10 x11 x12 x13 x14 x15 x16 x17 x18 x19 x20 x21 => law19_GhostKnown_lj3_T1 N (@ghost_Ghost_Size_4cb0 N) (@ghost_Ghost_Size_7504 N) (@ghost_Ghost_Name_6d90 N) (@ghost_Ghost_Name_8b03 N) (@ghost_Ghost_Trunc_ab5b N) (@ghost_Ghost_Trunc_5658 N) (@ghost_Ghost_Data_9183 N) (@ghost_Ghost_Data_e876 N) (@ghost_Ghost_Write_f6e0 N) (@ghost_Ghost_Write_d5de N) (@ghost_Ghost_Seek_ab5b N) (@ghost_Ghost_Seek_5658 N) (@ghost_Ghost_Read_ab5b N) (@ghost_Ghost_Read_5658 N) (@ghost_Ghost_Open_9183 N) (@ghost_Ghost_Open_e876 N) (@ghost_New_669c N) (@ghost_New_92d3 N) (@term_Arena_Var_99d8 N) (@term_Arena_Const_2c81 N) (@term_New N) (@law19_awake N) k0 x0 x1 x2 x3 x4 x5 x6 x7 x8 x9 x10 x11 x12 x13 x14 x15 x16 x17 x18 x19 x20 x21
noncomputable def law19_GhostKnown_lj2 (N : Nat) {R : Type} (k0 : (Bool) → Option R) (_ : Nat) : law19_GhostKnown_Sj2 → Option R
  | .v0 x0 x1 x2 x3 x4 x5 x6 x7 x8 x9 x10 x11 => law19_GhostKnown_lj2_T0 N (@ghost_Ghost_Size_4cb0 N) (@ghost_Ghost_Size_7504 N) (@ghost_Ghost_Name_6d90 N) (@ghost_Ghost_Name_8b03 N) (@ghost_Ghost_Trunc_ab5b N) (@ghost_Ghost_Trunc_5658 N) (@ghost_Ghost_Data_9183 N) (@ghost_Ghost_Data_e876 N) (@ghost_Ghost_Write_f6e0 N) (@ghost_Ghost_Write_d5de N) (@ghost_Ghost_Seek_ab5b N) (@ghost_Ghost_Seek_5658 N) (@ghost_Ghost_Read_ab5b N) (@ghost_Ghost_Read_5658 N) (@ghost_Ghost_Open_9183 N) (@ghost_Ghost_Open_e876 N) (@ghost_New_669c N) (@ghost_New_92d3 N) (@term_Arena_Var_99d8 N) (@term_Arena_Const_2c81 N) (@term_New N) (@law19_awake N) (@law19_GhostKnown_lj3 N) k0 x0 x1 x2 x3 x4 x5 x6 x7 x8 x9 x10 x11
  | .v1 x0 x1 x2 x3 x4 x5 x6 x7 x8 x9 x10 x11 x12 x13 => law19_GhostKnown_lj2_T1 N (@ghost_Ghost_Size_4cb0 N) (@ghost_Ghost_Size_7504 N) (@ghost_Ghost_Name_6d90 N) (@ghost_Ghost_Name_8b03 N) (@ghost_Ghost_Trunc_ab5b N) (@ghost_Ghost_Trunc_5658 N) (@ghost_Ghost_Data_9183 N) (@ghost_Ghost_Data_e876 N) (@ghost_Ghost_Write_f6e0 N) (@ghost_Ghost_Write_d5de N) (@ghost_Ghost_Seek_ab5b N) (@ghost_Ghost_Seek_5658 N) (@ghost_Ghost_Read_ab5b N) (@ghost_Ghost_Read_5658 N) (@ghost_Ghost_Open_9183 N) (@ghost_Ghost_Open_e876 N) (@ghost_New_669c N) (@ghost_New_92d3 N) (@term_Arena_Var_99d8 N) (@term_Arena_Const_2c81 N) (@term_New N) (@law19_awake N) (@law19_GhostKnown_lj3 N) k0 x0 x1 x2 x3 x4 x5 x6 x7 x8 x9 x10 x11 x12 x13
noncomputable def law19_GhostKnown_lj1 (N : Nat) {R : Type} (k0 : (Bool) → Option R) (_ : Nat) (x0 : Int) (x1 : Int) (x2 : Int) (x3 : Int) (x4 : Int) (x5 : Int) (x6 : List ((ByteArray) × ((Bool) × (Int)))) : Option R := law19_GhostKnown_lj1_T0 N (@ghost_Ghost_Size_4cb0 N) (@ghost_Ghost_Size_7504 N) (@ghost_Ghost_Name_6d90 N) (@ghost_Ghost_Name_8b03 N) (@ghost_Ghost_Trunc_ab5b N) (@ghost_Ghost_Trunc_5658 N) (@ghost_Ghost_Data_9183 N) (@ghost_Ghost_Data_e876 N) (@ghost_Ghost_Write_f6e0 N) (@ghost_Ghost_Write_d5de N) (@ghost_Ghost_Seek_ab5b N) (@ghost_Ghost_Seek_5658 N) (@ghost_Ghost_Read_ab5b N) (@ghost_Ghost_Read_5658 N) (@ghost_Ghost_Open_9183 N) (@ghost_Ghost_Open_e876 N) (@ghost_New_669c N) (@ghost_New_92d3 N) (@term_Arena_Var_99d8 N) (@term_Arena_Const_2c81 N) (@term_New N) (@law19_awake N) (@law19_GhostKnown_lj2 N) (@law19_GhostKnown_lj3 N) k0 x0 x1 x2 x3 x4 x5 x6
noncomputable def law19_GhostKnown_lj0 (N : Nat) {R : Type} (k0 : (Bool) → Option R) (_ : Nat) (x0 : Int) (x1 : Int) (x2 : Int) : Option R := law19_GhostKnown_lj0_T0 N (@ghost_Ghost_Size_4cb0 N) (@ghost_Ghost_Size_7504 N) (@ghost_Ghost_Name_6d90 N) (@ghost_Ghost_Name_8b03 N) (@ghost_Ghost_Trunc_ab5b N) (@ghost_Ghost_Trunc_5658 N) (@ghost_Ghost_Data_9183 N) (@ghost_Ghost_Data_e876 N) (@ghost_Ghost_Write_f6e0 N) (@ghost_Ghost_Write_d5de N) (@ghost_Ghost_Seek_ab5b N) (@ghost_Ghost_Seek_5658 N) (@ghost_Ghost_Read_ab5b N) (@ghost_Ghost_Read_5658 N) (@ghost_Ghost_Open_9183 N) (@ghost_Ghost_Open_e876 N) (@ghost_New_669c N) (@ghost_New_92d3 N) (@term_Arena_Var_99d8 N) (@term_Arena_Const_2c81 N) (@term_New N) (@law19_awake N) (@law19_GhostKnown_lj1 N) (@law19_GhostKnown_lj2 N) (@law19_GhostKnown_lj3 N) k0 x0 x1 x2
noncomputable def law19_GhostKnown_T (N : Nat) (c0 : ghost_Ghost_Size_4cb0_Ty) (c1 : ghost_Ghost_Size_7504_Ty) (c2 : ghost_Ghost_Name_6d90_Ty) (c3 : ghost_Ghost_Name_8b03_Ty) (c4 : ghost_Ghost_Trunc_ab5b_Ty) (c5 : ghost_Ghost_Trunc_5658_Ty) (c6 : ghost_Ghost_Data_9183_Ty) (c7 : ghost_Ghost_Data_e876_Ty) (c8 : ghost_Ghost_Write_f6e0_Ty) (c9 : ghost_Ghost_Write_d5de_Ty) (c10 : ghost_Ghost_Seek_ab5b_Ty) (c11 : ghost_Ghost_Seek_5658_Ty) (c12 : ghost_Ghost_Read_ab5b_Ty) (c13 : ghost_Ghost_Read_5658_Ty) (c14 : ghost_Ghost_Open_9183_Ty) (c15 : ghost_Ghost_Open_e876_Ty) (c16 : ghost_New_669c_Ty) (c17 : ghost_New_92d3_Ty) (c18 : term_Arena_Var_99d8_Ty) (c19 : term_Arena_Const_2c81_Ty) (c20 : term_New_Ty) (c21 : law19_awake_Ty) (wj0 : law19_GhostKnown_lj0_Ty) (wj1 : law19_GhostKnown_lj1_Ty) (wj2 : law19_GhostKnown_lj2_Ty) (wj3 : law19_GhostKnown_lj3_Ty) {R : Type} (k0 : (Bool) → Option R) : Option R :=
  c21
  (fun b630 => br (!b630)
   (k0 false)
   (c20
    (fun l631 l632 l633 => c19 (8 : Int) (0 : Int) l631 l632 l633
     (fun i634 i635 l636 l637 l638 => c18 (8 : Int) (0 : Int) l638 l636 l637
      (fun i639 i640 l641 l642 l643 => c18 (8 : Int) (1 : Int) l643 l641 l642
       (fun i644 i645 l646 l647 l648 => wj0
        (fun b1596 => k0 b1596)
        N i634 i639 i644))))))
noncomputable def law19_GhostKnown (N : Nat) {R : Type} (k0 : (Bool) → Option R) : Option R := law19_GhostKnown_T N (@ghost_Ghost_Size_4cb0 N) (@ghost_Ghost_Size_7504 N) (@ghost_Ghost_Name_6d90 N) (@ghost_Ghost_Name_8b03 N) (@ghost_Ghost_Trunc_ab5b N) (@ghost_Ghost_Trunc_5658 N) (@ghost_Ghost_Data_9183 N) (@ghost_Ghost_Data_e876 N) (@ghost_Ghost_Write_f6e0 N) (@ghost_Ghost_Write_d5de N) (@ghost_Ghost_Seek_ab5b N) (@ghost_Ghost_Seek_5658 N) (@ghost_Ghost_Read_ab5b N) (@ghost_Ghost_Read_5658 N) (@ghost_Ghost_Open_9183 N) (@ghost_Ghost_Open_e876 N) (@ghost_New_669c N) (@ghost_New_92d3 N) (@term_Arena_Var_99d8 N) (@term_Arena_Const_2c81 N) (@term_New N) (@law19_awake N) (@law19_GhostKnown_lj0 N) (@law19_GhostKnown_lj1 N) (@law19_GhostKnown_lj2 N) (@law19_GhostKnown_lj3 N) k0
end Go.Proofs.Ytfeacgamgdpojaa
