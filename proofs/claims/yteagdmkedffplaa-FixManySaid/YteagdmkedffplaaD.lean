/-
  The functions that the statement reaches, each as a function of Lean (printed by a program of this work).
-/
import Derived.Test.YteagdmkedffplaaGx5
set_option linter.unusedVariables false
set_option maxRecDepth 100000
namespace Go.Proofs.Yteagdmkedffplaa
open Go.Gx
abbrev term_New_Ty : Type 1 := {R : Type} → ((List ((Int) × ((Int) × ((Int) × ((Int) × ((Int) × (Int))))))) → (List (((Int) × ((Int) × ((Int) × ((Int) × ((Int) × (Int)))))) × (Int))) → (List ((Int) × (Int))) → Option R) → Option R
noncomputable def term_New_T (N : Nat) {R : Type} (k0 : (List ((Int) × ((Int) × ((Int) × ((Int) × ((Int) × (Int))))))) → (List (((Int) × ((Int) × ((Int) × ((Int) × ((Int) × (Int)))))) × (Int))) → (List ((Int) × (Int))) → Option R) : Option R :=
  k0 ([] : List (((Sh.int IntKind.i64).pair
    ((Sh.int IntKind.i64).pair
      ((Sh.int IntKind.u16).pair ((Sh.int IntKind.i64).pair ((Sh.int IntKind.i64).pair (Sh.int IntKind.i64)))))).T)) ([] : List ((((Sh.int IntKind.i64).pair
    ((Sh.int IntKind.i64).pair
      ((Sh.int IntKind.u16).pair ((Sh.int IntKind.i64).pair ((Sh.int IntKind.i64).pair (Sh.int IntKind.i64)))))).T) × ((Sh.int IntKind.i64).T))) ([] : List (((Sh.int IntKind.i64).T) × ((Sh.int IntKind.i64).T)))
noncomputable def term_New (N : Nat) {R : Type} (k0 : (List ((Int) × ((Int) × ((Int) × ((Int) × ((Int) × (Int))))))) → (List (((Int) × ((Int) × ((Int) × ((Int) × ((Int) × (Int)))))) × (Int))) → (List ((Int) × (Int))) → Option R) : Option R := term_New_T N k0
abbrev wide_May_Ty : Type 1 := {R : Type} → (Int) → ((Bool) → Option R) → Option R
noncomputable def wide_May_T (N : Nat) {R : Type} (x0 : Int) (k0 : (Bool) → Option R) : Option R :=
  br (!(decide (x0 = (1 : Int))))
  (br (!(decide (x0 = (8 : Int))))
   (k0 (decide (x0 = (16 : Int))))
   (k0 true))
  (k0 true)
noncomputable def wide_May (N : Nat) {R : Type} (x0 : Int) (k0 : (Bool) → Option R) : Option R := wide_May_T N x0 k0
abbrev term_Arena_keep_a25e_Ty : Type 1 := {R : Type} → (Int) → (Int) → (Int) → (Int) → (Int) → (Int) → (List ((Int) × ((Int) × ((Int) × ((Int) × ((Int) × (Int))))))) → (List (((Int) × ((Int) × ((Int) × ((Int) × ((Int) × (Int)))))) × (Int))) → (List ((Int) × (Int))) → ((Int) → (Int) → (List (((Int) × ((Int) × ((Int) × ((Int) × ((Int) × (Int)))))) × (Int))) → (List ((Int) × (Int))) → (List ((Int) × ((Int) × ((Int) × ((Int) × ((Int) × (Int))))))) → Option R) → Option R
noncomputable def term_Arena_keep_a25e_T (N : Nat) {R : Type} (x0 : Int) (x1 : Int) (x2 : Int) (x3 : Int) (x4 : Int) (x5 : Int) (x6 : List ((Int) × ((Int) × ((Int) × ((Int) × ((Int) × (Int))))))) (x7 : List (((Int) × ((Int) × ((Int) × ((Int) × ((Int) × (Int)))))) × (Int))) (x8 : List ((Int) × (Int))) (k0 : (Int) → (Int) → (List (((Int) × ((Int) × ((Int) × ((Int) × ((Int) × (Int)))))) × (Int))) → (List ((Int) × (Int))) → (List ((Int) × ((Int) × ((Int) × ((Int) × ((Int) × (Int))))))) → Option R) : Option R :=
  br (Option.isSome (mfind (.pair (.int .i64) (.pair (.int .i64) (.pair (.int .u16) (.pair (.int .i64) (.pair (.int .i64) (.int .i64)))))) (.int .i64) x7 (x0 , (x1 , (x2 , (x3 , (x4 , x5)))))))
  (k0 (Option.getD (mfind (.pair (.int .i64) (.pair (.int .i64) (.pair (.int .u16) (.pair (.int .i64) (.pair (.int .i64) (.int .i64)))))) (.int .i64) x7 (x0 , (x1 , (x2 , (x3 , (x4 , x5)))))) (0 : Int)) (0 : Int) x7 x8 x6)
  (br (decide ((65536 : Int) ≤ (Nat.cast (List.length x6) : Int)))
   (k0 (0 : Int) (3 : Int) x7 x8 x6)
   (br (((fits (0 : Nat) (List.length x6) x6) && (decide ((((List.length x6) + (1 : Nat)) * (48 : Nat)) ≤ (70368744177664 : Nat)))) && true)
    (k0 (Nat.cast ((List.length x6) + (1 : Nat)) : Int) (0 : Int) (mput (.pair (.int .i64) (.pair (.int .i64) (.pair (.int .u16) (.pair (.int .i64) (.pair (.int .i64) (.int .i64)))))) (.int .i64) x7 (x0 , (x1 , (x2 , (x3 , (x4 , x5))))) (Nat.cast ((List.length x6) + (1 : Nat)) : Int)) x8 ((sub x6 (0 : Nat) (List.length x6)) ++ ((x0 , (x1 , (x2 , (x3 , (x4 , x5))))) :: ([] : List (((Sh.int IntKind.i64).pair
    ((Sh.int IntKind.i64).pair
      ((Sh.int IntKind.u16).pair ((Sh.int IntKind.i64).pair ((Sh.int IntKind.i64).pair (Sh.int IntKind.i64)))))).T)))))
    (none)))
noncomputable def term_Arena_keep_a25e (N : Nat) {R : Type} (x0 : Int) (x1 : Int) (x2 : Int) (x3 : Int) (x4 : Int) (x5 : Int) (x6 : List ((Int) × ((Int) × ((Int) × ((Int) × ((Int) × (Int))))))) (x7 : List (((Int) × ((Int) × ((Int) × ((Int) × ((Int) × (Int)))))) × (Int))) (x8 : List ((Int) × (Int))) (k0 : (Int) → (Int) → (List (((Int) × ((Int) × ((Int) × ((Int) × ((Int) × (Int)))))) × (Int))) → (List ((Int) × (Int))) → (List ((Int) × ((Int) × ((Int) × ((Int) × ((Int) × (Int))))))) → Option R) : Option R := term_Arena_keep_a25e_T N x0 x1 x2 x3 x4 x5 x6 x7 x8 k0
abbrev term_Arena_Var_99d8_Ty : Type 1 := {R : Type} → (Int) → (Int) → (List ((Int) × ((Int) × ((Int) × ((Int) × ((Int) × (Int))))))) → (List (((Int) × ((Int) × ((Int) × ((Int) × ((Int) × (Int)))))) × (Int))) → (List ((Int) × (Int))) → ((Int) → (Int) → (List (((Int) × ((Int) × ((Int) × ((Int) × ((Int) × (Int)))))) × (Int))) → (List ((Int) × (Int))) → (List ((Int) × ((Int) × ((Int) × ((Int) × ((Int) × (Int))))))) → Option R) → Option R
noncomputable def term_Arena_Var_99d8_T (N : Nat) (c0 : term_Arena_keep_a25e_Ty) (c1 : wide_May_Ty) {R : Type} (x0 : Int) (x1 : Int) (x2 : List ((Int) × ((Int) × ((Int) × ((Int) × ((Int) × (Int))))))) (x3 : List (((Int) × ((Int) × ((Int) × ((Int) × ((Int) × (Int)))))) × (Int))) (x4 : List ((Int) × (Int))) (k0 : (Int) → (Int) → (List (((Int) × ((Int) × ((Int) × ((Int) × ((Int) × (Int)))))) × (Int))) → (List ((Int) × (Int))) → (List ((Int) × ((Int) × ((Int) × ((Int) × ((Int) × (Int))))))) → Option R) : Option R :=
  c1 x0
  (fun b9 => br (!b9)
   (k0 (0 : Int) (2 : Int) x3 x4 x2)
   (br (!(decide (x1 < (0 : Int))))
    (br (!(decide ((64 : Int) ≤ x1)))
     (br (Option.isSome (mfind (.int .i64) (.int .i64) x4 x1))
      (br (!(decide ((Option.getD (mfind (.int .i64) (.int .i64) x4 x1) (0 : Int)) = x0)))
       (k0 (0 : Int) (1 : Int) x3 x4 x2)
       (c0 (2 : Int) x0 (IntKind.wrap .u16 x1) (0 : Int) (0 : Int) (0 : Int) x2 x3 x4
        (fun i10 i11 l12 l13 l14 => br (decide (i11 = (0 : Int)))
         (k0 i10 i11 l12 (mput (.int .i64) (.int .i64) l13 x1 x0) l14)
         (k0 i10 i11 l12 l13 l14))))
      (c0 (2 : Int) x0 (IntKind.wrap .u16 x1) (0 : Int) (0 : Int) (0 : Int) x2 x3 x4
       (fun i15 i16 l17 l18 l19 => br (decide (i16 = (0 : Int)))
        (k0 i15 i16 l17 (mput (.int .i64) (.int .i64) l18 x1 x0) l19)
        (k0 i15 i16 l17 l18 l19))))
     (k0 (0 : Int) (1 : Int) x3 x4 x2))
    (k0 (0 : Int) (1 : Int) x3 x4 x2)))
noncomputable def term_Arena_Var_99d8 (N : Nat) {R : Type} (x0 : Int) (x1 : Int) (x2 : List ((Int) × ((Int) × ((Int) × ((Int) × ((Int) × (Int))))))) (x3 : List (((Int) × ((Int) × ((Int) × ((Int) × ((Int) × (Int)))))) × (Int))) (x4 : List ((Int) × (Int))) (k0 : (Int) → (Int) → (List (((Int) × ((Int) × ((Int) × ((Int) × ((Int) × (Int)))))) × (Int))) → (List ((Int) × (Int))) → (List ((Int) × ((Int) × ((Int) × ((Int) × ((Int) × (Int))))))) → Option R) : Option R := term_Arena_Var_99d8_T N (@term_Arena_keep_a25e N) (@wide_May N) x0 x1 x2 x3 x4 k0
abbrev wide_Mask_Ty : Type 1 := {R : Type} → (Int) → ((Int) → Option R) → Option R
noncomputable def wide_Mask_T (N : Nat) (c0 : wide_May_Ty) {R : Type} (x0 : Int) (k0 : (Int) → Option R) : Option R :=
  c0 x0
  (fun b26 => br (!b26)
   (k0 (0 : Int))
   (br (decide ((IntKind.wrap .u64 x0) < (0 : Int)))
    (none)
    (k0 (IntKind.wrap .u16 ((shlI .u16 (1 : Int) (IntKind.wrap .u64 x0)) - (1 : Int))))))
noncomputable def wide_Mask (N : Nat) {R : Type} (x0 : Int) (k0 : (Int) → Option R) : Option R := wide_Mask_T N (@wide_May N) x0 k0
abbrev term_Arena_Const_2c81_Ty : Type 1 := {R : Type} → (Int) → (Int) → (List ((Int) × ((Int) × ((Int) × ((Int) × ((Int) × (Int))))))) → (List (((Int) × ((Int) × ((Int) × ((Int) × ((Int) × (Int)))))) × (Int))) → (List ((Int) × (Int))) → ((Int) → (Int) → (List (((Int) × ((Int) × ((Int) × ((Int) × ((Int) × (Int)))))) × (Int))) → (List ((Int) × (Int))) → (List ((Int) × ((Int) × ((Int) × ((Int) × ((Int) × (Int))))))) → Option R) → Option R
noncomputable def term_Arena_Const_2c81_T (N : Nat) (c0 : term_Arena_keep_a25e_Ty) (c1 : wide_Mask_Ty) (c2 : wide_May_Ty) {R : Type} (x0 : Int) (x1 : Int) (x2 : List ((Int) × ((Int) × ((Int) × ((Int) × ((Int) × (Int))))))) (x3 : List (((Int) × ((Int) × ((Int) × ((Int) × ((Int) × (Int)))))) × (Int))) (x4 : List ((Int) × (Int))) (k0 : (Int) → (Int) → (List (((Int) × ((Int) × ((Int) × ((Int) × ((Int) × (Int)))))) × (Int))) → (List ((Int) × (Int))) → (List ((Int) × ((Int) × ((Int) × ((Int) × ((Int) × (Int))))))) → Option R) : Option R :=
  c2 x0
  (fun b33 => br (!b33)
   (k0 (0 : Int) (2 : Int) x3 x4 x2)
   (c1 x0
    (fun i34 => c0 (1 : Int) x0 (band .u16 x1 i34) (0 : Int) (0 : Int) (0 : Int) x2 x3 x4
     (fun i35 i36 l37 l38 l39 => k0 i35 i36 l37 l38 l39))))
noncomputable def term_Arena_Const_2c81 (N : Nat) {R : Type} (x0 : Int) (x1 : Int) (x2 : List ((Int) × ((Int) × ((Int) × ((Int) × ((Int) × (Int))))))) (x3 : List (((Int) × ((Int) × ((Int) × ((Int) × ((Int) × (Int)))))) × (Int))) (x4 : List ((Int) × (Int))) (k0 : (Int) → (Int) → (List (((Int) × ((Int) × ((Int) × ((Int) × ((Int) × (Int)))))) × (Int))) → (List ((Int) × (Int))) → (List ((Int) × ((Int) × ((Int) × ((Int) × ((Int) × (Int))))))) → Option R) : Option R := term_Arena_Const_2c81_T N (@term_Arena_keep_a25e N) (@wide_Mask N) (@wide_May N) x0 x1 x2 x3 x4 k0
abbrev term_two_Ty : Type 1 := {R : Type} → (Int) → ((Bool) → Option R) → Option R
noncomputable def term_two_T (N : Nat) {R : Type} (x0 : Int) (k0 : (Bool) → Option R) : Option R :=
  br (decide ((4 : Int) ≤ x0))
  (k0 (decide (x0 ≤ (15 : Int))))
  (k0 false)
noncomputable def term_two (N : Nat) {R : Type} (x0 : Int) (k0 : (Bool) → Option R) : Option R := term_two_T N x0 k0
abbrev term_Arena_Node_43b4_Ty : Type 1 := {R : Type} → (Int) → (List ((Int) × ((Int) × ((Int) × ((Int) × ((Int) × (Int))))))) → (List (((Int) × ((Int) × ((Int) × ((Int) × ((Int) × (Int)))))) × (Int))) → (List ((Int) × (Int))) → ((Int) → (Int) → (Int) → (Int) → (Int) → (Int) → (Bool) → (List ((Int) × ((Int) × ((Int) × ((Int) × ((Int) × (Int))))))) → (List (((Int) × ((Int) × ((Int) × ((Int) × ((Int) × (Int)))))) × (Int))) → (List ((Int) × (Int))) → Option R) → Option R
noncomputable def term_Arena_Node_43b4_T (N : Nat) {R : Type} (x0 : Int) (x1 : List ((Int) × ((Int) × ((Int) × ((Int) × ((Int) × (Int))))))) (x2 : List (((Int) × ((Int) × ((Int) × ((Int) × ((Int) × (Int)))))) × (Int))) (x3 : List ((Int) × (Int))) (k0 : (Int) → (Int) → (Int) → (Int) → (Int) → (Int) → (Bool) → (List ((Int) × ((Int) × ((Int) × ((Int) × ((Int) × (Int))))))) → (List (((Int) × ((Int) × ((Int) × ((Int) × ((Int) × (Int)))))) × (Int))) → (List ((Int) × (Int))) → Option R) : Option R :=
  br (!(decide (x0 < (1 : Int))))
  (br (decide ((Nat.cast (List.length x1) : Int) < x0))
   (k0 (0 : Int) (0 : Int) (0 : Int) (0 : Int) (0 : Int) (0 : Int) false x1 x2 x3)
   (br (inB (IntKind.wrap .i64 (x0 - (1 : Int))) (List.length x1))
    (br (decide ((Int.toNat (IntKind.wrap .i64 (x0 - (1 : Int)))) < (List.length x1)))
     (k0 (List.getD x1 (Int.toNat (IntKind.wrap .i64 (x0 - (1 : Int)))) ((0 : Int) , ((0 : Int) , ((0 : Int) , ((0 : Int) , ((0 : Int) , (0 : Int))))))).1 (List.getD x1 (Int.toNat (IntKind.wrap .i64 (x0 - (1 : Int)))) ((0 : Int) , ((0 : Int) , ((0 : Int) , ((0 : Int) , ((0 : Int) , (0 : Int))))))).2.1 (List.getD x1 (Int.toNat (IntKind.wrap .i64 (x0 - (1 : Int)))) ((0 : Int) , ((0 : Int) , ((0 : Int) , ((0 : Int) , ((0 : Int) , (0 : Int))))))).2.2.1 (List.getD x1 (Int.toNat (IntKind.wrap .i64 (x0 - (1 : Int)))) ((0 : Int) , ((0 : Int) , ((0 : Int) , ((0 : Int) , ((0 : Int) , (0 : Int))))))).2.2.2.1 (List.getD x1 (Int.toNat (IntKind.wrap .i64 (x0 - (1 : Int)))) ((0 : Int) , ((0 : Int) , ((0 : Int) , ((0 : Int) , ((0 : Int) , (0 : Int))))))).2.2.2.2.1 (List.getD x1 (Int.toNat (IntKind.wrap .i64 (x0 - (1 : Int)))) ((0 : Int) , ((0 : Int) , ((0 : Int) , ((0 : Int) , ((0 : Int) , (0 : Int))))))).2.2.2.2.2 true x1 x2 x3)
     (none))
    (none)))
  (k0 (0 : Int) (0 : Int) (0 : Int) (0 : Int) (0 : Int) (0 : Int) false x1 x2 x3)
noncomputable def term_Arena_Node_43b4 (N : Nat) {R : Type} (x0 : Int) (x1 : List ((Int) × ((Int) × ((Int) × ((Int) × ((Int) × (Int))))))) (x2 : List (((Int) × ((Int) × ((Int) × ((Int) × ((Int) × (Int)))))) × (Int))) (x3 : List ((Int) × (Int))) (k0 : (Int) → (Int) → (Int) → (Int) → (Int) → (Int) → (Bool) → (List ((Int) × ((Int) × ((Int) × ((Int) × ((Int) × (Int))))))) → (List (((Int) × ((Int) × ((Int) × ((Int) × ((Int) × (Int)))))) × (Int))) → (List ((Int) × (Int))) → Option R) : Option R := term_Arena_Node_43b4_T N x0 x1 x2 x3 k0
abbrev term_Arena_there_2549_l0_Ty : Type 1 := {R : Type} → ((Bool) → (List ((Int) × ((Int) × ((Int) × ((Int) × ((Int) × (Int))))))) → (List (((Int) × ((Int) × ((Int) × ((Int) × ((Int) × (Int)))))) × (Int))) → (List ((Int) × (Int))) → (List (Int)) → Option R) → ((List ((Int) × ((Int) × ((Int) × ((Int) × ((Int) × (Int))))))) → (List (((Int) × ((Int) × ((Int) × ((Int) × ((Int) × (Int)))))) × (Int))) → (List ((Int) × (Int))) → (List (Int)) → Option R) → Nat → (Int) → (Int) → (List ((Int) × ((Int) × ((Int) × ((Int) × ((Int) × (Int))))))) → (List (((Int) × ((Int) × ((Int) × ((Int) × ((Int) × (Int)))))) × (Int))) → (List ((Int) × (Int))) → (List (Int)) → Option R
abbrev term_Arena_there_2549_Ty : Type 1 := {R : Type} → (List ((Int) × ((Int) × ((Int) × ((Int) × ((Int) × (Int))))))) → (List (((Int) × ((Int) × ((Int) × ((Int) × ((Int) × (Int)))))) × (Int))) → (List ((Int) × (Int))) → (List (Int)) → ((Bool) → (List ((Int) × ((Int) × ((Int) × ((Int) × ((Int) × (Int))))))) → (List (((Int) × ((Int) × ((Int) × ((Int) × ((Int) × (Int)))))) × (Int))) → (List ((Int) × (Int))) → (List (Int)) → Option R) → Option R
noncomputable def term_Arena_there_2549_l0_T0 (N : Nat) (c0 : term_Arena_Node_43b4_Ty) {R : Type} (nx : (Int) → (Int) → (List ((Int) × ((Int) × ((Int) × ((Int) × ((Int) × (Int))))))) → (List (((Int) × ((Int) × ((Int) × ((Int) × ((Int) × (Int)))))) × (Int))) → (List ((Int) × (Int))) → (List (Int)) → Option R) (k0 : (Bool) → (List ((Int) × ((Int) × ((Int) × ((Int) × ((Int) × (Int))))))) → (List (((Int) × ((Int) × ((Int) × ((Int) × ((Int) × (Int)))))) × (Int))) → (List ((Int) × (Int))) → (List (Int)) → Option R) (k1 : (List ((Int) × ((Int) × ((Int) × ((Int) × ((Int) × (Int))))))) → (List (((Int) × ((Int) × ((Int) × ((Int) × ((Int) × (Int)))))) × (Int))) → (List ((Int) × (Int))) → (List (Int)) → Option R) (x0 : Int) (x1 : Int) (x2 : List ((Int) × ((Int) × ((Int) × ((Int) × ((Int) × (Int))))))) (x3 : List (((Int) × ((Int) × ((Int) × ((Int) × ((Int) × (Int)))))) × (Int))) (x4 : List ((Int) × (Int))) (x5 : List (Int)) : Option R :=
  br (decide (x1 < x0))
  (br (inB x1 (List.length x5))
   (br (decide ((Int.toNat x1) < (List.length x5)))
    (c0 (List.getD x5 (Int.toNat x1) (0 : Int)) x2 x3 x4
     (fun i46 i47 i48 i49 i50 i51 b52 l53 l54 l55 => br (!b52)
      (k0 false l53 l54 l55 x5)
      (nx x0 (IntKind.wrap .i64 (x1 + (1 : Int))) l53 l54 l55 x5)))
    (none))
   (none))
  (k1 x2 x3 x4 x5)
noncomputable def term_Arena_there_2549_l0 (N : Nat) {R : Type} (k0 : (Bool) → (List ((Int) × ((Int) × ((Int) × ((Int) × ((Int) × (Int))))))) → (List (((Int) × ((Int) × ((Int) × ((Int) × ((Int) × (Int)))))) × (Int))) → (List ((Int) × (Int))) → (List (Int)) → Option R) (k1 : (List ((Int) × ((Int) × ((Int) × ((Int) × ((Int) × (Int))))))) → (List (((Int) × ((Int) × ((Int) × ((Int) × ((Int) × (Int)))))) × (Int))) → (List ((Int) × (Int))) → (List (Int)) → Option R) : Nat → (Int) → (Int) → (List ((Int) × ((Int) × ((Int) × ((Int) × ((Int) × (Int))))))) → (List (((Int) × ((Int) × ((Int) × ((Int) × ((Int) × (Int)))))) × (Int))) → (List ((Int) × (Int))) → (List (Int)) → Option R
  | 0, _, _, _, _, _, _ => none
  | n + 1, x0, x1, x2, x3, x4, x5 => term_Arena_there_2549_l0_T0 N (@term_Arena_Node_43b4 N) (fun x0 x1 x2 x3 x4 x5 => term_Arena_there_2549_l0 N k0 k1 n x0 x1 x2 x3 x4 x5) k0 k1 x0 x1 x2 x3 x4 x5
noncomputable def term_Arena_there_2549_T (N : Nat) (c0 : term_Arena_Node_43b4_Ty) (w0 : term_Arena_there_2549_l0_Ty) {R : Type} (x0 : List ((Int) × ((Int) × ((Int) × ((Int) × ((Int) × (Int))))))) (x1 : List (((Int) × ((Int) × ((Int) × ((Int) × ((Int) × (Int)))))) × (Int))) (x2 : List ((Int) × (Int))) (x3 : List (Int)) (k0 : (Bool) → (List ((Int) × ((Int) × ((Int) × ((Int) × ((Int) × (Int))))))) → (List (((Int) × ((Int) × ((Int) × ((Int) × ((Int) × (Int)))))) × (Int))) → (List ((Int) × (Int))) → (List (Int)) → Option R) : Option R :=
  w0
  (fun b56 l57 l58 l59 l60 => k0 b56 l57 l58 l59 l60)
  (fun l61 l62 l63 l64 => k0 true l61 l62 l63 l64)
  N (Nat.cast (List.length x3) : Int) (0 : Int) x0 x1 x2 x3
noncomputable def term_Arena_there_2549 (N : Nat) {R : Type} (x0 : List ((Int) × ((Int) × ((Int) × ((Int) × ((Int) × (Int))))))) (x1 : List (((Int) × ((Int) × ((Int) × ((Int) × ((Int) × (Int)))))) × (Int))) (x2 : List ((Int) × (Int))) (x3 : List (Int)) (k0 : (Bool) → (List ((Int) × ((Int) × ((Int) × ((Int) × ((Int) × (Int))))))) → (List (((Int) × ((Int) × ((Int) × ((Int) × ((Int) × (Int)))))) × (Int))) → (List ((Int) × (Int))) → (List (Int)) → Option R) : Option R := term_Arena_there_2549_T N (@term_Arena_Node_43b4 N) (@term_Arena_there_2549_l0 N) x0 x1 x2 x3 k0
abbrev term_Arena_Width_43b4_Ty : Type 1 := {R : Type} → (Int) → (List ((Int) × ((Int) × ((Int) × ((Int) × ((Int) × (Int))))))) → (List (((Int) × ((Int) × ((Int) × ((Int) × ((Int) × (Int)))))) × (Int))) → (List ((Int) × (Int))) → ((Int) → (List ((Int) × ((Int) × ((Int) × ((Int) × ((Int) × (Int))))))) → (List (((Int) × ((Int) × ((Int) × ((Int) × ((Int) × (Int)))))) × (Int))) → (List ((Int) × (Int))) → Option R) → Option R
noncomputable def term_Arena_Width_43b4_T (N : Nat) (c0 : term_Arena_Node_43b4_Ty) {R : Type} (x0 : Int) (x1 : List ((Int) × ((Int) × ((Int) × ((Int) × ((Int) × (Int))))))) (x2 : List (((Int) × ((Int) × ((Int) × ((Int) × ((Int) × (Int)))))) × (Int))) (x3 : List ((Int) × (Int))) (k0 : (Int) → (List ((Int) × ((Int) × ((Int) × ((Int) × ((Int) × (Int))))))) → (List (((Int) × ((Int) × ((Int) × ((Int) × ((Int) × (Int)))))) × (Int))) → (List ((Int) × (Int))) → Option R) : Option R :=
  c0 x0 x1 x2 x3
  (fun i70 i71 i72 i73 i74 i75 b76 l77 l78 l79 => k0 i71 l77 l78 l79)
noncomputable def term_Arena_Width_43b4 (N : Nat) {R : Type} (x0 : Int) (x1 : List ((Int) × ((Int) × ((Int) × ((Int) × ((Int) × (Int))))))) (x2 : List (((Int) × ((Int) × ((Int) × ((Int) × ((Int) × (Int)))))) × (Int))) (x3 : List ((Int) × (Int))) (k0 : (Int) → (List ((Int) × ((Int) × ((Int) × ((Int) × ((Int) × (Int))))))) → (List (((Int) × ((Int) × ((Int) × ((Int) × ((Int) × (Int)))))) × (Int))) → (List ((Int) × (Int))) → Option R) : Option R := term_Arena_Width_43b4_T N (@term_Arena_Node_43b4 N) x0 x1 x2 x3 k0
abbrev term_Arena_Known_43b4_Ty : Type 1 := {R : Type} → (Int) → (List ((Int) × ((Int) × ((Int) × ((Int) × ((Int) × (Int))))))) → (List (((Int) × ((Int) × ((Int) × ((Int) × ((Int) × (Int)))))) × (Int))) → (List ((Int) × (Int))) → ((Int) → (Bool) → (List ((Int) × ((Int) × ((Int) × ((Int) × ((Int) × (Int))))))) → (List (((Int) × ((Int) × ((Int) × ((Int) × ((Int) × (Int)))))) × (Int))) → (List ((Int) × (Int))) → Option R) → Option R
noncomputable def term_Arena_Known_43b4_T (N : Nat) (c0 : term_Arena_Node_43b4_Ty) {R : Type} (x0 : Int) (x1 : List ((Int) × ((Int) × ((Int) × ((Int) × ((Int) × (Int))))))) (x2 : List (((Int) × ((Int) × ((Int) × ((Int) × ((Int) × (Int)))))) × (Int))) (x3 : List ((Int) × (Int))) (k0 : (Int) → (Bool) → (List ((Int) × ((Int) × ((Int) × ((Int) × ((Int) × (Int))))))) → (List (((Int) × ((Int) × ((Int) × ((Int) × ((Int) × (Int)))))) × (Int))) → (List ((Int) × (Int))) → Option R) : Option R :=
  c0 x0 x1 x2 x3
  (fun i88 i89 i90 i91 i92 i93 b94 l95 l96 l97 => br (decide (i88 = (1 : Int)))
   (k0 i90 (decide ((0 : Int) < i89)) l95 l96 l97)
   (k0 i90 false l95 l96 l97))
noncomputable def term_Arena_Known_43b4 (N : Nat) {R : Type} (x0 : Int) (x1 : List ((Int) × ((Int) × ((Int) × ((Int) × ((Int) × (Int))))))) (x2 : List (((Int) × ((Int) × ((Int) × ((Int) × ((Int) × (Int)))))) × (Int))) (x3 : List ((Int) × (Int))) (k0 : (Int) → (Bool) → (List ((Int) × ((Int) × ((Int) × ((Int) × ((Int) × (Int))))))) → (List (((Int) × ((Int) × ((Int) × ((Int) × ((Int) × (Int)))))) × (Int))) → (List ((Int) × (Int))) → Option R) : Option R := term_Arena_Known_43b4_T N (@term_Arena_Node_43b4 N) x0 x1 x2 x3 k0
abbrev wide_divided_Ty : Type 1 := {R : Type} → (Int) → (Int) → (Int) → ((Int) → Option R) → Option R
noncomputable def wide_divided_T (N : Nat) (c0 : wide_Mask_Ty) {R : Type} (x0 : Int) (x1 : Int) (x2 : Int) (k0 : (Int) → Option R) : Option R :=
  br (decide (x2 = (0 : Int)))
  (c0 x0
   (fun i114 => k0 i114))
  (br (decide (x2 = (0 : Int)))
   (none)
   (k0 (IntKind.wrap .u16 (Int.tdiv x1 x2))))
noncomputable def wide_divided (N : Nat) {R : Type} (x0 : Int) (x1 : Int) (x2 : Int) (k0 : (Int) → Option R) : Option R := wide_divided_T N (@wide_Mask N) x0 x1 x2 k0
abbrev wide_rest_Ty : Type 1 := {R : Type} → (Int) → (Int) → ((Int) → Option R) → Option R
noncomputable def wide_rest_T (N : Nat) {R : Type} (x0 : Int) (x1 : Int) (k0 : (Int) → Option R) : Option R :=
  br (decide (x1 = (0 : Int)))
  (k0 x0)
  (br (decide (x1 = (0 : Int)))
   (none)
   (k0 (Int.tmod x0 x1)))
noncomputable def wide_rest (N : Nat) {R : Type} (x0 : Int) (x1 : Int) (k0 : (Int) → Option R) : Option R := wide_rest_T N x0 x1 k0
abbrev wide_truth_Ty : Type 1 := {R : Type} → (Bool) → ((Int) → Option R) → Option R
noncomputable def wide_truth_T (N : Nat) {R : Type} (x0 : Bool) (k0 : (Int) → Option R) : Option R :=
  br x0
  (k0 (1 : Int))
  (k0 (0 : Int))
noncomputable def wide_truth (N : Nat) {R : Type} (x0 : Bool) (k0 : (Int) → Option R) : Option R := wide_truth_T N x0 k0
abbrev wide_reckon_Ty : Type 1 := {R : Type} → (Int) → (Int) → (Int) → (Int) → ((Int) → (Bool) → Option R) → Option R
noncomputable def wide_reckon_T (N : Nat) (c0 : wide_truth_Ty) (c1 : wide_rest_Ty) (c2 : wide_divided_Ty) {R : Type} (x0 : Int) (x1 : Int) (x2 : Int) (x3 : Int) (k0 : (Int) → (Bool) → Option R) : Option R :=
  br (decide (x0 = (3 : Int)))
  (k0 (bxor .u16 (if ((IntKind.signed .u16) = true) then (-1 : Int) else (IntKind.max .u16)) x2) true)
  (br (decide (x0 = (4 : Int)))
   (k0 (band .u16 x2 x3) true)
   (br (decide (x0 = (5 : Int)))
    (k0 (bor .u16 x2 x3) true)
    (br (decide (x0 = (6 : Int)))
     (k0 (bxor .u16 x2 x3) true)
     (br (decide (x0 = (7 : Int)))
      (k0 (IntKind.wrap .u16 (x2 + x3)) true)
      (br (decide (x0 = (8 : Int)))
       (k0 (IntKind.wrap .u16 (x2 - x3)) true)
       (br (decide (x0 = (9 : Int)))
        (k0 (IntKind.wrap .u16 (x2 * x3)) true)
        (br (decide (x0 = (10 : Int)))
         (c2 x1 x2 x3
          (fun i115 => k0 i115 true))
         (br (decide (x0 = (11 : Int)))
          (c1 x2 x3
           (fun i116 => k0 i116 true))
          (br (decide (x0 = (12 : Int)))
           (br (decide (x3 < (0 : Int)))
            (none)
            (k0 (shlI .u16 x2 x3) true))
           (br (decide (x0 = (13 : Int)))
            (br (decide (x3 < (0 : Int)))
             (none)
             (k0 (shrI .u16 x2 x3) true))
            (br (decide (x0 = (14 : Int)))
             (c0 (decide (x2 = x3))
              (fun i117 => k0 i117 true))
             (br (decide (x0 = (15 : Int)))
              (c0 (decide (x2 < x3))
               (fun i118 => k0 i118 true))
              (k0 (0 : Int) false)))))))))))))
noncomputable def wide_reckon (N : Nat) {R : Type} (x0 : Int) (x1 : Int) (x2 : Int) (x3 : Int) (k0 : (Int) → (Bool) → Option R) : Option R := wide_reckon_T N (@wide_truth N) (@wide_rest N) (@wide_divided N) x0 x1 x2 x3 k0
abbrev wide_Do_Ty : Type 1 := {R : Type} → (Int) → (Int) → (Int) → (Int) → ((Int) → (Int) → Option R) → Option R
noncomputable def wide_Do_T (N : Nat) (c0 : wide_reckon_Ty) (c1 : wide_Mask_Ty) (c2 : wide_May_Ty) {R : Type} (x0 : Int) (x1 : Int) (x2 : Int) (x3 : Int) (k0 : (Int) → (Int) → Option R) : Option R :=
  c2 x1
  (fun b112 => br (!b112)
   (k0 (0 : Int) (2 : Int))
   (c1 x1
    (fun i113 => c0 x0 x1 (band .u16 x2 i113) (band .u16 x3 i113)
     (fun i119 b120 => br (!b120)
      (k0 (0 : Int) (5 : Int))
      (k0 (band .u16 i119 i113) (0 : Int))))))
noncomputable def wide_Do (N : Nat) {R : Type} (x0 : Int) (x1 : Int) (x2 : Int) (x3 : Int) (k0 : (Int) → (Int) → Option R) : Option R := wide_Do_T N (@wide_reckon N) (@wide_Mask N) (@wide_May N) x0 x1 x2 x3 k0
abbrev wide_Out_Ty : Type 1 := {R : Type} → (Int) → (Int) → ((Int) → Option R) → Option R
noncomputable def wide_Out_T (N : Nat) (c0 : wide_Do_Ty) {R : Type} (x0 : Int) (x1 : Int) (k0 : (Int) → Option R) : Option R :=
  c0 x0 x1 (0 : Int) (0 : Int)
  (fun i127 i128 => br (!(decide (i128 = (0 : Int))))
   (k0 (0 : Int))
   (br (!(decide (x0 = (14 : Int))))
    (br (decide (x0 = (15 : Int)))
     (k0 (1 : Int))
     (k0 x1))
    (k0 (1 : Int))))
noncomputable def wide_Out (N : Nat) {R : Type} (x0 : Int) (x1 : Int) (k0 : (Int) → Option R) : Option R := wide_Out_T N (@wide_Do N) x0 x1 k0
abbrev term_turns_Ty : Type 1 := {R : Type} → (Int) → ((Bool) → Option R) → Option R
noncomputable def term_turns_T (N : Nat) {R : Type} (x0 : Int) (k0 : (Bool) → Option R) : Option R :=
  br (decide (x0 = (4 : Int)))
  (k0 true)
  (br (decide (x0 = (5 : Int)))
   (k0 true)
   (br (decide (x0 = (6 : Int)))
    (k0 true)
    (br (decide (x0 = (7 : Int)))
     (k0 true)
     (br (decide (x0 = (9 : Int)))
      (k0 true)
      (br (decide (x0 = (14 : Int)))
       (k0 true)
       (k0 false))))))
noncomputable def term_turns (N : Nat) {R : Type} (x0 : Int) (k0 : (Bool) → Option R) : Option R := term_turns_T N x0 k0
abbrev term_Arena_alike_99d8_Ty : Type 1 := {R : Type} → (Int) → (Int) → (List ((Int) × ((Int) × ((Int) × ((Int) × ((Int) × (Int))))))) → (List (((Int) × ((Int) × ((Int) × ((Int) × ((Int) × (Int)))))) × (Int))) → (List ((Int) × (Int))) → ((Int) → (Int) → (Bool) → (List (((Int) × ((Int) × ((Int) × ((Int) × ((Int) × (Int)))))) × (Int))) → (List ((Int) × (Int))) → (List ((Int) × ((Int) × ((Int) × ((Int) × ((Int) × (Int))))))) → Option R) → Option R
noncomputable def term_Arena_alike_99d8_T (N : Nat) (c0 : wide_Do_Ty) (c1 : term_Arena_Const_2c81_Ty) (c2 : term_Arena_Width_43b4_Ty) {R : Type} (x0 : Int) (x1 : Int) (x2 : List ((Int) × ((Int) × ((Int) × ((Int) × ((Int) × (Int))))))) (x3 : List (((Int) × ((Int) × ((Int) × ((Int) × ((Int) × (Int)))))) × (Int))) (x4 : List ((Int) × (Int))) (k0 : (Int) → (Int) → (Bool) → (List (((Int) × ((Int) × ((Int) × ((Int) × ((Int) × (Int)))))) × (Int))) → (List ((Int) × (Int))) → (List ((Int) × ((Int) × ((Int) × ((Int) × ((Int) × (Int))))))) → Option R) : Option R :=
  c2 x1 x2 x3 x4
  (fun i185 l186 l187 l188 => br (decide (x0 = (4 : Int)))
   (k0 x1 (0 : Int) true l187 l188 l186)
   (br (decide (x0 = (5 : Int)))
    (k0 x1 (0 : Int) true l187 l188 l186)
    (br (decide (x0 = (6 : Int)))
     (c1 i185 (0 : Int) l186 l187 l188
      (fun i189 i190 l191 l192 l193 => k0 i189 i190 true l191 l192 l193))
     (br (decide (x0 = (8 : Int)))
      (c1 i185 (0 : Int) l186 l187 l188
       (fun i194 i195 l196 l197 l198 => k0 i194 i195 true l196 l197 l198))
      (br (decide (x0 = (14 : Int)))
       (c0 x0 i185 (0 : Int) (0 : Int)
        (fun i199 i200 => c1 (1 : Int) i199 l186 l187 l188
         (fun i201 i202 l203 l204 l205 => k0 i201 i202 true l203 l204 l205)))
       (br (decide (x0 = (15 : Int)))
        (c0 x0 i185 (0 : Int) (0 : Int)
         (fun i206 i207 => c1 (1 : Int) i206 l186 l187 l188
          (fun i208 i209 l210 l211 l212 => k0 i208 i209 true l210 l211 l212)))
        (k0 (0 : Int) (0 : Int) false l187 l188 l186)))))))
noncomputable def term_Arena_alike_99d8 (N : Nat) {R : Type} (x0 : Int) (x1 : Int) (x2 : List ((Int) × ((Int) × ((Int) × ((Int) × ((Int) × (Int))))))) (x3 : List (((Int) × ((Int) × ((Int) × ((Int) × ((Int) × (Int)))))) × (Int))) (x4 : List ((Int) × (Int))) (k0 : (Int) → (Int) → (Bool) → (List (((Int) × ((Int) × ((Int) × ((Int) × ((Int) × (Int)))))) × (Int))) → (List ((Int) × (Int))) → (List ((Int) × ((Int) × ((Int) × ((Int) × ((Int) × (Int))))))) → Option R) : Option R := term_Arena_alike_99d8_T N (@wide_Do N) (@term_Arena_Const_2c81 N) (@term_Arena_Width_43b4 N) x0 x1 x2 x3 x4 k0
abbrev term_Arena_Not_43b4_Ty : Type 1 := {R : Type} → (Int) → (List ((Int) × ((Int) × ((Int) × ((Int) × ((Int) × (Int))))))) → (List (((Int) × ((Int) × ((Int) × ((Int) × ((Int) × (Int)))))) × (Int))) → (List ((Int) × (Int))) → ((Int) → (Int) → (List (((Int) × ((Int) × ((Int) × ((Int) × ((Int) × (Int)))))) × (Int))) → (List ((Int) × (Int))) → (List ((Int) × ((Int) × ((Int) × ((Int) × ((Int) × (Int))))))) → Option R) → Option R
noncomputable def term_Arena_Not_43b4_T (N : Nat) (c0 : term_Arena_keep_a25e_Ty) (c1 : term_Arena_Const_2c81_Ty) (c2 : term_Arena_Node_43b4_Ty) (c3 : term_Arena_there_2549_Ty) {R : Type} (x0 : Int) (x1 : List ((Int) × ((Int) × ((Int) × ((Int) × ((Int) × (Int))))))) (x2 : List (((Int) × ((Int) × ((Int) × ((Int) × ((Int) × (Int)))))) × (Int))) (x3 : List ((Int) × (Int))) (k0 : (Int) → (Int) → (List (((Int) × ((Int) × ((Int) × ((Int) × ((Int) × (Int)))))) × (Int))) → (List ((Int) × (Int))) → (List ((Int) × ((Int) × ((Int) × ((Int) × ((Int) × (Int))))))) → Option R) : Option R :=
  c3 x1 x2 x3 (x0 :: ([] : List ((Sh.int IntKind.i64).T)))
  (fun b276 l277 l278 l279 l280 => br (!b276)
   (k0 (0 : Int) (1 : Int) l278 l279 l277)
   (c2 x0 l277 l278 l279
    (fun i281 i282 i283 i284 i285 i286 b287 l288 l289 l290 => br (decide (i281 = (1 : Int)))
     (c1 i282 (bxor .u16 (if ((IntKind.signed .u16) = true) then (-1 : Int) else (IntKind.max .u16)) i283) l288 l289 l290
      (fun i291 i292 l293 l294 l295 => k0 i291 i292 l293 l294 l295))
     (br (decide (i281 = (3 : Int)))
      (k0 i284 (0 : Int) l289 l290 l288)
      (c0 (3 : Int) i282 (0 : Int) x0 (0 : Int) (0 : Int) l288 l289 l290
       (fun i296 i297 l298 l299 l300 => k0 i296 i297 l298 l299 l300))))))
noncomputable def term_Arena_Not_43b4 (N : Nat) {R : Type} (x0 : Int) (x1 : List ((Int) × ((Int) × ((Int) × ((Int) × ((Int) × (Int))))))) (x2 : List (((Int) × ((Int) × ((Int) × ((Int) × ((Int) × (Int)))))) × (Int))) (x3 : List ((Int) × (Int))) (k0 : (Int) → (Int) → (List (((Int) × ((Int) × ((Int) × ((Int) × ((Int) × (Int)))))) × (Int))) → (List ((Int) × (Int))) → (List ((Int) × ((Int) × ((Int) × ((Int) × ((Int) × (Int))))))) → Option R) : Option R := term_Arena_Not_43b4_T N (@term_Arena_keep_a25e N) (@term_Arena_Const_2c81 N) (@term_Arena_Node_43b4 N) (@term_Arena_there_2549 N) x0 x1 x2 x3 k0
abbrev term_Arena_Under_2549_l0_Ty : Type 1 := {R : Type} → ((Int) → (List ((Int) × ((Int) × ((Int) × ((Int) × ((Int) × (Int))))))) → (List (((Int) × ((Int) × ((Int) × ((Int) × ((Int) × (Int)))))) × (Int))) → (List ((Int) × (Int))) → (List (Int)) → Option R) → Nat → (Int) → (Int) → (Int) → (List ((Int) × ((Int) × ((Int) × ((Int) × ((Int) × (Int))))))) → (List (((Int) × ((Int) × ((Int) × ((Int) × ((Int) × (Int)))))) × (Int))) → (List ((Int) × (Int))) → (List (Int)) → Option R
abbrev term_Arena_Under_2549_l1_Ty : Type 1 := {R : Type} → ((Int) → (List ((Int) × ((Int) × ((Int) × ((Int) × ((Int) × (Int))))))) → (List (((Int) × ((Int) × ((Int) × ((Int) × ((Int) × (Int)))))) × (Int))) → (List ((Int) × (Int))) → (List (Int)) → (List (Bool)) → Option R) → Nat → (Int) → (Int) → (Int) → (List ((Int) × ((Int) × ((Int) × ((Int) × ((Int) × (Int))))))) → (List (((Int) × ((Int) × ((Int) × ((Int) × ((Int) × (Int)))))) × (Int))) → (List ((Int) × (Int))) → (List (Int)) → (List (Bool)) → Option R
abbrev term_Arena_Under_2549_l2_Ty : Type 1 := {R : Type} → ((Int) → (List ((Int) × ((Int) × ((Int) × ((Int) × ((Int) × (Int))))))) → (List (((Int) × ((Int) × ((Int) × ((Int) × ((Int) × (Int)))))) × (Int))) → (List ((Int) × (Int))) → (List (Int)) → (List (Bool)) → Option R) → Nat → (Int) → (Int) → (List ((Int) × ((Int) × ((Int) × ((Int) × ((Int) × (Int))))))) → (List (((Int) × ((Int) × ((Int) × ((Int) × ((Int) × (Int)))))) × (Int))) → (List ((Int) × (Int))) → (List (Int)) → (List (Bool)) → Option R
abbrev term_Arena_Under_2549_l3_Ty : Type 1 := {R : Type} → ((List ((Int) × ((Int) × ((Int) × ((Int) × ((Int) × (Int))))))) → (List (((Int) × ((Int) × ((Int) × ((Int) × ((Int) × (Int)))))) × (Int))) → (List ((Int) × (Int))) → (List (Int)) → (List (Int)) → Option R) → Nat → (Int) → (Int) → (List ((Int) × ((Int) × ((Int) × ((Int) × ((Int) × (Int))))))) → (List (((Int) × ((Int) × ((Int) × ((Int) × ((Int) × (Int)))))) × (Int))) → (List ((Int) × (Int))) → (List (Int)) → (List (Bool)) → (List (Int)) → Option R
abbrev term_Arena_Under_2549_Ty : Type 1 := {R : Type} → (List ((Int) × ((Int) × ((Int) × ((Int) × ((Int) × (Int))))))) → (List (((Int) × ((Int) × ((Int) × ((Int) × ((Int) × (Int)))))) × (Int))) → (List ((Int) × (Int))) → (List (Int)) → ((List ((Int) × ((Int) × ((Int) × ((Int) × ((Int) × (Int))))))) → (List (((Int) × ((Int) × ((Int) × ((Int) × ((Int) × (Int)))))) × (Int))) → (List ((Int) × (Int))) → (List (Int)) → (List (Int)) → Option R) → Option R
noncomputable def term_Arena_Under_2549_l0_T0 (N : Nat) (c0 : term_Arena_there_2549_Ty) (w1 : term_Arena_Under_2549_l1_Ty) (w2 : term_Arena_Under_2549_l2_Ty) (w3 : term_Arena_Under_2549_l3_Ty) {R : Type} (nx : (Int) → (Int) → (Int) → (List ((Int) × ((Int) × ((Int) × ((Int) × ((Int) × (Int))))))) → (List (((Int) × ((Int) × ((Int) × ((Int) × ((Int) × (Int)))))) × (Int))) → (List ((Int) × (Int))) → (List (Int)) → Option R) (k0 : (Int) → (List ((Int) × ((Int) × ((Int) × ((Int) × ((Int) × (Int))))))) → (List (((Int) × ((Int) × ((Int) × ((Int) × ((Int) × (Int)))))) × (Int))) → (List ((Int) × (Int))) → (List (Int)) → Option R) (x0 : Int) (x1 : Int) (x2 : Int) (x3 : List ((Int) × ((Int) × ((Int) × ((Int) × ((Int) × (Int))))))) (x4 : List (((Int) × ((Int) × ((Int) × ((Int) × ((Int) × (Int)))))) × (Int))) (x5 : List ((Int) × (Int))) (x6 : List (Int)) : Option R :=
  br (decide (x2 < x1))
  (br (inB x2 (List.length x6))
   (br (decide ((Int.toNat x2) < (List.length x6)))
    (c0 x3 x4 x5 ((List.getD x6 (Int.toNat x2) (0 : Int)) :: ([] : List ((Sh.int IntKind.i64).T)))
     (fun b682 l683 l684 l685 l686 => br b682
      (nx (if (x0 < (List.getD x6 (Int.toNat x2) (0 : Int))) then (List.getD x6 (Int.toNat x2) (0 : Int)) else x0) x1 (IntKind.wrap .i64 (x2 + (1 : Int))) l683 l684 l685 x6)
      (nx x0 x1 (IntKind.wrap .i64 (x2 + (1 : Int))) l683 l684 l685 x6)))
    (none))
   (none))
  (k0 x0 x3 x4 x5 x6)
noncomputable def term_Arena_Under_2549_l1_T0 (N : Nat) (c0 : term_Arena_there_2549_Ty) (w2 : term_Arena_Under_2549_l2_Ty) (w3 : term_Arena_Under_2549_l3_Ty) {R : Type} (nx : (Int) → (Int) → (Int) → (List ((Int) × ((Int) × ((Int) × ((Int) × ((Int) × (Int))))))) → (List (((Int) × ((Int) × ((Int) × ((Int) × ((Int) × (Int)))))) × (Int))) → (List ((Int) × (Int))) → (List (Int)) → (List (Bool)) → Option R) (k0 : (Int) → (List ((Int) × ((Int) × ((Int) × ((Int) × ((Int) × (Int))))))) → (List (((Int) × ((Int) × ((Int) × ((Int) × ((Int) × (Int)))))) × (Int))) → (List ((Int) × (Int))) → (List (Int)) → (List (Bool)) → Option R) (x0 : Int) (x1 : Int) (x2 : Int) (x3 : List ((Int) × ((Int) × ((Int) × ((Int) × ((Int) × (Int))))))) (x4 : List (((Int) × ((Int) × ((Int) × ((Int) × ((Int) × (Int)))))) × (Int))) (x5 : List ((Int) × (Int))) (x6 : List (Int)) (x7 : List (Bool)) : Option R :=
  br (decide (x2 < x1))
  (br (inB x2 (List.length x6))
   (br (decide ((Int.toNat x2) < (List.length x6)))
    (c0 x3 x4 x5 ((List.getD x6 (Int.toNat x2) (0 : Int)) :: ([] : List ((Sh.int IntKind.i64).T)))
     (fun b692 l693 l694 l695 l696 => br b692
      (br (inB (List.getD x6 (Int.toNat x2) (0 : Int)) (List.length x7))
       (br (decide ((Int.toNat (List.getD x6 (Int.toNat x2) (0 : Int))) < (List.length x7)))
        (nx x0 x1 (IntKind.wrap .i64 (x2 + (1 : Int))) l693 l694 l695 x6 (List.set x7 (Int.toNat (List.getD x6 (Int.toNat x2) (0 : Int))) true))
        (none))
       (none))
      (nx x0 x1 (IntKind.wrap .i64 (x2 + (1 : Int))) l693 l694 l695 x6 x7)))
    (none))
   (none))
  (k0 x0 x3 x4 x5 x6 x7)
noncomputable def term_Arena_Under_2549_l2_T0 (N : Nat) (c0 : term_Arena_there_2549_Ty) (w3 : term_Arena_Under_2549_l3_Ty) {R : Type} (nx : (Int) → (Int) → (List ((Int) × ((Int) × ((Int) × ((Int) × ((Int) × (Int))))))) → (List (((Int) × ((Int) × ((Int) × ((Int) × ((Int) × (Int)))))) × (Int))) → (List ((Int) × (Int))) → (List (Int)) → (List (Bool)) → Option R) (k0 : (Int) → (List ((Int) × ((Int) × ((Int) × ((Int) × ((Int) × (Int))))))) → (List (((Int) × ((Int) × ((Int) × ((Int) × ((Int) × (Int)))))) × (Int))) → (List ((Int) × (Int))) → (List (Int)) → (List (Bool)) → Option R) (x0 : Int) (x1 : Int) (x2 : List ((Int) × ((Int) × ((Int) × ((Int) × ((Int) × (Int))))))) (x3 : List (((Int) × ((Int) × ((Int) × ((Int) × ((Int) × (Int)))))) × (Int))) (x4 : List ((Int) × (Int))) (x5 : List (Int)) (x6 : List (Bool)) : Option R :=
  br (decide ((0 : Int) < x1))
  (br (inB x1 (List.length x6))
   (br (decide ((Int.toNat x1) < (List.length x6)))
    (br (!(List.getD x6 (Int.toNat x1) false))
     (nx x0 (IntKind.wrap .i64 (x1 - (1 : Int))) x2 x3 x4 x5 x6)
     (br (inB (IntKind.wrap .i64 (x1 - (1 : Int))) (List.length x2))
      (br (decide ((Int.toNat (IntKind.wrap .i64 (x1 - (1 : Int)))) < (List.length x2)))
       (br (inB (List.getD x2 (Int.toNat (IntKind.wrap .i64 (x1 - (1 : Int)))) ((0 : Int) , ((0 : Int) , ((0 : Int) , ((0 : Int) , ((0 : Int) , (0 : Int))))))).2.2.2.1 (List.length x6))
        (br (decide ((Int.toNat (List.getD x2 (Int.toNat (IntKind.wrap .i64 (x1 - (1 : Int)))) ((0 : Int) , ((0 : Int) , ((0 : Int) , ((0 : Int) , ((0 : Int) , (0 : Int))))))).2.2.2.1) < (List.length x6)))
         (br (decide ((List.getD x2 (Int.toNat (IntKind.wrap .i64 (x1 - (1 : Int)))) ((0 : Int) , ((0 : Int) , ((0 : Int) , ((0 : Int) , ((0 : Int) , (0 : Int))))))).2.2.2.2.1 = (List.getD x2 (Int.toNat (IntKind.wrap .i64 (x1 - (1 : Int)))) ((0 : Int) , ((0 : Int) , ((0 : Int) , ((0 : Int) , ((0 : Int) , (0 : Int))))))).2.2.2.2.1))
          (br (decide ((List.getD x2 (Int.toNat (IntKind.wrap .i64 (x1 - (1 : Int)))) ((0 : Int) , ((0 : Int) , ((0 : Int) , ((0 : Int) , ((0 : Int) , (0 : Int))))))).2.2.2.2.2 = (List.getD x2 (Int.toNat (IntKind.wrap .i64 (x1 - (1 : Int)))) ((0 : Int) , ((0 : Int) , ((0 : Int) , ((0 : Int) , ((0 : Int) , (0 : Int))))))).2.2.2.2.2))
           (br (inB (List.getD x2 (Int.toNat (IntKind.wrap .i64 (x1 - (1 : Int)))) ((0 : Int) , ((0 : Int) , ((0 : Int) , ((0 : Int) , ((0 : Int) , (0 : Int))))))).2.2.2.2.1 (List.length x6))
            (br (decide ((Int.toNat (List.getD x2 (Int.toNat (IntKind.wrap .i64 (x1 - (1 : Int)))) ((0 : Int) , ((0 : Int) , ((0 : Int) , ((0 : Int) , ((0 : Int) , (0 : Int))))))).2.2.2.2.1) < (List.length x6)))
             (br (decide ((List.getD x2 (Int.toNat (IntKind.wrap .i64 (x1 - (1 : Int)))) ((0 : Int) , ((0 : Int) , ((0 : Int) , ((0 : Int) , ((0 : Int) , (0 : Int))))))).2.2.2.2.2 = (List.getD x2 (Int.toNat (IntKind.wrap .i64 (x1 - (1 : Int)))) ((0 : Int) , ((0 : Int) , ((0 : Int) , ((0 : Int) , ((0 : Int) , (0 : Int))))))).2.2.2.2.2))
              (br (inB (List.getD x2 (Int.toNat (IntKind.wrap .i64 (x1 - (1 : Int)))) ((0 : Int) , ((0 : Int) , ((0 : Int) , ((0 : Int) , ((0 : Int) , (0 : Int))))))).2.2.2.2.2 (List.length x6))
               (br (decide ((Int.toNat (List.getD x2 (Int.toNat (IntKind.wrap .i64 (x1 - (1 : Int)))) ((0 : Int) , ((0 : Int) , ((0 : Int) , ((0 : Int) , ((0 : Int) , (0 : Int))))))).2.2.2.2.2) < (List.length x6)))
                (nx (IntKind.wrap .i64 (x0 + (1 : Int))) (IntKind.wrap .i64 (x1 - (1 : Int))) x2 x3 x4 x5 (List.set (List.set (List.set x6 (Int.toNat (List.getD x2 (Int.toNat (IntKind.wrap .i64 (x1 - (1 : Int)))) ((0 : Int) , ((0 : Int) , ((0 : Int) , ((0 : Int) , ((0 : Int) , (0 : Int))))))).2.2.2.1) true) (Int.toNat (List.getD x2 (Int.toNat (IntKind.wrap .i64 (x1 - (1 : Int)))) ((0 : Int) , ((0 : Int) , ((0 : Int) , ((0 : Int) , ((0 : Int) , (0 : Int))))))).2.2.2.2.1) true) (Int.toNat (List.getD x2 (Int.toNat (IntKind.wrap .i64 (x1 - (1 : Int)))) ((0 : Int) , ((0 : Int) , ((0 : Int) , ((0 : Int) , ((0 : Int) , (0 : Int))))))).2.2.2.2.2) true))
                (none))
               (none))
              (none))
             (none))
            (none))
           (none))
          (none))
         (none))
        (none))
       (none))
      (none)))
    (none))
   (none))
  (k0 x0 x2 x3 x4 x5 x6)
noncomputable def term_Arena_Under_2549_l3_T0 (N : Nat) (c0 : term_Arena_there_2549_Ty) {R : Type} (nx : (Int) → (Int) → (List ((Int) × ((Int) × ((Int) × ((Int) × ((Int) × (Int))))))) → (List (((Int) × ((Int) × ((Int) × ((Int) × ((Int) × (Int)))))) × (Int))) → (List ((Int) × (Int))) → (List (Int)) → (List (Bool)) → (List (Int)) → Option R) (k0 : (List ((Int) × ((Int) × ((Int) × ((Int) × ((Int) × (Int))))))) → (List (((Int) × ((Int) × ((Int) × ((Int) × ((Int) × (Int)))))) × (Int))) → (List ((Int) × (Int))) → (List (Int)) → (List (Int)) → Option R) (x0 : Int) (x1 : Int) (x2 : List ((Int) × ((Int) × ((Int) × ((Int) × ((Int) × (Int))))))) (x3 : List (((Int) × ((Int) × ((Int) × ((Int) × ((Int) × (Int)))))) × (Int))) (x4 : List ((Int) × (Int))) (x5 : List (Int)) (x6 : List (Bool)) (x7 : List (Int)) : Option R :=
  br (decide (x1 < x0))
  (br (decide ((0 : Int) < x1))
   (br (inB x1 (List.length x6))
    (br (decide ((Int.toNat x1) < (List.length x6)))
     (br (List.getD x6 (Int.toNat x1) false)
      (br (((fits (0 : Nat) (List.length x7) x7) && (decide ((((List.length x7) + (1 : Nat)) * (8 : Nat)) ≤ (70368744177664 : Nat)))) && true)
       (nx x0 (IntKind.wrap .i64 (x1 + (1 : Int))) x2 x3 x4 x5 x6 ((sub x7 (0 : Nat) (List.length x7)) ++ (x1 :: ([] : List ((Sh.int IntKind.i64).T)))))
       (none))
      (nx x0 (IntKind.wrap .i64 (x1 + (1 : Int))) x2 x3 x4 x5 x6 x7))
     (none))
    (none))
   (nx x0 (IntKind.wrap .i64 (x1 + (1 : Int))) x2 x3 x4 x5 x6 x7))
  (k0 x2 x3 x4 x5 x7)
noncomputable def term_Arena_Under_2549_l3 (N : Nat) {R : Type} (k0 : (List ((Int) × ((Int) × ((Int) × ((Int) × ((Int) × (Int))))))) → (List (((Int) × ((Int) × ((Int) × ((Int) × ((Int) × (Int)))))) × (Int))) → (List ((Int) × (Int))) → (List (Int)) → (List (Int)) → Option R) : Nat → (Int) → (Int) → (List ((Int) × ((Int) × ((Int) × ((Int) × ((Int) × (Int))))))) → (List (((Int) × ((Int) × ((Int) × ((Int) × ((Int) × (Int)))))) × (Int))) → (List ((Int) × (Int))) → (List (Int)) → (List (Bool)) → (List (Int)) → Option R
  | 0, _, _, _, _, _, _, _, _ => none
  | n + 1, x0, x1, x2, x3, x4, x5, x6, x7 => term_Arena_Under_2549_l3_T0 N (@term_Arena_there_2549 N) (fun x0 x1 x2 x3 x4 x5 x6 x7 => term_Arena_Under_2549_l3 N k0 n x0 x1 x2 x3 x4 x5 x6 x7) k0 x0 x1 x2 x3 x4 x5 x6 x7
noncomputable def term_Arena_Under_2549_l2 (N : Nat) {R : Type} (k0 : (Int) → (List ((Int) × ((Int) × ((Int) × ((Int) × ((Int) × (Int))))))) → (List (((Int) × ((Int) × ((Int) × ((Int) × ((Int) × (Int)))))) × (Int))) → (List ((Int) × (Int))) → (List (Int)) → (List (Bool)) → Option R) : Nat → (Int) → (Int) → (List ((Int) × ((Int) × ((Int) × ((Int) × ((Int) × (Int))))))) → (List (((Int) × ((Int) × ((Int) × ((Int) × ((Int) × (Int)))))) × (Int))) → (List ((Int) × (Int))) → (List (Int)) → (List (Bool)) → Option R
  | 0, _, _, _, _, _, _, _ => none
  | n + 1, x0, x1, x2, x3, x4, x5, x6 => term_Arena_Under_2549_l2_T0 N (@term_Arena_there_2549 N) (@term_Arena_Under_2549_l3 N) (fun x0 x1 x2 x3 x4 x5 x6 => term_Arena_Under_2549_l2 N k0 n x0 x1 x2 x3 x4 x5 x6) k0 x0 x1 x2 x3 x4 x5 x6
noncomputable def term_Arena_Under_2549_l1 (N : Nat) {R : Type} (k0 : (Int) → (List ((Int) × ((Int) × ((Int) × ((Int) × ((Int) × (Int))))))) → (List (((Int) × ((Int) × ((Int) × ((Int) × ((Int) × (Int)))))) × (Int))) → (List ((Int) × (Int))) → (List (Int)) → (List (Bool)) → Option R) : Nat → (Int) → (Int) → (Int) → (List ((Int) × ((Int) × ((Int) × ((Int) × ((Int) × (Int))))))) → (List (((Int) × ((Int) × ((Int) × ((Int) × ((Int) × (Int)))))) × (Int))) → (List ((Int) × (Int))) → (List (Int)) → (List (Bool)) → Option R
  | 0, _, _, _, _, _, _, _, _ => none
  | n + 1, x0, x1, x2, x3, x4, x5, x6, x7 => term_Arena_Under_2549_l1_T0 N (@term_Arena_there_2549 N) (@term_Arena_Under_2549_l2 N) (@term_Arena_Under_2549_l3 N) (fun x0 x1 x2 x3 x4 x5 x6 x7 => term_Arena_Under_2549_l1 N k0 n x0 x1 x2 x3 x4 x5 x6 x7) k0 x0 x1 x2 x3 x4 x5 x6 x7
noncomputable def term_Arena_Under_2549_l0 (N : Nat) {R : Type} (k0 : (Int) → (List ((Int) × ((Int) × ((Int) × ((Int) × ((Int) × (Int))))))) → (List (((Int) × ((Int) × ((Int) × ((Int) × ((Int) × (Int)))))) × (Int))) → (List ((Int) × (Int))) → (List (Int)) → Option R) : Nat → (Int) → (Int) → (Int) → (List ((Int) × ((Int) × ((Int) × ((Int) × ((Int) × (Int))))))) → (List (((Int) × ((Int) × ((Int) × ((Int) × ((Int) × (Int)))))) × (Int))) → (List ((Int) × (Int))) → (List (Int)) → Option R
  | 0, _, _, _, _, _, _, _ => none
  | n + 1, x0, x1, x2, x3, x4, x5, x6 => term_Arena_Under_2549_l0_T0 N (@term_Arena_there_2549 N) (@term_Arena_Under_2549_l1 N) (@term_Arena_Under_2549_l2 N) (@term_Arena_Under_2549_l3 N) (fun x0 x1 x2 x3 x4 x5 x6 => term_Arena_Under_2549_l0 N k0 n x0 x1 x2 x3 x4 x5 x6) k0 x0 x1 x2 x3 x4 x5 x6
noncomputable def term_Arena_Under_2549_T (N : Nat) (c0 : term_Arena_there_2549_Ty) (w0 : term_Arena_Under_2549_l0_Ty) (w1 : term_Arena_Under_2549_l1_Ty) (w2 : term_Arena_Under_2549_l2_Ty) (w3 : term_Arena_Under_2549_l3_Ty) {R : Type} (x0 : List ((Int) × ((Int) × ((Int) × ((Int) × ((Int) × (Int))))))) (x1 : List (((Int) × ((Int) × ((Int) × ((Int) × ((Int) × (Int)))))) × (Int))) (x2 : List ((Int) × (Int))) (x3 : List (Int)) (k0 : (List ((Int) × ((Int) × ((Int) × ((Int) × ((Int) × (Int))))))) → (List (((Int) × ((Int) × ((Int) × ((Int) × ((Int) × (Int)))))) × (Int))) → (List ((Int) × (Int))) → (List (Int)) → (List (Int)) → Option R) : Option R :=
  w0
  (fun i687 l688 l689 l690 l691 => br ((((decide ((0 : Int) ≤ (IntKind.wrap .i64 (i687 + (1 : Int))))) && (decide ((IntKind.wrap .i64 (i687 + (1 : Int))) ≤ (IntKind.wrap .i64 (i687 + (1 : Int)))))) && (decide (((IntKind.wrap .i64 (i687 + (1 : Int))) * (1 : Int)) ≤ ((2 : Int) ^ (46 : Nat))))) && true)
   (w1
    (fun i697 l698 l699 l700 l701 l702 => w2
     (fun i703 l704 l705 l706 l707 l708 => br (((decide ((0 : Int) ≤ i703)) && (decide ((i703 * (8 : Int)) ≤ ((2 : Int) ^ (46 : Nat))))) && true)
      (w3
       (fun l709 l710 l711 l712 l713 => k0 l709 l710 l711 l712 l713)
       N (Nat.cast (List.length l708) : Int) (0 : Int) l704 l705 l706 l707 l708 ([] : List ((Sh.int IntKind.i64).T)))
      (none))
     N (0 : Int) i697 l698 l699 l700 l701 l702)
    N i687 (Nat.cast (List.length l691) : Int) (0 : Int) l688 l689 l690 l691 (List.replicate (Int.toNat (IntKind.wrap .i64 (i687 + (1 : Int)))) false))
   (none))
  N (0 : Int) (Nat.cast (List.length x3) : Int) (0 : Int) x0 x1 x2 x3
noncomputable def term_Arena_Under_2549 (N : Nat) {R : Type} (x0 : List ((Int) × ((Int) × ((Int) × ((Int) × ((Int) × (Int))))))) (x1 : List (((Int) × ((Int) × ((Int) × ((Int) × ((Int) × (Int)))))) × (Int))) (x2 : List ((Int) × (Int))) (x3 : List (Int)) (k0 : (List ((Int) × ((Int) × ((Int) × ((Int) × ((Int) × (Int))))))) → (List (((Int) × ((Int) × ((Int) × ((Int) × ((Int) × (Int)))))) × (Int))) → (List ((Int) × (Int))) → (List (Int)) → (List (Int)) → Option R) : Option R := term_Arena_Under_2549_T N (@term_Arena_there_2549 N) (@term_Arena_Under_2549_l0 N) (@term_Arena_Under_2549_l1 N) (@term_Arena_Under_2549_l2 N) (@term_Arena_Under_2549_l3 N) x0 x1 x2 x3 k0
abbrev term_Arena_Ite_12d2_Ty : Type 1 := {R : Type} → (Int) → (Int) → (Int) → (List ((Int) × ((Int) × ((Int) × ((Int) × ((Int) × (Int))))))) → (List (((Int) × ((Int) × ((Int) × ((Int) × ((Int) × (Int)))))) × (Int))) → (List ((Int) × (Int))) → ((Int) → (Int) → (List (((Int) × ((Int) × ((Int) × ((Int) × ((Int) × (Int)))))) × (Int))) → (List ((Int) × (Int))) → (List ((Int) × ((Int) × ((Int) × ((Int) × ((Int) × (Int))))))) → Option R) → Option R
noncomputable def term_Arena_Ite_12d2_T (N : Nat) (c0 : term_Arena_keep_a25e_Ty) (c1 : term_Arena_Known_43b4_Ty) (c2 : term_Arena_Width_43b4_Ty) (c3 : term_Arena_there_2549_Ty) {R : Type} (x0 : Int) (x1 : Int) (x2 : Int) (x3 : List ((Int) × ((Int) × ((Int) × ((Int) × ((Int) × (Int))))))) (x4 : List (((Int) × ((Int) × ((Int) × ((Int) × ((Int) × (Int)))))) × (Int))) (x5 : List ((Int) × (Int))) (k0 : (Int) → (Int) → (List (((Int) × ((Int) × ((Int) × ((Int) × ((Int) × (Int)))))) × (Int))) → (List ((Int) × (Int))) → (List ((Int) × ((Int) × ((Int) × ((Int) × ((Int) × (Int))))))) → Option R) : Option R :=
  c3 x3 x4 x5 (x0 :: (x1 :: (x2 :: ([] : List ((Sh.int IntKind.i64).T)))))
  (fun b770 l771 l772 l773 l774 => br (!b770)
   (k0 (0 : Int) (1 : Int) l772 l773 l771)
   (c2 x0 l771 l772 l773
    (fun i775 l776 l777 l778 => br (!(!(decide (i775 = (1 : Int)))))
     (c2 x1 l776 l777 l778
      (fun i779 l780 l781 l782 => c2 x2 l780 l781 l782
       (fun i783 l784 l785 l786 => br (!(decide (i779 = i783)))
        (k0 (0 : Int) (2 : Int) l785 l786 l784)
        (c1 x0 l784 l785 l786
         (fun i787 b788 l789 l790 l791 => br (!(decide (x1 = x2)))
          (br b788
           (br (decide (i787 = (1 : Int)))
            (k0 x1 (0 : Int) l790 l791 l789)
            (br b788
             (k0 x2 (0 : Int) l790 l791 l789)
             (c2 x1 l789 l790 l791
              (fun i792 l793 l794 l795 => c0 (16 : Int) i792 (0 : Int) x0 x1 x2 l793 l794 l795
               (fun i796 i797 l798 l799 l800 => k0 i796 i797 l798 l799 l800)))))
           (br b788
            (k0 x2 (0 : Int) l790 l791 l789)
            (c2 x1 l789 l790 l791
             (fun i801 l802 l803 l804 => c0 (16 : Int) i801 (0 : Int) x0 x1 x2 l802 l803 l804
              (fun i805 i806 l807 l808 l809 => k0 i805 i806 l807 l808 l809)))))
          (k0 x1 (0 : Int) l790 l791 l789))))))
     (k0 (0 : Int) (2 : Int) l777 l778 l776))))
noncomputable def term_Arena_Ite_12d2 (N : Nat) {R : Type} (x0 : Int) (x1 : Int) (x2 : Int) (x3 : List ((Int) × ((Int) × ((Int) × ((Int) × ((Int) × (Int))))))) (x4 : List (((Int) × ((Int) × ((Int) × ((Int) × ((Int) × (Int)))))) × (Int))) (x5 : List ((Int) × (Int))) (k0 : (Int) → (Int) → (List (((Int) × ((Int) × ((Int) × ((Int) × ((Int) × (Int)))))) × (Int))) → (List ((Int) × (Int))) → (List ((Int) × ((Int) × ((Int) × ((Int) × ((Int) × (Int))))))) → Option R) : Option R := term_Arena_Ite_12d2_T N (@term_Arena_keep_a25e N) (@term_Arena_Known_43b4 N) (@term_Arena_Width_43b4 N) (@term_Arena_there_2549 N) x0 x1 x2 x3 x4 x5 k0
abbrev slices_Index__int_int_310e_l0_Ty : Type 1 := {R : Type} → ((Int) → (List (Int)) → Option R) → ((List (Int)) → Option R) → Nat → (Int) → (Int) → (Int) → (List (Int)) → Option R
abbrev slices_Index__int_int_310e_Ty : Type 1 := {R : Type} → (Int) → (List (Int)) → ((Int) → (List (Int)) → Option R) → Option R
noncomputable def slices_Index__int_int_310e_l0_T0 (N : Nat) {R : Type} (nx : (Int) → (Int) → (Int) → (List (Int)) → Option R) (k0 : (Int) → (List (Int)) → Option R) (k1 : (List (Int)) → Option R) (x0 : Int) (x1 : Int) (x2 : Int) (x3 : List (Int)) : Option R :=
  br (decide (x2 < x1))
  (br (inB x2 (List.length x3))
   (br (decide ((Int.toNat x2) < (List.length x3)))
    (br (decide (x0 = (List.getD x3 (Int.toNat x2) (0 : Int))))
     (k0 x2 x3)
     (nx x0 x1 (IntKind.wrap .i64 (x2 + (1 : Int))) x3))
    (none))
   (none))
  (k1 x3)
noncomputable def slices_Index__int_int_310e_l0 (N : Nat) {R : Type} (k0 : (Int) → (List (Int)) → Option R) (k1 : (List (Int)) → Option R) : Nat → (Int) → (Int) → (Int) → (List (Int)) → Option R
  | 0, _, _, _, _ => none
  | n + 1, x0, x1, x2, x3 => slices_Index__int_int_310e_l0_T0 N (fun x0 x1 x2 x3 => slices_Index__int_int_310e_l0 N k0 k1 n x0 x1 x2 x3) k0 k1 x0 x1 x2 x3
noncomputable def slices_Index__int_int_310e_T (N : Nat) (w0 : slices_Index__int_int_310e_l0_Ty) {R : Type} (x0 : Int) (x1 : List (Int)) (k0 : (Int) → (List (Int)) → Option R) : Option R :=
  w0
  (fun i943 l944 => k0 i943 l944)
  (fun l945 => k0 (-1 : Int) l945)
  N x0 (Nat.cast (List.length x1) : Int) (0 : Int) x1
noncomputable def slices_Index__int_int_310e (N : Nat) {R : Type} (x0 : Int) (x1 : List (Int)) (k0 : (Int) → (List (Int)) → Option R) : Option R := slices_Index__int_int_310e_T N (@slices_Index__int_int_310e_l0 N) x0 x1 k0
abbrev fix_Size_43b4_Ty : Type 1 := {R : Type} → (Int) → (List ((Int) × ((Int) × ((Int) × ((Int) × ((Int) × (Int))))))) → (List (((Int) × ((Int) × ((Int) × ((Int) × ((Int) × (Int)))))) × (Int))) → (List ((Int) × (Int))) → ((Int) → (List ((Int) × ((Int) × ((Int) × ((Int) × ((Int) × (Int))))))) → (List (((Int) × ((Int) × ((Int) × ((Int) × ((Int) × (Int)))))) × (Int))) → (List ((Int) × (Int))) → Option R) → Option R
noncomputable def fix_Size_43b4_T (N : Nat) (c0 : term_Arena_Under_2549_Ty) (c1 : term_Arena_Node_43b4_Ty) {R : Type} (x0 : Int) (x1 : List ((Int) × ((Int) × ((Int) × ((Int) × ((Int) × (Int))))))) (x2 : List (((Int) × ((Int) × ((Int) × ((Int) × ((Int) × (Int)))))) × (Int))) (x3 : List ((Int) × (Int))) (k0 : (Int) → (List ((Int) × ((Int) × ((Int) × ((Int) × ((Int) × (Int))))))) → (List (((Int) × ((Int) × ((Int) × ((Int) × ((Int) × (Int)))))) × (Int))) → (List ((Int) × (Int))) → Option R) : Option R :=
  c1 x0 x1 x2 x3
  (fun i1099 i1100 i1101 i1102 i1103 i1104 b1105 l1106 l1107 l1108 => br (!b1105)
   (k0 (0 : Int) l1106 l1107 l1108)
   (c0 l1106 l1107 l1108 (x0 :: ([] : List ((Sh.int IntKind.i64).T)))
    (fun l1109 l1110 l1111 l1112 l1113 => k0 (Nat.cast (List.length l1113) : Int) l1109 l1110 l1111)))
noncomputable def fix_Size_43b4 (N : Nat) {R : Type} (x0 : Int) (x1 : List ((Int) × ((Int) × ((Int) × ((Int) × ((Int) × (Int))))))) (x2 : List (((Int) × ((Int) × ((Int) × ((Int) × ((Int) × (Int)))))) × (Int))) (x3 : List ((Int) × (Int))) (k0 : (Int) → (List ((Int) × ((Int) × ((Int) × ((Int) × ((Int) × (Int))))))) → (List (((Int) × ((Int) × ((Int) × ((Int) × ((Int) × (Int)))))) × (Int))) → (List ((Int) × (Int))) → Option R) : Option R := fix_Size_43b4_T N (@term_Arena_Under_2549 N) (@term_Arena_Node_43b4 N) x0 x1 x2 x3 k0
abbrev term_Value_Ty : Type 1 := {R : Type} → (Int) → (Int) → (Int) → (Int) → (Int) → (Int) → (Int) → (Int) → (Int) → (Int) → (List (Int)) → ((Int) → Option R) → Option R
noncomputable def term_Value_T (N : Nat) (c0 : wide_Do_Ty) (c1 : wide_Mask_Ty) {R : Type} (x0 : Int) (x1 : Int) (x2 : Int) (x3 : Int) (x4 : Int) (x5 : Int) (x6 : Int) (x7 : Int) (x8 : Int) (x9 : Int) (x10 : List (Int)) (k0 : (Int) → Option R) : Option R :=
  br (decide (x0 = (1 : Int)))
  (k0 x2)
  (br (decide (x0 = (2 : Int)))
   (br (decide ((IntKind.wrap .i64 x2) < (Nat.cast (List.length x10) : Int)))
    (br (inB x2 (List.length x10))
     (c1 x1
      (fun i1324 => br (listDec (Sh.dec (.int .u16)) x10 x10)
       (br (decide (x2 = x2))
        (br (inB x2 (List.length x10))
         (br (decide (x2 = x2))
          (br (listDec (Sh.dec (.int .u16)) x10 x10)
           (br (decide ((List.getD x10 (Int.toNat x2) (0 : Int)) = (List.getD x10 (Int.toNat x2) (0 : Int))))
            (k0 (band .u16 (List.getD x10 (Int.toNat x2) (0 : Int)) i1324))
            (none))
           (none))
          (none))
         (none))
        (none))
       (none)))
     (none))
    (k0 (0 : Int)))
   (br (decide (x0 = (16 : Int)))
    (br (decide (x7 = (1 : Int)))
     (k0 x8)
     (k0 x9))
    (br (decide (x0 = (17 : Int)))
     (k0 x7)
     (br (decide (x0 = (18 : Int)))
      (c1 x1
       (fun i1325 => k0 (band .u16 x7 i1325)))
      (c0 x0 x6 x7 x8
       (fun i1326 i1327 => k0 i1326))))))
noncomputable def term_Value (N : Nat) {R : Type} (x0 : Int) (x1 : Int) (x2 : Int) (x3 : Int) (x4 : Int) (x5 : Int) (x6 : Int) (x7 : Int) (x8 : Int) (x9 : Int) (x10 : List (Int)) (k0 : (Int) → Option R) : Option R := term_Value_T N (@wide_Do N) (@wide_Mask N) x0 x1 x2 x3 x4 x5 x6 x7 x8 x9 x10 k0
abbrev term_Arena_Two_12d2_Ty : Type 1 := {R : Type} → (Int) → (Int) → (Int) → (List ((Int) × ((Int) × ((Int) × ((Int) × ((Int) × (Int))))))) → (List (((Int) × ((Int) × ((Int) × ((Int) × ((Int) × (Int)))))) × (Int))) → (List ((Int) × (Int))) → ((Int) → (Int) → (List (((Int) × ((Int) × ((Int) × ((Int) × ((Int) × (Int)))))) × (Int))) → (List ((Int) × (Int))) → (List ((Int) × ((Int) × ((Int) × ((Int) × ((Int) × (Int))))))) → Option R) → Option R
abbrev term_Arena_less_12d2_Ty : Type 1 := {R : Type} → (Int) → (Int) → (Int) → (List ((Int) × ((Int) × ((Int) × ((Int) × ((Int) × (Int))))))) → (List (((Int) × ((Int) × ((Int) × ((Int) × ((Int) × (Int)))))) × (Int))) → (List ((Int) × (Int))) → ((Int) → (Int) → (Bool) → (List (((Int) × ((Int) × ((Int) × ((Int) × ((Int) × (Int)))))) × (Int))) → (List ((Int) × (Int))) → (List ((Int) × ((Int) × ((Int) × ((Int) × ((Int) × (Int))))))) → Option R) → Option R
abbrev term_Arena_with_7a2f_Ty : Type 1 := {R : Type} → (Int) → (Int) → (Int) → (List ((Int) × ((Int) × ((Int) × ((Int) × ((Int) × (Int))))))) → (List (((Int) × ((Int) × ((Int) × ((Int) × ((Int) × (Int)))))) × (Int))) → (List ((Int) × (Int))) → ((Int) → (Int) → (Bool) → (List (((Int) × ((Int) × ((Int) × ((Int) × ((Int) × (Int)))))) × (Int))) → (List ((Int) × (Int))) → (List ((Int) × ((Int) × ((Int) × ((Int) × ((Int) × (Int))))))) → Option R) → Option R
abbrev term_Arena_equal_2c81_Ty : Type 1 := {R : Type} → (Int) → (Int) → (List ((Int) × ((Int) × ((Int) × ((Int) × ((Int) × (Int))))))) → (List (((Int) × ((Int) × ((Int) × ((Int) × ((Int) × (Int)))))) × (Int))) → (List ((Int) × (Int))) → ((Int) → (Int) → (Bool) → (List (((Int) × ((Int) × ((Int) × ((Int) × ((Int) × (Int)))))) × (Int))) → (List ((Int) × (Int))) → (List ((Int) × ((Int) × ((Int) × ((Int) × ((Int) × (Int))))))) → Option R) → Option R
noncomputable def term_Arena_Two_12d2_T (N : Nat) (c0 : term_Arena_keep_a25e_Ty) (c1 : term_Arena_less_12d2_Ty) (c2 : term_turns_Ty) (c3 : term_Arena_Const_2c81_Ty) (c4 : wide_Out_Ty) (c5 : wide_Do_Ty) (c6 : term_Arena_Known_43b4_Ty) (c7 : term_Arena_Width_43b4_Ty) (c8 : term_Arena_there_2549_Ty) (c9 : term_two_Ty) {R : Type} (x0 : Int) (x1 : Int) (x2 : Int) (x3 : List ((Int) × ((Int) × ((Int) × ((Int) × ((Int) × (Int))))))) (x4 : List (((Int) × ((Int) × ((Int) × ((Int) × ((Int) × (Int)))))) × (Int))) (x5 : List ((Int) × (Int))) (k0 : (Int) → (Int) → (List (((Int) × ((Int) × ((Int) × ((Int) × ((Int) × (Int)))))) × (Int))) → (List ((Int) × (Int))) → (List ((Int) × ((Int) × ((Int) × ((Int) × ((Int) × (Int))))))) → Option R) : Option R :=
  c9 x0
  (fun b135 => br (!b135)
   (k0 (0 : Int) (5 : Int) x4 x5 x3)
   (c8 x3 x4 x5 (x1 :: (x2 :: ([] : List ((Sh.int IntKind.i64).T))))
    (fun b136 l137 l138 l139 l140 => br (!b136)
     (k0 (0 : Int) (1 : Int) l138 l139 l137)
     (c7 x1 l137 l138 l139
      (fun i141 l142 l143 l144 => c7 x2 l142 l143 l144
       (fun i145 l146 l147 l148 => br (!(decide (i141 = i145)))
        (k0 (0 : Int) (2 : Int) l147 l148 l146)
        (c6 x1 l146 l147 l148
         (fun i149 b150 l151 l152 l153 => c6 x2 l151 l152 l153
          (fun i154 b155 l156 l157 l158 => br b150
           (br b155
            (c7 x1 l156 l157 l158
             (fun i159 l160 l161 l162 => c5 x0 i159 i149 i154
              (fun i163 i164 => c7 x1 l160 l161 l162
               (fun i165 l166 l167 l168 => c4 x0 i165
                (fun i169 => c3 i169 i163 l166 l167 l168
                 (fun i170 i171 l172 l173 l174 => k0 i170 i171 l172 l173 l174))))))
            (c2 x0
             (fun b175 => br b175
              (br (decide (x2 < x1))
               (c1 x0 x2 x1 l156 l157 l158
                (fun i570 i571 b572 l573 l574 l575 => br b572
                 (k0 i570 i571 l573 l574 l575)
                 (c7 x2 l575 l573 l574
                  (fun i576 l577 l578 l579 => c4 x0 i576
                   (fun i580 => c0 x0 i580 (0 : Int) x2 x1 (0 : Int) l577 l578 l579
                    (fun i581 i582 l583 l584 l585 => k0 i581 i582 l583 l584 l585))))))
               (c1 x0 x1 x2 l156 l157 l158
                (fun i586 i587 b588 l589 l590 l591 => br b588
                 (k0 i586 i587 l589 l590 l591)
                 (c7 x1 l591 l589 l590
                  (fun i592 l593 l594 l595 => c4 x0 i592
                   (fun i596 => c0 x0 i596 (0 : Int) x1 x2 (0 : Int) l593 l594 l595
                    (fun i597 i598 l599 l600 l601 => k0 i597 i598 l599 l600 l601)))))))
              (c1 x0 x1 x2 l156 l157 l158
               (fun i602 i603 b604 l605 l606 l607 => br b604
                (k0 i602 i603 l605 l606 l607)
                (c7 x1 l607 l605 l606
                 (fun i608 l609 l610 l611 => c4 x0 i608
                  (fun i612 => c0 x0 i612 (0 : Int) x1 x2 (0 : Int) l609 l610 l611
                   (fun i613 i614 l615 l616 l617 => k0 i613 i614 l615 l616 l617)))))))))
           (c2 x0
            (fun b618 => br b618
             (br (decide (x2 < x1))
              (c1 x0 x2 x1 l156 l157 l158
               (fun i619 i620 b621 l622 l623 l624 => br b621
                (k0 i619 i620 l622 l623 l624)
                (c7 x2 l624 l622 l623
                 (fun i625 l626 l627 l628 => c4 x0 i625
                  (fun i629 => c0 x0 i629 (0 : Int) x2 x1 (0 : Int) l626 l627 l628
                   (fun i630 i631 l632 l633 l634 => k0 i630 i631 l632 l633 l634))))))
              (c1 x0 x1 x2 l156 l157 l158
               (fun i635 i636 b637 l638 l639 l640 => br b637
                (k0 i635 i636 l638 l639 l640)
                (c7 x1 l640 l638 l639
                 (fun i641 l642 l643 l644 => c4 x0 i641
                  (fun i645 => c0 x0 i645 (0 : Int) x1 x2 (0 : Int) l642 l643 l644
                   (fun i646 i647 l648 l649 l650 => k0 i646 i647 l648 l649 l650)))))))
             (c1 x0 x1 x2 l156 l157 l158
              (fun i651 i652 b653 l654 l655 l656 => br b653
               (k0 i651 i652 l654 l655 l656)
               (c7 x1 l656 l654 l655
                (fun i657 l658 l659 l660 => c4 x0 i657
                 (fun i661 => c0 x0 i661 (0 : Int) x1 x2 (0 : Int) l658 l659 l660
                  (fun i662 i663 l664 l665 l666 => k0 i662 i663 l664 l665 l666)))))))))))))))))
noncomputable def term_Arena_less_12d2_T (N : Nat) (c0 : term_Arena_with_7a2f_Ty) (c1 : term_turns_Ty) (c2 : term_Arena_Known_43b4_Ty) (c3 : term_Arena_alike_99d8_Ty) {R : Type} (x0 : Int) (x1 : Int) (x2 : Int) (x3 : List ((Int) × ((Int) × ((Int) × ((Int) × ((Int) × (Int))))))) (x4 : List (((Int) × ((Int) × ((Int) × ((Int) × ((Int) × (Int)))))) × (Int))) (x5 : List ((Int) × (Int))) (k0 : (Int) → (Int) → (Bool) → (List (((Int) × ((Int) × ((Int) × ((Int) × ((Int) × (Int)))))) × (Int))) → (List ((Int) × (Int))) → (List ((Int) × ((Int) × ((Int) × ((Int) × ((Int) × (Int))))))) → Option R) : Option R :=
  br (decide (x1 = x2))
  (c3 x0 x1 x3 x4 x5
   (fun i530 i531 b532 l533 l534 l535 => k0 i530 i531 b532 l533 l534 l535))
  (c2 x1 x3 x4 x5
   (fun i536 b537 l538 l539 l540 => br b537
    (c1 x0
     (fun b541 => br b541
      (c0 x0 x2 i536 l538 l539 l540
       (fun i542 i543 b544 l545 l546 l547 => k0 i542 i543 b544 l545 l546 l547))
      (c2 x2 l538 l539 l540
       (fun i548 b549 l550 l551 l552 => br b549
        (c0 x0 x1 i548 l550 l551 l552
         (fun i553 i554 b555 l556 l557 l558 => k0 i553 i554 b555 l556 l557 l558))
        (k0 (0 : Int) (0 : Int) false l551 l552 l550)))))
    (c2 x2 l538 l539 l540
     (fun i559 b560 l561 l562 l563 => br b560
      (c0 x0 x1 i559 l561 l562 l563
       (fun i564 i565 b566 l567 l568 l569 => k0 i564 i565 b566 l567 l568 l569))
      (k0 (0 : Int) (0 : Int) false l562 l563 l561)))))
noncomputable def term_Arena_with_7a2f_T (N : Nat) (c0 : term_Arena_equal_2c81_Ty) (c1 : wide_Mask_Ty) (c2 : term_Arena_Const_2c81_Ty) (c3 : wide_Out_Ty) (c4 : term_Arena_Width_43b4_Ty) {R : Type} (x0 : Int) (x1 : Int) (x2 : Int) (x3 : List ((Int) × ((Int) × ((Int) × ((Int) × ((Int) × (Int))))))) (x4 : List (((Int) × ((Int) × ((Int) × ((Int) × ((Int) × (Int)))))) × (Int))) (x5 : List ((Int) × (Int))) (k0 : (Int) → (Int) → (Bool) → (List (((Int) × ((Int) × ((Int) × ((Int) × ((Int) × (Int)))))) × (Int))) → (List ((Int) × (Int))) → (List ((Int) × ((Int) × ((Int) × ((Int) × ((Int) × (Int))))))) → Option R) : Option R :=
  c4 x1 x3 x4 x5
  (fun i235 l236 l237 l238 => br (decide (x2 = (0 : Int)))
   (br (!(decide (x0 = (4 : Int))))
    (br (!(decide (x0 = (9 : Int))))
     (br (decide (x0 = (15 : Int)))
      (c3 x0 i235
       (fun i239 => c2 i239 (0 : Int) l236 l237 l238
        (fun i240 i241 l242 l243 l244 => k0 i240 i241 true l242 l243 l244)))
      (br (decide (x2 = (0 : Int)))
       (br (!(decide (x0 = (5 : Int))))
        (br (!(decide (x0 = (6 : Int))))
         (br (!(decide (x0 = (7 : Int))))
          (br (!(decide (x0 = (8 : Int))))
           (br (!(decide (x0 = (12 : Int))))
            (br (!(decide (x0 = (13 : Int))))
             (br (decide (x0 = (11 : Int)))
              (k0 x1 (0 : Int) true l237 l238 l236)
              (c1 i235
               (fun i245 => br (decide (x2 = i245))
                (br (!(decide (x0 = (4 : Int))))
                 (br (decide (x2 = (1 : Int)))
                  (br (!(decide (x0 = (9 : Int))))
                   (br (decide (x0 = (10 : Int)))
                    (k0 x1 (0 : Int) true l237 l238 l236)
                    (br (decide (x0 = (14 : Int)))
                     (c0 x1 x2 l236 l237 l238
                      (fun i402 i403 b404 l405 l406 l407 => k0 i402 i403 b404 l405 l406 l407))
                     (k0 (0 : Int) (0 : Int) false l237 l238 l236)))
                   (k0 x1 (0 : Int) true l237 l238 l236))
                  (br (decide (x0 = (14 : Int)))
                   (c0 x1 x2 l236 l237 l238
                    (fun i408 i409 b410 l411 l412 l413 => k0 i408 i409 b410 l411 l412 l413))
                   (k0 (0 : Int) (0 : Int) false l237 l238 l236)))
                 (k0 x1 (0 : Int) true l237 l238 l236))
                (br (decide (x2 = (1 : Int)))
                 (br (!(decide (x0 = (9 : Int))))
                  (br (decide (x0 = (10 : Int)))
                   (k0 x1 (0 : Int) true l237 l238 l236)
                   (br (decide (x0 = (14 : Int)))
                    (c0 x1 x2 l236 l237 l238
                     (fun i414 i415 b416 l417 l418 l419 => k0 i414 i415 b416 l417 l418 l419))
                    (k0 (0 : Int) (0 : Int) false l237 l238 l236)))
                  (k0 x1 (0 : Int) true l237 l238 l236))
                 (br (decide (x0 = (14 : Int)))
                  (c0 x1 x2 l236 l237 l238
                   (fun i420 i421 b422 l423 l424 l425 => k0 i420 i421 b422 l423 l424 l425))
                  (k0 (0 : Int) (0 : Int) false l237 l238 l236))))))
             (k0 x1 (0 : Int) true l237 l238 l236))
            (k0 x1 (0 : Int) true l237 l238 l236))
           (k0 x1 (0 : Int) true l237 l238 l236))
          (k0 x1 (0 : Int) true l237 l238 l236))
         (k0 x1 (0 : Int) true l237 l238 l236))
        (k0 x1 (0 : Int) true l237 l238 l236))
       (c1 i235
        (fun i426 => br (decide (x2 = i426))
         (br (!(decide (x0 = (4 : Int))))
          (br (decide (x2 = (1 : Int)))
           (br (!(decide (x0 = (9 : Int))))
            (br (decide (x0 = (10 : Int)))
             (k0 x1 (0 : Int) true l237 l238 l236)
             (br (decide (x0 = (14 : Int)))
              (c0 x1 x2 l236 l237 l238
               (fun i427 i428 b429 l430 l431 l432 => k0 i427 i428 b429 l430 l431 l432))
              (k0 (0 : Int) (0 : Int) false l237 l238 l236)))
            (k0 x1 (0 : Int) true l237 l238 l236))
           (br (decide (x0 = (14 : Int)))
            (c0 x1 x2 l236 l237 l238
             (fun i433 i434 b435 l436 l437 l438 => k0 i433 i434 b435 l436 l437 l438))
            (k0 (0 : Int) (0 : Int) false l237 l238 l236)))
          (k0 x1 (0 : Int) true l237 l238 l236))
         (br (decide (x2 = (1 : Int)))
          (br (!(decide (x0 = (9 : Int))))
           (br (decide (x0 = (10 : Int)))
            (k0 x1 (0 : Int) true l237 l238 l236)
            (br (decide (x0 = (14 : Int)))
             (c0 x1 x2 l236 l237 l238
              (fun i439 i440 b441 l442 l443 l444 => k0 i439 i440 b441 l442 l443 l444))
             (k0 (0 : Int) (0 : Int) false l237 l238 l236)))
           (k0 x1 (0 : Int) true l237 l238 l236))
          (br (decide (x0 = (14 : Int)))
           (c0 x1 x2 l236 l237 l238
            (fun i445 i446 b447 l448 l449 l450 => k0 i445 i446 b447 l448 l449 l450))
           (k0 (0 : Int) (0 : Int) false l237 l238 l236)))))))
     (c3 x0 i235
      (fun i451 => c2 i451 (0 : Int) l236 l237 l238
       (fun i452 i453 l454 l455 l456 => k0 i452 i453 true l454 l455 l456))))
    (c3 x0 i235
     (fun i457 => c2 i457 (0 : Int) l236 l237 l238
      (fun i458 i459 l460 l461 l462 => k0 i458 i459 true l460 l461 l462))))
   (br (decide (x2 = (0 : Int)))
    (br (!(decide (x0 = (5 : Int))))
     (br (!(decide (x0 = (6 : Int))))
      (br (!(decide (x0 = (7 : Int))))
       (br (!(decide (x0 = (8 : Int))))
        (br (!(decide (x0 = (12 : Int))))
         (br (!(decide (x0 = (13 : Int))))
          (br (decide (x0 = (11 : Int)))
           (k0 x1 (0 : Int) true l237 l238 l236)
           (c1 i235
            (fun i463 => br (decide (x2 = i463))
             (br (!(decide (x0 = (4 : Int))))
              (br (decide (x2 = (1 : Int)))
               (br (!(decide (x0 = (9 : Int))))
                (br (decide (x0 = (10 : Int)))
                 (k0 x1 (0 : Int) true l237 l238 l236)
                 (br (decide (x0 = (14 : Int)))
                  (c0 x1 x2 l236 l237 l238
                   (fun i464 i465 b466 l467 l468 l469 => k0 i464 i465 b466 l467 l468 l469))
                  (k0 (0 : Int) (0 : Int) false l237 l238 l236)))
                (k0 x1 (0 : Int) true l237 l238 l236))
               (br (decide (x0 = (14 : Int)))
                (c0 x1 x2 l236 l237 l238
                 (fun i470 i471 b472 l473 l474 l475 => k0 i470 i471 b472 l473 l474 l475))
                (k0 (0 : Int) (0 : Int) false l237 l238 l236)))
              (k0 x1 (0 : Int) true l237 l238 l236))
             (br (decide (x2 = (1 : Int)))
              (br (!(decide (x0 = (9 : Int))))
               (br (decide (x0 = (10 : Int)))
                (k0 x1 (0 : Int) true l237 l238 l236)
                (br (decide (x0 = (14 : Int)))
                 (c0 x1 x2 l236 l237 l238
                  (fun i476 i477 b478 l479 l480 l481 => k0 i476 i477 b478 l479 l480 l481))
                 (k0 (0 : Int) (0 : Int) false l237 l238 l236)))
               (k0 x1 (0 : Int) true l237 l238 l236))
              (br (decide (x0 = (14 : Int)))
               (c0 x1 x2 l236 l237 l238
                (fun i482 i483 b484 l485 l486 l487 => k0 i482 i483 b484 l485 l486 l487))
               (k0 (0 : Int) (0 : Int) false l237 l238 l236))))))
          (k0 x1 (0 : Int) true l237 l238 l236))
         (k0 x1 (0 : Int) true l237 l238 l236))
        (k0 x1 (0 : Int) true l237 l238 l236))
       (k0 x1 (0 : Int) true l237 l238 l236))
      (k0 x1 (0 : Int) true l237 l238 l236))
     (k0 x1 (0 : Int) true l237 l238 l236))
    (c1 i235
     (fun i488 => br (decide (x2 = i488))
      (br (!(decide (x0 = (4 : Int))))
       (br (decide (x2 = (1 : Int)))
        (br (!(decide (x0 = (9 : Int))))
         (br (decide (x0 = (10 : Int)))
          (k0 x1 (0 : Int) true l237 l238 l236)
          (br (decide (x0 = (14 : Int)))
           (c0 x1 x2 l236 l237 l238
            (fun i489 i490 b491 l492 l493 l494 => k0 i489 i490 b491 l492 l493 l494))
           (k0 (0 : Int) (0 : Int) false l237 l238 l236)))
         (k0 x1 (0 : Int) true l237 l238 l236))
        (br (decide (x0 = (14 : Int)))
         (c0 x1 x2 l236 l237 l238
          (fun i495 i496 b497 l498 l499 l500 => k0 i495 i496 b497 l498 l499 l500))
         (k0 (0 : Int) (0 : Int) false l237 l238 l236)))
       (k0 x1 (0 : Int) true l237 l238 l236))
      (br (decide (x2 = (1 : Int)))
       (br (!(decide (x0 = (9 : Int))))
        (br (decide (x0 = (10 : Int)))
         (k0 x1 (0 : Int) true l237 l238 l236)
         (br (decide (x0 = (14 : Int)))
          (c0 x1 x2 l236 l237 l238
           (fun i501 i502 b503 l504 l505 l506 => k0 i501 i502 b503 l504 l505 l506))
          (k0 (0 : Int) (0 : Int) false l237 l238 l236)))
        (k0 x1 (0 : Int) true l237 l238 l236))
       (br (decide (x0 = (14 : Int)))
        (c0 x1 x2 l236 l237 l238
         (fun i507 i508 b509 l510 l511 l512 => k0 i507 i508 b509 l510 l511 l512))
        (k0 (0 : Int) (0 : Int) false l237 l238 l236)))))))
noncomputable def term_Arena_equal_2c81_T (N : Nat) (c0 : term_Arena_Two_12d2_Ty) (c1 : term_Arena_Const_2c81_Ty) (c2 : wide_Mask_Ty) (c3 : term_Arena_Width_43b4_Ty) (c4 : term_Arena_Not_43b4_Ty) (c5 : term_Arena_Node_43b4_Ty) {R : Type} (x0 : Int) (x1 : Int) (x2 : List ((Int) × ((Int) × ((Int) × ((Int) × ((Int) × (Int))))))) (x3 : List (((Int) × ((Int) × ((Int) × ((Int) × ((Int) × (Int)))))) × (Int))) (x4 : List ((Int) × (Int))) (k0 : (Int) → (Int) → (Bool) → (List (((Int) × ((Int) × ((Int) × ((Int) × ((Int) × (Int)))))) × (Int))) → (List ((Int) × (Int))) → (List ((Int) × ((Int) × ((Int) × ((Int) × ((Int) × (Int))))))) → Option R) : Option R :=
  c5 x0 x2 x3 x4
  (fun i306 i307 i308 i309 i310 i311 b312 l313 l314 l315 => br (decide (i307 = (1 : Int)))
   (br (decide (x1 = (1 : Int)))
    (k0 x0 (0 : Int) true l314 l315 l313)
    (br (decide (i307 = (1 : Int)))
     (c4 x0 l313 l314 l315
      (fun i316 i317 l318 l319 l320 => k0 i316 i317 true l318 l319 l320))
     (br (decide (i306 = (17 : Int)))
      (c3 i309 l313 l314 l315
       (fun i321 l322 l323 l324 => c2 i321
        (fun i325 => br (decide (i325 < x1))
         (c1 (1 : Int) (0 : Int) l322 l323 l324
          (fun i326 i327 l328 l329 l330 => k0 i326 i327 true l328 l329 l330))
         (br (decide (i306 = (17 : Int)))
          (c3 i309 l322 l323 l324
           (fun i331 l332 l333 l334 => c1 i331 x1 l332 l333 l334
            (fun i335 i336 l337 l338 l339 => br (!(decide (i336 = (0 : Int))))
             (k0 (0 : Int) i336 true l337 l338 l339)
             (c0 (14 : Int) i309 i335 l339 l337 l338
              (fun i340 i341 l342 l343 l344 => k0 i340 i341 true l342 l343 l344)))))
          (k0 (0 : Int) (0 : Int) false l323 l324 l322)))))
      (br (decide (i306 = (17 : Int)))
       (c3 i309 l313 l314 l315
        (fun i345 l346 l347 l348 => c1 i345 x1 l346 l347 l348
         (fun i349 i350 l351 l352 l353 => br (!(decide (i350 = (0 : Int))))
          (k0 (0 : Int) i350 true l351 l352 l353)
          (c0 (14 : Int) i309 i349 l353 l351 l352
           (fun i354 i355 l356 l357 l358 => k0 i354 i355 true l356 l357 l358)))))
       (k0 (0 : Int) (0 : Int) false l314 l315 l313)))))
   (br (decide (i307 = (1 : Int)))
    (c4 x0 l313 l314 l315
     (fun i359 i360 l361 l362 l363 => k0 i359 i360 true l361 l362 l363))
    (br (decide (i306 = (17 : Int)))
     (c3 i309 l313 l314 l315
      (fun i364 l365 l366 l367 => c2 i364
       (fun i368 => br (decide (i368 < x1))
        (c1 (1 : Int) (0 : Int) l365 l366 l367
         (fun i369 i370 l371 l372 l373 => k0 i369 i370 true l371 l372 l373))
        (br (decide (i306 = (17 : Int)))
         (c3 i309 l365 l366 l367
          (fun i374 l375 l376 l377 => c1 i374 x1 l375 l376 l377
           (fun i378 i379 l380 l381 l382 => br (!(decide (i379 = (0 : Int))))
            (k0 (0 : Int) i379 true l380 l381 l382)
            (c0 (14 : Int) i309 i378 l382 l380 l381
             (fun i383 i384 l385 l386 l387 => k0 i383 i384 true l385 l386 l387)))))
         (k0 (0 : Int) (0 : Int) false l366 l367 l365)))))
     (br (decide (i306 = (17 : Int)))
      (c3 i309 l313 l314 l315
       (fun i388 l389 l390 l391 => c1 i388 x1 l389 l390 l391
        (fun i392 i393 l394 l395 l396 => br (!(decide (i393 = (0 : Int))))
         (k0 (0 : Int) i393 true l394 l395 l396)
         (c0 (14 : Int) i309 i392 l396 l394 l395
          (fun i397 i398 l399 l400 l401 => k0 i397 i398 true l399 l400 l401)))))
      (k0 (0 : Int) (0 : Int) false l314 l315 l313)))))
structure G_term_Arena_Two_Rec : Type 1 where
  term_Arena_Two_12d2 : term_Arena_Two_12d2_Ty
  term_Arena_less_12d2 : term_Arena_less_12d2_Ty
  term_Arena_with_7a2f : term_Arena_with_7a2f_Ty
  term_Arena_equal_2c81 : term_Arena_equal_2c81_Ty
noncomputable def G_term_Arena_Two_rec (N : Nat) : Nat → G_term_Arena_Two_Rec
  | 0 => ⟨fun {R} _ _ _ _ _ _ _ => none, fun {R} _ _ _ _ _ _ _ => none, fun {R} _ _ _ _ _ _ _ => none, fun {R} _ _ _ _ _ _ => none⟩
  | n + 1 => ⟨fun {R} x0 x1 x2 x3 x4 x5 k0 => term_Arena_Two_12d2_T N (@term_Arena_keep_a25e N) (@G_term_Arena_Two_Rec.term_Arena_less_12d2 (G_term_Arena_Two_rec N n)) (@term_turns N) (@term_Arena_Const_2c81 N) (@wide_Out N) (@wide_Do N) (@term_Arena_Known_43b4 N) (@term_Arena_Width_43b4 N) (@term_Arena_there_2549 N) (@term_two N) x0 x1 x2 x3 x4 x5 k0,
    fun {R} x0 x1 x2 x3 x4 x5 k0 => term_Arena_less_12d2_T N (@G_term_Arena_Two_Rec.term_Arena_with_7a2f (G_term_Arena_Two_rec N n)) (@term_turns N) (@term_Arena_Known_43b4 N) (@term_Arena_alike_99d8 N) x0 x1 x2 x3 x4 x5 k0,
    fun {R} x0 x1 x2 x3 x4 x5 k0 => term_Arena_with_7a2f_T N (@G_term_Arena_Two_Rec.term_Arena_equal_2c81 (G_term_Arena_Two_rec N n)) (@wide_Mask N) (@term_Arena_Const_2c81 N) (@wide_Out N) (@term_Arena_Width_43b4 N) x0 x1 x2 x3 x4 x5 k0,
    fun {R} x0 x1 x2 x3 x4 k0 => term_Arena_equal_2c81_T N (@G_term_Arena_Two_Rec.term_Arena_Two_12d2 (G_term_Arena_Two_rec N n)) (@term_Arena_Const_2c81 N) (@wide_Mask N) (@term_Arena_Width_43b4 N) (@term_Arena_Not_43b4 N) (@term_Arena_Node_43b4 N) x0 x1 x2 x3 x4 k0⟩
noncomputable def term_Arena_Two_12d2 (N : Nat) {R : Type} (x0 : Int) (x1 : Int) (x2 : Int) (x3 : List ((Int) × ((Int) × ((Int) × ((Int) × ((Int) × (Int))))))) (x4 : List (((Int) × ((Int) × ((Int) × ((Int) × ((Int) × (Int)))))) × (Int))) (x5 : List ((Int) × (Int))) (k0 : (Int) → (Int) → (List (((Int) × ((Int) × ((Int) × ((Int) × ((Int) × (Int)))))) × (Int))) → (List ((Int) × (Int))) → (List ((Int) × ((Int) × ((Int) × ((Int) × ((Int) × (Int))))))) → Option R) : Option R := (G_term_Arena_Two_rec N N).term_Arena_Two_12d2 x0 x1 x2 x3 x4 x5 k0
noncomputable def term_Arena_less_12d2 (N : Nat) {R : Type} (x0 : Int) (x1 : Int) (x2 : Int) (x3 : List ((Int) × ((Int) × ((Int) × ((Int) × ((Int) × (Int))))))) (x4 : List (((Int) × ((Int) × ((Int) × ((Int) × ((Int) × (Int)))))) × (Int))) (x5 : List ((Int) × (Int))) (k0 : (Int) → (Int) → (Bool) → (List (((Int) × ((Int) × ((Int) × ((Int) × ((Int) × (Int)))))) × (Int))) → (List ((Int) × (Int))) → (List ((Int) × ((Int) × ((Int) × ((Int) × ((Int) × (Int))))))) → Option R) : Option R := (G_term_Arena_Two_rec N N).term_Arena_less_12d2 x0 x1 x2 x3 x4 x5 k0
noncomputable def term_Arena_with_7a2f (N : Nat) {R : Type} (x0 : Int) (x1 : Int) (x2 : Int) (x3 : List ((Int) × ((Int) × ((Int) × ((Int) × ((Int) × (Int))))))) (x4 : List (((Int) × ((Int) × ((Int) × ((Int) × ((Int) × (Int)))))) × (Int))) (x5 : List ((Int) × (Int))) (k0 : (Int) → (Int) → (Bool) → (List (((Int) × ((Int) × ((Int) × ((Int) × ((Int) × (Int)))))) × (Int))) → (List ((Int) × (Int))) → (List ((Int) × ((Int) × ((Int) × ((Int) × ((Int) × (Int))))))) → Option R) : Option R := (G_term_Arena_Two_rec N N).term_Arena_with_7a2f x0 x1 x2 x3 x4 x5 k0
noncomputable def term_Arena_equal_2c81 (N : Nat) {R : Type} (x0 : Int) (x1 : Int) (x2 : List ((Int) × ((Int) × ((Int) × ((Int) × ((Int) × (Int))))))) (x3 : List (((Int) × ((Int) × ((Int) × ((Int) × ((Int) × (Int)))))) × (Int))) (x4 : List ((Int) × (Int))) (k0 : (Int) → (Int) → (Bool) → (List (((Int) × ((Int) × ((Int) × ((Int) × ((Int) × (Int)))))) × (Int))) → (List ((Int) × (Int))) → (List ((Int) × ((Int) × ((Int) × ((Int) × ((Int) × (Int))))))) → Option R) : Option R := (G_term_Arena_Two_rec N N).term_Arena_equal_2c81 x0 x1 x2 x3 x4 k0
abbrev fix_join_bb04_l0_Ty : Type 1 := {R : Type} → ((Int) → (Int) → (List ((Int) × ((Int) × ((Int) × ((Int) × ((Int) × (Int))))))) → (List (((Int) × ((Int) × ((Int) × ((Int) × ((Int) × (Int)))))) × (Int))) → (List ((Int) × (Int))) → Option R) → Nat → (Int) → (Int) → (Int) → (Int) → (List ((Int) × ((Int) × ((Int) × ((Int) × ((Int) × (Int))))))) → (List (((Int) × ((Int) × ((Int) × ((Int) × ((Int) × (Int)))))) × (Int))) → (List ((Int) × (Int))) → Option R
abbrev fix_join_bb04_l1_Ty : Type 1 := {R : Type} → ((Int) → (Int) → (List ((Int) × ((Int) × ((Int) × ((Int) × ((Int) × (Int))))))) → (List (((Int) × ((Int) × ((Int) × ((Int) × ((Int) × (Int)))))) × (Int))) → (List ((Int) × (Int))) → Option R) → Nat → (Int) → (Int) → (Int) → (Int) → (List ((Int) × ((Int) × ((Int) × ((Int) × ((Int) × (Int))))))) → (List (((Int) × ((Int) × ((Int) × ((Int) × ((Int) × (Int)))))) × (Int))) → (List ((Int) × (Int))) → Option R
abbrev fix_join_bb04_l2_Ty : Type 1 := {R : Type} → ((Int) → (Int) → (List (((Int) × ((Int) × ((Int) × ((Int) × ((Int) × (Int)))))) × (Int))) → (List ((Int) × (Int))) → (List ((Int) × ((Int) × ((Int) × ((Int) × ((Int) × (Int))))))) → Option R) → Nat → (Int) → (Int) → (Int) → (Int) → (Int) → (List (((Int) × ((Int) × ((Int) × ((Int) × ((Int) × (Int)))))) × (Int))) → (List ((Int) × (Int))) → (List ((Int) × ((Int) × ((Int) × ((Int) × ((Int) × (Int))))))) → Option R
abbrev fix_join_bb04_Ty : Type 1 := {R : Type} → (Int) → (Int) → (List ((Int) × ((Int) × ((Int) × ((Int) × ((Int) × (Int))))))) → (List (((Int) × ((Int) × ((Int) × ((Int) × ((Int) × (Int)))))) × (Int))) → (List ((Int) × (Int))) → ((Int) → (Int) → (List (((Int) × ((Int) × ((Int) × ((Int) × ((Int) × (Int)))))) × (Int))) → (List ((Int) × (Int))) → (List ((Int) × ((Int) × ((Int) × ((Int) × ((Int) × (Int))))))) → Option R) → Option R
noncomputable def fix_join_bb04_l0_T0 (N : Nat) (c0 : term_Arena_Const_2c81_Ty) (c1 : term_Arena_Two_12d2_Ty) (c2 : term_Arena_Node_43b4_Ty) (c3 : term_Arena_Width_43b4_Ty) (w1 : fix_join_bb04_l1_Ty) (w2 : fix_join_bb04_l2_Ty) {R : Type} (nx : (Int) → (Int) → (Int) → (Int) → (List ((Int) × ((Int) × ((Int) × ((Int) × ((Int) × (Int))))))) → (List (((Int) × ((Int) × ((Int) × ((Int) × ((Int) × (Int)))))) × (Int))) → (List ((Int) × (Int))) → Option R) (k0 : (Int) → (Int) → (List ((Int) × ((Int) × ((Int) × ((Int) × ((Int) × (Int))))))) → (List (((Int) × ((Int) × ((Int) × ((Int) × ((Int) × (Int)))))) × (Int))) → (List ((Int) × (Int))) → Option R) (x0 : Int) (x1 : Int) (x2 : Int) (x3 : Int) (x4 : List ((Int) × ((Int) × ((Int) × ((Int) × ((Int) × (Int))))))) (x5 : List (((Int) × ((Int) × ((Int) × ((Int) × ((Int) × (Int)))))) × (Int))) (x6 : List ((Int) × (Int))) : Option R :=
  br (decide (x3 < x2))
  (none)
  (k0 x0 x1 x4 x5 x6)
noncomputable def fix_join_bb04_l1_T0 (N : Nat) (c0 : term_Arena_Const_2c81_Ty) (c1 : term_Arena_Two_12d2_Ty) (c2 : term_Arena_Node_43b4_Ty) (c3 : term_Arena_Width_43b4_Ty) (w2 : fix_join_bb04_l2_Ty) {R : Type} (nx : (Int) → (Int) → (Int) → (Int) → (List ((Int) × ((Int) × ((Int) × ((Int) × ((Int) × (Int))))))) → (List (((Int) × ((Int) × ((Int) × ((Int) × ((Int) × (Int)))))) × (Int))) → (List ((Int) × (Int))) → Option R) (k0 : (Int) → (Int) → (List ((Int) × ((Int) × ((Int) × ((Int) × ((Int) × (Int))))))) → (List (((Int) × ((Int) × ((Int) × ((Int) × ((Int) × (Int)))))) × (Int))) → (List ((Int) × (Int))) → Option R) (x0 : Int) (x1 : Int) (x2 : Int) (x3 : Int) (x4 : List ((Int) × ((Int) × ((Int) × ((Int) × ((Int) × (Int))))))) (x5 : List (((Int) × ((Int) × ((Int) × ((Int) × ((Int) × (Int)))))) × (Int))) (x6 : List ((Int) × (Int))) : Option R :=
  br (decide (x3 < x2))
  (none)
  (k0 x0 x1 x4 x5 x6)
noncomputable def fix_join_bb04_l2_T0 (N : Nat) (c0 : term_Arena_Const_2c81_Ty) (c1 : term_Arena_Two_12d2_Ty) (c2 : term_Arena_Node_43b4_Ty) (c3 : term_Arena_Width_43b4_Ty) {R : Type} (nx : (Int) → (Int) → (Int) → (Int) → (Int) → (List (((Int) × ((Int) × ((Int) × ((Int) × ((Int) × (Int)))))) × (Int))) → (List ((Int) × (Int))) → (List ((Int) × ((Int) × ((Int) × ((Int) × ((Int) × (Int))))))) → Option R) (k0 : (Int) → (Int) → (List (((Int) × ((Int) × ((Int) × ((Int) × ((Int) × (Int)))))) × (Int))) → (List ((Int) × (Int))) → (List ((Int) × ((Int) × ((Int) × ((Int) × ((Int) × (Int))))))) → Option R) (x0 : Int) (x1 : Int) (x2 : Int) (x3 : Int) (x4 : Int) (x5 : List (((Int) × ((Int) × ((Int) × ((Int) × ((Int) × (Int)))))) × (Int))) (x6 : List ((Int) × (Int))) (x7 : List ((Int) × ((Int) × ((Int) × ((Int) × ((Int) × (Int))))))) : Option R :=
  br (decide (x4 < x3))
  (none)
  (k0 x1 x2 x5 x6 x7)
noncomputable def fix_join_bb04_l2 (N : Nat) {R : Type} (k0 : (Int) → (Int) → (List (((Int) × ((Int) × ((Int) × ((Int) × ((Int) × (Int)))))) × (Int))) → (List ((Int) × (Int))) → (List ((Int) × ((Int) × ((Int) × ((Int) × ((Int) × (Int))))))) → Option R) : Nat → (Int) → (Int) → (Int) → (Int) → (Int) → (List (((Int) × ((Int) × ((Int) × ((Int) × ((Int) × (Int)))))) × (Int))) → (List ((Int) × (Int))) → (List ((Int) × ((Int) × ((Int) × ((Int) × ((Int) × (Int))))))) → Option R
  | 0, _, _, _, _, _, _, _, _ => none
  | n + 1, x0, x1, x2, x3, x4, x5, x6, x7 => fix_join_bb04_l2_T0 N (@term_Arena_Const_2c81 N) (@term_Arena_Two_12d2 N) (@term_Arena_Node_43b4 N) (@term_Arena_Width_43b4 N) (fun x0 x1 x2 x3 x4 x5 x6 x7 => fix_join_bb04_l2 N k0 n x0 x1 x2 x3 x4 x5 x6 x7) k0 x0 x1 x2 x3 x4 x5 x6 x7
noncomputable def fix_join_bb04_l1 (N : Nat) {R : Type} (k0 : (Int) → (Int) → (List ((Int) × ((Int) × ((Int) × ((Int) × ((Int) × (Int))))))) → (List (((Int) × ((Int) × ((Int) × ((Int) × ((Int) × (Int)))))) × (Int))) → (List ((Int) × (Int))) → Option R) : Nat → (Int) → (Int) → (Int) → (Int) → (List ((Int) × ((Int) × ((Int) × ((Int) × ((Int) × (Int))))))) → (List (((Int) × ((Int) × ((Int) × ((Int) × ((Int) × (Int)))))) × (Int))) → (List ((Int) × (Int))) → Option R
  | 0, _, _, _, _, _, _, _ => none
  | n + 1, x0, x1, x2, x3, x4, x5, x6 => fix_join_bb04_l1_T0 N (@term_Arena_Const_2c81 N) (@term_Arena_Two_12d2 N) (@term_Arena_Node_43b4 N) (@term_Arena_Width_43b4 N) (@fix_join_bb04_l2 N) (fun x0 x1 x2 x3 x4 x5 x6 => fix_join_bb04_l1 N k0 n x0 x1 x2 x3 x4 x5 x6) k0 x0 x1 x2 x3 x4 x5 x6
noncomputable def fix_join_bb04_l0 (N : Nat) {R : Type} (k0 : (Int) → (Int) → (List ((Int) × ((Int) × ((Int) × ((Int) × ((Int) × (Int))))))) → (List (((Int) × ((Int) × ((Int) × ((Int) × ((Int) × (Int)))))) × (Int))) → (List ((Int) × (Int))) → Option R) : Nat → (Int) → (Int) → (Int) → (Int) → (List ((Int) × ((Int) × ((Int) × ((Int) × ((Int) × (Int))))))) → (List (((Int) × ((Int) × ((Int) × ((Int) × ((Int) × (Int)))))) × (Int))) → (List ((Int) × (Int))) → Option R
  | 0, _, _, _, _, _, _, _ => none
  | n + 1, x0, x1, x2, x3, x4, x5, x6 => fix_join_bb04_l0_T0 N (@term_Arena_Const_2c81 N) (@term_Arena_Two_12d2 N) (@term_Arena_Node_43b4 N) (@term_Arena_Width_43b4 N) (@fix_join_bb04_l1 N) (@fix_join_bb04_l2 N) (fun x0 x1 x2 x3 x4 x5 x6 => fix_join_bb04_l0 N k0 n x0 x1 x2 x3 x4 x5 x6) k0 x0 x1 x2 x3 x4 x5 x6
noncomputable def fix_join_bb04_T (N : Nat) (c0 : term_Arena_Const_2c81_Ty) (c1 : term_Arena_Two_12d2_Ty) (c2 : term_Arena_Node_43b4_Ty) (c3 : term_Arena_Width_43b4_Ty) (w0 : fix_join_bb04_l0_Ty) (w1 : fix_join_bb04_l1_Ty) (w2 : fix_join_bb04_l2_Ty) {R : Type} (x0 : Int) (x1 : Int) (x2 : List ((Int) × ((Int) × ((Int) × ((Int) × ((Int) × (Int))))))) (x3 : List (((Int) × ((Int) × ((Int) × ((Int) × ((Int) × (Int)))))) × (Int))) (x4 : List ((Int) × (Int))) (k0 : (Int) → (Int) → (List (((Int) × ((Int) × ((Int) × ((Int) × ((Int) × (Int)))))) × (Int))) → (List ((Int) × (Int))) → (List ((Int) × ((Int) × ((Int) × ((Int) × ((Int) × (Int))))))) → Option R) : Option R :=
  w0
  (fun i1064 i1065 l1066 l1067 l1068 => w1
   (fun i1069 i1070 l1071 l1072 l1073 => c0 (1 : Int) i1070 l1071 l1072 l1073
    (fun i1074 i1075 l1076 l1077 l1078 => w2
     (fun i1079 i1080 l1081 l1082 l1083 => k0 i1079 i1080 l1081 l1082 l1083)
     N i1069 i1074 i1075 (0 : Int) (0 : Int) l1076 l1077 l1078))
   N i1064 i1065 (0 : Int) (0 : Int) l1066 l1067 l1068)
  N x0 x1 (0 : Int) (0 : Int) x2 x3 x4
noncomputable def fix_join_bb04 (N : Nat) {R : Type} (x0 : Int) (x1 : Int) (x2 : List ((Int) × ((Int) × ((Int) × ((Int) × ((Int) × (Int))))))) (x3 : List (((Int) × ((Int) × ((Int) × ((Int) × ((Int) × (Int)))))) × (Int))) (x4 : List ((Int) × (Int))) (k0 : (Int) → (Int) → (List (((Int) × ((Int) × ((Int) × ((Int) × ((Int) × (Int)))))) × (Int))) → (List ((Int) × (Int))) → (List ((Int) × ((Int) × ((Int) × ((Int) × ((Int) × (Int))))))) → Option R) : Option R := fix_join_bb04_T N (@term_Arena_Const_2c81 N) (@term_Arena_Two_12d2 N) (@term_Arena_Node_43b4 N) (@term_Arena_Width_43b4 N) (@fix_join_bb04_l0 N) (@fix_join_bb04_l1 N) (@fix_join_bb04_l2 N) x0 x1 x2 x3 x4 k0
abbrev fix_join_e09f_l0_Ty : Type 1 := {R : Type} → ((Int) → (Int) → (Int) → (Int) → (List ((Int) × ((Int) × ((Int) × ((Int) × ((Int) × (Int))))))) → (List (((Int) × ((Int) × ((Int) × ((Int) × ((Int) × (Int)))))) × (Int))) → (List ((Int) × (Int))) → (List (Int)) → Option R) → ((Int) → (Int) → (List ((Int) × ((Int) × ((Int) × ((Int) × ((Int) × (Int))))))) → (List (((Int) × ((Int) × ((Int) × ((Int) × ((Int) × (Int)))))) × (Int))) → (List ((Int) × (Int))) → (List (Int)) → Option R) → Nat → (Int) → (Int) → (Int) → (Int) → (List ((Int) × ((Int) × ((Int) × ((Int) × ((Int) × (Int))))))) → (List (((Int) × ((Int) × ((Int) × ((Int) × ((Int) × (Int)))))) × (Int))) → (List ((Int) × (Int))) → (List (Int)) → Option R
abbrev fix_join_e09f_l1_Ty : Type 1 := {R : Type} → ((Int) → (Int) → (Int) → (Int) → (List ((Int) × ((Int) × ((Int) × ((Int) × ((Int) × (Int))))))) → (List (((Int) × ((Int) × ((Int) × ((Int) × ((Int) × (Int)))))) × (Int))) → (List ((Int) × (Int))) → (List (Int)) → Option R) → ((Int) → (Int) → (List ((Int) × ((Int) × ((Int) × ((Int) × ((Int) × (Int))))))) → (List (((Int) × ((Int) × ((Int) × ((Int) × ((Int) × (Int)))))) × (Int))) → (List ((Int) × (Int))) → (List (Int)) → Option R) → Nat → (Int) → (Int) → (Int) → (Int) → (List ((Int) × ((Int) × ((Int) × ((Int) × ((Int) × (Int))))))) → (List (((Int) × ((Int) × ((Int) × ((Int) × ((Int) × (Int)))))) × (Int))) → (List ((Int) × (Int))) → (List (Int)) → Option R
abbrev fix_join_e09f_l2_Ty : Type 1 := {R : Type} → ((Int) → (Int) → (List (((Int) × ((Int) × ((Int) × ((Int) × ((Int) × (Int)))))) × (Int))) → (List ((Int) × (Int))) → (List (Int)) → (List ((Int) × ((Int) × ((Int) × ((Int) × ((Int) × (Int))))))) → Option R) → Nat → (Int) → (Int) → (Int) → (Int) → (Int) → (List (((Int) × ((Int) × ((Int) × ((Int) × ((Int) × (Int)))))) × (Int))) → (List ((Int) × (Int))) → (List (Int)) → (List ((Int) × ((Int) × ((Int) × ((Int) × ((Int) × (Int))))))) → Option R
abbrev fix_join_e09f_Ty : Type 1 := {R : Type} → (Int) → (Int) → (List ((Int) × ((Int) × ((Int) × ((Int) × ((Int) × (Int))))))) → (List (((Int) × ((Int) × ((Int) × ((Int) × ((Int) × (Int)))))) × (Int))) → (List ((Int) × (Int))) → (List (Int)) → ((Int) → (Int) → (List (((Int) × ((Int) × ((Int) × ((Int) × ((Int) × (Int)))))) × (Int))) → (List ((Int) × (Int))) → (List (Int)) → (List ((Int) × ((Int) × ((Int) × ((Int) × ((Int) × (Int))))))) → Option R) → Option R
noncomputable def fix_join_e09f_l0_T0 (N : Nat) (c0 : term_Arena_Const_2c81_Ty) (c1 : term_Arena_Two_12d2_Ty) (c2 : term_Arena_Node_43b4_Ty) (c3 : term_Arena_Width_43b4_Ty) (w1 : fix_join_e09f_l1_Ty) (w2 : fix_join_e09f_l2_Ty) {R : Type} (nx : (Int) → (Int) → (Int) → (Int) → (List ((Int) × ((Int) × ((Int) × ((Int) × ((Int) × (Int))))))) → (List (((Int) × ((Int) × ((Int) × ((Int) × ((Int) × (Int)))))) × (Int))) → (List ((Int) × (Int))) → (List (Int)) → Option R) (k0 : (Int) → (Int) → (Int) → (Int) → (List ((Int) × ((Int) × ((Int) × ((Int) × ((Int) × (Int))))))) → (List (((Int) × ((Int) × ((Int) × ((Int) × ((Int) × (Int)))))) × (Int))) → (List ((Int) × (Int))) → (List (Int)) → Option R) (k1 : (Int) → (Int) → (List ((Int) × ((Int) × ((Int) × ((Int) × ((Int) × (Int))))))) → (List (((Int) × ((Int) × ((Int) × ((Int) × ((Int) × (Int)))))) × (Int))) → (List ((Int) × (Int))) → (List (Int)) → Option R) (x0 : Int) (x1 : Int) (x2 : Int) (x3 : Int) (x4 : List ((Int) × ((Int) × ((Int) × ((Int) × ((Int) × (Int))))))) (x5 : List (((Int) × ((Int) × ((Int) × ((Int) × ((Int) × (Int)))))) × (Int))) (x6 : List ((Int) × (Int))) (x7 : List (Int)) : Option R :=
  br (decide (x3 < x2))
  (br (inB x3 (List.length x7))
   (br (decide ((Int.toNat x3) < (List.length x7)))
    (c3 (List.getD x7 (Int.toNat x3) (0 : Int)) x4 x5 x6
     (fun i1215 l1216 l1217 l1218 => br (decide ((1 : Int) < i1215))
      (k0 x0 x1 (0 : Int) (2 : Int) l1216 l1217 l1218 x7)
      (nx x0 x1 x2 (IntKind.wrap .i64 (x3 + (1 : Int))) l1216 l1217 l1218 x7)))
    (none))
   (none))
  (k1 x0 x1 x4 x5 x6 x7)
noncomputable def fix_join_e09f_l1_T0 (N : Nat) (c0 : term_Arena_Const_2c81_Ty) (c1 : term_Arena_Two_12d2_Ty) (c2 : term_Arena_Node_43b4_Ty) (c3 : term_Arena_Width_43b4_Ty) (w2 : fix_join_e09f_l2_Ty) {R : Type} (nx : (Int) → (Int) → (Int) → (Int) → (List ((Int) × ((Int) × ((Int) × ((Int) × ((Int) × (Int))))))) → (List (((Int) × ((Int) × ((Int) × ((Int) × ((Int) × (Int)))))) × (Int))) → (List ((Int) × (Int))) → (List (Int)) → Option R) (k0 : (Int) → (Int) → (Int) → (Int) → (List ((Int) × ((Int) × ((Int) × ((Int) × ((Int) × (Int))))))) → (List (((Int) × ((Int) × ((Int) × ((Int) × ((Int) × (Int)))))) × (Int))) → (List ((Int) × (Int))) → (List (Int)) → Option R) (k1 : (Int) → (Int) → (List ((Int) × ((Int) × ((Int) × ((Int) × ((Int) × (Int))))))) → (List (((Int) × ((Int) × ((Int) × ((Int) × ((Int) × (Int)))))) × (Int))) → (List ((Int) × (Int))) → (List (Int)) → Option R) (x0 : Int) (x1 : Int) (x2 : Int) (x3 : Int) (x4 : List ((Int) × ((Int) × ((Int) × ((Int) × ((Int) × (Int))))))) (x5 : List (((Int) × ((Int) × ((Int) × ((Int) × ((Int) × (Int)))))) × (Int))) (x6 : List ((Int) × (Int))) (x7 : List (Int)) : Option R :=
  br (decide (x3 < x2))
  (br (inB x3 (List.length x7))
   (br (decide ((Int.toNat x3) < (List.length x7)))
    (c2 (List.getD x7 (Int.toNat x3) (0 : Int)) x4 x5 x6
     (fun i1233 i1234 i1235 i1236 i1237 i1238 b1239 l1240 l1241 l1242 => br (!b1239)
      (k0 x0 x1 (0 : Int) (1 : Int) l1240 l1241 l1242 x7)
      (nx x0 x1 x2 (IntKind.wrap .i64 (x3 + (1 : Int))) l1240 l1241 l1242 x7)))
    (none))
   (none))
  (k1 x0 x1 x4 x5 x6 x7)
noncomputable def fix_join_e09f_l2_T0 (N : Nat) (c0 : term_Arena_Const_2c81_Ty) (c1 : term_Arena_Two_12d2_Ty) (c2 : term_Arena_Node_43b4_Ty) (c3 : term_Arena_Width_43b4_Ty) {R : Type} (nx : (Int) → (Int) → (Int) → (Int) → (Int) → (List (((Int) × ((Int) × ((Int) × ((Int) × ((Int) × (Int)))))) × (Int))) → (List ((Int) × (Int))) → (List (Int)) → (List ((Int) × ((Int) × ((Int) × ((Int) × ((Int) × (Int))))))) → Option R) (k0 : (Int) → (Int) → (List (((Int) × ((Int) × ((Int) × ((Int) × ((Int) × (Int)))))) × (Int))) → (List ((Int) × (Int))) → (List (Int)) → (List ((Int) × ((Int) × ((Int) × ((Int) × ((Int) × (Int))))))) → Option R) (x0 : Int) (x1 : Int) (x2 : Int) (x3 : Int) (x4 : Int) (x5 : List (((Int) × ((Int) × ((Int) × ((Int) × ((Int) × (Int)))))) × (Int))) (x6 : List ((Int) × (Int))) (x7 : List (Int)) (x8 : List ((Int) × ((Int) × ((Int) × ((Int) × ((Int) × (Int))))))) : Option R :=
  br (decide (x4 < x3))
  (br (inB x4 (List.length x7))
   (br (decide ((Int.toNat x4) < (List.length x7)))
    (br (decide (x2 = (0 : Int)))
     (c1 x0 x1 (List.getD x7 (Int.toNat x4) (0 : Int)) x8 x5 x6
      (fun i1262 i1263 l1264 l1265 l1266 => nx x0 i1262 i1263 x3 (IntKind.wrap .i64 (x4 + (1 : Int))) l1264 l1265 x7 l1266))
     (nx x0 x1 x2 x3 (IntKind.wrap .i64 (x4 + (1 : Int))) x5 x6 x7 x8))
    (none))
   (none))
  (k0 x1 x2 x5 x6 x7 x8)
noncomputable def fix_join_e09f_l2 (N : Nat) {R : Type} (k0 : (Int) → (Int) → (List (((Int) × ((Int) × ((Int) × ((Int) × ((Int) × (Int)))))) × (Int))) → (List ((Int) × (Int))) → (List (Int)) → (List ((Int) × ((Int) × ((Int) × ((Int) × ((Int) × (Int))))))) → Option R) : Nat → (Int) → (Int) → (Int) → (Int) → (Int) → (List (((Int) × ((Int) × ((Int) × ((Int) × ((Int) × (Int)))))) × (Int))) → (List ((Int) × (Int))) → (List (Int)) → (List ((Int) × ((Int) × ((Int) × ((Int) × ((Int) × (Int))))))) → Option R
  | 0, _, _, _, _, _, _, _, _, _ => none
  | n + 1, x0, x1, x2, x3, x4, x5, x6, x7, x8 => fix_join_e09f_l2_T0 N (@term_Arena_Const_2c81 N) (@term_Arena_Two_12d2 N) (@term_Arena_Node_43b4 N) (@term_Arena_Width_43b4 N) (fun x0 x1 x2 x3 x4 x5 x6 x7 x8 => fix_join_e09f_l2 N k0 n x0 x1 x2 x3 x4 x5 x6 x7 x8) k0 x0 x1 x2 x3 x4 x5 x6 x7 x8
noncomputable def fix_join_e09f_l1 (N : Nat) {R : Type} (k0 : (Int) → (Int) → (Int) → (Int) → (List ((Int) × ((Int) × ((Int) × ((Int) × ((Int) × (Int))))))) → (List (((Int) × ((Int) × ((Int) × ((Int) × ((Int) × (Int)))))) × (Int))) → (List ((Int) × (Int))) → (List (Int)) → Option R) (k1 : (Int) → (Int) → (List ((Int) × ((Int) × ((Int) × ((Int) × ((Int) × (Int))))))) → (List (((Int) × ((Int) × ((Int) × ((Int) × ((Int) × (Int)))))) × (Int))) → (List ((Int) × (Int))) → (List (Int)) → Option R) : Nat → (Int) → (Int) → (Int) → (Int) → (List ((Int) × ((Int) × ((Int) × ((Int) × ((Int) × (Int))))))) → (List (((Int) × ((Int) × ((Int) × ((Int) × ((Int) × (Int)))))) × (Int))) → (List ((Int) × (Int))) → (List (Int)) → Option R
  | 0, _, _, _, _, _, _, _, _ => none
  | n + 1, x0, x1, x2, x3, x4, x5, x6, x7 => fix_join_e09f_l1_T0 N (@term_Arena_Const_2c81 N) (@term_Arena_Two_12d2 N) (@term_Arena_Node_43b4 N) (@term_Arena_Width_43b4 N) (@fix_join_e09f_l2 N) (fun x0 x1 x2 x3 x4 x5 x6 x7 => fix_join_e09f_l1 N k0 k1 n x0 x1 x2 x3 x4 x5 x6 x7) k0 k1 x0 x1 x2 x3 x4 x5 x6 x7
noncomputable def fix_join_e09f_l0 (N : Nat) {R : Type} (k0 : (Int) → (Int) → (Int) → (Int) → (List ((Int) × ((Int) × ((Int) × ((Int) × ((Int) × (Int))))))) → (List (((Int) × ((Int) × ((Int) × ((Int) × ((Int) × (Int)))))) × (Int))) → (List ((Int) × (Int))) → (List (Int)) → Option R) (k1 : (Int) → (Int) → (List ((Int) × ((Int) × ((Int) × ((Int) × ((Int) × (Int))))))) → (List (((Int) × ((Int) × ((Int) × ((Int) × ((Int) × (Int)))))) × (Int))) → (List ((Int) × (Int))) → (List (Int)) → Option R) : Nat → (Int) → (Int) → (Int) → (Int) → (List ((Int) × ((Int) × ((Int) × ((Int) × ((Int) × (Int))))))) → (List (((Int) × ((Int) × ((Int) × ((Int) × ((Int) × (Int)))))) × (Int))) → (List ((Int) × (Int))) → (List (Int)) → Option R
  | 0, _, _, _, _, _, _, _, _ => none
  | n + 1, x0, x1, x2, x3, x4, x5, x6, x7 => fix_join_e09f_l0_T0 N (@term_Arena_Const_2c81 N) (@term_Arena_Two_12d2 N) (@term_Arena_Node_43b4 N) (@term_Arena_Width_43b4 N) (@fix_join_e09f_l1 N) (@fix_join_e09f_l2 N) (fun x0 x1 x2 x3 x4 x5 x6 x7 => fix_join_e09f_l0 N k0 k1 n x0 x1 x2 x3 x4 x5 x6 x7) k0 k1 x0 x1 x2 x3 x4 x5 x6 x7
noncomputable def fix_join_e09f_T (N : Nat) (c0 : term_Arena_Const_2c81_Ty) (c1 : term_Arena_Two_12d2_Ty) (c2 : term_Arena_Node_43b4_Ty) (c3 : term_Arena_Width_43b4_Ty) (w0 : fix_join_e09f_l0_Ty) (w1 : fix_join_e09f_l1_Ty) (w2 : fix_join_e09f_l2_Ty) {R : Type} (x0 : Int) (x1 : Int) (x2 : List ((Int) × ((Int) × ((Int) × ((Int) × ((Int) × (Int))))))) (x3 : List (((Int) × ((Int) × ((Int) × ((Int) × ((Int) × (Int)))))) × (Int))) (x4 : List ((Int) × (Int))) (x5 : List (Int)) (k0 : (Int) → (Int) → (List (((Int) × ((Int) × ((Int) × ((Int) × ((Int) × (Int)))))) × (Int))) → (List ((Int) × (Int))) → (List (Int)) → (List ((Int) × ((Int) × ((Int) × ((Int) × ((Int) × (Int))))))) → Option R) : Option R :=
  w0
  (fun i1219 i1220 i1221 i1222 l1223 l1224 l1225 l1226 => k0 i1221 i1222 l1224 l1225 l1226 l1223)
  (fun i1227 i1228 l1229 l1230 l1231 l1232 => w1
   (fun i1243 i1244 i1245 i1246 l1247 l1248 l1249 l1250 => k0 i1245 i1246 l1248 l1249 l1250 l1247)
   (fun i1251 i1252 l1253 l1254 l1255 l1256 => c0 (1 : Int) i1252 l1253 l1254 l1255
    (fun i1257 i1258 l1259 l1260 l1261 => w2
     (fun i1267 i1268 l1269 l1270 l1271 l1272 => k0 i1267 i1268 l1269 l1270 l1271 l1272)
     N i1251 i1257 i1258 (Nat.cast (List.length l1256) : Int) (0 : Int) l1259 l1260 l1256 l1261))
   N i1227 i1228 (Nat.cast (List.length l1232) : Int) (0 : Int) l1229 l1230 l1231 l1232)
  N x0 x1 (Nat.cast (List.length x5) : Int) (0 : Int) x2 x3 x4 x5
noncomputable def fix_join_e09f (N : Nat) {R : Type} (x0 : Int) (x1 : Int) (x2 : List ((Int) × ((Int) × ((Int) × ((Int) × ((Int) × (Int))))))) (x3 : List (((Int) × ((Int) × ((Int) × ((Int) × ((Int) × (Int)))))) × (Int))) (x4 : List ((Int) × (Int))) (x5 : List (Int)) (k0 : (Int) → (Int) → (List (((Int) × ((Int) × ((Int) × ((Int) × ((Int) × (Int)))))) × (Int))) → (List ((Int) × (Int))) → (List (Int)) → (List ((Int) × ((Int) × ((Int) × ((Int) × ((Int) × (Int))))))) → Option R) : Option R := fix_join_e09f_T N (@term_Arena_Const_2c81 N) (@term_Arena_Two_12d2 N) (@term_Arena_Node_43b4 N) (@term_Arena_Width_43b4 N) (@fix_join_e09f_l0 N) (@fix_join_e09f_l1 N) (@fix_join_e09f_l2 N) x0 x1 x2 x3 x4 x5 k0
abbrev fix_All_97a4_Ty : Type 1 := {R : Type} → (List ((Int) × ((Int) × ((Int) × ((Int) × ((Int) × (Int))))))) → (List (((Int) × ((Int) × ((Int) × ((Int) × ((Int) × (Int)))))) × (Int))) → (List ((Int) × (Int))) → ((Int) → (Int) → (List (((Int) × ((Int) × ((Int) × ((Int) × ((Int) × (Int)))))) × (Int))) → (List ((Int) × (Int))) → (List ((Int) × ((Int) × ((Int) × ((Int) × ((Int) × (Int))))))) → Option R) → Option R
noncomputable def fix_All_97a4_T (N : Nat) (c0 : fix_join_bb04_Ty) (c1 : fix_join_e09f_Ty) {R : Type} (x0 : List ((Int) × ((Int) × ((Int) × ((Int) × ((Int) × (Int))))))) (x1 : List (((Int) × ((Int) × ((Int) × ((Int) × ((Int) × (Int)))))) × (Int))) (x2 : List ((Int) × (Int))) (k0 : (Int) → (Int) → (List (((Int) × ((Int) × ((Int) × ((Int) × ((Int) × (Int)))))) × (Int))) → (List ((Int) × (Int))) → (List ((Int) × ((Int) × ((Int) × ((Int) × ((Int) × (Int))))))) → Option R) : Option R :=
  c0 (4 : Int) (1 : Int) x0 x1 x2
  (fun i1084 i1085 l1086 l1087 l1088 => k0 i1084 i1085 l1086 l1087 l1088)
noncomputable def fix_All_97a4 (N : Nat) {R : Type} (x0 : List ((Int) × ((Int) × ((Int) × ((Int) × ((Int) × (Int))))))) (x1 : List (((Int) × ((Int) × ((Int) × ((Int) × ((Int) × (Int)))))) × (Int))) (x2 : List ((Int) × (Int))) (k0 : (Int) → (Int) → (List (((Int) × ((Int) × ((Int) × ((Int) × ((Int) × (Int)))))) × (Int))) → (List ((Int) × (Int))) → (List ((Int) × ((Int) × ((Int) × ((Int) × ((Int) × (Int))))))) → Option R) : Option R := fix_All_97a4_T N (@fix_join_bb04 N) (@fix_join_e09f N) x0 x1 x2 k0
abbrev fix_All_2549_Ty : Type 1 := {R : Type} → (List ((Int) × ((Int) × ((Int) × ((Int) × ((Int) × (Int))))))) → (List (((Int) × ((Int) × ((Int) × ((Int) × ((Int) × (Int)))))) × (Int))) → (List ((Int) × (Int))) → (List (Int)) → ((Int) → (Int) → (List (((Int) × ((Int) × ((Int) × ((Int) × ((Int) × (Int)))))) × (Int))) → (List ((Int) × (Int))) → (List (Int)) → (List ((Int) × ((Int) × ((Int) × ((Int) × ((Int) × (Int))))))) → Option R) → Option R
noncomputable def fix_All_2549_T (N : Nat) (c0 : fix_join_bb04_Ty) (c1 : fix_join_e09f_Ty) {R : Type} (x0 : List ((Int) × ((Int) × ((Int) × ((Int) × ((Int) × (Int))))))) (x1 : List (((Int) × ((Int) × ((Int) × ((Int) × ((Int) × (Int)))))) × (Int))) (x2 : List ((Int) × (Int))) (x3 : List (Int)) (k0 : (Int) → (Int) → (List (((Int) × ((Int) × ((Int) × ((Int) × ((Int) × (Int)))))) × (Int))) → (List ((Int) × (Int))) → (List (Int)) → (List ((Int) × ((Int) × ((Int) × ((Int) × ((Int) × (Int))))))) → Option R) : Option R :=
  c1 (4 : Int) (1 : Int) x0 x1 x2 x3
  (fun i1273 i1274 l1275 l1276 l1277 l1278 => k0 i1273 i1274 l1275 l1276 l1277 l1278)
noncomputable def fix_All_2549 (N : Nat) {R : Type} (x0 : List ((Int) × ((Int) × ((Int) × ((Int) × ((Int) × (Int))))))) (x1 : List (((Int) × ((Int) × ((Int) × ((Int) × ((Int) × (Int)))))) × (Int))) (x2 : List ((Int) × (Int))) (x3 : List (Int)) (k0 : (Int) → (Int) → (List (((Int) × ((Int) × ((Int) × ((Int) × ((Int) × (Int)))))) × (Int))) → (List ((Int) × (Int))) → (List (Int)) → (List ((Int) × ((Int) × ((Int) × ((Int) × ((Int) × (Int))))))) → Option R) : Option R := fix_All_2549_T N (@fix_join_bb04 N) (@fix_join_e09f N) x0 x1 x2 x3 k0
abbrev fix_Any_2549_Ty : Type 1 := {R : Type} → (List ((Int) × ((Int) × ((Int) × ((Int) × ((Int) × (Int))))))) → (List (((Int) × ((Int) × ((Int) × ((Int) × ((Int) × (Int)))))) × (Int))) → (List ((Int) × (Int))) → (List (Int)) → ((Int) → (Int) → (List (((Int) × ((Int) × ((Int) × ((Int) × ((Int) × (Int)))))) × (Int))) → (List ((Int) × (Int))) → (List (Int)) → (List ((Int) × ((Int) × ((Int) × ((Int) × ((Int) × (Int))))))) → Option R) → Option R
noncomputable def fix_Any_2549_T (N : Nat) (c0 : fix_join_bb04_Ty) (c1 : fix_join_e09f_Ty) {R : Type} (x0 : List ((Int) × ((Int) × ((Int) × ((Int) × ((Int) × (Int))))))) (x1 : List (((Int) × ((Int) × ((Int) × ((Int) × ((Int) × (Int)))))) × (Int))) (x2 : List ((Int) × (Int))) (x3 : List (Int)) (k0 : (Int) → (Int) → (List (((Int) × ((Int) × ((Int) × ((Int) × ((Int) × (Int)))))) × (Int))) → (List ((Int) × (Int))) → (List (Int)) → (List ((Int) × ((Int) × ((Int) × ((Int) × ((Int) × (Int))))))) → Option R) : Option R :=
  c1 (5 : Int) (0 : Int) x0 x1 x2 x3
  (fun i1285 i1286 l1287 l1288 l1289 l1290 => k0 i1285 i1286 l1287 l1288 l1289 l1290)
noncomputable def fix_Any_2549 (N : Nat) {R : Type} (x0 : List ((Int) × ((Int) × ((Int) × ((Int) × ((Int) × (Int))))))) (x1 : List (((Int) × ((Int) × ((Int) × ((Int) × ((Int) × (Int)))))) × (Int))) (x2 : List ((Int) × (Int))) (x3 : List (Int)) (k0 : (Int) → (Int) → (List (((Int) × ((Int) × ((Int) × ((Int) × ((Int) × (Int)))))) × (Int))) → (List ((Int) × (Int))) → (List (Int)) → (List ((Int) × ((Int) × ((Int) × ((Int) × ((Int) × (Int))))))) → Option R) : Option R := fix_Any_2549_T N (@fix_join_bb04 N) (@fix_join_e09f N) x0 x1 x2 x3 k0
abbrev term_Arena_Ext_99d8_Ty : Type 1 := {R : Type} → (Int) → (Int) → (List ((Int) × ((Int) × ((Int) × ((Int) × ((Int) × (Int))))))) → (List (((Int) × ((Int) × ((Int) × ((Int) × ((Int) × (Int)))))) × (Int))) → (List ((Int) × (Int))) → ((Int) → (Int) → (List (((Int) × ((Int) × ((Int) × ((Int) × ((Int) × (Int)))))) × (Int))) → (List ((Int) × (Int))) → (List ((Int) × ((Int) × ((Int) × ((Int) × ((Int) × (Int))))))) → Option R) → Option R
noncomputable def term_Arena_Ext_99d8_T (N : Nat) (c0 : term_Arena_keep_a25e_Ty) (c1 : term_Arena_Ext_99d8_Ty) (c2 : term_Arena_Const_2c81_Ty) (c3 : wide_May_Ty) (c4 : term_Arena_Node_43b4_Ty) {R : Type} (x0 : Int) (x1 : Int) (x2 : List ((Int) × ((Int) × ((Int) × ((Int) × ((Int) × (Int))))))) (x3 : List (((Int) × ((Int) × ((Int) × ((Int) × ((Int) × (Int)))))) × (Int))) (x4 : List ((Int) × (Int))) (k0 : (Int) → (Int) → (List (((Int) × ((Int) × ((Int) × ((Int) × ((Int) × (Int)))))) × (Int))) → (List ((Int) × (Int))) → (List ((Int) × ((Int) × ((Int) × ((Int) × ((Int) × (Int))))))) → Option R) : Option R :=
  c4 x1 x2 x3 x4
  (fun i831 i832 i833 i834 i835 i836 b837 l838 l839 l840 => br (!b837)
   (k0 (0 : Int) (1 : Int) l839 l840 l838)
   (c3 x0
    (fun b841 => br (!(!b841))
     (br (decide (x0 < i832))
      (k0 (0 : Int) (2 : Int) l839 l840 l838)
      (br (decide (x0 = i832))
       (k0 x1 (0 : Int) l839 l840 l838)
       (br (decide (i831 = (1 : Int)))
        (c2 x0 i833 l838 l839 l840
         (fun i842 i843 l844 l845 l846 => k0 i842 i843 l844 l845 l846))
        (br (decide (i831 = (17 : Int)))
         (c1 x0 i834 l838 l839 l840
          (fun i847 i848 l849 l850 l851 => k0 i847 i848 l849 l850 l851))
         (c0 (17 : Int) x0 (0 : Int) x1 (0 : Int) (0 : Int) l838 l839 l840
          (fun i852 i853 l854 l855 l856 => k0 i852 i853 l854 l855 l856))))))
     (k0 (0 : Int) (2 : Int) l839 l840 l838))))
structure G_term_Arena_Ext_Rec : Type 1 where
  term_Arena_Ext_99d8 : term_Arena_Ext_99d8_Ty
noncomputable def G_term_Arena_Ext_rec (N : Nat) : Nat → G_term_Arena_Ext_Rec
  | 0 => ⟨fun {R} _ _ _ _ _ _ => none⟩
  | n + 1 => ⟨fun {R} x0 x1 x2 x3 x4 k0 => term_Arena_Ext_99d8_T N (@term_Arena_keep_a25e N) (@G_term_Arena_Ext_Rec.term_Arena_Ext_99d8 (G_term_Arena_Ext_rec N n)) (@term_Arena_Const_2c81 N) (@wide_May N) (@term_Arena_Node_43b4 N) x0 x1 x2 x3 x4 k0⟩
noncomputable def term_Arena_Ext_99d8 (N : Nat) {R : Type} (x0 : Int) (x1 : Int) (x2 : List ((Int) × ((Int) × ((Int) × ((Int) × ((Int) × (Int))))))) (x3 : List (((Int) × ((Int) × ((Int) × ((Int) × ((Int) × (Int)))))) × (Int))) (x4 : List ((Int) × (Int))) (k0 : (Int) → (Int) → (List (((Int) × ((Int) × ((Int) × ((Int) × ((Int) × (Int)))))) × (Int))) → (List ((Int) × (Int))) → (List ((Int) × ((Int) × ((Int) × ((Int) × ((Int) × (Int))))))) → Option R) : Option R := (G_term_Arena_Ext_rec N N).term_Arena_Ext_99d8 x0 x1 x2 x3 x4 k0
abbrev term_Arena_Cut_99d8_Ty : Type 1 := {R : Type} → (Int) → (Int) → (List ((Int) × ((Int) × ((Int) × ((Int) × ((Int) × (Int))))))) → (List (((Int) × ((Int) × ((Int) × ((Int) × ((Int) × (Int)))))) × (Int))) → (List ((Int) × (Int))) → ((Int) → (Int) → (List (((Int) × ((Int) × ((Int) × ((Int) × ((Int) × (Int)))))) × (Int))) → (List ((Int) × (Int))) → (List ((Int) × ((Int) × ((Int) × ((Int) × ((Int) × (Int))))))) → Option R) → Option R
noncomputable def term_Arena_Cut_99d8_T (N : Nat) (c0 : term_Arena_keep_a25e_Ty) (c1 : term_Arena_Ext_99d8_Ty) (c2 : term_Arena_Width_43b4_Ty) (c3 : term_Arena_Cut_99d8_Ty) (c4 : term_Arena_Const_2c81_Ty) (c5 : wide_May_Ty) (c6 : term_Arena_Node_43b4_Ty) {R : Type} (x0 : Int) (x1 : Int) (x2 : List ((Int) × ((Int) × ((Int) × ((Int) × ((Int) × (Int))))))) (x3 : List (((Int) × ((Int) × ((Int) × ((Int) × ((Int) × (Int)))))) × (Int))) (x4 : List ((Int) × (Int))) (k0 : (Int) → (Int) → (List (((Int) × ((Int) × ((Int) × ((Int) × ((Int) × (Int)))))) × (Int))) → (List ((Int) × (Int))) → (List ((Int) × ((Int) × ((Int) × ((Int) × ((Int) × (Int))))))) → Option R) : Option R :=
  c6 x1 x2 x3 x4
  (fun i878 i879 i880 i881 i882 i883 b884 l885 l886 l887 => br (!b884)
   (k0 (0 : Int) (1 : Int) l886 l887 l885)
   (c5 x0
    (fun b888 => br (!(!b888))
     (br (decide (i879 < x0))
      (k0 (0 : Int) (2 : Int) l886 l887 l885)
      (br (decide (x0 = i879))
       (k0 x1 (0 : Int) l886 l887 l885)
       (br (decide (i878 = (1 : Int)))
        (c4 x0 i880 l885 l886 l887
         (fun i889 i890 l891 l892 l893 => k0 i889 i890 l891 l892 l893))
        (br (decide (i878 = (18 : Int)))
         (c3 x0 i881 l885 l886 l887
          (fun i894 i895 l896 l897 l898 => k0 i894 i895 l896 l897 l898))
         (br (decide (i878 = (17 : Int)))
          (c2 i881 l885 l886 l887
           (fun i899 l900 l901 l902 => br (decide (x0 ≤ i899))
            (c3 x0 i881 l900 l901 l902
             (fun i903 i904 l905 l906 l907 => k0 i903 i904 l905 l906 l907))
            (br (decide (i878 = (17 : Int)))
             (c1 x0 i881 l900 l901 l902
              (fun i908 i909 l910 l911 l912 => k0 i908 i909 l910 l911 l912))
             (c0 (18 : Int) x0 (0 : Int) x1 (0 : Int) (0 : Int) l900 l901 l902
              (fun i913 i914 l915 l916 l917 => k0 i913 i914 l915 l916 l917)))))
          (br (decide (i878 = (17 : Int)))
           (c1 x0 i881 l885 l886 l887
            (fun i918 i919 l920 l921 l922 => k0 i918 i919 l920 l921 l922))
           (c0 (18 : Int) x0 (0 : Int) x1 (0 : Int) (0 : Int) l885 l886 l887
            (fun i923 i924 l925 l926 l927 => k0 i923 i924 l925 l926 l927))))))))
     (k0 (0 : Int) (2 : Int) l886 l887 l885))))
structure G_term_Arena_Cut_Rec : Type 1 where
  term_Arena_Cut_99d8 : term_Arena_Cut_99d8_Ty
noncomputable def G_term_Arena_Cut_rec (N : Nat) : Nat → G_term_Arena_Cut_Rec
  | 0 => ⟨fun {R} _ _ _ _ _ _ => none⟩
  | n + 1 => ⟨fun {R} x0 x1 x2 x3 x4 k0 => term_Arena_Cut_99d8_T N (@term_Arena_keep_a25e N) (@term_Arena_Ext_99d8 N) (@term_Arena_Width_43b4 N) (@G_term_Arena_Cut_Rec.term_Arena_Cut_99d8 (G_term_Arena_Cut_rec N n)) (@term_Arena_Const_2c81 N) (@wide_May N) (@term_Arena_Node_43b4 N) x0 x1 x2 x3 x4 k0⟩
noncomputable def term_Arena_Cut_99d8 (N : Nat) {R : Type} (x0 : Int) (x1 : Int) (x2 : List ((Int) × ((Int) × ((Int) × ((Int) × ((Int) × (Int))))))) (x3 : List (((Int) × ((Int) × ((Int) × ((Int) × ((Int) × (Int)))))) × (Int))) (x4 : List ((Int) × (Int))) (k0 : (Int) → (Int) → (List (((Int) × ((Int) × ((Int) × ((Int) × ((Int) × (Int)))))) × (Int))) → (List ((Int) × (Int))) → (List ((Int) × ((Int) × ((Int) × ((Int) × ((Int) × (Int))))))) → Option R) : Option R := (G_term_Arena_Cut_rec N N).term_Arena_Cut_99d8 x0 x1 x2 x3 x4 k0
abbrev fix_again_2907_Ty : Type 1 := {R : Type} → (Int) → (Int) → (Int) → (Int) → (Int) → (Int) → (Int) → (Int) → (Int) → (Int) → (List ((Int) × ((Int) × ((Int) × ((Int) × ((Int) × (Int))))))) → (List (((Int) × ((Int) × ((Int) × ((Int) × ((Int) × (Int)))))) × (Int))) → (List ((Int) × (Int))) → ((Int) → (Int) → (List (((Int) × ((Int) × ((Int) × ((Int) × ((Int) × (Int)))))) × (Int))) → (List ((Int) × (Int))) → (List ((Int) × ((Int) × ((Int) × ((Int) × ((Int) × (Int))))))) → Option R) → Option R
noncomputable def fix_again_2907_T (N : Nat) (c0 : term_Arena_Two_12d2_Ty) (c1 : term_Arena_Cut_99d8_Ty) (c2 : term_Arena_Ext_99d8_Ty) (c3 : term_Arena_Ite_12d2_Ty) (c4 : term_Arena_Not_43b4_Ty) {R : Type} (x0 : Int) (x1 : Int) (x2 : Int) (x3 : Int) (x4 : Int) (x5 : Int) (x6 : Int) (x7 : Int) (x8 : Int) (x9 : Int) (x10 : List ((Int) × ((Int) × ((Int) × ((Int) × ((Int) × (Int))))))) (x11 : List (((Int) × ((Int) × ((Int) × ((Int) × ((Int) × (Int)))))) × (Int))) (x12 : List ((Int) × (Int))) (k0 : (Int) → (Int) → (List (((Int) × ((Int) × ((Int) × ((Int) × ((Int) × (Int)))))) × (Int))) → (List ((Int) × (Int))) → (List ((Int) × ((Int) × ((Int) × ((Int) × ((Int) × (Int))))))) → Option R) : Option R :=
  br (decide (x1 = (1 : Int)))
  (k0 x0 (0 : Int) x11 x12 x10)
  (br (decide (x1 = (2 : Int)))
   (k0 x0 (0 : Int) x11 x12 x10)
   (br (decide (x1 = (3 : Int)))
    (c4 x7 x10 x11 x12
     (fun i734 i735 l736 l737 l738 => k0 i734 i735 l736 l737 l738))
    (br (decide (x1 = (16 : Int)))
     (c3 x7 x8 x9 x10 x11 x12
      (fun i810 i811 l812 l813 l814 => k0 i810 i811 l812 l813 l814))
     (br (decide (x1 = (17 : Int)))
      (c2 x2 x7 x10 x11 x12
       (fun i857 i858 l859 l860 l861 => k0 i857 i858 l859 l860 l861))
      (br (decide (x1 = (18 : Int)))
       (c1 x2 x7 x10 x11 x12
        (fun i928 i929 l930 l931 l932 => k0 i928 i929 l930 l931 l932))
       (c0 x1 x7 x8 x10 x11 x12
        (fun i933 i934 l935 l936 l937 => k0 i933 i934 l935 l936 l937)))))))
noncomputable def fix_again_2907 (N : Nat) {R : Type} (x0 : Int) (x1 : Int) (x2 : Int) (x3 : Int) (x4 : Int) (x5 : Int) (x6 : Int) (x7 : Int) (x8 : Int) (x9 : Int) (x10 : List ((Int) × ((Int) × ((Int) × ((Int) × ((Int) × (Int))))))) (x11 : List (((Int) × ((Int) × ((Int) × ((Int) × ((Int) × (Int)))))) × (Int))) (x12 : List ((Int) × (Int))) (k0 : (Int) → (Int) → (List (((Int) × ((Int) × ((Int) × ((Int) × ((Int) × (Int)))))) × (Int))) → (List ((Int) × (Int))) → (List ((Int) × ((Int) × ((Int) × ((Int) × ((Int) × (Int))))))) → Option R) : Option R := fix_again_2907_T N (@term_Arena_Two_12d2 N) (@term_Arena_Cut_99d8 N) (@term_Arena_Ext_99d8 N) (@term_Arena_Ite_12d2 N) (@term_Arena_Not_43b4 N) x0 x1 x2 x3 x4 x5 x6 x7 x8 x9 x10 x11 x12 k0
abbrev fix_Some_390e_l0_Ty : Type 1 := {R : Type} → ((Int) → (Int) → (Int) → (List (((Int) × ((Int) × ((Int) × ((Int) × ((Int) × (Int)))))) × (Int))) → (List ((Int) × (Int))) → (List (Int)) → (List (Int)) → (List ((Int) × ((Int) × ((Int) × ((Int) × ((Int) × (Int))))))) → (List (Int)) → Option R) → ((Int) → (List (((Int) × ((Int) × ((Int) × ((Int) × ((Int) × (Int)))))) × (Int))) → (List ((Int) × (Int))) → (List (Int)) → (List (Int)) → (List ((Int) × ((Int) × ((Int) × ((Int) × ((Int) × (Int))))))) → (List (Int)) → Option R) → Nat → (Int) → (Int) → (Int) → (List (((Int) × ((Int) × ((Int) × ((Int) × ((Int) × (Int)))))) × (Int))) → (List ((Int) × (Int))) → (List (Int)) → (List (Int)) → (List ((Int) × ((Int) × ((Int) × ((Int) × ((Int) × (Int))))))) → (List (Int)) → (List (Int)) → Option R
abbrev fix_Some_390e_Ty : Type 1 := {R : Type} → (Int) → (List ((Int) × ((Int) × ((Int) × ((Int) × ((Int) × (Int))))))) → (List (((Int) × ((Int) × ((Int) × ((Int) × ((Int) × (Int)))))) × (Int))) → (List ((Int) × (Int))) → (List (Int)) → (List (Int)) → ((Int) → (Int) → (List (((Int) × ((Int) × ((Int) × ((Int) × ((Int) × (Int)))))) × (Int))) → (List ((Int) × (Int))) → (List (Int)) → (List (Int)) → (List ((Int) × ((Int) × ((Int) × ((Int) × ((Int) × (Int))))))) → Option R) → Option R
noncomputable def fix_Some_390e_l0_T0 (N : Nat) (c0 : term_Arena_Const_2c81_Ty) (c1 : slices_Index__int_int_310e_Ty) (c2 : fix_again_2907_Ty) (c3 : term_Arena_Under_2549_Ty) (c4 : term_Arena_Node_43b4_Ty) {R : Type} (nx : (Int) → (Int) → (Int) → (List (((Int) × ((Int) × ((Int) × ((Int) × ((Int) × (Int)))))) × (Int))) → (List ((Int) × (Int))) → (List (Int)) → (List (Int)) → (List ((Int) × ((Int) × ((Int) × ((Int) × ((Int) × (Int))))))) → (List (Int)) → (List (Int)) → Option R) (k0 : (Int) → (Int) → (Int) → (List (((Int) × ((Int) × ((Int) × ((Int) × ((Int) × (Int)))))) × (Int))) → (List ((Int) × (Int))) → (List (Int)) → (List (Int)) → (List ((Int) × ((Int) × ((Int) × ((Int) × ((Int) × (Int))))))) → (List (Int)) → Option R) (k1 : (Int) → (List (((Int) × ((Int) × ((Int) × ((Int) × ((Int) × (Int)))))) × (Int))) → (List ((Int) × (Int))) → (List (Int)) → (List (Int)) → (List ((Int) × ((Int) × ((Int) × ((Int) × ((Int) × (Int))))))) → (List (Int)) → Option R) (x0 : Int) (x1 : Int) (x2 : Int) (x3 : List (((Int) × ((Int) × ((Int) × ((Int) × ((Int) × (Int)))))) × (Int))) (x4 : List ((Int) × (Int))) (x5 : List (Int)) (x6 : List (Int)) (x7 : List ((Int) × ((Int) × ((Int) × ((Int) × ((Int) × (Int))))))) (x8 : List (Int)) (x9 : List (Int)) : Option R :=
  br (decide (x2 < x1))
  (br (inB x2 (List.length x9))
   (br (decide ((Int.toNat x2) < (List.length x9)))
    (c4 (List.getD x9 (Int.toNat x2) (0 : Int)) x7 x3 x4
     (fun i1014 i1015 i1016 i1017 i1018 i1019 b1020 l1021 l1022 l1023 => br (inB i1017 (List.length x8))
      (br (decide ((Int.toNat i1017) < (List.length x8)))
       (br (inB i1018 (List.length x8))
        (br (decide ((Int.toNat i1018) < (List.length x8)))
         (br (inB i1019 (List.length x8))
          (br (decide ((Int.toNat i1019) < (List.length x8)))
           (c2 (List.getD x9 (Int.toNat x2) (0 : Int)) i1014 i1015 i1016 i1017 i1018 i1019 (List.getD x8 (Int.toNat i1017) (0 : Int)) (List.getD x8 (Int.toNat i1018) (0 : Int)) (List.getD x8 (Int.toNat i1019) (0 : Int)) l1021 l1022 l1023
            (fun i1024 i1025 l1026 l1027 l1028 => c1 (IntKind.wrap .i64 i1016) x5
             (fun i1029 l1030 => br (decide (i1014 = (2 : Int)))
              (br (decide ((0 : Int) ≤ i1029))
               (br (inB i1029 (List.length x6))
                (br (decide ((Int.toNat i1029) < (List.length x6)))
                 (c0 i1015 (List.getD x6 (Int.toNat i1029) (0 : Int)) l1028 l1026 l1027
                  (fun i1031 i1032 l1033 l1034 l1035 => br (!(decide (i1032 = (0 : Int))))
                   (k0 x0 (0 : Int) i1032 l1033 l1034 l1030 x6 l1035 x8)
                   (br (inB (List.getD x9 (Int.toNat x2) (0 : Int)) (List.length x8))
                    (br (decide ((Int.toNat (List.getD x9 (Int.toNat x2) (0 : Int))) < (List.length x8)))
                     (nx x0 x1 (IntKind.wrap .i64 (x2 + (1 : Int))) l1033 l1034 l1030 x6 l1035 (List.set x8 (Int.toNat (List.getD x9 (Int.toNat x2) (0 : Int))) i1031) x9)
                     (none))
                    (none))))
                 (none))
                (none))
               (br (!(decide (i1025 = (0 : Int))))
                (k0 x0 (0 : Int) i1025 l1026 l1027 l1030 x6 l1028 x8)
                (br (inB (List.getD x9 (Int.toNat x2) (0 : Int)) (List.length x8))
                 (br (decide ((Int.toNat (List.getD x9 (Int.toNat x2) (0 : Int))) < (List.length x8)))
                  (nx x0 x1 (IntKind.wrap .i64 (x2 + (1 : Int))) l1026 l1027 l1030 x6 l1028 (List.set x8 (Int.toNat (List.getD x9 (Int.toNat x2) (0 : Int))) i1024) x9)
                  (none))
                 (none))))
              (br (!(decide (i1025 = (0 : Int))))
               (k0 x0 (0 : Int) i1025 l1026 l1027 l1030 x6 l1028 x8)
               (br (inB (List.getD x9 (Int.toNat x2) (0 : Int)) (List.length x8))
                (br (decide ((Int.toNat (List.getD x9 (Int.toNat x2) (0 : Int))) < (List.length x8)))
                 (nx x0 x1 (IntKind.wrap .i64 (x2 + (1 : Int))) l1026 l1027 l1030 x6 l1028 (List.set x8 (Int.toNat (List.getD x9 (Int.toNat x2) (0 : Int))) i1024) x9)
                 (none))
                (none))))))
           (none))
          (none))
         (none))
        (none))
       (none))
      (none)))
    (none))
   (none))
  (k1 x0 x3 x4 x5 x6 x7 x8)
noncomputable def fix_Some_390e_l0 (N : Nat) {R : Type} (k0 : (Int) → (Int) → (Int) → (List (((Int) × ((Int) × ((Int) × ((Int) × ((Int) × (Int)))))) × (Int))) → (List ((Int) × (Int))) → (List (Int)) → (List (Int)) → (List ((Int) × ((Int) × ((Int) × ((Int) × ((Int) × (Int))))))) → (List (Int)) → Option R) (k1 : (Int) → (List (((Int) × ((Int) × ((Int) × ((Int) × ((Int) × (Int)))))) × (Int))) → (List ((Int) × (Int))) → (List (Int)) → (List (Int)) → (List ((Int) × ((Int) × ((Int) × ((Int) × ((Int) × (Int))))))) → (List (Int)) → Option R) : Nat → (Int) → (Int) → (Int) → (List (((Int) × ((Int) × ((Int) × ((Int) × ((Int) × (Int)))))) × (Int))) → (List ((Int) × (Int))) → (List (Int)) → (List (Int)) → (List ((Int) × ((Int) × ((Int) × ((Int) × ((Int) × (Int))))))) → (List (Int)) → (List (Int)) → Option R
  | 0, _, _, _, _, _, _, _, _, _, _ => none
  | n + 1, x0, x1, x2, x3, x4, x5, x6, x7, x8, x9 => fix_Some_390e_l0_T0 N (@term_Arena_Const_2c81 N) (@slices_Index__int_int_310e N) (@fix_again_2907 N) (@term_Arena_Under_2549 N) (@term_Arena_Node_43b4 N) (fun x0 x1 x2 x3 x4 x5 x6 x7 x8 x9 => fix_Some_390e_l0 N k0 k1 n x0 x1 x2 x3 x4 x5 x6 x7 x8 x9) k0 k1 x0 x1 x2 x3 x4 x5 x6 x7 x8 x9
noncomputable def fix_Some_390e_T (N : Nat) (c0 : term_Arena_Const_2c81_Ty) (c1 : slices_Index__int_int_310e_Ty) (c2 : fix_again_2907_Ty) (c3 : term_Arena_Under_2549_Ty) (c4 : term_Arena_Node_43b4_Ty) (w0 : fix_Some_390e_l0_Ty) {R : Type} (x0 : Int) (x1 : List ((Int) × ((Int) × ((Int) × ((Int) × ((Int) × (Int))))))) (x2 : List (((Int) × ((Int) × ((Int) × ((Int) × ((Int) × (Int)))))) × (Int))) (x3 : List ((Int) × (Int))) (x4 : List (Int)) (x5 : List (Int)) (k0 : (Int) → (Int) → (List (((Int) × ((Int) × ((Int) × ((Int) × ((Int) × (Int)))))) × (Int))) → (List ((Int) × (Int))) → (List (Int)) → (List (Int)) → (List ((Int) × ((Int) × ((Int) × ((Int) × ((Int) × (Int))))))) → Option R) : Option R :=
  c4 x0 x1 x2 x3
  (fun i999 i1000 i1001 i1002 i1003 i1004 b1005 l1006 l1007 l1008 => br (!(!b1005))
   (br (!(decide ((Nat.cast (List.length x4) : Int) = (Nat.cast (List.length x5) : Int))))
    (k0 (0 : Int) (1 : Int) l1007 l1008 x4 x5 l1006)
    (br ((((decide ((0 : Int) ≤ (IntKind.wrap .i64 (x0 + (1 : Int))))) && (decide ((IntKind.wrap .i64 (x0 + (1 : Int))) ≤ (IntKind.wrap .i64 (x0 + (1 : Int)))))) && (decide (((IntKind.wrap .i64 (x0 + (1 : Int))) * (8 : Int)) ≤ ((2 : Int) ^ (46 : Nat))))) && true)
     (c3 l1006 l1007 l1008 (x0 :: ([] : List ((Sh.int IntKind.i64).T)))
      (fun l1009 l1010 l1011 l1012 l1013 => w0
       (fun i1036 i1037 i1038 l1039 l1040 l1041 l1042 l1043 l1044 => k0 i1037 i1038 l1039 l1040 l1041 l1042 l1043)
       (fun i1045 l1046 l1047 l1048 l1049 l1050 l1051 => br (inB i1045 (List.length l1051))
        (br (decide ((Int.toNat i1045) < (List.length l1051)))
         (k0 (List.getD l1051 (Int.toNat i1045) (0 : Int)) (0 : Int) l1046 l1047 l1048 l1049 l1050)
         (none))
        (none))
       N x0 (Nat.cast (List.length l1013) : Int) (0 : Int) l1010 l1011 x4 x5 l1009 (List.replicate (Int.toNat (IntKind.wrap .i64 (x0 + (1 : Int)))) (0 : Int)) l1013))
     (none)))
   (k0 (0 : Int) (1 : Int) l1007 l1008 x4 x5 l1006))
noncomputable def fix_Some_390e (N : Nat) {R : Type} (x0 : Int) (x1 : List ((Int) × ((Int) × ((Int) × ((Int) × ((Int) × (Int))))))) (x2 : List (((Int) × ((Int) × ((Int) × ((Int) × ((Int) × (Int)))))) × (Int))) (x3 : List ((Int) × (Int))) (x4 : List (Int)) (x5 : List (Int)) (k0 : (Int) → (Int) → (List (((Int) × ((Int) × ((Int) × ((Int) × ((Int) × (Int)))))) × (Int))) → (List ((Int) × (Int))) → (List (Int)) → (List (Int)) → (List ((Int) × ((Int) × ((Int) × ((Int) × ((Int) × (Int))))))) → Option R) : Option R := fix_Some_390e_T N (@term_Arena_Const_2c81 N) (@slices_Index__int_int_310e N) (@fix_again_2907 N) (@term_Arena_Under_2549 N) (@term_Arena_Node_43b4 N) (@fix_Some_390e_l0 N) x0 x1 x2 x3 x4 x5 k0
abbrev law3_awake_Ty : Type 1 := {R : Type} → ((Bool) → Option R) → Option R
noncomputable def law3_awake_T (N : Nat) (c0 : fix_Size_43b4_Ty) (c1 : fix_All_97a4_Ty) (c2 : fix_All_2549_Ty) (c3 : term_Arena_Known_43b4_Ty) (c4 : fix_Some_390e_Ty) (c5 : term_Arena_Two_12d2_Ty) (c6 : term_Arena_Const_2c81_Ty) (c7 : term_Arena_Var_99d8_Ty) (c8 : term_New_Ty) {R : Type} (k0 : (Bool) → Option R) : Option R :=
  c8
  (fun l0 l1 l2 => c7 (8 : Int) (0 : Int) l0 l1 l2
   (fun i20 i21 l22 l23 l24 => c6 (8 : Int) (5 : Int) l24 l22 l23
    (fun i40 i41 l42 l43 l44 => c5 (9 : Int) i20 i40 l44 l42 l43
     (fun i667 i668 l669 l670 l671 => c4 i667 l671 l669 l670 ((0 : Int) :: ([] : List ((Sh.int IntKind.i64).T))) ((7 : Int) :: ([] : List ((Sh.int IntKind.u16).T)))
      (fun i1052 i1053 l1054 l1055 l1056 l1057 l1058 => c3 i1052 l1058 l1054 l1055
       (fun i1059 b1060 l1061 l1062 l1063 => c1 l1061 l1062 l1063
        (fun i1089 i1090 l1091 l1092 l1093 => c3 i1089 l1093 l1091 l1092
         (fun i1094 b1095 l1096 l1097 l1098 => br (decide (i1053 = (0 : Int)))
          (br (decide (i1090 = (0 : Int)))
           (br b1060
            (br (decide (i1059 = (35 : Int)))
             (br b1095
              (br (decide (i1094 = (1 : Int)))
               (c0 i40 l1096 l1097 l1098
                (fun i1114 l1115 l1116 l1117 => br (decide (i1114 = (1 : Int)))
                 (c0 i667 l1115 l1116 l1117
                  (fun i1118 l1119 l1120 l1121 => k0 (decide ((1 : Int) ≤ i1118))))
                 (k0 false)))
               (k0 false))
              (k0 false))
             (k0 false))
            (k0 false))
           (k0 false))
          (k0 false)))))))))
noncomputable def law3_awake (N : Nat) {R : Type} (k0 : (Bool) → Option R) : Option R := law3_awake_T N (@fix_Size_43b4 N) (@fix_All_97a4 N) (@fix_All_2549 N) (@term_Arena_Known_43b4 N) (@fix_Some_390e N) (@term_Arena_Two_12d2 N) (@term_Arena_Const_2c81 N) (@term_Arena_Var_99d8 N) (@term_New N) k0
abbrev term_Arena_quick_683d_Ty : Type 1 := {R : Type} → (Int) → (List (Int)) → (List ((Int) × ((Int) × ((Int) × ((Int) × ((Int) × (Int))))))) → (List (((Int) × ((Int) × ((Int) × ((Int) × ((Int) × (Int)))))) × (Int))) → (List ((Int) × (Int))) → (Int) → ((Int) → (Bool) → (List ((Int) × ((Int) × ((Int) × ((Int) × ((Int) × (Int))))))) → (List (((Int) × ((Int) × ((Int) × ((Int) × ((Int) × (Int)))))) × (Int))) → (List ((Int) × (Int))) → (Int) → Option R) → Option R
noncomputable def term_Arena_quick_683d_T (N : Nat) (c0 : term_Value_Ty) (c1 : term_Arena_Width_43b4_Ty) (c2 : term_Arena_quick_683d_Ty) {R : Type} (x0 : Int) (x1 : List (Int)) (x2 : List ((Int) × ((Int) × ((Int) × ((Int) × ((Int) × (Int))))))) (x3 : List (((Int) × ((Int) × ((Int) × ((Int) × ((Int) × (Int)))))) × (Int))) (x4 : List ((Int) × (Int))) (x5 : Int) (k0 : (Int) → (Bool) → (List ((Int) × ((Int) × ((Int) × ((Int) × ((Int) × (Int))))))) → (List (((Int) × ((Int) × ((Int) × ((Int) × ((Int) × (Int)))))) × (Int))) → (List ((Int) × (Int))) → (Int) → Option R) : Option R :=
  br (decide (x0 = (0 : Int)))
  (k0 (0 : Int) true x2 x3 x4 x5)
  (br (decide ((IntKind.wrap .i64 (x5 - (1 : Int))) < (0 : Int)))
   (k0 (0 : Int) false x2 x3 x4 (IntKind.wrap .i64 (x5 - (1 : Int))))
   (br (inB (IntKind.wrap .i64 (x0 - (1 : Int))) (List.length x2))
    (br (decide ((Int.toNat (IntKind.wrap .i64 (x0 - (1 : Int)))) < (List.length x2)))
     (c2 (List.getD x2 (Int.toNat (IntKind.wrap .i64 (x0 - (1 : Int)))) ((0 : Int) , ((0 : Int) , ((0 : Int) , ((0 : Int) , ((0 : Int) , (0 : Int))))))).2.2.2.1 x1 x2 x3 x4 (IntKind.wrap .i64 (x5 - (1 : Int)))
      (fun i1302 b1303 l1304 l1305 l1306 i1307 => br (!b1303)
       (k0 (0 : Int) false l1304 l1305 l1306 i1307)
       (c2 (List.getD x2 (Int.toNat (IntKind.wrap .i64 (x0 - (1 : Int)))) ((0 : Int) , ((0 : Int) , ((0 : Int) , ((0 : Int) , ((0 : Int) , (0 : Int))))))).2.2.2.2.1 x1 l1304 l1305 l1306 i1307
        (fun i1308 b1309 l1310 l1311 l1312 i1313 => br (!b1309)
         (k0 (0 : Int) false l1310 l1311 l1312 i1313)
         (c2 (List.getD x2 (Int.toNat (IntKind.wrap .i64 (x0 - (1 : Int)))) ((0 : Int) , ((0 : Int) , ((0 : Int) , ((0 : Int) , ((0 : Int) , (0 : Int))))))).2.2.2.2.2 x1 l1310 l1311 l1312 i1313
          (fun i1314 b1315 l1316 l1317 l1318 i1319 => c1 (List.getD x2 (Int.toNat (IntKind.wrap .i64 (x0 - (1 : Int)))) ((0 : Int) , ((0 : Int) , ((0 : Int) , ((0 : Int) , ((0 : Int) , (0 : Int))))))).2.2.2.1 l1316 l1317 l1318
           (fun i1320 l1321 l1322 l1323 => br (decide ((List.getD x2 (Int.toNat (IntKind.wrap .i64 (x0 - (1 : Int)))) ((0 : Int) , ((0 : Int) , ((0 : Int) , ((0 : Int) , ((0 : Int) , (0 : Int))))))).1 = (List.getD x2 (Int.toNat (IntKind.wrap .i64 (x0 - (1 : Int)))) ((0 : Int) , ((0 : Int) , ((0 : Int) , ((0 : Int) , ((0 : Int) , (0 : Int))))))).1))
            (br (decide ((List.getD x2 (Int.toNat (IntKind.wrap .i64 (x0 - (1 : Int)))) ((0 : Int) , ((0 : Int) , ((0 : Int) , ((0 : Int) , ((0 : Int) , (0 : Int))))))).2.1 = (List.getD x2 (Int.toNat (IntKind.wrap .i64 (x0 - (1 : Int)))) ((0 : Int) , ((0 : Int) , ((0 : Int) , ((0 : Int) , ((0 : Int) , (0 : Int))))))).2.1))
             (br (decide ((List.getD x2 (Int.toNat (IntKind.wrap .i64 (x0 - (1 : Int)))) ((0 : Int) , ((0 : Int) , ((0 : Int) , ((0 : Int) , ((0 : Int) , (0 : Int))))))).2.2.1 = (List.getD x2 (Int.toNat (IntKind.wrap .i64 (x0 - (1 : Int)))) ((0 : Int) , ((0 : Int) , ((0 : Int) , ((0 : Int) , ((0 : Int) , (0 : Int))))))).2.2.1))
              (br (decide ((List.getD x2 (Int.toNat (IntKind.wrap .i64 (x0 - (1 : Int)))) ((0 : Int) , ((0 : Int) , ((0 : Int) , ((0 : Int) , ((0 : Int) , (0 : Int))))))).2.2.2.1 = (List.getD x2 (Int.toNat (IntKind.wrap .i64 (x0 - (1 : Int)))) ((0 : Int) , ((0 : Int) , ((0 : Int) , ((0 : Int) , ((0 : Int) , (0 : Int))))))).2.2.2.1))
               (br (decide ((List.getD x2 (Int.toNat (IntKind.wrap .i64 (x0 - (1 : Int)))) ((0 : Int) , ((0 : Int) , ((0 : Int) , ((0 : Int) , ((0 : Int) , (0 : Int))))))).2.2.2.2.1 = (List.getD x2 (Int.toNat (IntKind.wrap .i64 (x0 - (1 : Int)))) ((0 : Int) , ((0 : Int) , ((0 : Int) , ((0 : Int) , ((0 : Int) , (0 : Int))))))).2.2.2.2.1))
                (br (decide ((List.getD x2 (Int.toNat (IntKind.wrap .i64 (x0 - (1 : Int)))) ((0 : Int) , ((0 : Int) , ((0 : Int) , ((0 : Int) , ((0 : Int) , (0 : Int))))))).2.2.2.2.2 = (List.getD x2 (Int.toNat (IntKind.wrap .i64 (x0 - (1 : Int)))) ((0 : Int) , ((0 : Int) , ((0 : Int) , ((0 : Int) , ((0 : Int) , (0 : Int))))))).2.2.2.2.2))
                 (br (decide (i1302 = i1302))
                  (br (decide (i1308 = i1308))
                   (br (decide (i1314 = i1314))
                    (br (listDec (Sh.dec (.int .u16)) x1 x1)
                     (br (b1315 == b1315)
                      (c0 (List.getD x2 (Int.toNat (IntKind.wrap .i64 (x0 - (1 : Int)))) ((0 : Int) , ((0 : Int) , ((0 : Int) , ((0 : Int) , ((0 : Int) , (0 : Int))))))).1 (List.getD x2 (Int.toNat (IntKind.wrap .i64 (x0 - (1 : Int)))) ((0 : Int) , ((0 : Int) , ((0 : Int) , ((0 : Int) , ((0 : Int) , (0 : Int))))))).2.1 (List.getD x2 (Int.toNat (IntKind.wrap .i64 (x0 - (1 : Int)))) ((0 : Int) , ((0 : Int) , ((0 : Int) , ((0 : Int) , ((0 : Int) , (0 : Int))))))).2.2.1 (List.getD x2 (Int.toNat (IntKind.wrap .i64 (x0 - (1 : Int)))) ((0 : Int) , ((0 : Int) , ((0 : Int) , ((0 : Int) , ((0 : Int) , (0 : Int))))))).2.2.2.1 (List.getD x2 (Int.toNat (IntKind.wrap .i64 (x0 - (1 : Int)))) ((0 : Int) , ((0 : Int) , ((0 : Int) , ((0 : Int) , ((0 : Int) , (0 : Int))))))).2.2.2.2.1 (List.getD x2 (Int.toNat (IntKind.wrap .i64 (x0 - (1 : Int)))) ((0 : Int) , ((0 : Int) , ((0 : Int) , ((0 : Int) , ((0 : Int) , (0 : Int))))))).2.2.2.2.2 i1320 i1302 i1308 i1314 x1
                       (fun i1328 => br (b1315 == b1315)
                        (k0 i1328 b1315 l1321 l1322 l1323 i1319)
                        (none)))
                      (none))
                     (none))
                    (none))
                   (none))
                  (none))
                 (none))
                (none))
               (none))
              (none))
             (none))
            (none))))))))
     (none))
    (none)))
structure G_term_Arena_quick_Rec : Type 1 where
  term_Arena_quick_683d : term_Arena_quick_683d_Ty
noncomputable def G_term_Arena_quick_rec (N : Nat) : Nat → G_term_Arena_quick_Rec
  | 0 => ⟨fun {R} _ _ _ _ _ _ _ => none⟩
  | n + 1 => ⟨fun {R} x0 x1 x2 x3 x4 x5 k0 => term_Arena_quick_683d_T N (@term_Value N) (@term_Arena_Width_43b4 N) (@G_term_Arena_quick_Rec.term_Arena_quick_683d (G_term_Arena_quick_rec N n)) x0 x1 x2 x3 x4 x5 k0⟩
noncomputable def term_Arena_quick_683d (N : Nat) {R : Type} (x0 : Int) (x1 : List (Int)) (x2 : List ((Int) × ((Int) × ((Int) × ((Int) × ((Int) × (Int))))))) (x3 : List (((Int) × ((Int) × ((Int) × ((Int) × ((Int) × (Int)))))) × (Int))) (x4 : List ((Int) × (Int))) (x5 : Int) (k0 : (Int) → (Bool) → (List ((Int) × ((Int) × ((Int) × ((Int) × ((Int) × (Int))))))) → (List (((Int) × ((Int) × ((Int) × ((Int) × ((Int) × (Int)))))) × (Int))) → (List ((Int) × (Int))) → (Int) → Option R) : Option R := (G_term_Arena_quick_rec N N).term_Arena_quick_683d x0 x1 x2 x3 x4 x5 k0
abbrev term_Arena_Eval_1318_l0_Ty : Type 1 := {R : Type} → ((Int) → (List ((Int) × ((Int) × ((Int) × ((Int) × ((Int) × (Int))))))) → (List (((Int) × ((Int) × ((Int) × ((Int) × ((Int) × (Int)))))) × (Int))) → (List ((Int) × (Int))) → (List (Int)) → Option R) → Nat → (Int) → (List (Int)) → (Int) → (Int) → (List ((Int) × ((Int) × ((Int) × ((Int) × ((Int) × (Int))))))) → (List (((Int) × ((Int) × ((Int) × ((Int) × ((Int) × (Int)))))) × (Int))) → (List ((Int) × (Int))) → (List (Int)) → (List (Int)) → Option R
abbrev term_Arena_Eval_1318_Ty : Type 1 := {R : Type} → (Int) → (List (Int)) → (List ((Int) × ((Int) × ((Int) × ((Int) × ((Int) × (Int))))))) → (List (((Int) × ((Int) × ((Int) × ((Int) × ((Int) × (Int)))))) × (Int))) → (List ((Int) × (Int))) → ((Int) → (List ((Int) × ((Int) × ((Int) × ((Int) × ((Int) × (Int))))))) → (List (((Int) × ((Int) × ((Int) × ((Int) × ((Int) × (Int)))))) × (Int))) → (List ((Int) × (Int))) → Option R) → Option R
noncomputable def term_Arena_Eval_1318_l0_T0 (N : Nat) (c0 : term_Value_Ty) (c1 : term_Arena_Width_43b4_Ty) (c2 : term_Arena_Under_2549_Ty) (c3 : term_Arena_quick_683d_Ty) (c4 : term_Arena_there_2549_Ty) {R : Type} (nx : (Int) → (List (Int)) → (Int) → (Int) → (List ((Int) × ((Int) × ((Int) × ((Int) × ((Int) × (Int))))))) → (List (((Int) × ((Int) × ((Int) × ((Int) × ((Int) × (Int)))))) × (Int))) → (List ((Int) × (Int))) → (List (Int)) → (List (Int)) → Option R) (k0 : (Int) → (List ((Int) × ((Int) × ((Int) × ((Int) × ((Int) × (Int))))))) → (List (((Int) × ((Int) × ((Int) × ((Int) × ((Int) × (Int)))))) × (Int))) → (List ((Int) × (Int))) → (List (Int)) → Option R) (x0 : Int) (x1 : List (Int)) (x2 : Int) (x3 : Int) (x4 : List ((Int) × ((Int) × ((Int) × ((Int) × ((Int) × (Int))))))) (x5 : List (((Int) × ((Int) × ((Int) × ((Int) × ((Int) × (Int)))))) × (Int))) (x6 : List ((Int) × (Int))) (x7 : List (Int)) (x8 : List (Int)) : Option R :=
  br (decide (x3 < x2))
  (br (inB x3 (List.length x8))
   (br (decide ((Int.toNat x3) < (List.length x8)))
    (br (inB (IntKind.wrap .i64 ((List.getD x8 (Int.toNat x3) (0 : Int)) - (1 : Int))) (List.length x4))
     (br (decide ((Int.toNat (IntKind.wrap .i64 ((List.getD x8 (Int.toNat x3) (0 : Int)) - (1 : Int)))) < (List.length x4)))
      (br (inB (List.getD x4 (Int.toNat (IntKind.wrap .i64 ((List.getD x8 (Int.toNat x3) (0 : Int)) - (1 : Int)))) ((0 : Int) , ((0 : Int) , ((0 : Int) , ((0 : Int) , ((0 : Int) , (0 : Int))))))).2.2.2.1 (List.length x7))
       (br (decide ((Int.toNat (List.getD x4 (Int.toNat (IntKind.wrap .i64 ((List.getD x8 (Int.toNat x3) (0 : Int)) - (1 : Int)))) ((0 : Int) , ((0 : Int) , ((0 : Int) , ((0 : Int) , ((0 : Int) , (0 : Int))))))).2.2.2.1) < (List.length x7)))
        (br (inB (List.getD x4 (Int.toNat (IntKind.wrap .i64 ((List.getD x8 (Int.toNat x3) (0 : Int)) - (1 : Int)))) ((0 : Int) , ((0 : Int) , ((0 : Int) , ((0 : Int) , ((0 : Int) , (0 : Int))))))).2.2.2.2.1 (List.length x7))
         (br (decide ((Int.toNat (List.getD x4 (Int.toNat (IntKind.wrap .i64 ((List.getD x8 (Int.toNat x3) (0 : Int)) - (1 : Int)))) ((0 : Int) , ((0 : Int) , ((0 : Int) , ((0 : Int) , ((0 : Int) , (0 : Int))))))).2.2.2.2.1) < (List.length x7)))
          (br (inB (List.getD x4 (Int.toNat (IntKind.wrap .i64 ((List.getD x8 (Int.toNat x3) (0 : Int)) - (1 : Int)))) ((0 : Int) , ((0 : Int) , ((0 : Int) , ((0 : Int) , ((0 : Int) , (0 : Int))))))).2.2.2.2.2 (List.length x7))
           (br (decide ((Int.toNat (List.getD x4 (Int.toNat (IntKind.wrap .i64 ((List.getD x8 (Int.toNat x3) (0 : Int)) - (1 : Int)))) ((0 : Int) , ((0 : Int) , ((0 : Int) , ((0 : Int) , ((0 : Int) , (0 : Int))))))).2.2.2.2.2) < (List.length x7)))
            (c1 (List.getD x4 (Int.toNat (IntKind.wrap .i64 ((List.getD x8 (Int.toNat x3) (0 : Int)) - (1 : Int)))) ((0 : Int) , ((0 : Int) , ((0 : Int) , ((0 : Int) , ((0 : Int) , (0 : Int))))))).2.2.2.1 x4 x5 x6
             (fun i1340 l1341 l1342 l1343 => br (decide ((List.getD x8 (Int.toNat x3) (0 : Int)) = (List.getD x8 (Int.toNat x3) (0 : Int))))
              (br (decide ((List.getD x4 (Int.toNat (IntKind.wrap .i64 ((List.getD x8 (Int.toNat x3) (0 : Int)) - (1 : Int)))) ((0 : Int) , ((0 : Int) , ((0 : Int) , ((0 : Int) , ((0 : Int) , (0 : Int))))))).1 = (List.getD x4 (Int.toNat (IntKind.wrap .i64 ((List.getD x8 (Int.toNat x3) (0 : Int)) - (1 : Int)))) ((0 : Int) , ((0 : Int) , ((0 : Int) , ((0 : Int) , ((0 : Int) , (0 : Int))))))).1))
               (br (decide ((List.getD x4 (Int.toNat (IntKind.wrap .i64 ((List.getD x8 (Int.toNat x3) (0 : Int)) - (1 : Int)))) ((0 : Int) , ((0 : Int) , ((0 : Int) , ((0 : Int) , ((0 : Int) , (0 : Int))))))).2.1 = (List.getD x4 (Int.toNat (IntKind.wrap .i64 ((List.getD x8 (Int.toNat x3) (0 : Int)) - (1 : Int)))) ((0 : Int) , ((0 : Int) , ((0 : Int) , ((0 : Int) , ((0 : Int) , (0 : Int))))))).2.1))
                (br (decide ((List.getD x4 (Int.toNat (IntKind.wrap .i64 ((List.getD x8 (Int.toNat x3) (0 : Int)) - (1 : Int)))) ((0 : Int) , ((0 : Int) , ((0 : Int) , ((0 : Int) , ((0 : Int) , (0 : Int))))))).2.2.1 = (List.getD x4 (Int.toNat (IntKind.wrap .i64 ((List.getD x8 (Int.toNat x3) (0 : Int)) - (1 : Int)))) ((0 : Int) , ((0 : Int) , ((0 : Int) , ((0 : Int) , ((0 : Int) , (0 : Int))))))).2.2.1))
                 (br (decide ((List.getD x4 (Int.toNat (IntKind.wrap .i64 ((List.getD x8 (Int.toNat x3) (0 : Int)) - (1 : Int)))) ((0 : Int) , ((0 : Int) , ((0 : Int) , ((0 : Int) , ((0 : Int) , (0 : Int))))))).2.2.2.1 = (List.getD x4 (Int.toNat (IntKind.wrap .i64 ((List.getD x8 (Int.toNat x3) (0 : Int)) - (1 : Int)))) ((0 : Int) , ((0 : Int) , ((0 : Int) , ((0 : Int) , ((0 : Int) , (0 : Int))))))).2.2.2.1))
                  (br (decide ((List.getD x4 (Int.toNat (IntKind.wrap .i64 ((List.getD x8 (Int.toNat x3) (0 : Int)) - (1 : Int)))) ((0 : Int) , ((0 : Int) , ((0 : Int) , ((0 : Int) , ((0 : Int) , (0 : Int))))))).2.2.2.2.1 = (List.getD x4 (Int.toNat (IntKind.wrap .i64 ((List.getD x8 (Int.toNat x3) (0 : Int)) - (1 : Int)))) ((0 : Int) , ((0 : Int) , ((0 : Int) , ((0 : Int) , ((0 : Int) , (0 : Int))))))).2.2.2.2.1))
                   (br (decide ((List.getD x4 (Int.toNat (IntKind.wrap .i64 ((List.getD x8 (Int.toNat x3) (0 : Int)) - (1 : Int)))) ((0 : Int) , ((0 : Int) , ((0 : Int) , ((0 : Int) , ((0 : Int) , (0 : Int))))))).2.2.2.2.2 = (List.getD x4 (Int.toNat (IntKind.wrap .i64 ((List.getD x8 (Int.toNat x3) (0 : Int)) - (1 : Int)))) ((0 : Int) , ((0 : Int) , ((0 : Int) , ((0 : Int) , ((0 : Int) , (0 : Int))))))).2.2.2.2.2))
                    (br (decide ((List.getD x4 (Int.toNat (IntKind.wrap .i64 ((List.getD x8 (Int.toNat x3) (0 : Int)) - (1 : Int)))) ((0 : Int) , ((0 : Int) , ((0 : Int) , ((0 : Int) , ((0 : Int) , (0 : Int))))))).2.2.2.1 = (List.getD x4 (Int.toNat (IntKind.wrap .i64 ((List.getD x8 (Int.toNat x3) (0 : Int)) - (1 : Int)))) ((0 : Int) , ((0 : Int) , ((0 : Int) , ((0 : Int) , ((0 : Int) , (0 : Int))))))).2.2.2.1))
                     (br (inB (List.getD x4 (Int.toNat (IntKind.wrap .i64 ((List.getD x8 (Int.toNat x3) (0 : Int)) - (1 : Int)))) ((0 : Int) , ((0 : Int) , ((0 : Int) , ((0 : Int) , ((0 : Int) , (0 : Int))))))).2.2.2.1 (List.length x7))
                      (br (decide ((List.getD x4 (Int.toNat (IntKind.wrap .i64 ((List.getD x8 (Int.toNat x3) (0 : Int)) - (1 : Int)))) ((0 : Int) , ((0 : Int) , ((0 : Int) , ((0 : Int) , ((0 : Int) , (0 : Int))))))).2.2.2.1 = (List.getD x4 (Int.toNat (IntKind.wrap .i64 ((List.getD x8 (Int.toNat x3) (0 : Int)) - (1 : Int)))) ((0 : Int) , ((0 : Int) , ((0 : Int) , ((0 : Int) , ((0 : Int) , (0 : Int))))))).2.2.2.1))
                       (br (decide ((Int.toNat (List.getD x4 (Int.toNat (IntKind.wrap .i64 ((List.getD x8 (Int.toNat x3) (0 : Int)) - (1 : Int)))) ((0 : Int) , ((0 : Int) , ((0 : Int) , ((0 : Int) , ((0 : Int) , (0 : Int))))))).2.2.2.1) < (List.length x7)))
                        (br (decide ((List.getD x7 (Int.toNat (List.getD x4 (Int.toNat (IntKind.wrap .i64 ((List.getD x8 (Int.toNat x3) (0 : Int)) - (1 : Int)))) ((0 : Int) , ((0 : Int) , ((0 : Int) , ((0 : Int) , ((0 : Int) , (0 : Int))))))).2.2.2.1) (0 : Int)) = (List.getD x7 (Int.toNat (List.getD x4 (Int.toNat (IntKind.wrap .i64 ((List.getD x8 (Int.toNat x3) (0 : Int)) - (1 : Int)))) ((0 : Int) , ((0 : Int) , ((0 : Int) , ((0 : Int) , ((0 : Int) , (0 : Int))))))).2.2.2.1) (0 : Int))))
                         (br (decide ((List.getD x4 (Int.toNat (IntKind.wrap .i64 ((List.getD x8 (Int.toNat x3) (0 : Int)) - (1 : Int)))) ((0 : Int) , ((0 : Int) , ((0 : Int) , ((0 : Int) , ((0 : Int) , (0 : Int))))))).2.2.2.2.1 = (List.getD x4 (Int.toNat (IntKind.wrap .i64 ((List.getD x8 (Int.toNat x3) (0 : Int)) - (1 : Int)))) ((0 : Int) , ((0 : Int) , ((0 : Int) , ((0 : Int) , ((0 : Int) , (0 : Int))))))).2.2.2.2.1))
                          (br (inB (List.getD x4 (Int.toNat (IntKind.wrap .i64 ((List.getD x8 (Int.toNat x3) (0 : Int)) - (1 : Int)))) ((0 : Int) , ((0 : Int) , ((0 : Int) , ((0 : Int) , ((0 : Int) , (0 : Int))))))).2.2.2.2.1 (List.length x7))
                           (br (decide ((List.getD x4 (Int.toNat (IntKind.wrap .i64 ((List.getD x8 (Int.toNat x3) (0 : Int)) - (1 : Int)))) ((0 : Int) , ((0 : Int) , ((0 : Int) , ((0 : Int) , ((0 : Int) , (0 : Int))))))).2.2.2.2.1 = (List.getD x4 (Int.toNat (IntKind.wrap .i64 ((List.getD x8 (Int.toNat x3) (0 : Int)) - (1 : Int)))) ((0 : Int) , ((0 : Int) , ((0 : Int) , ((0 : Int) , ((0 : Int) , (0 : Int))))))).2.2.2.2.1))
                            (br (decide ((Int.toNat (List.getD x4 (Int.toNat (IntKind.wrap .i64 ((List.getD x8 (Int.toNat x3) (0 : Int)) - (1 : Int)))) ((0 : Int) , ((0 : Int) , ((0 : Int) , ((0 : Int) , ((0 : Int) , (0 : Int))))))).2.2.2.2.1) < (List.length x7)))
                             (br (decide ((List.getD x7 (Int.toNat (List.getD x4 (Int.toNat (IntKind.wrap .i64 ((List.getD x8 (Int.toNat x3) (0 : Int)) - (1 : Int)))) ((0 : Int) , ((0 : Int) , ((0 : Int) , ((0 : Int) , ((0 : Int) , (0 : Int))))))).2.2.2.2.1) (0 : Int)) = (List.getD x7 (Int.toNat (List.getD x4 (Int.toNat (IntKind.wrap .i64 ((List.getD x8 (Int.toNat x3) (0 : Int)) - (1 : Int)))) ((0 : Int) , ((0 : Int) , ((0 : Int) , ((0 : Int) , ((0 : Int) , (0 : Int))))))).2.2.2.2.1) (0 : Int))))
                              (br (decide ((List.getD x4 (Int.toNat (IntKind.wrap .i64 ((List.getD x8 (Int.toNat x3) (0 : Int)) - (1 : Int)))) ((0 : Int) , ((0 : Int) , ((0 : Int) , ((0 : Int) , ((0 : Int) , (0 : Int))))))).2.2.2.2.2 = (List.getD x4 (Int.toNat (IntKind.wrap .i64 ((List.getD x8 (Int.toNat x3) (0 : Int)) - (1 : Int)))) ((0 : Int) , ((0 : Int) , ((0 : Int) , ((0 : Int) , ((0 : Int) , (0 : Int))))))).2.2.2.2.2))
                               (br (inB (List.getD x4 (Int.toNat (IntKind.wrap .i64 ((List.getD x8 (Int.toNat x3) (0 : Int)) - (1 : Int)))) ((0 : Int) , ((0 : Int) , ((0 : Int) , ((0 : Int) , ((0 : Int) , (0 : Int))))))).2.2.2.2.2 (List.length x7))
                                (br (decide ((List.getD x4 (Int.toNat (IntKind.wrap .i64 ((List.getD x8 (Int.toNat x3) (0 : Int)) - (1 : Int)))) ((0 : Int) , ((0 : Int) , ((0 : Int) , ((0 : Int) , ((0 : Int) , (0 : Int))))))).2.2.2.2.2 = (List.getD x4 (Int.toNat (IntKind.wrap .i64 ((List.getD x8 (Int.toNat x3) (0 : Int)) - (1 : Int)))) ((0 : Int) , ((0 : Int) , ((0 : Int) , ((0 : Int) , ((0 : Int) , (0 : Int))))))).2.2.2.2.2))
                                 (br (decide ((Int.toNat (List.getD x4 (Int.toNat (IntKind.wrap .i64 ((List.getD x8 (Int.toNat x3) (0 : Int)) - (1 : Int)))) ((0 : Int) , ((0 : Int) , ((0 : Int) , ((0 : Int) , ((0 : Int) , (0 : Int))))))).2.2.2.2.2) < (List.length x7)))
                                  (br (decide ((List.getD x7 (Int.toNat (List.getD x4 (Int.toNat (IntKind.wrap .i64 ((List.getD x8 (Int.toNat x3) (0 : Int)) - (1 : Int)))) ((0 : Int) , ((0 : Int) , ((0 : Int) , ((0 : Int) , ((0 : Int) , (0 : Int))))))).2.2.2.2.2) (0 : Int)) = (List.getD x7 (Int.toNat (List.getD x4 (Int.toNat (IntKind.wrap .i64 ((List.getD x8 (Int.toNat x3) (0 : Int)) - (1 : Int)))) ((0 : Int) , ((0 : Int) , ((0 : Int) , ((0 : Int) , ((0 : Int) , (0 : Int))))))).2.2.2.2.2) (0 : Int))))
                                   (br (listDec (Sh.dec (.int .u16)) x1 x1)
                                    (c0 (List.getD x4 (Int.toNat (IntKind.wrap .i64 ((List.getD x8 (Int.toNat x3) (0 : Int)) - (1 : Int)))) ((0 : Int) , ((0 : Int) , ((0 : Int) , ((0 : Int) , ((0 : Int) , (0 : Int))))))).1 (List.getD x4 (Int.toNat (IntKind.wrap .i64 ((List.getD x8 (Int.toNat x3) (0 : Int)) - (1 : Int)))) ((0 : Int) , ((0 : Int) , ((0 : Int) , ((0 : Int) , ((0 : Int) , (0 : Int))))))).2.1 (List.getD x4 (Int.toNat (IntKind.wrap .i64 ((List.getD x8 (Int.toNat x3) (0 : Int)) - (1 : Int)))) ((0 : Int) , ((0 : Int) , ((0 : Int) , ((0 : Int) , ((0 : Int) , (0 : Int))))))).2.2.1 (List.getD x4 (Int.toNat (IntKind.wrap .i64 ((List.getD x8 (Int.toNat x3) (0 : Int)) - (1 : Int)))) ((0 : Int) , ((0 : Int) , ((0 : Int) , ((0 : Int) , ((0 : Int) , (0 : Int))))))).2.2.2.1 (List.getD x4 (Int.toNat (IntKind.wrap .i64 ((List.getD x8 (Int.toNat x3) (0 : Int)) - (1 : Int)))) ((0 : Int) , ((0 : Int) , ((0 : Int) , ((0 : Int) , ((0 : Int) , (0 : Int))))))).2.2.2.2.1 (List.getD x4 (Int.toNat (IntKind.wrap .i64 ((List.getD x8 (Int.toNat x3) (0 : Int)) - (1 : Int)))) ((0 : Int) , ((0 : Int) , ((0 : Int) , ((0 : Int) , ((0 : Int) , (0 : Int))))))).2.2.2.2.2 i1340 (List.getD x7 (Int.toNat (List.getD x4 (Int.toNat (IntKind.wrap .i64 ((List.getD x8 (Int.toNat x3) (0 : Int)) - (1 : Int)))) ((0 : Int) , ((0 : Int) , ((0 : Int) , ((0 : Int) , ((0 : Int) , (0 : Int))))))).2.2.2.1) (0 : Int)) (List.getD x7 (Int.toNat (List.getD x4 (Int.toNat (IntKind.wrap .i64 ((List.getD x8 (Int.toNat x3) (0 : Int)) - (1 : Int)))) ((0 : Int) , ((0 : Int) , ((0 : Int) , ((0 : Int) , ((0 : Int) , (0 : Int))))))).2.2.2.2.1) (0 : Int)) (List.getD x7 (Int.toNat (List.getD x4 (Int.toNat (IntKind.wrap .i64 ((List.getD x8 (Int.toNat x3) (0 : Int)) - (1 : Int)))) ((0 : Int) , ((0 : Int) , ((0 : Int) , ((0 : Int) , ((0 : Int) , (0 : Int))))))).2.2.2.2.2) (0 : Int)) x1
                                     (fun i1344 => br (decide ((List.getD x8 (Int.toNat x3) (0 : Int)) = (List.getD x8 (Int.toNat x3) (0 : Int))))
                                      (br (inB (List.getD x8 (Int.toNat x3) (0 : Int)) (List.length x7))
                                       (br (decide ((Int.toNat (List.getD x8 (Int.toNat x3) (0 : Int))) < (List.length x7)))
                                        (nx x0 x1 x2 (IntKind.wrap .i64 (x3 + (1 : Int))) l1341 l1342 l1343 (List.set x7 (Int.toNat (List.getD x8 (Int.toNat x3) (0 : Int))) i1344) x8)
                                        (none))
                                       (none))
                                      (none)))
                                    (none))
                                   (none))
                                  (none))
                                 (none))
                                (none))
                               (none))
                              (none))
                             (none))
                            (none))
                           (none))
                          (none))
                         (none))
                        (none))
                       (none))
                      (none))
                     (none))
                    (none))
                   (none))
                  (none))
                 (none))
                (none))
               (none))
              (none)))
            (none))
           (none))
          (none))
         (none))
        (none))
       (none))
      (none))
     (none))
    (none))
   (none))
  (k0 x0 x4 x5 x6 x7)
noncomputable def term_Arena_Eval_1318_l0 (N : Nat) {R : Type} (k0 : (Int) → (List ((Int) × ((Int) × ((Int) × ((Int) × ((Int) × (Int))))))) → (List (((Int) × ((Int) × ((Int) × ((Int) × ((Int) × (Int)))))) × (Int))) → (List ((Int) × (Int))) → (List (Int)) → Option R) : Nat → (Int) → (List (Int)) → (Int) → (Int) → (List ((Int) × ((Int) × ((Int) × ((Int) × ((Int) × (Int))))))) → (List (((Int) × ((Int) × ((Int) × ((Int) × ((Int) × (Int)))))) × (Int))) → (List ((Int) × (Int))) → (List (Int)) → (List (Int)) → Option R
  | 0, _, _, _, _, _, _, _, _, _ => none
  | n + 1, x0, x1, x2, x3, x4, x5, x6, x7, x8 => term_Arena_Eval_1318_l0_T0 N (@term_Value N) (@term_Arena_Width_43b4 N) (@term_Arena_Under_2549 N) (@term_Arena_quick_683d N) (@term_Arena_there_2549 N) (fun x0 x1 x2 x3 x4 x5 x6 x7 x8 => term_Arena_Eval_1318_l0 N k0 n x0 x1 x2 x3 x4 x5 x6 x7 x8) k0 x0 x1 x2 x3 x4 x5 x6 x7 x8
noncomputable def term_Arena_Eval_1318_T (N : Nat) (c0 : term_Value_Ty) (c1 : term_Arena_Width_43b4_Ty) (c2 : term_Arena_Under_2549_Ty) (c3 : term_Arena_quick_683d_Ty) (c4 : term_Arena_there_2549_Ty) (w0 : term_Arena_Eval_1318_l0_Ty) {R : Type} (x0 : Int) (x1 : List (Int)) (x2 : List ((Int) × ((Int) × ((Int) × ((Int) × ((Int) × (Int))))))) (x3 : List (((Int) × ((Int) × ((Int) × ((Int) × ((Int) × (Int)))))) × (Int))) (x4 : List ((Int) × (Int))) (k0 : (Int) → (List ((Int) × ((Int) × ((Int) × ((Int) × ((Int) × (Int))))))) → (List (((Int) × ((Int) × ((Int) × ((Int) × ((Int) × (Int)))))) × (Int))) → (List ((Int) × (Int))) → Option R) : Option R :=
  c4 x2 x3 x4 (x0 :: ([] : List ((Sh.int IntKind.i64).T)))
  (fun b1297 l1298 l1299 l1300 l1301 => br (!b1297)
   (k0 (0 : Int) l1298 l1299 l1300)
   (c3 x0 x1 l1298 l1299 l1300 (64 : Int)
    (fun i1329 b1330 l1331 l1332 l1333 i1334 => br b1330
     (k0 i1329 l1331 l1332 l1333)
     (br ((((decide ((0 : Int) ≤ (IntKind.wrap .i64 (x0 + (1 : Int))))) && (decide ((IntKind.wrap .i64 (x0 + (1 : Int))) ≤ (IntKind.wrap .i64 (x0 + (1 : Int)))))) && (decide (((IntKind.wrap .i64 (x0 + (1 : Int))) * (2 : Int)) ≤ ((2 : Int) ^ (46 : Nat))))) && true)
      (c2 l1331 l1332 l1333 (x0 :: ([] : List ((Sh.int IntKind.i64).T)))
       (fun l1335 l1336 l1337 l1338 l1339 => w0
        (fun i1345 l1346 l1347 l1348 l1349 => br (inB i1345 (List.length l1349))
         (br (decide ((Int.toNat i1345) < (List.length l1349)))
          (k0 (List.getD l1349 (Int.toNat i1345) (0 : Int)) l1346 l1347 l1348)
          (none))
         (none))
        N x0 x1 (Nat.cast (List.length l1339) : Int) (0 : Int) l1335 l1336 l1337 (List.replicate (Int.toNat (IntKind.wrap .i64 (x0 + (1 : Int)))) (0 : Int)) l1339))
      (none)))))
noncomputable def term_Arena_Eval_1318 (N : Nat) {R : Type} (x0 : Int) (x1 : List (Int)) (x2 : List ((Int) × ((Int) × ((Int) × ((Int) × ((Int) × (Int))))))) (x3 : List (((Int) × ((Int) × ((Int) × ((Int) × ((Int) × (Int)))))) × (Int))) (x4 : List ((Int) × (Int))) (k0 : (Int) → (List ((Int) × ((Int) × ((Int) × ((Int) × ((Int) × (Int))))))) → (List (((Int) × ((Int) × ((Int) × ((Int) × ((Int) × (Int)))))) × (Int))) → (List ((Int) × (Int))) → Option R) : Option R := term_Arena_Eval_1318_T N (@term_Value N) (@term_Arena_Width_43b4 N) (@term_Arena_Under_2549 N) (@term_Arena_quick_683d N) (@term_Arena_there_2549 N) (@term_Arena_Eval_1318_l0 N) x0 x1 x2 x3 x4 k0
abbrev law3_FixMany_l0_Ty : Type 1 := {R : Type} → ((List (Int)) → (Bool) → (Int) → (Int) → (Int) → (List ((Int) × ((Int) × ((Int) × ((Int) × ((Int) × (Int))))))) → (List (((Int) × ((Int) × ((Int) × ((Int) × ((Int) × (Int)))))) × (Int))) → (List ((Int) × (Int))) → (List (Int)) → Option R) → ((List (Int)) → (Int) → (Int) → (Int) → (List ((Int) × ((Int) × ((Int) × ((Int) × ((Int) × (Int))))))) → (List (((Int) × ((Int) × ((Int) × ((Int) × ((Int) × (Int)))))) × (Int))) → (List ((Int) × (Int))) → (List (Int)) → Option R) → Nat → (List (Int)) → (Int) → (Int) → (Int) → (Int) → (List ((Int) × ((Int) × ((Int) × ((Int) × ((Int) × (Int))))))) → (List (((Int) × ((Int) × ((Int) × ((Int) × ((Int) × (Int)))))) × (Int))) → (List ((Int) × (Int))) → (List (Int)) → Option R
abbrev law3_FixMany_Ty : Type 1 := {R : Type} → (Int) → (List (Int)) → ((Bool) → Option R) → Option R
noncomputable def law3_FixMany_l0_T0 (N : Nat) (c0 : fix_Size_43b4_Ty) (c1 : term_Arena_Eval_1318_Ty) (c2 : fix_Any_2549_Ty) (c3 : fix_All_97a4_Ty) (c4 : fix_All_2549_Ty) (c5 : term_Arena_Var_99d8_Ty) (c6 : term_New_Ty) (c7 : law3_awake_Ty) {R : Type} (nx : (List (Int)) → (Int) → (Int) → (Int) → (Int) → (List ((Int) × ((Int) × ((Int) × ((Int) × ((Int) × (Int))))))) → (List (((Int) × ((Int) × ((Int) × ((Int) × ((Int) × (Int)))))) × (Int))) → (List ((Int) × (Int))) → (List (Int)) → Option R) (k0 : (List (Int)) → (Bool) → (Int) → (Int) → (Int) → (List ((Int) × ((Int) × ((Int) × ((Int) × ((Int) × (Int))))))) → (List (((Int) × ((Int) × ((Int) × ((Int) × ((Int) × (Int)))))) × (Int))) → (List ((Int) × (Int))) → (List (Int)) → Option R) (k1 : (List (Int)) → (Int) → (Int) → (Int) → (List ((Int) × ((Int) × ((Int) × ((Int) × ((Int) × (Int))))))) → (List (((Int) × ((Int) × ((Int) × ((Int) × ((Int) × (Int)))))) × (Int))) → (List ((Int) × (Int))) → (List (Int)) → Option R) (x0 : List (Int)) (x1 : Int) (x2 : Int) (x3 : Int) (x4 : Int) (x5 : List ((Int) × ((Int) × ((Int) × ((Int) × ((Int) × (Int))))))) (x6 : List (((Int) × ((Int) × ((Int) × ((Int) × ((Int) × (Int)))))) × (Int))) (x7 : List ((Int) × (Int))) (x8 : List (Int)) : Option R :=
  br (decide (x4 < x1))
  (c5 (1 : Int) x4 x5 x6 x7
   (fun i1135 i1136 l1137 l1138 l1139 => br (!(decide (i1136 = (0 : Int))))
    (k0 x0 false x1 x2 x3 l1139 l1137 l1138 x8)
    (br (((fits (0 : Nat) (List.length x8) x8) && (decide ((((List.length x8) + (1 : Nat)) * (8 : Nat)) ≤ (70368744177664 : Nat)))) && true)
     (br (decide (x4 < (Nat.cast (List.length x0) : Int)))
      (br (inB x4 (List.length x0))
       (nx x0 x1 (band .u16 x2 (band .u16 (List.getD x0 (Int.toNat x4) (0 : Int)) (1 : Int))) (bor .u16 x3 (band .u16 (List.getD x0 (Int.toNat x4) (0 : Int)) (1 : Int))) (IntKind.wrap .i64 (x4 + (1 : Int))) l1139 l1137 l1138 ((sub x8 (0 : Nat) (List.length x8)) ++ (i1135 :: ([] : List ((Sh.int IntKind.i64).T)))))
       (none))
      (nx x0 x1 (band .u16 x2 (0 : Int)) (bor .u16 x3 (0 : Int)) (IntKind.wrap .i64 (x4 + (1 : Int))) l1139 l1137 l1138 ((sub x8 (0 : Nat) (List.length x8)) ++ (i1135 :: ([] : List ((Sh.int IntKind.i64).T))))))
     (none))))
  (k1 x0 x1 x2 x3 x5 x6 x7 x8)
noncomputable def law3_FixMany_l0 (N : Nat) {R : Type} (k0 : (List (Int)) → (Bool) → (Int) → (Int) → (Int) → (List ((Int) × ((Int) × ((Int) × ((Int) × ((Int) × (Int))))))) → (List (((Int) × ((Int) × ((Int) × ((Int) × ((Int) × (Int)))))) × (Int))) → (List ((Int) × (Int))) → (List (Int)) → Option R) (k1 : (List (Int)) → (Int) → (Int) → (Int) → (List ((Int) × ((Int) × ((Int) × ((Int) × ((Int) × (Int))))))) → (List (((Int) × ((Int) × ((Int) × ((Int) × ((Int) × (Int)))))) × (Int))) → (List ((Int) × (Int))) → (List (Int)) → Option R) : Nat → (List (Int)) → (Int) → (Int) → (Int) → (Int) → (List ((Int) × ((Int) × ((Int) × ((Int) × ((Int) × (Int))))))) → (List (((Int) × ((Int) × ((Int) × ((Int) × ((Int) × (Int)))))) × (Int))) → (List ((Int) × (Int))) → (List (Int)) → Option R
  | 0, _, _, _, _, _, _, _, _, _ => none
  | n + 1, x0, x1, x2, x3, x4, x5, x6, x7, x8 => law3_FixMany_l0_T0 N (@fix_Size_43b4 N) (@term_Arena_Eval_1318 N) (@fix_Any_2549 N) (@fix_All_97a4 N) (@fix_All_2549 N) (@term_Arena_Var_99d8 N) (@term_New N) (@law3_awake N) (fun x0 x1 x2 x3 x4 x5 x6 x7 x8 => law3_FixMany_l0 N k0 k1 n x0 x1 x2 x3 x4 x5 x6 x7 x8) k0 k1 x0 x1 x2 x3 x4 x5 x6 x7 x8
noncomputable def law3_FixMany_T (N : Nat) (c0 : fix_Size_43b4_Ty) (c1 : term_Arena_Eval_1318_Ty) (c2 : fix_Any_2549_Ty) (c3 : fix_All_97a4_Ty) (c4 : fix_All_2549_Ty) (c5 : term_Arena_Var_99d8_Ty) (c6 : term_New_Ty) (c7 : law3_awake_Ty) (w0 : law3_FixMany_l0_Ty) {R : Type} (x0 : Int) (x1 : List (Int)) (k0 : (Bool) → Option R) : Option R :=
  c7
  (fun b1131 => br (!b1131)
   (k0 false)
   (c6
    (fun l1132 l1133 l1134 => br (decide ((100 : Int) < (Nat.cast (List.length x1) : Int)))
     (k0 true)
     (w0
      (fun l1140 b1141 i1142 i1143 i1144 l1145 l1146 l1147 l1148 => k0 b1141)
      (fun l1149 i1150 i1151 i1152 l1153 l1154 l1155 l1156 => c4 l1153 l1154 l1155 l1156
       (fun i1279 i1280 l1281 l1282 l1283 l1284 => c2 l1284 l1281 l1282 l1283
        (fun i1291 i1292 l1293 l1294 l1295 l1296 => br (decide (i1280 = (0 : Int)))
         (br (decide (i1292 = (0 : Int)))
          (c1 i1279 l1149 l1296 l1293 l1294
           (fun i1350 l1351 l1352 l1353 => br (decide (i1350 = i1151))
            (c1 i1291 l1149 l1351 l1352 l1353
             (fun i1354 l1355 l1356 l1357 => br (decide (i1354 = i1152))
              (c0 i1279 l1355 l1356 l1357
               (fun i1358 l1359 l1360 l1361 => k0 (decide ((if ((1 : Int) < i1150) then i1150 else (1 : Int)) ≤ i1358))))
              (k0 false)))
            (k0 false)))
          (k0 false))
         (k0 false))))
      N x1 (Int.tmod (IntKind.wrap .i64 x0) (60 : Int)) (1 : Int) (0 : Int) (0 : Int) l1132 l1133 l1134 ([] : List ((Sh.int IntKind.i64).T))))))
noncomputable def law3_FixMany (N : Nat) {R : Type} (x0 : Int) (x1 : List (Int)) (k0 : (Bool) → Option R) : Option R := law3_FixMany_T N (@fix_Size_43b4 N) (@term_Arena_Eval_1318 N) (@fix_Any_2549 N) (@fix_All_97a4 N) (@fix_All_2549 N) (@term_Arena_Var_99d8 N) (@term_New N) (@law3_awake N) (@law3_FixMany_l0 N) x0 x1 k0
end Go.Proofs.Yteagdmkedffplaa
