/-
  The functions that the statement reaches, each as a function of Lean (printed by a program of this work).
-/
import Derived.Test.YteagdmkedffplaaGx5
set_option linter.unusedVariables false
set_option maxRecDepth 100000
namespace Go.Proofs.Yteagdmkedffplaa
open Go.Gx
abbrev term_New_Ty : Type 1 := {R : Type} → ((List ((Int) × ((Int) × ((Int) × ((Int) × ((Int) × (Int))))))) → (List (((Int) × ((Int) × ((Int) × ((Int) × ((Int) × (Int)))))) × (Int))) → (List ((Int) × (Int))) → Option R) → Option R
noncomputable def term_New_T (N : Nat) {R : Type} (k0 : (List ((Int) × ((Int) × ((Int) × ((Int) × ((Int) × (Int))))))) → (List (((Int) × ((Int) × ((Int) × ((Int) × ((Int) × (Int)))))) × (Int))) → (List ((Int) × (Int))) → Option R) : Option R :=
  k0 ([] : List (((Sh.int IntKind.i64).pair
    ((Sh.int IntKind.i64).pair
      ((Sh.int IntKind.u16).pair ((Sh.int IntKind.i64).pair ((Sh.int IntKind.i64).pair (Sh.int IntKind.i64)))))).T)) ([] : List ((((Sh.int IntKind.i64).pair
    ((Sh.int IntKind.i64).pair
      ((Sh.int IntKind.u16).pair ((Sh.int IntKind.i64).pair ((Sh.int IntKind.i64).pair (Sh.int IntKind.i64)))))).T) × ((Sh.int IntKind.i64).T))) ([] : List (((Sh.int IntKind.i64).T) × ((Sh.int IntKind.i64).T)))
noncomputable def term_New (N : Nat) {R : Type} (k0 : (List ((Int) × ((Int) × ((Int) × ((Int) × ((Int) × (Int))))))) → (List (((Int) × ((Int) × ((Int) × ((Int) × ((Int) × (Int)))))) × (Int))) → (List ((Int) × (Int))) → Option R) : Option R := term_New_T N k0
abbrev wide_May_Ty : Type 1 := {R : Type} → (Int) → ((Bool) → Option R) → Option R
noncomputable def wide_May_T (N : Nat) {R : Type} (x0 : Int) (k0 : (Bool) → Option R) : Option R :=
  br (!(decide (x0 = (1 : Int))))
  (br (!(decide (x0 = (8 : Int))))
   (k0 (decide (x0 = (16 : Int))))
   (k0 true))
  (k0 true)
noncomputable def wide_May (N : Nat) {R : Type} (x0 : Int) (k0 : (Bool) → Option R) : Option R := wide_May_T N x0 k0
abbrev term_Arena_keep_a25e_Ty : Type 1 := {R : Type} → (Int) → (Int) → (Int) → (Int) → (Int) → (Int) → (List ((Int) × ((Int) × ((Int) × ((Int) × ((Int) × (Int))))))) → (List (((Int) × ((Int) × ((Int) × ((Int) × ((Int) × (Int)))))) × (Int))) → (List ((Int) × (Int))) → ((Int) → (Int) → (List (((Int) × ((Int) × ((Int) × ((Int) × ((Int) × (Int)))))) × (Int))) → (List ((Int) × (Int))) → (List ((Int) × ((Int) × ((Int) × ((Int) × ((Int) × (Int))))))) → Option R) → Option R
noncomputable def term_Arena_keep_a25e_T (N : Nat) {R : Type} (x0 : Int) (x1 : Int) (x2 : Int) (x3 : Int) (x4 : Int) (x5 : Int) (x6 : List ((Int) × ((Int) × ((Int) × ((Int) × ((Int) × (Int))))))) (x7 : List (((Int) × ((Int) × ((Int) × ((Int) × ((Int) × (Int)))))) × (Int))) (x8 : List ((Int) × (Int))) (k0 : (Int) → (Int) → (List (((Int) × ((Int) × ((Int) × ((Int) × ((Int) × (Int)))))) × (Int))) → (List ((Int) × (Int))) → (List ((Int) × ((Int) × ((Int) × ((Int) × ((Int) × (Int))))))) → Option R) : Option R :=
  br (Option.isSome (mfind (.pair (.int .i64) (.pair (.int .i64) (.pair (.int .u16) (.pair (.int .i64) (.pair (.int .i64) (.int .i64)))))) (.int .i64) x7 (x0 , (x1 , (x2 , (x3 , (x4 , x5)))))))
  (k0 (Option.getD (mfind (.pair (.int .i64) (.pair (.int .i64) (.pair (.int .u16) (.pair (.int .i64) (.pair (.int .i64) (.int .i64)))))) (.int .i64) x7 (x0 , (x1 , (x2 , (x3 , (x4 , x5)))))) (0 : Int)) (0 : Int) x7 x8 x6)
  (br (decide ((65536 : Int) ≤ (Nat.cast (List.length x6) : Int)))
   (k0 (0 : Int) (3 : Int) x7 x8 x6)
   (br (((fits (0 : Nat) (List.length x6) x6) && (decide ((((List.length x6) + (1 : Nat)) * (48 : Nat)) ≤ (70368744177664 : Nat)))) && true)
    (k0 (Nat.cast ((List.length x6) + (1 : Nat)) : Int) (0 : Int) (mput (.pair (.int .i64) (.pair (.int .i64) (.pair (.int .u16) (.pair (.int .i64) (.pair (.int .i64) (.int .i64)))))) (.int .i64) x7 (x0 , (x1 , (x2 , (x3 , (x4 , x5))))) (Nat.cast ((List.length x6) + (1 : Nat)) : Int)) x8 ((sub x6 (0 : Nat) (List.length x6)) ++ ((x0 , (x1 , (x2 , (x3 , (x4 , x5))))) :: ([] : List (((Sh.int IntKind.i64).pair
    ((Sh.int IntKind.i64).pair
      ((Sh.int IntKind.u16).pair ((Sh.int IntKind.i64).pair ((Sh.int IntKind.i64).pair (Sh.int IntKind.i64)))))).T)))))
    (none)))
noncomputable def term_Arena_keep_a25e (N : Nat) {R : Type} (x0 : Int) (x1 : Int) (x2 : Int) (x3 : Int) (x4 : Int) (x5 : Int) (x6 : List ((Int) × ((Int) × ((Int) × ((Int) × ((Int) × (Int))))))) (x7 : List (((Int) × ((Int) × ((Int) × ((Int) × ((Int) × (Int)))))) × (Int))) (x8 : List ((Int) × (Int))) (k0 : (Int) → (Int) → (List (((Int) × ((Int) × ((Int) × ((Int) × ((Int) × (Int)))))) × (Int))) → (List ((Int) × (Int))) → (List ((Int) × ((Int) × ((Int) × ((Int) × ((Int) × (Int))))))) → Option R) : Option R := term_Arena_keep_a25e_T N x0 x1 x2 x3 x4 x5 x6 x7 x8 k0
abbrev term_Arena_Var_99d8_Ty : Type 1 := {R : Type} → (Int) → (Int) → (List ((Int) × ((Int) × ((Int) × ((Int) × ((Int) × (Int))))))) → (List (((Int) × ((Int) × ((Int) × ((Int) × ((Int) × (Int)))))) × (Int))) → (List ((Int) × (Int))) → ((Int) → (Int) → (List (((Int) × ((Int) × ((Int) × ((Int) × ((Int) × (Int)))))) × (Int))) → (List ((Int) × (Int))) → (List ((Int) × ((Int) × ((Int) × ((Int) × ((Int) × (Int))))))) → Option R) → Option R
noncomputable def term_Arena_Var_99d8_T (N : Nat) (c0 : term_Arena_keep_a25e_Ty) (c1 : wide_May_Ty) {R : Type} (x0 : Int) (x1 : Int) (x2 : List ((Int) × ((Int) × ((Int) × ((Int) × ((Int) × (Int))))))) (x3 : List (((Int) × ((Int) × ((Int) × ((Int) × ((Int) × (Int)))))) × (Int))) (x4 : List ((Int) × (Int))) (k0 : (Int) → (Int) → (List (((Int) × ((Int) × ((Int) × ((Int) × ((Int) × (Int)))))) × (Int))) → (List ((Int) × (Int))) → (List ((Int) × ((Int) × ((Int) × ((Int) × ((Int) × (Int))))))) → Option R) : Option R :=
  c1 x0
  (fun b9 => br (!b9)
   (k0 (0 : Int) (2 : Int) x3 x4 x2)
   (br (!(decide (x1 < (0 : Int))))
    (br (!(decide ((64 : Int) ≤ x1)))
     (br (Option.isSome (mfind (.int .i64) (.int .i64) x4 x1))
      (br (!(decide ((Option.getD (mfind (.int .i64) (.int .i64) x4 x1) (0 : Int)) = x0)))
       (k0 (0 : Int) (1 : Int) x3 x4 x2)
       (c0 (2 : Int) x0 (IntKind.wrap .u16 x1) (0 : Int) (0 : Int) (0 : Int) x2 x3 x4
        (fun i10 i11 l12 l13 l14 => br (decide (i11 = (0 : Int)))
         (k0 i10 i11 l12 (mput (.int .i64) (.int .i64) l13 x1 x0) l14)
         (k0 i10 i11 l12 l13 l14))))
      (c0 (2 : Int) x0 (IntKind.wrap .u16 x1) (0 : Int) (0 : Int) (0 : Int) x2 x3 x4
       (fun i15 i16 l17 l18 l19 => br (decide (i16 = (0 : Int)))
        (k0 i15 i16 l17 (mput (.int .i64) (.int .i64) l18 x1 x0) l19)
        (k0 i15 i16 l17 l18 l19))))
     (k0 (0 : Int) (1 : Int) x3 x4 x2))
    (k0 (0 : Int) (1 : Int) x3 x4 x2)))
noncomputable def term_Arena_Var_99d8 (N : Nat) {R : Type} (x0 : Int) (x1 : Int) (x2 : List ((Int) × ((Int) × ((Int) × ((Int) × ((Int) × (Int))))))) (x3 : List (((Int) × ((Int) × ((Int) × ((Int) × ((Int) × (Int)))))) × (Int))) (x4 : List ((Int) × (Int))) (k0 : (Int) → (Int) → (List (((Int) × ((Int) × ((Int) × ((Int) × ((Int) × (Int)))))) × (Int))) → (List ((Int) × (Int))) → (List ((Int) × ((Int) × ((Int) × ((Int) × ((Int) × (Int))))))) → Option R) : Option R := term_Arena_Var_99d8_T N (@term_Arena_keep_a25e N) (@wide_May N) x0 x1 x2 x3 x4 k0
abbrev wide_Mask_Ty : Type 1 := {R : Type} → (Int) → ((Int) → Option R) → Option R
noncomputable def wide_Mask_T (N : Nat) (c0 : wide_May_Ty) {R : Type} (x0 : Int) (k0 : (Int) → Option R) : Option R :=
  c0 x0
  (fun b26 => br (!b26)
   (k0 (0 : Int))
   (br (decide ((IntKind.wrap .u64 x0) < (0 : Int)))
    (none)
    (k0 (IntKind.wrap .u16 ((shlI .u16 (1 : Int) (IntKind.wrap .u64 x0)) - (1 : Int))))))
noncomputable def wide_Mask (N : Nat) {R : Type} (x0 : Int) (k0 : (Int) → Option R) : Option R := wide_Mask_T N (@wide_May N) x0 k0
abbrev term_Arena_Const_2c81_Ty : Type 1 := {R : Type} → (Int) → (Int) → (List ((Int) × ((Int) × ((Int) × ((Int) × ((Int) × (Int))))))) → (List (((Int) × ((Int) × ((Int) × ((Int) × ((Int) × (Int)))))) × (Int))) → (List ((Int) × (Int))) → ((Int) → (Int) → (List (((Int) × ((Int) × ((Int) × ((Int) × ((Int) × (Int)))))) × (Int))) → (List ((Int) × (Int))) → (List ((Int) × ((Int) × ((Int) × ((Int) × ((Int) × (Int))))))) → Option R) → Option R
noncomputable def term_Arena_Const_2c81_T (N : Nat) (c0 : term_Arena_keep_a25e_Ty) (c1 : wide_Mask_Ty) (c2 : wide_May_Ty) {R : Type} (x0 : Int) (x1 : Int) (x2 : List ((Int) × ((Int) × ((Int) × ((Int) × ((Int) × (Int))))))) (x3 : List (((Int) × ((Int) × ((Int) × ((Int) × ((Int) × (Int)))))) × (Int))) (x4 : List ((Int) × (Int))) (k0 : (Int) → (Int) → (List (((Int) × ((Int) × ((Int) × ((Int) × ((Int) × (Int)))))) × (Int))) → (List ((Int) × (Int))) → (List ((Int) × ((Int) × ((Int) × ((Int) × ((Int) × (Int))))))) → Option R) : Option R :=
  c2 x0
  (fun b33 => br (!b33)
   (k0 (0 : Int) (2 : Int) x3 x4 x2)
   (c1 x0
    (fun i34 => c0 (1 : Int) x0 (band .u16 x1 i34) (0 : Int) (0 : Int) (0 : Int) x2 x3 x4
     (fun i35 i36 l37 l38 l39 => k0 i35 i36 l37 l38 l39))))
noncomputable def term_Arena_Const_2c81 (N : Nat) {R : Type} (x0 : Int) (x1 : Int) (x2 : List ((Int) × ((Int) × ((Int) × ((Int) × ((Int) × (Int))))))) (x3 : List (((Int) × ((Int) × ((Int) × ((Int) × ((Int) × (Int)))))) × (Int))) (x4 : List ((Int) × (Int))) (k0 : (Int) → (Int) → (List (((Int) × ((Int) × ((Int) × ((Int) × ((Int) × (Int)))))) × (Int))) → (List ((Int) × (Int))) → (List ((Int) × ((Int) × ((Int) × ((Int) × ((Int) × (Int))))))) → Option R) : Option R := term_Arena_Const_2c81_T N (@term_Arena_keep_a25e N) (@wide_Mask N) (@wide_May N) x0 x1 x2 x3 x4 k0
abbrev term_two_Ty : Type 1 := {R : Type} → (Int) → ((Bool) → Option R) → Option R
noncomputable def term_two_T (N : Nat) {R : Type} (x0 : Int) (k0 : (Bool) → Option R) : Option R :=
  br (decide ((4 : Int) ≤ x0))
  (k0 (decide (x0 ≤ (15 : Int))))
  (k0 false)
noncomputable def term_two (N : Nat) {R : Type} (x0 : Int) (k0 : (Bool) → Option R) : Option R := term_two_T N x0 k0
abbrev term_Arena_Node_43b4_Ty : Type 1 := {R : Type} → (Int) → (List ((Int) × ((Int) × ((Int) × ((Int) × ((Int) × (Int))))))) → (List (((Int) × ((Int) × ((Int) × ((Int) × ((Int) × (Int)))))) × (Int))) → (List ((Int) × (Int))) → ((Int) → (Int) → (Int) → (Int) → (Int) → (Int) → (Bool) → (List ((Int) × ((Int) × ((Int) × ((Int) × ((Int) × (Int))))))) → (List (((Int) × ((Int) × ((Int) × ((Int) × ((Int) × (Int)))))) × (Int))) → (List ((Int) × (Int))) → Option R) → Option R
noncomputable def term_Arena_Node_43b4_T (N : Nat) {R : Type} (x0 : Int) (x1 : List ((Int) × ((Int) × ((Int) × ((Int) × ((Int) × (Int))))))) (x2 : List (((Int) × ((Int) × ((Int) × ((Int) × ((Int) × (Int)))))) × (Int))) (x3 : List ((Int) × (Int))) (k0 : (Int) → (Int) → (Int) → (Int) → (Int) → (Int) → (Bool) → (List ((Int) × ((Int) × ((Int) × ((Int) × ((Int) × (Int))))))) → (List (((Int) × ((Int) × ((Int) × ((Int) × ((Int) × (Int)))))) × (Int))) → (List ((Int) × (Int))) → Option R) : Option R :=
  br (!(decide (x0 < (1 : Int))))
  (br (decide ((Nat.cast (List.length x1) : Int) < x0))
   (k0 (0 : Int) (0 : Int) (0 : Int) (0 : Int) (0 : Int) (0 : Int) false x1 x2 x3)
   (br (inB (IntKind.wrap .i64 (x0 - (1 : Int))) (List.length x1))
    (br (decide ((Int.toNat (IntKind.wrap .i64 (x0 - (1 : Int)))) < (List.length x1)))
     (k0 (List.getD x1 (Int.toNat (IntKind.wrap .i64 (x0 - (1 : Int)))) ((0 : Int) , ((0 : Int) , ((0 : Int) , ((0 : Int) , ((0 : Int) , (0 : Int))))))).1 (List.getD x1 (Int.toNat (IntKind.wrap .i64 (x0 - (1 : Int)))) ((0 : Int) , ((0 : Int) , ((0 : Int) , ((0 : Int) , ((0 : Int) , (0 : Int))))))).2.1 (List.getD x1 (Int.toNat (IntKind.wrap .i64 (x0 - (1 : Int)))) ((0 : Int) , ((0 : Int) , ((0 : Int) , ((0 : Int) , ((0 : Int) , (0 : Int))))))).2.2.1 (List.getD x1 (Int.toNat (IntKind.wrap .i64 (x0 - (1 : Int)))) ((0 : Int) , ((0 : Int) , ((0 : Int) , ((0 : Int) , ((0 : Int) , (0 : Int))))))).2.2.2.1 (List.getD x1 (Int.toNat (IntKind.wrap .i64 (x0 - (1 : Int)))) ((0 : Int) , ((0 : Int) , ((0 : Int) , ((0 : Int) , ((0 : Int) , (0 : Int))))))).2.2.2.2.1 (List.getD x1 (Int.toNat (IntKind.wrap .i64 (x0 - (1 : Int)))) ((0 : Int) , ((0 : Int) , ((0 : Int) , ((0 : Int) , ((0 : Int) , (0 : Int))))))).2.2.2.2.2 true x1 x2 x3)
     (none))
    (none)))
  (k0 (0 : Int) (0 : Int) (0 : Int) (0 : Int) (0 : Int) (0 : Int) false x1 x2 x3)
noncomputable def term_Arena_Node_43b4 (N : Nat) {R : Type} (x0 : Int) (x1 : List ((Int) × ((Int) × ((Int) × ((Int) × ((Int) × (Int))))))) (x2 : List (((Int) × ((Int) × ((Int) × ((Int) × ((Int) × (Int)))))) × (Int))) (x3 : List ((Int) × (Int))) (k0 : (Int) → (Int) → (Int) → (Int) → (Int) → (Int) → (Bool) → (List ((Int) × ((Int) × ((Int) × ((Int) × ((Int) × (Int))))))) → (List (((Int) × ((Int) × ((Int) × ((Int) × ((Int) × (Int)))))) × (Int))) → (List ((Int) × (Int))) → Option R) : Option R := term_Arena_Node_43b4_T N x0 x1 x2 x3 k0
abbrev term_Arena_there_2549_l0_Ty : Type 1 := {R : Type} → ((Bool) → (List ((Int) × ((Int) × ((Int) × ((Int) × ((Int) × (Int))))))) → (List (((Int) × ((Int) × ((Int) × ((Int) × ((Int) × (Int)))))) × (Int))) → (List ((Int) × (Int))) → (List (Int)) → Option R) → ((List ((Int) × ((Int) × ((Int) × ((Int) × ((Int) × (Int))))))) → (List (((Int) × ((Int) × ((Int) × ((Int) × ((Int) × (Int)))))) × (Int))) → (List ((Int) × (Int))) → (List (Int)) → Option R) → Nat → (Int) → (Int) → (List ((Int) × ((Int) × ((Int) × ((Int) × ((Int) × (Int))))))) → (List (((Int) × ((Int) × ((Int) × ((Int) × ((Int) × (Int)))))) × (Int))) → (List ((Int) × (Int))) → (List (Int)) → Option R
abbrev term_Arena_there_2549_Ty : Type 1 := {R : Type} → (List ((Int) × ((Int) × ((Int) × ((Int) × ((Int) × (Int))))))) → (List (((Int) × ((Int) × ((Int) × ((Int) × ((Int) × (Int)))))) × (Int))) → (List ((Int) × (Int))) → (List (Int)) → ((Bool) → (List ((Int) × ((Int) × ((Int) × ((Int) × ((Int) × (Int))))))) → (List (((Int) × ((Int) × ((Int) × ((Int) × ((Int) × (Int)))))) × (Int))) → (List ((Int) × (Int))) → (List (Int)) → Option R) → Option R
noncomputable def term_Arena_there_2549_l0_T0 (N : Nat) (c0 : term_Arena_Node_43b4_Ty) {R : Type} (nx : (Int) → (Int) → (List ((Int) × ((Int) × ((Int) × ((Int) × ((Int) × (Int))))))) → (List (((Int) × ((Int) × ((Int) × ((Int) × ((Int) × (Int)))))) × (Int))) → (List ((Int) × (Int))) → (List (Int)) → Option R) (k0 : (Bool) → (List ((Int) × ((Int) × ((Int) × ((Int) × ((Int) × (Int))))))) → (List (((Int) × ((Int) × ((Int) × ((Int) × ((Int) × (Int)))))) × (Int))) → (List ((Int) × (Int))) → (List (Int)) → Option R) (k1 : (List ((Int) × ((Int) × ((Int) × ((Int) × ((Int) × (Int))))))) → (List (((Int) × ((Int) × ((Int) × ((Int) × ((Int) × (Int)))))) × (Int))) → (List ((Int) × (Int))) → (List (Int)) → Option R) (x0 : Int) (x1 : Int) (x2 : List ((Int) × ((Int) × ((Int) × ((Int) × ((Int) × (Int))))))) (x3 : List (((Int) × ((Int) × ((Int) × ((Int) × ((Int) × (Int)))))) × (Int))) (x4 : List ((Int) × (Int))) (x5 : List (Int)) : Option R :=
  br (decide (x1 < x0))
  (br (inB x1 (List.length x5))
   (br (decide ((Int.toNat x1) < (List.length x5)))
    (c0 (List.getD x5 (Int.toNat x1) (0 : Int)) x2 x3 x4
     (fun i46 i47 i48 i49 i50 i51 b52 l53 l54 l55 => br (!b52)
      (k0 false l53 l54 l55 x5)
      (nx x0 (IntKind.wrap .i64 (x1 + (1 : Int))) l53 l54 l55 x5)))
    (none))
   (none))
  (k1 x2 x3 x4 x5)
noncomputable def term_Arena_there_2549_l0 (N : Nat) {R : Type} (k0 : (Bool) → (List ((Int) × ((Int) × ((Int) × ((Int) × ((Int) × (Int))))))) → (List (((Int) × ((Int) × ((Int) × ((Int) × ((Int) × (Int)))))) × (Int))) → (List ((Int) × (Int))) → (List (Int)) → Option R) (k1 : (List ((Int) × ((Int) × ((Int) × ((Int) × ((Int) × (Int))))))) → (List (((Int) × ((Int) × ((Int) × ((Int) × ((Int) × (Int)))))) × (Int))) → (List ((Int) × (Int))) → (List (Int)) → Option R) : Nat → (Int) → (Int) → (List ((Int) × ((Int) × ((Int) × ((Int) × ((Int) × (Int))))))) → (List (((Int) × ((Int) × ((Int) × ((Int) × ((Int) × (Int)))))) × (Int))) → (List ((Int) × (Int))) → (List (Int)) → Option R
  | 0, _, _, _, _, _, _ => none
  | n + 1, x0, x1, x2, x3, x4, x5 => term_Arena_there_2549_l0_T0 N (@term_Arena_Node_43b4 N) (fun x0 x1 x2 x3 x4 x5 => term_Arena_there_2549_l0 N k0 k1 n x0 x1 x2 x3 x4 x5) k0 k1 x0 x1 x2 x3 x4 x5
noncomputable def term_Arena_there_2549_T (N : Nat) (c0 : term_Arena_Node_43b4_Ty) (w0 : term_Arena_there_2549_l0_Ty) {R : Type} (x0 : List ((Int) × ((Int) × ((Int) × ((Int) × ((Int) × (Int))))))) (x1 : List (((Int) × ((Int) × ((Int) × ((Int) × ((Int) × (Int)))))) × (Int))) (x2 : List ((Int) × (Int))) (x3 : List (Int)) (k0 : (Bool) → (List ((Int) × ((Int) × ((Int) × ((Int) × ((Int) × (Int))))))) → (List (((Int) × ((Int) × ((Int) × ((Int) × ((Int) × (Int)))))) × (Int))) → (List ((Int) × (Int))) → (List (Int)) → Option R) : Option R :=
  w0
  (fun b56 l57 l58 l59 l60 => k0 b56 l57 l58 l59 l60)
  (fun l61 l62 l63 l64 => k0 true l61 l62 l63 l64)
  N (Nat.cast (List.length x3) : Int) (0 : Int) x0 x1 x2 x3
noncomputable def term_Arena_there_2549 (N : Nat) {R : Type} (x0 : List ((Int) × ((Int) × ((Int) × ((Int) × ((Int) × (Int))))))) (x1 : List (((Int) × ((Int) × ((Int) × ((Int) × ((Int) × (Int)))))) × (Int))) (x2 : List ((Int) × (Int))) (x3 : List (Int)) (k0 : (Bool) → (List ((Int) × ((Int) × ((Int) × ((Int) × ((Int) × (Int))))))) → (List (((Int) × ((Int) × ((Int) × ((Int) × ((Int) × (Int)))))) × (Int))) → (List ((Int) × (Int))) → (List (Int)) → Option R) : Option R := term_Arena_there_2549_T N (@term_Arena_Node_43b4 N) (@term_Arena_there_2549_l0 N) x0 x1 x2 x3 k0
abbrev term_Arena_Width_43b4_Ty : Type 1 := {R : Type} → (Int) → (List ((Int) × ((Int) × ((Int) × ((Int) × ((Int) × (Int))))))) → (List (((Int) × ((Int) × ((Int) × ((Int) × ((Int) × (Int)))))) × (Int))) → (List ((Int) × (Int))) → ((Int) → (List ((Int) × ((Int) × ((Int) × ((Int) × ((Int) × (Int))))))) → (List (((Int) × ((Int) × ((Int) × ((Int) × ((Int) × (Int)))))) × (Int))) → (List ((Int) × (Int))) → Option R) → Option R
noncomputable def term_Arena_Width_43b4_T (N : Nat) (c0 : term_Arena_Node_43b4_Ty) {R : Type} (x0 : Int) (x1 : List ((Int) × ((Int) × ((Int) × ((Int) × ((Int) × (Int))))))) (x2 : List (((Int) × ((Int) × ((Int) × ((Int) × ((Int) × (Int)))))) × (Int))) (x3 : List ((Int) × (Int))) (k0 : (Int) → (List ((Int) × ((Int) × ((Int) × ((Int) × ((Int) × (Int))))))) → (List (((Int) × ((Int) × ((Int) × ((Int) × ((Int) × (Int)))))) × (Int))) → (List ((Int) × (Int))) → Option R) : Option R :=
  c0 x0 x1 x2 x3
  (fun i70 i71 i72 i73 i74 i75 b76 l77 l78 l79 => k0 i71 l77 l78 l79)
noncomputable def term_Arena_Width_43b4 (N : Nat) {R : Type} (x0 : Int) (x1 : List ((Int) × ((Int) × ((Int) × ((Int) × ((Int) × (Int))))))) (x2 : List (((Int) × ((Int) × ((Int) × ((Int) × ((Int) × (Int)))))) × (Int))) (x3 : List ((Int) × (Int))) (k0 : (Int) → (List ((Int) × ((Int) × ((Int) × ((Int) × ((Int) × (Int))))))) → (List (((Int) × ((Int) × ((Int) × ((Int) × ((Int) × (Int)))))) × (Int))) → (List ((Int) × (Int))) → Option R) : Option R := term_Arena_Width_43b4_T N (@term_Arena_Node_43b4 N) x0 x1 x2 x3 k0
abbrev term_Arena_Known_43b4_Ty : Type 1 := {R : Type} → (Int) → (List ((Int) × ((Int) × ((Int) × ((Int) × ((Int) × (Int))))))) → (List (((Int) × ((Int) × ((Int) × ((Int) × ((Int) × (Int)))))) × (Int))) → (List ((Int) × (Int))) → ((Int) → (Bool) → (List ((Int) × ((Int) × ((Int) × ((Int) × ((Int) × (Int))))))) → (List (((Int) × ((Int) × ((Int) × ((Int) × ((Int) × (Int)))))) × (Int))) → (List ((Int) × (Int))) → Option R) → Option R
noncomputable def term_Arena_Known_43b4_T (N : Nat) (c0 : term_Arena_Node_43b4_Ty) {R : Type} (x0 : Int) (x1 : List ((Int) × ((Int) × ((Int) × ((Int) × ((Int) × (Int))))))) (x2 : List (((Int) × ((Int) × ((Int) × ((Int) × ((Int) × (Int)))))) × (Int))) (x3 : List ((Int) × (Int))) (k0 : (Int) → (Bool) → (List ((Int) × ((Int) × ((Int) × ((Int) × ((Int) × (Int))))))) → (List (((Int) × ((Int) × ((Int) × ((Int) × ((Int) × (Int)))))) × (Int))) → (List ((Int) × (Int))) → Option R) : Option R :=
  c0 x0 x1 x2 x3
  (fun i88 i89 i90 i91 i92 i93 b94 l95 l96 l97 => br (decide (i88 = (1 : Int)))
   (k0 i90 (decide ((0 : Int) < i89)) l95 l96 l97)
   (k0 i90 false l95 l96 l97))
noncomputable def term_Arena_Known_43b4 (N : Nat) {R : Type} (x0 : Int) (x1 : List ((Int) × ((Int) × ((Int) × ((Int) × ((Int) × (Int))))))) (x2 : List (((Int) × ((Int) × ((Int) × ((Int) × ((Int) × (Int)))))) × (Int))) (x3 : List ((Int) × (Int))) (k0 : (Int) → (Bool) → (List ((Int) × ((Int) × ((Int) × ((Int) × ((Int) × (Int))))))) → (List (((Int) × ((Int) × ((Int) × ((Int) × ((Int) × (Int)))))) × (Int))) → (List ((Int) × (Int))) → Option R) : Option R := term_Arena_Known_43b4_T N (@term_Arena_Node_43b4 N) x0 x1 x2 x3 k0
abbrev wide_divided_Ty : Type 1 := {R : Type} → (Int) → (Int) → (Int) → ((Int) → Option R) → Option R
noncomputable def wide_divided_T (N : Nat) (c0 : wide_Mask_Ty) {R : Type} (x0 : Int) (x1 : Int) (x2 : Int) (k0 : (Int) → Option R) : Option R :=
  br (decide (x2 = (0 : Int)))
  (c0 x0
   (fun i114 => k0 i114))
  (br (decide (x2 = (0 : Int)))
   (none)
   (k0 (IntKind.wrap .u16 (Int.tdiv x1 x2))))
noncomputable def wide_divided (N : Nat) {R : Type} (x0 : Int) (x1 : Int) (x2 : Int) (k0 : (Int) → Option R) : Option R := wide_divided_T N (@wide_Mask N) x0 x1 x2 k0
abbrev wide_rest_Ty : Type 1 := {R : Type} → (Int) → (Int) → ((Int) → Option R) → Option R
noncomputable def wide_rest_T (N : Nat) {R : Type} (x0 : Int) (x1 : Int) (k0 : (Int) → Option R) : Option R :=
  br (decide (x1 = (0 : Int)))
  (k0 x0)
  (br (decide (x1 = (0 : Int)))
   (none)
   (k0 (Int.tmod x0 x1)))
noncomputable def wide_rest (N : Nat) {R : Type} (x0 : Int) (x1 : Int) (k0 : (Int) → Option R) : Option R := wide_rest_T N x0 x1 k0
abbrev wide_truth_Ty : Type 1 := {R : Type} → (Bool) → ((Int) → Option R) → Option R
noncomputable def wide_truth_T (N : Nat) {R : Type} (x0 : Bool) (k0 : (Int) → Option R) : Option R :=
  br x0
  (k0 (1 : Int))
  (k0 (0 : Int))
noncomputable def wide_truth (N : Nat) {R : Type} (x0 : Bool) (k0 : (Int) → Option R) : Option R := wide_truth_T N x0 k0
abbrev wide_reckon_Ty : Type 1 := {R : Type} → (Int) → (Int) → (Int) → (Int) → ((Int) → (Bool) → Option R) → Option R
noncomputable def wide_reckon_T (N : Nat) (c0 : wide_truth_Ty) (c1 : wide_rest_Ty) (c2 : wide_divided_Ty) {R : Type} (x0 : Int) (x1 : Int) (x2 : Int) (x3 : Int) (k0 : (Int) → (Bool) → Option R) : Option R :=
  br (decide (x0 = (3 : Int)))
  (k0 (bxor .u16 (if ((IntKind.signed .u16) = true) then (-1 : Int) else (IntKind.max .u16)) x2) true)
  (br (decide (x0 = (4 : Int)))
   (k0 (band .u16 x2 x3) true)
   (br (decide (x0 = (5 : Int)))
    (k0 (bor .u16 x2 x3) true)
    (br (decide (x0 = (6 : Int)))
     (k0 (bxor .u16 x2 x3) true)
     (br (decide (x0 = (7 : Int)))
      (k0 (IntKind.wrap .u16 (x2 + x3)) true)
      (br (decide (x0 = (8 : Int)))
       (k0 (IntKind.wrap .u16 (x2 - x3)) true)
       (br (decide (x0 = (9 : Int)))
        (k0 (IntKind.wrap .u16 (x2 * x3)) true)
        (br (decide (x0 = (10 : Int)))
         (c2 x1 x2 x3
          (fun i115 => k0 i115 true))
         (br (decide (x0 = (11 : Int)))
          (c1 x2 x3
           (fun i116 => k0 i116 true))
          (br (decide (x0 = (12 : Int)))
           (br (decide (x3 < (0 : Int)))
            (none)
            (k0 (shlI .u16 x2 x3) true))
           (br (decide (x0 = (13 : Int)))
            (br (decide (x3 < (0 : Int)))
             (none)
             (k0 (shrI .u16 x2 x3) true))
            (br (decide (x0 = (14 : Int)))
             (c0 (decide (x2 = x3))
              (fun i117 => k0 i117 true))
             (br (decide (x0 = (15 : Int)))
              (c0 (decide (x2 < x3))
               (fun i118 => k0 i118 true))
              (k0 (0 : Int) false)))))))))))))
noncomputable def wide_reckon (N : Nat) {R : Type} (x0 : Int) (x1 : Int) (x2 : Int) (x3 : Int) (k0 : (Int) → (Bool) → Option R) : Option R := wide_reckon_T N (@wide_truth N) (@wide_rest N) (@wide_divided N) x0 x1 x2 x3 k0
abbrev wide_Do_Ty : Type 1 := {R : Type} → (Int) → (Int) → (Int) → (Int) → ((Int) → (Int) → Option R) → Option R
noncomputable def wide_Do_T (N : Nat) (c0 : wide_reckon_Ty) (c1 : wide_Mask_Ty) (c2 : wide_May_Ty) {R : Type} (x0 : Int) (x1 : Int) (x2 : Int) (x3 : Int) (k0 : (Int) → (Int) → Option R) : Option R :=
  c2 x1
  (fun b112 => br (!b112)
   (k0 (0 : Int) (2 : Int))
   (c1 x1
    (fun i113 => c0 x0 x1 (band .u16 x2 i113) (band .u16 x3 i113)
     (fun i119 b120 => br (!b120)
      (k0 (0 : Int) (5 : Int))
      (k0 (band .u16 i119 i113) (0 : Int))))))
noncomputable def wide_Do (N : Nat) {R : Type} (x0 : Int) (x1 : Int) (x2 : Int) (x3 : Int) (k0 : (Int) → (Int) → Option R) : Option R := wide_Do_T N (@wide_reckon N) (@wide_Mask N) (@wide_May N) x0 x1 x2 x3 k0
abbrev wide_Out_Ty : Type 1 := {R : Type} → (Int) → (Int) → ((Int) → Option R) → Option R
noncomputable def wide_Out_T (N : Nat) (c0 : wide_Do_Ty) {R : Type} (x0 : Int) (x1 : Int) (k0 : (Int) → Option R) : Option R :=
  c0 x0 x1 (0 : Int) (0 : Int)
  (fun i127 i128 => br (!(decide (i128 = (0 : Int))))
   (k0 (0 : Int))
   (br (!(decide (x0 = (14 : Int))))
    (br (decide (x0 = (15 : Int)))
     (k0 (1 : Int))
     (k0 x1))
    (k0 (1 : Int))))
noncomputable def wide_Out (N : Nat) {R : Type} (x0 : Int) (x1 : Int) (k0 : (Int) → Option R) : Option R := wide_Out_T N (@wide_Do N) x0 x1 k0
abbrev term_turns_Ty : Type 1 := {R : Type} → (Int) → ((Bool) → Option R) → Option R
noncomputable def term_turns_T (N : Nat) {R : Type} (x0 : Int) (k0 : (Bool) → Option R) : Option R :=
  br (decide (x0 = (4 : Int)))
  (k0 true)
  (br (decide (x0 = (5 : Int)))
   (k0 true)
   (br (decide (x0 = (6 : Int)))
    (k0 true)
    (br (decide (x0 = (7 : Int)))
     (k0 true)
     (br (decide (x0 = (9 : Int)))
      (k0 true)
      (br (decide (x0 = (14 : Int)))
       (k0 true)
       (k0 false))))))
noncomputable def term_turns (N : Nat) {R : Type} (x0 : Int) (k0 : (Bool) → Option R) : Option R := term_turns_T N x0 k0
abbrev term_Arena_alike_99d8_Ty : Type 1 := {R : Type} → (Int) → (Int) → (List ((Int) × ((Int) × ((Int) × ((Int) × ((Int) × (Int))))))) → (List (((Int) × ((Int) × ((Int) × ((Int) × ((Int) × (Int)))))) × (Int))) → (List ((Int) × (Int))) → ((Int) → (Int) → (Bool) → (List (((Int) × ((Int) × ((Int) × ((Int) × ((Int) × (Int)))))) × (Int))) → (List ((Int) × (Int))) → (List ((Int) × ((Int) × ((Int) × ((Int) × ((Int) × (Int))))))) → Option R) → Option R
noncomputable def term_Arena_alike_99d8_T (N : Nat) (c0 : wide_Do_Ty) (c1 : term_Arena_Const_2c81_Ty) (c2 : term_Arena_Width_43b4_Ty) {R : Type} (x0 : Int) (x1 : Int) (x2 : List ((Int) × ((Int) × ((Int) × ((Int) × ((Int) × (Int))))))) (x3 : List (((Int) × ((Int) × ((Int) × ((Int) × ((Int) × (Int)))))) × (Int))) (x4 : List ((Int) × (Int))) (k0 : (Int) → (Int) → (Bool) → (List (((Int) × ((Int) × ((Int) × ((Int) × ((Int) × (Int)))))) × (Int))) → (List ((Int) × (Int))) → (List ((Int) × ((Int) × ((Int) × ((Int) × ((Int) × (Int))))))) → Option R) : Option R :=
  c2 x1 x2 x3 x4
  (fun i185 l186 l187 l188 => br (decide (x0 = (4 : Int)))
   (k0 x1 (0 : Int) true l187 l188 l186)
   (br (decide (x0 = (5 : Int)))
    (k0 x1 (0 : Int) true l187 l188 l186)
    (br (decide (x0 = (6 : Int)))
     (c1 i185 (0 : Int) l186 l187 l188
      (fun i189 i190 l191 l192 l193 => k0 i189 i190 true l191 l192 l193))
     (br (decide (x0 = (8 : Int)))
      (c1 i185 (0 : Int) l186 l187 l188
       (fun i194 i195 l196 l197 l198 => k0 i194 i195 true l196 l197 l198))
      (br (decide (x0 = (14 : Int)))
       (c0 x0 i185 (0 : Int) (0 : Int)
        (fun i199 i200 => c1 (1 : Int) i199 l186 l187 l188
         (fun i201 i202 l203 l204 l205 => k0 i201 i202 true l203 l204 l205)))
       (br (decide (x0 = (15 : Int)))
        (c0 x0 i185 (0 : Int) (0 : Int)
         (fun i206 i207 => c1 (1 : Int) i206 l186 l187 l188
          (fun i208 i209 l210 l211 l212 => k0 i208 i209 true l210 l211 l212)))
        (k0 (0 : Int) (0 : Int) false l187 l188 l186)))))))
noncomputable def term_Arena_alike_99d8 (N : Nat) {R : Type} (x0 : Int) (x1 : Int) (x2 : List ((Int) × ((Int) × ((Int) × ((Int) × ((Int) × (Int))))))) (x3 : List (((Int) × ((Int) × ((Int) × ((Int) × ((Int) × (Int)))))) × (Int))) (x4 : List ((Int) × (Int))) (k0 : (Int) → (Int) → (Bool) → (List (((Int) × ((Int) × ((Int) × ((Int) × ((Int) × (Int)))))) × (Int))) → (List ((Int) × (Int))) → (List ((Int) × ((Int) × ((Int) × ((Int) × ((Int) × (Int))))))) → Option R) : Option R := term_Arena_alike_99d8_T N (@wide_Do N) (@term_Arena_Const_2c81 N) (@term_Arena_Width_43b4 N) x0 x1 x2 x3 x4 k0
abbrev term_Arena_Not_43b4_Ty : Type 1 := {R : Type} → (Int) → (List ((Int) × ((Int) × ((Int) × ((Int) × ((Int) × (Int))))))) → (List (((Int) × ((Int) × ((Int) × ((Int) × ((Int) × (Int)))))) × (Int))) → (List ((Int) × (Int))) → ((Int) → (Int) → (List (((Int) × ((Int) × ((Int) × ((Int) × ((Int) × (Int)))))) × (Int))) → (List ((Int) × (Int))) → (List ((Int) × ((Int) × ((Int) × ((Int) × ((Int) × (Int))))))) → Option R) → Option R
noncomputable def term_Arena_Not_43b4_T (N : Nat) (c0 : term_Arena_keep_a25e_Ty) (c1 : term_Arena_Const_2c81_Ty) (c2 : term_Arena_Node_43b4_Ty) (c3 : term_Arena_there_2549_Ty) {R : Type} (x0 : Int) (x1 : List ((Int) × ((Int) × ((Int) × ((Int) × ((Int) × (Int))))))) (x2 : List (((Int) × ((Int) × ((Int) × ((Int) × ((Int) × (Int)))))) × (Int))) (x3 : List ((Int) × (Int))) (k0 : (Int) → (Int) → (List (((Int) × ((Int) × ((Int) × ((Int) × ((Int) × (Int)))))) × (Int))) → (List ((Int) × (Int))) → (List ((Int) × ((Int) × ((Int) × ((Int) × ((Int) × (Int))))))) → Option R) : Option R :=
  c3 x1 x2 x3 (x0 :: ([] : List ((Sh.int IntKind.i64).T)))
  (fun b276 l277 l278 l279 l280 => br (!b276)
   (k0 (0 : Int) (1 : Int) l278 l279 l277)
   (c2 x0 l277 l278 l279
    (fun i281 i282 i283 i284 i285 i286 b287 l288 l289 l290 => br (decide (i281 = (1 : Int)))
     (c1 i282 (bxor .u16 (if ((IntKind.signed .u16) = true) then (-1 : Int) else (IntKind.max .u16)) i283) l288 l289 l290
      (fun i291 i292 l293 l294 l295 => k0 i291 i292 l293 l294 l295))
     (br (decide (i281 = (3 : Int)))
      (k0 i284 (0 : Int) l289 l290 l288)
      (c0 (3 : Int) i282 (0 : Int) x0 (0 : Int) (0 : Int) l288 l289 l290
       (fun i296 i297 l298 l299 l300 => k0 i296 i297 l298 l299 l300))))))
noncomputable def term_Arena_Not_43b4 (N : Nat) {R : Type} (x0 : Int) (x1 : List ((Int) × ((Int) × ((Int) × ((Int) × ((Int) × (Int))))))) (x2 : List (((Int) × ((Int) × ((Int) × ((Int) × ((Int) × (Int)))))) × (Int))) (x3 : List ((Int) × (Int))) (k0 : (Int) → (Int) → (List (((Int) × ((Int) × ((Int) × ((Int) × ((Int) × (Int)))))) × (Int))) → (List ((Int) × (Int))) → (List ((Int) × ((Int) × ((Int) × ((Int) × ((Int) × (Int))))))) → Option R) : Option R := term_Arena_Not_43b4_T N (@term_Arena_keep_a25e N) (@term_Arena_Const_2c81 N) (@term_Arena_Node_43b4 N) (@term_Arena_there_2549 N) x0 x1 x2 x3 k0
abbrev term_Arena_Under_2549_l0_Ty : Type 1 := {R : Type} → ((Int) → (List ((Int) × ((Int) × ((Int) × ((Int) × ((Int) × (Int))))))) → (List (((Int) × ((Int) × ((Int) × ((Int) × ((Int) × (Int)))))) × (Int))) → (List ((Int) × (Int))) → (List (Int)) → Option R) → Nat → (Int) → (Int) → (Int) → (List ((Int) × ((Int) × ((Int) × ((Int) × ((Int) × (Int))))))) → (List (((Int) × ((Int) × ((Int) × ((Int) × ((Int) × (Int)))))) × (Int))) → (List ((Int) × (Int))) → (List (Int)) → Option R
abbrev term_Arena_Under_2549_l1_Ty : Type 1 := {R : Type} → ((Int) → (List ((Int) × ((Int) × ((Int) × ((Int) × ((Int) × (Int))))))) → (List (((Int) × ((Int) × ((Int) × ((Int) × ((Int) × (Int)))))) × (Int))) → (List ((Int) × (Int))) → (List (Int)) → (List (Bool)) → Option R) → Nat → (Int) → (Int) → (Int) → (List ((Int) × ((Int) × ((Int) × ((Int) × ((Int) × (Int))))))) → (List (((Int) × ((Int) × ((Int) × ((Int) × ((Int) × (Int)))))) × (Int))) → (List ((Int) × (Int))) → (List (Int)) → (List (Bool)) → Option R
abbrev term_Arena_Under_2549_l2_Ty : Type 1 := {R : Type} → ((Int) → (List ((Int) × ((Int) × ((Int) × ((Int) × ((Int) × (Int))))))) → (List (((Int) × ((Int) × ((Int) × ((Int) × ((Int) × (Int)))))) × (Int))) → (List ((Int) × (Int))) → (List (Int)) → (List (Bool)) → Option R) → Nat → (Int) → (Int) → (List ((Int) × ((Int) × ((Int) × ((Int) × ((Int) × (Int))))))) → (List (((Int) × ((Int) × ((Int) × ((Int) × ((Int) × (Int)))))) × (Int))) → (List ((Int) × (Int))) → (List (Int)) → (List (Bool)) → Option R
abbrev term_Arena_Under_2549_l3_Ty : Type 1 := {R : Type} → ((List ((Int) × ((Int) × ((Int) × ((Int) × ((Int) × (Int))))))) → (List (((Int) × ((Int) × ((Int) × ((Int) × ((Int) × (Int)))))) × (Int))) → (List ((Int) × (Int))) → (List (Int)) → (List (Int)) → Option R) → Nat → (Int) → (Int) → (List ((Int) × ((Int) × ((Int) × ((Int) × ((Int) × (Int))))))) → (List (((Int) × ((Int) × ((Int) × ((Int) × ((Int) × (Int)))))) × (Int))) → (List ((Int) × (Int))) → (List (Int)) → (List (Bool)) → (List (Int)) → Option R
abbrev term_Arena_Under_2549_Ty : Type 1 := {R : Type} → (List ((Int) × ((Int) × ((Int) × ((Int) × ((Int) × (Int))))))) → (List (((Int) × ((Int) × ((Int) × ((Int) × ((Int) × (Int)))))) × (Int))) → (List ((Int) × (Int))) → (List (Int)) → ((List ((Int) × ((Int) × ((Int) × ((Int) × ((Int) × (Int))))))) → (List (((Int) × ((Int) × ((Int) × ((Int) × ((Int) × (Int)))))) × (Int))) → (List ((Int) × (Int))) → (List (Int)) → (List (Int)) → Option R) → Option R
noncomputable def term_Arena_Under_2549_l0_T0 (N : Nat) (c0 : term_Arena_there_2549_Ty) (w1 : term_Arena_Under_2549_l1_Ty) (w2 : term_Arena_Under_2549_l2_Ty) (w3 : term_Arena_Under_2549_l3_Ty) {R : Type} (nx : (Int) → (Int) → (Int) → (List ((Int) × ((Int) × ((Int) × ((Int) × ((Int) × (Int))))))) → (List (((Int) × ((Int) × ((Int) × ((Int) × ((Int) × (Int)))))) × (Int))) → (List ((Int) × (Int))) → (List (Int)) → Option R) (k0 : (Int) → (List ((Int) × ((Int) × ((Int) × ((Int) × ((Int) × (Int))))))) → (List (((Int) × ((Int) × ((Int) × ((Int) × ((Int) × (Int)))))) × (Int))) → (List ((Int) × (Int))) → (List (Int)) → Option R) (x0 : Int) (x1 : Int) (x2 : Int) (x3 : List ((Int) × ((Int) × ((Int) × ((Int) × ((Int) × (Int))))))) (x4 : List (((Int) × ((Int) × ((Int) × ((Int) × ((Int) × (Int)))))) × (Int))) (x5 : List ((Int) × (Int))) (x6 : List (Int)) : Option R :=
  br (decide (x2 < x1))
  (br (inB x2 (List.length x6))
   (br (decide ((Int.toNat x2) < (List.length x6)))
    (c0 x3 x4 x5 ((List.getD x6 (Int.toNat x2) (0 : Int)) :: ([] : List ((Sh.int IntKind.i64).T)))
     (fun b682 l683 l684 l685 l686 => br b682
      (nx (if (x0 < (List.getD x6 (Int.toNat x2) (0 : Int))) then (List.getD x6 (Int.toNat x2) (0 : Int)) else x0) x1 (IntKind.wrap .i64 (x2 + (1 : Int))) l683 l684 l685 x6)
      (nx x0 x1 (IntKind.wrap .i64 (x2 + (1 : Int))) l683 l684 l685 x6)))
    (none))
   (none))
  (k0 x0 x3 x4 x5 x6)
noncomputable def term_Arena_Under_2549_l1_T0 (N : Nat) (c0 : term_Arena_there_2549_Ty) (w2 : term_Arena_Under_2549_l2_Ty) (w3 : term_Arena_Under_2549_l3_Ty) {R : Type} (nx : (Int) → (Int) → (Int) → (List ((Int) × ((Int) × ((Int) × ((Int) × ((Int) × (Int))))))) → (List (((Int) × ((Int) × ((Int) × ((Int) × ((Int) × (Int)))))) × (Int))) → (List ((Int) × (Int))) → (List (Int)) → (List (Bool)) → Option R) (k0 : (Int) → (List ((Int) × ((Int) × ((Int) × ((Int) × ((Int) × (Int))))))) → (List (((Int) × ((Int) × ((Int) × ((Int) × ((Int) × (Int)))))) × (Int))) → (List ((Int) × (Int))) → (List (Int)) → (List (Bool)) → Option R) (x0 : Int) (x1 : Int) (x2 : Int) (x3 : List ((Int) × ((Int) × ((Int) × ((Int) × ((Int) × (Int))))))) (x4 : List (((Int) × ((Int) × ((Int) × ((Int) × ((Int) × (Int)))))) × (Int))) (x5 : List ((Int) × (Int))) (x6 : List (Int)) (x7 : List (Bool)) : Option R :=
  br (decide (x2 < x1))
  (br (inB x2 (List.length x6))
   (br (decide ((Int.toNat x2) < (List.length x6)))
    (c0 x3 x4 x5 ((List.getD x6 (Int.toNat x2) (0 : Int)) :: ([] : List ((Sh.int IntKind.i64).T)))
     (fun b692 l693 l694 l695 l696 => br b692
      (br (inB (List.getD x6 (Int.toNat x2) (0 : Int)) (List.length x7))
       (br (decide ((Int.toNat (List.getD x6 (Int.toNat x2) (0 : Int))) < (List.length x7)))
        (nx x0 x1 (IntKind.wrap .i64 (x2 + (1 : Int))) l693 l694 l695 x6 (List.set x7 (Int.toNat (List.getD x6 (Int.toNat x2) (0 : Int))) true))
        (none))
       (none))
      (nx x0 x1 (IntKind.wrap .i64 (x2 + (1 : Int))) l693 l694 l695 x6 x7)))
    (none))
   (none))
  (k0 x0 x3 x4 x5 x6 x7)
noncomputable def term_Arena_Under_2549_l2_T0 (N : Nat) (c0 : term_Arena_there_2549_Ty) (w3 : term_Arena_Under_2549_l3_Ty) {R : Type} (nx : (Int) → (Int) → (List ((Int) × ((Int) × ((Int) × ((Int) × ((Int) × (Int))))))) → (List (((Int) × ((Int) × ((Int) × ((Int) × ((Int) × (Int)))))) × (Int))) → (List ((Int) × (Int))) → (List (Int)) → (List (Bool)) → Option R) (k0 : (Int) → (List ((Int) × ((Int) × ((Int) × ((Int) × ((Int) × (Int))))))) → (List (((Int) × ((Int) × ((Int) × ((Int) × ((Int) × (Int)))))) × (Int))) → (List ((Int) × (Int))) → (List (Int)) → (List (Bool)) → Option R) (x0 : Int) (x1 : Int) (x2 : List ((Int) × ((Int) × ((Int) × ((Int) × ((Int) × (Int))))))) (x3 : List (((Int) × ((Int) × ((Int) × ((Int) × ((Int) × (Int)))))) × (Int))) (x4 : List ((Int) × (Int))) (x5 : List (Int)) (x6 : List (Bool)) : Option R :=
  br (decide ((0 : Int) < x1))
  (br (inB x1 (List.length x6))
   (br (decide ((Int.toNat x1) < (List.length x6)))
    (br (!(List.getD x6 (Int.toNat x1) false))
     (nx x0 (IntKind.wrap .i64 (x1 - (1 : Int))) x2 x3 x4 x5 x6)
     (br (inB (IntKind.wrap .i64 (x1 - (1 : Int))) (List.length x2))
      (br (decide ((Int.toNat (IntKind.wrap .i64 (x1 - (1 : Int)))) < (List.length x2)))
       (br (inB (List.getD x2 (Int.toNat (IntKind.wrap .i64 (x1 - (1 : Int)))) ((0 : Int) , ((0 : Int) , ((0 : Int) , ((0 : Int) , ((0 : Int) , (0 : Int))))))).2.2.2.1 (List.length x6))
        (br (decide ((Int.toNat (List.getD x2 (Int.toNat (IntKind.wrap .i64 (x1 - (1 : Int)))) ((0 : Int) , ((0 : Int) , ((0 : Int) , ((0 : Int) , ((0 : Int) , (0 : Int))))))).2.2.2.1) < (List.length x6)))
         (br (decide ((List.getD x2 (Int.toNat (IntKind.wrap .i64 (x1 - (1 : Int)))) ((0 : Int) , ((0 : Int) , ((0 : Int) , ((0 : Int) , ((0 : Int) , (0 : Int))))))).2.2.2.2.1 = (List.getD x2 (Int.toNat (IntKind.wrap .i64 (x1 - (1 : Int)))) ((0 : Int) , ((0 : Int) , ((0 : Int) , ((0 : Int) , ((0 : Int) , (0 : Int))))))).2.2.2.2.1))
          (br (decide ((List.getD x2 (Int.toNat (IntKind.wrap .i64 (x1 - (1 : Int)))) ((0 : Int) , ((0 : Int) , ((0 : Int) , ((0 : Int) , ((0 : Int) , (0 : Int))))))).2.2.2.2.2 = (List.getD x2 (Int.toNat (IntKind.wrap .i64 (x1 - (1 : Int)))) ((0 : Int) , ((0 : Int) , ((0 : Int) , ((0 : Int) , ((0 : Int) , (0 : Int))))))).2.2.2.2.2))
           (br (inB (List.getD x2 (Int.toNat (IntKind.wrap .i64 (x1 - (1 : Int)))) ((0 : Int) , ((0 : Int) , ((0 : Int) , ((0 : Int) , ((0 : Int) , (0 : Int))))))).2.2.2.2.1 (List.length x6))
            (br (decide ((Int.toNat (List.getD x2 (Int.toNat (IntKind.wrap .i64 (x1 - (1 : Int)))) ((0 : Int) , ((0 : Int) , ((0 : Int) , ((0 : Int) , ((0 : Int) , (0 : Int))))))).2.2.2.2.1) < (List.length x6)))
             (br (decide ((List.getD x2 (Int.toNat (IntKind.wrap .i64 (x1 - (1 : Int)))) ((0 : Int) , ((0 : Int) , ((0 : Int) , ((0 : Int) , ((0 : Int) , (0 : Int))))))).2.2.2.2.2 = (List.getD x2 (Int.toNat (IntKind.wrap .i64 (x1 - (1 : Int)))) ((0 : Int) , ((0 : Int) , ((0 : Int) , ((0 : Int) , ((0 : Int) , (0 : Int))))))).2.2.2.2.2))
              (br (inB (List.getD x2 (Int.toNat (IntKind.wrap .i64 (x1 - (1 : Int)))) ((0 : Int) , ((0 : Int) , ((0 : Int) , ((0 : Int) , ((0 : Int) , (0 : Int))))))).2.2.2.2.2 (List.length x6))
               (br (decide ((Int.toNat (List.getD x2 (Int.toNat (IntKind.wrap .i64 (x1 - (1 : Int)))) ((0 : Int) , ((0 : Int) , ((0 : Int) , ((0 : Int) , ((0 : Int) , (0 : Int))))))).2.2.2.2.2) < (List.length x6)))
                (nx (IntKind.wrap .i64 (x0 + (1 : Int))) (IntKind.wrap .i64 (x1 - (1 : Int))) x2 x3 x4 x5 (List.set (List.set (List.set x6 (Int.toNat (List.getD x2 (Int.toNat (IntKind.wrap .i64 (x1 - (1 : Int)))) ((0 : Int) , ((0 : Int) , ((0 : Int) , ((0 : Int) , ((0 : Int) , (0 : Int))))))).2.2.2.1) true) (Int.toNat (List.getD x2 (Int.toNat (IntKind.wrap .i64 (x1 - (1 : Int)))) ((0 : Int) , ((0 : Int) , ((0 : Int) , ((0 : Int) , ((0 : Int) , (0 : Int))))))).2.2.2.2.1) true) (Int.toNat (List.getD x2 (Int.toNat (IntKind.wrap .i64 (x1 - (1 : Int)))) ((0 : Int) , ((0 : Int) , ((0 : Int) , ((0 : Int) , ((0 : Int) , (0 : Int))))))).2.2.2.2.2) true))
                (none))
               (none))
              (none))
             (none))
            (none))
           (none))
          (none))
         (none))
        (none))
       (none))
      (none)))
    (none))
   (none))
  (k0 x0 x2 x3 x4 x5 x6)
noncomputable def term_Arena_Under_2549_l3_T0 (N : Nat) (c0 : term_Arena_there_2549_Ty) {R : Type} (nx : (Int) → (Int) → (List ((Int) × ((Int) × ((Int) × ((Int) × ((Int) × (Int))))))) → (List (((Int) × ((Int) × ((Int) × ((Int) × ((Int) × (Int)))))) × (Int))) → (List ((Int) × (Int))) → (List (Int)) → (List (Bool)) → (List (Int)) → Option R) (k0 : (List ((Int) × ((Int) × ((Int) × ((Int) × ((Int) × (Int))))))) → (List (((Int) × ((Int) × ((Int) × ((Int) × ((Int) × (Int)))))) × (Int))) → (List ((Int) × (Int))) → (List (Int)) → (List (Int)) → Option R) (x0 : Int) (x1 : Int) (x2 : List ((Int) × ((Int) × ((Int) × ((Int) × ((Int) × (Int))))))) (x3 : List (((Int) × ((Int) × ((Int) × ((Int) × ((Int) × (Int)))))) × (Int))) (x4 : List ((Int) × (Int))) (x5 : List (Int)) (x6 : List (Bool)) (x7 : List (Int)) : Option R :=
  br (decide (x1 < x0))
  (br (decide ((0 : Int) < x1))
   (br (inB x1 (List.length x6))
    (br (decide ((Int.toNat x1) < (List.length x6)))
     (br (List.getD x6 (Int.toNat x1) false)
      (br (((fits (0 : Nat) (List.length x7) x7) && (decide ((((List.length x7) + (1 : Nat)) * (8 : Nat)) ≤ (70368744177664 : Nat)))) && true)
       (nx x0 (IntKind.wrap .i64 (x1 + (1 : Int))) x2 x3 x4 x5 x6 ((sub x7 (0 : Nat) (List.length x7)) ++ (x1 :: ([] : List ((Sh.int IntKind.i64).T)))))
       (none))
      (nx x0 (IntKind.wrap .i64 (x1 + (1 : Int))) x2 x3 x4 x5 x6 x7))
     (none))
    (none))
   (nx x0 (IntKind.wrap .i64 (x1 + (1 : Int))) x2 x3 x4 x5 x6 x7))
  (k0 x2 x3 x4 x5 x7)
noncomputable def term_Arena_Under_2549_l3 (N : Nat) {R : Type} (k0 : (List ((Int) × ((Int) × ((Int) × ((Int) × ((Int) × (Int))))))) → (List (((Int) × ((Int) × ((Int) × ((Int) × ((Int) × (Int)))))) × (Int))) → (List ((Int) × (Int))) → (List (Int)) → (List (Int)) → Option R) : Nat → (Int) → (Int) → (List ((Int) × ((Int) × ((Int) × ((Int) × ((Int) × (Int))))))) → (List (((Int) × ((Int) × ((Int) × ((Int) × ((Int) × (Int)))))) × (Int))) → (List ((Int) × (Int))) → (List (Int)) → (List (Bool)) → (List (Int)) → Option R
  | 0, _, _, _, _, _, _, _, _ => none
  | n + 1, x0, x1, x2, x3, x4, x5, x6, x7 => term_Arena_Under_2549_l3_T0 N (@term_Arena_there_2549 N) (fun x0 x1 x2 x3 x4 x5 x6 x7 => term_Arena_Under_2549_l3 N k0 n x0 x1 x2 x3 x4 x5 x6 x7) k0 x0 x1 x2 x3 x4 x5 x6 x7
noncomputable def term_Arena_Under_2549_l2 (N : Nat) {R : Type} (k0 : (Int) → (List ((Int) × ((Int) × ((Int) × ((Int) × ((Int) × (Int))))))) → (List (((Int) × ((Int) × ((Int) × ((Int) × ((Int) × (Int)))))) × (Int))) → (List ((Int) × (Int))) → (List (Int)) → (List (Bool)) → Option R) : Nat → (Int) → (Int) → (List ((Int) × ((Int) × ((Int) × ((Int) × ((Int) × (Int))))))) → (List (((Int) × ((Int) × ((Int) × ((Int) × ((Int) × (Int)))))) × (Int))) → (List ((Int) × (Int))) → (List (Int)) → (List (Bool)) → Option R
  | 0, _, _, _, _, _, _, _ => none
  | n + 1, x0, x1, x2, x3, x4, x5, x6 => term_Arena_Under_2549_l2_T0 N (@term_Arena_there_2549 N) (@term_Arena_Under_2549_l3 N) (fun x0 x1 x2 x3 x4 x5 x6 => term_Arena_Under_2549_l2 N k0 n x0 x1 x2 x3 x4 x5 x6) k0 x0 x1 x2 x3 x4 x5 x6
noncomputable def term_Arena_Under_2549_l1 (N : Nat) {R : Type} (k0 : (Int) → (List ((Int) × ((Int) × ((Int) × ((Int) × ((Int) × (Int))))))) → (List (((Int) × ((Int) × ((Int) × ((Int) × ((Int) × (Int)))))) × (Int))) → (List ((Int) × (Int))) → (List (Int)) → (List (Bool)) → Option R) : Nat → (Int) → (Int) → (Int) → (List ((Int) × ((Int) × ((Int) × ((Int) × ((Int) × (Int))))))) → (List (((Int) × ((Int) × ((Int) × ((Int) × ((Int) × (Int)))))) × (Int))) → (List ((Int) × (Int))) → (List (Int)) → (List (Bool)) → Option R
  | 0, _, _, _, _, _, _, _, _ => none
  | n + 1, x0, x1, x2, x3, x4, x5, x6, x7 => term_Arena_Under_2549_l1_T0 N (@term_Arena_there_2549 N) (@term_Arena_Under_2549_l2 N) (@term_Arena_Under_2549_l3 N) (fun x0 x1 x2 x3 x4 x5 x6 x7 => term_Arena_Under_2549_l1 N k0 n x0 x1 x2 x3 x4 x5 x6 x7) k0 x0 x1 x2 x3 x4 x5 x6 x7
noncomputable def term_Arena_Under_2549_l0 (N : Nat) {R : Type} (k0 : (Int) → (List ((Int) × ((Int) × ((Int) × ((Int) × ((Int) × (Int))))))) → (List (((Int) × ((Int) × ((Int) × ((Int) × ((Int) × (Int)))))) × (Int))) → (List ((Int) × (Int))) → (List (Int)) → Option R) : Nat → (Int) → (Int) → (Int) → (List ((Int) × ((Int) × ((Int) × ((Int) × ((Int) × (Int))))))) → (List (((Int) × ((Int) × ((Int) × ((Int) × ((Int) × (Int)))))) × (Int))) → (List ((Int) × (Int))) → (List (Int)) → Option R
  | 0, _, _, _, _, _, _, _ => none
  | n + 1, x0, x1, x2, x3, x4, x5, x6 => term_Arena_Under_2549_l0_T0 N (@term_Arena_there_2549 N) (@term_Arena_Under_2549_l1 N) (@term_Arena_Under_2549_l2 N) (@term_Arena_Under_2549_l3 N) (fun x0 x1 x2 x3 x4 x5 x6 => term_Arena_Under_2549_l0 N k0 n x0 x1 x2 x3 x4 x5 x6) k0 x0 x1 x2 x3 x4 x5 x6
noncomputable def term_Arena_Under_2549_T (N : Nat) (c0 : term_Arena_there_2549_Ty) (w0 : term_Arena_Under_2549_l0_Ty) (w1 : term_Arena_Under_2549_l1_Ty) (w2 : term_Arena_Under_2549_l2_Ty) (w3 : term_Arena_Under_2549_l3_Ty) {R : Type} (x0 : List ((Int) × ((Int) × ((Int) × ((Int) × ((Int) × (Int))))))) (x1 : List (((Int) × ((Int) × ((Int) × ((Int) × ((Int) × (Int)))))) × (Int))) (x2 : List ((Int) × (Int))) (x3 : List (Int)) (k0 : (List ((Int) × ((Int) × ((Int) × ((Int) × ((Int) × (Int))))))) → (List (((Int) × ((Int) × ((Int) × ((Int) × ((Int) × (Int)))))) × (Int))) → (List ((Int) × (Int))) → (List (Int)) → (List (Int)) → Option R) : Option R :=
  w0
  (fun i687 l688 l689 l690 l691 => br ((((decide ((0 : Int) ≤ (IntKind.wrap .i64 (i687 + (1 : Int))))) && (decide ((IntKind.wrap .i64 (i687 + (1 : Int))) ≤ (IntKind.wrap .i64 (i687 + (1 : Int)))))) && (decide (((IntKind.wrap .i64 (i687 + (1 : Int))) * (1 : Int)) ≤ ((2 : Int) ^ (46 : Nat))))) && true)
   (w1
    (fun i697 l698 l699 l700 l701 l702 => w2
     (fun i703 l704 l705 l706 l707 l708 => br (((decide ((0 : Int) ≤ i703)) && (decide ((i703 * (8 : Int)) ≤ ((2 : Int) ^ (46 : Nat))))) && true)
      (w3
       (fun l709 l710 l711 l712 l713 => k0 l709 l710 l711 l712 l713)
       N (Nat.cast (List.length l708) : Int) (0 : Int) l704 l705 l706 l707 l708 ([] : List ((Sh.int IntKind.i64).T)))
      (none))
     N (0 : Int) i697 l698 l699 l700 l701 l702)
    N i687 (Nat.cast (List.length l691) : Int) (0 : Int) l688 l689 l690 l691 (List.replicate (Int.toNat (IntKind.wrap .i64 (i687 + (1 : Int)))) false))
   (none))
  N (0 : Int) (Nat.cast (List.length x3) : Int) (0 : Int) x0 x1 x2 x3
noncomputable def term_Arena_Under_2549 (N : Nat) {R : Type} (x0 : List ((Int) × ((Int) × ((Int) × ((Int) × ((Int) × (Int))))))) (x1 : List (((Int) × ((Int) × ((Int) × ((Int) × ((Int) × (Int)))))) × (Int))) (x2 : List ((Int) × (Int))) (x3 : List (Int)) (k0 : (List ((Int) × ((Int) × ((Int) × ((Int) × ((Int) × (Int))))))) → (List (((Int) × ((Int) × ((Int) × ((Int) × ((Int) × (Int)))))) × (Int))) → (List ((Int) × (Int))) → (List (Int)) → (List (Int)) → Option R) : Option R := term_Arena_Under_2549_T N (@term_Arena_there_2549 N) (@term_Arena_Under_2549_l0 N) (@term_Arena_Under_2549_l1 N) (@term_Arena_Under_2549_l2 N) (@term_Arena_Under_2549_l3 N) x0 x1 x2 x3 k0
abbrev term_Arena_Ite_12d2_Ty : Type 1 := {R : Type} → (Int) → (Int) → (Int) → (List ((Int) × ((Int) × ((Int) × ((Int) × ((Int) × (Int))))))) → (List (((Int) × ((Int) × ((Int) × ((Int) × ((Int) × (Int)))))) × (Int))) → (List ((Int) × (Int))) → ((Int) → (Int) → (List (((Int) × ((Int) × ((Int) × ((Int) × ((Int) × (Int)))))) × (Int))) → (List ((Int) × (Int))) → (List ((Int) × ((Int) × ((Int) × ((Int) × ((Int) × (Int))))))) → Option R) → Option R
noncomputable def term_Arena_Ite_12d2_T (N : Nat) (c0 : term_Arena_keep_a25e_Ty) (c1 : term_Arena_Known_43b4_Ty) (c2 : term_Arena_Width_43b4_Ty) (c3 : term_Arena_there_2549_Ty) {R : Type} (x0 : Int) (x1 : Int) (x2 : Int) (x3 : List ((Int) × ((Int) × ((Int) × ((Int) × ((Int) × (Int))))))) (x4 : List (((Int) × ((Int) × ((Int) × ((Int) × ((Int) × (Int)))))) × (Int))) (x5 : List ((Int) × (Int))) (k0 : (Int) → (Int) → (List (((Int) × ((Int) × ((Int) × ((Int) × ((Int) × (Int)))))) × (Int))) → (List ((Int) × (Int))) → (List ((Int) × ((Int) × ((Int) × ((Int) × ((Int) × (Int))))))) → Option R) : Option R :=
  c3 x3 x4 x5 (x0 :: (x1 :: (x2 :: ([] : List ((Sh.int IntKind.i64).T)))))
  (fun b770 l771 l772 l773 l774 => br (!b770)
   (k0 (0 : Int) (1 : Int) l772 l773 l771)
   (c2 x0 l771 l772 l773
    (fun i775 l776 l777 l778 => br (!(!(decide (i775 = (1 : Int)))))
     (c2 x1 l776 l777 l778
      (fun i779 l780 l781 l782 => c2 x2 l780 l781 l782
       (fun i783 l784 l785 l786 => br (!(decide (i779 = i783)))
        (k0 (0 : Int) (2 : Int) l785 l786 l784)
        (c1 x0 l784 l785 l786
         (fun i787 b788 l789 l790 l791 => br (!(decide (x1 = x2)))
          (br b788
           (br (decide (i787 = (1 : Int)))
            (k0 x1 (0 : Int) l790 l791 l789)
            (br b788
             (k0 x2 (0 : Int) l790 l791 l789)
             (c2 x1 l789 l790 l791
              (fun i792 l793 l794 l795 => c0 (16 : Int) i792 (0 : Int) x0 x1 x2 l793 l794 l795
               (fun i796 i797 l798 l799 l800 => k0 i796 i797 l798 l799 l800)))))
           (br b788
            (k0 x2 (0 : Int) l790 l791 l789)
            (c2 x1 l789 l790 l791
             (fun i801 l802 l803 l804 => c0 (16 : Int) i801 (0 : Int) x0 x1 x2 l802 l803 l804
              (fun i805 i806 l807 l808 l809 => k0 i805 i806 l807 l808 l809)))))
          (k0 x1 (0 : Int) l790 l791 l789))))))
     (k0 (0 : Int) (2 : Int) l777 l778 l776))))
noncomputable def term_Arena_Ite_12d2 (N : Nat) {R : Type} (x0 : Int) (x1 : Int) (x2 : Int) (x3 : List ((Int) × ((Int) × ((Int) × ((Int) × ((Int) × (Int))))))) (x4 : List (((Int) × ((Int) × ((Int) × ((Int) × ((Int) × (Int)))))) × (Int))) (x5 : List ((Int) × (Int))) (k0 : (Int) → (Int) → (List (((Int) × ((Int) × ((Int) × ((Int) × ((Int) × (Int)))))) × (Int))) → (List ((Int) × (Int))) → (List ((Int) × ((Int) × ((Int) × ((Int) × ((Int) × (Int))))))) → Option R) : Option R := term_Arena_Ite_12d2_T N (@term_Arena_keep_a25e N) (@term_Arena_Known_43b4 N) (@term_Arena_Width_43b4 N) (@term_Arena_there_2549 N) x0 x1 x2 x3 x4 x5 k0
abbrev slices_Index__int_int_310e_l0_Ty : Type 1 := {R : Type} → ((Int) → (List (Int)) → Option R) → ((List (Int)) → Option R) → Nat → (Int) → (Int) → (Int) → (List (Int)) → Option R
abbrev slices_Index__int_int_310e_Ty : Type 1 := {R : Type} → (Int) → (List (Int)) → ((Int) → (List (Int)) → Option R) → Option R
noncomputable def slices_Index__int_int_310e_l0_T0 (N : Nat) {R : Type} (nx : (Int) → (Int) → (Int) → (List (Int)) → Option R) (k0 : (Int) → (List (Int)) → Option R) (k1 : (List (Int)) → Option R) (x0 : Int) (x1 : Int) (x2 : Int) (x3 : List (Int)) : Option R :=
  br (decide (x2 < x1))
  (br (inB x2 (List.length x3))
   (br (decide ((Int.toNat x2) < (List.length x3)))
    (br (decide (x0 = (List.getD x3 (Int.toNat x2) (0 : Int))))
     (k0 x2 x3)
     (nx x0 x1 (IntKind.wrap .i64 (x2 + (1 : Int))) x3))
    (none))
   (none))
  (k1 x3)
noncomputable def slices_Index__int_int_310e_l0 (N : Nat) {R : Type} (k0 : (Int) → (List (Int)) → Option R) (k1 : (List (Int)) → Option R) : Nat → (Int) → (Int) → (Int) → (List (Int)) → Option R
  | 0, _, _, _, _ => none
  | n + 1, x0, x1, x2, x3 => slices_Index__int_int_310e_l0_T0 N (fun x0 x1 x2 x3 => slices_Index__int_int_310e_l0 N k0 k1 n x0 x1 x2 x3) k0 k1 x0 x1 x2 x3
noncomputable def slices_Index__int_int_310e_T (N : Nat) (w0 : slices_Index__int_int_310e_l0_Ty) {R : Type} (x0 : Int) (x1 : List (Int)) (k0 : (Int) → (List (Int)) → Option R) : Option R :=
  w0
  (fun i943 l944 => k0 i943 l944)
  (fun l945 => k0 (-1 : Int) l945)
  N x0 (Nat.cast (List.length x1) : Int) (0 : Int) x1
noncomputable def slices_Index__int_int_310e (N : Nat) {R : Type} (x0 : Int) (x1 : List (Int)) (k0 : (Int) → (List (Int)) → Option R) : Option R := slices_Index__int_int_310e_T N (@slices_Index__int_int_310e_l0 N) x0 x1 k0
abbrev slices_Index__int_int_l0_Ty : Type 1 := {R : Type} → ((Int) → Option R) → (Option R) → Nat → (List (Int)) → (Int) → (Int) → (Int) → Option R
abbrev slices_Index__int_int_Ty : Type 1 := {R : Type} → (List (Int)) → (Int) → ((Int) → Option R) → Option R
noncomputable def slices_Index__int_int_l0_T0 (N : Nat) {R : Type} (nx : (List (Int)) → (Int) → (Int) → (Int) → Option R) (k0 : (Int) → Option R) (k1 : Option R) (x0 : List (Int)) (x1 : Int) (x2 : Int) (x3 : Int) : Option R :=
  br (decide (x3 < x2))
  (br (inB x3 (List.length x0))
   (br (decide (x1 = (List.getD x0 (Int.toNat x3) (0 : Int))))
    (k0 x3)
    (nx x0 x1 x2 (IntKind.wrap .i64 (x3 + (1 : Int)))))
   (none))
  (k1)
noncomputable def slices_Index__int_int_l0 (N : Nat) {R : Type} (k0 : (Int) → Option R) (k1 : Option R) : Nat → (List (Int)) → (Int) → (Int) → (Int) → Option R
  | 0, _, _, _, _ => none
  | n + 1, x0, x1, x2, x3 => slices_Index__int_int_l0_T0 N (fun x0 x1 x2 x3 => slices_Index__int_int_l0 N k0 k1 n x0 x1 x2 x3) k0 k1 x0 x1 x2 x3
noncomputable def slices_Index__int_int_T (N : Nat) (w0 : slices_Index__int_int_l0_Ty) {R : Type} (x0 : List (Int)) (x1 : Int) (k0 : (Int) → Option R) : Option R :=
  w0
  (fun i3725 => k0 i3725)
  (k0 (-1 : Int))
  N x0 x1 (Nat.cast (List.length x0) : Int) (0 : Int)
noncomputable def slices_Index__int_int (N : Nat) {R : Type} (x0 : List (Int)) (x1 : Int) (k0 : (Int) → Option R) : Option R := slices_Index__int_int_T N (@slices_Index__int_int_l0 N) x0 x1 k0
abbrev fix_join_bb04_l0_Ty : Type 1 := {R : Type} → ((Int) → (Int) → (List ((Int) × ((Int) × ((Int) × ((Int) × ((Int) × (Int))))))) → (List (((Int) × ((Int) × ((Int) × ((Int) × ((Int) × (Int)))))) × (Int))) → (List ((Int) × (Int))) → Option R) → Nat → (Int) → (Int) → (Int) → (Int) → (List ((Int) × ((Int) × ((Int) × ((Int) × ((Int) × (Int))))))) → (List (((Int) × ((Int) × ((Int) × ((Int) × ((Int) × (Int)))))) × (Int))) → (List ((Int) × (Int))) → Option R
abbrev fix_join_bb04_l1_Ty : Type 1 := {R : Type} → ((Int) → (Int) → (List ((Int) × ((Int) × ((Int) × ((Int) × ((Int) × (Int))))))) → (List (((Int) × ((Int) × ((Int) × ((Int) × ((Int) × (Int)))))) × (Int))) → (List ((Int) × (Int))) → Option R) → Nat → (Int) → (Int) → (Int) → (Int) → (List ((Int) × ((Int) × ((Int) × ((Int) × ((Int) × (Int))))))) → (List (((Int) × ((Int) × ((Int) × ((Int) × ((Int) × (Int)))))) × (Int))) → (List ((Int) × (Int))) → Option R
abbrev fix_join_bb04_l2_Ty : Type 1 := {R : Type} → ((Int) → (Int) → (List (((Int) × ((Int) × ((Int) × ((Int) × ((Int) × (Int)))))) × (Int))) → (List ((Int) × (Int))) → (List ((Int) × ((Int) × ((Int) × ((Int) × ((Int) × (Int))))))) → Option R) → Nat → (Int) → (Int) → (Int) → (Int) → (Int) → (List (((Int) × ((Int) × ((Int) × ((Int) × ((Int) × (Int)))))) × (Int))) → (List ((Int) × (Int))) → (List ((Int) × ((Int) × ((Int) × ((Int) × ((Int) × (Int))))))) → Option R
abbrev fix_join_bb04_Ty : Type 1 := {R : Type} → (Int) → (Int) → (List ((Int) × ((Int) × ((Int) × ((Int) × ((Int) × (Int))))))) → (List (((Int) × ((Int) × ((Int) × ((Int) × ((Int) × (Int)))))) × (Int))) → (List ((Int) × (Int))) → ((Int) → (Int) → (List (((Int) × ((Int) × ((Int) × ((Int) × ((Int) × (Int)))))) × (Int))) → (List ((Int) × (Int))) → (List ((Int) × ((Int) × ((Int) × ((Int) × ((Int) × (Int))))))) → Option R) → Option R
noncomputable def fix_join_bb04_l0_T0 (N : Nat) (c0 : term_Arena_Const_2c81_Ty) (w1 : fix_join_bb04_l1_Ty) (w2 : fix_join_bb04_l2_Ty) {R : Type} (nx : (Int) → (Int) → (Int) → (Int) → (List ((Int) × ((Int) × ((Int) × ((Int) × ((Int) × (Int))))))) → (List (((Int) × ((Int) × ((Int) × ((Int) × ((Int) × (Int)))))) × (Int))) → (List ((Int) × (Int))) → Option R) (k0 : (Int) → (Int) → (List ((Int) × ((Int) × ((Int) × ((Int) × ((Int) × (Int))))))) → (List (((Int) × ((Int) × ((Int) × ((Int) × ((Int) × (Int)))))) × (Int))) → (List ((Int) × (Int))) → Option R) (x0 : Int) (x1 : Int) (x2 : Int) (x3 : Int) (x4 : List ((Int) × ((Int) × ((Int) × ((Int) × ((Int) × (Int))))))) (x5 : List (((Int) × ((Int) × ((Int) × ((Int) × ((Int) × (Int)))))) × (Int))) (x6 : List ((Int) × (Int))) : Option R :=
  br (decide (x3 < x2))
  (none)
  (k0 x0 x1 x4 x5 x6)
noncomputable def fix_join_bb04_l1_T0 (N : Nat) (c0 : term_Arena_Const_2c81_Ty) (w2 : fix_join_bb04_l2_Ty) {R : Type} (nx : (Int) → (Int) → (Int) → (Int) → (List ((Int) × ((Int) × ((Int) × ((Int) × ((Int) × (Int))))))) → (List (((Int) × ((Int) × ((Int) × ((Int) × ((Int) × (Int)))))) × (Int))) → (List ((Int) × (Int))) → Option R) (k0 : (Int) → (Int) → (List ((Int) × ((Int) × ((Int) × ((Int) × ((Int) × (Int))))))) → (List (((Int) × ((Int) × ((Int) × ((Int) × ((Int) × (Int)))))) × (Int))) → (List ((Int) × (Int))) → Option R) (x0 : Int) (x1 : Int) (x2 : Int) (x3 : Int) (x4 : List ((Int) × ((Int) × ((Int) × ((Int) × ((Int) × (Int))))))) (x5 : List (((Int) × ((Int) × ((Int) × ((Int) × ((Int) × (Int)))))) × (Int))) (x6 : List ((Int) × (Int))) : Option R :=
  br (decide (x3 < x2))
  (none)
  (k0 x0 x1 x4 x5 x6)
noncomputable def fix_join_bb04_l2_T0 (N : Nat) (c0 : term_Arena_Const_2c81_Ty) {R : Type} (nx : (Int) → (Int) → (Int) → (Int) → (Int) → (List (((Int) × ((Int) × ((Int) × ((Int) × ((Int) × (Int)))))) × (Int))) → (List ((Int) × (Int))) → (List ((Int) × ((Int) × ((Int) × ((Int) × ((Int) × (Int))))))) → Option R) (k0 : (Int) → (Int) → (List (((Int) × ((Int) × ((Int) × ((Int) × ((Int) × (Int)))))) × (Int))) → (List ((Int) × (Int))) → (List ((Int) × ((Int) × ((Int) × ((Int) × ((Int) × (Int))))))) → Option R) (x0 : Int) (x1 : Int) (x2 : Int) (x3 : Int) (x4 : Int) (x5 : List (((Int) × ((Int) × ((Int) × ((Int) × ((Int) × (Int)))))) × (Int))) (x6 : List ((Int) × (Int))) (x7 : List ((Int) × ((Int) × ((Int) × ((Int) × ((Int) × (Int))))))) : Option R :=
  br (decide (x4 < x3))
  (none)
  (k0 x1 x2 x5 x6 x7)
noncomputable def fix_join_bb04_l2 (N : Nat) {R : Type} (k0 : (Int) → (Int) → (List (((Int) × ((Int) × ((Int) × ((Int) × ((Int) × (Int)))))) × (Int))) → (List ((Int) × (Int))) → (List ((Int) × ((Int) × ((Int) × ((Int) × ((Int) × (Int))))))) → Option R) : Nat → (Int) → (Int) → (Int) → (Int) → (Int) → (List (((Int) × ((Int) × ((Int) × ((Int) × ((Int) × (Int)))))) × (Int))) → (List ((Int) × (Int))) → (List ((Int) × ((Int) × ((Int) × ((Int) × ((Int) × (Int))))))) → Option R
  | 0, _, _, _, _, _, _, _, _ => none
  | n + 1, x0, x1, x2, x3, x4, x5, x6, x7 => fix_join_bb04_l2_T0 N (@term_Arena_Const_2c81 N) (fun x0 x1 x2 x3 x4 x5 x6 x7 => fix_join_bb04_l2 N k0 n x0 x1 x2 x3 x4 x5 x6 x7) k0 x0 x1 x2 x3 x4 x5 x6 x7
noncomputable def fix_join_bb04_l1 (N : Nat) {R : Type} (k0 : (Int) → (Int) → (List ((Int) × ((Int) × ((Int) × ((Int) × ((Int) × (Int))))))) → (List (((Int) × ((Int) × ((Int) × ((Int) × ((Int) × (Int)))))) × (Int))) → (List ((Int) × (Int))) → Option R) : Nat → (Int) → (Int) → (Int) → (Int) → (List ((Int) × ((Int) × ((Int) × ((Int) × ((Int) × (Int))))))) → (List (((Int) × ((Int) × ((Int) × ((Int) × ((Int) × (Int)))))) × (Int))) → (List ((Int) × (Int))) → Option R
  | 0, _, _, _, _, _, _, _ => none
  | n + 1, x0, x1, x2, x3, x4, x5, x6 => fix_join_bb04_l1_T0 N (@term_Arena_Const_2c81 N) (@fix_join_bb04_l2 N) (fun x0 x1 x2 x3 x4 x5 x6 => fix_join_bb04_l1 N k0 n x0 x1 x2 x3 x4 x5 x6) k0 x0 x1 x2 x3 x4 x5 x6
noncomputable def fix_join_bb04_l0 (N : Nat) {R : Type} (k0 : (Int) → (Int) → (List ((Int) × ((Int) × ((Int) × ((Int) × ((Int) × (Int))))))) → (List (((Int) × ((Int) × ((Int) × ((Int) × ((Int) × (Int)))))) × (Int))) → (List ((Int) × (Int))) → Option R) : Nat → (Int) → (Int) → (Int) → (Int) → (List ((Int) × ((Int) × ((Int) × ((Int) × ((Int) × (Int))))))) → (List (((Int) × ((Int) × ((Int) × ((Int) × ((Int) × (Int)))))) × (Int))) → (List ((Int) × (Int))) → Option R
  | 0, _, _, _, _, _, _, _ => none
  | n + 1, x0, x1, x2, x3, x4, x5, x6 => fix_join_bb04_l0_T0 N (@term_Arena_Const_2c81 N) (@fix_join_bb04_l1 N) (@fix_join_bb04_l2 N) (fun x0 x1 x2 x3 x4 x5 x6 => fix_join_bb04_l0 N k0 n x0 x1 x2 x3 x4 x5 x6) k0 x0 x1 x2 x3 x4 x5 x6
noncomputable def fix_join_bb04_T (N : Nat) (c0 : term_Arena_Const_2c81_Ty) (w0 : fix_join_bb04_l0_Ty) (w1 : fix_join_bb04_l1_Ty) (w2 : fix_join_bb04_l2_Ty) {R : Type} (x0 : Int) (x1 : Int) (x2 : List ((Int) × ((Int) × ((Int) × ((Int) × ((Int) × (Int))))))) (x3 : List (((Int) × ((Int) × ((Int) × ((Int) × ((Int) × (Int)))))) × (Int))) (x4 : List ((Int) × (Int))) (k0 : (Int) → (Int) → (List (((Int) × ((Int) × ((Int) × ((Int) × ((Int) × (Int)))))) × (Int))) → (List ((Int) × (Int))) → (List ((Int) × ((Int) × ((Int) × ((Int) × ((Int) × (Int))))))) → Option R) : Option R :=
  w0
  (fun i1064 i1065 l1066 l1067 l1068 => w1
   (fun i1069 i1070 l1071 l1072 l1073 => c0 (1 : Int) i1070 l1071 l1072 l1073
    (fun i1074 i1075 l1076 l1077 l1078 => w2
     (fun i1079 i1080 l1081 l1082 l1083 => k0 i1079 i1080 l1081 l1082 l1083)
     N i1069 i1074 i1075 (0 : Int) (0 : Int) l1076 l1077 l1078))
   N i1064 i1065 (0 : Int) (0 : Int) l1066 l1067 l1068)
  N x0 x1 (0 : Int) (0 : Int) x2 x3 x4
noncomputable def fix_join_bb04 (N : Nat) {R : Type} (x0 : Int) (x1 : Int) (x2 : List ((Int) × ((Int) × ((Int) × ((Int) × ((Int) × (Int))))))) (x3 : List (((Int) × ((Int) × ((Int) × ((Int) × ((Int) × (Int)))))) × (Int))) (x4 : List ((Int) × (Int))) (k0 : (Int) → (Int) → (List (((Int) × ((Int) × ((Int) × ((Int) × ((Int) × (Int)))))) × (Int))) → (List ((Int) × (Int))) → (List ((Int) × ((Int) × ((Int) × ((Int) × ((Int) × (Int))))))) → Option R) : Option R := fix_join_bb04_T N (@term_Arena_Const_2c81 N) (@fix_join_bb04_l0 N) (@fix_join_bb04_l1 N) (@fix_join_bb04_l2 N) x0 x1 x2 x3 x4 k0
abbrev fix_All_97a4_Ty : Type 1 := {R : Type} → (List ((Int) × ((Int) × ((Int) × ((Int) × ((Int) × (Int))))))) → (List (((Int) × ((Int) × ((Int) × ((Int) × ((Int) × (Int)))))) × (Int))) → (List ((Int) × (Int))) → ((Int) → (Int) → (List (((Int) × ((Int) × ((Int) × ((Int) × ((Int) × (Int)))))) × (Int))) → (List ((Int) × (Int))) → (List ((Int) × ((Int) × ((Int) × ((Int) × ((Int) × (Int))))))) → Option R) → Option R
noncomputable def fix_All_97a4_T (N : Nat) (c0 : fix_join_bb04_Ty) {R : Type} (x0 : List ((Int) × ((Int) × ((Int) × ((Int) × ((Int) × (Int))))))) (x1 : List (((Int) × ((Int) × ((Int) × ((Int) × ((Int) × (Int)))))) × (Int))) (x2 : List ((Int) × (Int))) (k0 : (Int) → (Int) → (List (((Int) × ((Int) × ((Int) × ((Int) × ((Int) × (Int)))))) × (Int))) → (List ((Int) × (Int))) → (List ((Int) × ((Int) × ((Int) × ((Int) × ((Int) × (Int))))))) → Option R) : Option R :=
  c0 (4 : Int) (1 : Int) x0 x1 x2
  (fun i1084 i1085 l1086 l1087 l1088 => k0 i1084 i1085 l1086 l1087 l1088)
noncomputable def fix_All_97a4 (N : Nat) {R : Type} (x0 : List ((Int) × ((Int) × ((Int) × ((Int) × ((Int) × (Int))))))) (x1 : List (((Int) × ((Int) × ((Int) × ((Int) × ((Int) × (Int)))))) × (Int))) (x2 : List ((Int) × (Int))) (k0 : (Int) → (Int) → (List (((Int) × ((Int) × ((Int) × ((Int) × ((Int) × (Int)))))) × (Int))) → (List ((Int) × (Int))) → (List ((Int) × ((Int) × ((Int) × ((Int) × ((Int) × (Int))))))) → Option R) : Option R := fix_All_97a4_T N (@fix_join_bb04 N) x0 x1 x2 k0
abbrev fix_Size_43b4_Ty : Type 1 := {R : Type} → (Int) → (List ((Int) × ((Int) × ((Int) × ((Int) × ((Int) × (Int))))))) → (List (((Int) × ((Int) × ((Int) × ((Int) × ((Int) × (Int)))))) × (Int))) → (List ((Int) × (Int))) → ((Int) → (List ((Int) × ((Int) × ((Int) × ((Int) × ((Int) × (Int))))))) → (List (((Int) × ((Int) × ((Int) × ((Int) × ((Int) × (Int)))))) × (Int))) → (List ((Int) × (Int))) → Option R) → Option R
noncomputable def fix_Size_43b4_T (N : Nat) (c0 : term_Arena_Under_2549_Ty) (c1 : term_Arena_Node_43b4_Ty) {R : Type} (x0 : Int) (x1 : List ((Int) × ((Int) × ((Int) × ((Int) × ((Int) × (Int))))))) (x2 : List (((Int) × ((Int) × ((Int) × ((Int) × ((Int) × (Int)))))) × (Int))) (x3 : List ((Int) × (Int))) (k0 : (Int) → (List ((Int) × ((Int) × ((Int) × ((Int) × ((Int) × (Int))))))) → (List (((Int) × ((Int) × ((Int) × ((Int) × ((Int) × (Int)))))) × (Int))) → (List ((Int) × (Int))) → Option R) : Option R :=
  c1 x0 x1 x2 x3
  (fun i1099 i1100 i1101 i1102 i1103 i1104 b1105 l1106 l1107 l1108 => br (!b1105)
   (k0 (0 : Int) l1106 l1107 l1108)
   (c0 l1106 l1107 l1108 (x0 :: ([] : List ((Sh.int IntKind.i64).T)))
    (fun l1109 l1110 l1111 l1112 l1113 => k0 (Nat.cast (List.length l1113) : Int) l1109 l1110 l1111)))
noncomputable def fix_Size_43b4 (N : Nat) {R : Type} (x0 : Int) (x1 : List ((Int) × ((Int) × ((Int) × ((Int) × ((Int) × (Int))))))) (x2 : List (((Int) × ((Int) × ((Int) × ((Int) × ((Int) × (Int)))))) × (Int))) (x3 : List ((Int) × (Int))) (k0 : (Int) → (List ((Int) × ((Int) × ((Int) × ((Int) × ((Int) × (Int))))))) → (List (((Int) × ((Int) × ((Int) × ((Int) × ((Int) × (Int)))))) × (Int))) → (List ((Int) × (Int))) → Option R) : Option R := fix_Size_43b4_T N (@term_Arena_Under_2549 N) (@term_Arena_Node_43b4 N) x0 x1 x2 x3 k0
abbrev ref1_May_Ty : Type 1 := {R : Type} → (Int) → ((Bool) → Option R) → Option R
noncomputable def ref1_May_T (N : Nat) {R : Type} (x0 : Int) (k0 : (Bool) → Option R) : Option R :=
  br (!(decide (x0 = (1 : Int))))
  (br (!(decide (x0 = (8 : Int))))
   (k0 (decide (x0 = (16 : Int))))
   (k0 true))
  (k0 true)
noncomputable def ref1_May (N : Nat) {R : Type} (x0 : Int) (k0 : (Bool) → Option R) : Option R := ref1_May_T N x0 k0
abbrev ref1_Mask_Ty : Type 1 := {R : Type} → (Int) → ((Int) → Option R) → Option R
noncomputable def ref1_Mask_T (N : Nat) (c0 : ref1_May_Ty) {R : Type} (x0 : Int) (k0 : (Int) → Option R) : Option R :=
  c0 x0
  (fun b3837 => br (!b3837)
   (k0 (0 : Int))
   (br (decide ((IntKind.wrap .u64 x0) < (0 : Int)))
    (none)
    (k0 (IntKind.wrap .u16 ((shlI .u16 (1 : Int) (IntKind.wrap .u64 x0)) - (1 : Int))))))
noncomputable def ref1_Mask (N : Nat) {R : Type} (x0 : Int) (k0 : (Int) → Option R) : Option R := ref1_Mask_T N (@ref1_May N) x0 k0
abbrev ref1_bit_Ty : Type 1 := {R : Type} → (Bool) → ((Int) → Option R) → Option R
noncomputable def ref1_bit_T (N : Nat) {R : Type} (x0 : Bool) (k0 : (Int) → Option R) : Option R :=
  br x0
  (k0 (1 : Int))
  (k0 (0 : Int))
noncomputable def ref1_bit (N : Nat) {R : Type} (x0 : Bool) (k0 : (Int) → Option R) : Option R := ref1_bit_T N x0 k0
abbrev ref1_Do_Ty : Type 1 := {R : Type} → (Int) → (Int) → (Int) → (Int) → ((Int) → (Int) → Option R) → Option R
noncomputable def ref1_Do_T (N : Nat) (c0 : ref1_bit_Ty) (c1 : ref1_Mask_Ty) (c2 : ref1_May_Ty) {R : Type} (x0 : Int) (x1 : Int) (x2 : Int) (x3 : Int) (k0 : (Int) → (Int) → Option R) : Option R :=
  c2 x1
  (fun b3839 => br (!b3839)
   (k0 (0 : Int) (2 : Int))
   (c1 x1
    (fun i3840 => br (decide (x0 = (3 : Int)))
     (k0 (band .u16 (bxor .u16 (if ((IntKind.signed .u16) = true) then (-1 : Int) else (IntKind.max .u16)) x2) i3840) (0 : Int))
     (br (decide (x0 = (4 : Int)))
      (k0 (band .u16 (band .u16 x2 x3) i3840) (0 : Int))
      (br (decide (x0 = (5 : Int)))
       (k0 (band .u16 (bor .u16 x2 x3) i3840) (0 : Int))
       (br (decide (x0 = (6 : Int)))
        (k0 (band .u16 (bxor .u16 x2 x3) i3840) (0 : Int))
        (br (decide (x0 = (7 : Int)))
         (k0 (IntKind.wrap .u16 (band .i64 (IntKind.wrap .i64 ((IntKind.wrap .i64 (band .u16 x2 i3840)) + (IntKind.wrap .i64 (band .u16 x3 i3840)))) (IntKind.wrap .i64 i3840))) (0 : Int))
         (br (decide (x0 = (8 : Int)))
          (k0 (IntKind.wrap .u16 (band .i64 (IntKind.wrap .i64 ((IntKind.wrap .i64 (band .u16 x2 i3840)) - (IntKind.wrap .i64 (band .u16 x3 i3840)))) (IntKind.wrap .i64 i3840))) (0 : Int))
          (br (decide (x0 = (9 : Int)))
           (k0 (IntKind.wrap .u16 (band .i64 (IntKind.wrap .i64 ((IntKind.wrap .i64 (band .u16 x2 i3840)) * (IntKind.wrap .i64 (band .u16 x3 i3840)))) (IntKind.wrap .i64 i3840))) (0 : Int))
           (br (decide (x0 = (10 : Int)))
            (br (decide ((IntKind.wrap .i64 (band .u16 x3 i3840)) = (0 : Int)))
             (k0 i3840 (0 : Int))
             (br (decide ((IntKind.wrap .i64 (band .u16 x3 i3840)) = (0 : Int)))
              (none)
              (k0 (IntKind.wrap .u16 (IntKind.wrap .i64 (Int.tdiv (IntKind.wrap .i64 (band .u16 x2 i3840)) (IntKind.wrap .i64 (band .u16 x3 i3840))))) (0 : Int))))
            (br (decide (x0 = (11 : Int)))
             (br (decide ((IntKind.wrap .i64 (band .u16 x3 i3840)) = (0 : Int)))
              (k0 (IntKind.wrap .u16 (IntKind.wrap .i64 (band .u16 x2 i3840))) (0 : Int))
              (br (decide ((IntKind.wrap .i64 (band .u16 x3 i3840)) = (0 : Int)))
               (none)
               (k0 (IntKind.wrap .u16 (Int.tmod (IntKind.wrap .i64 (band .u16 x2 i3840)) (IntKind.wrap .i64 (band .u16 x3 i3840)))) (0 : Int))))
             (br (decide (x0 = (12 : Int)))
              (br (decide (x1 ≤ (IntKind.wrap .i64 (band .u16 x3 i3840))))
               (k0 (0 : Int) (0 : Int))
               (br (decide ((IntKind.wrap .u64 (IntKind.wrap .i64 (band .u16 x3 i3840))) < (0 : Int)))
                (none)
                (k0 (IntKind.wrap .u16 (band .i64 (shlI .i64 (IntKind.wrap .i64 (band .u16 x2 i3840)) (IntKind.wrap .u64 (IntKind.wrap .i64 (band .u16 x3 i3840)))) (IntKind.wrap .i64 i3840))) (0 : Int))))
              (br (decide (x0 = (13 : Int)))
               (br (decide (x1 ≤ (IntKind.wrap .i64 (band .u16 x3 i3840))))
                (k0 (0 : Int) (0 : Int))
                (br (decide ((IntKind.wrap .u64 (IntKind.wrap .i64 (band .u16 x3 i3840))) < (0 : Int)))
                 (none)
                 (k0 (IntKind.wrap .u16 (shrI .i64 (IntKind.wrap .i64 (band .u16 x2 i3840)) (IntKind.wrap .u64 (IntKind.wrap .i64 (band .u16 x3 i3840))))) (0 : Int))))
               (br (decide (x0 = (14 : Int)))
                (c0 (decide ((IntKind.wrap .i64 (band .u16 x2 i3840)) = (IntKind.wrap .i64 (band .u16 x3 i3840))))
                 (fun i3841 => k0 i3841 (0 : Int)))
                (br (decide (x0 = (15 : Int)))
                 (c0 (decide ((IntKind.wrap .i64 (band .u16 x2 i3840)) < (IntKind.wrap .i64 (band .u16 x3 i3840))))
                  (fun i3842 => k0 i3842 (0 : Int)))
                 (k0 (0 : Int) (5 : Int)))))))))))))))))
noncomputable def ref1_Do (N : Nat) {R : Type} (x0 : Int) (x1 : Int) (x2 : Int) (x3 : Int) (k0 : (Int) → (Int) → Option R) : Option R := ref1_Do_T N (@ref1_bit N) (@ref1_Mask N) (@ref1_May N) x0 x1 x2 x3 k0
abbrev law2_Value_6552_Ty : Type 1 := {R : Type} → (Int) → (List ((Int) × (((Int) × ((Int) × ((Int) × ((Int) × ((Int) × (Int)))))) × ((Int) × ((Int) × ((Int) × (Int))))))) → (List (Int)) → ((Int) → (List ((Int) × (((Int) × ((Int) × ((Int) × ((Int) × ((Int) × (Int)))))) × ((Int) × ((Int) × ((Int) × (Int))))))) → (List (Int)) → Option R) → Option R
noncomputable def law2_Value_6552_T (N : Nat) (c0 : ref1_Do_Ty) (c1 : ref1_Mask_Ty) {R : Type} (x0 : Int) (x1 : List ((Int) × (((Int) × ((Int) × ((Int) × ((Int) × ((Int) × (Int)))))) × ((Int) × ((Int) × ((Int) × (Int))))))) (x2 : List (Int)) (k0 : (Int) → (List ((Int) × (((Int) × ((Int) × ((Int) × ((Int) × ((Int) × (Int)))))) × ((Int) × ((Int) × ((Int) × (Int))))))) → (List (Int)) → Option R) : Option R :=
  br (inB x0 (List.length x1))
  (br (decide ((Int.toNat x0) < (List.length x1)))
   (br (!(decide ((List.getD x1 (Int.toNat x0) ((0 : Int) , (((0 : Int) , ((0 : Int) , ((0 : Int) , ((0 : Int) , ((0 : Int) , (0 : Int)))))) , ((0 : Int) , ((0 : Int) , ((0 : Int) , (0 : Int))))))).2.1.1 = (1 : Int))))
    (br (!(decide ((List.getD x1 (Int.toNat x0) ((0 : Int) , (((0 : Int) , ((0 : Int) , ((0 : Int) , ((0 : Int) , ((0 : Int) , (0 : Int)))))) , ((0 : Int) , ((0 : Int) , ((0 : Int) , (0 : Int))))))).2.1.1 = (2 : Int))))
     (none)
     (c1 (List.getD x1 (Int.toNat x0) ((0 : Int) , (((0 : Int) , ((0 : Int) , ((0 : Int) , ((0 : Int) , ((0 : Int) , (0 : Int)))))) , ((0 : Int) , ((0 : Int) , ((0 : Int) , (0 : Int))))))).2.2.1
      (fun i3838 => br (decide ((List.getD x1 (Int.toNat x0) ((0 : Int) , (((0 : Int) , ((0 : Int) , ((0 : Int) , ((0 : Int) , ((0 : Int) , (0 : Int)))))) , ((0 : Int) , ((0 : Int) , ((0 : Int) , (0 : Int))))))).2.1.1 = (1 : Int)))
       (k0 (band .u16 (List.getD x1 (Int.toNat x0) ((0 : Int) , (((0 : Int) , ((0 : Int) , ((0 : Int) , ((0 : Int) , ((0 : Int) , (0 : Int)))))) , ((0 : Int) , ((0 : Int) , ((0 : Int) , (0 : Int))))))).2.1.2.2.1 i3838) x1 x2)
       (br (decide ((List.getD x1 (Int.toNat x0) ((0 : Int) , (((0 : Int) , ((0 : Int) , ((0 : Int) , ((0 : Int) , ((0 : Int) , (0 : Int)))))) , ((0 : Int) , ((0 : Int) , ((0 : Int) , (0 : Int))))))).2.1.1 = (2 : Int)))
        (br (decide ((IntKind.wrap .i64 (List.getD x1 (Int.toNat x0) ((0 : Int) , (((0 : Int) , ((0 : Int) , ((0 : Int) , ((0 : Int) , ((0 : Int) , (0 : Int)))))) , ((0 : Int) , ((0 : Int) , ((0 : Int) , (0 : Int))))))).2.1.2.2.1) < (Nat.cast (List.length x2) : Int)))
         (br (inB (List.getD x1 (Int.toNat x0) ((0 : Int) , (((0 : Int) , ((0 : Int) , ((0 : Int) , ((0 : Int) , ((0 : Int) , (0 : Int)))))) , ((0 : Int) , ((0 : Int) , ((0 : Int) , (0 : Int))))))).2.1.2.2.1 (List.length x2))
          (br (decide ((Int.toNat (List.getD x1 (Int.toNat x0) ((0 : Int) , (((0 : Int) , ((0 : Int) , ((0 : Int) , ((0 : Int) , ((0 : Int) , (0 : Int)))))) , ((0 : Int) , ((0 : Int) , ((0 : Int) , (0 : Int))))))).2.1.2.2.1) < (List.length x2)))
           (k0 (band .u16 (List.getD x2 (Int.toNat (List.getD x1 (Int.toNat x0) ((0 : Int) , (((0 : Int) , ((0 : Int) , ((0 : Int) , ((0 : Int) , ((0 : Int) , (0 : Int)))))) , ((0 : Int) , ((0 : Int) , ((0 : Int) , (0 : Int))))))).2.1.2.2.1) (0 : Int)) i3838) x1 x2)
           (none))
          (none))
         (k0 (0 : Int) x1 x2))
        (br (decide ((List.getD x1 (Int.toNat x0) ((0 : Int) , (((0 : Int) , ((0 : Int) , ((0 : Int) , ((0 : Int) , ((0 : Int) , (0 : Int)))))) , ((0 : Int) , ((0 : Int) , ((0 : Int) , (0 : Int))))))).2.1.1 = (16 : Int)))
         (k0 (0 : Int) x1 x2)
         (br (decide ((List.getD x1 (Int.toNat x0) ((0 : Int) , (((0 : Int) , ((0 : Int) , ((0 : Int) , ((0 : Int) , ((0 : Int) , (0 : Int)))))) , ((0 : Int) , ((0 : Int) , ((0 : Int) , (0 : Int))))))).2.1.1 = (17 : Int)))
          (k0 (band .u16 (0 : Int) i3838) x1 x2)
          (br (decide ((List.getD x1 (Int.toNat x0) ((0 : Int) , (((0 : Int) , ((0 : Int) , ((0 : Int) , ((0 : Int) , ((0 : Int) , (0 : Int)))))) , ((0 : Int) , ((0 : Int) , ((0 : Int) , (0 : Int))))))).2.1.1 = (18 : Int)))
           (k0 (band .u16 (0 : Int) i3838) x1 x2)
           (br (inB (List.getD x1 (Int.toNat x0) ((0 : Int) , (((0 : Int) , ((0 : Int) , ((0 : Int) , ((0 : Int) , ((0 : Int) , (0 : Int)))))) , ((0 : Int) , ((0 : Int) , ((0 : Int) , (0 : Int))))))).2.2.2.1 (List.length x1))
            (br (decide ((Int.toNat (List.getD x1 (Int.toNat x0) ((0 : Int) , (((0 : Int) , ((0 : Int) , ((0 : Int) , ((0 : Int) , ((0 : Int) , (0 : Int)))))) , ((0 : Int) , ((0 : Int) , ((0 : Int) , (0 : Int))))))).2.2.2.1) < (List.length x1)))
             (c0 (List.getD x1 (Int.toNat x0) ((0 : Int) , (((0 : Int) , ((0 : Int) , ((0 : Int) , ((0 : Int) , ((0 : Int) , (0 : Int)))))) , ((0 : Int) , ((0 : Int) , ((0 : Int) , (0 : Int))))))).2.1.1 (List.getD x1 (Int.toNat (List.getD x1 (Int.toNat x0) ((0 : Int) , (((0 : Int) , ((0 : Int) , ((0 : Int) , ((0 : Int) , ((0 : Int) , (0 : Int)))))) , ((0 : Int) , ((0 : Int) , ((0 : Int) , (0 : Int))))))).2.2.2.1) ((0 : Int) , (((0 : Int) , ((0 : Int) , ((0 : Int) , ((0 : Int) , ((0 : Int) , (0 : Int)))))) , ((0 : Int) , ((0 : Int) , ((0 : Int) , (0 : Int))))))).2.2.1 (0 : Int) (0 : Int)
              (fun i3843 i3844 => k0 i3843 x1 x2))
             (none))
            (none)))))))))
    (c1 (List.getD x1 (Int.toNat x0) ((0 : Int) , (((0 : Int) , ((0 : Int) , ((0 : Int) , ((0 : Int) , ((0 : Int) , (0 : Int)))))) , ((0 : Int) , ((0 : Int) , ((0 : Int) , (0 : Int))))))).2.2.1
     (fun i3845 => br (decide ((List.getD x1 (Int.toNat x0) ((0 : Int) , (((0 : Int) , ((0 : Int) , ((0 : Int) , ((0 : Int) , ((0 : Int) , (0 : Int)))))) , ((0 : Int) , ((0 : Int) , ((0 : Int) , (0 : Int))))))).2.1.1 = (1 : Int)))
      (k0 (band .u16 (List.getD x1 (Int.toNat x0) ((0 : Int) , (((0 : Int) , ((0 : Int) , ((0 : Int) , ((0 : Int) , ((0 : Int) , (0 : Int)))))) , ((0 : Int) , ((0 : Int) , ((0 : Int) , (0 : Int))))))).2.1.2.2.1 i3845) x1 x2)
      (br (decide ((List.getD x1 (Int.toNat x0) ((0 : Int) , (((0 : Int) , ((0 : Int) , ((0 : Int) , ((0 : Int) , ((0 : Int) , (0 : Int)))))) , ((0 : Int) , ((0 : Int) , ((0 : Int) , (0 : Int))))))).2.1.1 = (2 : Int)))
       (br (decide ((IntKind.wrap .i64 (List.getD x1 (Int.toNat x0) ((0 : Int) , (((0 : Int) , ((0 : Int) , ((0 : Int) , ((0 : Int) , ((0 : Int) , (0 : Int)))))) , ((0 : Int) , ((0 : Int) , ((0 : Int) , (0 : Int))))))).2.1.2.2.1) < (Nat.cast (List.length x2) : Int)))
        (br (inB (List.getD x1 (Int.toNat x0) ((0 : Int) , (((0 : Int) , ((0 : Int) , ((0 : Int) , ((0 : Int) , ((0 : Int) , (0 : Int)))))) , ((0 : Int) , ((0 : Int) , ((0 : Int) , (0 : Int))))))).2.1.2.2.1 (List.length x2))
         (br (decide ((Int.toNat (List.getD x1 (Int.toNat x0) ((0 : Int) , (((0 : Int) , ((0 : Int) , ((0 : Int) , ((0 : Int) , ((0 : Int) , (0 : Int)))))) , ((0 : Int) , ((0 : Int) , ((0 : Int) , (0 : Int))))))).2.1.2.2.1) < (List.length x2)))
          (k0 (band .u16 (List.getD x2 (Int.toNat (List.getD x1 (Int.toNat x0) ((0 : Int) , (((0 : Int) , ((0 : Int) , ((0 : Int) , ((0 : Int) , ((0 : Int) , (0 : Int)))))) , ((0 : Int) , ((0 : Int) , ((0 : Int) , (0 : Int))))))).2.1.2.2.1) (0 : Int)) i3845) x1 x2)
          (none))
         (none))
        (k0 (0 : Int) x1 x2))
       (br (decide ((List.getD x1 (Int.toNat x0) ((0 : Int) , (((0 : Int) , ((0 : Int) , ((0 : Int) , ((0 : Int) , ((0 : Int) , (0 : Int)))))) , ((0 : Int) , ((0 : Int) , ((0 : Int) , (0 : Int))))))).2.1.1 = (16 : Int)))
        (k0 (0 : Int) x1 x2)
        (br (decide ((List.getD x1 (Int.toNat x0) ((0 : Int) , (((0 : Int) , ((0 : Int) , ((0 : Int) , ((0 : Int) , ((0 : Int) , (0 : Int)))))) , ((0 : Int) , ((0 : Int) , ((0 : Int) , (0 : Int))))))).2.1.1 = (17 : Int)))
         (k0 (band .u16 (0 : Int) i3845) x1 x2)
         (br (decide ((List.getD x1 (Int.toNat x0) ((0 : Int) , (((0 : Int) , ((0 : Int) , ((0 : Int) , ((0 : Int) , ((0 : Int) , (0 : Int)))))) , ((0 : Int) , ((0 : Int) , ((0 : Int) , (0 : Int))))))).2.1.1 = (18 : Int)))
          (k0 (band .u16 (0 : Int) i3845) x1 x2)
          (br (inB (List.getD x1 (Int.toNat x0) ((0 : Int) , (((0 : Int) , ((0 : Int) , ((0 : Int) , ((0 : Int) , ((0 : Int) , (0 : Int)))))) , ((0 : Int) , ((0 : Int) , ((0 : Int) , (0 : Int))))))).2.2.2.1 (List.length x1))
           (br (decide ((Int.toNat (List.getD x1 (Int.toNat x0) ((0 : Int) , (((0 : Int) , ((0 : Int) , ((0 : Int) , ((0 : Int) , ((0 : Int) , (0 : Int)))))) , ((0 : Int) , ((0 : Int) , ((0 : Int) , (0 : Int))))))).2.2.2.1) < (List.length x1)))
            (c0 (List.getD x1 (Int.toNat x0) ((0 : Int) , (((0 : Int) , ((0 : Int) , ((0 : Int) , ((0 : Int) , ((0 : Int) , (0 : Int)))))) , ((0 : Int) , ((0 : Int) , ((0 : Int) , (0 : Int))))))).2.1.1 (List.getD x1 (Int.toNat (List.getD x1 (Int.toNat x0) ((0 : Int) , (((0 : Int) , ((0 : Int) , ((0 : Int) , ((0 : Int) , ((0 : Int) , (0 : Int)))))) , ((0 : Int) , ((0 : Int) , ((0 : Int) , (0 : Int))))))).2.2.2.1) ((0 : Int) , (((0 : Int) , ((0 : Int) , ((0 : Int) , ((0 : Int) , ((0 : Int) , (0 : Int)))))) , ((0 : Int) , ((0 : Int) , ((0 : Int) , (0 : Int))))))).2.2.1 (0 : Int) (0 : Int)
             (fun i3846 i3847 => k0 i3846 x1 x2))
            (none))
           (none)))))))))
   (none))
  (none)
noncomputable def law2_Value_6552 (N : Nat) {R : Type} (x0 : Int) (x1 : List ((Int) × (((Int) × ((Int) × ((Int) × ((Int) × ((Int) × (Int)))))) × ((Int) × ((Int) × ((Int) × (Int))))))) (x2 : List (Int)) (k0 : (Int) → (List ((Int) × (((Int) × ((Int) × ((Int) × ((Int) × ((Int) × (Int)))))) × ((Int) × ((Int) × ((Int) × (Int))))))) → (List (Int)) → Option R) : Option R := law2_Value_6552_T N (@ref1_Do N) (@ref1_Mask N) x0 x1 x2 k0
abbrev law2_Value_c2cb_Ty : Type 1 := {R : Type} → (Int) → (List ((Int) × (((Int) × ((Int) × ((Int) × ((Int) × ((Int) × (Int)))))) × ((Int) × ((Int) × ((Int) × (Int))))))) → (List (Int)) → (List (Int)) → ((Int) → (List ((Int) × (((Int) × ((Int) × ((Int) × ((Int) × ((Int) × (Int)))))) × ((Int) × ((Int) × ((Int) × (Int))))))) → (List (Int)) → (List (Int)) → Option R) → Option R
noncomputable def law2_Value_c2cb_T (N : Nat) (c0 : ref1_Do_Ty) (c1 : ref1_Mask_Ty) {R : Type} (x0 : Int) (x1 : List ((Int) × (((Int) × ((Int) × ((Int) × ((Int) × ((Int) × (Int)))))) × ((Int) × ((Int) × ((Int) × (Int))))))) (x2 : List (Int)) (x3 : List (Int)) (k0 : (Int) → (List ((Int) × (((Int) × ((Int) × ((Int) × ((Int) × ((Int) × (Int)))))) × ((Int) × ((Int) × ((Int) × (Int))))))) → (List (Int)) → (List (Int)) → Option R) : Option R :=
  br (inB x0 (List.length x1))
  (br (decide ((Int.toNat x0) < (List.length x1)))
   (br (!(decide ((List.getD x1 (Int.toNat x0) ((0 : Int) , (((0 : Int) , ((0 : Int) , ((0 : Int) , ((0 : Int) , ((0 : Int) , (0 : Int)))))) , ((0 : Int) , ((0 : Int) , ((0 : Int) , (0 : Int))))))).2.1.1 = (1 : Int))))
    (br (!(decide ((List.getD x1 (Int.toNat x0) ((0 : Int) , (((0 : Int) , ((0 : Int) , ((0 : Int) , ((0 : Int) , ((0 : Int) , (0 : Int)))))) , ((0 : Int) , ((0 : Int) , ((0 : Int) , (0 : Int))))))).2.1.1 = (2 : Int))))
     (br (inB (List.getD x1 (Int.toNat x0) ((0 : Int) , (((0 : Int) , ((0 : Int) , ((0 : Int) , ((0 : Int) , ((0 : Int) , (0 : Int)))))) , ((0 : Int) , ((0 : Int) , ((0 : Int) , (0 : Int))))))).2.2.2.1 (List.length x2))
      (br (decide ((Int.toNat (List.getD x1 (Int.toNat x0) ((0 : Int) , (((0 : Int) , ((0 : Int) , ((0 : Int) , ((0 : Int) , ((0 : Int) , (0 : Int)))))) , ((0 : Int) , ((0 : Int) , ((0 : Int) , (0 : Int))))))).2.2.2.1) < (List.length x2)))
       (br (inB (List.getD x1 (Int.toNat x0) ((0 : Int) , (((0 : Int) , ((0 : Int) , ((0 : Int) , ((0 : Int) , ((0 : Int) , (0 : Int)))))) , ((0 : Int) , ((0 : Int) , ((0 : Int) , (0 : Int))))))).2.2.2.2.1 (List.length x2))
        (br (decide ((Int.toNat (List.getD x1 (Int.toNat x0) ((0 : Int) , (((0 : Int) , ((0 : Int) , ((0 : Int) , ((0 : Int) , ((0 : Int) , (0 : Int)))))) , ((0 : Int) , ((0 : Int) , ((0 : Int) , (0 : Int))))))).2.2.2.2.1) < (List.length x2)))
         (br (inB (List.getD x1 (Int.toNat x0) ((0 : Int) , (((0 : Int) , ((0 : Int) , ((0 : Int) , ((0 : Int) , ((0 : Int) , (0 : Int)))))) , ((0 : Int) , ((0 : Int) , ((0 : Int) , (0 : Int))))))).2.2.2.2.2 (List.length x2))
          (br (decide ((Int.toNat (List.getD x1 (Int.toNat x0) ((0 : Int) , (((0 : Int) , ((0 : Int) , ((0 : Int) , ((0 : Int) , ((0 : Int) , (0 : Int)))))) , ((0 : Int) , ((0 : Int) , ((0 : Int) , (0 : Int))))))).2.2.2.2.2) < (List.length x2)))
           (c1 (List.getD x1 (Int.toNat x0) ((0 : Int) , (((0 : Int) , ((0 : Int) , ((0 : Int) , ((0 : Int) , ((0 : Int) , (0 : Int)))))) , ((0 : Int) , ((0 : Int) , ((0 : Int) , (0 : Int))))))).2.2.1
            (fun i3851 => br (decide ((List.getD x1 (Int.toNat x0) ((0 : Int) , (((0 : Int) , ((0 : Int) , ((0 : Int) , ((0 : Int) , ((0 : Int) , (0 : Int)))))) , ((0 : Int) , ((0 : Int) , ((0 : Int) , (0 : Int))))))).2.1.1 = (1 : Int)))
             (k0 (band .u16 (List.getD x1 (Int.toNat x0) ((0 : Int) , (((0 : Int) , ((0 : Int) , ((0 : Int) , ((0 : Int) , ((0 : Int) , (0 : Int)))))) , ((0 : Int) , ((0 : Int) , ((0 : Int) , (0 : Int))))))).2.1.2.2.1 i3851) x1 x2 x3)
             (br (decide ((List.getD x1 (Int.toNat x0) ((0 : Int) , (((0 : Int) , ((0 : Int) , ((0 : Int) , ((0 : Int) , ((0 : Int) , (0 : Int)))))) , ((0 : Int) , ((0 : Int) , ((0 : Int) , (0 : Int))))))).2.1.1 = (2 : Int)))
              (br (decide ((IntKind.wrap .i64 (List.getD x1 (Int.toNat x0) ((0 : Int) , (((0 : Int) , ((0 : Int) , ((0 : Int) , ((0 : Int) , ((0 : Int) , (0 : Int)))))) , ((0 : Int) , ((0 : Int) , ((0 : Int) , (0 : Int))))))).2.1.2.2.1) < (Nat.cast (List.length x3) : Int)))
               (br (inB (List.getD x1 (Int.toNat x0) ((0 : Int) , (((0 : Int) , ((0 : Int) , ((0 : Int) , ((0 : Int) , ((0 : Int) , (0 : Int)))))) , ((0 : Int) , ((0 : Int) , ((0 : Int) , (0 : Int))))))).2.1.2.2.1 (List.length x3))
                (br (decide ((Int.toNat (List.getD x1 (Int.toNat x0) ((0 : Int) , (((0 : Int) , ((0 : Int) , ((0 : Int) , ((0 : Int) , ((0 : Int) , (0 : Int)))))) , ((0 : Int) , ((0 : Int) , ((0 : Int) , (0 : Int))))))).2.1.2.2.1) < (List.length x3)))
                 (k0 (band .u16 (List.getD x3 (Int.toNat (List.getD x1 (Int.toNat x0) ((0 : Int) , (((0 : Int) , ((0 : Int) , ((0 : Int) , ((0 : Int) , ((0 : Int) , (0 : Int)))))) , ((0 : Int) , ((0 : Int) , ((0 : Int) , (0 : Int))))))).2.1.2.2.1) (0 : Int)) i3851) x1 x2 x3)
                 (none))
                (none))
               (k0 (0 : Int) x1 x2 x3))
              (br (decide ((List.getD x1 (Int.toNat x0) ((0 : Int) , (((0 : Int) , ((0 : Int) , ((0 : Int) , ((0 : Int) , ((0 : Int) , (0 : Int)))))) , ((0 : Int) , ((0 : Int) , ((0 : Int) , (0 : Int))))))).2.1.1 = (16 : Int)))
               (br (decide ((List.getD x2 (Int.toNat (List.getD x1 (Int.toNat x0) ((0 : Int) , (((0 : Int) , ((0 : Int) , ((0 : Int) , ((0 : Int) , ((0 : Int) , (0 : Int)))))) , ((0 : Int) , ((0 : Int) , ((0 : Int) , (0 : Int))))))).2.2.2.1) (0 : Int)) = (1 : Int)))
                (k0 (List.getD x2 (Int.toNat (List.getD x1 (Int.toNat x0) ((0 : Int) , (((0 : Int) , ((0 : Int) , ((0 : Int) , ((0 : Int) , ((0 : Int) , (0 : Int)))))) , ((0 : Int) , ((0 : Int) , ((0 : Int) , (0 : Int))))))).2.2.2.2.1) (0 : Int)) x1 x2 x3)
                (k0 (List.getD x2 (Int.toNat (List.getD x1 (Int.toNat x0) ((0 : Int) , (((0 : Int) , ((0 : Int) , ((0 : Int) , ((0 : Int) , ((0 : Int) , (0 : Int)))))) , ((0 : Int) , ((0 : Int) , ((0 : Int) , (0 : Int))))))).2.2.2.2.2) (0 : Int)) x1 x2 x3))
               (br (decide ((List.getD x1 (Int.toNat x0) ((0 : Int) , (((0 : Int) , ((0 : Int) , ((0 : Int) , ((0 : Int) , ((0 : Int) , (0 : Int)))))) , ((0 : Int) , ((0 : Int) , ((0 : Int) , (0 : Int))))))).2.1.1 = (17 : Int)))
                (k0 (band .u16 (List.getD x2 (Int.toNat (List.getD x1 (Int.toNat x0) ((0 : Int) , (((0 : Int) , ((0 : Int) , ((0 : Int) , ((0 : Int) , ((0 : Int) , (0 : Int)))))) , ((0 : Int) , ((0 : Int) , ((0 : Int) , (0 : Int))))))).2.2.2.1) (0 : Int)) i3851) x1 x2 x3)
                (br (decide ((List.getD x1 (Int.toNat x0) ((0 : Int) , (((0 : Int) , ((0 : Int) , ((0 : Int) , ((0 : Int) , ((0 : Int) , (0 : Int)))))) , ((0 : Int) , ((0 : Int) , ((0 : Int) , (0 : Int))))))).2.1.1 = (18 : Int)))
                 (k0 (band .u16 (List.getD x2 (Int.toNat (List.getD x1 (Int.toNat x0) ((0 : Int) , (((0 : Int) , ((0 : Int) , ((0 : Int) , ((0 : Int) , ((0 : Int) , (0 : Int)))))) , ((0 : Int) , ((0 : Int) , ((0 : Int) , (0 : Int))))))).2.2.2.1) (0 : Int)) i3851) x1 x2 x3)
                 (br (inB (List.getD x1 (Int.toNat x0) ((0 : Int) , (((0 : Int) , ((0 : Int) , ((0 : Int) , ((0 : Int) , ((0 : Int) , (0 : Int)))))) , ((0 : Int) , ((0 : Int) , ((0 : Int) , (0 : Int))))))).2.2.2.1 (List.length x1))
                  (br (decide ((Int.toNat (List.getD x1 (Int.toNat x0) ((0 : Int) , (((0 : Int) , ((0 : Int) , ((0 : Int) , ((0 : Int) , ((0 : Int) , (0 : Int)))))) , ((0 : Int) , ((0 : Int) , ((0 : Int) , (0 : Int))))))).2.2.2.1) < (List.length x1)))
                   (c0 (List.getD x1 (Int.toNat x0) ((0 : Int) , (((0 : Int) , ((0 : Int) , ((0 : Int) , ((0 : Int) , ((0 : Int) , (0 : Int)))))) , ((0 : Int) , ((0 : Int) , ((0 : Int) , (0 : Int))))))).2.1.1 (List.getD x1 (Int.toNat (List.getD x1 (Int.toNat x0) ((0 : Int) , (((0 : Int) , ((0 : Int) , ((0 : Int) , ((0 : Int) , ((0 : Int) , (0 : Int)))))) , ((0 : Int) , ((0 : Int) , ((0 : Int) , (0 : Int))))))).2.2.2.1) ((0 : Int) , (((0 : Int) , ((0 : Int) , ((0 : Int) , ((0 : Int) , ((0 : Int) , (0 : Int)))))) , ((0 : Int) , ((0 : Int) , ((0 : Int) , (0 : Int))))))).2.2.1 (List.getD x2 (Int.toNat (List.getD x1 (Int.toNat x0) ((0 : Int) , (((0 : Int) , ((0 : Int) , ((0 : Int) , ((0 : Int) , ((0 : Int) , (0 : Int)))))) , ((0 : Int) , ((0 : Int) , ((0 : Int) , (0 : Int))))))).2.2.2.1) (0 : Int)) (List.getD x2 (Int.toNat (List.getD x1 (Int.toNat x0) ((0 : Int) , (((0 : Int) , ((0 : Int) , ((0 : Int) , ((0 : Int) , ((0 : Int) , (0 : Int)))))) , ((0 : Int) , ((0 : Int) , ((0 : Int) , (0 : Int))))))).2.2.2.2.1) (0 : Int))
                    (fun i3852 i3853 => k0 i3852 x1 x2 x3))
                   (none))
                  (none))))))))
           (none))
          (none))
         (none))
        (none))
       (none))
      (none))
     (c1 (List.getD x1 (Int.toNat x0) ((0 : Int) , (((0 : Int) , ((0 : Int) , ((0 : Int) , ((0 : Int) , ((0 : Int) , (0 : Int)))))) , ((0 : Int) , ((0 : Int) , ((0 : Int) , (0 : Int))))))).2.2.1
      (fun i3854 => br (decide ((List.getD x1 (Int.toNat x0) ((0 : Int) , (((0 : Int) , ((0 : Int) , ((0 : Int) , ((0 : Int) , ((0 : Int) , (0 : Int)))))) , ((0 : Int) , ((0 : Int) , ((0 : Int) , (0 : Int))))))).2.1.1 = (1 : Int)))
       (k0 (band .u16 (List.getD x1 (Int.toNat x0) ((0 : Int) , (((0 : Int) , ((0 : Int) , ((0 : Int) , ((0 : Int) , ((0 : Int) , (0 : Int)))))) , ((0 : Int) , ((0 : Int) , ((0 : Int) , (0 : Int))))))).2.1.2.2.1 i3854) x1 x2 x3)
       (br (decide ((List.getD x1 (Int.toNat x0) ((0 : Int) , (((0 : Int) , ((0 : Int) , ((0 : Int) , ((0 : Int) , ((0 : Int) , (0 : Int)))))) , ((0 : Int) , ((0 : Int) , ((0 : Int) , (0 : Int))))))).2.1.1 = (2 : Int)))
        (br (decide ((IntKind.wrap .i64 (List.getD x1 (Int.toNat x0) ((0 : Int) , (((0 : Int) , ((0 : Int) , ((0 : Int) , ((0 : Int) , ((0 : Int) , (0 : Int)))))) , ((0 : Int) , ((0 : Int) , ((0 : Int) , (0 : Int))))))).2.1.2.2.1) < (Nat.cast (List.length x3) : Int)))
         (br (inB (List.getD x1 (Int.toNat x0) ((0 : Int) , (((0 : Int) , ((0 : Int) , ((0 : Int) , ((0 : Int) , ((0 : Int) , (0 : Int)))))) , ((0 : Int) , ((0 : Int) , ((0 : Int) , (0 : Int))))))).2.1.2.2.1 (List.length x3))
          (br (decide ((Int.toNat (List.getD x1 (Int.toNat x0) ((0 : Int) , (((0 : Int) , ((0 : Int) , ((0 : Int) , ((0 : Int) , ((0 : Int) , (0 : Int)))))) , ((0 : Int) , ((0 : Int) , ((0 : Int) , (0 : Int))))))).2.1.2.2.1) < (List.length x3)))
           (k0 (band .u16 (List.getD x3 (Int.toNat (List.getD x1 (Int.toNat x0) ((0 : Int) , (((0 : Int) , ((0 : Int) , ((0 : Int) , ((0 : Int) , ((0 : Int) , (0 : Int)))))) , ((0 : Int) , ((0 : Int) , ((0 : Int) , (0 : Int))))))).2.1.2.2.1) (0 : Int)) i3854) x1 x2 x3)
           (none))
          (none))
         (k0 (0 : Int) x1 x2 x3))
        (br (decide ((List.getD x1 (Int.toNat x0) ((0 : Int) , (((0 : Int) , ((0 : Int) , ((0 : Int) , ((0 : Int) , ((0 : Int) , (0 : Int)))))) , ((0 : Int) , ((0 : Int) , ((0 : Int) , (0 : Int))))))).2.1.1 = (16 : Int)))
         (k0 (0 : Int) x1 x2 x3)
         (br (decide ((List.getD x1 (Int.toNat x0) ((0 : Int) , (((0 : Int) , ((0 : Int) , ((0 : Int) , ((0 : Int) , ((0 : Int) , (0 : Int)))))) , ((0 : Int) , ((0 : Int) , ((0 : Int) , (0 : Int))))))).2.1.1 = (17 : Int)))
          (k0 (band .u16 (0 : Int) i3854) x1 x2 x3)
          (br (decide ((List.getD x1 (Int.toNat x0) ((0 : Int) , (((0 : Int) , ((0 : Int) , ((0 : Int) , ((0 : Int) , ((0 : Int) , (0 : Int)))))) , ((0 : Int) , ((0 : Int) , ((0 : Int) , (0 : Int))))))).2.1.1 = (18 : Int)))
           (k0 (band .u16 (0 : Int) i3854) x1 x2 x3)
           (br (inB (List.getD x1 (Int.toNat x0) ((0 : Int) , (((0 : Int) , ((0 : Int) , ((0 : Int) , ((0 : Int) , ((0 : Int) , (0 : Int)))))) , ((0 : Int) , ((0 : Int) , ((0 : Int) , (0 : Int))))))).2.2.2.1 (List.length x1))
            (br (decide ((Int.toNat (List.getD x1 (Int.toNat x0) ((0 : Int) , (((0 : Int) , ((0 : Int) , ((0 : Int) , ((0 : Int) , ((0 : Int) , (0 : Int)))))) , ((0 : Int) , ((0 : Int) , ((0 : Int) , (0 : Int))))))).2.2.2.1) < (List.length x1)))
             (c0 (List.getD x1 (Int.toNat x0) ((0 : Int) , (((0 : Int) , ((0 : Int) , ((0 : Int) , ((0 : Int) , ((0 : Int) , (0 : Int)))))) , ((0 : Int) , ((0 : Int) , ((0 : Int) , (0 : Int))))))).2.1.1 (List.getD x1 (Int.toNat (List.getD x1 (Int.toNat x0) ((0 : Int) , (((0 : Int) , ((0 : Int) , ((0 : Int) , ((0 : Int) , ((0 : Int) , (0 : Int)))))) , ((0 : Int) , ((0 : Int) , ((0 : Int) , (0 : Int))))))).2.2.2.1) ((0 : Int) , (((0 : Int) , ((0 : Int) , ((0 : Int) , ((0 : Int) , ((0 : Int) , (0 : Int)))))) , ((0 : Int) , ((0 : Int) , ((0 : Int) , (0 : Int))))))).2.2.1 (0 : Int) (0 : Int)
              (fun i3855 i3856 => k0 i3855 x1 x2 x3))
             (none))
            (none)))))))))
    (c1 (List.getD x1 (Int.toNat x0) ((0 : Int) , (((0 : Int) , ((0 : Int) , ((0 : Int) , ((0 : Int) , ((0 : Int) , (0 : Int)))))) , ((0 : Int) , ((0 : Int) , ((0 : Int) , (0 : Int))))))).2.2.1
     (fun i3857 => br (decide ((List.getD x1 (Int.toNat x0) ((0 : Int) , (((0 : Int) , ((0 : Int) , ((0 : Int) , ((0 : Int) , ((0 : Int) , (0 : Int)))))) , ((0 : Int) , ((0 : Int) , ((0 : Int) , (0 : Int))))))).2.1.1 = (1 : Int)))
      (k0 (band .u16 (List.getD x1 (Int.toNat x0) ((0 : Int) , (((0 : Int) , ((0 : Int) , ((0 : Int) , ((0 : Int) , ((0 : Int) , (0 : Int)))))) , ((0 : Int) , ((0 : Int) , ((0 : Int) , (0 : Int))))))).2.1.2.2.1 i3857) x1 x2 x3)
      (br (decide ((List.getD x1 (Int.toNat x0) ((0 : Int) , (((0 : Int) , ((0 : Int) , ((0 : Int) , ((0 : Int) , ((0 : Int) , (0 : Int)))))) , ((0 : Int) , ((0 : Int) , ((0 : Int) , (0 : Int))))))).2.1.1 = (2 : Int)))
       (br (decide ((IntKind.wrap .i64 (List.getD x1 (Int.toNat x0) ((0 : Int) , (((0 : Int) , ((0 : Int) , ((0 : Int) , ((0 : Int) , ((0 : Int) , (0 : Int)))))) , ((0 : Int) , ((0 : Int) , ((0 : Int) , (0 : Int))))))).2.1.2.2.1) < (Nat.cast (List.length x3) : Int)))
        (br (inB (List.getD x1 (Int.toNat x0) ((0 : Int) , (((0 : Int) , ((0 : Int) , ((0 : Int) , ((0 : Int) , ((0 : Int) , (0 : Int)))))) , ((0 : Int) , ((0 : Int) , ((0 : Int) , (0 : Int))))))).2.1.2.2.1 (List.length x3))
         (br (decide ((Int.toNat (List.getD x1 (Int.toNat x0) ((0 : Int) , (((0 : Int) , ((0 : Int) , ((0 : Int) , ((0 : Int) , ((0 : Int) , (0 : Int)))))) , ((0 : Int) , ((0 : Int) , ((0 : Int) , (0 : Int))))))).2.1.2.2.1) < (List.length x3)))
          (k0 (band .u16 (List.getD x3 (Int.toNat (List.getD x1 (Int.toNat x0) ((0 : Int) , (((0 : Int) , ((0 : Int) , ((0 : Int) , ((0 : Int) , ((0 : Int) , (0 : Int)))))) , ((0 : Int) , ((0 : Int) , ((0 : Int) , (0 : Int))))))).2.1.2.2.1) (0 : Int)) i3857) x1 x2 x3)
          (none))
         (none))
        (k0 (0 : Int) x1 x2 x3))
       (br (decide ((List.getD x1 (Int.toNat x0) ((0 : Int) , (((0 : Int) , ((0 : Int) , ((0 : Int) , ((0 : Int) , ((0 : Int) , (0 : Int)))))) , ((0 : Int) , ((0 : Int) , ((0 : Int) , (0 : Int))))))).2.1.1 = (16 : Int)))
        (k0 (0 : Int) x1 x2 x3)
        (br (decide ((List.getD x1 (Int.toNat x0) ((0 : Int) , (((0 : Int) , ((0 : Int) , ((0 : Int) , ((0 : Int) , ((0 : Int) , (0 : Int)))))) , ((0 : Int) , ((0 : Int) , ((0 : Int) , (0 : Int))))))).2.1.1 = (17 : Int)))
         (k0 (band .u16 (0 : Int) i3857) x1 x2 x3)
         (br (decide ((List.getD x1 (Int.toNat x0) ((0 : Int) , (((0 : Int) , ((0 : Int) , ((0 : Int) , ((0 : Int) , ((0 : Int) , (0 : Int)))))) , ((0 : Int) , ((0 : Int) , ((0 : Int) , (0 : Int))))))).2.1.1 = (18 : Int)))
          (k0 (band .u16 (0 : Int) i3857) x1 x2 x3)
          (br (inB (List.getD x1 (Int.toNat x0) ((0 : Int) , (((0 : Int) , ((0 : Int) , ((0 : Int) , ((0 : Int) , ((0 : Int) , (0 : Int)))))) , ((0 : Int) , ((0 : Int) , ((0 : Int) , (0 : Int))))))).2.2.2.1 (List.length x1))
           (br (decide ((Int.toNat (List.getD x1 (Int.toNat x0) ((0 : Int) , (((0 : Int) , ((0 : Int) , ((0 : Int) , ((0 : Int) , ((0 : Int) , (0 : Int)))))) , ((0 : Int) , ((0 : Int) , ((0 : Int) , (0 : Int))))))).2.2.2.1) < (List.length x1)))
            (c0 (List.getD x1 (Int.toNat x0) ((0 : Int) , (((0 : Int) , ((0 : Int) , ((0 : Int) , ((0 : Int) , ((0 : Int) , (0 : Int)))))) , ((0 : Int) , ((0 : Int) , ((0 : Int) , (0 : Int))))))).2.1.1 (List.getD x1 (Int.toNat (List.getD x1 (Int.toNat x0) ((0 : Int) , (((0 : Int) , ((0 : Int) , ((0 : Int) , ((0 : Int) , ((0 : Int) , (0 : Int)))))) , ((0 : Int) , ((0 : Int) , ((0 : Int) , (0 : Int))))))).2.2.2.1) ((0 : Int) , (((0 : Int) , ((0 : Int) , ((0 : Int) , ((0 : Int) , ((0 : Int) , (0 : Int)))))) , ((0 : Int) , ((0 : Int) , ((0 : Int) , (0 : Int))))))).2.2.1 (0 : Int) (0 : Int)
             (fun i3858 i3859 => k0 i3858 x1 x2 x3))
            (none))
           (none)))))))))
   (none))
  (none)
noncomputable def law2_Value_c2cb (N : Nat) {R : Type} (x0 : Int) (x1 : List ((Int) × (((Int) × ((Int) × ((Int) × ((Int) × ((Int) × (Int)))))) × ((Int) × ((Int) × ((Int) × (Int))))))) (x2 : List (Int)) (x3 : List (Int)) (k0 : (Int) → (List ((Int) × (((Int) × ((Int) × ((Int) × ((Int) × ((Int) × (Int)))))) × ((Int) × ((Int) × ((Int) × (Int))))))) → (List (Int)) → (List (Int)) → Option R) : Option R := law2_Value_c2cb_T N (@ref1_Do N) (@ref1_Mask N) x0 x1 x2 x3 k0
abbrev law2_Values_3151_l0_Ty : Type 1 := {R : Type} → ((List ((Int) × (((Int) × ((Int) × ((Int) × ((Int) × ((Int) × (Int)))))) × ((Int) × ((Int) × ((Int) × (Int))))))) → (List (Int)) → (List (Int)) → Option R) → Nat → (Int) → (List ((Int) × (((Int) × ((Int) × ((Int) × ((Int) × ((Int) × (Int)))))) × ((Int) × ((Int) × ((Int) × (Int))))))) → (List (Int)) → (List (Int)) → Option R
abbrev law2_Values_3151_Ty : Type 1 := {R : Type} → (List ((Int) × (((Int) × ((Int) × ((Int) × ((Int) × ((Int) × (Int)))))) × ((Int) × ((Int) × ((Int) × (Int))))))) → (List (Int)) → ((List ((Int) × (((Int) × ((Int) × ((Int) × ((Int) × ((Int) × (Int)))))) × ((Int) × ((Int) × ((Int) × (Int))))))) → (List (Int)) → (List (Int)) → Option R) → Option R
noncomputable def law2_Values_3151_l0_T0 (N : Nat) (c0 : law2_Value_6552_Ty) (c1 : law2_Value_c2cb_Ty) {R : Type} (nx : (Int) → (List ((Int) × (((Int) × ((Int) × ((Int) × ((Int) × ((Int) × (Int)))))) × ((Int) × ((Int) × ((Int) × (Int))))))) → (List (Int)) → (List (Int)) → Option R) (k0 : (List ((Int) × (((Int) × ((Int) × ((Int) × ((Int) × ((Int) × (Int)))))) × ((Int) × ((Int) × ((Int) × (Int))))))) → (List (Int)) → (List (Int)) → Option R) (x0 : Int) (x1 : List ((Int) × (((Int) × ((Int) × ((Int) × ((Int) × ((Int) × (Int)))))) × ((Int) × ((Int) × ((Int) × (Int))))))) (x2 : List (Int)) (x3 : List (Int)) : Option R :=
  br (decide (x0 < (Nat.cast (List.length x1) : Int)))
  (c1 x0 x1 x3 x2
   (fun i3860 l3861 l3862 l3863 => br (((fits (0 : Nat) (List.length l3862) l3862) && (decide ((((List.length l3862) + (1 : Nat)) * (2 : Nat)) ≤ (70368744177664 : Nat)))) && true)
    (nx (IntKind.wrap .i64 (x0 + (1 : Int))) l3861 l3863 ((sub l3862 (0 : Nat) (List.length l3862)) ++ (i3860 :: ([] : List ((Sh.int IntKind.u16).T)))))
    (none)))
  (k0 x1 x2 x3)
noncomputable def law2_Values_3151_l0 (N : Nat) {R : Type} (k0 : (List ((Int) × (((Int) × ((Int) × ((Int) × ((Int) × ((Int) × (Int)))))) × ((Int) × ((Int) × ((Int) × (Int))))))) → (List (Int)) → (List (Int)) → Option R) : Nat → (Int) → (List ((Int) × (((Int) × ((Int) × ((Int) × ((Int) × ((Int) × (Int)))))) × ((Int) × ((Int) × ((Int) × (Int))))))) → (List (Int)) → (List (Int)) → Option R
  | 0, _, _, _, _ => none
  | n + 1, x0, x1, x2, x3 => law2_Values_3151_l0_T0 N (@law2_Value_6552 N) (@law2_Value_c2cb N) (fun x0 x1 x2 x3 => law2_Values_3151_l0 N k0 n x0 x1 x2 x3) k0 x0 x1 x2 x3
noncomputable def law2_Values_3151_T (N : Nat) (c0 : law2_Value_6552_Ty) (c1 : law2_Value_c2cb_Ty) (w0 : law2_Values_3151_l0_Ty) {R : Type} (x0 : List ((Int) × (((Int) × ((Int) × ((Int) × ((Int) × ((Int) × (Int)))))) × ((Int) × ((Int) × ((Int) × (Int))))))) (x1 : List (Int)) (k0 : (List ((Int) × (((Int) × ((Int) × ((Int) × ((Int) × ((Int) × (Int)))))) × ((Int) × ((Int) × ((Int) × (Int))))))) → (List (Int)) → (List (Int)) → Option R) : Option R :=
  w0
  (fun l3864 l3865 l3866 => k0 l3864 l3865 l3866)
  N (0 : Int) x0 x1 ([] : List ((Sh.int IntKind.u16).T))
noncomputable def law2_Values_3151 (N : Nat) {R : Type} (x0 : List ((Int) × (((Int) × ((Int) × ((Int) × ((Int) × ((Int) × (Int)))))) × ((Int) × ((Int) × ((Int) × (Int))))))) (x1 : List (Int)) (k0 : (List ((Int) × (((Int) × ((Int) × ((Int) × ((Int) × ((Int) × (Int)))))) × ((Int) × ((Int) × ((Int) × (Int))))))) → (List (Int)) → (List (Int)) → Option R) : Option R := law2_Values_3151_T N (@law2_Value_6552 N) (@law2_Value_c2cb N) (@law2_Values_3151_l0 N) x0 x1 k0
abbrev term_Value_7344_Ty : Type 1 := {R : Type} → (Int) → (Int) → (Int) → (Int) → (Int) → (Int) → (Int) → (Int) → (Int) → (Int) → (List (Int)) → ((Int) → (List (Int)) → Option R) → Option R
noncomputable def term_Value_7344_T (N : Nat) (c0 : wide_Do_Ty) (c1 : wide_Mask_Ty) {R : Type} (x0 : Int) (x1 : Int) (x2 : Int) (x3 : Int) (x4 : Int) (x5 : Int) (x6 : Int) (x7 : Int) (x8 : Int) (x9 : Int) (x10 : List (Int)) (k0 : (Int) → (List (Int)) → Option R) : Option R :=
  br (decide (x0 = (1 : Int)))
  (k0 x2 x10)
  (br (decide (x0 = (2 : Int)))
   (br (decide ((IntKind.wrap .i64 x2) < (Nat.cast (List.length x10) : Int)))
    (br (inB x2 (List.length x10))
     (br (decide ((Int.toNat x2) < (List.length x10)))
      (c1 x1
       (fun i3909 => br (decide (x2 = x2))
        (br (inB x2 (List.length x10))
         (br (decide (x2 = x2))
          (br (decide ((Int.toNat x2) < (List.length x10)))
           (br (decide ((List.getD x10 (Int.toNat x2) (0 : Int)) = (List.getD x10 (Int.toNat x2) (0 : Int))))
            (k0 (band .u16 (List.getD x10 (Int.toNat x2) (0 : Int)) i3909) x10)
            (none))
           (none))
          (none))
         (none))
        (none)))
      (none))
     (none))
    (k0 (0 : Int) x10))
   (br (decide (x0 = (16 : Int)))
    (br (decide (x7 = (1 : Int)))
     (k0 x8 x10)
     (k0 x9 x10))
    (br (decide (x0 = (17 : Int)))
     (k0 x7 x10)
     (br (decide (x0 = (18 : Int)))
      (c1 x1
       (fun i3910 => k0 (band .u16 x7 i3910) x10))
      (c0 x0 x6 x7 x8
       (fun i3911 i3912 => k0 i3911 x10))))))
noncomputable def term_Value_7344 (N : Nat) {R : Type} (x0 : Int) (x1 : Int) (x2 : Int) (x3 : Int) (x4 : Int) (x5 : Int) (x6 : Int) (x7 : Int) (x8 : Int) (x9 : Int) (x10 : List (Int)) (k0 : (Int) → (List (Int)) → Option R) : Option R := term_Value_7344_T N (@wide_Do N) (@wide_Mask N) x0 x1 x2 x3 x4 x5 x6 x7 x8 x9 x10 k0
abbrev term_Arena_Vars_43b4_l0_Ty : Type 1 := {R : Type} → ((List ((Int) × ((Int) × ((Int) × ((Int) × ((Int) × (Int))))))) → (List (((Int) × ((Int) × ((Int) × ((Int) × ((Int) × (Int)))))) × (Int))) → (List ((Int) × (Int))) → (List (Bool)) → Option R) → Nat → (Int) → (Int) → (List ((Int) × ((Int) × ((Int) × ((Int) × ((Int) × (Int))))))) → (List (((Int) × ((Int) × ((Int) × ((Int) × ((Int) × (Int)))))) × (Int))) → (List ((Int) × (Int))) → (List (Bool)) → (List (Int)) → Option R
abbrev term_Arena_Vars_43b4_l1_Ty : Type 1 := {R : Type} → ((List ((Int) × ((Int) × ((Int) × ((Int) × ((Int) × (Int))))))) → (List (((Int) × ((Int) × ((Int) × ((Int) × ((Int) × (Int)))))) × (Int))) → (List ((Int) × (Int))) → (List (Int)) → Option R) → Nat → (List (Bool)) → (Int) → (List ((Int) × ((Int) × ((Int) × ((Int) × ((Int) × (Int))))))) → (List (((Int) × ((Int) × ((Int) × ((Int) × ((Int) × (Int)))))) × (Int))) → (List ((Int) × (Int))) → (List (Int)) → Option R
abbrev term_Arena_Vars_43b4_Ty : Type 1 := {R : Type} → (Int) → (List ((Int) × ((Int) × ((Int) × ((Int) × ((Int) × (Int))))))) → (List (((Int) × ((Int) × ((Int) × ((Int) × ((Int) × (Int)))))) × (Int))) → (List ((Int) × (Int))) → ((List ((Int) × ((Int) × ((Int) × ((Int) × ((Int) × (Int))))))) → (List (((Int) × ((Int) × ((Int) × ((Int) × ((Int) × (Int)))))) × (Int))) → (List ((Int) × (Int))) → (List (Int)) → Option R) → Option R
noncomputable def term_Arena_Vars_43b4_l0_T0 (N : Nat) (c0 : term_Arena_Under_2549_Ty) (c1 : term_Arena_there_2549_Ty) (w1 : term_Arena_Vars_43b4_l1_Ty) {R : Type} (nx : (Int) → (Int) → (List ((Int) × ((Int) × ((Int) × ((Int) × ((Int) × (Int))))))) → (List (((Int) × ((Int) × ((Int) × ((Int) × ((Int) × (Int)))))) × (Int))) → (List ((Int) × (Int))) → (List (Bool)) → (List (Int)) → Option R) (k0 : (List ((Int) × ((Int) × ((Int) × ((Int) × ((Int) × (Int))))))) → (List (((Int) × ((Int) × ((Int) × ((Int) × ((Int) × (Int)))))) × (Int))) → (List ((Int) × (Int))) → (List (Bool)) → Option R) (x0 : Int) (x1 : Int) (x2 : List ((Int) × ((Int) × ((Int) × ((Int) × ((Int) × (Int))))))) (x3 : List (((Int) × ((Int) × ((Int) × ((Int) × ((Int) × (Int)))))) × (Int))) (x4 : List ((Int) × (Int))) (x5 : List (Bool)) (x6 : List (Int)) : Option R :=
  br (decide (x1 < x0))
  (br (inB x1 (List.length x6))
   (br (decide ((Int.toNat x1) < (List.length x6)))
    (br (inB (IntKind.wrap .i64 ((List.getD x6 (Int.toNat x1) (0 : Int)) - (1 : Int))) (List.length x2))
     (br (decide ((Int.toNat (IntKind.wrap .i64 ((List.getD x6 (Int.toNat x1) (0 : Int)) - (1 : Int)))) < (List.length x2)))
      (br (decide ((List.getD x2 (Int.toNat (IntKind.wrap .i64 ((List.getD x6 (Int.toNat x1) (0 : Int)) - (1 : Int)))) ((0 : Int) , ((0 : Int) , ((0 : Int) , ((0 : Int) , ((0 : Int) , (0 : Int))))))).1 = (2 : Int)))
       (br (inB (List.getD x2 (Int.toNat (IntKind.wrap .i64 ((List.getD x6 (Int.toNat x1) (0 : Int)) - (1 : Int)))) ((0 : Int) , ((0 : Int) , ((0 : Int) , ((0 : Int) , ((0 : Int) , (0 : Int))))))).2.2.1 (64 : Nat))
        (br (decide ((Int.toNat (List.getD x2 (Int.toNat (IntKind.wrap .i64 ((List.getD x6 (Int.toNat x1) (0 : Int)) - (1 : Int)))) ((0 : Int) , ((0 : Int) , ((0 : Int) , ((0 : Int) , ((0 : Int) , (0 : Int))))))).2.2.1) < (64 : Nat)))
         (nx x0 (IntKind.wrap .i64 (x1 + (1 : Int))) x2 x3 x4 (List.set x5 (Int.toNat (List.getD x2 (Int.toNat (IntKind.wrap .i64 ((List.getD x6 (Int.toNat x1) (0 : Int)) - (1 : Int)))) ((0 : Int) , ((0 : Int) , ((0 : Int) , ((0 : Int) , ((0 : Int) , (0 : Int))))))).2.2.1) true) x6)
         (none))
        (none))
       (nx x0 (IntKind.wrap .i64 (x1 + (1 : Int))) x2 x3 x4 x5 x6))
      (none))
     (none))
    (none))
   (none))
  (k0 x2 x3 x4 x5)
noncomputable def term_Arena_Vars_43b4_l1_T0 (N : Nat) (c0 : term_Arena_Under_2549_Ty) (c1 : term_Arena_there_2549_Ty) {R : Type} (nx : (List (Bool)) → (Int) → (List ((Int) × ((Int) × ((Int) × ((Int) × ((Int) × (Int))))))) → (List (((Int) × ((Int) × ((Int) × ((Int) × ((Int) × (Int)))))) × (Int))) → (List ((Int) × (Int))) → (List (Int)) → Option R) (k0 : (List ((Int) × ((Int) × ((Int) × ((Int) × ((Int) × (Int))))))) → (List (((Int) × ((Int) × ((Int) × ((Int) × ((Int) × (Int)))))) × (Int))) → (List ((Int) × (Int))) → (List (Int)) → Option R) (x0 : List (Bool)) (x1 : Int) (x2 : List ((Int) × ((Int) × ((Int) × ((Int) × ((Int) × (Int))))))) (x3 : List (((Int) × ((Int) × ((Int) × ((Int) × ((Int) × (Int)))))) × (Int))) (x4 : List ((Int) × (Int))) (x5 : List (Int)) : Option R :=
  br (decide (x1 < (64 : Int)))
  (br (inB x1 (64 : Nat))
   (br (List.getD x0 (Int.toNat x1) false)
    (br (((fits (0 : Nat) (List.length x5) x5) && (decide ((((List.length x5) + (1 : Nat)) * (8 : Nat)) ≤ (70368744177664 : Nat)))) && true)
     (nx x0 (IntKind.wrap .i64 (x1 + (1 : Int))) x2 x3 x4 ((sub x5 (0 : Nat) (List.length x5)) ++ (x1 :: ([] : List ((Sh.int IntKind.i64).T)))))
     (none))
    (nx x0 (IntKind.wrap .i64 (x1 + (1 : Int))) x2 x3 x4 x5))
   (none))
  (k0 x2 x3 x4 x5)
noncomputable def term_Arena_Vars_43b4_l1 (N : Nat) {R : Type} (k0 : (List ((Int) × ((Int) × ((Int) × ((Int) × ((Int) × (Int))))))) → (List (((Int) × ((Int) × ((Int) × ((Int) × ((Int) × (Int)))))) × (Int))) → (List ((Int) × (Int))) → (List (Int)) → Option R) : Nat → (List (Bool)) → (Int) → (List ((Int) × ((Int) × ((Int) × ((Int) × ((Int) × (Int))))))) → (List (((Int) × ((Int) × ((Int) × ((Int) × ((Int) × (Int)))))) × (Int))) → (List ((Int) × (Int))) → (List (Int)) → Option R
  | 0, _, _, _, _, _, _ => none
  | n + 1, x0, x1, x2, x3, x4, x5 => term_Arena_Vars_43b4_l1_T0 N (@term_Arena_Under_2549 N) (@term_Arena_there_2549 N) (fun x0 x1 x2 x3 x4 x5 => term_Arena_Vars_43b4_l1 N k0 n x0 x1 x2 x3 x4 x5) k0 x0 x1 x2 x3 x4 x5
noncomputable def term_Arena_Vars_43b4_l0 (N : Nat) {R : Type} (k0 : (List ((Int) × ((Int) × ((Int) × ((Int) × ((Int) × (Int))))))) → (List (((Int) × ((Int) × ((Int) × ((Int) × ((Int) × (Int)))))) × (Int))) → (List ((Int) × (Int))) → (List (Bool)) → Option R) : Nat → (Int) → (Int) → (List ((Int) × ((Int) × ((Int) × ((Int) × ((Int) × (Int))))))) → (List (((Int) × ((Int) × ((Int) × ((Int) × ((Int) × (Int)))))) × (Int))) → (List ((Int) × (Int))) → (List (Bool)) → (List (Int)) → Option R
  | 0, _, _, _, _, _, _, _ => none
  | n + 1, x0, x1, x2, x3, x4, x5, x6 => term_Arena_Vars_43b4_l0_T0 N (@term_Arena_Under_2549 N) (@term_Arena_there_2549 N) (@term_Arena_Vars_43b4_l1 N) (fun x0 x1 x2 x3 x4 x5 x6 => term_Arena_Vars_43b4_l0 N k0 n x0 x1 x2 x3 x4 x5 x6) k0 x0 x1 x2 x3 x4 x5 x6
noncomputable def term_Arena_Vars_43b4_T (N : Nat) (c0 : term_Arena_Under_2549_Ty) (c1 : term_Arena_there_2549_Ty) (w0 : term_Arena_Vars_43b4_l0_Ty) (w1 : term_Arena_Vars_43b4_l1_Ty) {R : Type} (x0 : Int) (x1 : List ((Int) × ((Int) × ((Int) × ((Int) × ((Int) × (Int))))))) (x2 : List (((Int) × ((Int) × ((Int) × ((Int) × ((Int) × (Int)))))) × (Int))) (x3 : List ((Int) × (Int))) (k0 : (List ((Int) × ((Int) × ((Int) × ((Int) × ((Int) × (Int))))))) → (List (((Int) × ((Int) × ((Int) × ((Int) × ((Int) × (Int)))))) × (Int))) → (List ((Int) × (Int))) → (List (Int)) → Option R) : Option R :=
  c1 x1 x2 x3 (x0 :: ([] : List ((Sh.int IntKind.i64).T)))
  (fun b3958 l3959 l3960 l3961 l3962 => br b3958
   (c0 l3959 l3960 l3961 (x0 :: ([] : List ((Sh.int IntKind.i64).T)))
    (fun l3963 l3964 l3965 l3966 l3967 => w0
     (fun l3968 l3969 l3970 l3971 => w1
      (fun l3972 l3973 l3974 l3975 => k0 l3972 l3973 l3974 l3975)
      N l3971 (0 : Int) l3968 l3969 l3970 ([] : List ((Sh.int IntKind.i64).T)))
     N (Nat.cast (List.length l3967) : Int) (0 : Int) l3963 l3964 l3965 (List.replicate (64 : Nat) false) l3967))
   (w1
    (fun l3976 l3977 l3978 l3979 => k0 l3976 l3977 l3978 l3979)
    N (List.replicate (64 : Nat) false) (0 : Int) l3959 l3960 l3961 ([] : List ((Sh.int IntKind.i64).T))))
noncomputable def term_Arena_Vars_43b4 (N : Nat) {R : Type} (x0 : Int) (x1 : List ((Int) × ((Int) × ((Int) × ((Int) × ((Int) × (Int))))))) (x2 : List (((Int) × ((Int) × ((Int) × ((Int) × ((Int) × (Int)))))) × (Int))) (x3 : List ((Int) × (Int))) (k0 : (List ((Int) × ((Int) × ((Int) × ((Int) × ((Int) × (Int))))))) → (List (((Int) × ((Int) × ((Int) × ((Int) × ((Int) × (Int)))))) × (Int))) → (List ((Int) × (Int))) → (List (Int)) → Option R) : Option R := term_Arena_Vars_43b4_T N (@term_Arena_Under_2549 N) (@term_Arena_there_2549 N) (@term_Arena_Vars_43b4_l0 N) (@term_Arena_Vars_43b4_l1 N) x0 x1 x2 x3 k0
abbrev term_Arena_Two_12d2_Ty : Type 1 := {R : Type} → (Int) → (Int) → (Int) → (List ((Int) × ((Int) × ((Int) × ((Int) × ((Int) × (Int))))))) → (List (((Int) × ((Int) × ((Int) × ((Int) × ((Int) × (Int)))))) × (Int))) → (List ((Int) × (Int))) → ((Int) → (Int) → (List (((Int) × ((Int) × ((Int) × ((Int) × ((Int) × (Int)))))) × (Int))) → (List ((Int) × (Int))) → (List ((Int) × ((Int) × ((Int) × ((Int) × ((Int) × (Int))))))) → Option R) → Option R
abbrev term_Arena_less_12d2_Ty : Type 1 := {R : Type} → (Int) → (Int) → (Int) → (List ((Int) × ((Int) × ((Int) × ((Int) × ((Int) × (Int))))))) → (List (((Int) × ((Int) × ((Int) × ((Int) × ((Int) × (Int)))))) × (Int))) → (List ((Int) × (Int))) → ((Int) → (Int) → (Bool) → (List (((Int) × ((Int) × ((Int) × ((Int) × ((Int) × (Int)))))) × (Int))) → (List ((Int) × (Int))) → (List ((Int) × ((Int) × ((Int) × ((Int) × ((Int) × (Int))))))) → Option R) → Option R
abbrev term_Arena_with_7a2f_Ty : Type 1 := {R : Type} → (Int) → (Int) → (Int) → (List ((Int) × ((Int) × ((Int) × ((Int) × ((Int) × (Int))))))) → (List (((Int) × ((Int) × ((Int) × ((Int) × ((Int) × (Int)))))) × (Int))) → (List ((Int) × (Int))) → ((Int) → (Int) → (Bool) → (List (((Int) × ((Int) × ((Int) × ((Int) × ((Int) × (Int)))))) × (Int))) → (List ((Int) × (Int))) → (List ((Int) × ((Int) × ((Int) × ((Int) × ((Int) × (Int))))))) → Option R) → Option R
abbrev term_Arena_equal_2c81_Ty : Type 1 := {R : Type} → (Int) → (Int) → (List ((Int) × ((Int) × ((Int) × ((Int) × ((Int) × (Int))))))) → (List (((Int) × ((Int) × ((Int) × ((Int) × ((Int) × (Int)))))) × (Int))) → (List ((Int) × (Int))) → ((Int) → (Int) → (Bool) → (List (((Int) × ((Int) × ((Int) × ((Int) × ((Int) × (Int)))))) × (Int))) → (List ((Int) × (Int))) → (List ((Int) × ((Int) × ((Int) × ((Int) × ((Int) × (Int))))))) → Option R) → Option R
noncomputable def term_Arena_Two_12d2_T (N : Nat) (c0 : term_Arena_keep_a25e_Ty) (c1 : term_Arena_less_12d2_Ty) (c2 : term_turns_Ty) (c3 : term_Arena_Const_2c81_Ty) (c4 : wide_Out_Ty) (c5 : wide_Do_Ty) (c6 : term_Arena_Known_43b4_Ty) (c7 : term_Arena_Width_43b4_Ty) (c8 : term_Arena_there_2549_Ty) (c9 : term_two_Ty) {R : Type} (x0 : Int) (x1 : Int) (x2 : Int) (x3 : List ((Int) × ((Int) × ((Int) × ((Int) × ((Int) × (Int))))))) (x4 : List (((Int) × ((Int) × ((Int) × ((Int) × ((Int) × (Int)))))) × (Int))) (x5 : List ((Int) × (Int))) (k0 : (Int) → (Int) → (List (((Int) × ((Int) × ((Int) × ((Int) × ((Int) × (Int)))))) × (Int))) → (List ((Int) × (Int))) → (List ((Int) × ((Int) × ((Int) × ((Int) × ((Int) × (Int))))))) → Option R) : Option R :=
  c9 x0
  (fun b135 => br (!b135)
   (k0 (0 : Int) (5 : Int) x4 x5 x3)
   (c8 x3 x4 x5 (x1 :: (x2 :: ([] : List ((Sh.int IntKind.i64).T))))
    (fun b136 l137 l138 l139 l140 => br (!b136)
     (k0 (0 : Int) (1 : Int) l138 l139 l137)
     (c7 x1 l137 l138 l139
      (fun i141 l142 l143 l144 => c7 x2 l142 l143 l144
       (fun i145 l146 l147 l148 => br (!(decide (i141 = i145)))
        (k0 (0 : Int) (2 : Int) l147 l148 l146)
        (c6 x1 l146 l147 l148
         (fun i149 b150 l151 l152 l153 => c6 x2 l151 l152 l153
          (fun i154 b155 l156 l157 l158 => br b150
           (br b155
            (c7 x1 l156 l157 l158
             (fun i159 l160 l161 l162 => c5 x0 i159 i149 i154
              (fun i163 i164 => c7 x1 l160 l161 l162
               (fun i165 l166 l167 l168 => c4 x0 i165
                (fun i169 => c3 i169 i163 l166 l167 l168
                 (fun i170 i171 l172 l173 l174 => k0 i170 i171 l172 l173 l174))))))
            (c2 x0
             (fun b175 => br b175
              (br (decide (x2 < x1))
               (c1 x0 x2 x1 l156 l157 l158
                (fun i570 i571 b572 l573 l574 l575 => br b572
                 (k0 i570 i571 l573 l574 l575)
                 (c7 x2 l575 l573 l574
                  (fun i576 l577 l578 l579 => c4 x0 i576
                   (fun i580 => c0 x0 i580 (0 : Int) x2 x1 (0 : Int) l577 l578 l579
                    (fun i581 i582 l583 l584 l585 => k0 i581 i582 l583 l584 l585))))))
               (c1 x0 x1 x2 l156 l157 l158
                (fun i586 i587 b588 l589 l590 l591 => br b588
                 (k0 i586 i587 l589 l590 l591)
                 (c7 x1 l591 l589 l590
                  (fun i592 l593 l594 l595 => c4 x0 i592
                   (fun i596 => c0 x0 i596 (0 : Int) x1 x2 (0 : Int) l593 l594 l595
                    (fun i597 i598 l599 l600 l601 => k0 i597 i598 l599 l600 l601)))))))
              (c1 x0 x1 x2 l156 l157 l158
               (fun i602 i603 b604 l605 l606 l607 => br b604
                (k0 i602 i603 l605 l606 l607)
                (c7 x1 l607 l605 l606
                 (fun i608 l609 l610 l611 => c4 x0 i608
                  (fun i612 => c0 x0 i612 (0 : Int) x1 x2 (0 : Int) l609 l610 l611
                   (fun i613 i614 l615 l616 l617 => k0 i613 i614 l615 l616 l617)))))))))
           (c2 x0
            (fun b618 => br b618
             (br (decide (x2 < x1))
              (c1 x0 x2 x1 l156 l157 l158
               (fun i619 i620 b621 l622 l623 l624 => br b621
                (k0 i619 i620 l622 l623 l624)
                (c7 x2 l624 l622 l623
                 (fun i625 l626 l627 l628 => c4 x0 i625
                  (fun i629 => c0 x0 i629 (0 : Int) x2 x1 (0 : Int) l626 l627 l628
                   (fun i630 i631 l632 l633 l634 => k0 i630 i631 l632 l633 l634))))))
              (c1 x0 x1 x2 l156 l157 l158
               (fun i635 i636 b637 l638 l639 l640 => br b637
                (k0 i635 i636 l638 l639 l640)
                (c7 x1 l640 l638 l639
                 (fun i641 l642 l643 l644 => c4 x0 i641
                  (fun i645 => c0 x0 i645 (0 : Int) x1 x2 (0 : Int) l642 l643 l644
                   (fun i646 i647 l648 l649 l650 => k0 i646 i647 l648 l649 l650)))))))
             (c1 x0 x1 x2 l156 l157 l158
              (fun i651 i652 b653 l654 l655 l656 => br b653
               (k0 i651 i652 l654 l655 l656)
               (c7 x1 l656 l654 l655
                (fun i657 l658 l659 l660 => c4 x0 i657
                 (fun i661 => c0 x0 i661 (0 : Int) x1 x2 (0 : Int) l658 l659 l660
                  (fun i662 i663 l664 l665 l666 => k0 i662 i663 l664 l665 l666)))))))))))))))))
noncomputable def term_Arena_less_12d2_T (N : Nat) (c0 : term_Arena_with_7a2f_Ty) (c1 : term_turns_Ty) (c2 : term_Arena_Known_43b4_Ty) (c3 : term_Arena_alike_99d8_Ty) {R : Type} (x0 : Int) (x1 : Int) (x2 : Int) (x3 : List ((Int) × ((Int) × ((Int) × ((Int) × ((Int) × (Int))))))) (x4 : List (((Int) × ((Int) × ((Int) × ((Int) × ((Int) × (Int)))))) × (Int))) (x5 : List ((Int) × (Int))) (k0 : (Int) → (Int) → (Bool) → (List (((Int) × ((Int) × ((Int) × ((Int) × ((Int) × (Int)))))) × (Int))) → (List ((Int) × (Int))) → (List ((Int) × ((Int) × ((Int) × ((Int) × ((Int) × (Int))))))) → Option R) : Option R :=
  br (decide (x1 = x2))
  (c3 x0 x1 x3 x4 x5
   (fun i530 i531 b532 l533 l534 l535 => k0 i530 i531 b532 l533 l534 l535))
  (c2 x1 x3 x4 x5
   (fun i536 b537 l538 l539 l540 => br b537
    (c1 x0
     (fun b541 => br b541
      (c0 x0 x2 i536 l538 l539 l540
       (fun i542 i543 b544 l545 l546 l547 => k0 i542 i543 b544 l545 l546 l547))
      (c2 x2 l538 l539 l540
       (fun i548 b549 l550 l551 l552 => br b549
        (c0 x0 x1 i548 l550 l551 l552
         (fun i553 i554 b555 l556 l557 l558 => k0 i553 i554 b555 l556 l557 l558))
        (k0 (0 : Int) (0 : Int) false l551 l552 l550)))))
    (c2 x2 l538 l539 l540
     (fun i559 b560 l561 l562 l563 => br b560
      (c0 x0 x1 i559 l561 l562 l563
       (fun i564 i565 b566 l567 l568 l569 => k0 i564 i565 b566 l567 l568 l569))
      (k0 (0 : Int) (0 : Int) false l562 l563 l561)))))
noncomputable def term_Arena_with_7a2f_T (N : Nat) (c0 : term_Arena_equal_2c81_Ty) (c1 : wide_Mask_Ty) (c2 : term_Arena_Const_2c81_Ty) (c3 : wide_Out_Ty) (c4 : term_Arena_Width_43b4_Ty) {R : Type} (x0 : Int) (x1 : Int) (x2 : Int) (x3 : List ((Int) × ((Int) × ((Int) × ((Int) × ((Int) × (Int))))))) (x4 : List (((Int) × ((Int) × ((Int) × ((Int) × ((Int) × (Int)))))) × (Int))) (x5 : List ((Int) × (Int))) (k0 : (Int) → (Int) → (Bool) → (List (((Int) × ((Int) × ((Int) × ((Int) × ((Int) × (Int)))))) × (Int))) → (List ((Int) × (Int))) → (List ((Int) × ((Int) × ((Int) × ((Int) × ((Int) × (Int))))))) → Option R) : Option R :=
  c4 x1 x3 x4 x5
  (fun i235 l236 l237 l238 => br (decide (x2 = (0 : Int)))
   (br (!(decide (x0 = (4 : Int))))
    (br (!(decide (x0 = (9 : Int))))
     (br (decide (x0 = (15 : Int)))
      (c3 x0 i235
       (fun i239 => c2 i239 (0 : Int) l236 l237 l238
        (fun i240 i241 l242 l243 l244 => k0 i240 i241 true l242 l243 l244)))
      (br (decide (x2 = (0 : Int)))
       (br (!(decide (x0 = (5 : Int))))
        (br (!(decide (x0 = (6 : Int))))
         (br (!(decide (x0 = (7 : Int))))
          (br (!(decide (x0 = (8 : Int))))
           (br (!(decide (x0 = (12 : Int))))
            (br (!(decide (x0 = (13 : Int))))
             (br (decide (x0 = (11 : Int)))
              (k0 x1 (0 : Int) true l237 l238 l236)
              (c1 i235
               (fun i245 => br (decide (x2 = i245))
                (br (!(decide (x0 = (4 : Int))))
                 (br (decide (x2 = (1 : Int)))
                  (br (!(decide (x0 = (9 : Int))))
                   (br (decide (x0 = (10 : Int)))
                    (k0 x1 (0 : Int) true l237 l238 l236)
                    (br (decide (x0 = (14 : Int)))
                     (c0 x1 x2 l236 l237 l238
                      (fun i402 i403 b404 l405 l406 l407 => k0 i402 i403 b404 l405 l406 l407))
                     (k0 (0 : Int) (0 : Int) false l237 l238 l236)))
                   (k0 x1 (0 : Int) true l237 l238 l236))
                  (br (decide (x0 = (14 : Int)))
                   (c0 x1 x2 l236 l237 l238
                    (fun i408 i409 b410 l411 l412 l413 => k0 i408 i409 b410 l411 l412 l413))
                   (k0 (0 : Int) (0 : Int) false l237 l238 l236)))
                 (k0 x1 (0 : Int) true l237 l238 l236))
                (br (decide (x2 = (1 : Int)))
                 (br (!(decide (x0 = (9 : Int))))
                  (br (decide (x0 = (10 : Int)))
                   (k0 x1 (0 : Int) true l237 l238 l236)
                   (br (decide (x0 = (14 : Int)))
                    (c0 x1 x2 l236 l237 l238
                     (fun i414 i415 b416 l417 l418 l419 => k0 i414 i415 b416 l417 l418 l419))
                    (k0 (0 : Int) (0 : Int) false l237 l238 l236)))
                  (k0 x1 (0 : Int) true l237 l238 l236))
                 (br (decide (x0 = (14 : Int)))
                  (c0 x1 x2 l236 l237 l238
                   (fun i420 i421 b422 l423 l424 l425 => k0 i420 i421 b422 l423 l424 l425))
                  (k0 (0 : Int) (0 : Int) false l237 l238 l236))))))
             (k0 x1 (0 : Int) true l237 l238 l236))
            (k0 x1 (0 : Int) true l237 l238 l236))
           (k0 x1 (0 : Int) true l237 l238 l236))
          (k0 x1 (0 : Int) true l237 l238 l236))
         (k0 x1 (0 : Int) true l237 l238 l236))
        (k0 x1 (0 : Int) true l237 l238 l236))
       (c1 i235
        (fun i426 => br (decide (x2 = i426))
         (br (!(decide (x0 = (4 : Int))))
          (br (decide (x2 = (1 : Int)))
           (br (!(decide (x0 = (9 : Int))))
            (br (decide (x0 = (10 : Int)))
             (k0 x1 (0 : Int) true l237 l238 l236)
             (br (decide (x0 = (14 : Int)))
              (c0 x1 x2 l236 l237 l238
               (fun i427 i428 b429 l430 l431 l432 => k0 i427 i428 b429 l430 l431 l432))
              (k0 (0 : Int) (0 : Int) false l237 l238 l236)))
            (k0 x1 (0 : Int) true l237 l238 l236))
           (br (decide (x0 = (14 : Int)))
            (c0 x1 x2 l236 l237 l238
             (fun i433 i434 b435 l436 l437 l438 => k0 i433 i434 b435 l436 l437 l438))
            (k0 (0 : Int) (0 : Int) false l237 l238 l236)))
          (k0 x1 (0 : Int) true l237 l238 l236))
         (br (decide (x2 = (1 : Int)))
          (br (!(decide (x0 = (9 : Int))))
           (br (decide (x0 = (10 : Int)))
            (k0 x1 (0 : Int) true l237 l238 l236)
            (br (decide (x0 = (14 : Int)))
             (c0 x1 x2 l236 l237 l238
              (fun i439 i440 b441 l442 l443 l444 => k0 i439 i440 b441 l442 l443 l444))
             (k0 (0 : Int) (0 : Int) false l237 l238 l236)))
           (k0 x1 (0 : Int) true l237 l238 l236))
          (br (decide (x0 = (14 : Int)))
           (c0 x1 x2 l236 l237 l238
            (fun i445 i446 b447 l448 l449 l450 => k0 i445 i446 b447 l448 l449 l450))
           (k0 (0 : Int) (0 : Int) false l237 l238 l236)))))))
     (c3 x0 i235
      (fun i451 => c2 i451 (0 : Int) l236 l237 l238
       (fun i452 i453 l454 l455 l456 => k0 i452 i453 true l454 l455 l456))))
    (c3 x0 i235
     (fun i457 => c2 i457 (0 : Int) l236 l237 l238
      (fun i458 i459 l460 l461 l462 => k0 i458 i459 true l460 l461 l462))))
   (br (decide (x2 = (0 : Int)))
    (br (!(decide (x0 = (5 : Int))))
     (br (!(decide (x0 = (6 : Int))))
      (br (!(decide (x0 = (7 : Int))))
       (br (!(decide (x0 = (8 : Int))))
        (br (!(decide (x0 = (12 : Int))))
         (br (!(decide (x0 = (13 : Int))))
          (br (decide (x0 = (11 : Int)))
           (k0 x1 (0 : Int) true l237 l238 l236)
           (c1 i235
            (fun i463 => br (decide (x2 = i463))
             (br (!(decide (x0 = (4 : Int))))
              (br (decide (x2 = (1 : Int)))
               (br (!(decide (x0 = (9 : Int))))
                (br (decide (x0 = (10 : Int)))
                 (k0 x1 (0 : Int) true l237 l238 l236)
                 (br (decide (x0 = (14 : Int)))
                  (c0 x1 x2 l236 l237 l238
                   (fun i464 i465 b466 l467 l468 l469 => k0 i464 i465 b466 l467 l468 l469))
                  (k0 (0 : Int) (0 : Int) false l237 l238 l236)))
                (k0 x1 (0 : Int) true l237 l238 l236))
               (br (decide (x0 = (14 : Int)))
                (c0 x1 x2 l236 l237 l238
                 (fun i470 i471 b472 l473 l474 l475 => k0 i470 i471 b472 l473 l474 l475))
                (k0 (0 : Int) (0 : Int) false l237 l238 l236)))
              (k0 x1 (0 : Int) true l237 l238 l236))
             (br (decide (x2 = (1 : Int)))
              (br (!(decide (x0 = (9 : Int))))
               (br (decide (x0 = (10 : Int)))
                (k0 x1 (0 : Int) true l237 l238 l236)
                (br (decide (x0 = (14 : Int)))
                 (c0 x1 x2 l236 l237 l238
                  (fun i476 i477 b478 l479 l480 l481 => k0 i476 i477 b478 l479 l480 l481))
                 (k0 (0 : Int) (0 : Int) false l237 l238 l236)))
               (k0 x1 (0 : Int) true l237 l238 l236))
              (br (decide (x0 = (14 : Int)))
               (c0 x1 x2 l236 l237 l238
                (fun i482 i483 b484 l485 l486 l487 => k0 i482 i483 b484 l485 l486 l487))
               (k0 (0 : Int) (0 : Int) false l237 l238 l236))))))
          (k0 x1 (0 : Int) true l237 l238 l236))
         (k0 x1 (0 : Int) true l237 l238 l236))
        (k0 x1 (0 : Int) true l237 l238 l236))
       (k0 x1 (0 : Int) true l237 l238 l236))
      (k0 x1 (0 : Int) true l237 l238 l236))
     (k0 x1 (0 : Int) true l237 l238 l236))
    (c1 i235
     (fun i488 => br (decide (x2 = i488))
      (br (!(decide (x0 = (4 : Int))))
       (br (decide (x2 = (1 : Int)))
        (br (!(decide (x0 = (9 : Int))))
         (br (decide (x0 = (10 : Int)))
          (k0 x1 (0 : Int) true l237 l238 l236)
          (br (decide (x0 = (14 : Int)))
           (c0 x1 x2 l236 l237 l238
            (fun i489 i490 b491 l492 l493 l494 => k0 i489 i490 b491 l492 l493 l494))
           (k0 (0 : Int) (0 : Int) false l237 l238 l236)))
         (k0 x1 (0 : Int) true l237 l238 l236))
        (br (decide (x0 = (14 : Int)))
         (c0 x1 x2 l236 l237 l238
          (fun i495 i496 b497 l498 l499 l500 => k0 i495 i496 b497 l498 l499 l500))
         (k0 (0 : Int) (0 : Int) false l237 l238 l236)))
       (k0 x1 (0 : Int) true l237 l238 l236))
      (br (decide (x2 = (1 : Int)))
       (br (!(decide (x0 = (9 : Int))))
        (br (decide (x0 = (10 : Int)))
         (k0 x1 (0 : Int) true l237 l238 l236)
         (br (decide (x0 = (14 : Int)))
          (c0 x1 x2 l236 l237 l238
           (fun i501 i502 b503 l504 l505 l506 => k0 i501 i502 b503 l504 l505 l506))
          (k0 (0 : Int) (0 : Int) false l237 l238 l236)))
        (k0 x1 (0 : Int) true l237 l238 l236))
       (br (decide (x0 = (14 : Int)))
        (c0 x1 x2 l236 l237 l238
         (fun i507 i508 b509 l510 l511 l512 => k0 i507 i508 b509 l510 l511 l512))
        (k0 (0 : Int) (0 : Int) false l237 l238 l236)))))))
noncomputable def term_Arena_equal_2c81_T (N : Nat) (c0 : term_Arena_Two_12d2_Ty) (c1 : term_Arena_Const_2c81_Ty) (c2 : wide_Mask_Ty) (c3 : term_Arena_Width_43b4_Ty) (c4 : term_Arena_Not_43b4_Ty) (c5 : term_Arena_Node_43b4_Ty) {R : Type} (x0 : Int) (x1 : Int) (x2 : List ((Int) × ((Int) × ((Int) × ((Int) × ((Int) × (Int))))))) (x3 : List (((Int) × ((Int) × ((Int) × ((Int) × ((Int) × (Int)))))) × (Int))) (x4 : List ((Int) × (Int))) (k0 : (Int) → (Int) → (Bool) → (List (((Int) × ((Int) × ((Int) × ((Int) × ((Int) × (Int)))))) × (Int))) → (List ((Int) × (Int))) → (List ((Int) × ((Int) × ((Int) × ((Int) × ((Int) × (Int))))))) → Option R) : Option R :=
  c5 x0 x2 x3 x4
  (fun i306 i307 i308 i309 i310 i311 b312 l313 l314 l315 => br (decide (i307 = (1 : Int)))
   (br (decide (x1 = (1 : Int)))
    (k0 x0 (0 : Int) true l314 l315 l313)
    (br (decide (i307 = (1 : Int)))
     (c4 x0 l313 l314 l315
      (fun i316 i317 l318 l319 l320 => k0 i316 i317 true l318 l319 l320))
     (br (decide (i306 = (17 : Int)))
      (c3 i309 l313 l314 l315
       (fun i321 l322 l323 l324 => c2 i321
        (fun i325 => br (decide (i325 < x1))
         (c1 (1 : Int) (0 : Int) l322 l323 l324
          (fun i326 i327 l328 l329 l330 => k0 i326 i327 true l328 l329 l330))
         (br (decide (i306 = (17 : Int)))
          (c3 i309 l322 l323 l324
           (fun i331 l332 l333 l334 => c1 i331 x1 l332 l333 l334
            (fun i335 i336 l337 l338 l339 => br (!(decide (i336 = (0 : Int))))
             (k0 (0 : Int) i336 true l337 l338 l339)
             (c0 (14 : Int) i309 i335 l339 l337 l338
              (fun i340 i341 l342 l343 l344 => k0 i340 i341 true l342 l343 l344)))))
          (k0 (0 : Int) (0 : Int) false l323 l324 l322)))))
      (br (decide (i306 = (17 : Int)))
       (c3 i309 l313 l314 l315
        (fun i345 l346 l347 l348 => c1 i345 x1 l346 l347 l348
         (fun i349 i350 l351 l352 l353 => br (!(decide (i350 = (0 : Int))))
          (k0 (0 : Int) i350 true l351 l352 l353)
          (c0 (14 : Int) i309 i349 l353 l351 l352
           (fun i354 i355 l356 l357 l358 => k0 i354 i355 true l356 l357 l358)))))
       (k0 (0 : Int) (0 : Int) false l314 l315 l313)))))
   (br (decide (i307 = (1 : Int)))
    (c4 x0 l313 l314 l315
     (fun i359 i360 l361 l362 l363 => k0 i359 i360 true l361 l362 l363))
    (br (decide (i306 = (17 : Int)))
     (c3 i309 l313 l314 l315
      (fun i364 l365 l366 l367 => c2 i364
       (fun i368 => br (decide (i368 < x1))
        (c1 (1 : Int) (0 : Int) l365 l366 l367
         (fun i369 i370 l371 l372 l373 => k0 i369 i370 true l371 l372 l373))
        (br (decide (i306 = (17 : Int)))
         (c3 i309 l365 l366 l367
          (fun i374 l375 l376 l377 => c1 i374 x1 l375 l376 l377
           (fun i378 i379 l380 l381 l382 => br (!(decide (i379 = (0 : Int))))
            (k0 (0 : Int) i379 true l380 l381 l382)
            (c0 (14 : Int) i309 i378 l382 l380 l381
             (fun i383 i384 l385 l386 l387 => k0 i383 i384 true l385 l386 l387)))))
         (k0 (0 : Int) (0 : Int) false l366 l367 l365)))))
     (br (decide (i306 = (17 : Int)))
      (c3 i309 l313 l314 l315
       (fun i388 l389 l390 l391 => c1 i388 x1 l389 l390 l391
        (fun i392 i393 l394 l395 l396 => br (!(decide (i393 = (0 : Int))))
         (k0 (0 : Int) i393 true l394 l395 l396)
         (c0 (14 : Int) i309 i392 l396 l394 l395
          (fun i397 i398 l399 l400 l401 => k0 i397 i398 true l399 l400 l401)))))
      (k0 (0 : Int) (0 : Int) false l314 l315 l313)))))
structure G_term_Arena_Two_Rec : Type 1 where
  term_Arena_Two_12d2 : term_Arena_Two_12d2_Ty
  term_Arena_less_12d2 : term_Arena_less_12d2_Ty
  term_Arena_with_7a2f : term_Arena_with_7a2f_Ty
  term_Arena_equal_2c81 : term_Arena_equal_2c81_Ty
noncomputable def G_term_Arena_Two_rec (N : Nat) : Nat → G_term_Arena_Two_Rec
  | 0 => ⟨fun {R} _ _ _ _ _ _ _ => none, fun {R} _ _ _ _ _ _ _ => none, fun {R} _ _ _ _ _ _ _ => none, fun {R} _ _ _ _ _ _ => none⟩
  | n + 1 => ⟨fun {R} x0 x1 x2 x3 x4 x5 k0 => term_Arena_Two_12d2_T N (@term_Arena_keep_a25e N) (@G_term_Arena_Two_Rec.term_Arena_less_12d2 (G_term_Arena_Two_rec N n)) (@term_turns N) (@term_Arena_Const_2c81 N) (@wide_Out N) (@wide_Do N) (@term_Arena_Known_43b4 N) (@term_Arena_Width_43b4 N) (@term_Arena_there_2549 N) (@term_two N) x0 x1 x2 x3 x4 x5 k0,
    fun {R} x0 x1 x2 x3 x4 x5 k0 => term_Arena_less_12d2_T N (@G_term_Arena_Two_Rec.term_Arena_with_7a2f (G_term_Arena_Two_rec N n)) (@term_turns N) (@term_Arena_Known_43b4 N) (@term_Arena_alike_99d8 N) x0 x1 x2 x3 x4 x5 k0,
    fun {R} x0 x1 x2 x3 x4 x5 k0 => term_Arena_with_7a2f_T N (@G_term_Arena_Two_Rec.term_Arena_equal_2c81 (G_term_Arena_Two_rec N n)) (@wide_Mask N) (@term_Arena_Const_2c81 N) (@wide_Out N) (@term_Arena_Width_43b4 N) x0 x1 x2 x3 x4 x5 k0,
    fun {R} x0 x1 x2 x3 x4 k0 => term_Arena_equal_2c81_T N (@G_term_Arena_Two_Rec.term_Arena_Two_12d2 (G_term_Arena_Two_rec N n)) (@term_Arena_Const_2c81 N) (@wide_Mask N) (@term_Arena_Width_43b4 N) (@term_Arena_Not_43b4 N) (@term_Arena_Node_43b4 N) x0 x1 x2 x3 x4 k0⟩
noncomputable def term_Arena_Two_12d2 (N : Nat) {R : Type} (x0 : Int) (x1 : Int) (x2 : Int) (x3 : List ((Int) × ((Int) × ((Int) × ((Int) × ((Int) × (Int))))))) (x4 : List (((Int) × ((Int) × ((Int) × ((Int) × ((Int) × (Int)))))) × (Int))) (x5 : List ((Int) × (Int))) (k0 : (Int) → (Int) → (List (((Int) × ((Int) × ((Int) × ((Int) × ((Int) × (Int)))))) × (Int))) → (List ((Int) × (Int))) → (List ((Int) × ((Int) × ((Int) × ((Int) × ((Int) × (Int))))))) → Option R) : Option R := (G_term_Arena_Two_rec N N).term_Arena_Two_12d2 x0 x1 x2 x3 x4 x5 k0
noncomputable def term_Arena_less_12d2 (N : Nat) {R : Type} (x0 : Int) (x1 : Int) (x2 : Int) (x3 : List ((Int) × ((Int) × ((Int) × ((Int) × ((Int) × (Int))))))) (x4 : List (((Int) × ((Int) × ((Int) × ((Int) × ((Int) × (Int)))))) × (Int))) (x5 : List ((Int) × (Int))) (k0 : (Int) → (Int) → (Bool) → (List (((Int) × ((Int) × ((Int) × ((Int) × ((Int) × (Int)))))) × (Int))) → (List ((Int) × (Int))) → (List ((Int) × ((Int) × ((Int) × ((Int) × ((Int) × (Int))))))) → Option R) : Option R := (G_term_Arena_Two_rec N N).term_Arena_less_12d2 x0 x1 x2 x3 x4 x5 k0
noncomputable def term_Arena_with_7a2f (N : Nat) {R : Type} (x0 : Int) (x1 : Int) (x2 : Int) (x3 : List ((Int) × ((Int) × ((Int) × ((Int) × ((Int) × (Int))))))) (x4 : List (((Int) × ((Int) × ((Int) × ((Int) × ((Int) × (Int)))))) × (Int))) (x5 : List ((Int) × (Int))) (k0 : (Int) → (Int) → (Bool) → (List (((Int) × ((Int) × ((Int) × ((Int) × ((Int) × (Int)))))) × (Int))) → (List ((Int) × (Int))) → (List ((Int) × ((Int) × ((Int) × ((Int) × ((Int) × (Int))))))) → Option R) : Option R := (G_term_Arena_Two_rec N N).term_Arena_with_7a2f x0 x1 x2 x3 x4 x5 k0
noncomputable def term_Arena_equal_2c81 (N : Nat) {R : Type} (x0 : Int) (x1 : Int) (x2 : List ((Int) × ((Int) × ((Int) × ((Int) × ((Int) × (Int))))))) (x3 : List (((Int) × ((Int) × ((Int) × ((Int) × ((Int) × (Int)))))) × (Int))) (x4 : List ((Int) × (Int))) (k0 : (Int) → (Int) → (Bool) → (List (((Int) × ((Int) × ((Int) × ((Int) × ((Int) × (Int)))))) × (Int))) → (List ((Int) × (Int))) → (List ((Int) × ((Int) × ((Int) × ((Int) × ((Int) × (Int))))))) → Option R) : Option R := (G_term_Arena_Two_rec N N).term_Arena_equal_2c81 x0 x1 x2 x3 x4 k0
abbrev term_Arena_Ext_99d8_Ty : Type 1 := {R : Type} → (Int) → (Int) → (List ((Int) × ((Int) × ((Int) × ((Int) × ((Int) × (Int))))))) → (List (((Int) × ((Int) × ((Int) × ((Int) × ((Int) × (Int)))))) × (Int))) → (List ((Int) × (Int))) → ((Int) → (Int) → (List (((Int) × ((Int) × ((Int) × ((Int) × ((Int) × (Int)))))) × (Int))) → (List ((Int) × (Int))) → (List ((Int) × ((Int) × ((Int) × ((Int) × ((Int) × (Int))))))) → Option R) → Option R
noncomputable def term_Arena_Ext_99d8_T (N : Nat) (c0 : term_Arena_keep_a25e_Ty) (c1 : term_Arena_Ext_99d8_Ty) (c2 : term_Arena_Const_2c81_Ty) (c3 : wide_May_Ty) (c4 : term_Arena_Node_43b4_Ty) {R : Type} (x0 : Int) (x1 : Int) (x2 : List ((Int) × ((Int) × ((Int) × ((Int) × ((Int) × (Int))))))) (x3 : List (((Int) × ((Int) × ((Int) × ((Int) × ((Int) × (Int)))))) × (Int))) (x4 : List ((Int) × (Int))) (k0 : (Int) → (Int) → (List (((Int) × ((Int) × ((Int) × ((Int) × ((Int) × (Int)))))) × (Int))) → (List ((Int) × (Int))) → (List ((Int) × ((Int) × ((Int) × ((Int) × ((Int) × (Int))))))) → Option R) : Option R :=
  c4 x1 x2 x3 x4
  (fun i831 i832 i833 i834 i835 i836 b837 l838 l839 l840 => br (!b837)
   (k0 (0 : Int) (1 : Int) l839 l840 l838)
   (c3 x0
    (fun b841 => br (!(!b841))
     (br (decide (x0 < i832))
      (k0 (0 : Int) (2 : Int) l839 l840 l838)
      (br (decide (x0 = i832))
       (k0 x1 (0 : Int) l839 l840 l838)
       (br (decide (i831 = (1 : Int)))
        (c2 x0 i833 l838 l839 l840
         (fun i842 i843 l844 l845 l846 => k0 i842 i843 l844 l845 l846))
        (br (decide (i831 = (17 : Int)))
         (c1 x0 i834 l838 l839 l840
          (fun i847 i848 l849 l850 l851 => k0 i847 i848 l849 l850 l851))
         (c0 (17 : Int) x0 (0 : Int) x1 (0 : Int) (0 : Int) l838 l839 l840
          (fun i852 i853 l854 l855 l856 => k0 i852 i853 l854 l855 l856))))))
     (k0 (0 : Int) (2 : Int) l839 l840 l838))))
structure G_term_Arena_Ext_Rec : Type 1 where
  term_Arena_Ext_99d8 : term_Arena_Ext_99d8_Ty
noncomputable def G_term_Arena_Ext_rec (N : Nat) : Nat → G_term_Arena_Ext_Rec
  | 0 => ⟨fun {R} _ _ _ _ _ _ => none⟩
  | n + 1 => ⟨fun {R} x0 x1 x2 x3 x4 k0 => term_Arena_Ext_99d8_T N (@term_Arena_keep_a25e N) (@G_term_Arena_Ext_Rec.term_Arena_Ext_99d8 (G_term_Arena_Ext_rec N n)) (@term_Arena_Const_2c81 N) (@wide_May N) (@term_Arena_Node_43b4 N) x0 x1 x2 x3 x4 k0⟩
noncomputable def term_Arena_Ext_99d8 (N : Nat) {R : Type} (x0 : Int) (x1 : Int) (x2 : List ((Int) × ((Int) × ((Int) × ((Int) × ((Int) × (Int))))))) (x3 : List (((Int) × ((Int) × ((Int) × ((Int) × ((Int) × (Int)))))) × (Int))) (x4 : List ((Int) × (Int))) (k0 : (Int) → (Int) → (List (((Int) × ((Int) × ((Int) × ((Int) × ((Int) × (Int)))))) × (Int))) → (List ((Int) × (Int))) → (List ((Int) × ((Int) × ((Int) × ((Int) × ((Int) × (Int))))))) → Option R) : Option R := (G_term_Arena_Ext_rec N N).term_Arena_Ext_99d8 x0 x1 x2 x3 x4 k0
abbrev term_Arena_Cut_99d8_Ty : Type 1 := {R : Type} → (Int) → (Int) → (List ((Int) × ((Int) × ((Int) × ((Int) × ((Int) × (Int))))))) → (List (((Int) × ((Int) × ((Int) × ((Int) × ((Int) × (Int)))))) × (Int))) → (List ((Int) × (Int))) → ((Int) → (Int) → (List (((Int) × ((Int) × ((Int) × ((Int) × ((Int) × (Int)))))) × (Int))) → (List ((Int) × (Int))) → (List ((Int) × ((Int) × ((Int) × ((Int) × ((Int) × (Int))))))) → Option R) → Option R
noncomputable def term_Arena_Cut_99d8_T (N : Nat) (c0 : term_Arena_keep_a25e_Ty) (c1 : term_Arena_Ext_99d8_Ty) (c2 : term_Arena_Width_43b4_Ty) (c3 : term_Arena_Cut_99d8_Ty) (c4 : term_Arena_Const_2c81_Ty) (c5 : wide_May_Ty) (c6 : term_Arena_Node_43b4_Ty) {R : Type} (x0 : Int) (x1 : Int) (x2 : List ((Int) × ((Int) × ((Int) × ((Int) × ((Int) × (Int))))))) (x3 : List (((Int) × ((Int) × ((Int) × ((Int) × ((Int) × (Int)))))) × (Int))) (x4 : List ((Int) × (Int))) (k0 : (Int) → (Int) → (List (((Int) × ((Int) × ((Int) × ((Int) × ((Int) × (Int)))))) × (Int))) → (List ((Int) × (Int))) → (List ((Int) × ((Int) × ((Int) × ((Int) × ((Int) × (Int))))))) → Option R) : Option R :=
  c6 x1 x2 x3 x4
  (fun i878 i879 i880 i881 i882 i883 b884 l885 l886 l887 => br (!b884)
   (k0 (0 : Int) (1 : Int) l886 l887 l885)
   (c5 x0
    (fun b888 => br (!(!b888))
     (br (decide (i879 < x0))
      (k0 (0 : Int) (2 : Int) l886 l887 l885)
      (br (decide (x0 = i879))
       (k0 x1 (0 : Int) l886 l887 l885)
       (br (decide (i878 = (1 : Int)))
        (c4 x0 i880 l885 l886 l887
         (fun i889 i890 l891 l892 l893 => k0 i889 i890 l891 l892 l893))
        (br (decide (i878 = (18 : Int)))
         (c3 x0 i881 l885 l886 l887
          (fun i894 i895 l896 l897 l898 => k0 i894 i895 l896 l897 l898))
         (br (decide (i878 = (17 : Int)))
          (c2 i881 l885 l886 l887
           (fun i899 l900 l901 l902 => br (decide (x0 ≤ i899))
            (c3 x0 i881 l900 l901 l902
             (fun i903 i904 l905 l906 l907 => k0 i903 i904 l905 l906 l907))
            (br (decide (i878 = (17 : Int)))
             (c1 x0 i881 l900 l901 l902
              (fun i908 i909 l910 l911 l912 => k0 i908 i909 l910 l911 l912))
             (c0 (18 : Int) x0 (0 : Int) x1 (0 : Int) (0 : Int) l900 l901 l902
              (fun i913 i914 l915 l916 l917 => k0 i913 i914 l915 l916 l917)))))
          (br (decide (i878 = (17 : Int)))
           (c1 x0 i881 l885 l886 l887
            (fun i918 i919 l920 l921 l922 => k0 i918 i919 l920 l921 l922))
           (c0 (18 : Int) x0 (0 : Int) x1 (0 : Int) (0 : Int) l885 l886 l887
            (fun i923 i924 l925 l926 l927 => k0 i923 i924 l925 l926 l927))))))))
     (k0 (0 : Int) (2 : Int) l886 l887 l885))))
structure G_term_Arena_Cut_Rec : Type 1 where
  term_Arena_Cut_99d8 : term_Arena_Cut_99d8_Ty
noncomputable def G_term_Arena_Cut_rec (N : Nat) : Nat → G_term_Arena_Cut_Rec
  | 0 => ⟨fun {R} _ _ _ _ _ _ => none⟩
  | n + 1 => ⟨fun {R} x0 x1 x2 x3 x4 k0 => term_Arena_Cut_99d8_T N (@term_Arena_keep_a25e N) (@term_Arena_Ext_99d8 N) (@term_Arena_Width_43b4 N) (@G_term_Arena_Cut_Rec.term_Arena_Cut_99d8 (G_term_Arena_Cut_rec N n)) (@term_Arena_Const_2c81 N) (@wide_May N) (@term_Arena_Node_43b4 N) x0 x1 x2 x3 x4 k0⟩
noncomputable def term_Arena_Cut_99d8 (N : Nat) {R : Type} (x0 : Int) (x1 : Int) (x2 : List ((Int) × ((Int) × ((Int) × ((Int) × ((Int) × (Int))))))) (x3 : List (((Int) × ((Int) × ((Int) × ((Int) × ((Int) × (Int)))))) × (Int))) (x4 : List ((Int) × (Int))) (k0 : (Int) → (Int) → (List (((Int) × ((Int) × ((Int) × ((Int) × ((Int) × (Int)))))) × (Int))) → (List ((Int) × (Int))) → (List ((Int) × ((Int) × ((Int) × ((Int) × ((Int) × (Int))))))) → Option R) : Option R := (G_term_Arena_Cut_rec N N).term_Arena_Cut_99d8 x0 x1 x2 x3 x4 k0
abbrev fix_again_2907_Ty : Type 1 := {R : Type} → (Int) → (Int) → (Int) → (Int) → (Int) → (Int) → (Int) → (Int) → (Int) → (Int) → (List ((Int) × ((Int) × ((Int) × ((Int) × ((Int) × (Int))))))) → (List (((Int) × ((Int) × ((Int) × ((Int) × ((Int) × (Int)))))) × (Int))) → (List ((Int) × (Int))) → ((Int) → (Int) → (List (((Int) × ((Int) × ((Int) × ((Int) × ((Int) × (Int)))))) × (Int))) → (List ((Int) × (Int))) → (List ((Int) × ((Int) × ((Int) × ((Int) × ((Int) × (Int))))))) → Option R) → Option R
noncomputable def fix_again_2907_T (N : Nat) (c0 : term_Arena_Two_12d2_Ty) (c1 : term_Arena_Cut_99d8_Ty) (c2 : term_Arena_Ext_99d8_Ty) (c3 : term_Arena_Ite_12d2_Ty) (c4 : term_Arena_Not_43b4_Ty) {R : Type} (x0 : Int) (x1 : Int) (x2 : Int) (x3 : Int) (x4 : Int) (x5 : Int) (x6 : Int) (x7 : Int) (x8 : Int) (x9 : Int) (x10 : List ((Int) × ((Int) × ((Int) × ((Int) × ((Int) × (Int))))))) (x11 : List (((Int) × ((Int) × ((Int) × ((Int) × ((Int) × (Int)))))) × (Int))) (x12 : List ((Int) × (Int))) (k0 : (Int) → (Int) → (List (((Int) × ((Int) × ((Int) × ((Int) × ((Int) × (Int)))))) × (Int))) → (List ((Int) × (Int))) → (List ((Int) × ((Int) × ((Int) × ((Int) × ((Int) × (Int))))))) → Option R) : Option R :=
  br (decide (x1 = (1 : Int)))
  (k0 x0 (0 : Int) x11 x12 x10)
  (br (decide (x1 = (2 : Int)))
   (k0 x0 (0 : Int) x11 x12 x10)
   (br (decide (x1 = (3 : Int)))
    (c4 x7 x10 x11 x12
     (fun i734 i735 l736 l737 l738 => k0 i734 i735 l736 l737 l738))
    (br (decide (x1 = (16 : Int)))
     (c3 x7 x8 x9 x10 x11 x12
      (fun i810 i811 l812 l813 l814 => k0 i810 i811 l812 l813 l814))
     (br (decide (x1 = (17 : Int)))
      (c2 x2 x7 x10 x11 x12
       (fun i857 i858 l859 l860 l861 => k0 i857 i858 l859 l860 l861))
      (br (decide (x1 = (18 : Int)))
       (c1 x2 x7 x10 x11 x12
        (fun i928 i929 l930 l931 l932 => k0 i928 i929 l930 l931 l932))
       (c0 x1 x7 x8 x10 x11 x12
        (fun i933 i934 l935 l936 l937 => k0 i933 i934 l935 l936 l937)))))))
noncomputable def fix_again_2907 (N : Nat) {R : Type} (x0 : Int) (x1 : Int) (x2 : Int) (x3 : Int) (x4 : Int) (x5 : Int) (x6 : Int) (x7 : Int) (x8 : Int) (x9 : Int) (x10 : List ((Int) × ((Int) × ((Int) × ((Int) × ((Int) × (Int))))))) (x11 : List (((Int) × ((Int) × ((Int) × ((Int) × ((Int) × (Int)))))) × (Int))) (x12 : List ((Int) × (Int))) (k0 : (Int) → (Int) → (List (((Int) × ((Int) × ((Int) × ((Int) × ((Int) × (Int)))))) × (Int))) → (List ((Int) × (Int))) → (List ((Int) × ((Int) × ((Int) × ((Int) × ((Int) × (Int))))))) → Option R) : Option R := fix_again_2907_T N (@term_Arena_Two_12d2 N) (@term_Arena_Cut_99d8 N) (@term_Arena_Ext_99d8 N) (@term_Arena_Ite_12d2 N) (@term_Arena_Not_43b4 N) x0 x1 x2 x3 x4 x5 x6 x7 x8 x9 x10 x11 x12 k0
abbrev fix_Some_390e_l0_Ty : Type 1 := {R : Type} → ((Int) → (Int) → (Int) → (List (((Int) × ((Int) × ((Int) × ((Int) × ((Int) × (Int)))))) × (Int))) → (List ((Int) × (Int))) → (List (Int)) → (List (Int)) → (List ((Int) × ((Int) × ((Int) × ((Int) × ((Int) × (Int))))))) → (List (Int)) → Option R) → ((Int) → (List (((Int) × ((Int) × ((Int) × ((Int) × ((Int) × (Int)))))) × (Int))) → (List ((Int) × (Int))) → (List (Int)) → (List (Int)) → (List ((Int) × ((Int) × ((Int) × ((Int) × ((Int) × (Int))))))) → (List (Int)) → Option R) → Nat → (Int) → (Int) → (Int) → (List (((Int) × ((Int) × ((Int) × ((Int) × ((Int) × (Int)))))) × (Int))) → (List ((Int) × (Int))) → (List (Int)) → (List (Int)) → (List ((Int) × ((Int) × ((Int) × ((Int) × ((Int) × (Int))))))) → (List (Int)) → (List (Int)) → Option R
abbrev fix_Some_390e_Ty : Type 1 := {R : Type} → (Int) → (List ((Int) × ((Int) × ((Int) × ((Int) × ((Int) × (Int))))))) → (List (((Int) × ((Int) × ((Int) × ((Int) × ((Int) × (Int)))))) × (Int))) → (List ((Int) × (Int))) → (List (Int)) → (List (Int)) → ((Int) → (Int) → (List (((Int) × ((Int) × ((Int) × ((Int) × ((Int) × (Int)))))) × (Int))) → (List ((Int) × (Int))) → (List (Int)) → (List (Int)) → (List ((Int) × ((Int) × ((Int) × ((Int) × ((Int) × (Int))))))) → Option R) → Option R
noncomputable def fix_Some_390e_l0_T0 (N : Nat) (c0 : term_Arena_Const_2c81_Ty) (c1 : slices_Index__int_int_310e_Ty) (c2 : slices_Index__int_int_Ty) (c3 : fix_again_2907_Ty) (c4 : term_Arena_Under_2549_Ty) (c5 : term_Arena_Node_43b4_Ty) {R : Type} (nx : (Int) → (Int) → (Int) → (List (((Int) × ((Int) × ((Int) × ((Int) × ((Int) × (Int)))))) × (Int))) → (List ((Int) × (Int))) → (List (Int)) → (List (Int)) → (List ((Int) × ((Int) × ((Int) × ((Int) × ((Int) × (Int))))))) → (List (Int)) → (List (Int)) → Option R) (k0 : (Int) → (Int) → (Int) → (List (((Int) × ((Int) × ((Int) × ((Int) × ((Int) × (Int)))))) × (Int))) → (List ((Int) × (Int))) → (List (Int)) → (List (Int)) → (List ((Int) × ((Int) × ((Int) × ((Int) × ((Int) × (Int))))))) → (List (Int)) → Option R) (k1 : (Int) → (List (((Int) × ((Int) × ((Int) × ((Int) × ((Int) × (Int)))))) × (Int))) → (List ((Int) × (Int))) → (List (Int)) → (List (Int)) → (List ((Int) × ((Int) × ((Int) × ((Int) × ((Int) × (Int))))))) → (List (Int)) → Option R) (x0 : Int) (x1 : Int) (x2 : Int) (x3 : List (((Int) × ((Int) × ((Int) × ((Int) × ((Int) × (Int)))))) × (Int))) (x4 : List ((Int) × (Int))) (x5 : List (Int)) (x6 : List (Int)) (x7 : List ((Int) × ((Int) × ((Int) × ((Int) × ((Int) × (Int))))))) (x8 : List (Int)) (x9 : List (Int)) : Option R :=
  br (decide (x2 < x1))
  (br (inB x2 (List.length x9))
   (br (decide ((Int.toNat x2) < (List.length x9)))
    (c5 (List.getD x9 (Int.toNat x2) (0 : Int)) x7 x3 x4
     (fun i1014 i1015 i1016 i1017 i1018 i1019 b1020 l1021 l1022 l1023 => br (inB i1017 (List.length x8))
      (br (decide ((Int.toNat i1017) < (List.length x8)))
       (br (inB i1018 (List.length x8))
        (br (decide ((Int.toNat i1018) < (List.length x8)))
         (br (inB i1019 (List.length x8))
          (br (decide ((Int.toNat i1019) < (List.length x8)))
           (c3 (List.getD x9 (Int.toNat x2) (0 : Int)) i1014 i1015 i1016 i1017 i1018 i1019 (List.getD x8 (Int.toNat i1017) (0 : Int)) (List.getD x8 (Int.toNat i1018) (0 : Int)) (List.getD x8 (Int.toNat i1019) (0 : Int)) l1021 l1022 l1023
            (fun i1024 i1025 l1026 l1027 l1028 => c1 (IntKind.wrap .i64 i1016) x5
             (fun i1029 l1030 => br (decide (i1014 = (2 : Int)))
              (br (decide ((0 : Int) ≤ i1029))
               (br (inB i1029 (List.length x6))
                (br (decide ((Int.toNat i1029) < (List.length x6)))
                 (c0 i1015 (List.getD x6 (Int.toNat i1029) (0 : Int)) l1028 l1026 l1027
                  (fun i1031 i1032 l1033 l1034 l1035 => br (!(decide (i1032 = (0 : Int))))
                   (k0 x0 (0 : Int) i1032 l1033 l1034 l1030 x6 l1035 x8)
                   (br (inB (List.getD x9 (Int.toNat x2) (0 : Int)) (List.length x8))
                    (br (decide ((Int.toNat (List.getD x9 (Int.toNat x2) (0 : Int))) < (List.length x8)))
                     (nx x0 x1 (IntKind.wrap .i64 (x2 + (1 : Int))) l1033 l1034 l1030 x6 l1035 (List.set x8 (Int.toNat (List.getD x9 (Int.toNat x2) (0 : Int))) i1031) x9)
                     (none))
                    (none))))
                 (none))
                (none))
               (br (!(decide (i1025 = (0 : Int))))
                (k0 x0 (0 : Int) i1025 l1026 l1027 l1030 x6 l1028 x8)
                (br (inB (List.getD x9 (Int.toNat x2) (0 : Int)) (List.length x8))
                 (br (decide ((Int.toNat (List.getD x9 (Int.toNat x2) (0 : Int))) < (List.length x8)))
                  (nx x0 x1 (IntKind.wrap .i64 (x2 + (1 : Int))) l1026 l1027 l1030 x6 l1028 (List.set x8 (Int.toNat (List.getD x9 (Int.toNat x2) (0 : Int))) i1024) x9)
                  (none))
                 (none))))
              (br (!(decide (i1025 = (0 : Int))))
               (k0 x0 (0 : Int) i1025 l1026 l1027 l1030 x6 l1028 x8)
               (br (inB (List.getD x9 (Int.toNat x2) (0 : Int)) (List.length x8))
                (br (decide ((Int.toNat (List.getD x9 (Int.toNat x2) (0 : Int))) < (List.length x8)))
                 (nx x0 x1 (IntKind.wrap .i64 (x2 + (1 : Int))) l1026 l1027 l1030 x6 l1028 (List.set x8 (Int.toNat (List.getD x9 (Int.toNat x2) (0 : Int))) i1024) x9)
                 (none))
                (none))))))
           (none))
          (none))
         (none))
        (none))
       (none))
      (none)))
    (none))
   (none))
  (k1 x0 x3 x4 x5 x6 x7 x8)
noncomputable def fix_Some_390e_l0 (N : Nat) {R : Type} (k0 : (Int) → (Int) → (Int) → (List (((Int) × ((Int) × ((Int) × ((Int) × ((Int) × (Int)))))) × (Int))) → (List ((Int) × (Int))) → (List (Int)) → (List (Int)) → (List ((Int) × ((Int) × ((Int) × ((Int) × ((Int) × (Int))))))) → (List (Int)) → Option R) (k1 : (Int) → (List (((Int) × ((Int) × ((Int) × ((Int) × ((Int) × (Int)))))) × (Int))) → (List ((Int) × (Int))) → (List (Int)) → (List (Int)) → (List ((Int) × ((Int) × ((Int) × ((Int) × ((Int) × (Int))))))) → (List (Int)) → Option R) : Nat → (Int) → (Int) → (Int) → (List (((Int) × ((Int) × ((Int) × ((Int) × ((Int) × (Int)))))) × (Int))) → (List ((Int) × (Int))) → (List (Int)) → (List (Int)) → (List ((Int) × ((Int) × ((Int) × ((Int) × ((Int) × (Int))))))) → (List (Int)) → (List (Int)) → Option R
  | 0, _, _, _, _, _, _, _, _, _, _ => none
  | n + 1, x0, x1, x2, x3, x4, x5, x6, x7, x8, x9 => fix_Some_390e_l0_T0 N (@term_Arena_Const_2c81 N) (@slices_Index__int_int_310e N) (@slices_Index__int_int N) (@fix_again_2907 N) (@term_Arena_Under_2549 N) (@term_Arena_Node_43b4 N) (fun x0 x1 x2 x3 x4 x5 x6 x7 x8 x9 => fix_Some_390e_l0 N k0 k1 n x0 x1 x2 x3 x4 x5 x6 x7 x8 x9) k0 k1 x0 x1 x2 x3 x4 x5 x6 x7 x8 x9
noncomputable def fix_Some_390e_T (N : Nat) (c0 : term_Arena_Const_2c81_Ty) (c1 : slices_Index__int_int_310e_Ty) (c2 : slices_Index__int_int_Ty) (c3 : fix_again_2907_Ty) (c4 : term_Arena_Under_2549_Ty) (c5 : term_Arena_Node_43b4_Ty) (w0 : fix_Some_390e_l0_Ty) {R : Type} (x0 : Int) (x1 : List ((Int) × ((Int) × ((Int) × ((Int) × ((Int) × (Int))))))) (x2 : List (((Int) × ((Int) × ((Int) × ((Int) × ((Int) × (Int)))))) × (Int))) (x3 : List ((Int) × (Int))) (x4 : List (Int)) (x5 : List (Int)) (k0 : (Int) → (Int) → (List (((Int) × ((Int) × ((Int) × ((Int) × ((Int) × (Int)))))) × (Int))) → (List ((Int) × (Int))) → (List (Int)) → (List (Int)) → (List ((Int) × ((Int) × ((Int) × ((Int) × ((Int) × (Int))))))) → Option R) : Option R :=
  c5 x0 x1 x2 x3
  (fun i999 i1000 i1001 i1002 i1003 i1004 b1005 l1006 l1007 l1008 => br (!(!b1005))
   (br (!(decide ((Nat.cast (List.length x4) : Int) = (Nat.cast (List.length x5) : Int))))
    (k0 (0 : Int) (1 : Int) l1007 l1008 x4 x5 l1006)
    (br ((((decide ((0 : Int) ≤ (IntKind.wrap .i64 (x0 + (1 : Int))))) && (decide ((IntKind.wrap .i64 (x0 + (1 : Int))) ≤ (IntKind.wrap .i64 (x0 + (1 : Int)))))) && (decide (((IntKind.wrap .i64 (x0 + (1 : Int))) * (8 : Int)) ≤ ((2 : Int) ^ (46 : Nat))))) && true)
     (c4 l1006 l1007 l1008 (x0 :: ([] : List ((Sh.int IntKind.i64).T)))
      (fun l1009 l1010 l1011 l1012 l1013 => w0
       (fun i1036 i1037 i1038 l1039 l1040 l1041 l1042 l1043 l1044 => k0 i1037 i1038 l1039 l1040 l1041 l1042 l1043)
       (fun i1045 l1046 l1047 l1048 l1049 l1050 l1051 => br (inB i1045 (List.length l1051))
        (br (decide ((Int.toNat i1045) < (List.length l1051)))
         (k0 (List.getD l1051 (Int.toNat i1045) (0 : Int)) (0 : Int) l1046 l1047 l1048 l1049 l1050)
         (none))
        (none))
       N x0 (Nat.cast (List.length l1013) : Int) (0 : Int) l1010 l1011 x4 x5 l1009 (List.replicate (Int.toNat (IntKind.wrap .i64 (x0 + (1 : Int)))) (0 : Int)) l1013))
     (none)))
   (k0 (0 : Int) (1 : Int) l1007 l1008 x4 x5 l1006))
noncomputable def fix_Some_390e (N : Nat) {R : Type} (x0 : Int) (x1 : List ((Int) × ((Int) × ((Int) × ((Int) × ((Int) × (Int))))))) (x2 : List (((Int) × ((Int) × ((Int) × ((Int) × ((Int) × (Int)))))) × (Int))) (x3 : List ((Int) × (Int))) (x4 : List (Int)) (x5 : List (Int)) (k0 : (Int) → (Int) → (List (((Int) × ((Int) × ((Int) × ((Int) × ((Int) × (Int)))))) × (Int))) → (List ((Int) × (Int))) → (List (Int)) → (List (Int)) → (List ((Int) × ((Int) × ((Int) × ((Int) × ((Int) × (Int))))))) → Option R) : Option R := fix_Some_390e_T N (@term_Arena_Const_2c81 N) (@slices_Index__int_int_310e N) (@slices_Index__int_int N) (@fix_again_2907 N) (@term_Arena_Under_2549 N) (@term_Arena_Node_43b4 N) (@fix_Some_390e_l0 N) x0 x1 x2 x3 x4 x5 k0
abbrev fix_Some_f6db_l0_Ty : Type 1 := {R : Type} → ((Int) → (Int) → (Int) → (List (((Int) × ((Int) × ((Int) × ((Int) × ((Int) × (Int)))))) × (Int))) → (List ((Int) × (Int))) → (List ((Int) × ((Int) × ((Int) × ((Int) × ((Int) × (Int))))))) → (List (Int)) → Option R) → ((Int) → (List (((Int) × ((Int) × ((Int) × ((Int) × ((Int) × (Int)))))) × (Int))) → (List ((Int) × (Int))) → (List ((Int) × ((Int) × ((Int) × ((Int) × ((Int) × (Int))))))) → (List (Int)) → Option R) → Nat → (Int) → (List (Int)) → (List (Int)) → (Int) → (Int) → (List (((Int) × ((Int) × ((Int) × ((Int) × ((Int) × (Int)))))) × (Int))) → (List ((Int) × (Int))) → (List ((Int) × ((Int) × ((Int) × ((Int) × ((Int) × (Int))))))) → (List (Int)) → (List (Int)) → Option R
abbrev fix_Some_f6db_Ty : Type 1 := {R : Type} → (Int) → (List (Int)) → (List (Int)) → (List ((Int) × ((Int) × ((Int) × ((Int) × ((Int) × (Int))))))) → (List (((Int) × ((Int) × ((Int) × ((Int) × ((Int) × (Int)))))) × (Int))) → (List ((Int) × (Int))) → ((Int) → (Int) → (List (((Int) × ((Int) × ((Int) × ((Int) × ((Int) × (Int)))))) × (Int))) → (List ((Int) × (Int))) → (List ((Int) × ((Int) × ((Int) × ((Int) × ((Int) × (Int))))))) → Option R) → Option R
noncomputable def fix_Some_f6db_l0_T0 (N : Nat) (c0 : term_Arena_Const_2c81_Ty) (c1 : slices_Index__int_int_310e_Ty) (c2 : slices_Index__int_int_Ty) (c3 : fix_again_2907_Ty) (c4 : term_Arena_Under_2549_Ty) (c5 : term_Arena_Node_43b4_Ty) {R : Type} (nx : (Int) → (List (Int)) → (List (Int)) → (Int) → (Int) → (List (((Int) × ((Int) × ((Int) × ((Int) × ((Int) × (Int)))))) × (Int))) → (List ((Int) × (Int))) → (List ((Int) × ((Int) × ((Int) × ((Int) × ((Int) × (Int))))))) → (List (Int)) → (List (Int)) → Option R) (k0 : (Int) → (Int) → (Int) → (List (((Int) × ((Int) × ((Int) × ((Int) × ((Int) × (Int)))))) × (Int))) → (List ((Int) × (Int))) → (List ((Int) × ((Int) × ((Int) × ((Int) × ((Int) × (Int))))))) → (List (Int)) → Option R) (k1 : (Int) → (List (((Int) × ((Int) × ((Int) × ((Int) × ((Int) × (Int)))))) × (Int))) → (List ((Int) × (Int))) → (List ((Int) × ((Int) × ((Int) × ((Int) × ((Int) × (Int))))))) → (List (Int)) → Option R) (x0 : Int) (x1 : List (Int)) (x2 : List (Int)) (x3 : Int) (x4 : Int) (x5 : List (((Int) × ((Int) × ((Int) × ((Int) × ((Int) × (Int)))))) × (Int))) (x6 : List ((Int) × (Int))) (x7 : List ((Int) × ((Int) × ((Int) × ((Int) × ((Int) × (Int))))))) (x8 : List (Int)) (x9 : List (Int)) : Option R :=
  br (decide (x4 < x3))
  (br (inB x4 (List.length x9))
   (br (decide ((Int.toNat x4) < (List.length x9)))
    (c5 (List.getD x9 (Int.toNat x4) (0 : Int)) x7 x5 x6
     (fun i3790 i3791 i3792 i3793 i3794 i3795 b3796 l3797 l3798 l3799 => br (inB i3793 (List.length x8))
      (br (decide ((Int.toNat i3793) < (List.length x8)))
       (br (inB i3794 (List.length x8))
        (br (decide ((Int.toNat i3794) < (List.length x8)))
         (br (inB i3795 (List.length x8))
          (br (decide ((Int.toNat i3795) < (List.length x8)))
           (c3 (List.getD x9 (Int.toNat x4) (0 : Int)) i3790 i3791 i3792 i3793 i3794 i3795 (List.getD x8 (Int.toNat i3793) (0 : Int)) (List.getD x8 (Int.toNat i3794) (0 : Int)) (List.getD x8 (Int.toNat i3795) (0 : Int)) l3797 l3798 l3799
            (fun i3800 i3801 l3802 l3803 l3804 => c2 x1 (IntKind.wrap .i64 i3792)
             (fun i3805 => br (decide (i3790 = (2 : Int)))
              (br (decide ((0 : Int) ≤ i3805))
               (br (inB i3805 (List.length x2))
                (c0 i3791 (List.getD x2 (Int.toNat i3805) (0 : Int)) l3804 l3802 l3803
                 (fun i3806 i3807 l3808 l3809 l3810 => br (!(decide (i3807 = (0 : Int))))
                  (k0 x0 (0 : Int) i3807 l3808 l3809 l3810 x8)
                  (br (inB (List.getD x9 (Int.toNat x4) (0 : Int)) (List.length x8))
                   (br (decide ((Int.toNat (List.getD x9 (Int.toNat x4) (0 : Int))) < (List.length x8)))
                    (nx x0 x1 x2 x3 (IntKind.wrap .i64 (x4 + (1 : Int))) l3808 l3809 l3810 (List.set x8 (Int.toNat (List.getD x9 (Int.toNat x4) (0 : Int))) i3806) x9)
                    (none))
                   (none))))
                (none))
               (br (!(decide (i3801 = (0 : Int))))
                (k0 x0 (0 : Int) i3801 l3802 l3803 l3804 x8)
                (br (inB (List.getD x9 (Int.toNat x4) (0 : Int)) (List.length x8))
                 (br (decide ((Int.toNat (List.getD x9 (Int.toNat x4) (0 : Int))) < (List.length x8)))
                  (nx x0 x1 x2 x3 (IntKind.wrap .i64 (x4 + (1 : Int))) l3802 l3803 l3804 (List.set x8 (Int.toNat (List.getD x9 (Int.toNat x4) (0 : Int))) i3800) x9)
                  (none))
                 (none))))
              (br (!(decide (i3801 = (0 : Int))))
               (k0 x0 (0 : Int) i3801 l3802 l3803 l3804 x8)
               (br (inB (List.getD x9 (Int.toNat x4) (0 : Int)) (List.length x8))
                (br (decide ((Int.toNat (List.getD x9 (Int.toNat x4) (0 : Int))) < (List.length x8)))
                 (nx x0 x1 x2 x3 (IntKind.wrap .i64 (x4 + (1 : Int))) l3802 l3803 l3804 (List.set x8 (Int.toNat (List.getD x9 (Int.toNat x4) (0 : Int))) i3800) x9)
                 (none))
                (none))))))
           (none))
          (none))
         (none))
        (none))
       (none))
      (none)))
    (none))
   (none))
  (k1 x0 x5 x6 x7 x8)
noncomputable def fix_Some_f6db_l0 (N : Nat) {R : Type} (k0 : (Int) → (Int) → (Int) → (List (((Int) × ((Int) × ((Int) × ((Int) × ((Int) × (Int)))))) × (Int))) → (List ((Int) × (Int))) → (List ((Int) × ((Int) × ((Int) × ((Int) × ((Int) × (Int))))))) → (List (Int)) → Option R) (k1 : (Int) → (List (((Int) × ((Int) × ((Int) × ((Int) × ((Int) × (Int)))))) × (Int))) → (List ((Int) × (Int))) → (List ((Int) × ((Int) × ((Int) × ((Int) × ((Int) × (Int))))))) → (List (Int)) → Option R) : Nat → (Int) → (List (Int)) → (List (Int)) → (Int) → (Int) → (List (((Int) × ((Int) × ((Int) × ((Int) × ((Int) × (Int)))))) × (Int))) → (List ((Int) × (Int))) → (List ((Int) × ((Int) × ((Int) × ((Int) × ((Int) × (Int))))))) → (List (Int)) → (List (Int)) → Option R
  | 0, _, _, _, _, _, _, _, _, _, _ => none
  | n + 1, x0, x1, x2, x3, x4, x5, x6, x7, x8, x9 => fix_Some_f6db_l0_T0 N (@term_Arena_Const_2c81 N) (@slices_Index__int_int_310e N) (@slices_Index__int_int N) (@fix_again_2907 N) (@term_Arena_Under_2549 N) (@term_Arena_Node_43b4 N) (fun x0 x1 x2 x3 x4 x5 x6 x7 x8 x9 => fix_Some_f6db_l0 N k0 k1 n x0 x1 x2 x3 x4 x5 x6 x7 x8 x9) k0 k1 x0 x1 x2 x3 x4 x5 x6 x7 x8 x9
noncomputable def fix_Some_f6db_T (N : Nat) (c0 : term_Arena_Const_2c81_Ty) (c1 : slices_Index__int_int_310e_Ty) (c2 : slices_Index__int_int_Ty) (c3 : fix_again_2907_Ty) (c4 : term_Arena_Under_2549_Ty) (c5 : term_Arena_Node_43b4_Ty) (w0 : fix_Some_f6db_l0_Ty) {R : Type} (x0 : Int) (x1 : List (Int)) (x2 : List (Int)) (x3 : List ((Int) × ((Int) × ((Int) × ((Int) × ((Int) × (Int))))))) (x4 : List (((Int) × ((Int) × ((Int) × ((Int) × ((Int) × (Int)))))) × (Int))) (x5 : List ((Int) × (Int))) (k0 : (Int) → (Int) → (List (((Int) × ((Int) × ((Int) × ((Int) × ((Int) × (Int)))))) × (Int))) → (List ((Int) × (Int))) → (List ((Int) × ((Int) × ((Int) × ((Int) × ((Int) × (Int))))))) → Option R) : Option R :=
  c5 x0 x3 x4 x5
  (fun i3775 i3776 i3777 i3778 i3779 i3780 b3781 l3782 l3783 l3784 => br (!(!b3781))
   (br (!(decide ((Nat.cast (List.length x1) : Int) = (Nat.cast (List.length x2) : Int))))
    (k0 (0 : Int) (1 : Int) l3783 l3784 l3782)
    (br ((((decide ((0 : Int) ≤ (IntKind.wrap .i64 (x0 + (1 : Int))))) && (decide ((IntKind.wrap .i64 (x0 + (1 : Int))) ≤ (IntKind.wrap .i64 (x0 + (1 : Int)))))) && (decide (((IntKind.wrap .i64 (x0 + (1 : Int))) * (8 : Int)) ≤ ((2 : Int) ^ (46 : Nat))))) && true)
     (c4 l3782 l3783 l3784 (x0 :: ([] : List ((Sh.int IntKind.i64).T)))
      (fun l3785 l3786 l3787 l3788 l3789 => w0
       (fun i3811 i3812 i3813 l3814 l3815 l3816 l3817 => k0 i3812 i3813 l3814 l3815 l3816)
       (fun i3818 l3819 l3820 l3821 l3822 => br (inB i3818 (List.length l3822))
        (br (decide ((Int.toNat i3818) < (List.length l3822)))
         (k0 (List.getD l3822 (Int.toNat i3818) (0 : Int)) (0 : Int) l3819 l3820 l3821)
         (none))
        (none))
       N x0 x1 x2 (Nat.cast (List.length l3789) : Int) (0 : Int) l3786 l3787 l3785 (List.replicate (Int.toNat (IntKind.wrap .i64 (x0 + (1 : Int)))) (0 : Int)) l3789))
     (none)))
   (k0 (0 : Int) (1 : Int) l3783 l3784 l3782))
noncomputable def fix_Some_f6db (N : Nat) {R : Type} (x0 : Int) (x1 : List (Int)) (x2 : List (Int)) (x3 : List ((Int) × ((Int) × ((Int) × ((Int) × ((Int) × (Int))))))) (x4 : List (((Int) × ((Int) × ((Int) × ((Int) × ((Int) × (Int)))))) × (Int))) (x5 : List ((Int) × (Int))) (k0 : (Int) → (Int) → (List (((Int) × ((Int) × ((Int) × ((Int) × ((Int) × (Int)))))) × (Int))) → (List ((Int) × (Int))) → (List ((Int) × ((Int) × ((Int) × ((Int) × ((Int) × (Int))))))) → Option R) : Option R := fix_Some_f6db_T N (@term_Arena_Const_2c81 N) (@slices_Index__int_int_310e N) (@slices_Index__int_int N) (@fix_again_2907 N) (@term_Arena_Under_2549 N) (@term_Arena_Node_43b4 N) (@fix_Some_f6db_l0 N) x0 x1 x2 x3 x4 x5 k0
abbrev law3_awake_Ty : Type 1 := {R : Type} → ((Bool) → Option R) → Option R
noncomputable def law3_awake_T (N : Nat) (c0 : fix_Size_43b4_Ty) (c1 : fix_All_97a4_Ty) (c2 : term_Arena_Known_43b4_Ty) (c3 : fix_Some_390e_Ty) (c4 : fix_Some_f6db_Ty) (c5 : term_Arena_Two_12d2_Ty) (c6 : term_Arena_Const_2c81_Ty) (c7 : term_Arena_Var_99d8_Ty) (c8 : term_New_Ty) {R : Type} (k0 : (Bool) → Option R) : Option R :=
  c8
  (fun l0 l1 l2 => c7 (8 : Int) (0 : Int) l0 l1 l2
   (fun i20 i21 l22 l23 l24 => c6 (8 : Int) (5 : Int) l24 l22 l23
    (fun i40 i41 l42 l43 l44 => c5 (9 : Int) i20 i40 l44 l42 l43
     (fun i667 i668 l669 l670 l671 => c3 i667 l671 l669 l670 ((0 : Int) :: ([] : List ((Sh.int IntKind.i64).T))) ((7 : Int) :: ([] : List ((Sh.int IntKind.u16).T)))
      (fun i1052 i1053 l1054 l1055 l1056 l1057 l1058 => c2 i1052 l1058 l1054 l1055
       (fun i1059 b1060 l1061 l1062 l1063 => c1 l1061 l1062 l1063
        (fun i1089 i1090 l1091 l1092 l1093 => c2 i1089 l1093 l1091 l1092
         (fun i1094 b1095 l1096 l1097 l1098 => br (decide (i1053 = (0 : Int)))
          (br (decide (i1090 = (0 : Int)))
           (br b1060
            (br (decide (i1059 = (35 : Int)))
             (br b1095
              (br (decide (i1094 = (1 : Int)))
               (c0 i40 l1096 l1097 l1098
                (fun i1114 l1115 l1116 l1117 => br (decide (i1114 = (1 : Int)))
                 (c0 i667 l1115 l1116 l1117
                  (fun i1118 l1119 l1120 l1121 => k0 (decide ((1 : Int) ≤ i1118))))
                 (k0 false)))
               (k0 false))
              (k0 false))
             (k0 false))
            (k0 false))
           (k0 false))
          (k0 false)))))))))
noncomputable def law3_awake (N : Nat) {R : Type} (k0 : (Bool) → Option R) : Option R := law3_awake_T N (@fix_Size_43b4 N) (@fix_All_97a4 N) (@term_Arena_Known_43b4 N) (@fix_Some_390e N) (@fix_Some_f6db N) (@term_Arena_Two_12d2 N) (@term_Arena_Const_2c81 N) (@term_Arena_Var_99d8 N) (@term_New N) k0
abbrev law2_Build_4694_l0_Ty : Type 1 := {R : Type} → ((Bool) → (List (((Int) × ((Int) × ((Int) × ((Int) × ((Int) × (Int)))))) × (Int))) → (List ((Int) × (Int))) → (List ((Int) × ((Int) × ((Int) × ((Int) × ((Int) × (Int))))))) → (List ((Int) × (((Int) × ((Int) × ((Int) × ((Int) × ((Int) × (Int)))))) × ((Int) × ((Int) × ((Int) × (Int))))))) → Option R) → ((List (((Int) × ((Int) × ((Int) × ((Int) × ((Int) × (Int)))))) × (Int))) → (List ((Int) × (Int))) → (List ((Int) × ((Int) × ((Int) × ((Int) × ((Int) × (Int))))))) → (List ((Int) × (((Int) × ((Int) × ((Int) × ((Int) × ((Int) × (Int)))))) × ((Int) × ((Int) × ((Int) × (Int))))))) → Option R) → Nat → (List ((Int) × ((Int) × ((Int) × ((Int) × ((Int) × (Int))))))) → (Int) → (List (((Int) × ((Int) × ((Int) × ((Int) × ((Int) × (Int)))))) × (Int))) → (List ((Int) × (Int))) → (List ((Int) × ((Int) × ((Int) × ((Int) × ((Int) × (Int))))))) → (List ((Int) × (((Int) × ((Int) × ((Int) × ((Int) × ((Int) × (Int)))))) × ((Int) × ((Int) × ((Int) × (Int))))))) → (List (Int)) → Option R
abbrev law2_Build_4694_lj0_Ty : Type 1 := {R : Type} → ((List ((Int) × ((Int) × ((Int) × ((Int) × ((Int) × (Int))))))) → (Int) → (List (((Int) × ((Int) × ((Int) × ((Int) × ((Int) × (Int)))))) × (Int))) → (List ((Int) × (Int))) → (List ((Int) × ((Int) × ((Int) × ((Int) × ((Int) × (Int))))))) → (List ((Int) × (((Int) × ((Int) × ((Int) × ((Int) × ((Int) × (Int)))))) × ((Int) × ((Int) × ((Int) × (Int))))))) → (List (Int)) → Option R) → ((List ((Int) × ((Int) × ((Int) × ((Int) × ((Int) × (Int))))))) → (Bool) → (Int) → (List (((Int) × ((Int) × ((Int) × ((Int) × ((Int) × (Int)))))) × (Int))) → (List ((Int) × (Int))) → (List ((Int) × ((Int) × ((Int) × ((Int) × ((Int) × (Int))))))) → (List ((Int) × (((Int) × ((Int) × ((Int) × ((Int) × ((Int) × (Int)))))) × ((Int) × ((Int) × ((Int) × (Int))))))) → (List (Int)) → Option R) → ((List ((Int) × ((Int) × ((Int) × ((Int) × ((Int) × (Int))))))) → (Int) → (List (((Int) × ((Int) × ((Int) × ((Int) × ((Int) × (Int)))))) × (Int))) → (List ((Int) × (Int))) → (List ((Int) × ((Int) × ((Int) × ((Int) × ((Int) × (Int))))))) → (List ((Int) × (((Int) × ((Int) × ((Int) × ((Int) × ((Int) × (Int)))))) × ((Int) × ((Int) × ((Int) × (Int))))))) → (List (Int)) → Option R) → Nat → (List ((Int) × ((Int) × ((Int) × ((Int) × ((Int) × (Int))))))) → (Int) → (List (((Int) × ((Int) × ((Int) × ((Int) × ((Int) × (Int)))))) × (Int))) → (List ((Int) × (Int))) → (List ((Int) × ((Int) × ((Int) × ((Int) × ((Int) × (Int))))))) → (List ((Int) × (((Int) × ((Int) × ((Int) × ((Int) × ((Int) × (Int)))))) × ((Int) × ((Int) × ((Int) × (Int))))))) → (List (Int)) → (Int) → (Int) → (Int) → (Int) → (Int) → (Int) → (Int) → (Int) → (Int) → (Int) → (Int) → (Int) → (Int) → (Int) → (List (Int)) → Option R
abbrev law2_Build_4694_lj1_Ty : Type 1 := {R : Type} → ((List ((Int) × ((Int) × ((Int) × ((Int) × ((Int) × (Int))))))) → (Bool) → (Int) → (List (((Int) × ((Int) × ((Int) × ((Int) × ((Int) × (Int)))))) × (Int))) → (List ((Int) × (Int))) → (List ((Int) × ((Int) × ((Int) × ((Int) × ((Int) × (Int))))))) → (List ((Int) × (((Int) × ((Int) × ((Int) × ((Int) × ((Int) × (Int)))))) × ((Int) × ((Int) × ((Int) × (Int))))))) → (List (Int)) → Option R) → ((List ((Int) × ((Int) × ((Int) × ((Int) × ((Int) × (Int))))))) → (Int) → (List (((Int) × ((Int) × ((Int) × ((Int) × ((Int) × (Int)))))) × (Int))) → (List ((Int) × (Int))) → (List ((Int) × ((Int) × ((Int) × ((Int) × ((Int) × (Int))))))) → (List ((Int) × (((Int) × ((Int) × ((Int) × ((Int) × ((Int) × (Int)))))) × ((Int) × ((Int) × ((Int) × (Int))))))) → (List (Int)) → Option R) → Nat → (List ((Int) × ((Int) × ((Int) × ((Int) × ((Int) × (Int))))))) → (Int) → (Int) → (Int) → (Int) → (Int) → (Int) → (Int) → (List (((Int) × ((Int) × ((Int) × ((Int) × ((Int) × (Int)))))) × (Int))) → (List ((Int) × (Int))) → (List ((Int) × ((Int) × ((Int) × ((Int) × ((Int) × (Int))))))) → (List ((Int) × (((Int) × ((Int) × ((Int) × ((Int) × ((Int) × (Int)))))) × ((Int) × ((Int) × ((Int) × (Int))))))) → (List (Int)) → (Int) → (Int) → (Int) → (Int) → (Int) → (Int) → (Int) → (Int) → (Int) → (Int) → (Int) → (Int) → (Int) → (Int) → (List (Int)) → Option R
abbrev law2_Build_4694_lj2_Ty : Type 1 := {R : Type} → ((List ((Int) × ((Int) × ((Int) × ((Int) × ((Int) × (Int))))))) → (Bool) → (Int) → (List (((Int) × ((Int) × ((Int) × ((Int) × ((Int) × (Int)))))) × (Int))) → (List ((Int) × (Int))) → (List ((Int) × ((Int) × ((Int) × ((Int) × ((Int) × (Int))))))) → (List ((Int) × (((Int) × ((Int) × ((Int) × ((Int) × ((Int) × (Int)))))) × ((Int) × ((Int) × ((Int) × (Int))))))) → (List (Int)) → Option R) → ((List ((Int) × ((Int) × ((Int) × ((Int) × ((Int) × (Int))))))) → (Int) → (List (((Int) × ((Int) × ((Int) × ((Int) × ((Int) × (Int)))))) × (Int))) → (List ((Int) × (Int))) → (List ((Int) × ((Int) × ((Int) × ((Int) × ((Int) × (Int))))))) → (List ((Int) × (((Int) × ((Int) × ((Int) × ((Int) × ((Int) × (Int)))))) × ((Int) × ((Int) × ((Int) × (Int))))))) → (List (Int)) → Option R) → Nat → (List ((Int) × ((Int) × ((Int) × ((Int) × ((Int) × (Int))))))) → (Int) → (Int) → (Int) → (List (((Int) × ((Int) × ((Int) × ((Int) × ((Int) × (Int)))))) × (Int))) → (List ((Int) × (Int))) → (List ((Int) × ((Int) × ((Int) × ((Int) × ((Int) × (Int))))))) → (List ((Int) × (((Int) × ((Int) × ((Int) × ((Int) × ((Int) × (Int)))))) × ((Int) × ((Int) × ((Int) × (Int))))))) → (List (Int)) → (Int) → (Int) → (Int) → (Int) → (Int) → (Int) → (Int) → (Int) → (List (Int)) → Option R
abbrev law2_Build_4694_lj3_Ty : Type 1 := {R : Type} → ((List ((Int) × ((Int) × ((Int) × ((Int) × ((Int) × (Int))))))) → (Int) → (Int) → (Int) → (List (((Int) × ((Int) × ((Int) × ((Int) × ((Int) × (Int)))))) × (Int))) → (List ((Int) × (Int))) → (List ((Int) × ((Int) × ((Int) × ((Int) × ((Int) × (Int))))))) → (List ((Int) × (((Int) × ((Int) × ((Int) × ((Int) × ((Int) × (Int)))))) × ((Int) × ((Int) × ((Int) × (Int))))))) → (List (Int)) → (Int) → (Int) → (Int) → (Int) → (Int) → (Int) → (Int) → (Int) → (List (Int)) → Option R) → Nat → (List ((Int) × ((Int) × ((Int) × ((Int) × ((Int) × (Int))))))) → (Int) → (Int) → (Int) → (Int) → (List (((Int) × ((Int) × ((Int) × ((Int) × ((Int) × (Int)))))) × (Int))) → (List ((Int) × (Int))) → (List ((Int) × ((Int) × ((Int) × ((Int) × ((Int) × (Int))))))) → (List ((Int) × (((Int) × ((Int) × ((Int) × ((Int) × ((Int) × (Int)))))) × ((Int) × ((Int) × ((Int) × (Int))))))) → (List (Int)) → (Int) → (Int) → (Int) → (Int) → (Int) → (Int) → (Int) → (Int) → (Int) → (Int) → (Int) → (Int) → (Int) → (Int) → (List (Int)) → Option R
abbrev law2_Build_4694_Ty : Type 1 := {R : Type} → (List ((Int) × ((Int) × ((Int) × ((Int) × ((Int) × (Int))))))) → (List ((Int) × ((Int) × ((Int) × ((Int) × ((Int) × (Int))))))) → (List (((Int) × ((Int) × ((Int) × ((Int) × ((Int) × (Int)))))) × (Int))) → (List ((Int) × (Int))) → ((Bool) → (List (((Int) × ((Int) × ((Int) × ((Int) × ((Int) × (Int)))))) × (Int))) → (List ((Int) × (Int))) → (List ((Int) × ((Int) × ((Int) × ((Int) × ((Int) × (Int))))))) → (List ((Int) × (((Int) × ((Int) × ((Int) × ((Int) × ((Int) × (Int)))))) × ((Int) × ((Int) × ((Int) × (Int))))))) → Option R) → Option R
noncomputable def law2_Build_4694_l0_T0 (N : Nat) (c0 : term_Arena_Cut_99d8_Ty) (c1 : term_Arena_Ext_99d8_Ty) (c2 : term_Arena_Ite_12d2_Ty) (c3 : term_Arena_Two_12d2_Ty) (c4 : term_Arena_Not_43b4_Ty) (c5 : term_Arena_Var_99d8_Ty) (c6 : term_Arena_Width_43b4_Ty) (c7 : ref1_May_Ty) (c8 : term_Arena_Const_2c81_Ty) (wj0 : law2_Build_4694_lj0_Ty) (wj1 : law2_Build_4694_lj1_Ty) (wj2 : law2_Build_4694_lj2_Ty) (wj3 : law2_Build_4694_lj3_Ty) {R : Type} (nx : (List ((Int) × ((Int) × ((Int) × ((Int) × ((Int) × (Int))))))) → (Int) → (List (((Int) × ((Int) × ((Int) × ((Int) × ((Int) × (Int)))))) × (Int))) → (List ((Int) × (Int))) → (List ((Int) × ((Int) × ((Int) × ((Int) × ((Int) × (Int))))))) → (List ((Int) × (((Int) × ((Int) × ((Int) × ((Int) × ((Int) × (Int)))))) × ((Int) × ((Int) × ((Int) × (Int))))))) → (List (Int)) → Option R) (k0 : (Bool) → (List (((Int) × ((Int) × ((Int) × ((Int) × ((Int) × (Int)))))) × (Int))) → (List ((Int) × (Int))) → (List ((Int) × ((Int) × ((Int) × ((Int) × ((Int) × (Int))))))) → (List ((Int) × (((Int) × ((Int) × ((Int) × ((Int) × ((Int) × (Int)))))) × ((Int) × ((Int) × ((Int) × (Int))))))) → Option R) (k1 : (List (((Int) × ((Int) × ((Int) × ((Int) × ((Int) × (Int)))))) × (Int))) → (List ((Int) × (Int))) → (List ((Int) × ((Int) × ((Int) × ((Int) × ((Int) × (Int))))))) → (List ((Int) × (((Int) × ((Int) × ((Int) × ((Int) × ((Int) × (Int)))))) × ((Int) × ((Int) × ((Int) × (Int))))))) → Option R) (x0 : List ((Int) × ((Int) × ((Int) × ((Int) × ((Int) × (Int))))))) (x1 : Int) (x2 : List (((Int) × ((Int) × ((Int) × ((Int) × ((Int) × (Int)))))) × (Int))) (x3 : List ((Int) × (Int))) (x4 : List ((Int) × ((Int) × ((Int) × ((Int) × ((Int) × (Int))))))) (x5 : List ((Int) × (((Int) × ((Int) × ((Int) × ((Int) × ((Int) × (Int)))))) × ((Int) × ((Int) × ((Int) × (Int))))))) (x6 : List (Int)) : Option R :=
  br (decide (x1 < (Nat.cast (List.length x0) : Int)))
  (br (inB x1 (List.length x0))
   (br (decide ((0 : Int) < (Nat.cast (List.length x5) : Int)))
    (br (decide ((Nat.cast (List.length x5) : Int) = (0 : Int)))
     (none)
     (br (decide ((Nat.cast (List.length x5) : Int) = (0 : Int)))
      (none)
      (br (decide ((Nat.cast (List.length x5) : Int) = (0 : Int)))
       (none)
       (wj0
        (fun l3630 i3631 l3632 l3633 l3634 l3635 l3636 => nx l3630 (IntKind.wrap .i64 (i3631 + (1 : Int))) l3632 l3633 l3634 l3635 l3636)
        (fun l3637 b3638 i3639 l3640 l3641 l3642 l3643 l3644 => k0 b3638 l3640 l3641 l3642 l3643)
        (fun l3645 i3646 l3647 l3648 l3649 l3650 l3651 => nx l3645 (IntKind.wrap .i64 (i3646 + (1 : Int))) l3647 l3648 l3649 l3650 l3651)
        N x0 x1 x2 x3 x4 x5 x6 (List.getD x0 (Int.toNat x1) ((0 : Int) , ((0 : Int) , ((0 : Int) , ((0 : Int) , ((0 : Int) , (0 : Int))))))).1 (List.getD x0 (Int.toNat x1) ((0 : Int) , ((0 : Int) , ((0 : Int) , ((0 : Int) , ((0 : Int) , (0 : Int))))))).2.1 (List.getD x0 (Int.toNat x1) ((0 : Int) , ((0 : Int) , ((0 : Int) , ((0 : Int) , ((0 : Int) , (0 : Int))))))).2.2.1 (List.getD x0 (Int.toNat x1) ((0 : Int) , ((0 : Int) , ((0 : Int) , ((0 : Int) , ((0 : Int) , (0 : Int))))))).2.2.2.1 (List.getD x0 (Int.toNat x1) ((0 : Int) , ((0 : Int) , ((0 : Int) , ((0 : Int) , ((0 : Int) , (0 : Int))))))).2.2.2.2.1 (List.getD x0 (Int.toNat x1) ((0 : Int) , ((0 : Int) , ((0 : Int) , ((0 : Int) , ((0 : Int) , (0 : Int))))))).2.2.2.2.2 (0 : Int) (List.getD x0 (Int.toNat x1) ((0 : Int) , ((0 : Int) , ((0 : Int) , ((0 : Int) , ((0 : Int) , (0 : Int))))))).1 (List.getD x0 (Int.toNat x1) ((0 : Int) , ((0 : Int) , ((0 : Int) , ((0 : Int) , ((0 : Int) , (0 : Int))))))).2.1 (List.getD x0 (Int.toNat x1) ((0 : Int) , ((0 : Int) , ((0 : Int) , ((0 : Int) , ((0 : Int) , (0 : Int))))))).2.2.1 (List.getD x0 (Int.toNat x1) ((0 : Int) , ((0 : Int) , ((0 : Int) , ((0 : Int) , ((0 : Int) , (0 : Int))))))).2.2.2.1 (List.getD x0 (Int.toNat x1) ((0 : Int) , ((0 : Int) , ((0 : Int) , ((0 : Int) , ((0 : Int) , (0 : Int))))))).2.2.2.2.1 (List.getD x0 (Int.toNat x1) ((0 : Int) , ((0 : Int) , ((0 : Int) , ((0 : Int) , ((0 : Int) , (0 : Int))))))).2.2.2.2.2 (0 : Int) ((Int.tmod (IntKind.wrap .i64 (List.getD x0 (Int.toNat x1) ((0 : Int) , ((0 : Int) , ((0 : Int) , ((0 : Int) , ((0 : Int) , (0 : Int))))))).2.2.2.1) (Nat.cast (List.length x5) : Int)) :: ((Int.tmod (IntKind.wrap .i64 (List.getD x0 (Int.toNat x1) ((0 : Int) , ((0 : Int) , ((0 : Int) , ((0 : Int) , ((0 : Int) , (0 : Int))))))).2.2.2.2.1) (Nat.cast (List.length x5) : Int)) :: ((Int.tmod (IntKind.wrap .i64 (List.getD x0 (Int.toNat x1) ((0 : Int) , ((0 : Int) , ((0 : Int) , ((0 : Int) , ((0 : Int) , (0 : Int))))))).2.2.2.2.2) (Nat.cast (List.length x5) : Int)) :: ([] : List ((Sh.int IntKind.i64).T)))))))))
    (wj0
     (fun l3652 i3653 l3654 l3655 l3656 l3657 l3658 => nx l3652 (IntKind.wrap .i64 (i3653 + (1 : Int))) l3654 l3655 l3656 l3657 l3658)
     (fun l3659 b3660 i3661 l3662 l3663 l3664 l3665 l3666 => k0 b3660 l3662 l3663 l3664 l3665)
     (fun l3667 i3668 l3669 l3670 l3671 l3672 l3673 => nx l3667 (IntKind.wrap .i64 (i3668 + (1 : Int))) l3669 l3670 l3671 l3672 l3673)
     N x0 x1 x2 x3 x4 x5 x6 (List.getD x0 (Int.toNat x1) ((0 : Int) , ((0 : Int) , ((0 : Int) , ((0 : Int) , ((0 : Int) , (0 : Int))))))).1 (List.getD x0 (Int.toNat x1) ((0 : Int) , ((0 : Int) , ((0 : Int) , ((0 : Int) , ((0 : Int) , (0 : Int))))))).2.1 (List.getD x0 (Int.toNat x1) ((0 : Int) , ((0 : Int) , ((0 : Int) , ((0 : Int) , ((0 : Int) , (0 : Int))))))).2.2.1 (List.getD x0 (Int.toNat x1) ((0 : Int) , ((0 : Int) , ((0 : Int) , ((0 : Int) , ((0 : Int) , (0 : Int))))))).2.2.2.1 (List.getD x0 (Int.toNat x1) ((0 : Int) , ((0 : Int) , ((0 : Int) , ((0 : Int) , ((0 : Int) , (0 : Int))))))).2.2.2.2.1 (List.getD x0 (Int.toNat x1) ((0 : Int) , ((0 : Int) , ((0 : Int) , ((0 : Int) , ((0 : Int) , (0 : Int))))))).2.2.2.2.2 (0 : Int) (List.getD x0 (Int.toNat x1) ((0 : Int) , ((0 : Int) , ((0 : Int) , ((0 : Int) , ((0 : Int) , (0 : Int))))))).1 (List.getD x0 (Int.toNat x1) ((0 : Int) , ((0 : Int) , ((0 : Int) , ((0 : Int) , ((0 : Int) , (0 : Int))))))).2.1 (List.getD x0 (Int.toNat x1) ((0 : Int) , ((0 : Int) , ((0 : Int) , ((0 : Int) , ((0 : Int) , (0 : Int))))))).2.2.1 (List.getD x0 (Int.toNat x1) ((0 : Int) , ((0 : Int) , ((0 : Int) , ((0 : Int) , ((0 : Int) , (0 : Int))))))).2.2.2.1 (List.getD x0 (Int.toNat x1) ((0 : Int) , ((0 : Int) , ((0 : Int) , ((0 : Int) , ((0 : Int) , (0 : Int))))))).2.2.2.2.1 (List.getD x0 (Int.toNat x1) ((0 : Int) , ((0 : Int) , ((0 : Int) , ((0 : Int) , ((0 : Int) , (0 : Int))))))).2.2.2.2.2 (0 : Int) ((0 : Int) :: ((0 : Int) :: ((0 : Int) :: ([] : List ((Sh.int IntKind.i64).T)))))))
   (none))
  (k1 x2 x3 x4 x5)
noncomputable def law2_Build_4694_lj0_T0 (N : Nat) (c0 : term_Arena_Cut_99d8_Ty) (c1 : term_Arena_Ext_99d8_Ty) (c2 : term_Arena_Ite_12d2_Ty) (c3 : term_Arena_Two_12d2_Ty) (c4 : term_Arena_Not_43b4_Ty) (c5 : term_Arena_Var_99d8_Ty) (c6 : term_Arena_Width_43b4_Ty) (c7 : ref1_May_Ty) (c8 : term_Arena_Const_2c81_Ty) (wj1 : law2_Build_4694_lj1_Ty) (wj2 : law2_Build_4694_lj2_Ty) (wj3 : law2_Build_4694_lj3_Ty) {R : Type} (k0 : (List ((Int) × ((Int) × ((Int) × ((Int) × ((Int) × (Int))))))) → (Int) → (List (((Int) × ((Int) × ((Int) × ((Int) × ((Int) × (Int)))))) × (Int))) → (List ((Int) × (Int))) → (List ((Int) × ((Int) × ((Int) × ((Int) × ((Int) × (Int))))))) → (List ((Int) × (((Int) × ((Int) × ((Int) × ((Int) × ((Int) × (Int)))))) × ((Int) × ((Int) × ((Int) × (Int))))))) → (List (Int)) → Option R) (k1 : (List ((Int) × ((Int) × ((Int) × ((Int) × ((Int) × (Int))))))) → (Bool) → (Int) → (List (((Int) × ((Int) × ((Int) × ((Int) × ((Int) × (Int)))))) × (Int))) → (List ((Int) × (Int))) → (List ((Int) × ((Int) × ((Int) × ((Int) × ((Int) × (Int))))))) → (List ((Int) × (((Int) × ((Int) × ((Int) × ((Int) × ((Int) × (Int)))))) × ((Int) × ((Int) × ((Int) × (Int))))))) → (List (Int)) → Option R) (k2 : (List ((Int) × ((Int) × ((Int) × ((Int) × ((Int) × (Int))))))) → (Int) → (List (((Int) × ((Int) × ((Int) × ((Int) × ((Int) × (Int)))))) × (Int))) → (List ((Int) × (Int))) → (List ((Int) × ((Int) × ((Int) × ((Int) × ((Int) × (Int))))))) → (List ((Int) × (((Int) × ((Int) × ((Int) × ((Int) × ((Int) × (Int)))))) × ((Int) × ((Int) × ((Int) × (Int))))))) → (List (Int)) → Option R) (x0 : List ((Int) × ((Int) × ((Int) × ((Int) × ((Int) × (Int))))))) (x1 : Int) (x2 : List (((Int) × ((Int) × ((Int) × ((Int) × ((Int) × (Int)))))) × (Int))) (x3 : List ((Int) × (Int))) (x4 : List ((Int) × ((Int) × ((Int) × ((Int) × ((Int) × (Int))))))) (x5 : List ((Int) × (((Int) × ((Int) × ((Int) × ((Int) × ((Int) × (Int)))))) × ((Int) × ((Int) × ((Int) × (Int))))))) (x6 : List (Int)) (x7 : Int) (x8 : Int) (x9 : Int) (x10 : Int) (x11 : Int) (x12 : Int) (x13 : Int) (x14 : Int) (x15 : Int) (x16 : Int) (x17 : Int) (x18 : Int) (x19 : Int) (x20 : Int) (x21 : List (Int)) : Option R :=
  br (decide ((Nat.cast (List.length x5) : Int) = (0 : Int)))
  (br (!(decide (x7 = (1 : Int))))
   (br (!(decide (x7 = (2 : Int))))
    (k0 x0 x1 x2 x3 x4 x5 x6)
    (br (decide ((0 : Int) < (Nat.cast (List.length x5) : Int)))
     (br (inB (List.getD x21 (0 : Nat) (0 : Int)) (List.length x5))
      (br (decide ((Int.toNat (List.getD x21 (0 : Nat) (0 : Int))) < (List.length x5)))
       (br (inB (List.getD x21 (1 : Nat) (0 : Int)) (List.length x5))
        (br (decide ((Int.toNat (List.getD x21 (1 : Nat) (0 : Int))) < (List.length x5)))
         (br (inB (List.getD x21 (2 : Nat) (0 : Int)) (List.length x5))
          (br (decide ((Int.toNat (List.getD x21 (2 : Nat) (0 : Int))) < (List.length x5)))
           (br (inB (List.getD x21 (0 : Nat) (0 : Int)) (List.length x5))
            (br (decide ((Int.toNat (List.getD x21 (0 : Nat) (0 : Int))) < (List.length x5)))
             (br (inB (List.getD x21 (1 : Nat) (0 : Int)) (List.length x5))
              (br (decide ((Int.toNat (List.getD x21 (1 : Nat) (0 : Int))) < (List.length x5)))
               (br (inB (List.getD x21 (2 : Nat) (0 : Int)) (List.length x5))
                (br (decide ((Int.toNat (List.getD x21 (2 : Nat) (0 : Int))) < (List.length x5)))
                 (wj1
                  (fun l3540 b3541 i3542 l3543 l3544 l3545 l3546 l3547 => k1 l3540 b3541 i3542 l3543 l3544 l3545 l3546 l3547)
                  (fun l3548 i3549 l3550 l3551 l3552 l3553 l3554 => k2 l3548 i3549 l3550 l3551 l3552 l3553 l3554)
                  N x0 x1 (List.getD x5 (Int.toNat (List.getD x21 (0 : Nat) (0 : Int))) ((0 : Int) , (((0 : Int) , ((0 : Int) , ((0 : Int) , ((0 : Int) , ((0 : Int) , (0 : Int)))))) , ((0 : Int) , ((0 : Int) , ((0 : Int) , (0 : Int))))))).1 (List.getD x5 (Int.toNat (List.getD x21 (1 : Nat) (0 : Int))) ((0 : Int) , (((0 : Int) , ((0 : Int) , ((0 : Int) , ((0 : Int) , ((0 : Int) , (0 : Int)))))) , ((0 : Int) , ((0 : Int) , ((0 : Int) , (0 : Int))))))).1 (List.getD x5 (Int.toNat (List.getD x21 (2 : Nat) (0 : Int))) ((0 : Int) , (((0 : Int) , ((0 : Int) , ((0 : Int) , ((0 : Int) , ((0 : Int) , (0 : Int)))))) , ((0 : Int) , ((0 : Int) , ((0 : Int) , (0 : Int))))))).1 (List.getD x5 (Int.toNat (List.getD x21 (0 : Nat) (0 : Int))) ((0 : Int) , (((0 : Int) , ((0 : Int) , ((0 : Int) , ((0 : Int) , ((0 : Int) , (0 : Int)))))) , ((0 : Int) , ((0 : Int) , ((0 : Int) , (0 : Int))))))).2.2.1 (List.getD x5 (Int.toNat (List.getD x21 (1 : Nat) (0 : Int))) ((0 : Int) , (((0 : Int) , ((0 : Int) , ((0 : Int) , ((0 : Int) , ((0 : Int) , (0 : Int)))))) , ((0 : Int) , ((0 : Int) , ((0 : Int) , (0 : Int))))))).2.2.1 (List.getD x5 (Int.toNat (List.getD x21 (2 : Nat) (0 : Int))) ((0 : Int) , (((0 : Int) , ((0 : Int) , ((0 : Int) , ((0 : Int) , ((0 : Int) , (0 : Int)))))) , ((0 : Int) , ((0 : Int) , ((0 : Int) , (0 : Int))))))).2.2.1 x2 x3 x4 x5 x6 x7 x8 x9 x10 x11 x12 x13 x14 x15 x16 x17 x18 x19 x20 x21)
                 (none))
                (none))
               (none))
              (none))
             (none))
            (none))
           (none))
          (none))
         (none))
        (none))
       (none))
      (none))
     (wj1
      (fun l3555 b3556 i3557 l3558 l3559 l3560 l3561 l3562 => k1 l3555 b3556 i3557 l3558 l3559 l3560 l3561 l3562)
      (fun l3563 i3564 l3565 l3566 l3567 l3568 l3569 => k2 l3563 i3564 l3565 l3566 l3567 l3568 l3569)
      N x0 x1 (-1 : Int) (-1 : Int) (-1 : Int) (0 : Int) (0 : Int) (0 : Int) x2 x3 x4 x5 x6 x7 x8 x9 x10 x11 x12 x13 x14 x15 x16 x17 x18 x19 x20 x21)))
   (br (decide ((0 : Int) < (Nat.cast (List.length x5) : Int)))
    (br (inB (List.getD x21 (0 : Nat) (0 : Int)) (List.length x5))
     (br (decide ((Int.toNat (List.getD x21 (0 : Nat) (0 : Int))) < (List.length x5)))
      (br (inB (List.getD x21 (1 : Nat) (0 : Int)) (List.length x5))
       (br (decide ((Int.toNat (List.getD x21 (1 : Nat) (0 : Int))) < (List.length x5)))
        (br (inB (List.getD x21 (2 : Nat) (0 : Int)) (List.length x5))
         (br (decide ((Int.toNat (List.getD x21 (2 : Nat) (0 : Int))) < (List.length x5)))
          (br (inB (List.getD x21 (0 : Nat) (0 : Int)) (List.length x5))
           (br (decide ((Int.toNat (List.getD x21 (0 : Nat) (0 : Int))) < (List.length x5)))
            (br (inB (List.getD x21 (1 : Nat) (0 : Int)) (List.length x5))
             (br (decide ((Int.toNat (List.getD x21 (1 : Nat) (0 : Int))) < (List.length x5)))
              (br (inB (List.getD x21 (2 : Nat) (0 : Int)) (List.length x5))
               (br (decide ((Int.toNat (List.getD x21 (2 : Nat) (0 : Int))) < (List.length x5)))
                (wj1
                 (fun l3570 b3571 i3572 l3573 l3574 l3575 l3576 l3577 => k1 l3570 b3571 i3572 l3573 l3574 l3575 l3576 l3577)
                 (fun l3578 i3579 l3580 l3581 l3582 l3583 l3584 => k2 l3578 i3579 l3580 l3581 l3582 l3583 l3584)
                 N x0 x1 (List.getD x5 (Int.toNat (List.getD x21 (0 : Nat) (0 : Int))) ((0 : Int) , (((0 : Int) , ((0 : Int) , ((0 : Int) , ((0 : Int) , ((0 : Int) , (0 : Int)))))) , ((0 : Int) , ((0 : Int) , ((0 : Int) , (0 : Int))))))).1 (List.getD x5 (Int.toNat (List.getD x21 (1 : Nat) (0 : Int))) ((0 : Int) , (((0 : Int) , ((0 : Int) , ((0 : Int) , ((0 : Int) , ((0 : Int) , (0 : Int)))))) , ((0 : Int) , ((0 : Int) , ((0 : Int) , (0 : Int))))))).1 (List.getD x5 (Int.toNat (List.getD x21 (2 : Nat) (0 : Int))) ((0 : Int) , (((0 : Int) , ((0 : Int) , ((0 : Int) , ((0 : Int) , ((0 : Int) , (0 : Int)))))) , ((0 : Int) , ((0 : Int) , ((0 : Int) , (0 : Int))))))).1 (List.getD x5 (Int.toNat (List.getD x21 (0 : Nat) (0 : Int))) ((0 : Int) , (((0 : Int) , ((0 : Int) , ((0 : Int) , ((0 : Int) , ((0 : Int) , (0 : Int)))))) , ((0 : Int) , ((0 : Int) , ((0 : Int) , (0 : Int))))))).2.2.1 (List.getD x5 (Int.toNat (List.getD x21 (1 : Nat) (0 : Int))) ((0 : Int) , (((0 : Int) , ((0 : Int) , ((0 : Int) , ((0 : Int) , ((0 : Int) , (0 : Int)))))) , ((0 : Int) , ((0 : Int) , ((0 : Int) , (0 : Int))))))).2.2.1 (List.getD x5 (Int.toNat (List.getD x21 (2 : Nat) (0 : Int))) ((0 : Int) , (((0 : Int) , ((0 : Int) , ((0 : Int) , ((0 : Int) , ((0 : Int) , (0 : Int)))))) , ((0 : Int) , ((0 : Int) , ((0 : Int) , (0 : Int))))))).2.2.1 x2 x3 x4 x5 x6 x7 x8 x9 x10 x11 x12 x13 x14 x15 x16 x17 x18 x19 x20 x21)
                (none))
               (none))
              (none))
             (none))
            (none))
           (none))
          (none))
         (none))
        (none))
       (none))
      (none))
     (none))
    (wj1
     (fun l3585 b3586 i3587 l3588 l3589 l3590 l3591 l3592 => k1 l3585 b3586 i3587 l3588 l3589 l3590 l3591 l3592)
     (fun l3593 i3594 l3595 l3596 l3597 l3598 l3599 => k2 l3593 i3594 l3595 l3596 l3597 l3598 l3599)
     N x0 x1 (-1 : Int) (-1 : Int) (-1 : Int) (0 : Int) (0 : Int) (0 : Int) x2 x3 x4 x5 x6 x7 x8 x9 x10 x11 x12 x13 x14 x15 x16 x17 x18 x19 x20 x21)))
  (br (decide ((0 : Int) < (Nat.cast (List.length x5) : Int)))
   (br (inB (List.getD x21 (0 : Nat) (0 : Int)) (List.length x5))
    (br (decide ((Int.toNat (List.getD x21 (0 : Nat) (0 : Int))) < (List.length x5)))
     (br (inB (List.getD x21 (1 : Nat) (0 : Int)) (List.length x5))
      (br (decide ((Int.toNat (List.getD x21 (1 : Nat) (0 : Int))) < (List.length x5)))
       (br (inB (List.getD x21 (2 : Nat) (0 : Int)) (List.length x5))
        (br (decide ((Int.toNat (List.getD x21 (2 : Nat) (0 : Int))) < (List.length x5)))
         (br (inB (List.getD x21 (0 : Nat) (0 : Int)) (List.length x5))
          (br (decide ((Int.toNat (List.getD x21 (0 : Nat) (0 : Int))) < (List.length x5)))
           (br (inB (List.getD x21 (1 : Nat) (0 : Int)) (List.length x5))
            (br (decide ((Int.toNat (List.getD x21 (1 : Nat) (0 : Int))) < (List.length x5)))
             (br (inB (List.getD x21 (2 : Nat) (0 : Int)) (List.length x5))
              (br (decide ((Int.toNat (List.getD x21 (2 : Nat) (0 : Int))) < (List.length x5)))
               (wj1
                (fun l3600 b3601 i3602 l3603 l3604 l3605 l3606 l3607 => k1 l3600 b3601 i3602 l3603 l3604 l3605 l3606 l3607)
                (fun l3608 i3609 l3610 l3611 l3612 l3613 l3614 => k2 l3608 i3609 l3610 l3611 l3612 l3613 l3614)
                N x0 x1 (List.getD x5 (Int.toNat (List.getD x21 (0 : Nat) (0 : Int))) ((0 : Int) , (((0 : Int) , ((0 : Int) , ((0 : Int) , ((0 : Int) , ((0 : Int) , (0 : Int)))))) , ((0 : Int) , ((0 : Int) , ((0 : Int) , (0 : Int))))))).1 (List.getD x5 (Int.toNat (List.getD x21 (1 : Nat) (0 : Int))) ((0 : Int) , (((0 : Int) , ((0 : Int) , ((0 : Int) , ((0 : Int) , ((0 : Int) , (0 : Int)))))) , ((0 : Int) , ((0 : Int) , ((0 : Int) , (0 : Int))))))).1 (List.getD x5 (Int.toNat (List.getD x21 (2 : Nat) (0 : Int))) ((0 : Int) , (((0 : Int) , ((0 : Int) , ((0 : Int) , ((0 : Int) , ((0 : Int) , (0 : Int)))))) , ((0 : Int) , ((0 : Int) , ((0 : Int) , (0 : Int))))))).1 (List.getD x5 (Int.toNat (List.getD x21 (0 : Nat) (0 : Int))) ((0 : Int) , (((0 : Int) , ((0 : Int) , ((0 : Int) , ((0 : Int) , ((0 : Int) , (0 : Int)))))) , ((0 : Int) , ((0 : Int) , ((0 : Int) , (0 : Int))))))).2.2.1 (List.getD x5 (Int.toNat (List.getD x21 (1 : Nat) (0 : Int))) ((0 : Int) , (((0 : Int) , ((0 : Int) , ((0 : Int) , ((0 : Int) , ((0 : Int) , (0 : Int)))))) , ((0 : Int) , ((0 : Int) , ((0 : Int) , (0 : Int))))))).2.2.1 (List.getD x5 (Int.toNat (List.getD x21 (2 : Nat) (0 : Int))) ((0 : Int) , (((0 : Int) , ((0 : Int) , ((0 : Int) , ((0 : Int) , ((0 : Int) , (0 : Int)))))) , ((0 : Int) , ((0 : Int) , ((0 : Int) , (0 : Int))))))).2.2.1 x2 x3 x4 x5 x6 x7 x8 x9 x10 x11 x12 x13 x14 x15 x16 x17 x18 x19 x20 x21)
               (none))
              (none))
             (none))
            (none))
           (none))
          (none))
         (none))
        (none))
       (none))
      (none))
     (none))
    (none))
   (wj1
    (fun l3615 b3616 i3617 l3618 l3619 l3620 l3621 l3622 => k1 l3615 b3616 i3617 l3618 l3619 l3620 l3621 l3622)
    (fun l3623 i3624 l3625 l3626 l3627 l3628 l3629 => k2 l3623 i3624 l3625 l3626 l3627 l3628 l3629)
    N x0 x1 (-1 : Int) (-1 : Int) (-1 : Int) (0 : Int) (0 : Int) (0 : Int) x2 x3 x4 x5 x6 x7 x8 x9 x10 x11 x12 x13 x14 x15 x16 x17 x18 x19 x20 x21))
noncomputable def law2_Build_4694_lj1_T0 (N : Nat) (c0 : term_Arena_Cut_99d8_Ty) (c1 : term_Arena_Ext_99d8_Ty) (c2 : term_Arena_Ite_12d2_Ty) (c3 : term_Arena_Two_12d2_Ty) (c4 : term_Arena_Not_43b4_Ty) (c5 : term_Arena_Var_99d8_Ty) (c6 : term_Arena_Width_43b4_Ty) (c7 : ref1_May_Ty) (c8 : term_Arena_Const_2c81_Ty) (wj2 : law2_Build_4694_lj2_Ty) (wj3 : law2_Build_4694_lj3_Ty) {R : Type} (k0 : (List ((Int) × ((Int) × ((Int) × ((Int) × ((Int) × (Int))))))) → (Bool) → (Int) → (List (((Int) × ((Int) × ((Int) × ((Int) × ((Int) × (Int)))))) × (Int))) → (List ((Int) × (Int))) → (List ((Int) × ((Int) × ((Int) × ((Int) × ((Int) × (Int))))))) → (List ((Int) × (((Int) × ((Int) × ((Int) × ((Int) × ((Int) × (Int)))))) × ((Int) × ((Int) × ((Int) × (Int))))))) → (List (Int)) → Option R) (k1 : (List ((Int) × ((Int) × ((Int) × ((Int) × ((Int) × (Int))))))) → (Int) → (List (((Int) × ((Int) × ((Int) × ((Int) × ((Int) × (Int)))))) × (Int))) → (List ((Int) × (Int))) → (List ((Int) × ((Int) × ((Int) × ((Int) × ((Int) × (Int))))))) → (List ((Int) × (((Int) × ((Int) × ((Int) × ((Int) × ((Int) × (Int)))))) × ((Int) × ((Int) × ((Int) × (Int))))))) → (List (Int)) → Option R) (x0 : List ((Int) × ((Int) × ((Int) × ((Int) × ((Int) × (Int))))))) (x1 : Int) (x2 : Int) (x3 : Int) (x4 : Int) (x5 : Int) (x6 : Int) (x7 : Int) (x8 : List (((Int) × ((Int) × ((Int) × ((Int) × ((Int) × (Int)))))) × (Int))) (x9 : List ((Int) × (Int))) (x10 : List ((Int) × ((Int) × ((Int) × ((Int) × ((Int) × (Int))))))) (x11 : List ((Int) × (((Int) × ((Int) × ((Int) × ((Int) × ((Int) × (Int)))))) × ((Int) × ((Int) × ((Int) × (Int))))))) (x12 : List (Int)) (x13 : Int) (x14 : Int) (x15 : Int) (x16 : Int) (x17 : Int) (x18 : Int) (x19 : Int) (x20 : Int) (x21 : Int) (x22 : Int) (x23 : Int) (x24 : Int) (x25 : Int) (x26 : Int) (x27 : List (Int)) : Option R :=
  br (decide (x13 = (1 : Int)))
  (c8 x14 x15 x10 x8 x9
   (fun i2985 i2986 l2987 l2988 l2989 => c7 x14
    (fun b2990 => br (!b2990)
     (wj2
      (fun l2995 b2996 i2997 l2998 l2999 l3000 l3001 l3002 => k0 l2995 b2996 i2997 l2998 l2999 l3000 l3001 l3002)
      (fun l3003 i3004 l3005 l3006 l3007 l3008 l3009 => k1 l3003 i3004 l3005 l3006 l3007 l3008 l3009)
      N x0 x1 (2 : Int) i2986 l2987 l2988 l2989 x11 x12 i2985 x20 x21 x22 x23 x24 x25 x14 x27)
     (wj2
      (fun l3010 b3011 i3012 l3013 l3014 l3015 l3016 l3017 => k0 l3010 b3011 i3012 l3013 l3014 l3015 l3016 l3017)
      (fun l3018 i3019 l3020 l3021 l3022 l3023 l3024 => k1 l3018 i3019 l3020 l3021 l3022 l3023 l3024)
      N x0 x1 (0 : Int) i2986 l2987 l2988 l2989 x11 x12 i2985 x20 x21 x22 x23 x24 x25 x14 x27))))
  (br (decide (x13 = (2 : Int)))
   (c5 x14 (IntKind.wrap .i64 x15) x10 x8 x9
    (fun i3025 i3026 l3027 l3028 l3029 => c7 x14
     (fun b3030 => br (!b3030)
      (wj2
       (fun l3031 b3032 i3033 l3034 l3035 l3036 l3037 l3038 => k0 l3031 b3032 i3033 l3034 l3035 l3036 l3037 l3038)
       (fun l3039 i3040 l3041 l3042 l3043 l3044 l3045 => k1 l3039 i3040 l3041 l3042 l3043 l3044 l3045)
       N x0 x1 (2 : Int) i3026 l3027 l3028 l3029 x11 x12 i3025 x20 x21 x22 x23 x24 x25 x14 x27)
      (br (!(decide ((64 : Int) ≤ (IntKind.wrap .i64 x15))))
       (br (inB (IntKind.wrap .i64 x15) (64 : Nat))
        (br (decide ((Int.toNat (IntKind.wrap .i64 x15)) < (64 : Nat)))
         (br (!(decide ((List.getD x12 (Int.toNat (IntKind.wrap .i64 x15)) (0 : Int)) = (0 : Int))))
          (br (inB (IntKind.wrap .i64 x15) (64 : Nat))
           (br (decide ((Int.toNat (IntKind.wrap .i64 x15)) < (64 : Nat)))
            (br (!(decide ((List.getD x12 (Int.toNat (IntKind.wrap .i64 x15)) (0 : Int)) = x14)))
             (wj2
              (fun l3046 b3047 i3048 l3049 l3050 l3051 l3052 l3053 => k0 l3046 b3047 i3048 l3049 l3050 l3051 l3052 l3053)
              (fun l3054 i3055 l3056 l3057 l3058 l3059 l3060 => k1 l3054 i3055 l3056 l3057 l3058 l3059 l3060)
              N x0 x1 (1 : Int) i3026 l3027 l3028 l3029 x11 x12 i3025 x20 x21 x22 x23 x24 x25 x14 x27)
             (br (inB (IntKind.wrap .i64 x15) (64 : Nat))
              (br (decide ((Int.toNat (IntKind.wrap .i64 x15)) < (64 : Nat)))
               (wj2
                (fun l3061 b3062 i3063 l3064 l3065 l3066 l3067 l3068 => k0 l3061 b3062 i3063 l3064 l3065 l3066 l3067 l3068)
                (fun l3069 i3070 l3071 l3072 l3073 l3074 l3075 => k1 l3069 i3070 l3071 l3072 l3073 l3074 l3075)
                N x0 x1 (0 : Int) i3026 l3027 l3028 l3029 x11 (List.set x12 (Int.toNat (IntKind.wrap .i64 x15)) x14) i3025 x20 x21 x22 x23 x24 x25 x14 x27)
               (none))
              (none)))
            (none))
           (none))
          (br (inB (IntKind.wrap .i64 x15) (64 : Nat))
           (br (decide ((Int.toNat (IntKind.wrap .i64 x15)) < (64 : Nat)))
            (wj2
             (fun l3076 b3077 i3078 l3079 l3080 l3081 l3082 l3083 => k0 l3076 b3077 i3078 l3079 l3080 l3081 l3082 l3083)
             (fun l3084 i3085 l3086 l3087 l3088 l3089 l3090 => k1 l3084 i3085 l3086 l3087 l3088 l3089 l3090)
             N x0 x1 (0 : Int) i3026 l3027 l3028 l3029 x11 (List.set x12 (Int.toNat (IntKind.wrap .i64 x15)) x14) i3025 x20 x21 x22 x23 x24 x25 x14 x27)
            (none))
           (none)))
         (none))
        (none))
       (wj2
        (fun l3091 b3092 i3093 l3094 l3095 l3096 l3097 l3098 => k0 l3091 b3092 i3093 l3094 l3095 l3096 l3097 l3098)
        (fun l3099 i3100 l3101 l3102 l3103 l3104 l3105 => k1 l3099 i3100 l3101 l3102 l3103 l3104 l3105)
        N x0 x1 (1 : Int) i3026 l3027 l3028 l3029 x11 x12 i3025 x20 x21 x22 x23 x24 x25 x14 x27)))))
   (br (decide (x13 = (3 : Int)))
    (c4 x2 x10 x8 x9
     (fun i3106 i3107 l3108 l3109 l3110 => wj2
      (fun l3111 b3112 i3113 l3114 l3115 l3116 l3117 l3118 => k0 l3111 b3112 i3113 l3114 l3115 l3116 l3117 l3118)
      (fun l3119 i3120 l3121 l3122 l3123 l3124 l3125 => k1 l3119 i3120 l3121 l3122 l3123 l3124 l3125)
      N x0 x1 (0 : Int) i3107 l3108 l3109 l3110 x11 x12 i3106 x20 x21 x22 x23 x24 x25 x5 x27))
    (br (decide ((4 : Int) ≤ x13))
     (br (decide (x13 ≤ (15 : Int)))
      (c3 x13 x2 x3 x10 x8 x9
       (fun i3126 i3127 l3128 l3129 l3130 => br (!(decide (x13 = (14 : Int))))
        (br (decide (x13 = (15 : Int)))
         (br (!(decide (x5 = x6)))
          (wj2
           (fun l3131 b3132 i3133 l3134 l3135 l3136 l3137 l3138 => k0 l3131 b3132 i3133 l3134 l3135 l3136 l3137 l3138)
           (fun l3139 i3140 l3141 l3142 l3143 l3144 l3145 => k1 l3139 i3140 l3141 l3142 l3143 l3144 l3145)
           N x0 x1 (2 : Int) i3127 l3128 l3129 l3130 x11 x12 i3126 x20 x21 x22 x23 x24 x25 (1 : Int) x27)
          (wj2
           (fun l3146 b3147 i3148 l3149 l3150 l3151 l3152 l3153 => k0 l3146 b3147 i3148 l3149 l3150 l3151 l3152 l3153)
           (fun l3154 i3155 l3156 l3157 l3158 l3159 l3160 => k1 l3154 i3155 l3156 l3157 l3158 l3159 l3160)
           N x0 x1 (0 : Int) i3127 l3128 l3129 l3130 x11 x12 i3126 x20 x21 x22 x23 x24 x25 (1 : Int) x27))
         (br (!(decide (x5 = x6)))
          (wj2
           (fun l3161 b3162 i3163 l3164 l3165 l3166 l3167 l3168 => k0 l3161 b3162 i3163 l3164 l3165 l3166 l3167 l3168)
           (fun l3169 i3170 l3171 l3172 l3173 l3174 l3175 => k1 l3169 i3170 l3171 l3172 l3173 l3174 l3175)
           N x0 x1 (2 : Int) i3127 l3128 l3129 l3130 x11 x12 i3126 x20 x21 x22 x23 x24 x25 x5 x27)
          (wj2
           (fun l3176 b3177 i3178 l3179 l3180 l3181 l3182 l3183 => k0 l3176 b3177 i3178 l3179 l3180 l3181 l3182 l3183)
           (fun l3184 i3185 l3186 l3187 l3188 l3189 l3190 => k1 l3184 i3185 l3186 l3187 l3188 l3189 l3190)
           N x0 x1 (0 : Int) i3127 l3128 l3129 l3130 x11 x12 i3126 x20 x21 x22 x23 x24 x25 x5 x27)))
        (br (!(decide (x5 = x6)))
         (wj2
          (fun l3191 b3192 i3193 l3194 l3195 l3196 l3197 l3198 => k0 l3191 b3192 i3193 l3194 l3195 l3196 l3197 l3198)
          (fun l3199 i3200 l3201 l3202 l3203 l3204 l3205 => k1 l3199 i3200 l3201 l3202 l3203 l3204 l3205)
          N x0 x1 (2 : Int) i3127 l3128 l3129 l3130 x11 x12 i3126 x20 x21 x22 x23 x24 x25 (1 : Int) x27)
         (wj2
          (fun l3206 b3207 i3208 l3209 l3210 l3211 l3212 l3213 => k0 l3206 b3207 i3208 l3209 l3210 l3211 l3212 l3213)
          (fun l3214 i3215 l3216 l3217 l3218 l3219 l3220 => k1 l3214 i3215 l3216 l3217 l3218 l3219 l3220)
          N x0 x1 (0 : Int) i3127 l3128 l3129 l3130 x11 x12 i3126 x20 x21 x22 x23 x24 x25 (1 : Int) x27))))
      (br (decide (x13 = (16 : Int)))
       (c2 x2 x3 x4 x10 x8 x9
        (fun i3221 i3222 l3223 l3224 l3225 => br (!(!(decide (x5 = (1 : Int)))))
         (br (!(decide (x6 = x7)))
          (wj2
           (fun l3226 b3227 i3228 l3229 l3230 l3231 l3232 l3233 => k0 l3226 b3227 i3228 l3229 l3230 l3231 l3232 l3233)
           (fun l3234 i3235 l3236 l3237 l3238 l3239 l3240 => k1 l3234 i3235 l3236 l3237 l3238 l3239 l3240)
           N x0 x1 (2 : Int) i3222 l3223 l3224 l3225 x11 x12 i3221 x20 x21 x22 x23 x24 x25 x6 x27)
          (wj2
           (fun l3241 b3242 i3243 l3244 l3245 l3246 l3247 l3248 => k0 l3241 b3242 i3243 l3244 l3245 l3246 l3247 l3248)
           (fun l3249 i3250 l3251 l3252 l3253 l3254 l3255 => k1 l3249 i3250 l3251 l3252 l3253 l3254 l3255)
           N x0 x1 (0 : Int) i3222 l3223 l3224 l3225 x11 x12 i3221 x20 x21 x22 x23 x24 x25 x6 x27))
         (wj2
          (fun l3256 b3257 i3258 l3259 l3260 l3261 l3262 l3263 => k0 l3256 b3257 i3258 l3259 l3260 l3261 l3262 l3263)
          (fun l3264 i3265 l3266 l3267 l3268 l3269 l3270 => k1 l3264 i3265 l3266 l3267 l3268 l3269 l3270)
          N x0 x1 (2 : Int) i3222 l3223 l3224 l3225 x11 x12 i3221 x20 x21 x22 x23 x24 x25 x6 x27)))
       (br (decide (x13 = (17 : Int)))
        (c1 x14 x2 x10 x8 x9
         (fun i3271 i3272 l3273 l3274 l3275 => c7 x14
          (fun b3276 => br (!(!b3276))
           (br (decide (x14 < x5))
            (wj2
             (fun l3277 b3278 i3279 l3280 l3281 l3282 l3283 l3284 => k0 l3277 b3278 i3279 l3280 l3281 l3282 l3283 l3284)
             (fun l3285 i3286 l3287 l3288 l3289 l3290 l3291 => k1 l3285 i3286 l3287 l3288 l3289 l3290 l3291)
             N x0 x1 (2 : Int) i3272 l3273 l3274 l3275 x11 x12 i3271 x20 x21 x22 x23 x24 x25 x14 x27)
            (wj2
             (fun l3292 b3293 i3294 l3295 l3296 l3297 l3298 l3299 => k0 l3292 b3293 i3294 l3295 l3296 l3297 l3298 l3299)
             (fun l3300 i3301 l3302 l3303 l3304 l3305 l3306 => k1 l3300 i3301 l3302 l3303 l3304 l3305 l3306)
             N x0 x1 (0 : Int) i3272 l3273 l3274 l3275 x11 x12 i3271 x20 x21 x22 x23 x24 x25 x14 x27))
           (wj2
            (fun l3307 b3308 i3309 l3310 l3311 l3312 l3313 l3314 => k0 l3307 b3308 i3309 l3310 l3311 l3312 l3313 l3314)
            (fun l3315 i3316 l3317 l3318 l3319 l3320 l3321 => k1 l3315 i3316 l3317 l3318 l3319 l3320 l3321)
            N x0 x1 (2 : Int) i3272 l3273 l3274 l3275 x11 x12 i3271 x20 x21 x22 x23 x24 x25 x14 x27))))
        (br (decide (x13 = (18 : Int)))
         (c0 x14 x2 x10 x8 x9
          (fun i3322 i3323 l3324 l3325 l3326 => wj3
           (fun l3328 i3329 i3330 i3331 l3332 l3333 l3334 l3335 l3336 i3337 i3338 i3339 i3340 i3341 i3342 i3343 i3344 l3345 => wj2
            (fun l3346 b3347 i3348 l3349 l3350 l3351 l3352 l3353 => k0 l3346 b3347 i3348 l3349 l3350 l3351 l3352 l3353)
            (fun l3354 i3355 l3356 l3357 l3358 l3359 l3360 => k1 l3354 i3355 l3356 l3357 l3358 l3359 l3360)
            N l3328 i3329 i3330 i3331 l3332 l3333 l3334 l3335 l3336 i3337 i3338 i3339 i3340 i3341 i3342 i3343 i3344 l3345)
           N x0 x1 x5 (0 : Int) i3323 l3324 l3325 l3326 x11 x12 x13 x14 x15 x16 x17 x18 i3322 x20 x21 x22 x23 x24 x25 x14 x27))
         (c3 x13 x2 x2 x10 x8 x9
          (fun i3361 i3362 l3363 l3364 l3365 => wj2
           (fun l3366 b3367 i3368 l3369 l3370 l3371 l3372 l3373 => k0 l3366 b3367 i3368 l3369 l3370 l3371 l3372 l3373)
           (fun l3374 i3375 l3376 l3377 l3378 l3379 l3380 => k1 l3374 i3375 l3376 l3377 l3378 l3379 l3380)
           N x0 x1 (5 : Int) i3362 l3363 l3364 l3365 x11 x12 x19 x20 x21 x22 x23 x24 x25 x26 x27))))))
     (br (decide (x13 = (16 : Int)))
      (c2 x2 x3 x4 x10 x8 x9
       (fun i3381 i3382 l3383 l3384 l3385 => br (!(!(decide (x5 = (1 : Int)))))
        (br (!(decide (x6 = x7)))
         (wj2
          (fun l3386 b3387 i3388 l3389 l3390 l3391 l3392 l3393 => k0 l3386 b3387 i3388 l3389 l3390 l3391 l3392 l3393)
          (fun l3394 i3395 l3396 l3397 l3398 l3399 l3400 => k1 l3394 i3395 l3396 l3397 l3398 l3399 l3400)
          N x0 x1 (2 : Int) i3382 l3383 l3384 l3385 x11 x12 i3381 x20 x21 x22 x23 x24 x25 x6 x27)
         (wj2
          (fun l3401 b3402 i3403 l3404 l3405 l3406 l3407 l3408 => k0 l3401 b3402 i3403 l3404 l3405 l3406 l3407 l3408)
          (fun l3409 i3410 l3411 l3412 l3413 l3414 l3415 => k1 l3409 i3410 l3411 l3412 l3413 l3414 l3415)
          N x0 x1 (0 : Int) i3382 l3383 l3384 l3385 x11 x12 i3381 x20 x21 x22 x23 x24 x25 x6 x27))
        (wj2
         (fun l3416 b3417 i3418 l3419 l3420 l3421 l3422 l3423 => k0 l3416 b3417 i3418 l3419 l3420 l3421 l3422 l3423)
         (fun l3424 i3425 l3426 l3427 l3428 l3429 l3430 => k1 l3424 i3425 l3426 l3427 l3428 l3429 l3430)
         N x0 x1 (2 : Int) i3382 l3383 l3384 l3385 x11 x12 i3381 x20 x21 x22 x23 x24 x25 x6 x27)))
      (br (decide (x13 = (17 : Int)))
       (c1 x14 x2 x10 x8 x9
        (fun i3431 i3432 l3433 l3434 l3435 => c7 x14
         (fun b3436 => br (!(!b3436))
          (br (decide (x14 < x5))
           (wj2
            (fun l3437 b3438 i3439 l3440 l3441 l3442 l3443 l3444 => k0 l3437 b3438 i3439 l3440 l3441 l3442 l3443 l3444)
            (fun l3445 i3446 l3447 l3448 l3449 l3450 l3451 => k1 l3445 i3446 l3447 l3448 l3449 l3450 l3451)
            N x0 x1 (2 : Int) i3432 l3433 l3434 l3435 x11 x12 i3431 x20 x21 x22 x23 x24 x25 x14 x27)
           (wj2
            (fun l3452 b3453 i3454 l3455 l3456 l3457 l3458 l3459 => k0 l3452 b3453 i3454 l3455 l3456 l3457 l3458 l3459)
            (fun l3460 i3461 l3462 l3463 l3464 l3465 l3466 => k1 l3460 i3461 l3462 l3463 l3464 l3465 l3466)
            N x0 x1 (0 : Int) i3432 l3433 l3434 l3435 x11 x12 i3431 x20 x21 x22 x23 x24 x25 x14 x27))
          (wj2
           (fun l3467 b3468 i3469 l3470 l3471 l3472 l3473 l3474 => k0 l3467 b3468 i3469 l3470 l3471 l3472 l3473 l3474)
           (fun l3475 i3476 l3477 l3478 l3479 l3480 l3481 => k1 l3475 i3476 l3477 l3478 l3479 l3480 l3481)
           N x0 x1 (2 : Int) i3432 l3433 l3434 l3435 x11 x12 i3431 x20 x21 x22 x23 x24 x25 x14 x27))))
       (br (decide (x13 = (18 : Int)))
        (c0 x14 x2 x10 x8 x9
         (fun i3482 i3483 l3484 l3485 l3486 => wj3
          (fun l3487 i3488 i3489 i3490 l3491 l3492 l3493 l3494 l3495 i3496 i3497 i3498 i3499 i3500 i3501 i3502 i3503 l3504 => wj2
           (fun l3505 b3506 i3507 l3508 l3509 l3510 l3511 l3512 => k0 l3505 b3506 i3507 l3508 l3509 l3510 l3511 l3512)
           (fun l3513 i3514 l3515 l3516 l3517 l3518 l3519 => k1 l3513 i3514 l3515 l3516 l3517 l3518 l3519)
           N l3487 i3488 i3489 i3490 l3491 l3492 l3493 l3494 l3495 i3496 i3497 i3498 i3499 i3500 i3501 i3502 i3503 l3504)
          N x0 x1 x5 (0 : Int) i3483 l3484 l3485 l3486 x11 x12 x13 x14 x15 x16 x17 x18 i3482 x20 x21 x22 x23 x24 x25 x14 x27))
        (c3 x13 x2 x2 x10 x8 x9
         (fun i3520 i3521 l3522 l3523 l3524 => wj2
          (fun l3525 b3526 i3527 l3528 l3529 l3530 l3531 l3532 => k0 l3525 b3526 i3527 l3528 l3529 l3530 l3531 l3532)
          (fun l3533 i3534 l3535 l3536 l3537 l3538 l3539 => k1 l3533 i3534 l3535 l3536 l3537 l3538 l3539)
          N x0 x1 (5 : Int) i3521 l3522 l3523 l3524 x11 x12 x19 x20 x21 x22 x23 x24 x25 x26 x27))))))))
noncomputable def law2_Build_4694_lj2_T0 (N : Nat) (c0 : term_Arena_Cut_99d8_Ty) (c1 : term_Arena_Ext_99d8_Ty) (c2 : term_Arena_Ite_12d2_Ty) (c3 : term_Arena_Two_12d2_Ty) (c4 : term_Arena_Not_43b4_Ty) (c5 : term_Arena_Var_99d8_Ty) (c6 : term_Arena_Width_43b4_Ty) (c7 : ref1_May_Ty) (c8 : term_Arena_Const_2c81_Ty) (wj3 : law2_Build_4694_lj3_Ty) {R : Type} (k0 : (List ((Int) × ((Int) × ((Int) × ((Int) × ((Int) × (Int))))))) → (Bool) → (Int) → (List (((Int) × ((Int) × ((Int) × ((Int) × ((Int) × (Int)))))) × (Int))) → (List ((Int) × (Int))) → (List ((Int) × ((Int) × ((Int) × ((Int) × ((Int) × (Int))))))) → (List ((Int) × (((Int) × ((Int) × ((Int) × ((Int) × ((Int) × (Int)))))) × ((Int) × ((Int) × ((Int) × (Int))))))) → (List (Int)) → Option R) (k1 : (List ((Int) × ((Int) × ((Int) × ((Int) × ((Int) × (Int))))))) → (Int) → (List (((Int) × ((Int) × ((Int) × ((Int) × ((Int) × (Int)))))) × (Int))) → (List ((Int) × (Int))) → (List ((Int) × ((Int) × ((Int) × ((Int) × ((Int) × (Int))))))) → (List ((Int) × (((Int) × ((Int) × ((Int) × ((Int) × ((Int) × (Int)))))) × ((Int) × ((Int) × ((Int) × (Int))))))) → (List (Int)) → Option R) (x0 : List ((Int) × ((Int) × ((Int) × ((Int) × ((Int) × (Int))))))) (x1 : Int) (x2 : Int) (x3 : Int) (x4 : List (((Int) × ((Int) × ((Int) × ((Int) × ((Int) × (Int)))))) × (Int))) (x5 : List ((Int) × (Int))) (x6 : List ((Int) × ((Int) × ((Int) × ((Int) × ((Int) × (Int))))))) (x7 : List ((Int) × (((Int) × ((Int) × ((Int) × ((Int) × ((Int) × (Int)))))) × ((Int) × ((Int) × ((Int) × (Int))))))) (x8 : List (Int)) (x9 : Int) (x10 : Int) (x11 : Int) (x12 : Int) (x13 : Int) (x14 : Int) (x15 : Int) (x16 : Int) (x17 : List (Int)) : Option R :=
  br (!(decide (x3 = x2)))
  (k0 x0 false x1 x4 x5 x6 x7 x8)
  (br (decide (x3 = (0 : Int)))
   (c6 x9 x6 x4 x5
    (fun i2991 l2992 l2993 l2994 => br (decide (x16 = x16))
     (br (!(decide (i2991 = x16)))
      (k0 x0 false x1 l2993 l2994 l2992 x7 x8)
      (br (((fits (0 : Nat) (List.length x7) x7) && (decide ((((List.length x7) + (1 : Nat)) * (64 : Nat)) ≤ (70368744177664 : Nat)))) && true)
       (k1 x0 x1 l2993 l2994 l2992 ((sub x7 (0 : Nat) (List.length x7)) ++ ((x9 , ((x10 , (x11 , (x12 , (x13 , (x14 , x15))))) , (x16 , ((List.getD x17 (0 : Nat) (0 : Int)) , ((List.getD x17 (1 : Nat) (0 : Int)) , (List.getD x17 (2 : Nat) (0 : Int))))))) :: ([] : List (((Sh.int IntKind.i64).pair
    (((Sh.int IntKind.i64).pair
          ((Sh.int IntKind.i64).pair
            ((Sh.int IntKind.u16).pair ((Sh.int IntKind.u8).pair ((Sh.int IntKind.u8).pair (Sh.int IntKind.u8)))))).pair
      ((Sh.int IntKind.i64).pair (nest (Sh.int IntKind.i64) 3)))).T)))) x8)
       (none)))
     (none)))
   (k1 x0 x1 x4 x5 x6 x7 x8))
noncomputable def law2_Build_4694_lj3_T0 (N : Nat) (c0 : term_Arena_Cut_99d8_Ty) (c1 : term_Arena_Ext_99d8_Ty) (c2 : term_Arena_Ite_12d2_Ty) (c3 : term_Arena_Two_12d2_Ty) (c4 : term_Arena_Not_43b4_Ty) (c5 : term_Arena_Var_99d8_Ty) (c6 : term_Arena_Width_43b4_Ty) (c7 : ref1_May_Ty) (c8 : term_Arena_Const_2c81_Ty) {R : Type} (k0 : (List ((Int) × ((Int) × ((Int) × ((Int) × ((Int) × (Int))))))) → (Int) → (Int) → (Int) → (List (((Int) × ((Int) × ((Int) × ((Int) × ((Int) × (Int)))))) × (Int))) → (List ((Int) × (Int))) → (List ((Int) × ((Int) × ((Int) × ((Int) × ((Int) × (Int))))))) → (List ((Int) × (((Int) × ((Int) × ((Int) × ((Int) × ((Int) × (Int)))))) × ((Int) × ((Int) × ((Int) × (Int))))))) → (List (Int)) → (Int) → (Int) → (Int) → (Int) → (Int) → (Int) → (Int) → (Int) → (List (Int)) → Option R) (x0 : List ((Int) × ((Int) × ((Int) × ((Int) × ((Int) × (Int))))))) (x1 : Int) (x2 : Int) (x3 : Int) (x4 : Int) (x5 : List (((Int) × ((Int) × ((Int) × ((Int) × ((Int) × (Int)))))) × (Int))) (x6 : List ((Int) × (Int))) (x7 : List ((Int) × ((Int) × ((Int) × ((Int) × ((Int) × (Int))))))) (x8 : List ((Int) × (((Int) × ((Int) × ((Int) × ((Int) × ((Int) × (Int)))))) × ((Int) × ((Int) × ((Int) × (Int))))))) (x9 : List (Int)) (x10 : Int) (x11 : Int) (x12 : Int) (x13 : Int) (x14 : Int) (x15 : Int) (x16 : Int) (x17 : Int) (x18 : Int) (x19 : Int) (x20 : Int) (x21 : Int) (x22 : Int) (x23 : Int) (x24 : List (Int)) : Option R :=
  c7 x11
  (fun b3327 => br (!(!b3327))
   (br (decide (x2 < x11))
    (k0 x0 x1 (2 : Int) x4 x5 x6 x7 x8 x9 x16 x17 x18 x19 x20 x21 x22 x23 x24)
    (k0 x0 x1 x3 x4 x5 x6 x7 x8 x9 x16 x17 x18 x19 x20 x21 x22 x23 x24))
   (k0 x0 x1 (2 : Int) x4 x5 x6 x7 x8 x9 x16 x17 x18 x19 x20 x21 x22 x23 x24))
noncomputable def law2_Build_4694_lj3 (N : Nat) {R : Type} (k0 : (List ((Int) × ((Int) × ((Int) × ((Int) × ((Int) × (Int))))))) → (Int) → (Int) → (Int) → (List (((Int) × ((Int) × ((Int) × ((Int) × ((Int) × (Int)))))) × (Int))) → (List ((Int) × (Int))) → (List ((Int) × ((Int) × ((Int) × ((Int) × ((Int) × (Int))))))) → (List ((Int) × (((Int) × ((Int) × ((Int) × ((Int) × ((Int) × (Int)))))) × ((Int) × ((Int) × ((Int) × (Int))))))) → (List (Int)) → (Int) → (Int) → (Int) → (Int) → (Int) → (Int) → (Int) → (Int) → (List (Int)) → Option R) (_ : Nat) (x0 : List ((Int) × ((Int) × ((Int) × ((Int) × ((Int) × (Int))))))) (x1 : Int) (x2 : Int) (x3 : Int) (x4 : Int) (x5 : List (((Int) × ((Int) × ((Int) × ((Int) × ((Int) × (Int)))))) × (Int))) (x6 : List ((Int) × (Int))) (x7 : List ((Int) × ((Int) × ((Int) × ((Int) × ((Int) × (Int))))))) (x8 : List ((Int) × (((Int) × ((Int) × ((Int) × ((Int) × ((Int) × (Int)))))) × ((Int) × ((Int) × ((Int) × (Int))))))) (x9 : List (Int)) (x10 : Int) (x11 : Int) (x12 : Int) (x13 : Int) (x14 : Int) (x15 : Int) (x16 : Int) (x17 : Int) (x18 : Int) (x19 : Int) (x20 : Int) (x21 : Int) (x22 : Int) (x23 : Int) (x24 : List (Int)) : Option R := law2_Build_4694_lj3_T0 N (@term_Arena_Cut_99d8 N) (@term_Arena_Ext_99d8 N) (@term_Arena_Ite_12d2 N) (@term_Arena_Two_12d2 N) (@term_Arena_Not_43b4 N) (@term_Arena_Var_99d8 N) (@term_Arena_Width_43b4 N) (@ref1_May N) (@term_Arena_Const_2c81 N) k0 x0 x1 x2 x3 x4 x5 x6 x7 x8 x9 x10 x11 x12 x13 x14 x15 x16 x17 x18 x19 x20 x21 x22 x23 x24
noncomputable def law2_Build_4694_lj2 (N : Nat) {R : Type} (k0 : (List ((Int) × ((Int) × ((Int) × ((Int) × ((Int) × (Int))))))) → (Bool) → (Int) → (List (((Int) × ((Int) × ((Int) × ((Int) × ((Int) × (Int)))))) × (Int))) → (List ((Int) × (Int))) → (List ((Int) × ((Int) × ((Int) × ((Int) × ((Int) × (Int))))))) → (List ((Int) × (((Int) × ((Int) × ((Int) × ((Int) × ((Int) × (Int)))))) × ((Int) × ((Int) × ((Int) × (Int))))))) → (List (Int)) → Option R) (k1 : (List ((Int) × ((Int) × ((Int) × ((Int) × ((Int) × (Int))))))) → (Int) → (List (((Int) × ((Int) × ((Int) × ((Int) × ((Int) × (Int)))))) × (Int))) → (List ((Int) × (Int))) → (List ((Int) × ((Int) × ((Int) × ((Int) × ((Int) × (Int))))))) → (List ((Int) × (((Int) × ((Int) × ((Int) × ((Int) × ((Int) × (Int)))))) × ((Int) × ((Int) × ((Int) × (Int))))))) → (List (Int)) → Option R) (_ : Nat) (x0 : List ((Int) × ((Int) × ((Int) × ((Int) × ((Int) × (Int))))))) (x1 : Int) (x2 : Int) (x3 : Int) (x4 : List (((Int) × ((Int) × ((Int) × ((Int) × ((Int) × (Int)))))) × (Int))) (x5 : List ((Int) × (Int))) (x6 : List ((Int) × ((Int) × ((Int) × ((Int) × ((Int) × (Int))))))) (x7 : List ((Int) × (((Int) × ((Int) × ((Int) × ((Int) × ((Int) × (Int)))))) × ((Int) × ((Int) × ((Int) × (Int))))))) (x8 : List (Int)) (x9 : Int) (x10 : Int) (x11 : Int) (x12 : Int) (x13 : Int) (x14 : Int) (x15 : Int) (x16 : Int) (x17 : List (Int)) : Option R := law2_Build_4694_lj2_T0 N (@term_Arena_Cut_99d8 N) (@term_Arena_Ext_99d8 N) (@term_Arena_Ite_12d2 N) (@term_Arena_Two_12d2 N) (@term_Arena_Not_43b4 N) (@term_Arena_Var_99d8 N) (@term_Arena_Width_43b4 N) (@ref1_May N) (@term_Arena_Const_2c81 N) (@law2_Build_4694_lj3 N) k0 k1 x0 x1 x2 x3 x4 x5 x6 x7 x8 x9 x10 x11 x12 x13 x14 x15 x16 x17
noncomputable def law2_Build_4694_lj1 (N : Nat) {R : Type} (k0 : (List ((Int) × ((Int) × ((Int) × ((Int) × ((Int) × (Int))))))) → (Bool) → (Int) → (List (((Int) × ((Int) × ((Int) × ((Int) × ((Int) × (Int)))))) × (Int))) → (List ((Int) × (Int))) → (List ((Int) × ((Int) × ((Int) × ((Int) × ((Int) × (Int))))))) → (List ((Int) × (((Int) × ((Int) × ((Int) × ((Int) × ((Int) × (Int)))))) × ((Int) × ((Int) × ((Int) × (Int))))))) → (List (Int)) → Option R) (k1 : (List ((Int) × ((Int) × ((Int) × ((Int) × ((Int) × (Int))))))) → (Int) → (List (((Int) × ((Int) × ((Int) × ((Int) × ((Int) × (Int)))))) × (Int))) → (List ((Int) × (Int))) → (List ((Int) × ((Int) × ((Int) × ((Int) × ((Int) × (Int))))))) → (List ((Int) × (((Int) × ((Int) × ((Int) × ((Int) × ((Int) × (Int)))))) × ((Int) × ((Int) × ((Int) × (Int))))))) → (List (Int)) → Option R) (_ : Nat) (x0 : List ((Int) × ((Int) × ((Int) × ((Int) × ((Int) × (Int))))))) (x1 : Int) (x2 : Int) (x3 : Int) (x4 : Int) (x5 : Int) (x6 : Int) (x7 : Int) (x8 : List (((Int) × ((Int) × ((Int) × ((Int) × ((Int) × (Int)))))) × (Int))) (x9 : List ((Int) × (Int))) (x10 : List ((Int) × ((Int) × ((Int) × ((Int) × ((Int) × (Int))))))) (x11 : List ((Int) × (((Int) × ((Int) × ((Int) × ((Int) × ((Int) × (Int)))))) × ((Int) × ((Int) × ((Int) × (Int))))))) (x12 : List (Int)) (x13 : Int) (x14 : Int) (x15 : Int) (x16 : Int) (x17 : Int) (x18 : Int) (x19 : Int) (x20 : Int) (x21 : Int) (x22 : Int) (x23 : Int) (x24 : Int) (x25 : Int) (x26 : Int) (x27 : List (Int)) : Option R := law2_Build_4694_lj1_T0 N (@term_Arena_Cut_99d8 N) (@term_Arena_Ext_99d8 N) (@term_Arena_Ite_12d2 N) (@term_Arena_Two_12d2 N) (@term_Arena_Not_43b4 N) (@term_Arena_Var_99d8 N) (@term_Arena_Width_43b4 N) (@ref1_May N) (@term_Arena_Const_2c81 N) (@law2_Build_4694_lj2 N) (@law2_Build_4694_lj3 N) k0 k1 x0 x1 x2 x3 x4 x5 x6 x7 x8 x9 x10 x11 x12 x13 x14 x15 x16 x17 x18 x19 x20 x21 x22 x23 x24 x25 x26 x27
noncomputable def law2_Build_4694_lj0 (N : Nat) {R : Type} (k0 : (List ((Int) × ((Int) × ((Int) × ((Int) × ((Int) × (Int))))))) → (Int) → (List (((Int) × ((Int) × ((Int) × ((Int) × ((Int) × (Int)))))) × (Int))) → (List ((Int) × (Int))) → (List ((Int) × ((Int) × ((Int) × ((Int) × ((Int) × (Int))))))) → (List ((Int) × (((Int) × ((Int) × ((Int) × ((Int) × ((Int) × (Int)))))) × ((Int) × ((Int) × ((Int) × (Int))))))) → (List (Int)) → Option R) (k1 : (List ((Int) × ((Int) × ((Int) × ((Int) × ((Int) × (Int))))))) → (Bool) → (Int) → (List (((Int) × ((Int) × ((Int) × ((Int) × ((Int) × (Int)))))) × (Int))) → (List ((Int) × (Int))) → (List ((Int) × ((Int) × ((Int) × ((Int) × ((Int) × (Int))))))) → (List ((Int) × (((Int) × ((Int) × ((Int) × ((Int) × ((Int) × (Int)))))) × ((Int) × ((Int) × ((Int) × (Int))))))) → (List (Int)) → Option R) (k2 : (List ((Int) × ((Int) × ((Int) × ((Int) × ((Int) × (Int))))))) → (Int) → (List (((Int) × ((Int) × ((Int) × ((Int) × ((Int) × (Int)))))) × (Int))) → (List ((Int) × (Int))) → (List ((Int) × ((Int) × ((Int) × ((Int) × ((Int) × (Int))))))) → (List ((Int) × (((Int) × ((Int) × ((Int) × ((Int) × ((Int) × (Int)))))) × ((Int) × ((Int) × ((Int) × (Int))))))) → (List (Int)) → Option R) (_ : Nat) (x0 : List ((Int) × ((Int) × ((Int) × ((Int) × ((Int) × (Int))))))) (x1 : Int) (x2 : List (((Int) × ((Int) × ((Int) × ((Int) × ((Int) × (Int)))))) × (Int))) (x3 : List ((Int) × (Int))) (x4 : List ((Int) × ((Int) × ((Int) × ((Int) × ((Int) × (Int))))))) (x5 : List ((Int) × (((Int) × ((Int) × ((Int) × ((Int) × ((Int) × (Int)))))) × ((Int) × ((Int) × ((Int) × (Int))))))) (x6 : List (Int)) (x7 : Int) (x8 : Int) (x9 : Int) (x10 : Int) (x11 : Int) (x12 : Int) (x13 : Int) (x14 : Int) (x15 : Int) (x16 : Int) (x17 : Int) (x18 : Int) (x19 : Int) (x20 : Int) (x21 : List (Int)) : Option R := law2_Build_4694_lj0_T0 N (@term_Arena_Cut_99d8 N) (@term_Arena_Ext_99d8 N) (@term_Arena_Ite_12d2 N) (@term_Arena_Two_12d2 N) (@term_Arena_Not_43b4 N) (@term_Arena_Var_99d8 N) (@term_Arena_Width_43b4 N) (@ref1_May N) (@term_Arena_Const_2c81 N) (@law2_Build_4694_lj1 N) (@law2_Build_4694_lj2 N) (@law2_Build_4694_lj3 N) k0 k1 k2 x0 x1 x2 x3 x4 x5 x6 x7 x8 x9 x10 x11 x12 x13 x14 x15 x16 x17 x18 x19 x20 x21
noncomputable def law2_Build_4694_l0 (N : Nat) {R : Type} (k0 : (Bool) → (List (((Int) × ((Int) × ((Int) × ((Int) × ((Int) × (Int)))))) × (Int))) → (List ((Int) × (Int))) → (List ((Int) × ((Int) × ((Int) × ((Int) × ((Int) × (Int))))))) → (List ((Int) × (((Int) × ((Int) × ((Int) × ((Int) × ((Int) × (Int)))))) × ((Int) × ((Int) × ((Int) × (Int))))))) → Option R) (k1 : (List (((Int) × ((Int) × ((Int) × ((Int) × ((Int) × (Int)))))) × (Int))) → (List ((Int) × (Int))) → (List ((Int) × ((Int) × ((Int) × ((Int) × ((Int) × (Int))))))) → (List ((Int) × (((Int) × ((Int) × ((Int) × ((Int) × ((Int) × (Int)))))) × ((Int) × ((Int) × ((Int) × (Int))))))) → Option R) : Nat → (List ((Int) × ((Int) × ((Int) × ((Int) × ((Int) × (Int))))))) → (Int) → (List (((Int) × ((Int) × ((Int) × ((Int) × ((Int) × (Int)))))) × (Int))) → (List ((Int) × (Int))) → (List ((Int) × ((Int) × ((Int) × ((Int) × ((Int) × (Int))))))) → (List ((Int) × (((Int) × ((Int) × ((Int) × ((Int) × ((Int) × (Int)))))) × ((Int) × ((Int) × ((Int) × (Int))))))) → (List (Int)) → Option R
  | 0, _, _, _, _, _, _, _ => none
  | n + 1, x0, x1, x2, x3, x4, x5, x6 => law2_Build_4694_l0_T0 N (@term_Arena_Cut_99d8 N) (@term_Arena_Ext_99d8 N) (@term_Arena_Ite_12d2 N) (@term_Arena_Two_12d2 N) (@term_Arena_Not_43b4 N) (@term_Arena_Var_99d8 N) (@term_Arena_Width_43b4 N) (@ref1_May N) (@term_Arena_Const_2c81 N) (@law2_Build_4694_lj0 N) (@law2_Build_4694_lj1 N) (@law2_Build_4694_lj2 N) (@law2_Build_4694_lj3 N) (fun x0 x1 x2 x3 x4 x5 x6 => law2_Build_4694_l0 N k0 k1 n x0 x1 x2 x3 x4 x5 x6) k0 k1 x0 x1 x2 x3 x4 x5 x6
noncomputable def law2_Build_4694_T (N : Nat) (c0 : term_Arena_Cut_99d8_Ty) (c1 : term_Arena_Ext_99d8_Ty) (c2 : term_Arena_Ite_12d2_Ty) (c3 : term_Arena_Two_12d2_Ty) (c4 : term_Arena_Not_43b4_Ty) (c5 : term_Arena_Var_99d8_Ty) (c6 : term_Arena_Width_43b4_Ty) (c7 : ref1_May_Ty) (c8 : term_Arena_Const_2c81_Ty) (w0 : law2_Build_4694_l0_Ty) (wj0 : law2_Build_4694_lj0_Ty) (wj1 : law2_Build_4694_lj1_Ty) (wj2 : law2_Build_4694_lj2_Ty) (wj3 : law2_Build_4694_lj3_Ty) {R : Type} (x0 : List ((Int) × ((Int) × ((Int) × ((Int) × ((Int) × (Int))))))) (x1 : List ((Int) × ((Int) × ((Int) × ((Int) × ((Int) × (Int))))))) (x2 : List (((Int) × ((Int) × ((Int) × ((Int) × ((Int) × (Int)))))) × (Int))) (x3 : List ((Int) × (Int))) (k0 : (Bool) → (List (((Int) × ((Int) × ((Int) × ((Int) × ((Int) × (Int)))))) × (Int))) → (List ((Int) × (Int))) → (List ((Int) × ((Int) × ((Int) × ((Int) × ((Int) × (Int))))))) → (List ((Int) × (((Int) × ((Int) × ((Int) × ((Int) × ((Int) × (Int)))))) × ((Int) × ((Int) × ((Int) × (Int))))))) → Option R) : Option R :=
  w0
  (fun b3674 l3675 l3676 l3677 l3678 => k0 b3674 l3675 l3676 l3677 ([] : List (((Sh.int IntKind.i64).pair
    (((Sh.int IntKind.i64).pair
          ((Sh.int IntKind.i64).pair
            ((Sh.int IntKind.u16).pair ((Sh.int IntKind.u8).pair ((Sh.int IntKind.u8).pair (Sh.int IntKind.u8)))))).pair
      ((Sh.int IntKind.i64).pair ((Sh.int IntKind.i64).pair ((Sh.int IntKind.i64).pair (Sh.int IntKind.i64)))))).T)))
  (fun l3679 l3680 l3681 l3682 => k0 true l3679 l3680 l3681 l3682)
  N x0 (0 : Int) x2 x3 x1 ([] : List (((Sh.int IntKind.i64).pair
    (((Sh.int IntKind.i64).pair
          ((Sh.int IntKind.i64).pair
            ((Sh.int IntKind.u16).pair ((Sh.int IntKind.u8).pair ((Sh.int IntKind.u8).pair (Sh.int IntKind.u8)))))).pair
      ((Sh.int IntKind.i64).pair ((Sh.int IntKind.i64).pair ((Sh.int IntKind.i64).pair (Sh.int IntKind.i64)))))).T)) (List.replicate (64 : Nat) (0 : Int))
noncomputable def law2_Build_4694 (N : Nat) {R : Type} (x0 : List ((Int) × ((Int) × ((Int) × ((Int) × ((Int) × (Int))))))) (x1 : List ((Int) × ((Int) × ((Int) × ((Int) × ((Int) × (Int))))))) (x2 : List (((Int) × ((Int) × ((Int) × ((Int) × ((Int) × (Int)))))) × (Int))) (x3 : List ((Int) × (Int))) (k0 : (Bool) → (List (((Int) × ((Int) × ((Int) × ((Int) × ((Int) × (Int)))))) × (Int))) → (List ((Int) × (Int))) → (List ((Int) × ((Int) × ((Int) × ((Int) × ((Int) × (Int))))))) → (List ((Int) × (((Int) × ((Int) × ((Int) × ((Int) × ((Int) × (Int)))))) × ((Int) × ((Int) × ((Int) × (Int))))))) → Option R) : Option R := law2_Build_4694_T N (@term_Arena_Cut_99d8 N) (@term_Arena_Ext_99d8 N) (@term_Arena_Ite_12d2 N) (@term_Arena_Two_12d2 N) (@term_Arena_Not_43b4 N) (@term_Arena_Var_99d8 N) (@term_Arena_Width_43b4 N) (@ref1_May N) (@term_Arena_Const_2c81 N) (@law2_Build_4694_l0 N) (@law2_Build_4694_lj0 N) (@law2_Build_4694_lj1 N) (@law2_Build_4694_lj2 N) (@law2_Build_4694_lj3 N) x0 x1 x2 x3 k0
abbrev term_Arena_quick_520c_Ty : Type 1 := {R : Type} → (Int) → (List ((Int) × ((Int) × ((Int) × ((Int) × ((Int) × (Int))))))) → (List (((Int) × ((Int) × ((Int) × ((Int) × ((Int) × (Int)))))) × (Int))) → (List ((Int) × (Int))) → (List (Int)) → (Int) → ((Int) → (Bool) → (List ((Int) × ((Int) × ((Int) × ((Int) × ((Int) × (Int))))))) → (List (((Int) × ((Int) × ((Int) × ((Int) × ((Int) × (Int)))))) × (Int))) → (List ((Int) × (Int))) → (List (Int)) → (Int) → Option R) → Option R
noncomputable def term_Arena_quick_520c_T (N : Nat) (c0 : term_Value_7344_Ty) (c1 : term_Arena_Width_43b4_Ty) (c2 : term_Arena_quick_520c_Ty) {R : Type} (x0 : Int) (x1 : List ((Int) × ((Int) × ((Int) × ((Int) × ((Int) × (Int))))))) (x2 : List (((Int) × ((Int) × ((Int) × ((Int) × ((Int) × (Int)))))) × (Int))) (x3 : List ((Int) × (Int))) (x4 : List (Int)) (x5 : Int) (k0 : (Int) → (Bool) → (List ((Int) × ((Int) × ((Int) × ((Int) × ((Int) × (Int))))))) → (List (((Int) × ((Int) × ((Int) × ((Int) × ((Int) × (Int)))))) × (Int))) → (List ((Int) × (Int))) → (List (Int)) → (Int) → Option R) : Option R :=
  br (decide (x0 = (0 : Int)))
  (k0 (0 : Int) true x1 x2 x3 x4 x5)
  (br (decide ((IntKind.wrap .i64 (x5 - (1 : Int))) < (0 : Int)))
   (k0 (0 : Int) false x1 x2 x3 x4 (IntKind.wrap .i64 (x5 - (1 : Int))))
   (br (inB (IntKind.wrap .i64 (x0 - (1 : Int))) (List.length x1))
    (br (decide ((Int.toNat (IntKind.wrap .i64 (x0 - (1 : Int)))) < (List.length x1)))
     (c2 (List.getD x1 (Int.toNat (IntKind.wrap .i64 (x0 - (1 : Int)))) ((0 : Int) , ((0 : Int) , ((0 : Int) , ((0 : Int) , ((0 : Int) , (0 : Int))))))).2.2.2.1 x1 x2 x3 x4 (IntKind.wrap .i64 (x5 - (1 : Int)))
      (fun i3884 b3885 l3886 l3887 l3888 l3889 i3890 => br (!b3885)
       (k0 (0 : Int) false l3886 l3887 l3888 l3889 i3890)
       (c2 (List.getD x1 (Int.toNat (IntKind.wrap .i64 (x0 - (1 : Int)))) ((0 : Int) , ((0 : Int) , ((0 : Int) , ((0 : Int) , ((0 : Int) , (0 : Int))))))).2.2.2.2.1 l3886 l3887 l3888 l3889 i3890
        (fun i3891 b3892 l3893 l3894 l3895 l3896 i3897 => br (!b3892)
         (k0 (0 : Int) false l3893 l3894 l3895 l3896 i3897)
         (c2 (List.getD x1 (Int.toNat (IntKind.wrap .i64 (x0 - (1 : Int)))) ((0 : Int) , ((0 : Int) , ((0 : Int) , ((0 : Int) , ((0 : Int) , (0 : Int))))))).2.2.2.2.2 l3893 l3894 l3895 l3896 i3897
          (fun i3898 b3899 l3900 l3901 l3902 l3903 i3904 => c1 (List.getD x1 (Int.toNat (IntKind.wrap .i64 (x0 - (1 : Int)))) ((0 : Int) , ((0 : Int) , ((0 : Int) , ((0 : Int) , ((0 : Int) , (0 : Int))))))).2.2.2.1 l3900 l3901 l3902
           (fun i3905 l3906 l3907 l3908 => br (decide ((List.getD x1 (Int.toNat (IntKind.wrap .i64 (x0 - (1 : Int)))) ((0 : Int) , ((0 : Int) , ((0 : Int) , ((0 : Int) , ((0 : Int) , (0 : Int))))))).1 = (List.getD x1 (Int.toNat (IntKind.wrap .i64 (x0 - (1 : Int)))) ((0 : Int) , ((0 : Int) , ((0 : Int) , ((0 : Int) , ((0 : Int) , (0 : Int))))))).1))
            (br (decide ((List.getD x1 (Int.toNat (IntKind.wrap .i64 (x0 - (1 : Int)))) ((0 : Int) , ((0 : Int) , ((0 : Int) , ((0 : Int) , ((0 : Int) , (0 : Int))))))).2.1 = (List.getD x1 (Int.toNat (IntKind.wrap .i64 (x0 - (1 : Int)))) ((0 : Int) , ((0 : Int) , ((0 : Int) , ((0 : Int) , ((0 : Int) , (0 : Int))))))).2.1))
             (br (decide ((List.getD x1 (Int.toNat (IntKind.wrap .i64 (x0 - (1 : Int)))) ((0 : Int) , ((0 : Int) , ((0 : Int) , ((0 : Int) , ((0 : Int) , (0 : Int))))))).2.2.1 = (List.getD x1 (Int.toNat (IntKind.wrap .i64 (x0 - (1 : Int)))) ((0 : Int) , ((0 : Int) , ((0 : Int) , ((0 : Int) , ((0 : Int) , (0 : Int))))))).2.2.1))
              (br (decide ((List.getD x1 (Int.toNat (IntKind.wrap .i64 (x0 - (1 : Int)))) ((0 : Int) , ((0 : Int) , ((0 : Int) , ((0 : Int) , ((0 : Int) , (0 : Int))))))).2.2.2.1 = (List.getD x1 (Int.toNat (IntKind.wrap .i64 (x0 - (1 : Int)))) ((0 : Int) , ((0 : Int) , ((0 : Int) , ((0 : Int) , ((0 : Int) , (0 : Int))))))).2.2.2.1))
               (br (decide ((List.getD x1 (Int.toNat (IntKind.wrap .i64 (x0 - (1 : Int)))) ((0 : Int) , ((0 : Int) , ((0 : Int) , ((0 : Int) , ((0 : Int) , (0 : Int))))))).2.2.2.2.1 = (List.getD x1 (Int.toNat (IntKind.wrap .i64 (x0 - (1 : Int)))) ((0 : Int) , ((0 : Int) , ((0 : Int) , ((0 : Int) , ((0 : Int) , (0 : Int))))))).2.2.2.2.1))
                (br (decide ((List.getD x1 (Int.toNat (IntKind.wrap .i64 (x0 - (1 : Int)))) ((0 : Int) , ((0 : Int) , ((0 : Int) , ((0 : Int) , ((0 : Int) , (0 : Int))))))).2.2.2.2.2 = (List.getD x1 (Int.toNat (IntKind.wrap .i64 (x0 - (1 : Int)))) ((0 : Int) , ((0 : Int) , ((0 : Int) , ((0 : Int) , ((0 : Int) , (0 : Int))))))).2.2.2.2.2))
                 (br (decide (i3884 = i3884))
                  (br (decide (i3891 = i3891))
                   (br (decide (i3898 = i3898))
                    (br (b3899 == b3899)
                     (c0 (List.getD x1 (Int.toNat (IntKind.wrap .i64 (x0 - (1 : Int)))) ((0 : Int) , ((0 : Int) , ((0 : Int) , ((0 : Int) , ((0 : Int) , (0 : Int))))))).1 (List.getD x1 (Int.toNat (IntKind.wrap .i64 (x0 - (1 : Int)))) ((0 : Int) , ((0 : Int) , ((0 : Int) , ((0 : Int) , ((0 : Int) , (0 : Int))))))).2.1 (List.getD x1 (Int.toNat (IntKind.wrap .i64 (x0 - (1 : Int)))) ((0 : Int) , ((0 : Int) , ((0 : Int) , ((0 : Int) , ((0 : Int) , (0 : Int))))))).2.2.1 (List.getD x1 (Int.toNat (IntKind.wrap .i64 (x0 - (1 : Int)))) ((0 : Int) , ((0 : Int) , ((0 : Int) , ((0 : Int) , ((0 : Int) , (0 : Int))))))).2.2.2.1 (List.getD x1 (Int.toNat (IntKind.wrap .i64 (x0 - (1 : Int)))) ((0 : Int) , ((0 : Int) , ((0 : Int) , ((0 : Int) , ((0 : Int) , (0 : Int))))))).2.2.2.2.1 (List.getD x1 (Int.toNat (IntKind.wrap .i64 (x0 - (1 : Int)))) ((0 : Int) , ((0 : Int) , ((0 : Int) , ((0 : Int) , ((0 : Int) , (0 : Int))))))).2.2.2.2.2 i3905 i3884 i3891 i3898 l3903
                      (fun i3913 l3914 => br (b3899 == b3899)
                       (k0 i3913 b3899 l3906 l3907 l3908 l3914 i3904)
                       (none)))
                     (none))
                    (none))
                   (none))
                  (none))
                 (none))
                (none))
               (none))
              (none))
             (none))
            (none))))))))
     (none))
    (none)))
structure G_term_Arena_quick_Rec : Type 1 where
  term_Arena_quick_520c : term_Arena_quick_520c_Ty
noncomputable def G_term_Arena_quick_rec (N : Nat) : Nat → G_term_Arena_quick_Rec
  | 0 => ⟨fun {R} _ _ _ _ _ _ _ => none⟩
  | n + 1 => ⟨fun {R} x0 x1 x2 x3 x4 x5 k0 => term_Arena_quick_520c_T N (@term_Value_7344 N) (@term_Arena_Width_43b4 N) (@G_term_Arena_quick_Rec.term_Arena_quick_520c (G_term_Arena_quick_rec N n)) x0 x1 x2 x3 x4 x5 k0⟩
noncomputable def term_Arena_quick_520c (N : Nat) {R : Type} (x0 : Int) (x1 : List ((Int) × ((Int) × ((Int) × ((Int) × ((Int) × (Int))))))) (x2 : List (((Int) × ((Int) × ((Int) × ((Int) × ((Int) × (Int)))))) × (Int))) (x3 : List ((Int) × (Int))) (x4 : List (Int)) (x5 : Int) (k0 : (Int) → (Bool) → (List ((Int) × ((Int) × ((Int) × ((Int) × ((Int) × (Int))))))) → (List (((Int) × ((Int) × ((Int) × ((Int) × ((Int) × (Int)))))) × (Int))) → (List ((Int) × (Int))) → (List (Int)) → (Int) → Option R) : Option R := (G_term_Arena_quick_rec N N).term_Arena_quick_520c x0 x1 x2 x3 x4 x5 k0
abbrev term_Arena_Eval_0112_l0_Ty : Type 1 := {R : Type} → ((Int) → (List ((Int) × ((Int) × ((Int) × ((Int) × ((Int) × (Int))))))) → (List (((Int) × ((Int) × ((Int) × ((Int) × ((Int) × (Int)))))) × (Int))) → (List ((Int) × (Int))) → (List (Int)) → (List (Int)) → Option R) → Nat → (Int) → (Int) → (Int) → (List ((Int) × ((Int) × ((Int) × ((Int) × ((Int) × (Int))))))) → (List (((Int) × ((Int) × ((Int) × ((Int) × ((Int) × (Int)))))) × (Int))) → (List ((Int) × (Int))) → (List (Int)) → (List (Int)) → (List (Int)) → Option R
abbrev term_Arena_Eval_0112_Ty : Type 1 := {R : Type} → (Int) → (List ((Int) × ((Int) × ((Int) × ((Int) × ((Int) × (Int))))))) → (List (((Int) × ((Int) × ((Int) × ((Int) × ((Int) × (Int)))))) × (Int))) → (List ((Int) × (Int))) → (List (Int)) → ((Int) → (List ((Int) × ((Int) × ((Int) × ((Int) × ((Int) × (Int))))))) → (List (((Int) × ((Int) × ((Int) × ((Int) × ((Int) × (Int)))))) × (Int))) → (List ((Int) × (Int))) → (List (Int)) → Option R) → Option R
noncomputable def term_Arena_Eval_0112_l0_T0 (N : Nat) (c0 : term_Value_7344_Ty) (c1 : term_Arena_Width_43b4_Ty) (c2 : term_Arena_Under_2549_Ty) (c3 : term_Arena_quick_520c_Ty) (c4 : term_Arena_there_2549_Ty) {R : Type} (nx : (Int) → (Int) → (Int) → (List ((Int) × ((Int) × ((Int) × ((Int) × ((Int) × (Int))))))) → (List (((Int) × ((Int) × ((Int) × ((Int) × ((Int) × (Int)))))) × (Int))) → (List ((Int) × (Int))) → (List (Int)) → (List (Int)) → (List (Int)) → Option R) (k0 : (Int) → (List ((Int) × ((Int) × ((Int) × ((Int) × ((Int) × (Int))))))) → (List (((Int) × ((Int) × ((Int) × ((Int) × ((Int) × (Int)))))) × (Int))) → (List ((Int) × (Int))) → (List (Int)) → (List (Int)) → Option R) (x0 : Int) (x1 : Int) (x2 : Int) (x3 : List ((Int) × ((Int) × ((Int) × ((Int) × ((Int) × (Int))))))) (x4 : List (((Int) × ((Int) × ((Int) × ((Int) × ((Int) × (Int)))))) × (Int))) (x5 : List ((Int) × (Int))) (x6 : List (Int)) (x7 : List (Int)) (x8 : List (Int)) : Option R :=
  br (decide (x2 < x1))
  (br (inB x2 (List.length x8))
   (br (decide ((Int.toNat x2) < (List.length x8)))
    (br (inB (IntKind.wrap .i64 ((List.getD x8 (Int.toNat x2) (0 : Int)) - (1 : Int))) (List.length x3))
     (br (decide ((Int.toNat (IntKind.wrap .i64 ((List.getD x8 (Int.toNat x2) (0 : Int)) - (1 : Int)))) < (List.length x3)))
      (br (inB (List.getD x3 (Int.toNat (IntKind.wrap .i64 ((List.getD x8 (Int.toNat x2) (0 : Int)) - (1 : Int)))) ((0 : Int) , ((0 : Int) , ((0 : Int) , ((0 : Int) , ((0 : Int) , (0 : Int))))))).2.2.2.1 (List.length x7))
       (br (decide ((Int.toNat (List.getD x3 (Int.toNat (IntKind.wrap .i64 ((List.getD x8 (Int.toNat x2) (0 : Int)) - (1 : Int)))) ((0 : Int) , ((0 : Int) , ((0 : Int) , ((0 : Int) , ((0 : Int) , (0 : Int))))))).2.2.2.1) < (List.length x7)))
        (br (inB (List.getD x3 (Int.toNat (IntKind.wrap .i64 ((List.getD x8 (Int.toNat x2) (0 : Int)) - (1 : Int)))) ((0 : Int) , ((0 : Int) , ((0 : Int) , ((0 : Int) , ((0 : Int) , (0 : Int))))))).2.2.2.2.1 (List.length x7))
         (br (decide ((Int.toNat (List.getD x3 (Int.toNat (IntKind.wrap .i64 ((List.getD x8 (Int.toNat x2) (0 : Int)) - (1 : Int)))) ((0 : Int) , ((0 : Int) , ((0 : Int) , ((0 : Int) , ((0 : Int) , (0 : Int))))))).2.2.2.2.1) < (List.length x7)))
          (br (inB (List.getD x3 (Int.toNat (IntKind.wrap .i64 ((List.getD x8 (Int.toNat x2) (0 : Int)) - (1 : Int)))) ((0 : Int) , ((0 : Int) , ((0 : Int) , ((0 : Int) , ((0 : Int) , (0 : Int))))))).2.2.2.2.2 (List.length x7))
           (br (decide ((Int.toNat (List.getD x3 (Int.toNat (IntKind.wrap .i64 ((List.getD x8 (Int.toNat x2) (0 : Int)) - (1 : Int)))) ((0 : Int) , ((0 : Int) , ((0 : Int) , ((0 : Int) , ((0 : Int) , (0 : Int))))))).2.2.2.2.2) < (List.length x7)))
            (c1 (List.getD x3 (Int.toNat (IntKind.wrap .i64 ((List.getD x8 (Int.toNat x2) (0 : Int)) - (1 : Int)))) ((0 : Int) , ((0 : Int) , ((0 : Int) , ((0 : Int) , ((0 : Int) , (0 : Int))))))).2.2.2.1 x3 x4 x5
             (fun i3927 l3928 l3929 l3930 => br (decide ((List.getD x8 (Int.toNat x2) (0 : Int)) = (List.getD x8 (Int.toNat x2) (0 : Int))))
              (br (decide ((List.getD x3 (Int.toNat (IntKind.wrap .i64 ((List.getD x8 (Int.toNat x2) (0 : Int)) - (1 : Int)))) ((0 : Int) , ((0 : Int) , ((0 : Int) , ((0 : Int) , ((0 : Int) , (0 : Int))))))).1 = (List.getD x3 (Int.toNat (IntKind.wrap .i64 ((List.getD x8 (Int.toNat x2) (0 : Int)) - (1 : Int)))) ((0 : Int) , ((0 : Int) , ((0 : Int) , ((0 : Int) , ((0 : Int) , (0 : Int))))))).1))
               (br (decide ((List.getD x3 (Int.toNat (IntKind.wrap .i64 ((List.getD x8 (Int.toNat x2) (0 : Int)) - (1 : Int)))) ((0 : Int) , ((0 : Int) , ((0 : Int) , ((0 : Int) , ((0 : Int) , (0 : Int))))))).2.1 = (List.getD x3 (Int.toNat (IntKind.wrap .i64 ((List.getD x8 (Int.toNat x2) (0 : Int)) - (1 : Int)))) ((0 : Int) , ((0 : Int) , ((0 : Int) , ((0 : Int) , ((0 : Int) , (0 : Int))))))).2.1))
                (br (decide ((List.getD x3 (Int.toNat (IntKind.wrap .i64 ((List.getD x8 (Int.toNat x2) (0 : Int)) - (1 : Int)))) ((0 : Int) , ((0 : Int) , ((0 : Int) , ((0 : Int) , ((0 : Int) , (0 : Int))))))).2.2.1 = (List.getD x3 (Int.toNat (IntKind.wrap .i64 ((List.getD x8 (Int.toNat x2) (0 : Int)) - (1 : Int)))) ((0 : Int) , ((0 : Int) , ((0 : Int) , ((0 : Int) , ((0 : Int) , (0 : Int))))))).2.2.1))
                 (br (decide ((List.getD x3 (Int.toNat (IntKind.wrap .i64 ((List.getD x8 (Int.toNat x2) (0 : Int)) - (1 : Int)))) ((0 : Int) , ((0 : Int) , ((0 : Int) , ((0 : Int) , ((0 : Int) , (0 : Int))))))).2.2.2.1 = (List.getD x3 (Int.toNat (IntKind.wrap .i64 ((List.getD x8 (Int.toNat x2) (0 : Int)) - (1 : Int)))) ((0 : Int) , ((0 : Int) , ((0 : Int) , ((0 : Int) , ((0 : Int) , (0 : Int))))))).2.2.2.1))
                  (br (decide ((List.getD x3 (Int.toNat (IntKind.wrap .i64 ((List.getD x8 (Int.toNat x2) (0 : Int)) - (1 : Int)))) ((0 : Int) , ((0 : Int) , ((0 : Int) , ((0 : Int) , ((0 : Int) , (0 : Int))))))).2.2.2.2.1 = (List.getD x3 (Int.toNat (IntKind.wrap .i64 ((List.getD x8 (Int.toNat x2) (0 : Int)) - (1 : Int)))) ((0 : Int) , ((0 : Int) , ((0 : Int) , ((0 : Int) , ((0 : Int) , (0 : Int))))))).2.2.2.2.1))
                   (br (decide ((List.getD x3 (Int.toNat (IntKind.wrap .i64 ((List.getD x8 (Int.toNat x2) (0 : Int)) - (1 : Int)))) ((0 : Int) , ((0 : Int) , ((0 : Int) , ((0 : Int) , ((0 : Int) , (0 : Int))))))).2.2.2.2.2 = (List.getD x3 (Int.toNat (IntKind.wrap .i64 ((List.getD x8 (Int.toNat x2) (0 : Int)) - (1 : Int)))) ((0 : Int) , ((0 : Int) , ((0 : Int) , ((0 : Int) , ((0 : Int) , (0 : Int))))))).2.2.2.2.2))
                    (br (decide ((List.getD x3 (Int.toNat (IntKind.wrap .i64 ((List.getD x8 (Int.toNat x2) (0 : Int)) - (1 : Int)))) ((0 : Int) , ((0 : Int) , ((0 : Int) , ((0 : Int) , ((0 : Int) , (0 : Int))))))).2.2.2.1 = (List.getD x3 (Int.toNat (IntKind.wrap .i64 ((List.getD x8 (Int.toNat x2) (0 : Int)) - (1 : Int)))) ((0 : Int) , ((0 : Int) , ((0 : Int) , ((0 : Int) , ((0 : Int) , (0 : Int))))))).2.2.2.1))
                     (br (inB (List.getD x3 (Int.toNat (IntKind.wrap .i64 ((List.getD x8 (Int.toNat x2) (0 : Int)) - (1 : Int)))) ((0 : Int) , ((0 : Int) , ((0 : Int) , ((0 : Int) , ((0 : Int) , (0 : Int))))))).2.2.2.1 (List.length x7))
                      (br (decide ((List.getD x3 (Int.toNat (IntKind.wrap .i64 ((List.getD x8 (Int.toNat x2) (0 : Int)) - (1 : Int)))) ((0 : Int) , ((0 : Int) , ((0 : Int) , ((0 : Int) , ((0 : Int) , (0 : Int))))))).2.2.2.1 = (List.getD x3 (Int.toNat (IntKind.wrap .i64 ((List.getD x8 (Int.toNat x2) (0 : Int)) - (1 : Int)))) ((0 : Int) , ((0 : Int) , ((0 : Int) , ((0 : Int) , ((0 : Int) , (0 : Int))))))).2.2.2.1))
                       (br (decide ((Int.toNat (List.getD x3 (Int.toNat (IntKind.wrap .i64 ((List.getD x8 (Int.toNat x2) (0 : Int)) - (1 : Int)))) ((0 : Int) , ((0 : Int) , ((0 : Int) , ((0 : Int) , ((0 : Int) , (0 : Int))))))).2.2.2.1) < (List.length x7)))
                        (br (decide ((List.getD x7 (Int.toNat (List.getD x3 (Int.toNat (IntKind.wrap .i64 ((List.getD x8 (Int.toNat x2) (0 : Int)) - (1 : Int)))) ((0 : Int) , ((0 : Int) , ((0 : Int) , ((0 : Int) , ((0 : Int) , (0 : Int))))))).2.2.2.1) (0 : Int)) = (List.getD x7 (Int.toNat (List.getD x3 (Int.toNat (IntKind.wrap .i64 ((List.getD x8 (Int.toNat x2) (0 : Int)) - (1 : Int)))) ((0 : Int) , ((0 : Int) , ((0 : Int) , ((0 : Int) , ((0 : Int) , (0 : Int))))))).2.2.2.1) (0 : Int))))
                         (br (decide ((List.getD x3 (Int.toNat (IntKind.wrap .i64 ((List.getD x8 (Int.toNat x2) (0 : Int)) - (1 : Int)))) ((0 : Int) , ((0 : Int) , ((0 : Int) , ((0 : Int) , ((0 : Int) , (0 : Int))))))).2.2.2.2.1 = (List.getD x3 (Int.toNat (IntKind.wrap .i64 ((List.getD x8 (Int.toNat x2) (0 : Int)) - (1 : Int)))) ((0 : Int) , ((0 : Int) , ((0 : Int) , ((0 : Int) , ((0 : Int) , (0 : Int))))))).2.2.2.2.1))
                          (br (inB (List.getD x3 (Int.toNat (IntKind.wrap .i64 ((List.getD x8 (Int.toNat x2) (0 : Int)) - (1 : Int)))) ((0 : Int) , ((0 : Int) , ((0 : Int) , ((0 : Int) , ((0 : Int) , (0 : Int))))))).2.2.2.2.1 (List.length x7))
                           (br (decide ((List.getD x3 (Int.toNat (IntKind.wrap .i64 ((List.getD x8 (Int.toNat x2) (0 : Int)) - (1 : Int)))) ((0 : Int) , ((0 : Int) , ((0 : Int) , ((0 : Int) , ((0 : Int) , (0 : Int))))))).2.2.2.2.1 = (List.getD x3 (Int.toNat (IntKind.wrap .i64 ((List.getD x8 (Int.toNat x2) (0 : Int)) - (1 : Int)))) ((0 : Int) , ((0 : Int) , ((0 : Int) , ((0 : Int) , ((0 : Int) , (0 : Int))))))).2.2.2.2.1))
                            (br (decide ((Int.toNat (List.getD x3 (Int.toNat (IntKind.wrap .i64 ((List.getD x8 (Int.toNat x2) (0 : Int)) - (1 : Int)))) ((0 : Int) , ((0 : Int) , ((0 : Int) , ((0 : Int) , ((0 : Int) , (0 : Int))))))).2.2.2.2.1) < (List.length x7)))
                             (br (decide ((List.getD x7 (Int.toNat (List.getD x3 (Int.toNat (IntKind.wrap .i64 ((List.getD x8 (Int.toNat x2) (0 : Int)) - (1 : Int)))) ((0 : Int) , ((0 : Int) , ((0 : Int) , ((0 : Int) , ((0 : Int) , (0 : Int))))))).2.2.2.2.1) (0 : Int)) = (List.getD x7 (Int.toNat (List.getD x3 (Int.toNat (IntKind.wrap .i64 ((List.getD x8 (Int.toNat x2) (0 : Int)) - (1 : Int)))) ((0 : Int) , ((0 : Int) , ((0 : Int) , ((0 : Int) , ((0 : Int) , (0 : Int))))))).2.2.2.2.1) (0 : Int))))
                              (br (decide ((List.getD x3 (Int.toNat (IntKind.wrap .i64 ((List.getD x8 (Int.toNat x2) (0 : Int)) - (1 : Int)))) ((0 : Int) , ((0 : Int) , ((0 : Int) , ((0 : Int) , ((0 : Int) , (0 : Int))))))).2.2.2.2.2 = (List.getD x3 (Int.toNat (IntKind.wrap .i64 ((List.getD x8 (Int.toNat x2) (0 : Int)) - (1 : Int)))) ((0 : Int) , ((0 : Int) , ((0 : Int) , ((0 : Int) , ((0 : Int) , (0 : Int))))))).2.2.2.2.2))
                               (br (inB (List.getD x3 (Int.toNat (IntKind.wrap .i64 ((List.getD x8 (Int.toNat x2) (0 : Int)) - (1 : Int)))) ((0 : Int) , ((0 : Int) , ((0 : Int) , ((0 : Int) , ((0 : Int) , (0 : Int))))))).2.2.2.2.2 (List.length x7))
                                (br (decide ((List.getD x3 (Int.toNat (IntKind.wrap .i64 ((List.getD x8 (Int.toNat x2) (0 : Int)) - (1 : Int)))) ((0 : Int) , ((0 : Int) , ((0 : Int) , ((0 : Int) , ((0 : Int) , (0 : Int))))))).2.2.2.2.2 = (List.getD x3 (Int.toNat (IntKind.wrap .i64 ((List.getD x8 (Int.toNat x2) (0 : Int)) - (1 : Int)))) ((0 : Int) , ((0 : Int) , ((0 : Int) , ((0 : Int) , ((0 : Int) , (0 : Int))))))).2.2.2.2.2))
                                 (br (decide ((Int.toNat (List.getD x3 (Int.toNat (IntKind.wrap .i64 ((List.getD x8 (Int.toNat x2) (0 : Int)) - (1 : Int)))) ((0 : Int) , ((0 : Int) , ((0 : Int) , ((0 : Int) , ((0 : Int) , (0 : Int))))))).2.2.2.2.2) < (List.length x7)))
                                  (br (decide ((List.getD x7 (Int.toNat (List.getD x3 (Int.toNat (IntKind.wrap .i64 ((List.getD x8 (Int.toNat x2) (0 : Int)) - (1 : Int)))) ((0 : Int) , ((0 : Int) , ((0 : Int) , ((0 : Int) , ((0 : Int) , (0 : Int))))))).2.2.2.2.2) (0 : Int)) = (List.getD x7 (Int.toNat (List.getD x3 (Int.toNat (IntKind.wrap .i64 ((List.getD x8 (Int.toNat x2) (0 : Int)) - (1 : Int)))) ((0 : Int) , ((0 : Int) , ((0 : Int) , ((0 : Int) , ((0 : Int) , (0 : Int))))))).2.2.2.2.2) (0 : Int))))
                                   (c0 (List.getD x3 (Int.toNat (IntKind.wrap .i64 ((List.getD x8 (Int.toNat x2) (0 : Int)) - (1 : Int)))) ((0 : Int) , ((0 : Int) , ((0 : Int) , ((0 : Int) , ((0 : Int) , (0 : Int))))))).1 (List.getD x3 (Int.toNat (IntKind.wrap .i64 ((List.getD x8 (Int.toNat x2) (0 : Int)) - (1 : Int)))) ((0 : Int) , ((0 : Int) , ((0 : Int) , ((0 : Int) , ((0 : Int) , (0 : Int))))))).2.1 (List.getD x3 (Int.toNat (IntKind.wrap .i64 ((List.getD x8 (Int.toNat x2) (0 : Int)) - (1 : Int)))) ((0 : Int) , ((0 : Int) , ((0 : Int) , ((0 : Int) , ((0 : Int) , (0 : Int))))))).2.2.1 (List.getD x3 (Int.toNat (IntKind.wrap .i64 ((List.getD x8 (Int.toNat x2) (0 : Int)) - (1 : Int)))) ((0 : Int) , ((0 : Int) , ((0 : Int) , ((0 : Int) , ((0 : Int) , (0 : Int))))))).2.2.2.1 (List.getD x3 (Int.toNat (IntKind.wrap .i64 ((List.getD x8 (Int.toNat x2) (0 : Int)) - (1 : Int)))) ((0 : Int) , ((0 : Int) , ((0 : Int) , ((0 : Int) , ((0 : Int) , (0 : Int))))))).2.2.2.2.1 (List.getD x3 (Int.toNat (IntKind.wrap .i64 ((List.getD x8 (Int.toNat x2) (0 : Int)) - (1 : Int)))) ((0 : Int) , ((0 : Int) , ((0 : Int) , ((0 : Int) , ((0 : Int) , (0 : Int))))))).2.2.2.2.2 i3927 (List.getD x7 (Int.toNat (List.getD x3 (Int.toNat (IntKind.wrap .i64 ((List.getD x8 (Int.toNat x2) (0 : Int)) - (1 : Int)))) ((0 : Int) , ((0 : Int) , ((0 : Int) , ((0 : Int) , ((0 : Int) , (0 : Int))))))).2.2.2.1) (0 : Int)) (List.getD x7 (Int.toNat (List.getD x3 (Int.toNat (IntKind.wrap .i64 ((List.getD x8 (Int.toNat x2) (0 : Int)) - (1 : Int)))) ((0 : Int) , ((0 : Int) , ((0 : Int) , ((0 : Int) , ((0 : Int) , (0 : Int))))))).2.2.2.2.1) (0 : Int)) (List.getD x7 (Int.toNat (List.getD x3 (Int.toNat (IntKind.wrap .i64 ((List.getD x8 (Int.toNat x2) (0 : Int)) - (1 : Int)))) ((0 : Int) , ((0 : Int) , ((0 : Int) , ((0 : Int) , ((0 : Int) , (0 : Int))))))).2.2.2.2.2) (0 : Int)) x6
                                    (fun i3931 l3932 => br (decide ((List.getD x8 (Int.toNat x2) (0 : Int)) = (List.getD x8 (Int.toNat x2) (0 : Int))))
                                     (br (inB (List.getD x8 (Int.toNat x2) (0 : Int)) (List.length x7))
                                      (br (decide ((Int.toNat (List.getD x8 (Int.toNat x2) (0 : Int))) < (List.length x7)))
                                       (nx x0 x1 (IntKind.wrap .i64 (x2 + (1 : Int))) l3928 l3929 l3930 l3932 (List.set x7 (Int.toNat (List.getD x8 (Int.toNat x2) (0 : Int))) i3931) x8)
                                       (none))
                                      (none))
                                     (none)))
                                   (none))
                                  (none))
                                 (none))
                                (none))
                               (none))
                              (none))
                             (none))
                            (none))
                           (none))
                          (none))
                         (none))
                        (none))
                       (none))
                      (none))
                     (none))
                    (none))
                   (none))
                  (none))
                 (none))
                (none))
               (none))
              (none)))
            (none))
           (none))
          (none))
         (none))
        (none))
       (none))
      (none))
     (none))
    (none))
   (none))
  (k0 x0 x3 x4 x5 x6 x7)
noncomputable def term_Arena_Eval_0112_l0 (N : Nat) {R : Type} (k0 : (Int) → (List ((Int) × ((Int) × ((Int) × ((Int) × ((Int) × (Int))))))) → (List (((Int) × ((Int) × ((Int) × ((Int) × ((Int) × (Int)))))) × (Int))) → (List ((Int) × (Int))) → (List (Int)) → (List (Int)) → Option R) : Nat → (Int) → (Int) → (Int) → (List ((Int) × ((Int) × ((Int) × ((Int) × ((Int) × (Int))))))) → (List (((Int) × ((Int) × ((Int) × ((Int) × ((Int) × (Int)))))) × (Int))) → (List ((Int) × (Int))) → (List (Int)) → (List (Int)) → (List (Int)) → Option R
  | 0, _, _, _, _, _, _, _, _, _ => none
  | n + 1, x0, x1, x2, x3, x4, x5, x6, x7, x8 => term_Arena_Eval_0112_l0_T0 N (@term_Value_7344 N) (@term_Arena_Width_43b4 N) (@term_Arena_Under_2549 N) (@term_Arena_quick_520c N) (@term_Arena_there_2549 N) (fun x0 x1 x2 x3 x4 x5 x6 x7 x8 => term_Arena_Eval_0112_l0 N k0 n x0 x1 x2 x3 x4 x5 x6 x7 x8) k0 x0 x1 x2 x3 x4 x5 x6 x7 x8
noncomputable def term_Arena_Eval_0112_T (N : Nat) (c0 : term_Value_7344_Ty) (c1 : term_Arena_Width_43b4_Ty) (c2 : term_Arena_Under_2549_Ty) (c3 : term_Arena_quick_520c_Ty) (c4 : term_Arena_there_2549_Ty) (w0 : term_Arena_Eval_0112_l0_Ty) {R : Type} (x0 : Int) (x1 : List ((Int) × ((Int) × ((Int) × ((Int) × ((Int) × (Int))))))) (x2 : List (((Int) × ((Int) × ((Int) × ((Int) × ((Int) × (Int)))))) × (Int))) (x3 : List ((Int) × (Int))) (x4 : List (Int)) (k0 : (Int) → (List ((Int) × ((Int) × ((Int) × ((Int) × ((Int) × (Int))))))) → (List (((Int) × ((Int) × ((Int) × ((Int) × ((Int) × (Int)))))) × (Int))) → (List ((Int) × (Int))) → (List (Int)) → Option R) : Option R :=
  c4 x1 x2 x3 (x0 :: ([] : List ((Sh.int IntKind.i64).T)))
  (fun b3879 l3880 l3881 l3882 l3883 => br (!b3879)
   (k0 (0 : Int) l3880 l3881 l3882 x4)
   (c3 x0 l3880 l3881 l3882 x4 (64 : Int)
    (fun i3915 b3916 l3917 l3918 l3919 l3920 i3921 => br b3916
     (k0 i3915 l3917 l3918 l3919 l3920)
     (br ((((decide ((0 : Int) ≤ (IntKind.wrap .i64 (x0 + (1 : Int))))) && (decide ((IntKind.wrap .i64 (x0 + (1 : Int))) ≤ (IntKind.wrap .i64 (x0 + (1 : Int)))))) && (decide (((IntKind.wrap .i64 (x0 + (1 : Int))) * (2 : Int)) ≤ ((2 : Int) ^ (46 : Nat))))) && true)
      (c2 l3917 l3918 l3919 (x0 :: ([] : List ((Sh.int IntKind.i64).T)))
       (fun l3922 l3923 l3924 l3925 l3926 => w0
        (fun i3933 l3934 l3935 l3936 l3937 l3938 => br (inB i3933 (List.length l3938))
         (br (decide ((Int.toNat i3933) < (List.length l3938)))
          (k0 (List.getD l3938 (Int.toNat i3933) (0 : Int)) l3934 l3935 l3936 l3937)
          (none))
         (none))
        N x0 (Nat.cast (List.length l3926) : Int) (0 : Int) l3922 l3923 l3924 l3920 (List.replicate (Int.toNat (IntKind.wrap .i64 (x0 + (1 : Int)))) (0 : Int)) l3926))
      (none)))))
noncomputable def term_Arena_Eval_0112 (N : Nat) {R : Type} (x0 : Int) (x1 : List ((Int) × ((Int) × ((Int) × ((Int) × ((Int) × (Int))))))) (x2 : List (((Int) × ((Int) × ((Int) × ((Int) × ((Int) × (Int)))))) × (Int))) (x3 : List ((Int) × (Int))) (x4 : List (Int)) (k0 : (Int) → (List ((Int) × ((Int) × ((Int) × ((Int) × ((Int) × (Int))))))) → (List (((Int) × ((Int) × ((Int) × ((Int) × ((Int) × (Int)))))) × (Int))) → (List ((Int) × (Int))) → (List (Int)) → Option R) : Option R := term_Arena_Eval_0112_T N (@term_Value_7344 N) (@term_Arena_Width_43b4 N) (@term_Arena_Under_2549 N) (@term_Arena_quick_520c N) (@term_Arena_there_2549 N) (@term_Arena_Eval_0112_l0 N) x0 x1 x2 x3 x4 k0
abbrev law3_FixPuts_l0_Ty : Type 1 := {R : Type} → ((List (Int)) → (List (Int)) → (List ((Int) × ((Int) × ((Int) × ((Int) × ((Int) × (Int))))))) → (List (((Int) × ((Int) × ((Int) × ((Int) × ((Int) × (Int)))))) × (Int))) → (List ((Int) × (Int))) → (List ((Int) × (((Int) × ((Int) × ((Int) × ((Int) × ((Int) × (Int)))))) × ((Int) × ((Int) × ((Int) × (Int))))))) → (List (Int)) → Option R) → Nat → (List (Int)) → (List (Int)) → (Int) → (List ((Int) × ((Int) × ((Int) × ((Int) × ((Int) × (Int))))))) → (List (((Int) × ((Int) × ((Int) × ((Int) × ((Int) × (Int)))))) × (Int))) → (List ((Int) × (Int))) → (List ((Int) × (((Int) × ((Int) × ((Int) × ((Int) × ((Int) × (Int)))))) × ((Int) × ((Int) × ((Int) × (Int))))))) → (List (Int)) → Option R
abbrev law3_FixPuts_lj0_Ty : Type 1 := {R : Type} → ((Bool) → Option R) → Nat → (List (Int)) → (List (Int)) → (List ((Int) × ((Int) × ((Int) × ((Int) × ((Int) × (Int))))))) → (List (((Int) × ((Int) × ((Int) × ((Int) × ((Int) × (Int)))))) × (Int))) → (List ((Int) × (Int))) → (List ((Int) × (((Int) × ((Int) × ((Int) × ((Int) × ((Int) × (Int)))))) × ((Int) × ((Int) × ((Int) × (Int))))))) → (List (Int)) → Option R
abbrev law3_FixPuts_l1_Ty : Type 1 := {R : Type} → ((List (Int)) → (List (Int)) → (List ((Int) × ((Int) × ((Int) × ((Int) × ((Int) × (Int))))))) → (List (((Int) × ((Int) × ((Int) × ((Int) × ((Int) × (Int)))))) × (Int))) → (List ((Int) × (Int))) → (List ((Int) × (((Int) × ((Int) × ((Int) × ((Int) × ((Int) × (Int)))))) × ((Int) × ((Int) × ((Int) × (Int))))))) → (List (Int)) → (List (Int)) → (List (Bool)) → Option R) → Nat → (List (Int)) → (List (Int)) → (Int) → (List ((Int) × ((Int) × ((Int) × ((Int) × ((Int) × (Int))))))) → (List (((Int) × ((Int) × ((Int) × ((Int) × ((Int) × (Int)))))) × (Int))) → (List ((Int) × (Int))) → (List ((Int) × (((Int) × ((Int) × ((Int) × ((Int) × ((Int) × (Int)))))) × ((Int) × ((Int) × ((Int) × (Int))))))) → (List (Int)) → (List (Int)) → (List (Bool)) → Option R
abbrev law3_FixPuts_l2_Ty : Type 1 := {R : Type} → ((Bool) → Option R) → (Option R) → Nat → (List (Int)) → (List (Int)) → (Int) → (List ((Int) × ((Int) × ((Int) × ((Int) × ((Int) × (Int))))))) → (List (((Int) × ((Int) × ((Int) × ((Int) × ((Int) × (Int)))))) × (Int))) → (List ((Int) × (Int))) → (List ((Int) × (((Int) × ((Int) × ((Int) × ((Int) × ((Int) × (Int)))))) × ((Int) × ((Int) × ((Int) × (Int))))))) → (List (Int)) → (List (Bool)) → (List (Int)) → Option R
abbrev law3_FixPuts_l3_Ty : Type 1 := {R : Type} → ((List (Int)) → (List (Int)) → (Int) → (Int) → (Bool) → (List ((Int) × ((Int) × ((Int) × ((Int) × ((Int) × (Int))))))) → (List (((Int) × ((Int) × ((Int) × ((Int) × ((Int) × (Int)))))) × (Int))) → (List ((Int) × (Int))) → (List ((Int) × (((Int) × ((Int) × ((Int) × ((Int) × ((Int) × (Int)))))) × ((Int) × ((Int) × ((Int) × (Int))))))) → (List (Int)) → (List (Bool)) → (List (Int)) → Option R) → Nat → (List (Int)) → (List (Int)) → (Int) → (Int) → (Bool) → (Int) → (List ((Int) × ((Int) × ((Int) × ((Int) × ((Int) × (Int))))))) → (List (((Int) × ((Int) × ((Int) × ((Int) × ((Int) × (Int)))))) × (Int))) → (List ((Int) × (Int))) → (List ((Int) × (((Int) × ((Int) × ((Int) × ((Int) × ((Int) × (Int)))))) × ((Int) × ((Int) × ((Int) × (Int))))))) → (List (Int)) → (List (Bool)) → (List (Int)) → (List (Int)) → Option R
abbrev law3_FixPuts_Ty : Type 1 := {R : Type} → (List ((Int) × ((Int) × ((Int) × ((Int) × ((Int) × (Int))))))) → (List (Int)) → (List (Int)) → ((Bool) → Option R) → Option R
noncomputable def law3_FixPuts_l0_T0 (N : Nat) (c0 : term_Arena_Known_43b4_Ty) (c1 : term_Arena_Vars_43b4_Ty) (c2 : term_Arena_Eval_0112_Ty) (c3 : term_Arena_Width_43b4_Ty) (c4 : law2_Values_3151_Ty) (c5 : fix_Some_390e_Ty) (c6 : fix_Some_f6db_Ty) (c7 : law2_Build_4694_Ty) (c8 : term_New_Ty) (c9 : law3_awake_Ty) (wj0 : law3_FixPuts_lj0_Ty) (w1 : law3_FixPuts_l1_Ty) (w2 : law3_FixPuts_l2_Ty) (w3 : law3_FixPuts_l3_Ty) {R : Type} (nx : (List (Int)) → (List (Int)) → (Int) → (List ((Int) × ((Int) × ((Int) × ((Int) × ((Int) × (Int))))))) → (List (((Int) × ((Int) × ((Int) × ((Int) × ((Int) × (Int)))))) × (Int))) → (List ((Int) × (Int))) → (List ((Int) × (((Int) × ((Int) × ((Int) × ((Int) × ((Int) × (Int)))))) × ((Int) × ((Int) × ((Int) × (Int))))))) → (List (Int)) → Option R) (k0 : (List (Int)) → (List (Int)) → (List ((Int) × ((Int) × ((Int) × ((Int) × ((Int) × (Int))))))) → (List (((Int) × ((Int) × ((Int) × ((Int) × ((Int) × (Int)))))) × (Int))) → (List ((Int) × (Int))) → (List ((Int) × (((Int) × ((Int) × ((Int) × ((Int) × ((Int) × (Int)))))) × ((Int) × ((Int) × ((Int) × (Int))))))) → (List (Int)) → Option R) (x0 : List (Int)) (x1 : List (Int)) (x2 : Int) (x3 : List ((Int) × ((Int) × ((Int) × ((Int) × ((Int) × (Int))))))) (x4 : List (((Int) × ((Int) × ((Int) × ((Int) × ((Int) × (Int)))))) × (Int))) (x5 : List ((Int) × (Int))) (x6 : List ((Int) × (((Int) × ((Int) × ((Int) × ((Int) × ((Int) × (Int)))))) × ((Int) × ((Int) × ((Int) × (Int))))))) (x7 : List (Int)) : Option R :=
  br (decide (x2 < (Nat.cast (List.length x7) : Int)))
  (br (inB x2 (List.length x7))
   (br (decide ((Int.toNat x2) < (List.length x7)))
    (nx x0 x1 (IntKind.wrap .i64 (x2 + (1 : Int))) x3 x4 x5 x6 (List.set x7 (Int.toNat x2) (IntKind.wrap .u16 (IntKind.wrap .i64 ((IntKind.wrap .i64 (x2 * (7919 : Int))) + (13 : Int))))))
    (none))
   (none))
  (k0 x0 x1 x3 x4 x5 x6 x7)
noncomputable def law3_FixPuts_lj0_T0 (N : Nat) (c0 : term_Arena_Known_43b4_Ty) (c1 : term_Arena_Vars_43b4_Ty) (c2 : term_Arena_Eval_0112_Ty) (c3 : term_Arena_Width_43b4_Ty) (c4 : law2_Values_3151_Ty) (c5 : fix_Some_390e_Ty) (c6 : fix_Some_f6db_Ty) (c7 : law2_Build_4694_Ty) (c8 : term_New_Ty) (c9 : law3_awake_Ty) (w1 : law3_FixPuts_l1_Ty) (w2 : law3_FixPuts_l2_Ty) (w3 : law3_FixPuts_l3_Ty) {R : Type} (k0 : (Bool) → Option R) (x0 : List (Int)) (x1 : List (Int)) (x2 : List ((Int) × ((Int) × ((Int) × ((Int) × ((Int) × (Int))))))) (x3 : List (((Int) × ((Int) × ((Int) × ((Int) × ((Int) × (Int)))))) × (Int))) (x4 : List ((Int) × (Int))) (x5 : List ((Int) × (((Int) × ((Int) × ((Int) × ((Int) × ((Int) × (Int)))))) × ((Int) × ((Int) × ((Int) × (Int))))))) (x6 : List (Int)) : Option R :=
  br (fits (0 : Nat) (List.length x6) x6)
  (br ((decide ((((0 : Nat) + (List.length (sub x6 (0 : Nat) (List.length x6)))) * (2 : Nat)) ≤ (70368744177664 : Nat))) && true)
   (w1
    (fun l3828 l3829 l3830 l3831 l3832 l3833 l3834 l3835 l3836 => c4 l3833 l3835
     (fun l3867 l3868 l3869 => w2
      (fun b4001 => k0 b4001)
      (k0 true)
      N l3828 l3829 (0 : Int) l3830 l3831 l3832 l3867 l3834 l3836 l3869))
    N x0 x1 (0 : Int) x2 x3 x4 x5 x6 (([] : List ((Sh.int IntKind.u16).T)) ++ (sub x6 (0 : Nat) (List.length x6))) (List.replicate (64 : Nat) false))
   (none))
  (none)
noncomputable def law3_FixPuts_l1_T0 (N : Nat) (c0 : term_Arena_Known_43b4_Ty) (c1 : term_Arena_Vars_43b4_Ty) (c2 : term_Arena_Eval_0112_Ty) (c3 : term_Arena_Width_43b4_Ty) (c4 : law2_Values_3151_Ty) (c5 : fix_Some_390e_Ty) (c6 : fix_Some_f6db_Ty) (c7 : law2_Build_4694_Ty) (c8 : term_New_Ty) (c9 : law3_awake_Ty) (w2 : law3_FixPuts_l2_Ty) (w3 : law3_FixPuts_l3_Ty) {R : Type} (nx : (List (Int)) → (List (Int)) → (Int) → (List ((Int) × ((Int) × ((Int) × ((Int) × ((Int) × (Int))))))) → (List (((Int) × ((Int) × ((Int) × ((Int) × ((Int) × (Int)))))) × (Int))) → (List ((Int) × (Int))) → (List ((Int) × (((Int) × ((Int) × ((Int) × ((Int) × ((Int) × (Int)))))) × ((Int) × ((Int) × ((Int) × (Int))))))) → (List (Int)) → (List (Int)) → (List (Bool)) → Option R) (k0 : (List (Int)) → (List (Int)) → (List ((Int) × ((Int) × ((Int) × ((Int) × ((Int) × (Int))))))) → (List (((Int) × ((Int) × ((Int) × ((Int) × ((Int) × (Int)))))) × (Int))) → (List ((Int) × (Int))) → (List ((Int) × (((Int) × ((Int) × ((Int) × ((Int) × ((Int) × (Int)))))) × ((Int) × ((Int) × ((Int) × (Int))))))) → (List (Int)) → (List (Int)) → (List (Bool)) → Option R) (x0 : List (Int)) (x1 : List (Int)) (x2 : Int) (x3 : List ((Int) × ((Int) × ((Int) × ((Int) × ((Int) × (Int))))))) (x4 : List (((Int) × ((Int) × ((Int) × ((Int) × ((Int) × (Int)))))) × (Int))) (x5 : List ((Int) × (Int))) (x6 : List ((Int) × (((Int) × ((Int) × ((Int) × ((Int) × ((Int) × (Int)))))) × ((Int) × ((Int) × ((Int) × (Int))))))) (x7 : List (Int)) (x8 : List (Int)) (x9 : List (Bool)) : Option R :=
  br (decide (x2 < (Nat.cast (List.length x0) : Int)))
  (br (inB x2 (List.length x0))
   (br (decide ((0 : Int) ≤ (List.getD x0 (Int.toNat x2) (0 : Int))))
    (br (inB x2 (List.length x0))
     (br (decide ((List.getD x0 (Int.toNat x2) (0 : Int)) < (64 : Int)))
      (br (inB x2 (List.length x0))
       (br (inB (List.getD x0 (Int.toNat x2) (0 : Int)) (64 : Nat))
        (br (decide ((Int.toNat (List.getD x0 (Int.toNat x2) (0 : Int))) < (64 : Nat)))
         (br (!(List.getD x9 (Int.toNat (List.getD x0 (Int.toNat x2) (0 : Int))) false))
          (br (inB x2 (List.length x0))
           (br (inB x2 (List.length x0))
            (br (inB x2 (List.length x1))
             (br (inB (List.getD x0 (Int.toNat x2) (0 : Int)) (64 : Nat))
              (br (decide ((Int.toNat (List.getD x0 (Int.toNat x2) (0 : Int))) < (64 : Nat)))
               (br (listDec (Sh.dec (.int .i64)) x0 x0)
                (br (decide (x2 = x2))
                 (br (inB x2 (List.length x0))
                  (br (decide (x2 = x2))
                   (br (listDec (Sh.dec (.int .i64)) x0 x0)
                    (br (decide ((List.getD x0 (Int.toNat x2) (0 : Int)) = (List.getD x0 (Int.toNat x2) (0 : Int))))
                     (br (listDec (Sh.dec (.int .u16)) x1 x1)
                      (br (decide (x2 = x2))
                       (br (inB x2 (List.length x1))
                        (br (decide (x2 = x2))
                         (br (listDec (Sh.dec (.int .u16)) x1 x1)
                          (br (decide ((List.getD x1 (Int.toNat x2) (0 : Int)) = (List.getD x1 (Int.toNat x2) (0 : Int))))
                           (br (inB (List.getD x0 (Int.toNat x2) (0 : Int)) (List.length x8))
                            (br (decide ((Int.toNat (List.getD x0 (Int.toNat x2) (0 : Int))) < (List.length x8)))
                             (nx x0 x1 (IntKind.wrap .i64 (x2 + (1 : Int))) x3 x4 x5 x6 x7 (List.set x8 (Int.toNat (List.getD x0 (Int.toNat x2) (0 : Int))) (List.getD x1 (Int.toNat x2) (0 : Int))) (List.set x9 (Int.toNat (List.getD x0 (Int.toNat x2) (0 : Int))) true))
                             (none))
                            (none))
                           (none))
                          (none))
                         (none))
                        (none))
                       (none))
                      (none))
                     (none))
                    (none))
                   (none))
                  (none))
                 (none))
                (none))
               (none))
              (none))
             (none))
            (none))
           (none))
          (nx x0 x1 (IntKind.wrap .i64 (x2 + (1 : Int))) x3 x4 x5 x6 x7 x8 x9))
         (none))
        (none))
       (none))
      (nx x0 x1 (IntKind.wrap .i64 (x2 + (1 : Int))) x3 x4 x5 x6 x7 x8 x9))
     (none))
    (nx x0 x1 (IntKind.wrap .i64 (x2 + (1 : Int))) x3 x4 x5 x6 x7 x8 x9))
   (none))
  (k0 x0 x1 x3 x4 x5 x6 x7 x8 x9)
noncomputable def law3_FixPuts_l2_T0 (N : Nat) (c0 : term_Arena_Known_43b4_Ty) (c1 : term_Arena_Vars_43b4_Ty) (c2 : term_Arena_Eval_0112_Ty) (c3 : term_Arena_Width_43b4_Ty) (c4 : law2_Values_3151_Ty) (c5 : fix_Some_390e_Ty) (c6 : fix_Some_f6db_Ty) (c7 : law2_Build_4694_Ty) (c8 : term_New_Ty) (c9 : law3_awake_Ty) (w3 : law3_FixPuts_l3_Ty) {R : Type} (nx : (List (Int)) → (List (Int)) → (Int) → (List ((Int) × ((Int) × ((Int) × ((Int) × ((Int) × (Int))))))) → (List (((Int) × ((Int) × ((Int) × ((Int) × ((Int) × (Int)))))) × (Int))) → (List ((Int) × (Int))) → (List ((Int) × (((Int) × ((Int) × ((Int) × ((Int) × ((Int) × (Int)))))) × ((Int) × ((Int) × ((Int) × (Int))))))) → (List (Int)) → (List (Bool)) → (List (Int)) → Option R) (k0 : (Bool) → Option R) (k1 : Option R) (x0 : List (Int)) (x1 : List (Int)) (x2 : Int) (x3 : List ((Int) × ((Int) × ((Int) × ((Int) × ((Int) × (Int))))))) (x4 : List (((Int) × ((Int) × ((Int) × ((Int) × ((Int) × (Int)))))) × (Int))) (x5 : List ((Int) × (Int))) (x6 : List ((Int) × (((Int) × ((Int) × ((Int) × ((Int) × ((Int) × (Int)))))) × ((Int) × ((Int) × ((Int) × (Int))))))) (x7 : List (Int)) (x8 : List (Bool)) (x9 : List (Int)) : Option R :=
  br (decide (x2 < (Nat.cast (List.length x6) : Int)))
  (br (inB x2 (List.length x6))
   (br (decide ((Int.toNat x2) < (List.length x6)))
    (c6 (List.getD x6 (Int.toNat x2) ((0 : Int) , (((0 : Int) , ((0 : Int) , ((0 : Int) , ((0 : Int) , ((0 : Int) , (0 : Int)))))) , ((0 : Int) , ((0 : Int) , ((0 : Int) , (0 : Int))))))).1 x0 x1 x3 x4 x5
     (fun i3870 i3871 l3872 l3873 l3874 => br (!(!(decide (i3871 = (0 : Int)))))
      (br (inB x2 (List.length x6))
       (br (decide ((Int.toNat x2) < (List.length x6)))
        (c3 i3870 l3874 l3872 l3873
         (fun i3875 l3876 l3877 l3878 => br (decide (x2 = x2))
          (br (inB x2 (List.length x6))
           (br (decide (x2 = x2))
            (br (decide (x2 = x2))
             (br (decide ((Int.toNat x2) < (List.length x6)))
              (br (decide ((List.getD x6 (Int.toNat x2) ((0 : Int) , (((0 : Int) , ((0 : Int) , ((0 : Int) , ((0 : Int) , ((0 : Int) , (0 : Int)))))) , ((0 : Int) , ((0 : Int) , ((0 : Int) , (0 : Int))))))).2.2.1 = (List.getD x6 (Int.toNat x2) ((0 : Int) , (((0 : Int) , ((0 : Int) , ((0 : Int) , ((0 : Int) , ((0 : Int) , (0 : Int)))))) , ((0 : Int) , ((0 : Int) , ((0 : Int) , (0 : Int))))))).2.2.1))
               (br (!(!(decide (i3875 = (List.getD x6 (Int.toNat x2) ((0 : Int) , (((0 : Int) , ((0 : Int) , ((0 : Int) , ((0 : Int) , ((0 : Int) , (0 : Int)))))) , ((0 : Int) , ((0 : Int) , ((0 : Int) , (0 : Int))))))).2.2.1))))
                (br (inB x2 (List.length x9))
                 (br (decide ((Int.toNat x2) < (List.length x9)))
                  (c2 i3870 l3876 l3877 l3878 x7
                   (fun i3939 l3940 l3941 l3942 l3943 => br (decide (x2 = x2))
                    (br (inB x2 (List.length x9))
                     (br (decide (x2 = x2))
                      (br (decide ((Int.toNat x2) < (List.length x9)))
                       (br (decide ((List.getD x9 (Int.toNat x2) (0 : Int)) = (List.getD x9 (Int.toNat x2) (0 : Int))))
                        (br (!(decide (i3939 = (List.getD x9 (Int.toNat x2) (0 : Int)))))
                         (k0 false)
                         (br (inB x2 (List.length x6))
                          (br (decide ((Int.toNat x2) < (List.length x6)))
                           (c1 (List.getD x6 (Int.toNat x2) ((0 : Int) , (((0 : Int) , ((0 : Int) , ((0 : Int) , ((0 : Int) , ((0 : Int) , (0 : Int)))))) , ((0 : Int) , ((0 : Int) , ((0 : Int) , (0 : Int))))))).1 l3940 l3941 l3942
                            (fun l3980 l3981 l3982 l3983 => w3
                             (fun l3984 l3985 i3986 i3987 b3988 l3989 l3990 l3991 l3992 l3993 l3994 l3995 => c0 i3987 l3989 l3990 l3991
                              (fun i3996 b3997 l3998 l3999 l4000 => br b3988
                               (br (!b3997)
                                (k0 false)
                                (nx l3984 l3985 (IntKind.wrap .i64 (i3986 + (1 : Int))) l3998 l3999 l4000 l3992 l3993 l3994 l3995))
                               (nx l3984 l3985 (IntKind.wrap .i64 (i3986 + (1 : Int))) l3998 l3999 l4000 l3992 l3993 l3994 l3995)))
                             N x0 x1 x2 i3870 true (0 : Int) l3980 l3981 l3982 x6 l3943 x8 x9 l3983))
                           (none))
                          (none)))
                        (none))
                       (none))
                      (none))
                     (none))
                    (none)))
                  (none))
                 (none))
                (k0 false))
               (none))
              (none))
             (none))
            (none))
           (none))
          (none)))
        (none))
       (none))
      (k0 false)))
    (none))
   (none))
  (k1)
noncomputable def law3_FixPuts_l3_T0 (N : Nat) (c0 : term_Arena_Known_43b4_Ty) (c1 : term_Arena_Vars_43b4_Ty) (c2 : term_Arena_Eval_0112_Ty) (c3 : term_Arena_Width_43b4_Ty) (c4 : law2_Values_3151_Ty) (c5 : fix_Some_390e_Ty) (c6 : fix_Some_f6db_Ty) (c7 : law2_Build_4694_Ty) (c8 : term_New_Ty) (c9 : law3_awake_Ty) {R : Type} (nx : (List (Int)) → (List (Int)) → (Int) → (Int) → (Bool) → (Int) → (List ((Int) × ((Int) × ((Int) × ((Int) × ((Int) × (Int))))))) → (List (((Int) × ((Int) × ((Int) × ((Int) × ((Int) × (Int)))))) × (Int))) → (List ((Int) × (Int))) → (List ((Int) × (((Int) × ((Int) × ((Int) × ((Int) × ((Int) × (Int)))))) × ((Int) × ((Int) × ((Int) × (Int))))))) → (List (Int)) → (List (Bool)) → (List (Int)) → (List (Int)) → Option R) (k0 : (List (Int)) → (List (Int)) → (Int) → (Int) → (Bool) → (List ((Int) × ((Int) × ((Int) × ((Int) × ((Int) × (Int))))))) → (List (((Int) × ((Int) × ((Int) × ((Int) × ((Int) × (Int)))))) × (Int))) → (List ((Int) × (Int))) → (List ((Int) × (((Int) × ((Int) × ((Int) × ((Int) × ((Int) × (Int)))))) × ((Int) × ((Int) × ((Int) × (Int))))))) → (List (Int)) → (List (Bool)) → (List (Int)) → Option R) (x0 : List (Int)) (x1 : List (Int)) (x2 : Int) (x3 : Int) (x4 : Bool) (x5 : Int) (x6 : List ((Int) × ((Int) × ((Int) × ((Int) × ((Int) × (Int))))))) (x7 : List (((Int) × ((Int) × ((Int) × ((Int) × ((Int) × (Int)))))) × (Int))) (x8 : List ((Int) × (Int))) (x9 : List ((Int) × (((Int) × ((Int) × ((Int) × ((Int) × ((Int) × (Int)))))) × ((Int) × ((Int) × ((Int) × (Int))))))) (x10 : List (Int)) (x11 : List (Bool)) (x12 : List (Int)) (x13 : List (Int)) : Option R :=
  br (decide (x5 < (Nat.cast (List.length x13) : Int)))
  (br x4
   (br (inB x5 (List.length x13))
    (br (decide ((Int.toNat x5) < (List.length x13)))
     (br (inB (List.getD x13 (Int.toNat x5) (0 : Int)) (64 : Nat))
      (br (decide ((Int.toNat (List.getD x13 (Int.toNat x5) (0 : Int))) < (64 : Nat)))
       (nx x0 x1 x2 x3 (List.getD x11 (Int.toNat (List.getD x13 (Int.toNat x5) (0 : Int))) false) (IntKind.wrap .i64 (x5 + (1 : Int))) x6 x7 x8 x9 x10 x11 x12 x13)
       (none))
      (none))
     (none))
    (none))
   (nx x0 x1 x2 x3 false (IntKind.wrap .i64 (x5 + (1 : Int))) x6 x7 x8 x9 x10 x11 x12 x13))
  (k0 x0 x1 x2 x3 x4 x6 x7 x8 x9 x10 x11 x12)
noncomputable def law3_FixPuts_l3 (N : Nat) {R : Type} (k0 : (List (Int)) → (List (Int)) → (Int) → (Int) → (Bool) → (List ((Int) × ((Int) × ((Int) × ((Int) × ((Int) × (Int))))))) → (List (((Int) × ((Int) × ((Int) × ((Int) × ((Int) × (Int)))))) × (Int))) → (List ((Int) × (Int))) → (List ((Int) × (((Int) × ((Int) × ((Int) × ((Int) × ((Int) × (Int)))))) × ((Int) × ((Int) × ((Int) × (Int))))))) → (List (Int)) → (List (Bool)) → (List (Int)) → Option R) : Nat → (List (Int)) → (List (Int)) → (Int) → (Int) → (Bool) → (Int) → (List ((Int) × ((Int) × ((Int) × ((Int) × ((Int) × (Int))))))) → (List (((Int) × ((Int) × ((Int) × ((Int) × ((Int) × (Int)))))) × (Int))) → (List ((Int) × (Int))) → (List ((Int) × (((Int) × ((Int) × ((Int) × ((Int) × ((Int) × (Int)))))) × ((Int) × ((Int) × ((Int) × (Int))))))) → (List (Int)) → (List (Bool)) → (List (Int)) → (List (Int)) → Option R
  | 0, _, _, _, _, _, _, _, _, _, _, _, _, _, _ => none
  | n + 1, x0, x1, x2, x3, x4, x5, x6, x7, x8, x9, x10, x11, x12, x13 => law3_FixPuts_l3_T0 N (@term_Arena_Known_43b4 N) (@term_Arena_Vars_43b4 N) (@term_Arena_Eval_0112 N) (@term_Arena_Width_43b4 N) (@law2_Values_3151 N) (@fix_Some_390e N) (@fix_Some_f6db N) (@law2_Build_4694 N) (@term_New N) (@law3_awake N) (fun x0 x1 x2 x3 x4 x5 x6 x7 x8 x9 x10 x11 x12 x13 => law3_FixPuts_l3 N k0 n x0 x1 x2 x3 x4 x5 x6 x7 x8 x9 x10 x11 x12 x13) k0 x0 x1 x2 x3 x4 x5 x6 x7 x8 x9 x10 x11 x12 x13
noncomputable def law3_FixPuts_l2 (N : Nat) {R : Type} (k0 : (Bool) → Option R) (k1 : Option R) : Nat → (List (Int)) → (List (Int)) → (Int) → (List ((Int) × ((Int) × ((Int) × ((Int) × ((Int) × (Int))))))) → (List (((Int) × ((Int) × ((Int) × ((Int) × ((Int) × (Int)))))) × (Int))) → (List ((Int) × (Int))) → (List ((Int) × (((Int) × ((Int) × ((Int) × ((Int) × ((Int) × (Int)))))) × ((Int) × ((Int) × ((Int) × (Int))))))) → (List (Int)) → (List (Bool)) → (List (Int)) → Option R
  | 0, _, _, _, _, _, _, _, _, _, _ => none
  | n + 1, x0, x1, x2, x3, x4, x5, x6, x7, x8, x9 => law3_FixPuts_l2_T0 N (@term_Arena_Known_43b4 N) (@term_Arena_Vars_43b4 N) (@term_Arena_Eval_0112 N) (@term_Arena_Width_43b4 N) (@law2_Values_3151 N) (@fix_Some_390e N) (@fix_Some_f6db N) (@law2_Build_4694 N) (@term_New N) (@law3_awake N) (@law3_FixPuts_l3 N) (fun x0 x1 x2 x3 x4 x5 x6 x7 x8 x9 => law3_FixPuts_l2 N k0 k1 n x0 x1 x2 x3 x4 x5 x6 x7 x8 x9) k0 k1 x0 x1 x2 x3 x4 x5 x6 x7 x8 x9
noncomputable def law3_FixPuts_l1 (N : Nat) {R : Type} (k0 : (List (Int)) → (List (Int)) → (List ((Int) × ((Int) × ((Int) × ((Int) × ((Int) × (Int))))))) → (List (((Int) × ((Int) × ((Int) × ((Int) × ((Int) × (Int)))))) × (Int))) → (List ((Int) × (Int))) → (List ((Int) × (((Int) × ((Int) × ((Int) × ((Int) × ((Int) × (Int)))))) × ((Int) × ((Int) × ((Int) × (Int))))))) → (List (Int)) → (List (Int)) → (List (Bool)) → Option R) : Nat → (List (Int)) → (List (Int)) → (Int) → (List ((Int) × ((Int) × ((Int) × ((Int) × ((Int) × (Int))))))) → (List (((Int) × ((Int) × ((Int) × ((Int) × ((Int) × (Int)))))) × (Int))) → (List ((Int) × (Int))) → (List ((Int) × (((Int) × ((Int) × ((Int) × ((Int) × ((Int) × (Int)))))) × ((Int) × ((Int) × ((Int) × (Int))))))) → (List (Int)) → (List (Int)) → (List (Bool)) → Option R
  | 0, _, _, _, _, _, _, _, _, _, _ => none
  | n + 1, x0, x1, x2, x3, x4, x5, x6, x7, x8, x9 => law3_FixPuts_l1_T0 N (@term_Arena_Known_43b4 N) (@term_Arena_Vars_43b4 N) (@term_Arena_Eval_0112 N) (@term_Arena_Width_43b4 N) (@law2_Values_3151 N) (@fix_Some_390e N) (@fix_Some_f6db N) (@law2_Build_4694 N) (@term_New N) (@law3_awake N) (@law3_FixPuts_l2 N) (@law3_FixPuts_l3 N) (fun x0 x1 x2 x3 x4 x5 x6 x7 x8 x9 => law3_FixPuts_l1 N k0 n x0 x1 x2 x3 x4 x5 x6 x7 x8 x9) k0 x0 x1 x2 x3 x4 x5 x6 x7 x8 x9
noncomputable def law3_FixPuts_lj0 (N : Nat) {R : Type} (k0 : (Bool) → Option R) (_ : Nat) (x0 : List (Int)) (x1 : List (Int)) (x2 : List ((Int) × ((Int) × ((Int) × ((Int) × ((Int) × (Int))))))) (x3 : List (((Int) × ((Int) × ((Int) × ((Int) × ((Int) × (Int)))))) × (Int))) (x4 : List ((Int) × (Int))) (x5 : List ((Int) × (((Int) × ((Int) × ((Int) × ((Int) × ((Int) × (Int)))))) × ((Int) × ((Int) × ((Int) × (Int))))))) (x6 : List (Int)) : Option R := law3_FixPuts_lj0_T0 N (@term_Arena_Known_43b4 N) (@term_Arena_Vars_43b4 N) (@term_Arena_Eval_0112 N) (@term_Arena_Width_43b4 N) (@law2_Values_3151 N) (@fix_Some_390e N) (@fix_Some_f6db N) (@law2_Build_4694 N) (@term_New N) (@law3_awake N) (@law3_FixPuts_l1 N) (@law3_FixPuts_l2 N) (@law3_FixPuts_l3 N) k0 x0 x1 x2 x3 x4 x5 x6
noncomputable def law3_FixPuts_l0 (N : Nat) {R : Type} (k0 : (List (Int)) → (List (Int)) → (List ((Int) × ((Int) × ((Int) × ((Int) × ((Int) × (Int))))))) → (List (((Int) × ((Int) × ((Int) × ((Int) × ((Int) × (Int)))))) × (Int))) → (List ((Int) × (Int))) → (List ((Int) × (((Int) × ((Int) × ((Int) × ((Int) × ((Int) × (Int)))))) × ((Int) × ((Int) × ((Int) × (Int))))))) → (List (Int)) → Option R) : Nat → (List (Int)) → (List (Int)) → (Int) → (List ((Int) × ((Int) × ((Int) × ((Int) × ((Int) × (Int))))))) → (List (((Int) × ((Int) × ((Int) × ((Int) × ((Int) × (Int)))))) × (Int))) → (List ((Int) × (Int))) → (List ((Int) × (((Int) × ((Int) × ((Int) × ((Int) × ((Int) × (Int)))))) × ((Int) × ((Int) × ((Int) × (Int))))))) → (List (Int)) → Option R
  | 0, _, _, _, _, _, _, _, _ => none
  | n + 1, x0, x1, x2, x3, x4, x5, x6, x7 => law3_FixPuts_l0_T0 N (@term_Arena_Known_43b4 N) (@term_Arena_Vars_43b4 N) (@term_Arena_Eval_0112 N) (@term_Arena_Width_43b4 N) (@law2_Values_3151 N) (@fix_Some_390e N) (@fix_Some_f6db N) (@law2_Build_4694 N) (@term_New N) (@law3_awake N) (@law3_FixPuts_lj0 N) (@law3_FixPuts_l1 N) (@law3_FixPuts_l2 N) (@law3_FixPuts_l3 N) (fun x0 x1 x2 x3 x4 x5 x6 x7 => law3_FixPuts_l0 N k0 n x0 x1 x2 x3 x4 x5 x6 x7) k0 x0 x1 x2 x3 x4 x5 x6 x7
noncomputable def law3_FixPuts_T (N : Nat) (c0 : term_Arena_Known_43b4_Ty) (c1 : term_Arena_Vars_43b4_Ty) (c2 : term_Arena_Eval_0112_Ty) (c3 : term_Arena_Width_43b4_Ty) (c4 : law2_Values_3151_Ty) (c5 : fix_Some_390e_Ty) (c6 : fix_Some_f6db_Ty) (c7 : law2_Build_4694_Ty) (c8 : term_New_Ty) (c9 : law3_awake_Ty) (w0 : law3_FixPuts_l0_Ty) (wj0 : law3_FixPuts_lj0_Ty) (w1 : law3_FixPuts_l1_Ty) (w2 : law3_FixPuts_l2_Ty) (w3 : law3_FixPuts_l3_Ty) {R : Type} (x0 : List ((Int) × ((Int) × ((Int) × ((Int) × ((Int) × (Int))))))) (x1 : List (Int)) (x2 : List (Int)) (k0 : (Bool) → Option R) : Option R :=
  c9
  (fun b1122 => br (!b1122)
   (k0 false)
   (br (!(decide ((100 : Int) < (Nat.cast (List.length x0) : Int))))
    (br (!(decide ((40 : Int) < (Nat.cast (List.length x1) : Int))))
     (br (decide ((40 : Int) < (Nat.cast (List.length x2) : Int)))
      (k0 true)
      (c8
       (fun l1123 l1124 l1125 => c7 x0 l1123 l1124 l1125
        (fun b3683 l3684 l3685 l3686 l3687 => br (!b3683)
         (k0 false)
         (w0
          (fun l3688 l3689 l3690 l3691 l3692 l3693 l3694 => br (!(decide ((Nat.cast (List.length l3688) : Int) = (Nat.cast (List.length l3689) : Int))))
           (c6 (0 : Int) l3688 l3689 l3690 l3691 l3692
            (fun i3823 i3824 l3825 l3826 l3827 => br (!(decide ((Nat.cast (List.length l3693) : Int) = (0 : Int))))
             (k0 (decide (i3824 = (1 : Int))))
             (k0 true)))
           (wj0
            (fun b4002 => k0 b4002)
            N l3688 l3689 l3690 l3691 l3692 l3693 l3694))
          N x1 x2 (0 : Int) l3686 l3684 l3685 l3687 (List.replicate (64 : Nat) (0 : Int)))))))
     (k0 true))
    (k0 true)))
noncomputable def law3_FixPuts (N : Nat) {R : Type} (x0 : List ((Int) × ((Int) × ((Int) × ((Int) × ((Int) × (Int))))))) (x1 : List (Int)) (x2 : List (Int)) (k0 : (Bool) → Option R) : Option R := law3_FixPuts_T N (@term_Arena_Known_43b4 N) (@term_Arena_Vars_43b4 N) (@term_Arena_Eval_0112 N) (@term_Arena_Width_43b4 N) (@law2_Values_3151 N) (@fix_Some_390e N) (@fix_Some_f6db N) (@law2_Build_4694 N) (@term_New N) (@law3_awake N) (@law3_FixPuts_l0 N) (@law3_FixPuts_lj0 N) (@law3_FixPuts_l1 N) (@law3_FixPuts_l2 N) (@law3_FixPuts_l3 N) x0 x1 x2 k0
end Go.Proofs.Yteagdmkedffplaa
