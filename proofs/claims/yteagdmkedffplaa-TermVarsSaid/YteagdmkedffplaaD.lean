/-
  The functions that the statement reaches, each as a function of Lean (printed by a program of this work).
-/
import Derived.Test.YteagdmkedffplaaGxZ
set_option linter.unusedVariables false
set_option maxRecDepth 100000
namespace Go.Proofs.Yteagdmkedffplaa
open Go.Gx
abbrev term_New_Ty : Type 1 := {R : Type} → ((List ((Int) × ((Int) × ((Int) × ((Int) × ((Int) × (Int))))))) → (List (((Int) × ((Int) × ((Int) × ((Int) × ((Int) × (Int)))))) × (Int))) → (List ((Int) × (Int))) → Option R) → Option R
noncomputable def term_New_T (N : Nat) {R : Type} (k0 : (List ((Int) × ((Int) × ((Int) × ((Int) × ((Int) × (Int))))))) → (List (((Int) × ((Int) × ((Int) × ((Int) × ((Int) × (Int)))))) × (Int))) → (List ((Int) × (Int))) → Option R) : Option R :=
  k0 ([] : List (((Sh.int IntKind.i64).pair
    ((Sh.int IntKind.i64).pair
      ((Sh.int IntKind.u16).pair ((Sh.int IntKind.i64).pair ((Sh.int IntKind.i64).pair (Sh.int IntKind.i64)))))).T)) ([] : List ((((Sh.int IntKind.i64).pair
    ((Sh.int IntKind.i64).pair
      ((Sh.int IntKind.u16).pair ((Sh.int IntKind.i64).pair ((Sh.int IntKind.i64).pair (Sh.int IntKind.i64)))))).T) × ((Sh.int IntKind.i64).T))) ([] : List (((Sh.int IntKind.i64).T) × ((Sh.int IntKind.i64).T)))
noncomputable def term_New (N : Nat) {R : Type} (k0 : (List ((Int) × ((Int) × ((Int) × ((Int) × ((Int) × (Int))))))) → (List (((Int) × ((Int) × ((Int) × ((Int) × ((Int) × (Int)))))) × (Int))) → (List ((Int) × (Int))) → Option R) : Option R := term_New_T N k0
abbrev wide_May_Ty : Type 1 := {R : Type} → (Int) → ((Bool) → Option R) → Option R
noncomputable def wide_May_T (N : Nat) {R : Type} (x0 : Int) (k0 : (Bool) → Option R) : Option R :=
  br (!(decide (x0 = (1 : Int))))
  (br (!(decide (x0 = (8 : Int))))
   (k0 (decide (x0 = (16 : Int))))
   (k0 true))
  (k0 true)
noncomputable def wide_May (N : Nat) {R : Type} (x0 : Int) (k0 : (Bool) → Option R) : Option R := wide_May_T N x0 k0
abbrev wide_Mask_Ty : Type 1 := {R : Type} → (Int) → ((Int) → Option R) → Option R
noncomputable def wide_Mask_T (N : Nat) (c0 : wide_May_Ty) {R : Type} (x0 : Int) (k0 : (Int) → Option R) : Option R :=
  c0 x0
  (fun b4 => br (!b4)
   (k0 (0 : Int))
   (br (decide ((IntKind.wrap .u64 x0) < (0 : Int)))
    (none)
    (k0 (IntKind.wrap .u16 ((shlI .u16 (1 : Int) (IntKind.wrap .u64 x0)) - (1 : Int))))))
noncomputable def wide_Mask (N : Nat) {R : Type} (x0 : Int) (k0 : (Int) → Option R) : Option R := wide_Mask_T N (@wide_May N) x0 k0
abbrev term_Arena_keep_a25e_Ty : Type 1 := {R : Type} → (Int) → (Int) → (Int) → (Int) → (Int) → (Int) → (List ((Int) × ((Int) × ((Int) × ((Int) × ((Int) × (Int))))))) → (List (((Int) × ((Int) × ((Int) × ((Int) × ((Int) × (Int)))))) × (Int))) → (List ((Int) × (Int))) → ((Int) → (Int) → (List (((Int) × ((Int) × ((Int) × ((Int) × ((Int) × (Int)))))) × (Int))) → (List ((Int) × (Int))) → (List ((Int) × ((Int) × ((Int) × ((Int) × ((Int) × (Int))))))) → Option R) → Option R
noncomputable def term_Arena_keep_a25e_T (N : Nat) {R : Type} (x0 : Int) (x1 : Int) (x2 : Int) (x3 : Int) (x4 : Int) (x5 : Int) (x6 : List ((Int) × ((Int) × ((Int) × ((Int) × ((Int) × (Int))))))) (x7 : List (((Int) × ((Int) × ((Int) × ((Int) × ((Int) × (Int)))))) × (Int))) (x8 : List ((Int) × (Int))) (k0 : (Int) → (Int) → (List (((Int) × ((Int) × ((Int) × ((Int) × ((Int) × (Int)))))) × (Int))) → (List ((Int) × (Int))) → (List ((Int) × ((Int) × ((Int) × ((Int) × ((Int) × (Int))))))) → Option R) : Option R :=
  br (Option.isSome (mfind (.pair (.int .i64) (.pair (.int .i64) (.pair (.int .u16) (.pair (.int .i64) (.pair (.int .i64) (.int .i64)))))) (.int .i64) x7 (x0 , (x1 , (x2 , (x3 , (x4 , x5)))))))
  (k0 (Option.getD (mfind (.pair (.int .i64) (.pair (.int .i64) (.pair (.int .u16) (.pair (.int .i64) (.pair (.int .i64) (.int .i64)))))) (.int .i64) x7 (x0 , (x1 , (x2 , (x3 , (x4 , x5)))))) (0 : Int)) (0 : Int) x7 x8 x6)
  (br (decide ((65536 : Int) ≤ (Nat.cast (List.length x6) : Int)))
   (k0 (0 : Int) (3 : Int) x7 x8 x6)
   (br (((fits (0 : Nat) (List.length x6) x6) && (decide ((((List.length x6) + (1 : Nat)) * (48 : Nat)) ≤ (70368744177664 : Nat)))) && true)
    (k0 (Nat.cast ((List.length x6) + (1 : Nat)) : Int) (0 : Int) (mput (.pair (.int .i64) (.pair (.int .i64) (.pair (.int .u16) (.pair (.int .i64) (.pair (.int .i64) (.int .i64)))))) (.int .i64) x7 (x0 , (x1 , (x2 , (x3 , (x4 , x5))))) (Nat.cast ((List.length x6) + (1 : Nat)) : Int)) x8 ((sub x6 (0 : Nat) (List.length x6)) ++ ((x0 , (x1 , (x2 , (x3 , (x4 , x5))))) :: ([] : List (((Sh.int IntKind.i64).pair
    ((Sh.int IntKind.i64).pair
      ((Sh.int IntKind.u16).pair ((Sh.int IntKind.i64).pair ((Sh.int IntKind.i64).pair (Sh.int IntKind.i64)))))).T)))))
    (none)))
noncomputable def term_Arena_keep_a25e (N : Nat) {R : Type} (x0 : Int) (x1 : Int) (x2 : Int) (x3 : Int) (x4 : Int) (x5 : Int) (x6 : List ((Int) × ((Int) × ((Int) × ((Int) × ((Int) × (Int))))))) (x7 : List (((Int) × ((Int) × ((Int) × ((Int) × ((Int) × (Int)))))) × (Int))) (x8 : List ((Int) × (Int))) (k0 : (Int) → (Int) → (List (((Int) × ((Int) × ((Int) × ((Int) × ((Int) × (Int)))))) × (Int))) → (List ((Int) × (Int))) → (List ((Int) × ((Int) × ((Int) × ((Int) × ((Int) × (Int))))))) → Option R) : Option R := term_Arena_keep_a25e_T N x0 x1 x2 x3 x4 x5 x6 x7 x8 k0
abbrev term_Arena_Const_2c81_Ty : Type 1 := {R : Type} → (Int) → (Int) → (List ((Int) × ((Int) × ((Int) × ((Int) × ((Int) × (Int))))))) → (List (((Int) × ((Int) × ((Int) × ((Int) × ((Int) × (Int)))))) × (Int))) → (List ((Int) × (Int))) → ((Int) → (Int) → (List (((Int) × ((Int) × ((Int) × ((Int) × ((Int) × (Int)))))) × (Int))) → (List ((Int) × (Int))) → (List ((Int) × ((Int) × ((Int) × ((Int) × ((Int) × (Int))))))) → Option R) → Option R
noncomputable def term_Arena_Const_2c81_T (N : Nat) (c0 : term_Arena_keep_a25e_Ty) (c1 : wide_Mask_Ty) (c2 : wide_May_Ty) {R : Type} (x0 : Int) (x1 : Int) (x2 : List ((Int) × ((Int) × ((Int) × ((Int) × ((Int) × (Int))))))) (x3 : List (((Int) × ((Int) × ((Int) × ((Int) × ((Int) × (Int)))))) × (Int))) (x4 : List ((Int) × (Int))) (k0 : (Int) → (Int) → (List (((Int) × ((Int) × ((Int) × ((Int) × ((Int) × (Int)))))) × (Int))) → (List ((Int) × (Int))) → (List ((Int) × ((Int) × ((Int) × ((Int) × ((Int) × (Int))))))) → Option R) : Option R :=
  c2 x0
  (fun b11 => br (!b11)
   (k0 (0 : Int) (2 : Int) x3 x4 x2)
   (c1 x0
    (fun i12 => c0 (1 : Int) x0 (band .u16 x1 i12) (0 : Int) (0 : Int) (0 : Int) x2 x3 x4
     (fun i13 i14 l15 l16 l17 => k0 i13 i14 l15 l16 l17))))
noncomputable def term_Arena_Const_2c81 (N : Nat) {R : Type} (x0 : Int) (x1 : Int) (x2 : List ((Int) × ((Int) × ((Int) × ((Int) × ((Int) × (Int))))))) (x3 : List (((Int) × ((Int) × ((Int) × ((Int) × ((Int) × (Int)))))) × (Int))) (x4 : List ((Int) × (Int))) (k0 : (Int) → (Int) → (List (((Int) × ((Int) × ((Int) × ((Int) × ((Int) × (Int)))))) × (Int))) → (List ((Int) × (Int))) → (List ((Int) × ((Int) × ((Int) × ((Int) × ((Int) × (Int))))))) → Option R) : Option R := term_Arena_Const_2c81_T N (@term_Arena_keep_a25e N) (@wide_Mask N) (@wide_May N) x0 x1 x2 x3 x4 k0
abbrev term_two_Ty : Type 1 := {R : Type} → (Int) → ((Bool) → Option R) → Option R
noncomputable def term_two_T (N : Nat) {R : Type} (x0 : Int) (k0 : (Bool) → Option R) : Option R :=
  br (decide ((4 : Int) ≤ x0))
  (k0 (decide (x0 ≤ (15 : Int))))
  (k0 false)
noncomputable def term_two (N : Nat) {R : Type} (x0 : Int) (k0 : (Bool) → Option R) : Option R := term_two_T N x0 k0
abbrev term_Arena_Node_43b4_Ty : Type 1 := {R : Type} → (Int) → (List ((Int) × ((Int) × ((Int) × ((Int) × ((Int) × (Int))))))) → (List (((Int) × ((Int) × ((Int) × ((Int) × ((Int) × (Int)))))) × (Int))) → (List ((Int) × (Int))) → ((Int) → (Int) → (Int) → (Int) → (Int) → (Int) → (Bool) → (List ((Int) × ((Int) × ((Int) × ((Int) × ((Int) × (Int))))))) → (List (((Int) × ((Int) × ((Int) × ((Int) × ((Int) × (Int)))))) × (Int))) → (List ((Int) × (Int))) → Option R) → Option R
noncomputable def term_Arena_Node_43b4_T (N : Nat) {R : Type} (x0 : Int) (x1 : List ((Int) × ((Int) × ((Int) × ((Int) × ((Int) × (Int))))))) (x2 : List (((Int) × ((Int) × ((Int) × ((Int) × ((Int) × (Int)))))) × (Int))) (x3 : List ((Int) × (Int))) (k0 : (Int) → (Int) → (Int) → (Int) → (Int) → (Int) → (Bool) → (List ((Int) × ((Int) × ((Int) × ((Int) × ((Int) × (Int))))))) → (List (((Int) × ((Int) × ((Int) × ((Int) × ((Int) × (Int)))))) × (Int))) → (List ((Int) × (Int))) → Option R) : Option R :=
  br (!(decide (x0 < (1 : Int))))
  (br (decide ((Nat.cast (List.length x1) : Int) < x0))
   (k0 (0 : Int) (0 : Int) (0 : Int) (0 : Int) (0 : Int) (0 : Int) false x1 x2 x3)
   (br (inB (IntKind.wrap .i64 (x0 - (1 : Int))) (List.length x1))
    (br (decide ((Int.toNat (IntKind.wrap .i64 (x0 - (1 : Int)))) < (List.length x1)))
     (k0 (List.getD x1 (Int.toNat (IntKind.wrap .i64 (x0 - (1 : Int)))) ((0 : Int) , ((0 : Int) , ((0 : Int) , ((0 : Int) , ((0 : Int) , (0 : Int))))))).1 (List.getD x1 (Int.toNat (IntKind.wrap .i64 (x0 - (1 : Int)))) ((0 : Int) , ((0 : Int) , ((0 : Int) , ((0 : Int) , ((0 : Int) , (0 : Int))))))).2.1 (List.getD x1 (Int.toNat (IntKind.wrap .i64 (x0 - (1 : Int)))) ((0 : Int) , ((0 : Int) , ((0 : Int) , ((0 : Int) , ((0 : Int) , (0 : Int))))))).2.2.1 (List.getD x1 (Int.toNat (IntKind.wrap .i64 (x0 - (1 : Int)))) ((0 : Int) , ((0 : Int) , ((0 : Int) , ((0 : Int) , ((0 : Int) , (0 : Int))))))).2.2.2.1 (List.getD x1 (Int.toNat (IntKind.wrap .i64 (x0 - (1 : Int)))) ((0 : Int) , ((0 : Int) , ((0 : Int) , ((0 : Int) , ((0 : Int) , (0 : Int))))))).2.2.2.2.1 (List.getD x1 (Int.toNat (IntKind.wrap .i64 (x0 - (1 : Int)))) ((0 : Int) , ((0 : Int) , ((0 : Int) , ((0 : Int) , ((0 : Int) , (0 : Int))))))).2.2.2.2.2 true x1 x2 x3)
     (none))
    (none)))
  (k0 (0 : Int) (0 : Int) (0 : Int) (0 : Int) (0 : Int) (0 : Int) false x1 x2 x3)
noncomputable def term_Arena_Node_43b4 (N : Nat) {R : Type} (x0 : Int) (x1 : List ((Int) × ((Int) × ((Int) × ((Int) × ((Int) × (Int))))))) (x2 : List (((Int) × ((Int) × ((Int) × ((Int) × ((Int) × (Int)))))) × (Int))) (x3 : List ((Int) × (Int))) (k0 : (Int) → (Int) → (Int) → (Int) → (Int) → (Int) → (Bool) → (List ((Int) × ((Int) × ((Int) × ((Int) × ((Int) × (Int))))))) → (List (((Int) × ((Int) × ((Int) × ((Int) × ((Int) × (Int)))))) × (Int))) → (List ((Int) × (Int))) → Option R) : Option R := term_Arena_Node_43b4_T N x0 x1 x2 x3 k0
abbrev term_Arena_there_2549_l0_Ty : Type 1 := {R : Type} → ((Bool) → (List ((Int) × ((Int) × ((Int) × ((Int) × ((Int) × (Int))))))) → (List (((Int) × ((Int) × ((Int) × ((Int) × ((Int) × (Int)))))) × (Int))) → (List ((Int) × (Int))) → (List (Int)) → Option R) → ((List ((Int) × ((Int) × ((Int) × ((Int) × ((Int) × (Int))))))) → (List (((Int) × ((Int) × ((Int) × ((Int) × ((Int) × (Int)))))) × (Int))) → (List ((Int) × (Int))) → (List (Int)) → Option R) → Nat → (Int) → (Int) → (List ((Int) × ((Int) × ((Int) × ((Int) × ((Int) × (Int))))))) → (List (((Int) × ((Int) × ((Int) × ((Int) × ((Int) × (Int)))))) × (Int))) → (List ((Int) × (Int))) → (List (Int)) → Option R
abbrev term_Arena_there_2549_Ty : Type 1 := {R : Type} → (List ((Int) × ((Int) × ((Int) × ((Int) × ((Int) × (Int))))))) → (List (((Int) × ((Int) × ((Int) × ((Int) × ((Int) × (Int)))))) × (Int))) → (List ((Int) × (Int))) → (List (Int)) → ((Bool) → (List ((Int) × ((Int) × ((Int) × ((Int) × ((Int) × (Int))))))) → (List (((Int) × ((Int) × ((Int) × ((Int) × ((Int) × (Int)))))) × (Int))) → (List ((Int) × (Int))) → (List (Int)) → Option R) → Option R
noncomputable def term_Arena_there_2549_l0_T0 (N : Nat) (c0 : term_Arena_Node_43b4_Ty) {R : Type} (nx : (Int) → (Int) → (List ((Int) × ((Int) × ((Int) × ((Int) × ((Int) × (Int))))))) → (List (((Int) × ((Int) × ((Int) × ((Int) × ((Int) × (Int)))))) × (Int))) → (List ((Int) × (Int))) → (List (Int)) → Option R) (k0 : (Bool) → (List ((Int) × ((Int) × ((Int) × ((Int) × ((Int) × (Int))))))) → (List (((Int) × ((Int) × ((Int) × ((Int) × ((Int) × (Int)))))) × (Int))) → (List ((Int) × (Int))) → (List (Int)) → Option R) (k1 : (List ((Int) × ((Int) × ((Int) × ((Int) × ((Int) × (Int))))))) → (List (((Int) × ((Int) × ((Int) × ((Int) × ((Int) × (Int)))))) × (Int))) → (List ((Int) × (Int))) → (List (Int)) → Option R) (x0 : Int) (x1 : Int) (x2 : List ((Int) × ((Int) × ((Int) × ((Int) × ((Int) × (Int))))))) (x3 : List (((Int) × ((Int) × ((Int) × ((Int) × ((Int) × (Int)))))) × (Int))) (x4 : List ((Int) × (Int))) (x5 : List (Int)) : Option R :=
  br (decide (x1 < x0))
  (br (inB x1 (List.length x5))
   (br (decide ((Int.toNat x1) < (List.length x5)))
    (c0 (List.getD x5 (Int.toNat x1) (0 : Int)) x2 x3 x4
     (fun i29 i30 i31 i32 i33 i34 b35 l36 l37 l38 => br (!b35)
      (k0 false l36 l37 l38 x5)
      (nx x0 (IntKind.wrap .i64 (x1 + (1 : Int))) l36 l37 l38 x5)))
    (none))
   (none))
  (k1 x2 x3 x4 x5)
noncomputable def term_Arena_there_2549_l0 (N : Nat) {R : Type} (k0 : (Bool) → (List ((Int) × ((Int) × ((Int) × ((Int) × ((Int) × (Int))))))) → (List (((Int) × ((Int) × ((Int) × ((Int) × ((Int) × (Int)))))) × (Int))) → (List ((Int) × (Int))) → (List (Int)) → Option R) (k1 : (List ((Int) × ((Int) × ((Int) × ((Int) × ((Int) × (Int))))))) → (List (((Int) × ((Int) × ((Int) × ((Int) × ((Int) × (Int)))))) × (Int))) → (List ((Int) × (Int))) → (List (Int)) → Option R) : Nat → (Int) → (Int) → (List ((Int) × ((Int) × ((Int) × ((Int) × ((Int) × (Int))))))) → (List (((Int) × ((Int) × ((Int) × ((Int) × ((Int) × (Int)))))) × (Int))) → (List ((Int) × (Int))) → (List (Int)) → Option R
  | 0, _, _, _, _, _, _ => none
  | n + 1, x0, x1, x2, x3, x4, x5 => term_Arena_there_2549_l0_T0 N (@term_Arena_Node_43b4 N) (fun x0 x1 x2 x3 x4 x5 => term_Arena_there_2549_l0 N k0 k1 n x0 x1 x2 x3 x4 x5) k0 k1 x0 x1 x2 x3 x4 x5
noncomputable def term_Arena_there_2549_T (N : Nat) (c0 : term_Arena_Node_43b4_Ty) (w0 : term_Arena_there_2549_l0_Ty) {R : Type} (x0 : List ((Int) × ((Int) × ((Int) × ((Int) × ((Int) × (Int))))))) (x1 : List (((Int) × ((Int) × ((Int) × ((Int) × ((Int) × (Int)))))) × (Int))) (x2 : List ((Int) × (Int))) (x3 : List (Int)) (k0 : (Bool) → (List ((Int) × ((Int) × ((Int) × ((Int) × ((Int) × (Int))))))) → (List (((Int) × ((Int) × ((Int) × ((Int) × ((Int) × (Int)))))) × (Int))) → (List ((Int) × (Int))) → (List (Int)) → Option R) : Option R :=
  w0
  (fun b39 l40 l41 l42 l43 => k0 b39 l40 l41 l42 l43)
  (fun l44 l45 l46 l47 => k0 true l44 l45 l46 l47)
  N (Nat.cast (List.length x3) : Int) (0 : Int) x0 x1 x2 x3
noncomputable def term_Arena_there_2549 (N : Nat) {R : Type} (x0 : List ((Int) × ((Int) × ((Int) × ((Int) × ((Int) × (Int))))))) (x1 : List (((Int) × ((Int) × ((Int) × ((Int) × ((Int) × (Int)))))) × (Int))) (x2 : List ((Int) × (Int))) (x3 : List (Int)) (k0 : (Bool) → (List ((Int) × ((Int) × ((Int) × ((Int) × ((Int) × (Int))))))) → (List (((Int) × ((Int) × ((Int) × ((Int) × ((Int) × (Int)))))) × (Int))) → (List ((Int) × (Int))) → (List (Int)) → Option R) : Option R := term_Arena_there_2549_T N (@term_Arena_Node_43b4 N) (@term_Arena_there_2549_l0 N) x0 x1 x2 x3 k0
abbrev term_Arena_Width_43b4_Ty : Type 1 := {R : Type} → (Int) → (List ((Int) × ((Int) × ((Int) × ((Int) × ((Int) × (Int))))))) → (List (((Int) × ((Int) × ((Int) × ((Int) × ((Int) × (Int)))))) × (Int))) → (List ((Int) × (Int))) → ((Int) → (List ((Int) × ((Int) × ((Int) × ((Int) × ((Int) × (Int))))))) → (List (((Int) × ((Int) × ((Int) × ((Int) × ((Int) × (Int)))))) × (Int))) → (List ((Int) × (Int))) → Option R) → Option R
noncomputable def term_Arena_Width_43b4_T (N : Nat) (c0 : term_Arena_Node_43b4_Ty) {R : Type} (x0 : Int) (x1 : List ((Int) × ((Int) × ((Int) × ((Int) × ((Int) × (Int))))))) (x2 : List (((Int) × ((Int) × ((Int) × ((Int) × ((Int) × (Int)))))) × (Int))) (x3 : List ((Int) × (Int))) (k0 : (Int) → (List ((Int) × ((Int) × ((Int) × ((Int) × ((Int) × (Int))))))) → (List (((Int) × ((Int) × ((Int) × ((Int) × ((Int) × (Int)))))) × (Int))) → (List ((Int) × (Int))) → Option R) : Option R :=
  c0 x0 x1 x2 x3
  (fun i53 i54 i55 i56 i57 i58 b59 l60 l61 l62 => k0 i54 l60 l61 l62)
noncomputable def term_Arena_Width_43b4 (N : Nat) {R : Type} (x0 : Int) (x1 : List ((Int) × ((Int) × ((Int) × ((Int) × ((Int) × (Int))))))) (x2 : List (((Int) × ((Int) × ((Int) × ((Int) × ((Int) × (Int)))))) × (Int))) (x3 : List ((Int) × (Int))) (k0 : (Int) → (List ((Int) × ((Int) × ((Int) × ((Int) × ((Int) × (Int))))))) → (List (((Int) × ((Int) × ((Int) × ((Int) × ((Int) × (Int)))))) × (Int))) → (List ((Int) × (Int))) → Option R) : Option R := term_Arena_Width_43b4_T N (@term_Arena_Node_43b4 N) x0 x1 x2 x3 k0
abbrev term_Arena_Known_43b4_Ty : Type 1 := {R : Type} → (Int) → (List ((Int) × ((Int) × ((Int) × ((Int) × ((Int) × (Int))))))) → (List (((Int) × ((Int) × ((Int) × ((Int) × ((Int) × (Int)))))) × (Int))) → (List ((Int) × (Int))) → ((Int) → (Bool) → (List ((Int) × ((Int) × ((Int) × ((Int) × ((Int) × (Int))))))) → (List (((Int) × ((Int) × ((Int) × ((Int) × ((Int) × (Int)))))) × (Int))) → (List ((Int) × (Int))) → Option R) → Option R
noncomputable def term_Arena_Known_43b4_T (N : Nat) (c0 : term_Arena_Node_43b4_Ty) {R : Type} (x0 : Int) (x1 : List ((Int) × ((Int) × ((Int) × ((Int) × ((Int) × (Int))))))) (x2 : List (((Int) × ((Int) × ((Int) × ((Int) × ((Int) × (Int)))))) × (Int))) (x3 : List ((Int) × (Int))) (k0 : (Int) → (Bool) → (List ((Int) × ((Int) × ((Int) × ((Int) × ((Int) × (Int))))))) → (List (((Int) × ((Int) × ((Int) × ((Int) × ((Int) × (Int)))))) × (Int))) → (List ((Int) × (Int))) → Option R) : Option R :=
  c0 x0 x1 x2 x3
  (fun i71 i72 i73 i74 i75 i76 b77 l78 l79 l80 => br (decide (i71 = (1 : Int)))
   (k0 i73 (decide ((0 : Int) < i72)) l78 l79 l80)
   (k0 i73 false l78 l79 l80))
noncomputable def term_Arena_Known_43b4 (N : Nat) {R : Type} (x0 : Int) (x1 : List ((Int) × ((Int) × ((Int) × ((Int) × ((Int) × (Int))))))) (x2 : List (((Int) × ((Int) × ((Int) × ((Int) × ((Int) × (Int)))))) × (Int))) (x3 : List ((Int) × (Int))) (k0 : (Int) → (Bool) → (List ((Int) × ((Int) × ((Int) × ((Int) × ((Int) × (Int))))))) → (List (((Int) × ((Int) × ((Int) × ((Int) × ((Int) × (Int)))))) × (Int))) → (List ((Int) × (Int))) → Option R) : Option R := term_Arena_Known_43b4_T N (@term_Arena_Node_43b4 N) x0 x1 x2 x3 k0
abbrev wide_divided_Ty : Type 1 := {R : Type} → (Int) → (Int) → (Int) → ((Int) → Option R) → Option R
noncomputable def wide_divided_T (N : Nat) (c0 : wide_Mask_Ty) {R : Type} (x0 : Int) (x1 : Int) (x2 : Int) (k0 : (Int) → Option R) : Option R :=
  br (decide (x2 = (0 : Int)))
  (c0 x0
   (fun i97 => k0 i97))
  (br (decide (x2 = (0 : Int)))
   (none)
   (k0 (IntKind.wrap .u16 (Int.tdiv x1 x2))))
noncomputable def wide_divided (N : Nat) {R : Type} (x0 : Int) (x1 : Int) (x2 : Int) (k0 : (Int) → Option R) : Option R := wide_divided_T N (@wide_Mask N) x0 x1 x2 k0
abbrev wide_rest_Ty : Type 1 := {R : Type} → (Int) → (Int) → ((Int) → Option R) → Option R
noncomputable def wide_rest_T (N : Nat) {R : Type} (x0 : Int) (x1 : Int) (k0 : (Int) → Option R) : Option R :=
  br (decide (x1 = (0 : Int)))
  (k0 x0)
  (br (decide (x1 = (0 : Int)))
   (none)
   (k0 (Int.tmod x0 x1)))
noncomputable def wide_rest (N : Nat) {R : Type} (x0 : Int) (x1 : Int) (k0 : (Int) → Option R) : Option R := wide_rest_T N x0 x1 k0
abbrev wide_truth_Ty : Type 1 := {R : Type} → (Bool) → ((Int) → Option R) → Option R
noncomputable def wide_truth_T (N : Nat) {R : Type} (x0 : Bool) (k0 : (Int) → Option R) : Option R :=
  br x0
  (k0 (1 : Int))
  (k0 (0 : Int))
noncomputable def wide_truth (N : Nat) {R : Type} (x0 : Bool) (k0 : (Int) → Option R) : Option R := wide_truth_T N x0 k0
abbrev wide_reckon_Ty : Type 1 := {R : Type} → (Int) → (Int) → (Int) → (Int) → ((Int) → (Bool) → Option R) → Option R
noncomputable def wide_reckon_T (N : Nat) (c0 : wide_truth_Ty) (c1 : wide_rest_Ty) (c2 : wide_divided_Ty) {R : Type} (x0 : Int) (x1 : Int) (x2 : Int) (x3 : Int) (k0 : (Int) → (Bool) → Option R) : Option R :=
  br (decide (x0 = (3 : Int)))
  (k0 (bxor .u16 (if ((IntKind.signed .u16) = true) then (-1 : Int) else (IntKind.max .u16)) x2) true)
  (br (decide (x0 = (4 : Int)))
   (k0 (band .u16 x2 x3) true)
   (br (decide (x0 = (5 : Int)))
    (k0 (bor .u16 x2 x3) true)
    (br (decide (x0 = (6 : Int)))
     (k0 (bxor .u16 x2 x3) true)
     (br (decide (x0 = (7 : Int)))
      (k0 (IntKind.wrap .u16 (x2 + x3)) true)
      (br (decide (x0 = (8 : Int)))
       (k0 (IntKind.wrap .u16 (x2 - x3)) true)
       (br (decide (x0 = (9 : Int)))
        (k0 (IntKind.wrap .u16 (x2 * x3)) true)
        (br (decide (x0 = (10 : Int)))
         (c2 x1 x2 x3
          (fun i98 => k0 i98 true))
         (br (decide (x0 = (11 : Int)))
          (c1 x2 x3
           (fun i99 => k0 i99 true))
          (br (decide (x0 = (12 : Int)))
           (br (decide (x3 < (0 : Int)))
            (none)
            (k0 (shlI .u16 x2 x3) true))
           (br (decide (x0 = (13 : Int)))
            (br (decide (x3 < (0 : Int)))
             (none)
             (k0 (shrI .u16 x2 x3) true))
            (br (decide (x0 = (14 : Int)))
             (c0 (decide (x2 = x3))
              (fun i100 => k0 i100 true))
             (br (decide (x0 = (15 : Int)))
              (c0 (decide (x2 < x3))
               (fun i101 => k0 i101 true))
              (k0 (0 : Int) false)))))))))))))
noncomputable def wide_reckon (N : Nat) {R : Type} (x0 : Int) (x1 : Int) (x2 : Int) (x3 : Int) (k0 : (Int) → (Bool) → Option R) : Option R := wide_reckon_T N (@wide_truth N) (@wide_rest N) (@wide_divided N) x0 x1 x2 x3 k0
abbrev wide_Do_Ty : Type 1 := {R : Type} → (Int) → (Int) → (Int) → (Int) → ((Int) → (Int) → Option R) → Option R
noncomputable def wide_Do_T (N : Nat) (c0 : wide_reckon_Ty) (c1 : wide_Mask_Ty) (c2 : wide_May_Ty) {R : Type} (x0 : Int) (x1 : Int) (x2 : Int) (x3 : Int) (k0 : (Int) → (Int) → Option R) : Option R :=
  c2 x1
  (fun b95 => br (!b95)
   (k0 (0 : Int) (2 : Int))
   (c1 x1
    (fun i96 => c0 x0 x1 (band .u16 x2 i96) (band .u16 x3 i96)
     (fun i102 b103 => br (!b103)
      (k0 (0 : Int) (5 : Int))
      (k0 (band .u16 i102 i96) (0 : Int))))))
noncomputable def wide_Do (N : Nat) {R : Type} (x0 : Int) (x1 : Int) (x2 : Int) (x3 : Int) (k0 : (Int) → (Int) → Option R) : Option R := wide_Do_T N (@wide_reckon N) (@wide_Mask N) (@wide_May N) x0 x1 x2 x3 k0
abbrev wide_Out_Ty : Type 1 := {R : Type} → (Int) → (Int) → ((Int) → Option R) → Option R
noncomputable def wide_Out_T (N : Nat) (c0 : wide_Do_Ty) {R : Type} (x0 : Int) (x1 : Int) (k0 : (Int) → Option R) : Option R :=
  c0 x0 x1 (0 : Int) (0 : Int)
  (fun i110 i111 => br (!(decide (i111 = (0 : Int))))
   (k0 (0 : Int))
   (br (!(decide (x0 = (14 : Int))))
    (br (decide (x0 = (15 : Int)))
     (k0 (1 : Int))
     (k0 x1))
    (k0 (1 : Int))))
noncomputable def wide_Out (N : Nat) {R : Type} (x0 : Int) (x1 : Int) (k0 : (Int) → Option R) : Option R := wide_Out_T N (@wide_Do N) x0 x1 k0
abbrev term_turns_Ty : Type 1 := {R : Type} → (Int) → ((Bool) → Option R) → Option R
noncomputable def term_turns_T (N : Nat) {R : Type} (x0 : Int) (k0 : (Bool) → Option R) : Option R :=
  br (decide (x0 = (4 : Int)))
  (k0 true)
  (br (decide (x0 = (5 : Int)))
   (k0 true)
   (br (decide (x0 = (6 : Int)))
    (k0 true)
    (br (decide (x0 = (7 : Int)))
     (k0 true)
     (br (decide (x0 = (9 : Int)))
      (k0 true)
      (br (decide (x0 = (14 : Int)))
       (k0 true)
       (k0 false))))))
noncomputable def term_turns (N : Nat) {R : Type} (x0 : Int) (k0 : (Bool) → Option R) : Option R := term_turns_T N x0 k0
abbrev term_Arena_alike_99d8_Ty : Type 1 := {R : Type} → (Int) → (Int) → (List ((Int) × ((Int) × ((Int) × ((Int) × ((Int) × (Int))))))) → (List (((Int) × ((Int) × ((Int) × ((Int) × ((Int) × (Int)))))) × (Int))) → (List ((Int) × (Int))) → ((Int) → (Int) → (Bool) → (List (((Int) × ((Int) × ((Int) × ((Int) × ((Int) × (Int)))))) × (Int))) → (List ((Int) × (Int))) → (List ((Int) × ((Int) × ((Int) × ((Int) × ((Int) × (Int))))))) → Option R) → Option R
noncomputable def term_Arena_alike_99d8_T (N : Nat) (c0 : wide_Do_Ty) (c1 : term_Arena_Const_2c81_Ty) (c2 : term_Arena_Width_43b4_Ty) {R : Type} (x0 : Int) (x1 : Int) (x2 : List ((Int) × ((Int) × ((Int) × ((Int) × ((Int) × (Int))))))) (x3 : List (((Int) × ((Int) × ((Int) × ((Int) × ((Int) × (Int)))))) × (Int))) (x4 : List ((Int) × (Int))) (k0 : (Int) → (Int) → (Bool) → (List (((Int) × ((Int) × ((Int) × ((Int) × ((Int) × (Int)))))) × (Int))) → (List ((Int) × (Int))) → (List ((Int) × ((Int) × ((Int) × ((Int) × ((Int) × (Int))))))) → Option R) : Option R :=
  c2 x1 x2 x3 x4
  (fun i168 l169 l170 l171 => br (decide (x0 = (4 : Int)))
   (k0 x1 (0 : Int) true l170 l171 l169)
   (br (decide (x0 = (5 : Int)))
    (k0 x1 (0 : Int) true l170 l171 l169)
    (br (decide (x0 = (6 : Int)))
     (c1 i168 (0 : Int) l169 l170 l171
      (fun i172 i173 l174 l175 l176 => k0 i172 i173 true l174 l175 l176))
     (br (decide (x0 = (8 : Int)))
      (c1 i168 (0 : Int) l169 l170 l171
       (fun i177 i178 l179 l180 l181 => k0 i177 i178 true l179 l180 l181))
      (br (decide (x0 = (14 : Int)))
       (c0 x0 i168 (0 : Int) (0 : Int)
        (fun i182 i183 => c1 (1 : Int) i182 l169 l170 l171
         (fun i184 i185 l186 l187 l188 => k0 i184 i185 true l186 l187 l188)))
       (br (decide (x0 = (15 : Int)))
        (c0 x0 i168 (0 : Int) (0 : Int)
         (fun i189 i190 => c1 (1 : Int) i189 l169 l170 l171
          (fun i191 i192 l193 l194 l195 => k0 i191 i192 true l193 l194 l195)))
        (k0 (0 : Int) (0 : Int) false l170 l171 l169)))))))
noncomputable def term_Arena_alike_99d8 (N : Nat) {R : Type} (x0 : Int) (x1 : Int) (x2 : List ((Int) × ((Int) × ((Int) × ((Int) × ((Int) × (Int))))))) (x3 : List (((Int) × ((Int) × ((Int) × ((Int) × ((Int) × (Int)))))) × (Int))) (x4 : List ((Int) × (Int))) (k0 : (Int) → (Int) → (Bool) → (List (((Int) × ((Int) × ((Int) × ((Int) × ((Int) × (Int)))))) × (Int))) → (List ((Int) × (Int))) → (List ((Int) × ((Int) × ((Int) × ((Int) × ((Int) × (Int))))))) → Option R) : Option R := term_Arena_alike_99d8_T N (@wide_Do N) (@term_Arena_Const_2c81 N) (@term_Arena_Width_43b4 N) x0 x1 x2 x3 x4 k0
abbrev term_Arena_Not_43b4_Ty : Type 1 := {R : Type} → (Int) → (List ((Int) × ((Int) × ((Int) × ((Int) × ((Int) × (Int))))))) → (List (((Int) × ((Int) × ((Int) × ((Int) × ((Int) × (Int)))))) × (Int))) → (List ((Int) × (Int))) → ((Int) → (Int) → (List (((Int) × ((Int) × ((Int) × ((Int) × ((Int) × (Int)))))) × (Int))) → (List ((Int) × (Int))) → (List ((Int) × ((Int) × ((Int) × ((Int) × ((Int) × (Int))))))) → Option R) → Option R
noncomputable def term_Arena_Not_43b4_T (N : Nat) (c0 : term_Arena_keep_a25e_Ty) (c1 : term_Arena_Const_2c81_Ty) (c2 : term_Arena_Node_43b4_Ty) (c3 : term_Arena_there_2549_Ty) {R : Type} (x0 : Int) (x1 : List ((Int) × ((Int) × ((Int) × ((Int) × ((Int) × (Int))))))) (x2 : List (((Int) × ((Int) × ((Int) × ((Int) × ((Int) × (Int)))))) × (Int))) (x3 : List ((Int) × (Int))) (k0 : (Int) → (Int) → (List (((Int) × ((Int) × ((Int) × ((Int) × ((Int) × (Int)))))) × (Int))) → (List ((Int) × (Int))) → (List ((Int) × ((Int) × ((Int) × ((Int) × ((Int) × (Int))))))) → Option R) : Option R :=
  c3 x1 x2 x3 (x0 :: ([] : List ((Sh.int IntKind.i64).T)))
  (fun b259 l260 l261 l262 l263 => br (!b259)
   (k0 (0 : Int) (1 : Int) l261 l262 l260)
   (c2 x0 l260 l261 l262
    (fun i264 i265 i266 i267 i268 i269 b270 l271 l272 l273 => br (decide (i264 = (1 : Int)))
     (c1 i265 (bxor .u16 (if ((IntKind.signed .u16) = true) then (-1 : Int) else (IntKind.max .u16)) i266) l271 l272 l273
      (fun i274 i275 l276 l277 l278 => k0 i274 i275 l276 l277 l278))
     (br (decide (i264 = (3 : Int)))
      (k0 i267 (0 : Int) l272 l273 l271)
      (c0 (3 : Int) i265 (0 : Int) x0 (0 : Int) (0 : Int) l271 l272 l273
       (fun i279 i280 l281 l282 l283 => k0 i279 i280 l281 l282 l283))))))
noncomputable def term_Arena_Not_43b4 (N : Nat) {R : Type} (x0 : Int) (x1 : List ((Int) × ((Int) × ((Int) × ((Int) × ((Int) × (Int))))))) (x2 : List (((Int) × ((Int) × ((Int) × ((Int) × ((Int) × (Int)))))) × (Int))) (x3 : List ((Int) × (Int))) (k0 : (Int) → (Int) → (List (((Int) × ((Int) × ((Int) × ((Int) × ((Int) × (Int)))))) × (Int))) → (List ((Int) × (Int))) → (List ((Int) × ((Int) × ((Int) × ((Int) × ((Int) × (Int))))))) → Option R) : Option R := term_Arena_Not_43b4_T N (@term_Arena_keep_a25e N) (@term_Arena_Const_2c81 N) (@term_Arena_Node_43b4 N) (@term_Arena_there_2549 N) x0 x1 x2 x3 k0
abbrev term_Arena_Var_99d8_Ty : Type 1 := {R : Type} → (Int) → (Int) → (List ((Int) × ((Int) × ((Int) × ((Int) × ((Int) × (Int))))))) → (List (((Int) × ((Int) × ((Int) × ((Int) × ((Int) × (Int)))))) × (Int))) → (List ((Int) × (Int))) → ((Int) → (Int) → (List (((Int) × ((Int) × ((Int) × ((Int) × ((Int) × (Int)))))) × (Int))) → (List ((Int) × (Int))) → (List ((Int) × ((Int) × ((Int) × ((Int) × ((Int) × (Int))))))) → Option R) → Option R
noncomputable def term_Arena_Var_99d8_T (N : Nat) (c0 : term_Arena_keep_a25e_Ty) (c1 : wide_May_Ty) {R : Type} (x0 : Int) (x1 : Int) (x2 : List ((Int) × ((Int) × ((Int) × ((Int) × ((Int) × (Int))))))) (x3 : List (((Int) × ((Int) × ((Int) × ((Int) × ((Int) × (Int)))))) × (Int))) (x4 : List ((Int) × (Int))) (k0 : (Int) → (Int) → (List (((Int) × ((Int) × ((Int) × ((Int) × ((Int) × (Int)))))) × (Int))) → (List ((Int) × (Int))) → (List ((Int) × ((Int) × ((Int) × ((Int) × ((Int) × (Int))))))) → Option R) : Option R :=
  c1 x0
  (fun b666 => br (!b666)
   (k0 (0 : Int) (2 : Int) x3 x4 x2)
   (br (!(decide (x1 < (0 : Int))))
    (br (!(decide ((64 : Int) ≤ x1)))
     (br (Option.isSome (mfind (.int .i64) (.int .i64) x4 x1))
      (br (!(decide ((Option.getD (mfind (.int .i64) (.int .i64) x4 x1) (0 : Int)) = x0)))
       (k0 (0 : Int) (1 : Int) x3 x4 x2)
       (c0 (2 : Int) x0 (IntKind.wrap .u16 x1) (0 : Int) (0 : Int) (0 : Int) x2 x3 x4
        (fun i667 i668 l669 l670 l671 => br (decide (i668 = (0 : Int)))
         (k0 i667 i668 l669 (mput (.int .i64) (.int .i64) l670 x1 x0) l671)
         (k0 i667 i668 l669 l670 l671))))
      (c0 (2 : Int) x0 (IntKind.wrap .u16 x1) (0 : Int) (0 : Int) (0 : Int) x2 x3 x4
       (fun i672 i673 l674 l675 l676 => br (decide (i673 = (0 : Int)))
        (k0 i672 i673 l674 (mput (.int .i64) (.int .i64) l675 x1 x0) l676)
        (k0 i672 i673 l674 l675 l676))))
     (k0 (0 : Int) (1 : Int) x3 x4 x2))
    (k0 (0 : Int) (1 : Int) x3 x4 x2)))
noncomputable def term_Arena_Var_99d8 (N : Nat) {R : Type} (x0 : Int) (x1 : Int) (x2 : List ((Int) × ((Int) × ((Int) × ((Int) × ((Int) × (Int))))))) (x3 : List (((Int) × ((Int) × ((Int) × ((Int) × ((Int) × (Int)))))) × (Int))) (x4 : List ((Int) × (Int))) (k0 : (Int) → (Int) → (List (((Int) × ((Int) × ((Int) × ((Int) × ((Int) × (Int)))))) × (Int))) → (List ((Int) × (Int))) → (List ((Int) × ((Int) × ((Int) × ((Int) × ((Int) × (Int))))))) → Option R) : Option R := term_Arena_Var_99d8_T N (@term_Arena_keep_a25e N) (@wide_May N) x0 x1 x2 x3 x4 k0
abbrev term_Value_7344_Ty : Type 1 := {R : Type} → (Int) → (Int) → (Int) → (Int) → (Int) → (Int) → (Int) → (Int) → (Int) → (Int) → (List (Int)) → ((Int) → (List (Int)) → Option R) → Option R
noncomputable def term_Value_7344_T (N : Nat) (c0 : wide_Do_Ty) (c1 : wide_Mask_Ty) {R : Type} (x0 : Int) (x1 : Int) (x2 : Int) (x3 : Int) (x4 : Int) (x5 : Int) (x6 : Int) (x7 : Int) (x8 : Int) (x9 : Int) (x10 : List (Int)) (k0 : (Int) → (List (Int)) → Option R) : Option R :=
  br (decide (x0 = (1 : Int)))
  (k0 x2 x10)
  (br (decide (x0 = (2 : Int)))
   (br (decide ((IntKind.wrap .i64 x2) < (Nat.cast (List.length x10) : Int)))
    (br (inB x2 (List.length x10))
     (br (decide ((Int.toNat x2) < (List.length x10)))
      (c1 x1
       (fun i717 => br (decide (x2 = x2))
        (br (inB x2 (List.length x10))
         (br (decide (x2 = x2))
          (br (decide ((Int.toNat x2) < (List.length x10)))
           (br (decide ((List.getD x10 (Int.toNat x2) (0 : Int)) = (List.getD x10 (Int.toNat x2) (0 : Int))))
            (k0 (band .u16 (List.getD x10 (Int.toNat x2) (0 : Int)) i717) x10)
            (none))
           (none))
          (none))
         (none))
        (none)))
      (none))
     (none))
    (k0 (0 : Int) x10))
   (br (decide (x0 = (16 : Int)))
    (br (decide (x7 = (1 : Int)))
     (k0 x8 x10)
     (k0 x9 x10))
    (br (decide (x0 = (17 : Int)))
     (k0 x7 x10)
     (br (decide (x0 = (18 : Int)))
      (c1 x1
       (fun i718 => k0 (band .u16 x7 i718) x10))
      (c0 x0 x6 x7 x8
       (fun i719 i720 => k0 i719 x10))))))
noncomputable def term_Value_7344 (N : Nat) {R : Type} (x0 : Int) (x1 : Int) (x2 : Int) (x3 : Int) (x4 : Int) (x5 : Int) (x6 : Int) (x7 : Int) (x8 : Int) (x9 : Int) (x10 : List (Int)) (k0 : (Int) → (List (Int)) → Option R) : Option R := term_Value_7344_T N (@wide_Do N) (@wide_Mask N) x0 x1 x2 x3 x4 x5 x6 x7 x8 x9 x10 k0
abbrev term_Arena_Under_2549_l0_Ty : Type 1 := {R : Type} → ((Int) → (List ((Int) × ((Int) × ((Int) × ((Int) × ((Int) × (Int))))))) → (List (((Int) × ((Int) × ((Int) × ((Int) × ((Int) × (Int)))))) × (Int))) → (List ((Int) × (Int))) → (List (Int)) → Option R) → Nat → (Int) → (Int) → (Int) → (List ((Int) × ((Int) × ((Int) × ((Int) × ((Int) × (Int))))))) → (List (((Int) × ((Int) × ((Int) × ((Int) × ((Int) × (Int)))))) × (Int))) → (List ((Int) × (Int))) → (List (Int)) → Option R
abbrev term_Arena_Under_2549_l1_Ty : Type 1 := {R : Type} → ((Int) → (List ((Int) × ((Int) × ((Int) × ((Int) × ((Int) × (Int))))))) → (List (((Int) × ((Int) × ((Int) × ((Int) × ((Int) × (Int)))))) × (Int))) → (List ((Int) × (Int))) → (List (Int)) → (List (Bool)) → Option R) → Nat → (Int) → (Int) → (Int) → (List ((Int) × ((Int) × ((Int) × ((Int) × ((Int) × (Int))))))) → (List (((Int) × ((Int) × ((Int) × ((Int) × ((Int) × (Int)))))) × (Int))) → (List ((Int) × (Int))) → (List (Int)) → (List (Bool)) → Option R
abbrev term_Arena_Under_2549_l2_Ty : Type 1 := {R : Type} → ((Int) → (List ((Int) × ((Int) × ((Int) × ((Int) × ((Int) × (Int))))))) → (List (((Int) × ((Int) × ((Int) × ((Int) × ((Int) × (Int)))))) × (Int))) → (List ((Int) × (Int))) → (List (Int)) → (List (Bool)) → Option R) → Nat → (Int) → (Int) → (List ((Int) × ((Int) × ((Int) × ((Int) × ((Int) × (Int))))))) → (List (((Int) × ((Int) × ((Int) × ((Int) × ((Int) × (Int)))))) × (Int))) → (List ((Int) × (Int))) → (List (Int)) → (List (Bool)) → Option R
abbrev term_Arena_Under_2549_l3_Ty : Type 1 := {R : Type} → ((List ((Int) × ((Int) × ((Int) × ((Int) × ((Int) × (Int))))))) → (List (((Int) × ((Int) × ((Int) × ((Int) × ((Int) × (Int)))))) × (Int))) → (List ((Int) × (Int))) → (List (Int)) → (List (Int)) → Option R) → Nat → (Int) → (Int) → (List ((Int) × ((Int) × ((Int) × ((Int) × ((Int) × (Int))))))) → (List (((Int) × ((Int) × ((Int) × ((Int) × ((Int) × (Int)))))) × (Int))) → (List ((Int) × (Int))) → (List (Int)) → (List (Bool)) → (List (Int)) → Option R
abbrev term_Arena_Under_2549_Ty : Type 1 := {R : Type} → (List ((Int) × ((Int) × ((Int) × ((Int) × ((Int) × (Int))))))) → (List (((Int) × ((Int) × ((Int) × ((Int) × ((Int) × (Int)))))) × (Int))) → (List ((Int) × (Int))) → (List (Int)) → ((List ((Int) × ((Int) × ((Int) × ((Int) × ((Int) × (Int))))))) → (List (((Int) × ((Int) × ((Int) × ((Int) × ((Int) × (Int)))))) × (Int))) → (List ((Int) × (Int))) → (List (Int)) → (List (Int)) → Option R) → Option R
noncomputable def term_Arena_Under_2549_l0_T0 (N : Nat) (c0 : term_Arena_there_2549_Ty) (w1 : term_Arena_Under_2549_l1_Ty) (w2 : term_Arena_Under_2549_l2_Ty) (w3 : term_Arena_Under_2549_l3_Ty) {R : Type} (nx : (Int) → (Int) → (Int) → (List ((Int) × ((Int) × ((Int) × ((Int) × ((Int) × (Int))))))) → (List (((Int) × ((Int) × ((Int) × ((Int) × ((Int) × (Int)))))) × (Int))) → (List ((Int) × (Int))) → (List (Int)) → Option R) (k0 : (Int) → (List ((Int) × ((Int) × ((Int) × ((Int) × ((Int) × (Int))))))) → (List (((Int) × ((Int) × ((Int) × ((Int) × ((Int) × (Int)))))) × (Int))) → (List ((Int) × (Int))) → (List (Int)) → Option R) (x0 : Int) (x1 : Int) (x2 : Int) (x3 : List ((Int) × ((Int) × ((Int) × ((Int) × ((Int) × (Int))))))) (x4 : List (((Int) × ((Int) × ((Int) × ((Int) × ((Int) × (Int)))))) × (Int))) (x5 : List ((Int) × (Int))) (x6 : List (Int)) : Option R :=
  br (decide (x2 < x1))
  (br (inB x2 (List.length x6))
   (br (decide ((Int.toNat x2) < (List.length x6)))
    (c0 x3 x4 x5 ((List.getD x6 (Int.toNat x2) (0 : Int)) :: ([] : List ((Sh.int IntKind.i64).T)))
     (fun b730 l731 l732 l733 l734 => br b730
      (nx (if (x0 < (List.getD x6 (Int.toNat x2) (0 : Int))) then (List.getD x6 (Int.toNat x2) (0 : Int)) else x0) x1 (IntKind.wrap .i64 (x2 + (1 : Int))) l731 l732 l733 x6)
      (nx x0 x1 (IntKind.wrap .i64 (x2 + (1 : Int))) l731 l732 l733 x6)))
    (none))
   (none))
  (k0 x0 x3 x4 x5 x6)
noncomputable def term_Arena_Under_2549_l1_T0 (N : Nat) (c0 : term_Arena_there_2549_Ty) (w2 : term_Arena_Under_2549_l2_Ty) (w3 : term_Arena_Under_2549_l3_Ty) {R : Type} (nx : (Int) → (Int) → (Int) → (List ((Int) × ((Int) × ((Int) × ((Int) × ((Int) × (Int))))))) → (List (((Int) × ((Int) × ((Int) × ((Int) × ((Int) × (Int)))))) × (Int))) → (List ((Int) × (Int))) → (List (Int)) → (List (Bool)) → Option R) (k0 : (Int) → (List ((Int) × ((Int) × ((Int) × ((Int) × ((Int) × (Int))))))) → (List (((Int) × ((Int) × ((Int) × ((Int) × ((Int) × (Int)))))) × (Int))) → (List ((Int) × (Int))) → (List (Int)) → (List (Bool)) → Option R) (x0 : Int) (x1 : Int) (x2 : Int) (x3 : List ((Int) × ((Int) × ((Int) × ((Int) × ((Int) × (Int))))))) (x4 : List (((Int) × ((Int) × ((Int) × ((Int) × ((Int) × (Int)))))) × (Int))) (x5 : List ((Int) × (Int))) (x6 : List (Int)) (x7 : List (Bool)) : Option R :=
  br (decide (x2 < x1))
  (br (inB x2 (List.length x6))
   (br (decide ((Int.toNat x2) < (List.length x6)))
    (c0 x3 x4 x5 ((List.getD x6 (Int.toNat x2) (0 : Int)) :: ([] : List ((Sh.int IntKind.i64).T)))
     (fun b740 l741 l742 l743 l744 => br b740
      (br (inB (List.getD x6 (Int.toNat x2) (0 : Int)) (List.length x7))
       (br (decide ((Int.toNat (List.getD x6 (Int.toNat x2) (0 : Int))) < (List.length x7)))
        (nx x0 x1 (IntKind.wrap .i64 (x2 + (1 : Int))) l741 l742 l743 x6 (List.set x7 (Int.toNat (List.getD x6 (Int.toNat x2) (0 : Int))) true))
        (none))
       (none))
      (nx x0 x1 (IntKind.wrap .i64 (x2 + (1 : Int))) l741 l742 l743 x6 x7)))
    (none))
   (none))
  (k0 x0 x3 x4 x5 x6 x7)
noncomputable def term_Arena_Under_2549_l2_T0 (N : Nat) (c0 : term_Arena_there_2549_Ty) (w3 : term_Arena_Under_2549_l3_Ty) {R : Type} (nx : (Int) → (Int) → (List ((Int) × ((Int) × ((Int) × ((Int) × ((Int) × (Int))))))) → (List (((Int) × ((Int) × ((Int) × ((Int) × ((Int) × (Int)))))) × (Int))) → (List ((Int) × (Int))) → (List (Int)) → (List (Bool)) → Option R) (k0 : (Int) → (List ((Int) × ((Int) × ((Int) × ((Int) × ((Int) × (Int))))))) → (List (((Int) × ((Int) × ((Int) × ((Int) × ((Int) × (Int)))))) × (Int))) → (List ((Int) × (Int))) → (List (Int)) → (List (Bool)) → Option R) (x0 : Int) (x1 : Int) (x2 : List ((Int) × ((Int) × ((Int) × ((Int) × ((Int) × (Int))))))) (x3 : List (((Int) × ((Int) × ((Int) × ((Int) × ((Int) × (Int)))))) × (Int))) (x4 : List ((Int) × (Int))) (x5 : List (Int)) (x6 : List (Bool)) : Option R :=
  br (decide ((0 : Int) < x1))
  (br (inB x1 (List.length x6))
   (br (decide ((Int.toNat x1) < (List.length x6)))
    (br (!(List.getD x6 (Int.toNat x1) false))
     (nx x0 (IntKind.wrap .i64 (x1 - (1 : Int))) x2 x3 x4 x5 x6)
     (br (inB (IntKind.wrap .i64 (x1 - (1 : Int))) (List.length x2))
      (br (decide ((Int.toNat (IntKind.wrap .i64 (x1 - (1 : Int)))) < (List.length x2)))
       (br (inB (List.getD x2 (Int.toNat (IntKind.wrap .i64 (x1 - (1 : Int)))) ((0 : Int) , ((0 : Int) , ((0 : Int) , ((0 : Int) , ((0 : Int) , (0 : Int))))))).2.2.2.1 (List.length x6))
        (br (decide ((Int.toNat (List.getD x2 (Int.toNat (IntKind.wrap .i64 (x1 - (1 : Int)))) ((0 : Int) , ((0 : Int) , ((0 : Int) , ((0 : Int) , ((0 : Int) , (0 : Int))))))).2.2.2.1) < (List.length x6)))
         (br (decide ((List.getD x2 (Int.toNat (IntKind.wrap .i64 (x1 - (1 : Int)))) ((0 : Int) , ((0 : Int) , ((0 : Int) , ((0 : Int) , ((0 : Int) , (0 : Int))))))).2.2.2.2.1 = (List.getD x2 (Int.toNat (IntKind.wrap .i64 (x1 - (1 : Int)))) ((0 : Int) , ((0 : Int) , ((0 : Int) , ((0 : Int) , ((0 : Int) , (0 : Int))))))).2.2.2.2.1))
          (br (decide ((List.getD x2 (Int.toNat (IntKind.wrap .i64 (x1 - (1 : Int)))) ((0 : Int) , ((0 : Int) , ((0 : Int) , ((0 : Int) , ((0 : Int) , (0 : Int))))))).2.2.2.2.2 = (List.getD x2 (Int.toNat (IntKind.wrap .i64 (x1 - (1 : Int)))) ((0 : Int) , ((0 : Int) , ((0 : Int) , ((0 : Int) , ((0 : Int) , (0 : Int))))))).2.2.2.2.2))
           (br (inB (List.getD x2 (Int.toNat (IntKind.wrap .i64 (x1 - (1 : Int)))) ((0 : Int) , ((0 : Int) , ((0 : Int) , ((0 : Int) , ((0 : Int) , (0 : Int))))))).2.2.2.2.1 (List.length x6))
            (br (decide ((Int.toNat (List.getD x2 (Int.toNat (IntKind.wrap .i64 (x1 - (1 : Int)))) ((0 : Int) , ((0 : Int) , ((0 : Int) , ((0 : Int) , ((0 : Int) , (0 : Int))))))).2.2.2.2.1) < (List.length x6)))
             (br (decide ((List.getD x2 (Int.toNat (IntKind.wrap .i64 (x1 - (1 : Int)))) ((0 : Int) , ((0 : Int) , ((0 : Int) , ((0 : Int) , ((0 : Int) , (0 : Int))))))).2.2.2.2.2 = (List.getD x2 (Int.toNat (IntKind.wrap .i64 (x1 - (1 : Int)))) ((0 : Int) , ((0 : Int) , ((0 : Int) , ((0 : Int) , ((0 : Int) , (0 : Int))))))).2.2.2.2.2))
              (br (inB (List.getD x2 (Int.toNat (IntKind.wrap .i64 (x1 - (1 : Int)))) ((0 : Int) , ((0 : Int) , ((0 : Int) , ((0 : Int) , ((0 : Int) , (0 : Int))))))).2.2.2.2.2 (List.length x6))
               (br (decide ((Int.toNat (List.getD x2 (Int.toNat (IntKind.wrap .i64 (x1 - (1 : Int)))) ((0 : Int) , ((0 : Int) , ((0 : Int) , ((0 : Int) , ((0 : Int) , (0 : Int))))))).2.2.2.2.2) < (List.length x6)))
                (nx (IntKind.wrap .i64 (x0 + (1 : Int))) (IntKind.wrap .i64 (x1 - (1 : Int))) x2 x3 x4 x5 (List.set (List.set (List.set x6 (Int.toNat (List.getD x2 (Int.toNat (IntKind.wrap .i64 (x1 - (1 : Int)))) ((0 : Int) , ((0 : Int) , ((0 : Int) , ((0 : Int) , ((0 : Int) , (0 : Int))))))).2.2.2.1) true) (Int.toNat (List.getD x2 (Int.toNat (IntKind.wrap .i64 (x1 - (1 : Int)))) ((0 : Int) , ((0 : Int) , ((0 : Int) , ((0 : Int) , ((0 : Int) , (0 : Int))))))).2.2.2.2.1) true) (Int.toNat (List.getD x2 (Int.toNat (IntKind.wrap .i64 (x1 - (1 : Int)))) ((0 : Int) , ((0 : Int) , ((0 : Int) , ((0 : Int) , ((0 : Int) , (0 : Int))))))).2.2.2.2.2) true))
                (none))
               (none))
              (none))
             (none))
            (none))
           (none))
          (none))
         (none))
        (none))
       (none))
      (none)))
    (none))
   (none))
  (k0 x0 x2 x3 x4 x5 x6)
noncomputable def term_Arena_Under_2549_l3_T0 (N : Nat) (c0 : term_Arena_there_2549_Ty) {R : Type} (nx : (Int) → (Int) → (List ((Int) × ((Int) × ((Int) × ((Int) × ((Int) × (Int))))))) → (List (((Int) × ((Int) × ((Int) × ((Int) × ((Int) × (Int)))))) × (Int))) → (List ((Int) × (Int))) → (List (Int)) → (List (Bool)) → (List (Int)) → Option R) (k0 : (List ((Int) × ((Int) × ((Int) × ((Int) × ((Int) × (Int))))))) → (List (((Int) × ((Int) × ((Int) × ((Int) × ((Int) × (Int)))))) × (Int))) → (List ((Int) × (Int))) → (List (Int)) → (List (Int)) → Option R) (x0 : Int) (x1 : Int) (x2 : List ((Int) × ((Int) × ((Int) × ((Int) × ((Int) × (Int))))))) (x3 : List (((Int) × ((Int) × ((Int) × ((Int) × ((Int) × (Int)))))) × (Int))) (x4 : List ((Int) × (Int))) (x5 : List (Int)) (x6 : List (Bool)) (x7 : List (Int)) : Option R :=
  br (decide (x1 < x0))
  (br (decide ((0 : Int) < x1))
   (br (inB x1 (List.length x6))
    (br (decide ((Int.toNat x1) < (List.length x6)))
     (br (List.getD x6 (Int.toNat x1) false)
      (br (((fits (0 : Nat) (List.length x7) x7) && (decide ((((List.length x7) + (1 : Nat)) * (8 : Nat)) ≤ (70368744177664 : Nat)))) && true)
       (nx x0 (IntKind.wrap .i64 (x1 + (1 : Int))) x2 x3 x4 x5 x6 ((sub x7 (0 : Nat) (List.length x7)) ++ (x1 :: ([] : List ((Sh.int IntKind.i64).T)))))
       (none))
      (nx x0 (IntKind.wrap .i64 (x1 + (1 : Int))) x2 x3 x4 x5 x6 x7))
     (none))
    (none))
   (nx x0 (IntKind.wrap .i64 (x1 + (1 : Int))) x2 x3 x4 x5 x6 x7))
  (k0 x2 x3 x4 x5 x7)
noncomputable def term_Arena_Under_2549_l3 (N : Nat) {R : Type} (k0 : (List ((Int) × ((Int) × ((Int) × ((Int) × ((Int) × (Int))))))) → (List (((Int) × ((Int) × ((Int) × ((Int) × ((Int) × (Int)))))) × (Int))) → (List ((Int) × (Int))) → (List (Int)) → (List (Int)) → Option R) : Nat → (Int) → (Int) → (List ((Int) × ((Int) × ((Int) × ((Int) × ((Int) × (Int))))))) → (List (((Int) × ((Int) × ((Int) × ((Int) × ((Int) × (Int)))))) × (Int))) → (List ((Int) × (Int))) → (List (Int)) → (List (Bool)) → (List (Int)) → Option R
  | 0, _, _, _, _, _, _, _, _ => none
  | n + 1, x0, x1, x2, x3, x4, x5, x6, x7 => term_Arena_Under_2549_l3_T0 N (@term_Arena_there_2549 N) (fun x0 x1 x2 x3 x4 x5 x6 x7 => term_Arena_Under_2549_l3 N k0 n x0 x1 x2 x3 x4 x5 x6 x7) k0 x0 x1 x2 x3 x4 x5 x6 x7
noncomputable def term_Arena_Under_2549_l2 (N : Nat) {R : Type} (k0 : (Int) → (List ((Int) × ((Int) × ((Int) × ((Int) × ((Int) × (Int))))))) → (List (((Int) × ((Int) × ((Int) × ((Int) × ((Int) × (Int)))))) × (Int))) → (List ((Int) × (Int))) → (List (Int)) → (List (Bool)) → Option R) : Nat → (Int) → (Int) → (List ((Int) × ((Int) × ((Int) × ((Int) × ((Int) × (Int))))))) → (List (((Int) × ((Int) × ((Int) × ((Int) × ((Int) × (Int)))))) × (Int))) → (List ((Int) × (Int))) → (List (Int)) → (List (Bool)) → Option R
  | 0, _, _, _, _, _, _, _ => none
  | n + 1, x0, x1, x2, x3, x4, x5, x6 => term_Arena_Under_2549_l2_T0 N (@term_Arena_there_2549 N) (@term_Arena_Under_2549_l3 N) (fun x0 x1 x2 x3 x4 x5 x6 => term_Arena_Under_2549_l2 N k0 n x0 x1 x2 x3 x4 x5 x6) k0 x0 x1 x2 x3 x4 x5 x6
noncomputable def term_Arena_Under_2549_l1 (N : Nat) {R : Type} (k0 : (Int) → (List ((Int) × ((Int) × ((Int) × ((Int) × ((Int) × (Int))))))) → (List (((Int) × ((Int) × ((Int) × ((Int) × ((Int) × (Int)))))) × (Int))) → (List ((Int) × (Int))) → (List (Int)) → (List (Bool)) → Option R) : Nat → (Int) → (Int) → (Int) → (List ((Int) × ((Int) × ((Int) × ((Int) × ((Int) × (Int))))))) → (List (((Int) × ((Int) × ((Int) × ((Int) × ((Int) × (Int)))))) × (Int))) → (List ((Int) × (Int))) → (List (Int)) → (List (Bool)) → Option R
  | 0, _, _, _, _, _, _, _, _ => none
  | n + 1, x0, x1, x2, x3, x4, x5, x6, x7 => term_Arena_Under_2549_l1_T0 N (@term_Arena_there_2549 N) (@term_Arena_Under_2549_l2 N) (@term_Arena_Under_2549_l3 N) (fun x0 x1 x2 x3 x4 x5 x6 x7 => term_Arena_Under_2549_l1 N k0 n x0 x1 x2 x3 x4 x5 x6 x7) k0 x0 x1 x2 x3 x4 x5 x6 x7
noncomputable def term_Arena_Under_2549_l0 (N : Nat) {R : Type} (k0 : (Int) → (List ((Int) × ((Int) × ((Int) × ((Int) × ((Int) × (Int))))))) → (List (((Int) × ((Int) × ((Int) × ((Int) × ((Int) × (Int)))))) × (Int))) → (List ((Int) × (Int))) → (List (Int)) → Option R) : Nat → (Int) → (Int) → (Int) → (List ((Int) × ((Int) × ((Int) × ((Int) × ((Int) × (Int))))))) → (List (((Int) × ((Int) × ((Int) × ((Int) × ((Int) × (Int)))))) × (Int))) → (List ((Int) × (Int))) → (List (Int)) → Option R
  | 0, _, _, _, _, _, _, _ => none
  | n + 1, x0, x1, x2, x3, x4, x5, x6 => term_Arena_Under_2549_l0_T0 N (@term_Arena_there_2549 N) (@term_Arena_Under_2549_l1 N) (@term_Arena_Under_2549_l2 N) (@term_Arena_Under_2549_l3 N) (fun x0 x1 x2 x3 x4 x5 x6 => term_Arena_Under_2549_l0 N k0 n x0 x1 x2 x3 x4 x5 x6) k0 x0 x1 x2 x3 x4 x5 x6
noncomputable def term_Arena_Under_2549_T (N : Nat) (c0 : term_Arena_there_2549_Ty) (w0 : term_Arena_Under_2549_l0_Ty) (w1 : term_Arena_Under_2549_l1_Ty) (w2 : term_Arena_Under_2549_l2_Ty) (w3 : term_Arena_Under_2549_l3_Ty) {R : Type} (x0 : List ((Int) × ((Int) × ((Int) × ((Int) × ((Int) × (Int))))))) (x1 : List (((Int) × ((Int) × ((Int) × ((Int) × ((Int) × (Int)))))) × (Int))) (x2 : List ((Int) × (Int))) (x3 : List (Int)) (k0 : (List ((Int) × ((Int) × ((Int) × ((Int) × ((Int) × (Int))))))) → (List (((Int) × ((Int) × ((Int) × ((Int) × ((Int) × (Int)))))) × (Int))) → (List ((Int) × (Int))) → (List (Int)) → (List (Int)) → Option R) : Option R :=
  w0
  (fun i735 l736 l737 l738 l739 => br ((((decide ((0 : Int) ≤ (IntKind.wrap .i64 (i735 + (1 : Int))))) && (decide ((IntKind.wrap .i64 (i735 + (1 : Int))) ≤ (IntKind.wrap .i64 (i735 + (1 : Int)))))) && (decide (((IntKind.wrap .i64 (i735 + (1 : Int))) * (1 : Int)) ≤ ((2 : Int) ^ (46 : Nat))))) && true)
   (w1
    (fun i745 l746 l747 l748 l749 l750 => w2
     (fun i751 l752 l753 l754 l755 l756 => br (((decide ((0 : Int) ≤ i751)) && (decide ((i751 * (8 : Int)) ≤ ((2 : Int) ^ (46 : Nat))))) && true)
      (w3
       (fun l757 l758 l759 l760 l761 => k0 l757 l758 l759 l760 l761)
       N (Nat.cast (List.length l756) : Int) (0 : Int) l752 l753 l754 l755 l756 ([] : List ((Sh.int IntKind.i64).T)))
      (none))
     N (0 : Int) i745 l746 l747 l748 l749 l750)
    N i735 (Nat.cast (List.length l739) : Int) (0 : Int) l736 l737 l738 l739 (List.replicate (Int.toNat (IntKind.wrap .i64 (i735 + (1 : Int)))) false))
   (none))
  N (0 : Int) (Nat.cast (List.length x3) : Int) (0 : Int) x0 x1 x2 x3
noncomputable def term_Arena_Under_2549 (N : Nat) {R : Type} (x0 : List ((Int) × ((Int) × ((Int) × ((Int) × ((Int) × (Int))))))) (x1 : List (((Int) × ((Int) × ((Int) × ((Int) × ((Int) × (Int)))))) × (Int))) (x2 : List ((Int) × (Int))) (x3 : List (Int)) (k0 : (List ((Int) × ((Int) × ((Int) × ((Int) × ((Int) × (Int))))))) → (List (((Int) × ((Int) × ((Int) × ((Int) × ((Int) × (Int)))))) × (Int))) → (List ((Int) × (Int))) → (List (Int)) → (List (Int)) → Option R) : Option R := term_Arena_Under_2549_T N (@term_Arena_there_2549 N) (@term_Arena_Under_2549_l0 N) (@term_Arena_Under_2549_l1 N) (@term_Arena_Under_2549_l2 N) (@term_Arena_Under_2549_l3 N) x0 x1 x2 x3 k0
abbrev term_Arena_Vars_43b4_l0_Ty : Type 1 := {R : Type} → ((List ((Int) × ((Int) × ((Int) × ((Int) × ((Int) × (Int))))))) → (List (((Int) × ((Int) × ((Int) × ((Int) × ((Int) × (Int)))))) × (Int))) → (List ((Int) × (Int))) → (List (Bool)) → Option R) → Nat → (Int) → (Int) → (List ((Int) × ((Int) × ((Int) × ((Int) × ((Int) × (Int))))))) → (List (((Int) × ((Int) × ((Int) × ((Int) × ((Int) × (Int)))))) × (Int))) → (List ((Int) × (Int))) → (List (Bool)) → (List (Int)) → Option R
abbrev term_Arena_Vars_43b4_l1_Ty : Type 1 := {R : Type} → ((List ((Int) × ((Int) × ((Int) × ((Int) × ((Int) × (Int))))))) → (List (((Int) × ((Int) × ((Int) × ((Int) × ((Int) × (Int)))))) × (Int))) → (List ((Int) × (Int))) → (List (Int)) → Option R) → Nat → (List (Bool)) → (Int) → (List ((Int) × ((Int) × ((Int) × ((Int) × ((Int) × (Int))))))) → (List (((Int) × ((Int) × ((Int) × ((Int) × ((Int) × (Int)))))) × (Int))) → (List ((Int) × (Int))) → (List (Int)) → Option R
abbrev term_Arena_Vars_43b4_Ty : Type 1 := {R : Type} → (Int) → (List ((Int) × ((Int) × ((Int) × ((Int) × ((Int) × (Int))))))) → (List (((Int) × ((Int) × ((Int) × ((Int) × ((Int) × (Int)))))) × (Int))) → (List ((Int) × (Int))) → ((List ((Int) × ((Int) × ((Int) × ((Int) × ((Int) × (Int))))))) → (List (((Int) × ((Int) × ((Int) × ((Int) × ((Int) × (Int)))))) × (Int))) → (List ((Int) × (Int))) → (List (Int)) → Option R) → Option R
noncomputable def term_Arena_Vars_43b4_l0_T0 (N : Nat) (c0 : term_Arena_Under_2549_Ty) (c1 : term_Arena_there_2549_Ty) (w1 : term_Arena_Vars_43b4_l1_Ty) {R : Type} (nx : (Int) → (Int) → (List ((Int) × ((Int) × ((Int) × ((Int) × ((Int) × (Int))))))) → (List (((Int) × ((Int) × ((Int) × ((Int) × ((Int) × (Int)))))) × (Int))) → (List ((Int) × (Int))) → (List (Bool)) → (List (Int)) → Option R) (k0 : (List ((Int) × ((Int) × ((Int) × ((Int) × ((Int) × (Int))))))) → (List (((Int) × ((Int) × ((Int) × ((Int) × ((Int) × (Int)))))) × (Int))) → (List ((Int) × (Int))) → (List (Bool)) → Option R) (x0 : Int) (x1 : Int) (x2 : List ((Int) × ((Int) × ((Int) × ((Int) × ((Int) × (Int))))))) (x3 : List (((Int) × ((Int) × ((Int) × ((Int) × ((Int) × (Int)))))) × (Int))) (x4 : List ((Int) × (Int))) (x5 : List (Bool)) (x6 : List (Int)) : Option R :=
  br (decide (x1 < x0))
  (br (inB x1 (List.length x6))
   (br (decide ((Int.toNat x1) < (List.length x6)))
    (br (inB (IntKind.wrap .i64 ((List.getD x6 (Int.toNat x1) (0 : Int)) - (1 : Int))) (List.length x2))
     (br (decide ((Int.toNat (IntKind.wrap .i64 ((List.getD x6 (Int.toNat x1) (0 : Int)) - (1 : Int)))) < (List.length x2)))
      (br (decide ((List.getD x2 (Int.toNat (IntKind.wrap .i64 ((List.getD x6 (Int.toNat x1) (0 : Int)) - (1 : Int)))) ((0 : Int) , ((0 : Int) , ((0 : Int) , ((0 : Int) , ((0 : Int) , (0 : Int))))))).1 = (2 : Int)))
       (br (inB (List.getD x2 (Int.toNat (IntKind.wrap .i64 ((List.getD x6 (Int.toNat x1) (0 : Int)) - (1 : Int)))) ((0 : Int) , ((0 : Int) , ((0 : Int) , ((0 : Int) , ((0 : Int) , (0 : Int))))))).2.2.1 (64 : Nat))
        (br (decide ((Int.toNat (List.getD x2 (Int.toNat (IntKind.wrap .i64 ((List.getD x6 (Int.toNat x1) (0 : Int)) - (1 : Int)))) ((0 : Int) , ((0 : Int) , ((0 : Int) , ((0 : Int) , ((0 : Int) , (0 : Int))))))).2.2.1) < (64 : Nat)))
         (nx x0 (IntKind.wrap .i64 (x1 + (1 : Int))) x2 x3 x4 (List.set x5 (Int.toNat (List.getD x2 (Int.toNat (IntKind.wrap .i64 ((List.getD x6 (Int.toNat x1) (0 : Int)) - (1 : Int)))) ((0 : Int) , ((0 : Int) , ((0 : Int) , ((0 : Int) , ((0 : Int) , (0 : Int))))))).2.2.1) true) x6)
         (none))
        (none))
       (nx x0 (IntKind.wrap .i64 (x1 + (1 : Int))) x2 x3 x4 x5 x6))
      (none))
     (none))
    (none))
   (none))
  (k0 x2 x3 x4 x5)
noncomputable def term_Arena_Vars_43b4_l1_T0 (N : Nat) (c0 : term_Arena_Under_2549_Ty) (c1 : term_Arena_there_2549_Ty) {R : Type} (nx : (List (Bool)) → (Int) → (List ((Int) × ((Int) × ((Int) × ((Int) × ((Int) × (Int))))))) → (List (((Int) × ((Int) × ((Int) × ((Int) × ((Int) × (Int)))))) × (Int))) → (List ((Int) × (Int))) → (List (Int)) → Option R) (k0 : (List ((Int) × ((Int) × ((Int) × ((Int) × ((Int) × (Int))))))) → (List (((Int) × ((Int) × ((Int) × ((Int) × ((Int) × (Int)))))) × (Int))) → (List ((Int) × (Int))) → (List (Int)) → Option R) (x0 : List (Bool)) (x1 : Int) (x2 : List ((Int) × ((Int) × ((Int) × ((Int) × ((Int) × (Int))))))) (x3 : List (((Int) × ((Int) × ((Int) × ((Int) × ((Int) × (Int)))))) × (Int))) (x4 : List ((Int) × (Int))) (x5 : List (Int)) : Option R :=
  br (decide (x1 < (64 : Int)))
  (br (inB x1 (64 : Nat))
   (br (List.getD x0 (Int.toNat x1) false)
    (br (((fits (0 : Nat) (List.length x5) x5) && (decide ((((List.length x5) + (1 : Nat)) * (8 : Nat)) ≤ (70368744177664 : Nat)))) && true)
     (nx x0 (IntKind.wrap .i64 (x1 + (1 : Int))) x2 x3 x4 ((sub x5 (0 : Nat) (List.length x5)) ++ (x1 :: ([] : List ((Sh.int IntKind.i64).T)))))
     (none))
    (nx x0 (IntKind.wrap .i64 (x1 + (1 : Int))) x2 x3 x4 x5))
   (none))
  (k0 x2 x3 x4 x5)
noncomputable def term_Arena_Vars_43b4_l1 (N : Nat) {R : Type} (k0 : (List ((Int) × ((Int) × ((Int) × ((Int) × ((Int) × (Int))))))) → (List (((Int) × ((Int) × ((Int) × ((Int) × ((Int) × (Int)))))) × (Int))) → (List ((Int) × (Int))) → (List (Int)) → Option R) : Nat → (List (Bool)) → (Int) → (List ((Int) × ((Int) × ((Int) × ((Int) × ((Int) × (Int))))))) → (List (((Int) × ((Int) × ((Int) × ((Int) × ((Int) × (Int)))))) × (Int))) → (List ((Int) × (Int))) → (List (Int)) → Option R
  | 0, _, _, _, _, _, _ => none
  | n + 1, x0, x1, x2, x3, x4, x5 => term_Arena_Vars_43b4_l1_T0 N (@term_Arena_Under_2549 N) (@term_Arena_there_2549 N) (fun x0 x1 x2 x3 x4 x5 => term_Arena_Vars_43b4_l1 N k0 n x0 x1 x2 x3 x4 x5) k0 x0 x1 x2 x3 x4 x5
noncomputable def term_Arena_Vars_43b4_l0 (N : Nat) {R : Type} (k0 : (List ((Int) × ((Int) × ((Int) × ((Int) × ((Int) × (Int))))))) → (List (((Int) × ((Int) × ((Int) × ((Int) × ((Int) × (Int)))))) × (Int))) → (List ((Int) × (Int))) → (List (Bool)) → Option R) : Nat → (Int) → (Int) → (List ((Int) × ((Int) × ((Int) × ((Int) × ((Int) × (Int))))))) → (List (((Int) × ((Int) × ((Int) × ((Int) × ((Int) × (Int)))))) × (Int))) → (List ((Int) × (Int))) → (List (Bool)) → (List (Int)) → Option R
  | 0, _, _, _, _, _, _, _ => none
  | n + 1, x0, x1, x2, x3, x4, x5, x6 => term_Arena_Vars_43b4_l0_T0 N (@term_Arena_Under_2549 N) (@term_Arena_there_2549 N) (@term_Arena_Vars_43b4_l1 N) (fun x0 x1 x2 x3 x4 x5 x6 => term_Arena_Vars_43b4_l0 N k0 n x0 x1 x2 x3 x4 x5 x6) k0 x0 x1 x2 x3 x4 x5 x6
noncomputable def term_Arena_Vars_43b4_T (N : Nat) (c0 : term_Arena_Under_2549_Ty) (c1 : term_Arena_there_2549_Ty) (w0 : term_Arena_Vars_43b4_l0_Ty) (w1 : term_Arena_Vars_43b4_l1_Ty) {R : Type} (x0 : Int) (x1 : List ((Int) × ((Int) × ((Int) × ((Int) × ((Int) × (Int))))))) (x2 : List (((Int) × ((Int) × ((Int) × ((Int) × ((Int) × (Int)))))) × (Int))) (x3 : List ((Int) × (Int))) (k0 : (List ((Int) × ((Int) × ((Int) × ((Int) × ((Int) × (Int))))))) → (List (((Int) × ((Int) × ((Int) × ((Int) × ((Int) × (Int)))))) × (Int))) → (List ((Int) × (Int))) → (List (Int)) → Option R) : Option R :=
  c1 x1 x2 x3 (x0 :: ([] : List ((Sh.int IntKind.i64).T)))
  (fun b802 l803 l804 l805 l806 => br b802
   (c0 l803 l804 l805 (x0 :: ([] : List ((Sh.int IntKind.i64).T)))
    (fun l807 l808 l809 l810 l811 => w0
     (fun l812 l813 l814 l815 => w1
      (fun l816 l817 l818 l819 => k0 l816 l817 l818 l819)
      N l815 (0 : Int) l812 l813 l814 ([] : List ((Sh.int IntKind.i64).T)))
     N (Nat.cast (List.length l811) : Int) (0 : Int) l807 l808 l809 (List.replicate (64 : Nat) false) l811))
   (w1
    (fun l820 l821 l822 l823 => k0 l820 l821 l822 l823)
    N (List.replicate (64 : Nat) false) (0 : Int) l803 l804 l805 ([] : List ((Sh.int IntKind.i64).T))))
noncomputable def term_Arena_Vars_43b4 (N : Nat) {R : Type} (x0 : Int) (x1 : List ((Int) × ((Int) × ((Int) × ((Int) × ((Int) × (Int))))))) (x2 : List (((Int) × ((Int) × ((Int) × ((Int) × ((Int) × (Int)))))) × (Int))) (x3 : List ((Int) × (Int))) (k0 : (List ((Int) × ((Int) × ((Int) × ((Int) × ((Int) × (Int))))))) → (List (((Int) × ((Int) × ((Int) × ((Int) × ((Int) × (Int)))))) × (Int))) → (List ((Int) × (Int))) → (List (Int)) → Option R) : Option R := term_Arena_Vars_43b4_T N (@term_Arena_Under_2549 N) (@term_Arena_there_2549 N) (@term_Arena_Vars_43b4_l0 N) (@term_Arena_Vars_43b4_l1 N) x0 x1 x2 x3 k0
abbrev ref1_May_Ty : Type 1 := {R : Type} → (Int) → ((Bool) → Option R) → Option R
noncomputable def ref1_May_T (N : Nat) {R : Type} (x0 : Int) (k0 : (Bool) → Option R) : Option R :=
  br (!(decide (x0 = (1 : Int))))
  (br (!(decide (x0 = (8 : Int))))
   (k0 (decide (x0 = (16 : Int))))
   (k0 true))
  (k0 true)
noncomputable def ref1_May (N : Nat) {R : Type} (x0 : Int) (k0 : (Bool) → Option R) : Option R := ref1_May_T N x0 k0
abbrev term_Arena_Ite_12d2_Ty : Type 1 := {R : Type} → (Int) → (Int) → (Int) → (List ((Int) × ((Int) × ((Int) × ((Int) × ((Int) × (Int))))))) → (List (((Int) × ((Int) × ((Int) × ((Int) × ((Int) × (Int)))))) × (Int))) → (List ((Int) × (Int))) → ((Int) → (Int) → (List (((Int) × ((Int) × ((Int) × ((Int) × ((Int) × (Int)))))) × (Int))) → (List ((Int) × (Int))) → (List ((Int) × ((Int) × ((Int) × ((Int) × ((Int) × (Int))))))) → Option R) → Option R
noncomputable def term_Arena_Ite_12d2_T (N : Nat) (c0 : term_Arena_keep_a25e_Ty) (c1 : term_Arena_Known_43b4_Ty) (c2 : term_Arena_Width_43b4_Ty) (c3 : term_Arena_there_2549_Ty) {R : Type} (x0 : Int) (x1 : Int) (x2 : Int) (x3 : List ((Int) × ((Int) × ((Int) × ((Int) × ((Int) × (Int))))))) (x4 : List (((Int) × ((Int) × ((Int) × ((Int) × ((Int) × (Int)))))) × (Int))) (x5 : List ((Int) × (Int))) (k0 : (Int) → (Int) → (List (((Int) × ((Int) × ((Int) × ((Int) × ((Int) × (Int)))))) × (Int))) → (List ((Int) × (Int))) → (List ((Int) × ((Int) × ((Int) × ((Int) × ((Int) × (Int))))))) → Option R) : Option R :=
  c3 x3 x4 x5 (x0 :: (x1 :: (x2 :: ([] : List ((Sh.int IntKind.i64).T)))))
  (fun b1109 l1110 l1111 l1112 l1113 => br (!b1109)
   (k0 (0 : Int) (1 : Int) l1111 l1112 l1110)
   (c2 x0 l1110 l1111 l1112
    (fun i1114 l1115 l1116 l1117 => br (!(!(decide (i1114 = (1 : Int)))))
     (c2 x1 l1115 l1116 l1117
      (fun i1118 l1119 l1120 l1121 => c2 x2 l1119 l1120 l1121
       (fun i1122 l1123 l1124 l1125 => br (!(decide (i1118 = i1122)))
        (k0 (0 : Int) (2 : Int) l1124 l1125 l1123)
        (c1 x0 l1123 l1124 l1125
         (fun i1126 b1127 l1128 l1129 l1130 => br (!(decide (x1 = x2)))
          (br b1127
           (br (decide (i1126 = (1 : Int)))
            (k0 x1 (0 : Int) l1129 l1130 l1128)
            (br b1127
             (k0 x2 (0 : Int) l1129 l1130 l1128)
             (c2 x1 l1128 l1129 l1130
              (fun i1131 l1132 l1133 l1134 => c0 (16 : Int) i1131 (0 : Int) x0 x1 x2 l1132 l1133 l1134
               (fun i1135 i1136 l1137 l1138 l1139 => k0 i1135 i1136 l1137 l1138 l1139)))))
           (br b1127
            (k0 x2 (0 : Int) l1129 l1130 l1128)
            (c2 x1 l1128 l1129 l1130
             (fun i1140 l1141 l1142 l1143 => c0 (16 : Int) i1140 (0 : Int) x0 x1 x2 l1141 l1142 l1143
              (fun i1144 i1145 l1146 l1147 l1148 => k0 i1144 i1145 l1146 l1147 l1148)))))
          (k0 x1 (0 : Int) l1129 l1130 l1128))))))
     (k0 (0 : Int) (2 : Int) l1116 l1117 l1115))))
noncomputable def term_Arena_Ite_12d2 (N : Nat) {R : Type} (x0 : Int) (x1 : Int) (x2 : Int) (x3 : List ((Int) × ((Int) × ((Int) × ((Int) × ((Int) × (Int))))))) (x4 : List (((Int) × ((Int) × ((Int) × ((Int) × ((Int) × (Int)))))) × (Int))) (x5 : List ((Int) × (Int))) (k0 : (Int) → (Int) → (List (((Int) × ((Int) × ((Int) × ((Int) × ((Int) × (Int)))))) × (Int))) → (List ((Int) × (Int))) → (List ((Int) × ((Int) × ((Int) × ((Int) × ((Int) × (Int))))))) → Option R) : Option R := term_Arena_Ite_12d2_T N (@term_Arena_keep_a25e N) (@term_Arena_Known_43b4 N) (@term_Arena_Width_43b4 N) (@term_Arena_there_2549 N) x0 x1 x2 x3 x4 x5 k0
abbrev term_Arena_Two_12d2_Ty : Type 1 := {R : Type} → (Int) → (Int) → (Int) → (List ((Int) × ((Int) × ((Int) × ((Int) × ((Int) × (Int))))))) → (List (((Int) × ((Int) × ((Int) × ((Int) × ((Int) × (Int)))))) × (Int))) → (List ((Int) × (Int))) → ((Int) → (Int) → (List (((Int) × ((Int) × ((Int) × ((Int) × ((Int) × (Int)))))) × (Int))) → (List ((Int) × (Int))) → (List ((Int) × ((Int) × ((Int) × ((Int) × ((Int) × (Int))))))) → Option R) → Option R
abbrev term_Arena_less_12d2_Ty : Type 1 := {R : Type} → (Int) → (Int) → (Int) → (List ((Int) × ((Int) × ((Int) × ((Int) × ((Int) × (Int))))))) → (List (((Int) × ((Int) × ((Int) × ((Int) × ((Int) × (Int)))))) × (Int))) → (List ((Int) × (Int))) → ((Int) → (Int) → (Bool) → (List (((Int) × ((Int) × ((Int) × ((Int) × ((Int) × (Int)))))) × (Int))) → (List ((Int) × (Int))) → (List ((Int) × ((Int) × ((Int) × ((Int) × ((Int) × (Int))))))) → Option R) → Option R
abbrev term_Arena_with_7a2f_Ty : Type 1 := {R : Type} → (Int) → (Int) → (Int) → (List ((Int) × ((Int) × ((Int) × ((Int) × ((Int) × (Int))))))) → (List (((Int) × ((Int) × ((Int) × ((Int) × ((Int) × (Int)))))) × (Int))) → (List ((Int) × (Int))) → ((Int) → (Int) → (Bool) → (List (((Int) × ((Int) × ((Int) × ((Int) × ((Int) × (Int)))))) × (Int))) → (List ((Int) × (Int))) → (List ((Int) × ((Int) × ((Int) × ((Int) × ((Int) × (Int))))))) → Option R) → Option R
abbrev term_Arena_equal_2c81_Ty : Type 1 := {R : Type} → (Int) → (Int) → (List ((Int) × ((Int) × ((Int) × ((Int) × ((Int) × (Int))))))) → (List (((Int) × ((Int) × ((Int) × ((Int) × ((Int) × (Int)))))) × (Int))) → (List ((Int) × (Int))) → ((Int) → (Int) → (Bool) → (List (((Int) × ((Int) × ((Int) × ((Int) × ((Int) × (Int)))))) × (Int))) → (List ((Int) × (Int))) → (List ((Int) × ((Int) × ((Int) × ((Int) × ((Int) × (Int))))))) → Option R) → Option R
noncomputable def term_Arena_Two_12d2_T (N : Nat) (c0 : term_Arena_keep_a25e_Ty) (c1 : term_Arena_less_12d2_Ty) (c2 : term_turns_Ty) (c3 : term_Arena_Const_2c81_Ty) (c4 : wide_Out_Ty) (c5 : wide_Do_Ty) (c6 : term_Arena_Known_43b4_Ty) (c7 : term_Arena_Width_43b4_Ty) (c8 : term_Arena_there_2549_Ty) (c9 : term_two_Ty) {R : Type} (x0 : Int) (x1 : Int) (x2 : Int) (x3 : List ((Int) × ((Int) × ((Int) × ((Int) × ((Int) × (Int))))))) (x4 : List (((Int) × ((Int) × ((Int) × ((Int) × ((Int) × (Int)))))) × (Int))) (x5 : List ((Int) × (Int))) (k0 : (Int) → (Int) → (List (((Int) × ((Int) × ((Int) × ((Int) × ((Int) × (Int)))))) × (Int))) → (List ((Int) × (Int))) → (List ((Int) × ((Int) × ((Int) × ((Int) × ((Int) × (Int))))))) → Option R) : Option R :=
  c9 x0
  (fun b118 => br (!b118)
   (k0 (0 : Int) (5 : Int) x4 x5 x3)
   (c8 x3 x4 x5 (x1 :: (x2 :: ([] : List ((Sh.int IntKind.i64).T))))
    (fun b119 l120 l121 l122 l123 => br (!b119)
     (k0 (0 : Int) (1 : Int) l121 l122 l120)
     (c7 x1 l120 l121 l122
      (fun i124 l125 l126 l127 => c7 x2 l125 l126 l127
       (fun i128 l129 l130 l131 => br (!(decide (i124 = i128)))
        (k0 (0 : Int) (2 : Int) l130 l131 l129)
        (c6 x1 l129 l130 l131
         (fun i132 b133 l134 l135 l136 => c6 x2 l134 l135 l136
          (fun i137 b138 l139 l140 l141 => br b133
           (br b138
            (c7 x1 l139 l140 l141
             (fun i142 l143 l144 l145 => c5 x0 i142 i132 i137
              (fun i146 i147 => c7 x1 l143 l144 l145
               (fun i148 l149 l150 l151 => c4 x0 i148
                (fun i152 => c3 i152 i146 l149 l150 l151
                 (fun i153 i154 l155 l156 l157 => k0 i153 i154 l155 l156 l157))))))
            (c2 x0
             (fun b158 => br b158
              (br (decide (x2 < x1))
               (c1 x0 x2 x1 l139 l140 l141
                (fun i553 i554 b555 l556 l557 l558 => br b555
                 (k0 i553 i554 l556 l557 l558)
                 (c7 x2 l558 l556 l557
                  (fun i559 l560 l561 l562 => c4 x0 i559
                   (fun i563 => c0 x0 i563 (0 : Int) x2 x1 (0 : Int) l560 l561 l562
                    (fun i564 i565 l566 l567 l568 => k0 i564 i565 l566 l567 l568))))))
               (c1 x0 x1 x2 l139 l140 l141
                (fun i569 i570 b571 l572 l573 l574 => br b571
                 (k0 i569 i570 l572 l573 l574)
                 (c7 x1 l574 l572 l573
                  (fun i575 l576 l577 l578 => c4 x0 i575
                   (fun i579 => c0 x0 i579 (0 : Int) x1 x2 (0 : Int) l576 l577 l578
                    (fun i580 i581 l582 l583 l584 => k0 i580 i581 l582 l583 l584)))))))
              (c1 x0 x1 x2 l139 l140 l141
               (fun i585 i586 b587 l588 l589 l590 => br b587
                (k0 i585 i586 l588 l589 l590)
                (c7 x1 l590 l588 l589
                 (fun i591 l592 l593 l594 => c4 x0 i591
                  (fun i595 => c0 x0 i595 (0 : Int) x1 x2 (0 : Int) l592 l593 l594
                   (fun i596 i597 l598 l599 l600 => k0 i596 i597 l598 l599 l600)))))))))
           (c2 x0
            (fun b601 => br b601
             (br (decide (x2 < x1))
              (c1 x0 x2 x1 l139 l140 l141
               (fun i602 i603 b604 l605 l606 l607 => br b604
                (k0 i602 i603 l605 l606 l607)
                (c7 x2 l607 l605 l606
                 (fun i608 l609 l610 l611 => c4 x0 i608
                  (fun i612 => c0 x0 i612 (0 : Int) x2 x1 (0 : Int) l609 l610 l611
                   (fun i613 i614 l615 l616 l617 => k0 i613 i614 l615 l616 l617))))))
              (c1 x0 x1 x2 l139 l140 l141
               (fun i618 i619 b620 l621 l622 l623 => br b620
                (k0 i618 i619 l621 l622 l623)
                (c7 x1 l623 l621 l622
                 (fun i624 l625 l626 l627 => c4 x0 i624
                  (fun i628 => c0 x0 i628 (0 : Int) x1 x2 (0 : Int) l625 l626 l627
                   (fun i629 i630 l631 l632 l633 => k0 i629 i630 l631 l632 l633)))))))
             (c1 x0 x1 x2 l139 l140 l141
              (fun i634 i635 b636 l637 l638 l639 => br b636
               (k0 i634 i635 l637 l638 l639)
               (c7 x1 l639 l637 l638
                (fun i640 l641 l642 l643 => c4 x0 i640
                 (fun i644 => c0 x0 i644 (0 : Int) x1 x2 (0 : Int) l641 l642 l643
                  (fun i645 i646 l647 l648 l649 => k0 i645 i646 l647 l648 l649)))))))))))))))))
noncomputable def term_Arena_less_12d2_T (N : Nat) (c0 : term_Arena_with_7a2f_Ty) (c1 : term_turns_Ty) (c2 : term_Arena_Known_43b4_Ty) (c3 : term_Arena_alike_99d8_Ty) {R : Type} (x0 : Int) (x1 : Int) (x2 : Int) (x3 : List ((Int) × ((Int) × ((Int) × ((Int) × ((Int) × (Int))))))) (x4 : List (((Int) × ((Int) × ((Int) × ((Int) × ((Int) × (Int)))))) × (Int))) (x5 : List ((Int) × (Int))) (k0 : (Int) → (Int) → (Bool) → (List (((Int) × ((Int) × ((Int) × ((Int) × ((Int) × (Int)))))) × (Int))) → (List ((Int) × (Int))) → (List ((Int) × ((Int) × ((Int) × ((Int) × ((Int) × (Int))))))) → Option R) : Option R :=
  br (decide (x1 = x2))
  (c3 x0 x1 x3 x4 x5
   (fun i513 i514 b515 l516 l517 l518 => k0 i513 i514 b515 l516 l517 l518))
  (c2 x1 x3 x4 x5
   (fun i519 b520 l521 l522 l523 => br b520
    (c1 x0
     (fun b524 => br b524
      (c0 x0 x2 i519 l521 l522 l523
       (fun i525 i526 b527 l528 l529 l530 => k0 i525 i526 b527 l528 l529 l530))
      (c2 x2 l521 l522 l523
       (fun i531 b532 l533 l534 l535 => br b532
        (c0 x0 x1 i531 l533 l534 l535
         (fun i536 i537 b538 l539 l540 l541 => k0 i536 i537 b538 l539 l540 l541))
        (k0 (0 : Int) (0 : Int) false l534 l535 l533)))))
    (c2 x2 l521 l522 l523
     (fun i542 b543 l544 l545 l546 => br b543
      (c0 x0 x1 i542 l544 l545 l546
       (fun i547 i548 b549 l550 l551 l552 => k0 i547 i548 b549 l550 l551 l552))
      (k0 (0 : Int) (0 : Int) false l545 l546 l544)))))
noncomputable def term_Arena_with_7a2f_T (N : Nat) (c0 : term_Arena_equal_2c81_Ty) (c1 : wide_Mask_Ty) (c2 : term_Arena_Const_2c81_Ty) (c3 : wide_Out_Ty) (c4 : term_Arena_Width_43b4_Ty) {R : Type} (x0 : Int) (x1 : Int) (x2 : Int) (x3 : List ((Int) × ((Int) × ((Int) × ((Int) × ((Int) × (Int))))))) (x4 : List (((Int) × ((Int) × ((Int) × ((Int) × ((Int) × (Int)))))) × (Int))) (x5 : List ((Int) × (Int))) (k0 : (Int) → (Int) → (Bool) → (List (((Int) × ((Int) × ((Int) × ((Int) × ((Int) × (Int)))))) × (Int))) → (List ((Int) × (Int))) → (List ((Int) × ((Int) × ((Int) × ((Int) × ((Int) × (Int))))))) → Option R) : Option R :=
  c4 x1 x3 x4 x5
  (fun i218 l219 l220 l221 => br (decide (x2 = (0 : Int)))
   (br (!(decide (x0 = (4 : Int))))
    (br (!(decide (x0 = (9 : Int))))
     (br (decide (x0 = (15 : Int)))
      (c3 x0 i218
       (fun i222 => c2 i222 (0 : Int) l219 l220 l221
        (fun i223 i224 l225 l226 l227 => k0 i223 i224 true l225 l226 l227)))
      (br (decide (x2 = (0 : Int)))
       (br (!(decide (x0 = (5 : Int))))
        (br (!(decide (x0 = (6 : Int))))
         (br (!(decide (x0 = (7 : Int))))
          (br (!(decide (x0 = (8 : Int))))
           (br (!(decide (x0 = (12 : Int))))
            (br (!(decide (x0 = (13 : Int))))
             (br (decide (x0 = (11 : Int)))
              (k0 x1 (0 : Int) true l220 l221 l219)
              (c1 i218
               (fun i228 => br (decide (x2 = i228))
                (br (!(decide (x0 = (4 : Int))))
                 (br (decide (x2 = (1 : Int)))
                  (br (!(decide (x0 = (9 : Int))))
                   (br (decide (x0 = (10 : Int)))
                    (k0 x1 (0 : Int) true l220 l221 l219)
                    (br (decide (x0 = (14 : Int)))
                     (c0 x1 x2 l219 l220 l221
                      (fun i385 i386 b387 l388 l389 l390 => k0 i385 i386 b387 l388 l389 l390))
                     (k0 (0 : Int) (0 : Int) false l220 l221 l219)))
                   (k0 x1 (0 : Int) true l220 l221 l219))
                  (br (decide (x0 = (14 : Int)))
                   (c0 x1 x2 l219 l220 l221
                    (fun i391 i392 b393 l394 l395 l396 => k0 i391 i392 b393 l394 l395 l396))
                   (k0 (0 : Int) (0 : Int) false l220 l221 l219)))
                 (k0 x1 (0 : Int) true l220 l221 l219))
                (br (decide (x2 = (1 : Int)))
                 (br (!(decide (x0 = (9 : Int))))
                  (br (decide (x0 = (10 : Int)))
                   (k0 x1 (0 : Int) true l220 l221 l219)
                   (br (decide (x0 = (14 : Int)))
                    (c0 x1 x2 l219 l220 l221
                     (fun i397 i398 b399 l400 l401 l402 => k0 i397 i398 b399 l400 l401 l402))
                    (k0 (0 : Int) (0 : Int) false l220 l221 l219)))
                  (k0 x1 (0 : Int) true l220 l221 l219))
                 (br (decide (x0 = (14 : Int)))
                  (c0 x1 x2 l219 l220 l221
                   (fun i403 i404 b405 l406 l407 l408 => k0 i403 i404 b405 l406 l407 l408))
                  (k0 (0 : Int) (0 : Int) false l220 l221 l219))))))
             (k0 x1 (0 : Int) true l220 l221 l219))
            (k0 x1 (0 : Int) true l220 l221 l219))
           (k0 x1 (0 : Int) true l220 l221 l219))
          (k0 x1 (0 : Int) true l220 l221 l219))
         (k0 x1 (0 : Int) true l220 l221 l219))
        (k0 x1 (0 : Int) true l220 l221 l219))
       (c1 i218
        (fun i409 => br (decide (x2 = i409))
         (br (!(decide (x0 = (4 : Int))))
          (br (decide (x2 = (1 : Int)))
           (br (!(decide (x0 = (9 : Int))))
            (br (decide (x0 = (10 : Int)))
             (k0 x1 (0 : Int) true l220 l221 l219)
             (br (decide (x0 = (14 : Int)))
              (c0 x1 x2 l219 l220 l221
               (fun i410 i411 b412 l413 l414 l415 => k0 i410 i411 b412 l413 l414 l415))
              (k0 (0 : Int) (0 : Int) false l220 l221 l219)))
            (k0 x1 (0 : Int) true l220 l221 l219))
           (br (decide (x0 = (14 : Int)))
            (c0 x1 x2 l219 l220 l221
             (fun i416 i417 b418 l419 l420 l421 => k0 i416 i417 b418 l419 l420 l421))
            (k0 (0 : Int) (0 : Int) false l220 l221 l219)))
          (k0 x1 (0 : Int) true l220 l221 l219))
         (br (decide (x2 = (1 : Int)))
          (br (!(decide (x0 = (9 : Int))))
           (br (decide (x0 = (10 : Int)))
            (k0 x1 (0 : Int) true l220 l221 l219)
            (br (decide (x0 = (14 : Int)))
             (c0 x1 x2 l219 l220 l221
              (fun i422 i423 b424 l425 l426 l427 => k0 i422 i423 b424 l425 l426 l427))
             (k0 (0 : Int) (0 : Int) false l220 l221 l219)))
           (k0 x1 (0 : Int) true l220 l221 l219))
          (br (decide (x0 = (14 : Int)))
           (c0 x1 x2 l219 l220 l221
            (fun i428 i429 b430 l431 l432 l433 => k0 i428 i429 b430 l431 l432 l433))
           (k0 (0 : Int) (0 : Int) false l220 l221 l219)))))))
     (c3 x0 i218
      (fun i434 => c2 i434 (0 : Int) l219 l220 l221
       (fun i435 i436 l437 l438 l439 => k0 i435 i436 true l437 l438 l439))))
    (c3 x0 i218
     (fun i440 => c2 i440 (0 : Int) l219 l220 l221
      (fun i441 i442 l443 l444 l445 => k0 i441 i442 true l443 l444 l445))))
   (br (decide (x2 = (0 : Int)))
    (br (!(decide (x0 = (5 : Int))))
     (br (!(decide (x0 = (6 : Int))))
      (br (!(decide (x0 = (7 : Int))))
       (br (!(decide (x0 = (8 : Int))))
        (br (!(decide (x0 = (12 : Int))))
         (br (!(decide (x0 = (13 : Int))))
          (br (decide (x0 = (11 : Int)))
           (k0 x1 (0 : Int) true l220 l221 l219)
           (c1 i218
            (fun i446 => br (decide (x2 = i446))
             (br (!(decide (x0 = (4 : Int))))
              (br (decide (x2 = (1 : Int)))
               (br (!(decide (x0 = (9 : Int))))
                (br (decide (x0 = (10 : Int)))
                 (k0 x1 (0 : Int) true l220 l221 l219)
                 (br (decide (x0 = (14 : Int)))
                  (c0 x1 x2 l219 l220 l221
                   (fun i447 i448 b449 l450 l451 l452 => k0 i447 i448 b449 l450 l451 l452))
                  (k0 (0 : Int) (0 : Int) false l220 l221 l219)))
                (k0 x1 (0 : Int) true l220 l221 l219))
               (br (decide (x0 = (14 : Int)))
                (c0 x1 x2 l219 l220 l221
                 (fun i453 i454 b455 l456 l457 l458 => k0 i453 i454 b455 l456 l457 l458))
                (k0 (0 : Int) (0 : Int) false l220 l221 l219)))
              (k0 x1 (0 : Int) true l220 l221 l219))
             (br (decide (x2 = (1 : Int)))
              (br (!(decide (x0 = (9 : Int))))
               (br (decide (x0 = (10 : Int)))
                (k0 x1 (0 : Int) true l220 l221 l219)
                (br (decide (x0 = (14 : Int)))
                 (c0 x1 x2 l219 l220 l221
                  (fun i459 i460 b461 l462 l463 l464 => k0 i459 i460 b461 l462 l463 l464))
                 (k0 (0 : Int) (0 : Int) false l220 l221 l219)))
               (k0 x1 (0 : Int) true l220 l221 l219))
              (br (decide (x0 = (14 : Int)))
               (c0 x1 x2 l219 l220 l221
                (fun i465 i466 b467 l468 l469 l470 => k0 i465 i466 b467 l468 l469 l470))
               (k0 (0 : Int) (0 : Int) false l220 l221 l219))))))
          (k0 x1 (0 : Int) true l220 l221 l219))
         (k0 x1 (0 : Int) true l220 l221 l219))
        (k0 x1 (0 : Int) true l220 l221 l219))
       (k0 x1 (0 : Int) true l220 l221 l219))
      (k0 x1 (0 : Int) true l220 l221 l219))
     (k0 x1 (0 : Int) true l220 l221 l219))
    (c1 i218
     (fun i471 => br (decide (x2 = i471))
      (br (!(decide (x0 = (4 : Int))))
       (br (decide (x2 = (1 : Int)))
        (br (!(decide (x0 = (9 : Int))))
         (br (decide (x0 = (10 : Int)))
          (k0 x1 (0 : Int) true l220 l221 l219)
          (br (decide (x0 = (14 : Int)))
           (c0 x1 x2 l219 l220 l221
            (fun i472 i473 b474 l475 l476 l477 => k0 i472 i473 b474 l475 l476 l477))
           (k0 (0 : Int) (0 : Int) false l220 l221 l219)))
         (k0 x1 (0 : Int) true l220 l221 l219))
        (br (decide (x0 = (14 : Int)))
         (c0 x1 x2 l219 l220 l221
          (fun i478 i479 b480 l481 l482 l483 => k0 i478 i479 b480 l481 l482 l483))
         (k0 (0 : Int) (0 : Int) false l220 l221 l219)))
       (k0 x1 (0 : Int) true l220 l221 l219))
      (br (decide (x2 = (1 : Int)))
       (br (!(decide (x0 = (9 : Int))))
        (br (decide (x0 = (10 : Int)))
         (k0 x1 (0 : Int) true l220 l221 l219)
         (br (decide (x0 = (14 : Int)))
          (c0 x1 x2 l219 l220 l221
           (fun i484 i485 b486 l487 l488 l489 => k0 i484 i485 b486 l487 l488 l489))
          (k0 (0 : Int) (0 : Int) false l220 l221 l219)))
        (k0 x1 (0 : Int) true l220 l221 l219))
       (br (decide (x0 = (14 : Int)))
        (c0 x1 x2 l219 l220 l221
         (fun i490 i491 b492 l493 l494 l495 => k0 i490 i491 b492 l493 l494 l495))
        (k0 (0 : Int) (0 : Int) false l220 l221 l219)))))))
noncomputable def term_Arena_equal_2c81_T (N : Nat) (c0 : term_Arena_Two_12d2_Ty) (c1 : term_Arena_Const_2c81_Ty) (c2 : wide_Mask_Ty) (c3 : term_Arena_Width_43b4_Ty) (c4 : term_Arena_Not_43b4_Ty) (c5 : term_Arena_Node_43b4_Ty) {R : Type} (x0 : Int) (x1 : Int) (x2 : List ((Int) × ((Int) × ((Int) × ((Int) × ((Int) × (Int))))))) (x3 : List (((Int) × ((Int) × ((Int) × ((Int) × ((Int) × (Int)))))) × (Int))) (x4 : List ((Int) × (Int))) (k0 : (Int) → (Int) → (Bool) → (List (((Int) × ((Int) × ((Int) × ((Int) × ((Int) × (Int)))))) × (Int))) → (List ((Int) × (Int))) → (List ((Int) × ((Int) × ((Int) × ((Int) × ((Int) × (Int))))))) → Option R) : Option R :=
  c5 x0 x2 x3 x4
  (fun i289 i290 i291 i292 i293 i294 b295 l296 l297 l298 => br (decide (i290 = (1 : Int)))
   (br (decide (x1 = (1 : Int)))
    (k0 x0 (0 : Int) true l297 l298 l296)
    (br (decide (i290 = (1 : Int)))
     (c4 x0 l296 l297 l298
      (fun i299 i300 l301 l302 l303 => k0 i299 i300 true l301 l302 l303))
     (br (decide (i289 = (17 : Int)))
      (c3 i292 l296 l297 l298
       (fun i304 l305 l306 l307 => c2 i304
        (fun i308 => br (decide (i308 < x1))
         (c1 (1 : Int) (0 : Int) l305 l306 l307
          (fun i309 i310 l311 l312 l313 => k0 i309 i310 true l311 l312 l313))
         (br (decide (i289 = (17 : Int)))
          (c3 i292 l305 l306 l307
           (fun i314 l315 l316 l317 => c1 i314 x1 l315 l316 l317
            (fun i318 i319 l320 l321 l322 => br (!(decide (i319 = (0 : Int))))
             (k0 (0 : Int) i319 true l320 l321 l322)
             (c0 (14 : Int) i292 i318 l322 l320 l321
              (fun i323 i324 l325 l326 l327 => k0 i323 i324 true l325 l326 l327)))))
          (k0 (0 : Int) (0 : Int) false l306 l307 l305)))))
      (br (decide (i289 = (17 : Int)))
       (c3 i292 l296 l297 l298
        (fun i328 l329 l330 l331 => c1 i328 x1 l329 l330 l331
         (fun i332 i333 l334 l335 l336 => br (!(decide (i333 = (0 : Int))))
          (k0 (0 : Int) i333 true l334 l335 l336)
          (c0 (14 : Int) i292 i332 l336 l334 l335
           (fun i337 i338 l339 l340 l341 => k0 i337 i338 true l339 l340 l341)))))
       (k0 (0 : Int) (0 : Int) false l297 l298 l296)))))
   (br (decide (i290 = (1 : Int)))
    (c4 x0 l296 l297 l298
     (fun i342 i343 l344 l345 l346 => k0 i342 i343 true l344 l345 l346))
    (br (decide (i289 = (17 : Int)))
     (c3 i292 l296 l297 l298
      (fun i347 l348 l349 l350 => c2 i347
       (fun i351 => br (decide (i351 < x1))
        (c1 (1 : Int) (0 : Int) l348 l349 l350
         (fun i352 i353 l354 l355 l356 => k0 i352 i353 true l354 l355 l356))
        (br (decide (i289 = (17 : Int)))
         (c3 i292 l348 l349 l350
          (fun i357 l358 l359 l360 => c1 i357 x1 l358 l359 l360
           (fun i361 i362 l363 l364 l365 => br (!(decide (i362 = (0 : Int))))
            (k0 (0 : Int) i362 true l363 l364 l365)
            (c0 (14 : Int) i292 i361 l365 l363 l364
             (fun i366 i367 l368 l369 l370 => k0 i366 i367 true l368 l369 l370)))))
         (k0 (0 : Int) (0 : Int) false l349 l350 l348)))))
     (br (decide (i289 = (17 : Int)))
      (c3 i292 l296 l297 l298
       (fun i371 l372 l373 l374 => c1 i371 x1 l372 l373 l374
        (fun i375 i376 l377 l378 l379 => br (!(decide (i376 = (0 : Int))))
         (k0 (0 : Int) i376 true l377 l378 l379)
         (c0 (14 : Int) i292 i375 l379 l377 l378
          (fun i380 i381 l382 l383 l384 => k0 i380 i381 true l382 l383 l384)))))
      (k0 (0 : Int) (0 : Int) false l297 l298 l296)))))
structure G_term_Arena_Two_Rec : Type 1 where
  term_Arena_Two_12d2 : term_Arena_Two_12d2_Ty
  term_Arena_less_12d2 : term_Arena_less_12d2_Ty
  term_Arena_with_7a2f : term_Arena_with_7a2f_Ty
  term_Arena_equal_2c81 : term_Arena_equal_2c81_Ty
noncomputable def G_term_Arena_Two_rec (N : Nat) : Nat → G_term_Arena_Two_Rec
  | 0 => ⟨fun {R} _ _ _ _ _ _ _ => none, fun {R} _ _ _ _ _ _ _ => none, fun {R} _ _ _ _ _ _ _ => none, fun {R} _ _ _ _ _ _ => none⟩
  | n + 1 => ⟨fun {R} x0 x1 x2 x3 x4 x5 k0 => term_Arena_Two_12d2_T N (@term_Arena_keep_a25e N) (@G_term_Arena_Two_Rec.term_Arena_less_12d2 (G_term_Arena_Two_rec N n)) (@term_turns N) (@term_Arena_Const_2c81 N) (@wide_Out N) (@wide_Do N) (@term_Arena_Known_43b4 N) (@term_Arena_Width_43b4 N) (@term_Arena_there_2549 N) (@term_two N) x0 x1 x2 x3 x4 x5 k0,
    fun {R} x0 x1 x2 x3 x4 x5 k0 => term_Arena_less_12d2_T N (@G_term_Arena_Two_Rec.term_Arena_with_7a2f (G_term_Arena_Two_rec N n)) (@term_turns N) (@term_Arena_Known_43b4 N) (@term_Arena_alike_99d8 N) x0 x1 x2 x3 x4 x5 k0,
    fun {R} x0 x1 x2 x3 x4 x5 k0 => term_Arena_with_7a2f_T N (@G_term_Arena_Two_Rec.term_Arena_equal_2c81 (G_term_Arena_Two_rec N n)) (@wide_Mask N) (@term_Arena_Const_2c81 N) (@wide_Out N) (@term_Arena_Width_43b4 N) x0 x1 x2 x3 x4 x5 k0,
    fun {R} x0 x1 x2 x3 x4 k0 => term_Arena_equal_2c81_T N (@G_term_Arena_Two_Rec.term_Arena_Two_12d2 (G_term_Arena_Two_rec N n)) (@term_Arena_Const_2c81 N) (@wide_Mask N) (@term_Arena_Width_43b4 N) (@term_Arena_Not_43b4 N) (@term_Arena_Node_43b4 N) x0 x1 x2 x3 x4 k0⟩
noncomputable def term_Arena_Two_12d2 (N : Nat) {R : Type} (x0 : Int) (x1 : Int) (x2 : Int) (x3 : List ((Int) × ((Int) × ((Int) × ((Int) × ((Int) × (Int))))))) (x4 : List (((Int) × ((Int) × ((Int) × ((Int) × ((Int) × (Int)))))) × (Int))) (x5 : List ((Int) × (Int))) (k0 : (Int) → (Int) → (List (((Int) × ((Int) × ((Int) × ((Int) × ((Int) × (Int)))))) × (Int))) → (List ((Int) × (Int))) → (List ((Int) × ((Int) × ((Int) × ((Int) × ((Int) × (Int))))))) → Option R) : Option R := (G_term_Arena_Two_rec N N).term_Arena_Two_12d2 x0 x1 x2 x3 x4 x5 k0
noncomputable def term_Arena_less_12d2 (N : Nat) {R : Type} (x0 : Int) (x1 : Int) (x2 : Int) (x3 : List ((Int) × ((Int) × ((Int) × ((Int) × ((Int) × (Int))))))) (x4 : List (((Int) × ((Int) × ((Int) × ((Int) × ((Int) × (Int)))))) × (Int))) (x5 : List ((Int) × (Int))) (k0 : (Int) → (Int) → (Bool) → (List (((Int) × ((Int) × ((Int) × ((Int) × ((Int) × (Int)))))) × (Int))) → (List ((Int) × (Int))) → (List ((Int) × ((Int) × ((Int) × ((Int) × ((Int) × (Int))))))) → Option R) : Option R := (G_term_Arena_Two_rec N N).term_Arena_less_12d2 x0 x1 x2 x3 x4 x5 k0
noncomputable def term_Arena_with_7a2f (N : Nat) {R : Type} (x0 : Int) (x1 : Int) (x2 : Int) (x3 : List ((Int) × ((Int) × ((Int) × ((Int) × ((Int) × (Int))))))) (x4 : List (((Int) × ((Int) × ((Int) × ((Int) × ((Int) × (Int)))))) × (Int))) (x5 : List ((Int) × (Int))) (k0 : (Int) → (Int) → (Bool) → (List (((Int) × ((Int) × ((Int) × ((Int) × ((Int) × (Int)))))) × (Int))) → (List ((Int) × (Int))) → (List ((Int) × ((Int) × ((Int) × ((Int) × ((Int) × (Int))))))) → Option R) : Option R := (G_term_Arena_Two_rec N N).term_Arena_with_7a2f x0 x1 x2 x3 x4 x5 k0
noncomputable def term_Arena_equal_2c81 (N : Nat) {R : Type} (x0 : Int) (x1 : Int) (x2 : List ((Int) × ((Int) × ((Int) × ((Int) × ((Int) × (Int))))))) (x3 : List (((Int) × ((Int) × ((Int) × ((Int) × ((Int) × (Int)))))) × (Int))) (x4 : List ((Int) × (Int))) (k0 : (Int) → (Int) → (Bool) → (List (((Int) × ((Int) × ((Int) × ((Int) × ((Int) × (Int)))))) × (Int))) → (List ((Int) × (Int))) → (List ((Int) × ((Int) × ((Int) × ((Int) × ((Int) × (Int))))))) → Option R) : Option R := (G_term_Arena_Two_rec N N).term_Arena_equal_2c81 x0 x1 x2 x3 x4 k0
abbrev term_Arena_quick_520c_Ty : Type 1 := {R : Type} → (Int) → (List ((Int) × ((Int) × ((Int) × ((Int) × ((Int) × (Int))))))) → (List (((Int) × ((Int) × ((Int) × ((Int) × ((Int) × (Int)))))) × (Int))) → (List ((Int) × (Int))) → (List (Int)) → (Int) → ((Int) → (Bool) → (List ((Int) × ((Int) × ((Int) × ((Int) × ((Int) × (Int))))))) → (List (((Int) × ((Int) × ((Int) × ((Int) × ((Int) × (Int)))))) × (Int))) → (List ((Int) × (Int))) → (List (Int)) → (Int) → Option R) → Option R
noncomputable def term_Arena_quick_520c_T (N : Nat) (c0 : term_Value_7344_Ty) (c1 : term_Arena_Width_43b4_Ty) (c2 : term_Arena_quick_520c_Ty) {R : Type} (x0 : Int) (x1 : List ((Int) × ((Int) × ((Int) × ((Int) × ((Int) × (Int))))))) (x2 : List (((Int) × ((Int) × ((Int) × ((Int) × ((Int) × (Int)))))) × (Int))) (x3 : List ((Int) × (Int))) (x4 : List (Int)) (x5 : Int) (k0 : (Int) → (Bool) → (List ((Int) × ((Int) × ((Int) × ((Int) × ((Int) × (Int))))))) → (List (((Int) × ((Int) × ((Int) × ((Int) × ((Int) × (Int)))))) × (Int))) → (List ((Int) × (Int))) → (List (Int)) → (Int) → Option R) : Option R :=
  br (decide (x0 = (0 : Int)))
  (k0 (0 : Int) true x1 x2 x3 x4 x5)
  (br (decide ((IntKind.wrap .i64 (x5 - (1 : Int))) < (0 : Int)))
   (k0 (0 : Int) false x1 x2 x3 x4 (IntKind.wrap .i64 (x5 - (1 : Int))))
   (br (inB (IntKind.wrap .i64 (x0 - (1 : Int))) (List.length x1))
    (br (decide ((Int.toNat (IntKind.wrap .i64 (x0 - (1 : Int)))) < (List.length x1)))
     (c2 (List.getD x1 (Int.toNat (IntKind.wrap .i64 (x0 - (1 : Int)))) ((0 : Int) , ((0 : Int) , ((0 : Int) , ((0 : Int) , ((0 : Int) , (0 : Int))))))).2.2.2.1 x1 x2 x3 x4 (IntKind.wrap .i64 (x5 - (1 : Int)))
      (fun i692 b693 l694 l695 l696 l697 i698 => br (!b693)
       (k0 (0 : Int) false l694 l695 l696 l697 i698)
       (c2 (List.getD x1 (Int.toNat (IntKind.wrap .i64 (x0 - (1 : Int)))) ((0 : Int) , ((0 : Int) , ((0 : Int) , ((0 : Int) , ((0 : Int) , (0 : Int))))))).2.2.2.2.1 l694 l695 l696 l697 i698
        (fun i699 b700 l701 l702 l703 l704 i705 => br (!b700)
         (k0 (0 : Int) false l701 l702 l703 l704 i705)
         (c2 (List.getD x1 (Int.toNat (IntKind.wrap .i64 (x0 - (1 : Int)))) ((0 : Int) , ((0 : Int) , ((0 : Int) , ((0 : Int) , ((0 : Int) , (0 : Int))))))).2.2.2.2.2 l701 l702 l703 l704 i705
          (fun i706 b707 l708 l709 l710 l711 i712 => c1 (List.getD x1 (Int.toNat (IntKind.wrap .i64 (x0 - (1 : Int)))) ((0 : Int) , ((0 : Int) , ((0 : Int) , ((0 : Int) , ((0 : Int) , (0 : Int))))))).2.2.2.1 l708 l709 l710
           (fun i713 l714 l715 l716 => br (decide ((List.getD x1 (Int.toNat (IntKind.wrap .i64 (x0 - (1 : Int)))) ((0 : Int) , ((0 : Int) , ((0 : Int) , ((0 : Int) , ((0 : Int) , (0 : Int))))))).1 = (List.getD x1 (Int.toNat (IntKind.wrap .i64 (x0 - (1 : Int)))) ((0 : Int) , ((0 : Int) , ((0 : Int) , ((0 : Int) , ((0 : Int) , (0 : Int))))))).1))
            (br (decide ((List.getD x1 (Int.toNat (IntKind.wrap .i64 (x0 - (1 : Int)))) ((0 : Int) , ((0 : Int) , ((0 : Int) , ((0 : Int) , ((0 : Int) , (0 : Int))))))).2.1 = (List.getD x1 (Int.toNat (IntKind.wrap .i64 (x0 - (1 : Int)))) ((0 : Int) , ((0 : Int) , ((0 : Int) , ((0 : Int) , ((0 : Int) , (0 : Int))))))).2.1))
             (br (decide ((List.getD x1 (Int.toNat (IntKind.wrap .i64 (x0 - (1 : Int)))) ((0 : Int) , ((0 : Int) , ((0 : Int) , ((0 : Int) , ((0 : Int) , (0 : Int))))))).2.2.1 = (List.getD x1 (Int.toNat (IntKind.wrap .i64 (x0 - (1 : Int)))) ((0 : Int) , ((0 : Int) , ((0 : Int) , ((0 : Int) , ((0 : Int) , (0 : Int))))))).2.2.1))
              (br (decide ((List.getD x1 (Int.toNat (IntKind.wrap .i64 (x0 - (1 : Int)))) ((0 : Int) , ((0 : Int) , ((0 : Int) , ((0 : Int) , ((0 : Int) , (0 : Int))))))).2.2.2.1 = (List.getD x1 (Int.toNat (IntKind.wrap .i64 (x0 - (1 : Int)))) ((0 : Int) , ((0 : Int) , ((0 : Int) , ((0 : Int) , ((0 : Int) , (0 : Int))))))).2.2.2.1))
               (br (decide ((List.getD x1 (Int.toNat (IntKind.wrap .i64 (x0 - (1 : Int)))) ((0 : Int) , ((0 : Int) , ((0 : Int) , ((0 : Int) , ((0 : Int) , (0 : Int))))))).2.2.2.2.1 = (List.getD x1 (Int.toNat (IntKind.wrap .i64 (x0 - (1 : Int)))) ((0 : Int) , ((0 : Int) , ((0 : Int) , ((0 : Int) , ((0 : Int) , (0 : Int))))))).2.2.2.2.1))
                (br (decide ((List.getD x1 (Int.toNat (IntKind.wrap .i64 (x0 - (1 : Int)))) ((0 : Int) , ((0 : Int) , ((0 : Int) , ((0 : Int) , ((0 : Int) , (0 : Int))))))).2.2.2.2.2 = (List.getD x1 (Int.toNat (IntKind.wrap .i64 (x0 - (1 : Int)))) ((0 : Int) , ((0 : Int) , ((0 : Int) , ((0 : Int) , ((0 : Int) , (0 : Int))))))).2.2.2.2.2))
                 (br (decide (i692 = i692))
                  (br (decide (i699 = i699))
                   (br (decide (i706 = i706))
                    (br (b707 == b707)
                     (c0 (List.getD x1 (Int.toNat (IntKind.wrap .i64 (x0 - (1 : Int)))) ((0 : Int) , ((0 : Int) , ((0 : Int) , ((0 : Int) , ((0 : Int) , (0 : Int))))))).1 (List.getD x1 (Int.toNat (IntKind.wrap .i64 (x0 - (1 : Int)))) ((0 : Int) , ((0 : Int) , ((0 : Int) , ((0 : Int) , ((0 : Int) , (0 : Int))))))).2.1 (List.getD x1 (Int.toNat (IntKind.wrap .i64 (x0 - (1 : Int)))) ((0 : Int) , ((0 : Int) , ((0 : Int) , ((0 : Int) , ((0 : Int) , (0 : Int))))))).2.2.1 (List.getD x1 (Int.toNat (IntKind.wrap .i64 (x0 - (1 : Int)))) ((0 : Int) , ((0 : Int) , ((0 : Int) , ((0 : Int) , ((0 : Int) , (0 : Int))))))).2.2.2.1 (List.getD x1 (Int.toNat (IntKind.wrap .i64 (x0 - (1 : Int)))) ((0 : Int) , ((0 : Int) , ((0 : Int) , ((0 : Int) , ((0 : Int) , (0 : Int))))))).2.2.2.2.1 (List.getD x1 (Int.toNat (IntKind.wrap .i64 (x0 - (1 : Int)))) ((0 : Int) , ((0 : Int) , ((0 : Int) , ((0 : Int) , ((0 : Int) , (0 : Int))))))).2.2.2.2.2 i713 i692 i699 i706 l711
                      (fun i721 l722 => br (b707 == b707)
                       (k0 i721 b707 l714 l715 l716 l722 i712)
                       (none)))
                     (none))
                    (none))
                   (none))
                  (none))
                 (none))
                (none))
               (none))
              (none))
             (none))
            (none))))))))
     (none))
    (none)))
structure G_term_Arena_quick_Rec : Type 1 where
  term_Arena_quick_520c : term_Arena_quick_520c_Ty
noncomputable def G_term_Arena_quick_rec (N : Nat) : Nat → G_term_Arena_quick_Rec
  | 0 => ⟨fun {R} _ _ _ _ _ _ _ => none⟩
  | n + 1 => ⟨fun {R} x0 x1 x2 x3 x4 x5 k0 => term_Arena_quick_520c_T N (@term_Value_7344 N) (@term_Arena_Width_43b4 N) (@G_term_Arena_quick_Rec.term_Arena_quick_520c (G_term_Arena_quick_rec N n)) x0 x1 x2 x3 x4 x5 k0⟩
noncomputable def term_Arena_quick_520c (N : Nat) {R : Type} (x0 : Int) (x1 : List ((Int) × ((Int) × ((Int) × ((Int) × ((Int) × (Int))))))) (x2 : List (((Int) × ((Int) × ((Int) × ((Int) × ((Int) × (Int)))))) × (Int))) (x3 : List ((Int) × (Int))) (x4 : List (Int)) (x5 : Int) (k0 : (Int) → (Bool) → (List ((Int) × ((Int) × ((Int) × ((Int) × ((Int) × (Int))))))) → (List (((Int) × ((Int) × ((Int) × ((Int) × ((Int) × (Int)))))) × (Int))) → (List ((Int) × (Int))) → (List (Int)) → (Int) → Option R) : Option R := (G_term_Arena_quick_rec N N).term_Arena_quick_520c x0 x1 x2 x3 x4 x5 k0
abbrev term_Arena_Eval_0112_l0_Ty : Type 1 := {R : Type} → ((Int) → (List ((Int) × ((Int) × ((Int) × ((Int) × ((Int) × (Int))))))) → (List (((Int) × ((Int) × ((Int) × ((Int) × ((Int) × (Int)))))) × (Int))) → (List ((Int) × (Int))) → (List (Int)) → (List (Int)) → Option R) → Nat → (Int) → (Int) → (Int) → (List ((Int) × ((Int) × ((Int) × ((Int) × ((Int) × (Int))))))) → (List (((Int) × ((Int) × ((Int) × ((Int) × ((Int) × (Int)))))) × (Int))) → (List ((Int) × (Int))) → (List (Int)) → (List (Int)) → (List (Int)) → Option R
abbrev term_Arena_Eval_0112_Ty : Type 1 := {R : Type} → (Int) → (List ((Int) × ((Int) × ((Int) × ((Int) × ((Int) × (Int))))))) → (List (((Int) × ((Int) × ((Int) × ((Int) × ((Int) × (Int)))))) × (Int))) → (List ((Int) × (Int))) → (List (Int)) → ((Int) → (List ((Int) × ((Int) × ((Int) × ((Int) × ((Int) × (Int))))))) → (List (((Int) × ((Int) × ((Int) × ((Int) × ((Int) × (Int)))))) × (Int))) → (List ((Int) × (Int))) → (List (Int)) → Option R) → Option R
noncomputable def term_Arena_Eval_0112_l0_T0 (N : Nat) (c0 : term_Value_7344_Ty) (c1 : term_Arena_Width_43b4_Ty) (c2 : term_Arena_Under_2549_Ty) (c3 : term_Arena_quick_520c_Ty) (c4 : term_Arena_there_2549_Ty) {R : Type} (nx : (Int) → (Int) → (Int) → (List ((Int) × ((Int) × ((Int) × ((Int) × ((Int) × (Int))))))) → (List (((Int) × ((Int) × ((Int) × ((Int) × ((Int) × (Int)))))) × (Int))) → (List ((Int) × (Int))) → (List (Int)) → (List (Int)) → (List (Int)) → Option R) (k0 : (Int) → (List ((Int) × ((Int) × ((Int) × ((Int) × ((Int) × (Int))))))) → (List (((Int) × ((Int) × ((Int) × ((Int) × ((Int) × (Int)))))) × (Int))) → (List ((Int) × (Int))) → (List (Int)) → (List (Int)) → Option R) (x0 : Int) (x1 : Int) (x2 : Int) (x3 : List ((Int) × ((Int) × ((Int) × ((Int) × ((Int) × (Int))))))) (x4 : List (((Int) × ((Int) × ((Int) × ((Int) × ((Int) × (Int)))))) × (Int))) (x5 : List ((Int) × (Int))) (x6 : List (Int)) (x7 : List (Int)) (x8 : List (Int)) : Option R :=
  br (decide (x2 < x1))
  (br (inB x2 (List.length x8))
   (br (decide ((Int.toNat x2) < (List.length x8)))
    (br (inB (IntKind.wrap .i64 ((List.getD x8 (Int.toNat x2) (0 : Int)) - (1 : Int))) (List.length x3))
     (br (decide ((Int.toNat (IntKind.wrap .i64 ((List.getD x8 (Int.toNat x2) (0 : Int)) - (1 : Int)))) < (List.length x3)))
      (br (inB (List.getD x3 (Int.toNat (IntKind.wrap .i64 ((List.getD x8 (Int.toNat x2) (0 : Int)) - (1 : Int)))) ((0 : Int) , ((0 : Int) , ((0 : Int) , ((0 : Int) , ((0 : Int) , (0 : Int))))))).2.2.2.1 (List.length x7))
       (br (decide ((Int.toNat (List.getD x3 (Int.toNat (IntKind.wrap .i64 ((List.getD x8 (Int.toNat x2) (0 : Int)) - (1 : Int)))) ((0 : Int) , ((0 : Int) , ((0 : Int) , ((0 : Int) , ((0 : Int) , (0 : Int))))))).2.2.2.1) < (List.length x7)))
        (br (inB (List.getD x3 (Int.toNat (IntKind.wrap .i64 ((List.getD x8 (Int.toNat x2) (0 : Int)) - (1 : Int)))) ((0 : Int) , ((0 : Int) , ((0 : Int) , ((0 : Int) , ((0 : Int) , (0 : Int))))))).2.2.2.2.1 (List.length x7))
         (br (decide ((Int.toNat (List.getD x3 (Int.toNat (IntKind.wrap .i64 ((List.getD x8 (Int.toNat x2) (0 : Int)) - (1 : Int)))) ((0 : Int) , ((0 : Int) , ((0 : Int) , ((0 : Int) , ((0 : Int) , (0 : Int))))))).2.2.2.2.1) < (List.length x7)))
          (br (inB (List.getD x3 (Int.toNat (IntKind.wrap .i64 ((List.getD x8 (Int.toNat x2) (0 : Int)) - (1 : Int)))) ((0 : Int) , ((0 : Int) , ((0 : Int) , ((0 : Int) , ((0 : Int) , (0 : Int))))))).2.2.2.2.2 (List.length x7))
           (br (decide ((Int.toNat (List.getD x3 (Int.toNat (IntKind.wrap .i64 ((List.getD x8 (Int.toNat x2) (0 : Int)) - (1 : Int)))) ((0 : Int) , ((0 : Int) , ((0 : Int) , ((0 : Int) , ((0 : Int) , (0 : Int))))))).2.2.2.2.2) < (List.length x7)))
            (c1 (List.getD x3 (Int.toNat (IntKind.wrap .i64 ((List.getD x8 (Int.toNat x2) (0 : Int)) - (1 : Int)))) ((0 : Int) , ((0 : Int) , ((0 : Int) , ((0 : Int) , ((0 : Int) , (0 : Int))))))).2.2.2.1 x3 x4 x5
             (fun i767 l768 l769 l770 => br (decide ((List.getD x8 (Int.toNat x2) (0 : Int)) = (List.getD x8 (Int.toNat x2) (0 : Int))))
              (br (decide ((List.getD x3 (Int.toNat (IntKind.wrap .i64 ((List.getD x8 (Int.toNat x2) (0 : Int)) - (1 : Int)))) ((0 : Int) , ((0 : Int) , ((0 : Int) , ((0 : Int) , ((0 : Int) , (0 : Int))))))).1 = (List.getD x3 (Int.toNat (IntKind.wrap .i64 ((List.getD x8 (Int.toNat x2) (0 : Int)) - (1 : Int)))) ((0 : Int) , ((0 : Int) , ((0 : Int) , ((0 : Int) , ((0 : Int) , (0 : Int))))))).1))
               (br (decide ((List.getD x3 (Int.toNat (IntKind.wrap .i64 ((List.getD x8 (Int.toNat x2) (0 : Int)) - (1 : Int)))) ((0 : Int) , ((0 : Int) , ((0 : Int) , ((0 : Int) , ((0 : Int) , (0 : Int))))))).2.1 = (List.getD x3 (Int.toNat (IntKind.wrap .i64 ((List.getD x8 (Int.toNat x2) (0 : Int)) - (1 : Int)))) ((0 : Int) , ((0 : Int) , ((0 : Int) , ((0 : Int) , ((0 : Int) , (0 : Int))))))).2.1))
                (br (decide ((List.getD x3 (Int.toNat (IntKind.wrap .i64 ((List.getD x8 (Int.toNat x2) (0 : Int)) - (1 : Int)))) ((0 : Int) , ((0 : Int) , ((0 : Int) , ((0 : Int) , ((0 : Int) , (0 : Int))))))).2.2.1 = (List.getD x3 (Int.toNat (IntKind.wrap .i64 ((List.getD x8 (Int.toNat x2) (0 : Int)) - (1 : Int)))) ((0 : Int) , ((0 : Int) , ((0 : Int) , ((0 : Int) , ((0 : Int) , (0 : Int))))))).2.2.1))
                 (br (decide ((List.getD x3 (Int.toNat (IntKind.wrap .i64 ((List.getD x8 (Int.toNat x2) (0 : Int)) - (1 : Int)))) ((0 : Int) , ((0 : Int) , ((0 : Int) , ((0 : Int) , ((0 : Int) , (0 : Int))))))).2.2.2.1 = (List.getD x3 (Int.toNat (IntKind.wrap .i64 ((List.getD x8 (Int.toNat x2) (0 : Int)) - (1 : Int)))) ((0 : Int) , ((0 : Int) , ((0 : Int) , ((0 : Int) , ((0 : Int) , (0 : Int))))))).2.2.2.1))
                  (br (decide ((List.getD x3 (Int.toNat (IntKind.wrap .i64 ((List.getD x8 (Int.toNat x2) (0 : Int)) - (1 : Int)))) ((0 : Int) , ((0 : Int) , ((0 : Int) , ((0 : Int) , ((0 : Int) , (0 : Int))))))).2.2.2.2.1 = (List.getD x3 (Int.toNat (IntKind.wrap .i64 ((List.getD x8 (Int.toNat x2) (0 : Int)) - (1 : Int)))) ((0 : Int) , ((0 : Int) , ((0 : Int) , ((0 : Int) , ((0 : Int) , (0 : Int))))))).2.2.2.2.1))
                   (br (decide ((List.getD x3 (Int.toNat (IntKind.wrap .i64 ((List.getD x8 (Int.toNat x2) (0 : Int)) - (1 : Int)))) ((0 : Int) , ((0 : Int) , ((0 : Int) , ((0 : Int) , ((0 : Int) , (0 : Int))))))).2.2.2.2.2 = (List.getD x3 (Int.toNat (IntKind.wrap .i64 ((List.getD x8 (Int.toNat x2) (0 : Int)) - (1 : Int)))) ((0 : Int) , ((0 : Int) , ((0 : Int) , ((0 : Int) , ((0 : Int) , (0 : Int))))))).2.2.2.2.2))
                    (br (decide ((List.getD x3 (Int.toNat (IntKind.wrap .i64 ((List.getD x8 (Int.toNat x2) (0 : Int)) - (1 : Int)))) ((0 : Int) , ((0 : Int) , ((0 : Int) , ((0 : Int) , ((0 : Int) , (0 : Int))))))).2.2.2.1 = (List.getD x3 (Int.toNat (IntKind.wrap .i64 ((List.getD x8 (Int.toNat x2) (0 : Int)) - (1 : Int)))) ((0 : Int) , ((0 : Int) , ((0 : Int) , ((0 : Int) , ((0 : Int) , (0 : Int))))))).2.2.2.1))
                     (br (inB (List.getD x3 (Int.toNat (IntKind.wrap .i64 ((List.getD x8 (Int.toNat x2) (0 : Int)) - (1 : Int)))) ((0 : Int) , ((0 : Int) , ((0 : Int) , ((0 : Int) , ((0 : Int) , (0 : Int))))))).2.2.2.1 (List.length x7))
                      (br (decide ((List.getD x3 (Int.toNat (IntKind.wrap .i64 ((List.getD x8 (Int.toNat x2) (0 : Int)) - (1 : Int)))) ((0 : Int) , ((0 : Int) , ((0 : Int) , ((0 : Int) , ((0 : Int) , (0 : Int))))))).2.2.2.1 = (List.getD x3 (Int.toNat (IntKind.wrap .i64 ((List.getD x8 (Int.toNat x2) (0 : Int)) - (1 : Int)))) ((0 : Int) , ((0 : Int) , ((0 : Int) , ((0 : Int) , ((0 : Int) , (0 : Int))))))).2.2.2.1))
                       (br (decide ((Int.toNat (List.getD x3 (Int.toNat (IntKind.wrap .i64 ((List.getD x8 (Int.toNat x2) (0 : Int)) - (1 : Int)))) ((0 : Int) , ((0 : Int) , ((0 : Int) , ((0 : Int) , ((0 : Int) , (0 : Int))))))).2.2.2.1) < (List.length x7)))
                        (br (decide ((List.getD x7 (Int.toNat (List.getD x3 (Int.toNat (IntKind.wrap .i64 ((List.getD x8 (Int.toNat x2) (0 : Int)) - (1 : Int)))) ((0 : Int) , ((0 : Int) , ((0 : Int) , ((0 : Int) , ((0 : Int) , (0 : Int))))))).2.2.2.1) (0 : Int)) = (List.getD x7 (Int.toNat (List.getD x3 (Int.toNat (IntKind.wrap .i64 ((List.getD x8 (Int.toNat x2) (0 : Int)) - (1 : Int)))) ((0 : Int) , ((0 : Int) , ((0 : Int) , ((0 : Int) , ((0 : Int) , (0 : Int))))))).2.2.2.1) (0 : Int))))
                         (br (decide ((List.getD x3 (Int.toNat (IntKind.wrap .i64 ((List.getD x8 (Int.toNat x2) (0 : Int)) - (1 : Int)))) ((0 : Int) , ((0 : Int) , ((0 : Int) , ((0 : Int) , ((0 : Int) , (0 : Int))))))).2.2.2.2.1 = (List.getD x3 (Int.toNat (IntKind.wrap .i64 ((List.getD x8 (Int.toNat x2) (0 : Int)) - (1 : Int)))) ((0 : Int) , ((0 : Int) , ((0 : Int) , ((0 : Int) , ((0 : Int) , (0 : Int))))))).2.2.2.2.1))
                          (br (inB (List.getD x3 (Int.toNat (IntKind.wrap .i64 ((List.getD x8 (Int.toNat x2) (0 : Int)) - (1 : Int)))) ((0 : Int) , ((0 : Int) , ((0 : Int) , ((0 : Int) , ((0 : Int) , (0 : Int))))))).2.2.2.2.1 (List.length x7))
                           (br (decide ((List.getD x3 (Int.toNat (IntKind.wrap .i64 ((List.getD x8 (Int.toNat x2) (0 : Int)) - (1 : Int)))) ((0 : Int) , ((0 : Int) , ((0 : Int) , ((0 : Int) , ((0 : Int) , (0 : Int))))))).2.2.2.2.1 = (List.getD x3 (Int.toNat (IntKind.wrap .i64 ((List.getD x8 (Int.toNat x2) (0 : Int)) - (1 : Int)))) ((0 : Int) , ((0 : Int) , ((0 : Int) , ((0 : Int) , ((0 : Int) , (0 : Int))))))).2.2.2.2.1))
                            (br (decide ((Int.toNat (List.getD x3 (Int.toNat (IntKind.wrap .i64 ((List.getD x8 (Int.toNat x2) (0 : Int)) - (1 : Int)))) ((0 : Int) , ((0 : Int) , ((0 : Int) , ((0 : Int) , ((0 : Int) , (0 : Int))))))).2.2.2.2.1) < (List.length x7)))
                             (br (decide ((List.getD x7 (Int.toNat (List.getD x3 (Int.toNat (IntKind.wrap .i64 ((List.getD x8 (Int.toNat x2) (0 : Int)) - (1 : Int)))) ((0 : Int) , ((0 : Int) , ((0 : Int) , ((0 : Int) , ((0 : Int) , (0 : Int))))))).2.2.2.2.1) (0 : Int)) = (List.getD x7 (Int.toNat (List.getD x3 (Int.toNat (IntKind.wrap .i64 ((List.getD x8 (Int.toNat x2) (0 : Int)) - (1 : Int)))) ((0 : Int) , ((0 : Int) , ((0 : Int) , ((0 : Int) , ((0 : Int) , (0 : Int))))))).2.2.2.2.1) (0 : Int))))
                              (br (decide ((List.getD x3 (Int.toNat (IntKind.wrap .i64 ((List.getD x8 (Int.toNat x2) (0 : Int)) - (1 : Int)))) ((0 : Int) , ((0 : Int) , ((0 : Int) , ((0 : Int) , ((0 : Int) , (0 : Int))))))).2.2.2.2.2 = (List.getD x3 (Int.toNat (IntKind.wrap .i64 ((List.getD x8 (Int.toNat x2) (0 : Int)) - (1 : Int)))) ((0 : Int) , ((0 : Int) , ((0 : Int) , ((0 : Int) , ((0 : Int) , (0 : Int))))))).2.2.2.2.2))
                               (br (inB (List.getD x3 (Int.toNat (IntKind.wrap .i64 ((List.getD x8 (Int.toNat x2) (0 : Int)) - (1 : Int)))) ((0 : Int) , ((0 : Int) , ((0 : Int) , ((0 : Int) , ((0 : Int) , (0 : Int))))))).2.2.2.2.2 (List.length x7))
                                (br (decide ((List.getD x3 (Int.toNat (IntKind.wrap .i64 ((List.getD x8 (Int.toNat x2) (0 : Int)) - (1 : Int)))) ((0 : Int) , ((0 : Int) , ((0 : Int) , ((0 : Int) , ((0 : Int) , (0 : Int))))))).2.2.2.2.2 = (List.getD x3 (Int.toNat (IntKind.wrap .i64 ((List.getD x8 (Int.toNat x2) (0 : Int)) - (1 : Int)))) ((0 : Int) , ((0 : Int) , ((0 : Int) , ((0 : Int) , ((0 : Int) , (0 : Int))))))).2.2.2.2.2))
                                 (br (decide ((Int.toNat (List.getD x3 (Int.toNat (IntKind.wrap .i64 ((List.getD x8 (Int.toNat x2) (0 : Int)) - (1 : Int)))) ((0 : Int) , ((0 : Int) , ((0 : Int) , ((0 : Int) , ((0 : Int) , (0 : Int))))))).2.2.2.2.2) < (List.length x7)))
                                  (br (decide ((List.getD x7 (Int.toNat (List.getD x3 (Int.toNat (IntKind.wrap .i64 ((List.getD x8 (Int.toNat x2) (0 : Int)) - (1 : Int)))) ((0 : Int) , ((0 : Int) , ((0 : Int) , ((0 : Int) , ((0 : Int) , (0 : Int))))))).2.2.2.2.2) (0 : Int)) = (List.getD x7 (Int.toNat (List.getD x3 (Int.toNat (IntKind.wrap .i64 ((List.getD x8 (Int.toNat x2) (0 : Int)) - (1 : Int)))) ((0 : Int) , ((0 : Int) , ((0 : Int) , ((0 : Int) , ((0 : Int) , (0 : Int))))))).2.2.2.2.2) (0 : Int))))
                                   (c0 (List.getD x3 (Int.toNat (IntKind.wrap .i64 ((List.getD x8 (Int.toNat x2) (0 : Int)) - (1 : Int)))) ((0 : Int) , ((0 : Int) , ((0 : Int) , ((0 : Int) , ((0 : Int) , (0 : Int))))))).1 (List.getD x3 (Int.toNat (IntKind.wrap .i64 ((List.getD x8 (Int.toNat x2) (0 : Int)) - (1 : Int)))) ((0 : Int) , ((0 : Int) , ((0 : Int) , ((0 : Int) , ((0 : Int) , (0 : Int))))))).2.1 (List.getD x3 (Int.toNat (IntKind.wrap .i64 ((List.getD x8 (Int.toNat x2) (0 : Int)) - (1 : Int)))) ((0 : Int) , ((0 : Int) , ((0 : Int) , ((0 : Int) , ((0 : Int) , (0 : Int))))))).2.2.1 (List.getD x3 (Int.toNat (IntKind.wrap .i64 ((List.getD x8 (Int.toNat x2) (0 : Int)) - (1 : Int)))) ((0 : Int) , ((0 : Int) , ((0 : Int) , ((0 : Int) , ((0 : Int) , (0 : Int))))))).2.2.2.1 (List.getD x3 (Int.toNat (IntKind.wrap .i64 ((List.getD x8 (Int.toNat x2) (0 : Int)) - (1 : Int)))) ((0 : Int) , ((0 : Int) , ((0 : Int) , ((0 : Int) , ((0 : Int) , (0 : Int))))))).2.2.2.2.1 (List.getD x3 (Int.toNat (IntKind.wrap .i64 ((List.getD x8 (Int.toNat x2) (0 : Int)) - (1 : Int)))) ((0 : Int) , ((0 : Int) , ((0 : Int) , ((0 : Int) , ((0 : Int) , (0 : Int))))))).2.2.2.2.2 i767 (List.getD x7 (Int.toNat (List.getD x3 (Int.toNat (IntKind.wrap .i64 ((List.getD x8 (Int.toNat x2) (0 : Int)) - (1 : Int)))) ((0 : Int) , ((0 : Int) , ((0 : Int) , ((0 : Int) , ((0 : Int) , (0 : Int))))))).2.2.2.1) (0 : Int)) (List.getD x7 (Int.toNat (List.getD x3 (Int.toNat (IntKind.wrap .i64 ((List.getD x8 (Int.toNat x2) (0 : Int)) - (1 : Int)))) ((0 : Int) , ((0 : Int) , ((0 : Int) , ((0 : Int) , ((0 : Int) , (0 : Int))))))).2.2.2.2.1) (0 : Int)) (List.getD x7 (Int.toNat (List.getD x3 (Int.toNat (IntKind.wrap .i64 ((List.getD x8 (Int.toNat x2) (0 : Int)) - (1 : Int)))) ((0 : Int) , ((0 : Int) , ((0 : Int) , ((0 : Int) , ((0 : Int) , (0 : Int))))))).2.2.2.2.2) (0 : Int)) x6
                                    (fun i771 l772 => br (decide ((List.getD x8 (Int.toNat x2) (0 : Int)) = (List.getD x8 (Int.toNat x2) (0 : Int))))
                                     (br (inB (List.getD x8 (Int.toNat x2) (0 : Int)) (List.length x7))
                                      (br (decide ((Int.toNat (List.getD x8 (Int.toNat x2) (0 : Int))) < (List.length x7)))
                                       (nx x0 x1 (IntKind.wrap .i64 (x2 + (1 : Int))) l768 l769 l770 l772 (List.set x7 (Int.toNat (List.getD x8 (Int.toNat x2) (0 : Int))) i771) x8)
                                       (none))
                                      (none))
                                     (none)))
                                   (none))
                                  (none))
                                 (none))
                                (none))
                               (none))
                              (none))
                             (none))
                            (none))
                           (none))
                          (none))
                         (none))
                        (none))
                       (none))
                      (none))
                     (none))
                    (none))
                   (none))
                  (none))
                 (none))
                (none))
               (none))
              (none)))
            (none))
           (none))
          (none))
         (none))
        (none))
       (none))
      (none))
     (none))
    (none))
   (none))
  (k0 x0 x3 x4 x5 x6 x7)
noncomputable def term_Arena_Eval_0112_l0 (N : Nat) {R : Type} (k0 : (Int) → (List ((Int) × ((Int) × ((Int) × ((Int) × ((Int) × (Int))))))) → (List (((Int) × ((Int) × ((Int) × ((Int) × ((Int) × (Int)))))) × (Int))) → (List ((Int) × (Int))) → (List (Int)) → (List (Int)) → Option R) : Nat → (Int) → (Int) → (Int) → (List ((Int) × ((Int) × ((Int) × ((Int) × ((Int) × (Int))))))) → (List (((Int) × ((Int) × ((Int) × ((Int) × ((Int) × (Int)))))) × (Int))) → (List ((Int) × (Int))) → (List (Int)) → (List (Int)) → (List (Int)) → Option R
  | 0, _, _, _, _, _, _, _, _, _ => none
  | n + 1, x0, x1, x2, x3, x4, x5, x6, x7, x8 => term_Arena_Eval_0112_l0_T0 N (@term_Value_7344 N) (@term_Arena_Width_43b4 N) (@term_Arena_Under_2549 N) (@term_Arena_quick_520c N) (@term_Arena_there_2549 N) (fun x0 x1 x2 x3 x4 x5 x6 x7 x8 => term_Arena_Eval_0112_l0 N k0 n x0 x1 x2 x3 x4 x5 x6 x7 x8) k0 x0 x1 x2 x3 x4 x5 x6 x7 x8
noncomputable def term_Arena_Eval_0112_T (N : Nat) (c0 : term_Value_7344_Ty) (c1 : term_Arena_Width_43b4_Ty) (c2 : term_Arena_Under_2549_Ty) (c3 : term_Arena_quick_520c_Ty) (c4 : term_Arena_there_2549_Ty) (w0 : term_Arena_Eval_0112_l0_Ty) {R : Type} (x0 : Int) (x1 : List ((Int) × ((Int) × ((Int) × ((Int) × ((Int) × (Int))))))) (x2 : List (((Int) × ((Int) × ((Int) × ((Int) × ((Int) × (Int)))))) × (Int))) (x3 : List ((Int) × (Int))) (x4 : List (Int)) (k0 : (Int) → (List ((Int) × ((Int) × ((Int) × ((Int) × ((Int) × (Int))))))) → (List (((Int) × ((Int) × ((Int) × ((Int) × ((Int) × (Int)))))) × (Int))) → (List ((Int) × (Int))) → (List (Int)) → Option R) : Option R :=
  c4 x1 x2 x3 (x0 :: ([] : List ((Sh.int IntKind.i64).T)))
  (fun b687 l688 l689 l690 l691 => br (!b687)
   (k0 (0 : Int) l688 l689 l690 x4)
   (c3 x0 l688 l689 l690 x4 (64 : Int)
    (fun i723 b724 l725 l726 l727 l728 i729 => br b724
     (k0 i723 l725 l726 l727 l728)
     (br ((((decide ((0 : Int) ≤ (IntKind.wrap .i64 (x0 + (1 : Int))))) && (decide ((IntKind.wrap .i64 (x0 + (1 : Int))) ≤ (IntKind.wrap .i64 (x0 + (1 : Int)))))) && (decide (((IntKind.wrap .i64 (x0 + (1 : Int))) * (2 : Int)) ≤ ((2 : Int) ^ (46 : Nat))))) && true)
      (c2 l725 l726 l727 (x0 :: ([] : List ((Sh.int IntKind.i64).T)))
       (fun l762 l763 l764 l765 l766 => w0
        (fun i773 l774 l775 l776 l777 l778 => br (inB i773 (List.length l778))
         (br (decide ((Int.toNat i773) < (List.length l778)))
          (k0 (List.getD l778 (Int.toNat i773) (0 : Int)) l774 l775 l776 l777)
          (none))
         (none))
        N x0 (Nat.cast (List.length l766) : Int) (0 : Int) l762 l763 l764 l728 (List.replicate (Int.toNat (IntKind.wrap .i64 (x0 + (1 : Int)))) (0 : Int)) l766))
      (none)))))
noncomputable def term_Arena_Eval_0112 (N : Nat) {R : Type} (x0 : Int) (x1 : List ((Int) × ((Int) × ((Int) × ((Int) × ((Int) × (Int))))))) (x2 : List (((Int) × ((Int) × ((Int) × ((Int) × ((Int) × (Int)))))) × (Int))) (x3 : List ((Int) × (Int))) (x4 : List (Int)) (k0 : (Int) → (List ((Int) × ((Int) × ((Int) × ((Int) × ((Int) × (Int))))))) → (List (((Int) × ((Int) × ((Int) × ((Int) × ((Int) × (Int)))))) × (Int))) → (List ((Int) × (Int))) → (List (Int)) → Option R) : Option R := term_Arena_Eval_0112_T N (@term_Value_7344 N) (@term_Arena_Width_43b4 N) (@term_Arena_Under_2549 N) (@term_Arena_quick_520c N) (@term_Arena_there_2549 N) (@term_Arena_Eval_0112_l0 N) x0 x1 x2 x3 x4 k0
abbrev law2_awake_Ty : Type 1 := {R : Type} → ((Bool) → Option R) → Option R
noncomputable def law2_awake_T (N : Nat) (c0 : term_Arena_Vars_43b4_Ty) (c1 : term_Arena_Width_43b4_Ty) (c2 : term_Arena_Eval_0112_Ty) (c3 : term_Arena_Var_99d8_Ty) (c4 : term_Arena_Known_43b4_Ty) (c5 : term_Arena_Two_12d2_Ty) (c6 : term_Arena_Const_2c81_Ty) (c7 : term_New_Ty) {R : Type} (k0 : (Bool) → Option R) : Option R :=
  c7
  (fun l0 l1 l2 => c6 (8 : Int) (200 : Int) l0 l1 l2
   (fun i18 i19 l20 l21 l22 => c6 (8 : Int) (100 : Int) l22 l20 l21
    (fun i23 i24 l25 l26 l27 => c5 (7 : Int) i18 i23 l27 l25 l26
     (fun i650 i651 l652 l653 l654 => c4 i650 l654 l652 l653
      (fun i655 b656 l657 l658 l659 => c3 (8 : Int) (0 : Int) l657 l658 l659
       (fun i677 i678 l679 l680 l681 => c5 (7 : Int) i677 i18 l681 l679 l680
        (fun i682 i683 l684 l685 l686 => br (decide (i19 = (0 : Int)))
         (br (decide (i24 = (0 : Int)))
          (br (decide (i651 = (0 : Int)))
           (br (decide (i678 = (0 : Int)))
            (br (decide (i683 = (0 : Int)))
             (br b656
              (br (decide (i655 = (44 : Int)))
               (c2 i682 l686 l684 l685 ((1 : Int) :: ([] : List ((Sh.int IntKind.u16).T)))
                (fun i779 l780 l781 l782 l783 => br (decide (i779 = (201 : Int)))
                 (c1 i682 l780 l781 l782
                  (fun i784 l785 l786 l787 => br (decide (i784 = (8 : Int)))
                   (c0 i682 l785 l786 l787
                    (fun l824 l825 l826 l827 => k0 (decide ((Nat.cast (List.length l827) : Int) = (1 : Int)))))
                   (k0 false)))
                 (k0 false)))
               (k0 false))
              (k0 false))
             (k0 false))
            (k0 false))
           (k0 false))
          (k0 false))
         (k0 false))))))))
noncomputable def law2_awake (N : Nat) {R : Type} (k0 : (Bool) → Option R) : Option R := law2_awake_T N (@term_Arena_Vars_43b4 N) (@term_Arena_Width_43b4 N) (@term_Arena_Eval_0112 N) (@term_Arena_Var_99d8 N) (@term_Arena_Known_43b4 N) (@term_Arena_Two_12d2 N) (@term_Arena_Const_2c81 N) (@term_New N) k0
abbrev term_Arena_Ext_99d8_Ty : Type 1 := {R : Type} → (Int) → (Int) → (List ((Int) × ((Int) × ((Int) × ((Int) × ((Int) × (Int))))))) → (List (((Int) × ((Int) × ((Int) × ((Int) × ((Int) × (Int)))))) × (Int))) → (List ((Int) × (Int))) → ((Int) → (Int) → (List (((Int) × ((Int) × ((Int) × ((Int) × ((Int) × (Int)))))) × (Int))) → (List ((Int) × (Int))) → (List ((Int) × ((Int) × ((Int) × ((Int) × ((Int) × (Int))))))) → Option R) → Option R
noncomputable def term_Arena_Ext_99d8_T (N : Nat) (c0 : term_Arena_keep_a25e_Ty) (c1 : term_Arena_Ext_99d8_Ty) (c2 : term_Arena_Const_2c81_Ty) (c3 : wide_May_Ty) (c4 : term_Arena_Node_43b4_Ty) {R : Type} (x0 : Int) (x1 : Int) (x2 : List ((Int) × ((Int) × ((Int) × ((Int) × ((Int) × (Int))))))) (x3 : List (((Int) × ((Int) × ((Int) × ((Int) × ((Int) × (Int)))))) × (Int))) (x4 : List ((Int) × (Int))) (k0 : (Int) → (Int) → (List (((Int) × ((Int) × ((Int) × ((Int) × ((Int) × (Int)))))) × (Int))) → (List ((Int) × (Int))) → (List ((Int) × ((Int) × ((Int) × ((Int) × ((Int) × (Int))))))) → Option R) : Option R :=
  c4 x1 x2 x3 x4
  (fun i1215 i1216 i1217 i1218 i1219 i1220 b1221 l1222 l1223 l1224 => br (!b1221)
   (k0 (0 : Int) (1 : Int) l1223 l1224 l1222)
   (c3 x0
    (fun b1225 => br (!(!b1225))
     (br (decide (x0 < i1216))
      (k0 (0 : Int) (2 : Int) l1223 l1224 l1222)
      (br (decide (x0 = i1216))
       (k0 x1 (0 : Int) l1223 l1224 l1222)
       (br (decide (i1215 = (1 : Int)))
        (c2 x0 i1217 l1222 l1223 l1224
         (fun i1226 i1227 l1228 l1229 l1230 => k0 i1226 i1227 l1228 l1229 l1230))
        (br (decide (i1215 = (17 : Int)))
         (c1 x0 i1218 l1222 l1223 l1224
          (fun i1231 i1232 l1233 l1234 l1235 => k0 i1231 i1232 l1233 l1234 l1235))
         (c0 (17 : Int) x0 (0 : Int) x1 (0 : Int) (0 : Int) l1222 l1223 l1224
          (fun i1236 i1237 l1238 l1239 l1240 => k0 i1236 i1237 l1238 l1239 l1240))))))
     (k0 (0 : Int) (2 : Int) l1223 l1224 l1222))))
structure G_term_Arena_Ext_Rec : Type 1 where
  term_Arena_Ext_99d8 : term_Arena_Ext_99d8_Ty
noncomputable def G_term_Arena_Ext_rec (N : Nat) : Nat → G_term_Arena_Ext_Rec
  | 0 => ⟨fun {R} _ _ _ _ _ _ => none⟩
  | n + 1 => ⟨fun {R} x0 x1 x2 x3 x4 k0 => term_Arena_Ext_99d8_T N (@term_Arena_keep_a25e N) (@G_term_Arena_Ext_Rec.term_Arena_Ext_99d8 (G_term_Arena_Ext_rec N n)) (@term_Arena_Const_2c81 N) (@wide_May N) (@term_Arena_Node_43b4 N) x0 x1 x2 x3 x4 k0⟩
noncomputable def term_Arena_Ext_99d8 (N : Nat) {R : Type} (x0 : Int) (x1 : Int) (x2 : List ((Int) × ((Int) × ((Int) × ((Int) × ((Int) × (Int))))))) (x3 : List (((Int) × ((Int) × ((Int) × ((Int) × ((Int) × (Int)))))) × (Int))) (x4 : List ((Int) × (Int))) (k0 : (Int) → (Int) → (List (((Int) × ((Int) × ((Int) × ((Int) × ((Int) × (Int)))))) × (Int))) → (List ((Int) × (Int))) → (List ((Int) × ((Int) × ((Int) × ((Int) × ((Int) × (Int))))))) → Option R) : Option R := (G_term_Arena_Ext_rec N N).term_Arena_Ext_99d8 x0 x1 x2 x3 x4 k0
abbrev term_Arena_Cut_99d8_Ty : Type 1 := {R : Type} → (Int) → (Int) → (List ((Int) × ((Int) × ((Int) × ((Int) × ((Int) × (Int))))))) → (List (((Int) × ((Int) × ((Int) × ((Int) × ((Int) × (Int)))))) × (Int))) → (List ((Int) × (Int))) → ((Int) → (Int) → (List (((Int) × ((Int) × ((Int) × ((Int) × ((Int) × (Int)))))) × (Int))) → (List ((Int) × (Int))) → (List ((Int) × ((Int) × ((Int) × ((Int) × ((Int) × (Int))))))) → Option R) → Option R
noncomputable def term_Arena_Cut_99d8_T (N : Nat) (c0 : term_Arena_keep_a25e_Ty) (c1 : term_Arena_Ext_99d8_Ty) (c2 : term_Arena_Width_43b4_Ty) (c3 : term_Arena_Cut_99d8_Ty) (c4 : term_Arena_Const_2c81_Ty) (c5 : wide_May_Ty) (c6 : term_Arena_Node_43b4_Ty) {R : Type} (x0 : Int) (x1 : Int) (x2 : List ((Int) × ((Int) × ((Int) × ((Int) × ((Int) × (Int))))))) (x3 : List (((Int) × ((Int) × ((Int) × ((Int) × ((Int) × (Int)))))) × (Int))) (x4 : List ((Int) × (Int))) (k0 : (Int) → (Int) → (List (((Int) × ((Int) × ((Int) × ((Int) × ((Int) × (Int)))))) × (Int))) → (List ((Int) × (Int))) → (List ((Int) × ((Int) × ((Int) × ((Int) × ((Int) × (Int))))))) → Option R) : Option R :=
  c6 x1 x2 x3 x4
  (fun i1308 i1309 i1310 i1311 i1312 i1313 b1314 l1315 l1316 l1317 => br (!b1314)
   (k0 (0 : Int) (1 : Int) l1316 l1317 l1315)
   (c5 x0
    (fun b1318 => br (!(!b1318))
     (br (decide (i1309 < x0))
      (k0 (0 : Int) (2 : Int) l1316 l1317 l1315)
      (br (decide (x0 = i1309))
       (k0 x1 (0 : Int) l1316 l1317 l1315)
       (br (decide (i1308 = (1 : Int)))
        (c4 x0 i1310 l1315 l1316 l1317
         (fun i1319 i1320 l1321 l1322 l1323 => k0 i1319 i1320 l1321 l1322 l1323))
        (br (decide (i1308 = (18 : Int)))
         (c3 x0 i1311 l1315 l1316 l1317
          (fun i1324 i1325 l1326 l1327 l1328 => k0 i1324 i1325 l1326 l1327 l1328))
         (br (decide (i1308 = (17 : Int)))
          (c2 i1311 l1315 l1316 l1317
           (fun i1329 l1330 l1331 l1332 => br (decide (x0 ≤ i1329))
            (c3 x0 i1311 l1330 l1331 l1332
             (fun i1333 i1334 l1335 l1336 l1337 => k0 i1333 i1334 l1335 l1336 l1337))
            (br (decide (i1308 = (17 : Int)))
             (c1 x0 i1311 l1330 l1331 l1332
              (fun i1338 i1339 l1340 l1341 l1342 => k0 i1338 i1339 l1340 l1341 l1342))
             (c0 (18 : Int) x0 (0 : Int) x1 (0 : Int) (0 : Int) l1330 l1331 l1332
              (fun i1343 i1344 l1345 l1346 l1347 => k0 i1343 i1344 l1345 l1346 l1347)))))
          (br (decide (i1308 = (17 : Int)))
           (c1 x0 i1311 l1315 l1316 l1317
            (fun i1348 i1349 l1350 l1351 l1352 => k0 i1348 i1349 l1350 l1351 l1352))
           (c0 (18 : Int) x0 (0 : Int) x1 (0 : Int) (0 : Int) l1315 l1316 l1317
            (fun i1353 i1354 l1355 l1356 l1357 => k0 i1353 i1354 l1355 l1356 l1357))))))))
     (k0 (0 : Int) (2 : Int) l1316 l1317 l1315))))
structure G_term_Arena_Cut_Rec : Type 1 where
  term_Arena_Cut_99d8 : term_Arena_Cut_99d8_Ty
noncomputable def G_term_Arena_Cut_rec (N : Nat) : Nat → G_term_Arena_Cut_Rec
  | 0 => ⟨fun {R} _ _ _ _ _ _ => none⟩
  | n + 1 => ⟨fun {R} x0 x1 x2 x3 x4 k0 => term_Arena_Cut_99d8_T N (@term_Arena_keep_a25e N) (@term_Arena_Ext_99d8 N) (@term_Arena_Width_43b4 N) (@G_term_Arena_Cut_Rec.term_Arena_Cut_99d8 (G_term_Arena_Cut_rec N n)) (@term_Arena_Const_2c81 N) (@wide_May N) (@term_Arena_Node_43b4 N) x0 x1 x2 x3 x4 k0⟩
noncomputable def term_Arena_Cut_99d8 (N : Nat) {R : Type} (x0 : Int) (x1 : Int) (x2 : List ((Int) × ((Int) × ((Int) × ((Int) × ((Int) × (Int))))))) (x3 : List (((Int) × ((Int) × ((Int) × ((Int) × ((Int) × (Int)))))) × (Int))) (x4 : List ((Int) × (Int))) (k0 : (Int) → (Int) → (List (((Int) × ((Int) × ((Int) × ((Int) × ((Int) × (Int)))))) × (Int))) → (List ((Int) × (Int))) → (List ((Int) × ((Int) × ((Int) × ((Int) × ((Int) × (Int))))))) → Option R) : Option R := (G_term_Arena_Cut_rec N N).term_Arena_Cut_99d8 x0 x1 x2 x3 x4 k0
abbrev law2_Build_4694_l0_Ty : Type 1 := {R : Type} → ((Bool) → (List (((Int) × ((Int) × ((Int) × ((Int) × ((Int) × (Int)))))) × (Int))) → (List ((Int) × (Int))) → (List ((Int) × ((Int) × ((Int) × ((Int) × ((Int) × (Int))))))) → (List ((Int) × (((Int) × ((Int) × ((Int) × ((Int) × ((Int) × (Int)))))) × ((Int) × ((Int) × ((Int) × (Int))))))) → Option R) → ((List (((Int) × ((Int) × ((Int) × ((Int) × ((Int) × (Int)))))) × (Int))) → (List ((Int) × (Int))) → (List ((Int) × ((Int) × ((Int) × ((Int) × ((Int) × (Int))))))) → (List ((Int) × (((Int) × ((Int) × ((Int) × ((Int) × ((Int) × (Int)))))) × ((Int) × ((Int) × ((Int) × (Int))))))) → Option R) → Nat → (List ((Int) × ((Int) × ((Int) × ((Int) × ((Int) × (Int))))))) → (Int) → (List (((Int) × ((Int) × ((Int) × ((Int) × ((Int) × (Int)))))) × (Int))) → (List ((Int) × (Int))) → (List ((Int) × ((Int) × ((Int) × ((Int) × ((Int) × (Int))))))) → (List ((Int) × (((Int) × ((Int) × ((Int) × ((Int) × ((Int) × (Int)))))) × ((Int) × ((Int) × ((Int) × (Int))))))) → (List (Int)) → Option R
abbrev law2_Build_4694_lj0_Ty : Type 1 := {R : Type} → ((List ((Int) × ((Int) × ((Int) × ((Int) × ((Int) × (Int))))))) → (Int) → (List (((Int) × ((Int) × ((Int) × ((Int) × ((Int) × (Int)))))) × (Int))) → (List ((Int) × (Int))) → (List ((Int) × ((Int) × ((Int) × ((Int) × ((Int) × (Int))))))) → (List ((Int) × (((Int) × ((Int) × ((Int) × ((Int) × ((Int) × (Int)))))) × ((Int) × ((Int) × ((Int) × (Int))))))) → (List (Int)) → Option R) → ((List ((Int) × ((Int) × ((Int) × ((Int) × ((Int) × (Int))))))) → (Bool) → (Int) → (List (((Int) × ((Int) × ((Int) × ((Int) × ((Int) × (Int)))))) × (Int))) → (List ((Int) × (Int))) → (List ((Int) × ((Int) × ((Int) × ((Int) × ((Int) × (Int))))))) → (List ((Int) × (((Int) × ((Int) × ((Int) × ((Int) × ((Int) × (Int)))))) × ((Int) × ((Int) × ((Int) × (Int))))))) → (List (Int)) → Option R) → ((List ((Int) × ((Int) × ((Int) × ((Int) × ((Int) × (Int))))))) → (Int) → (List (((Int) × ((Int) × ((Int) × ((Int) × ((Int) × (Int)))))) × (Int))) → (List ((Int) × (Int))) → (List ((Int) × ((Int) × ((Int) × ((Int) × ((Int) × (Int))))))) → (List ((Int) × (((Int) × ((Int) × ((Int) × ((Int) × ((Int) × (Int)))))) × ((Int) × ((Int) × ((Int) × (Int))))))) → (List (Int)) → Option R) → Nat → (List ((Int) × ((Int) × ((Int) × ((Int) × ((Int) × (Int))))))) → (Int) → (List (((Int) × ((Int) × ((Int) × ((Int) × ((Int) × (Int)))))) × (Int))) → (List ((Int) × (Int))) → (List ((Int) × ((Int) × ((Int) × ((Int) × ((Int) × (Int))))))) → (List ((Int) × (((Int) × ((Int) × ((Int) × ((Int) × ((Int) × (Int)))))) × ((Int) × ((Int) × ((Int) × (Int))))))) → (List (Int)) → (Int) → (Int) → (Int) → (Int) → (Int) → (Int) → (Int) → (Int) → (Int) → (Int) → (Int) → (Int) → (Int) → (Int) → (List (Int)) → Option R
abbrev law2_Build_4694_lj1_Ty : Type 1 := {R : Type} → ((List ((Int) × ((Int) × ((Int) × ((Int) × ((Int) × (Int))))))) → (Bool) → (Int) → (List (((Int) × ((Int) × ((Int) × ((Int) × ((Int) × (Int)))))) × (Int))) → (List ((Int) × (Int))) → (List ((Int) × ((Int) × ((Int) × ((Int) × ((Int) × (Int))))))) → (List ((Int) × (((Int) × ((Int) × ((Int) × ((Int) × ((Int) × (Int)))))) × ((Int) × ((Int) × ((Int) × (Int))))))) → (List (Int)) → Option R) → ((List ((Int) × ((Int) × ((Int) × ((Int) × ((Int) × (Int))))))) → (Int) → (List (((Int) × ((Int) × ((Int) × ((Int) × ((Int) × (Int)))))) × (Int))) → (List ((Int) × (Int))) → (List ((Int) × ((Int) × ((Int) × ((Int) × ((Int) × (Int))))))) → (List ((Int) × (((Int) × ((Int) × ((Int) × ((Int) × ((Int) × (Int)))))) × ((Int) × ((Int) × ((Int) × (Int))))))) → (List (Int)) → Option R) → Nat → (List ((Int) × ((Int) × ((Int) × ((Int) × ((Int) × (Int))))))) → (Int) → (Int) → (Int) → (Int) → (Int) → (Int) → (Int) → (List (((Int) × ((Int) × ((Int) × ((Int) × ((Int) × (Int)))))) × (Int))) → (List ((Int) × (Int))) → (List ((Int) × ((Int) × ((Int) × ((Int) × ((Int) × (Int))))))) → (List ((Int) × (((Int) × ((Int) × ((Int) × ((Int) × ((Int) × (Int)))))) × ((Int) × ((Int) × ((Int) × (Int))))))) → (List (Int)) → (Int) → (Int) → (Int) → (Int) → (Int) → (Int) → (Int) → (Int) → (Int) → (Int) → (Int) → (Int) → (Int) → (Int) → (List (Int)) → Option R
abbrev law2_Build_4694_lj2_Ty : Type 1 := {R : Type} → ((List ((Int) × ((Int) × ((Int) × ((Int) × ((Int) × (Int))))))) → (Bool) → (Int) → (List (((Int) × ((Int) × ((Int) × ((Int) × ((Int) × (Int)))))) × (Int))) → (List ((Int) × (Int))) → (List ((Int) × ((Int) × ((Int) × ((Int) × ((Int) × (Int))))))) → (List ((Int) × (((Int) × ((Int) × ((Int) × ((Int) × ((Int) × (Int)))))) × ((Int) × ((Int) × ((Int) × (Int))))))) → (List (Int)) → Option R) → ((List ((Int) × ((Int) × ((Int) × ((Int) × ((Int) × (Int))))))) → (Int) → (List (((Int) × ((Int) × ((Int) × ((Int) × ((Int) × (Int)))))) × (Int))) → (List ((Int) × (Int))) → (List ((Int) × ((Int) × ((Int) × ((Int) × ((Int) × (Int))))))) → (List ((Int) × (((Int) × ((Int) × ((Int) × ((Int) × ((Int) × (Int)))))) × ((Int) × ((Int) × ((Int) × (Int))))))) → (List (Int)) → Option R) → Nat → (List ((Int) × ((Int) × ((Int) × ((Int) × ((Int) × (Int))))))) → (Int) → (Int) → (Int) → (List (((Int) × ((Int) × ((Int) × ((Int) × ((Int) × (Int)))))) × (Int))) → (List ((Int) × (Int))) → (List ((Int) × ((Int) × ((Int) × ((Int) × ((Int) × (Int))))))) → (List ((Int) × (((Int) × ((Int) × ((Int) × ((Int) × ((Int) × (Int)))))) × ((Int) × ((Int) × ((Int) × (Int))))))) → (List (Int)) → (Int) → (Int) → (Int) → (Int) → (Int) → (Int) → (Int) → (Int) → (List (Int)) → Option R
abbrev law2_Build_4694_lj3_Ty : Type 1 := {R : Type} → ((List ((Int) × ((Int) × ((Int) × ((Int) × ((Int) × (Int))))))) → (Int) → (Int) → (Int) → (List (((Int) × ((Int) × ((Int) × ((Int) × ((Int) × (Int)))))) × (Int))) → (List ((Int) × (Int))) → (List ((Int) × ((Int) × ((Int) × ((Int) × ((Int) × (Int))))))) → (List ((Int) × (((Int) × ((Int) × ((Int) × ((Int) × ((Int) × (Int)))))) × ((Int) × ((Int) × ((Int) × (Int))))))) → (List (Int)) → (Int) → (Int) → (Int) → (Int) → (Int) → (Int) → (Int) → (Int) → (List (Int)) → Option R) → Nat → (List ((Int) × ((Int) × ((Int) × ((Int) × ((Int) × (Int))))))) → (Int) → (Int) → (Int) → (Int) → (List (((Int) × ((Int) × ((Int) × ((Int) × ((Int) × (Int)))))) × (Int))) → (List ((Int) × (Int))) → (List ((Int) × ((Int) × ((Int) × ((Int) × ((Int) × (Int))))))) → (List ((Int) × (((Int) × ((Int) × ((Int) × ((Int) × ((Int) × (Int)))))) × ((Int) × ((Int) × ((Int) × (Int))))))) → (List (Int)) → (Int) → (Int) → (Int) → (Int) → (Int) → (Int) → (Int) → (Int) → (Int) → (Int) → (Int) → (Int) → (Int) → (Int) → (List (Int)) → Option R
abbrev law2_Build_4694_Ty : Type 1 := {R : Type} → (List ((Int) × ((Int) × ((Int) × ((Int) × ((Int) × (Int))))))) → (List ((Int) × ((Int) × ((Int) × ((Int) × ((Int) × (Int))))))) → (List (((Int) × ((Int) × ((Int) × ((Int) × ((Int) × (Int)))))) × (Int))) → (List ((Int) × (Int))) → ((Bool) → (List (((Int) × ((Int) × ((Int) × ((Int) × ((Int) × (Int)))))) × (Int))) → (List ((Int) × (Int))) → (List ((Int) × ((Int) × ((Int) × ((Int) × ((Int) × (Int))))))) → (List ((Int) × (((Int) × ((Int) × ((Int) × ((Int) × ((Int) × (Int)))))) × ((Int) × ((Int) × ((Int) × (Int))))))) → Option R) → Option R
noncomputable def law2_Build_4694_l0_T0 (N : Nat) (c0 : term_Arena_Cut_99d8_Ty) (c1 : term_Arena_Ext_99d8_Ty) (c2 : term_Arena_Ite_12d2_Ty) (c3 : term_Arena_Two_12d2_Ty) (c4 : term_Arena_Not_43b4_Ty) (c5 : term_Arena_Var_99d8_Ty) (c6 : term_Arena_Width_43b4_Ty) (c7 : ref1_May_Ty) (c8 : term_Arena_Const_2c81_Ty) (wj0 : law2_Build_4694_lj0_Ty) (wj1 : law2_Build_4694_lj1_Ty) (wj2 : law2_Build_4694_lj2_Ty) (wj3 : law2_Build_4694_lj3_Ty) {R : Type} (nx : (List ((Int) × ((Int) × ((Int) × ((Int) × ((Int) × (Int))))))) → (Int) → (List (((Int) × ((Int) × ((Int) × ((Int) × ((Int) × (Int)))))) × (Int))) → (List ((Int) × (Int))) → (List ((Int) × ((Int) × ((Int) × ((Int) × ((Int) × (Int))))))) → (List ((Int) × (((Int) × ((Int) × ((Int) × ((Int) × ((Int) × (Int)))))) × ((Int) × ((Int) × ((Int) × (Int))))))) → (List (Int)) → Option R) (k0 : (Bool) → (List (((Int) × ((Int) × ((Int) × ((Int) × ((Int) × (Int)))))) × (Int))) → (List ((Int) × (Int))) → (List ((Int) × ((Int) × ((Int) × ((Int) × ((Int) × (Int))))))) → (List ((Int) × (((Int) × ((Int) × ((Int) × ((Int) × ((Int) × (Int)))))) × ((Int) × ((Int) × ((Int) × (Int))))))) → Option R) (k1 : (List (((Int) × ((Int) × ((Int) × ((Int) × ((Int) × (Int)))))) × (Int))) → (List ((Int) × (Int))) → (List ((Int) × ((Int) × ((Int) × ((Int) × ((Int) × (Int))))))) → (List ((Int) × (((Int) × ((Int) × ((Int) × ((Int) × ((Int) × (Int)))))) × ((Int) × ((Int) × ((Int) × (Int))))))) → Option R) (x0 : List ((Int) × ((Int) × ((Int) × ((Int) × ((Int) × (Int))))))) (x1 : Int) (x2 : List (((Int) × ((Int) × ((Int) × ((Int) × ((Int) × (Int)))))) × (Int))) (x3 : List ((Int) × (Int))) (x4 : List ((Int) × ((Int) × ((Int) × ((Int) × ((Int) × (Int))))))) (x5 : List ((Int) × (((Int) × ((Int) × ((Int) × ((Int) × ((Int) × (Int)))))) × ((Int) × ((Int) × ((Int) × (Int))))))) (x6 : List (Int)) : Option R :=
  br (decide (x1 < (Nat.cast (List.length x0) : Int)))
  (br (inB x1 (List.length x0))
   (br (decide ((0 : Int) < (Nat.cast (List.length x5) : Int)))
    (br (decide ((Nat.cast (List.length x5) : Int) = (0 : Int)))
     (none)
     (br (decide ((Nat.cast (List.length x5) : Int) = (0 : Int)))
      (none)
      (br (decide ((Nat.cast (List.length x5) : Int) = (0 : Int)))
       (none)
       (wj0
        (fun l3515 i3516 l3517 l3518 l3519 l3520 l3521 => nx l3515 (IntKind.wrap .i64 (i3516 + (1 : Int))) l3517 l3518 l3519 l3520 l3521)
        (fun l3522 b3523 i3524 l3525 l3526 l3527 l3528 l3529 => k0 b3523 l3525 l3526 l3527 l3528)
        (fun l3530 i3531 l3532 l3533 l3534 l3535 l3536 => nx l3530 (IntKind.wrap .i64 (i3531 + (1 : Int))) l3532 l3533 l3534 l3535 l3536)
        N x0 x1 x2 x3 x4 x5 x6 (List.getD x0 (Int.toNat x1) ((0 : Int) , ((0 : Int) , ((0 : Int) , ((0 : Int) , ((0 : Int) , (0 : Int))))))).1 (List.getD x0 (Int.toNat x1) ((0 : Int) , ((0 : Int) , ((0 : Int) , ((0 : Int) , ((0 : Int) , (0 : Int))))))).2.1 (List.getD x0 (Int.toNat x1) ((0 : Int) , ((0 : Int) , ((0 : Int) , ((0 : Int) , ((0 : Int) , (0 : Int))))))).2.2.1 (List.getD x0 (Int.toNat x1) ((0 : Int) , ((0 : Int) , ((0 : Int) , ((0 : Int) , ((0 : Int) , (0 : Int))))))).2.2.2.1 (List.getD x0 (Int.toNat x1) ((0 : Int) , ((0 : Int) , ((0 : Int) , ((0 : Int) , ((0 : Int) , (0 : Int))))))).2.2.2.2.1 (List.getD x0 (Int.toNat x1) ((0 : Int) , ((0 : Int) , ((0 : Int) , ((0 : Int) , ((0 : Int) , (0 : Int))))))).2.2.2.2.2 (0 : Int) (List.getD x0 (Int.toNat x1) ((0 : Int) , ((0 : Int) , ((0 : Int) , ((0 : Int) , ((0 : Int) , (0 : Int))))))).1 (List.getD x0 (Int.toNat x1) ((0 : Int) , ((0 : Int) , ((0 : Int) , ((0 : Int) , ((0 : Int) , (0 : Int))))))).2.1 (List.getD x0 (Int.toNat x1) ((0 : Int) , ((0 : Int) , ((0 : Int) , ((0 : Int) , ((0 : Int) , (0 : Int))))))).2.2.1 (List.getD x0 (Int.toNat x1) ((0 : Int) , ((0 : Int) , ((0 : Int) , ((0 : Int) , ((0 : Int) , (0 : Int))))))).2.2.2.1 (List.getD x0 (Int.toNat x1) ((0 : Int) , ((0 : Int) , ((0 : Int) , ((0 : Int) , ((0 : Int) , (0 : Int))))))).2.2.2.2.1 (List.getD x0 (Int.toNat x1) ((0 : Int) , ((0 : Int) , ((0 : Int) , ((0 : Int) , ((0 : Int) , (0 : Int))))))).2.2.2.2.2 (0 : Int) ((Int.tmod (IntKind.wrap .i64 (List.getD x0 (Int.toNat x1) ((0 : Int) , ((0 : Int) , ((0 : Int) , ((0 : Int) , ((0 : Int) , (0 : Int))))))).2.2.2.1) (Nat.cast (List.length x5) : Int)) :: ((Int.tmod (IntKind.wrap .i64 (List.getD x0 (Int.toNat x1) ((0 : Int) , ((0 : Int) , ((0 : Int) , ((0 : Int) , ((0 : Int) , (0 : Int))))))).2.2.2.2.1) (Nat.cast (List.length x5) : Int)) :: ((Int.tmod (IntKind.wrap .i64 (List.getD x0 (Int.toNat x1) ((0 : Int) , ((0 : Int) , ((0 : Int) , ((0 : Int) , ((0 : Int) , (0 : Int))))))).2.2.2.2.2) (Nat.cast (List.length x5) : Int)) :: ([] : List ((Sh.int IntKind.i64).T)))))))))
    (wj0
     (fun l3537 i3538 l3539 l3540 l3541 l3542 l3543 => nx l3537 (IntKind.wrap .i64 (i3538 + (1 : Int))) l3539 l3540 l3541 l3542 l3543)
     (fun l3544 b3545 i3546 l3547 l3548 l3549 l3550 l3551 => k0 b3545 l3547 l3548 l3549 l3550)
     (fun l3552 i3553 l3554 l3555 l3556 l3557 l3558 => nx l3552 (IntKind.wrap .i64 (i3553 + (1 : Int))) l3554 l3555 l3556 l3557 l3558)
     N x0 x1 x2 x3 x4 x5 x6 (List.getD x0 (Int.toNat x1) ((0 : Int) , ((0 : Int) , ((0 : Int) , ((0 : Int) , ((0 : Int) , (0 : Int))))))).1 (List.getD x0 (Int.toNat x1) ((0 : Int) , ((0 : Int) , ((0 : Int) , ((0 : Int) , ((0 : Int) , (0 : Int))))))).2.1 (List.getD x0 (Int.toNat x1) ((0 : Int) , ((0 : Int) , ((0 : Int) , ((0 : Int) , ((0 : Int) , (0 : Int))))))).2.2.1 (List.getD x0 (Int.toNat x1) ((0 : Int) , ((0 : Int) , ((0 : Int) , ((0 : Int) , ((0 : Int) , (0 : Int))))))).2.2.2.1 (List.getD x0 (Int.toNat x1) ((0 : Int) , ((0 : Int) , ((0 : Int) , ((0 : Int) , ((0 : Int) , (0 : Int))))))).2.2.2.2.1 (List.getD x0 (Int.toNat x1) ((0 : Int) , ((0 : Int) , ((0 : Int) , ((0 : Int) , ((0 : Int) , (0 : Int))))))).2.2.2.2.2 (0 : Int) (List.getD x0 (Int.toNat x1) ((0 : Int) , ((0 : Int) , ((0 : Int) , ((0 : Int) , ((0 : Int) , (0 : Int))))))).1 (List.getD x0 (Int.toNat x1) ((0 : Int) , ((0 : Int) , ((0 : Int) , ((0 : Int) , ((0 : Int) , (0 : Int))))))).2.1 (List.getD x0 (Int.toNat x1) ((0 : Int) , ((0 : Int) , ((0 : Int) , ((0 : Int) , ((0 : Int) , (0 : Int))))))).2.2.1 (List.getD x0 (Int.toNat x1) ((0 : Int) , ((0 : Int) , ((0 : Int) , ((0 : Int) , ((0 : Int) , (0 : Int))))))).2.2.2.1 (List.getD x0 (Int.toNat x1) ((0 : Int) , ((0 : Int) , ((0 : Int) , ((0 : Int) , ((0 : Int) , (0 : Int))))))).2.2.2.2.1 (List.getD x0 (Int.toNat x1) ((0 : Int) , ((0 : Int) , ((0 : Int) , ((0 : Int) , ((0 : Int) , (0 : Int))))))).2.2.2.2.2 (0 : Int) ((0 : Int) :: ((0 : Int) :: ((0 : Int) :: ([] : List ((Sh.int IntKind.i64).T)))))))
   (none))
  (k1 x2 x3 x4 x5)
noncomputable def law2_Build_4694_lj0_T0 (N : Nat) (c0 : term_Arena_Cut_99d8_Ty) (c1 : term_Arena_Ext_99d8_Ty) (c2 : term_Arena_Ite_12d2_Ty) (c3 : term_Arena_Two_12d2_Ty) (c4 : term_Arena_Not_43b4_Ty) (c5 : term_Arena_Var_99d8_Ty) (c6 : term_Arena_Width_43b4_Ty) (c7 : ref1_May_Ty) (c8 : term_Arena_Const_2c81_Ty) (wj1 : law2_Build_4694_lj1_Ty) (wj2 : law2_Build_4694_lj2_Ty) (wj3 : law2_Build_4694_lj3_Ty) {R : Type} (k0 : (List ((Int) × ((Int) × ((Int) × ((Int) × ((Int) × (Int))))))) → (Int) → (List (((Int) × ((Int) × ((Int) × ((Int) × ((Int) × (Int)))))) × (Int))) → (List ((Int) × (Int))) → (List ((Int) × ((Int) × ((Int) × ((Int) × ((Int) × (Int))))))) → (List ((Int) × (((Int) × ((Int) × ((Int) × ((Int) × ((Int) × (Int)))))) × ((Int) × ((Int) × ((Int) × (Int))))))) → (List (Int)) → Option R) (k1 : (List ((Int) × ((Int) × ((Int) × ((Int) × ((Int) × (Int))))))) → (Bool) → (Int) → (List (((Int) × ((Int) × ((Int) × ((Int) × ((Int) × (Int)))))) × (Int))) → (List ((Int) × (Int))) → (List ((Int) × ((Int) × ((Int) × ((Int) × ((Int) × (Int))))))) → (List ((Int) × (((Int) × ((Int) × ((Int) × ((Int) × ((Int) × (Int)))))) × ((Int) × ((Int) × ((Int) × (Int))))))) → (List (Int)) → Option R) (k2 : (List ((Int) × ((Int) × ((Int) × ((Int) × ((Int) × (Int))))))) → (Int) → (List (((Int) × ((Int) × ((Int) × ((Int) × ((Int) × (Int)))))) × (Int))) → (List ((Int) × (Int))) → (List ((Int) × ((Int) × ((Int) × ((Int) × ((Int) × (Int))))))) → (List ((Int) × (((Int) × ((Int) × ((Int) × ((Int) × ((Int) × (Int)))))) × ((Int) × ((Int) × ((Int) × (Int))))))) → (List (Int)) → Option R) (x0 : List ((Int) × ((Int) × ((Int) × ((Int) × ((Int) × (Int))))))) (x1 : Int) (x2 : List (((Int) × ((Int) × ((Int) × ((Int) × ((Int) × (Int)))))) × (Int))) (x3 : List ((Int) × (Int))) (x4 : List ((Int) × ((Int) × ((Int) × ((Int) × ((Int) × (Int))))))) (x5 : List ((Int) × (((Int) × ((Int) × ((Int) × ((Int) × ((Int) × (Int)))))) × ((Int) × ((Int) × ((Int) × (Int))))))) (x6 : List (Int)) (x7 : Int) (x8 : Int) (x9 : Int) (x10 : Int) (x11 : Int) (x12 : Int) (x13 : Int) (x14 : Int) (x15 : Int) (x16 : Int) (x17 : Int) (x18 : Int) (x19 : Int) (x20 : Int) (x21 : List (Int)) : Option R :=
  br (decide ((Nat.cast (List.length x5) : Int) = (0 : Int)))
  (br (!(decide (x7 = (1 : Int))))
   (br (!(decide (x7 = (2 : Int))))
    (k0 x0 x1 x2 x3 x4 x5 x6)
    (br (decide ((0 : Int) < (Nat.cast (List.length x5) : Int)))
     (br (inB (List.getD x21 (0 : Nat) (0 : Int)) (List.length x5))
      (br (decide ((Int.toNat (List.getD x21 (0 : Nat) (0 : Int))) < (List.length x5)))
       (br (inB (List.getD x21 (1 : Nat) (0 : Int)) (List.length x5))
        (br (decide ((Int.toNat (List.getD x21 (1 : Nat) (0 : Int))) < (List.length x5)))
         (br (inB (List.getD x21 (2 : Nat) (0 : Int)) (List.length x5))
          (br (decide ((Int.toNat (List.getD x21 (2 : Nat) (0 : Int))) < (List.length x5)))
           (br (inB (List.getD x21 (0 : Nat) (0 : Int)) (List.length x5))
            (br (decide ((Int.toNat (List.getD x21 (0 : Nat) (0 : Int))) < (List.length x5)))
             (br (inB (List.getD x21 (1 : Nat) (0 : Int)) (List.length x5))
              (br (decide ((Int.toNat (List.getD x21 (1 : Nat) (0 : Int))) < (List.length x5)))
               (br (inB (List.getD x21 (2 : Nat) (0 : Int)) (List.length x5))
                (br (decide ((Int.toNat (List.getD x21 (2 : Nat) (0 : Int))) < (List.length x5)))
                 (wj1
                  (fun l3425 b3426 i3427 l3428 l3429 l3430 l3431 l3432 => k1 l3425 b3426 i3427 l3428 l3429 l3430 l3431 l3432)
                  (fun l3433 i3434 l3435 l3436 l3437 l3438 l3439 => k2 l3433 i3434 l3435 l3436 l3437 l3438 l3439)
                  N x0 x1 (List.getD x5 (Int.toNat (List.getD x21 (0 : Nat) (0 : Int))) ((0 : Int) , (((0 : Int) , ((0 : Int) , ((0 : Int) , ((0 : Int) , ((0 : Int) , (0 : Int)))))) , ((0 : Int) , ((0 : Int) , ((0 : Int) , (0 : Int))))))).1 (List.getD x5 (Int.toNat (List.getD x21 (1 : Nat) (0 : Int))) ((0 : Int) , (((0 : Int) , ((0 : Int) , ((0 : Int) , ((0 : Int) , ((0 : Int) , (0 : Int)))))) , ((0 : Int) , ((0 : Int) , ((0 : Int) , (0 : Int))))))).1 (List.getD x5 (Int.toNat (List.getD x21 (2 : Nat) (0 : Int))) ((0 : Int) , (((0 : Int) , ((0 : Int) , ((0 : Int) , ((0 : Int) , ((0 : Int) , (0 : Int)))))) , ((0 : Int) , ((0 : Int) , ((0 : Int) , (0 : Int))))))).1 (List.getD x5 (Int.toNat (List.getD x21 (0 : Nat) (0 : Int))) ((0 : Int) , (((0 : Int) , ((0 : Int) , ((0 : Int) , ((0 : Int) , ((0 : Int) , (0 : Int)))))) , ((0 : Int) , ((0 : Int) , ((0 : Int) , (0 : Int))))))).2.2.1 (List.getD x5 (Int.toNat (List.getD x21 (1 : Nat) (0 : Int))) ((0 : Int) , (((0 : Int) , ((0 : Int) , ((0 : Int) , ((0 : Int) , ((0 : Int) , (0 : Int)))))) , ((0 : Int) , ((0 : Int) , ((0 : Int) , (0 : Int))))))).2.2.1 (List.getD x5 (Int.toNat (List.getD x21 (2 : Nat) (0 : Int))) ((0 : Int) , (((0 : Int) , ((0 : Int) , ((0 : Int) , ((0 : Int) , ((0 : Int) , (0 : Int)))))) , ((0 : Int) , ((0 : Int) , ((0 : Int) , (0 : Int))))))).2.2.1 x2 x3 x4 x5 x6 x7 x8 x9 x10 x11 x12 x13 x14 x15 x16 x17 x18 x19 x20 x21)
                 (none))
                (none))
               (none))
              (none))
             (none))
            (none))
           (none))
          (none))
         (none))
        (none))
       (none))
      (none))
     (wj1
      (fun l3440 b3441 i3442 l3443 l3444 l3445 l3446 l3447 => k1 l3440 b3441 i3442 l3443 l3444 l3445 l3446 l3447)
      (fun l3448 i3449 l3450 l3451 l3452 l3453 l3454 => k2 l3448 i3449 l3450 l3451 l3452 l3453 l3454)
      N x0 x1 (-1 : Int) (-1 : Int) (-1 : Int) (0 : Int) (0 : Int) (0 : Int) x2 x3 x4 x5 x6 x7 x8 x9 x10 x11 x12 x13 x14 x15 x16 x17 x18 x19 x20 x21)))
   (br (decide ((0 : Int) < (Nat.cast (List.length x5) : Int)))
    (br (inB (List.getD x21 (0 : Nat) (0 : Int)) (List.length x5))
     (br (decide ((Int.toNat (List.getD x21 (0 : Nat) (0 : Int))) < (List.length x5)))
      (br (inB (List.getD x21 (1 : Nat) (0 : Int)) (List.length x5))
       (br (decide ((Int.toNat (List.getD x21 (1 : Nat) (0 : Int))) < (List.length x5)))
        (br (inB (List.getD x21 (2 : Nat) (0 : Int)) (List.length x5))
         (br (decide ((Int.toNat (List.getD x21 (2 : Nat) (0 : Int))) < (List.length x5)))
          (br (inB (List.getD x21 (0 : Nat) (0 : Int)) (List.length x5))
           (br (decide ((Int.toNat (List.getD x21 (0 : Nat) (0 : Int))) < (List.length x5)))
            (br (inB (List.getD x21 (1 : Nat) (0 : Int)) (List.length x5))
             (br (decide ((Int.toNat (List.getD x21 (1 : Nat) (0 : Int))) < (List.length x5)))
              (br (inB (List.getD x21 (2 : Nat) (0 : Int)) (List.length x5))
               (br (decide ((Int.toNat (List.getD x21 (2 : Nat) (0 : Int))) < (List.length x5)))
                (wj1
                 (fun l3455 b3456 i3457 l3458 l3459 l3460 l3461 l3462 => k1 l3455 b3456 i3457 l3458 l3459 l3460 l3461 l3462)
                 (fun l3463 i3464 l3465 l3466 l3467 l3468 l3469 => k2 l3463 i3464 l3465 l3466 l3467 l3468 l3469)
                 N x0 x1 (List.getD x5 (Int.toNat (List.getD x21 (0 : Nat) (0 : Int))) ((0 : Int) , (((0 : Int) , ((0 : Int) , ((0 : Int) , ((0 : Int) , ((0 : Int) , (0 : Int)))))) , ((0 : Int) , ((0 : Int) , ((0 : Int) , (0 : Int))))))).1 (List.getD x5 (Int.toNat (List.getD x21 (1 : Nat) (0 : Int))) ((0 : Int) , (((0 : Int) , ((0 : Int) , ((0 : Int) , ((0 : Int) , ((0 : Int) , (0 : Int)))))) , ((0 : Int) , ((0 : Int) , ((0 : Int) , (0 : Int))))))).1 (List.getD x5 (Int.toNat (List.getD x21 (2 : Nat) (0 : Int))) ((0 : Int) , (((0 : Int) , ((0 : Int) , ((0 : Int) , ((0 : Int) , ((0 : Int) , (0 : Int)))))) , ((0 : Int) , ((0 : Int) , ((0 : Int) , (0 : Int))))))).1 (List.getD x5 (Int.toNat (List.getD x21 (0 : Nat) (0 : Int))) ((0 : Int) , (((0 : Int) , ((0 : Int) , ((0 : Int) , ((0 : Int) , ((0 : Int) , (0 : Int)))))) , ((0 : Int) , ((0 : Int) , ((0 : Int) , (0 : Int))))))).2.2.1 (List.getD x5 (Int.toNat (List.getD x21 (1 : Nat) (0 : Int))) ((0 : Int) , (((0 : Int) , ((0 : Int) , ((0 : Int) , ((0 : Int) , ((0 : Int) , (0 : Int)))))) , ((0 : Int) , ((0 : Int) , ((0 : Int) , (0 : Int))))))).2.2.1 (List.getD x5 (Int.toNat (List.getD x21 (2 : Nat) (0 : Int))) ((0 : Int) , (((0 : Int) , ((0 : Int) , ((0 : Int) , ((0 : Int) , ((0 : Int) , (0 : Int)))))) , ((0 : Int) , ((0 : Int) , ((0 : Int) , (0 : Int))))))).2.2.1 x2 x3 x4 x5 x6 x7 x8 x9 x10 x11 x12 x13 x14 x15 x16 x17 x18 x19 x20 x21)
                (none))
               (none))
              (none))
             (none))
            (none))
           (none))
          (none))
         (none))
        (none))
       (none))
      (none))
     (none))
    (wj1
     (fun l3470 b3471 i3472 l3473 l3474 l3475 l3476 l3477 => k1 l3470 b3471 i3472 l3473 l3474 l3475 l3476 l3477)
     (fun l3478 i3479 l3480 l3481 l3482 l3483 l3484 => k2 l3478 i3479 l3480 l3481 l3482 l3483 l3484)
     N x0 x1 (-1 : Int) (-1 : Int) (-1 : Int) (0 : Int) (0 : Int) (0 : Int) x2 x3 x4 x5 x6 x7 x8 x9 x10 x11 x12 x13 x14 x15 x16 x17 x18 x19 x20 x21)))
  (br (decide ((0 : Int) < (Nat.cast (List.length x5) : Int)))
   (br (inB (List.getD x21 (0 : Nat) (0 : Int)) (List.length x5))
    (br (decide ((Int.toNat (List.getD x21 (0 : Nat) (0 : Int))) < (List.length x5)))
     (br (inB (List.getD x21 (1 : Nat) (0 : Int)) (List.length x5))
      (br (decide ((Int.toNat (List.getD x21 (1 : Nat) (0 : Int))) < (List.length x5)))
       (br (inB (List.getD x21 (2 : Nat) (0 : Int)) (List.length x5))
        (br (decide ((Int.toNat (List.getD x21 (2 : Nat) (0 : Int))) < (List.length x5)))
         (br (inB (List.getD x21 (0 : Nat) (0 : Int)) (List.length x5))
          (br (decide ((Int.toNat (List.getD x21 (0 : Nat) (0 : Int))) < (List.length x5)))
           (br (inB (List.getD x21 (1 : Nat) (0 : Int)) (List.length x5))
            (br (decide ((Int.toNat (List.getD x21 (1 : Nat) (0 : Int))) < (List.length x5)))
             (br (inB (List.getD x21 (2 : Nat) (0 : Int)) (List.length x5))
              (br (decide ((Int.toNat (List.getD x21 (2 : Nat) (0 : Int))) < (List.length x5)))
               (wj1
                (fun l3485 b3486 i3487 l3488 l3489 l3490 l3491 l3492 => k1 l3485 b3486 i3487 l3488 l3489 l3490 l3491 l3492)
                (fun l3493 i3494 l3495 l3496 l3497 l3498 l3499 => k2 l3493 i3494 l3495 l3496 l3497 l3498 l3499)
                N x0 x1 (List.getD x5 (Int.toNat (List.getD x21 (0 : Nat) (0 : Int))) ((0 : Int) , (((0 : Int) , ((0 : Int) , ((0 : Int) , ((0 : Int) , ((0 : Int) , (0 : Int)))))) , ((0 : Int) , ((0 : Int) , ((0 : Int) , (0 : Int))))))).1 (List.getD x5 (Int.toNat (List.getD x21 (1 : Nat) (0 : Int))) ((0 : Int) , (((0 : Int) , ((0 : Int) , ((0 : Int) , ((0 : Int) , ((0 : Int) , (0 : Int)))))) , ((0 : Int) , ((0 : Int) , ((0 : Int) , (0 : Int))))))).1 (List.getD x5 (Int.toNat (List.getD x21 (2 : Nat) (0 : Int))) ((0 : Int) , (((0 : Int) , ((0 : Int) , ((0 : Int) , ((0 : Int) , ((0 : Int) , (0 : Int)))))) , ((0 : Int) , ((0 : Int) , ((0 : Int) , (0 : Int))))))).1 (List.getD x5 (Int.toNat (List.getD x21 (0 : Nat) (0 : Int))) ((0 : Int) , (((0 : Int) , ((0 : Int) , ((0 : Int) , ((0 : Int) , ((0 : Int) , (0 : Int)))))) , ((0 : Int) , ((0 : Int) , ((0 : Int) , (0 : Int))))))).2.2.1 (List.getD x5 (Int.toNat (List.getD x21 (1 : Nat) (0 : Int))) ((0 : Int) , (((0 : Int) , ((0 : Int) , ((0 : Int) , ((0 : Int) , ((0 : Int) , (0 : Int)))))) , ((0 : Int) , ((0 : Int) , ((0 : Int) , (0 : Int))))))).2.2.1 (List.getD x5 (Int.toNat (List.getD x21 (2 : Nat) (0 : Int))) ((0 : Int) , (((0 : Int) , ((0 : Int) , ((0 : Int) , ((0 : Int) , ((0 : Int) , (0 : Int)))))) , ((0 : Int) , ((0 : Int) , ((0 : Int) , (0 : Int))))))).2.2.1 x2 x3 x4 x5 x6 x7 x8 x9 x10 x11 x12 x13 x14 x15 x16 x17 x18 x19 x20 x21)
               (none))
              (none))
             (none))
            (none))
           (none))
          (none))
         (none))
        (none))
       (none))
      (none))
     (none))
    (none))
   (wj1
    (fun l3500 b3501 i3502 l3503 l3504 l3505 l3506 l3507 => k1 l3500 b3501 i3502 l3503 l3504 l3505 l3506 l3507)
    (fun l3508 i3509 l3510 l3511 l3512 l3513 l3514 => k2 l3508 i3509 l3510 l3511 l3512 l3513 l3514)
    N x0 x1 (-1 : Int) (-1 : Int) (-1 : Int) (0 : Int) (0 : Int) (0 : Int) x2 x3 x4 x5 x6 x7 x8 x9 x10 x11 x12 x13 x14 x15 x16 x17 x18 x19 x20 x21))
noncomputable def law2_Build_4694_lj1_T0 (N : Nat) (c0 : term_Arena_Cut_99d8_Ty) (c1 : term_Arena_Ext_99d8_Ty) (c2 : term_Arena_Ite_12d2_Ty) (c3 : term_Arena_Two_12d2_Ty) (c4 : term_Arena_Not_43b4_Ty) (c5 : term_Arena_Var_99d8_Ty) (c6 : term_Arena_Width_43b4_Ty) (c7 : ref1_May_Ty) (c8 : term_Arena_Const_2c81_Ty) (wj2 : law2_Build_4694_lj2_Ty) (wj3 : law2_Build_4694_lj3_Ty) {R : Type} (k0 : (List ((Int) × ((Int) × ((Int) × ((Int) × ((Int) × (Int))))))) → (Bool) → (Int) → (List (((Int) × ((Int) × ((Int) × ((Int) × ((Int) × (Int)))))) × (Int))) → (List ((Int) × (Int))) → (List ((Int) × ((Int) × ((Int) × ((Int) × ((Int) × (Int))))))) → (List ((Int) × (((Int) × ((Int) × ((Int) × ((Int) × ((Int) × (Int)))))) × ((Int) × ((Int) × ((Int) × (Int))))))) → (List (Int)) → Option R) (k1 : (List ((Int) × ((Int) × ((Int) × ((Int) × ((Int) × (Int))))))) → (Int) → (List (((Int) × ((Int) × ((Int) × ((Int) × ((Int) × (Int)))))) × (Int))) → (List ((Int) × (Int))) → (List ((Int) × ((Int) × ((Int) × ((Int) × ((Int) × (Int))))))) → (List ((Int) × (((Int) × ((Int) × ((Int) × ((Int) × ((Int) × (Int)))))) × ((Int) × ((Int) × ((Int) × (Int))))))) → (List (Int)) → Option R) (x0 : List ((Int) × ((Int) × ((Int) × ((Int) × ((Int) × (Int))))))) (x1 : Int) (x2 : Int) (x3 : Int) (x4 : Int) (x5 : Int) (x6 : Int) (x7 : Int) (x8 : List (((Int) × ((Int) × ((Int) × ((Int) × ((Int) × (Int)))))) × (Int))) (x9 : List ((Int) × (Int))) (x10 : List ((Int) × ((Int) × ((Int) × ((Int) × ((Int) × (Int))))))) (x11 : List ((Int) × (((Int) × ((Int) × ((Int) × ((Int) × ((Int) × (Int)))))) × ((Int) × ((Int) × ((Int) × (Int))))))) (x12 : List (Int)) (x13 : Int) (x14 : Int) (x15 : Int) (x16 : Int) (x17 : Int) (x18 : Int) (x19 : Int) (x20 : Int) (x21 : Int) (x22 : Int) (x23 : Int) (x24 : Int) (x25 : Int) (x26 : Int) (x27 : List (Int)) : Option R :=
  br (decide (x13 = (1 : Int)))
  (c8 x14 x15 x10 x8 x9
   (fun i2870 i2871 l2872 l2873 l2874 => c7 x14
    (fun b2875 => br (!b2875)
     (wj2
      (fun l2880 b2881 i2882 l2883 l2884 l2885 l2886 l2887 => k0 l2880 b2881 i2882 l2883 l2884 l2885 l2886 l2887)
      (fun l2888 i2889 l2890 l2891 l2892 l2893 l2894 => k1 l2888 i2889 l2890 l2891 l2892 l2893 l2894)
      N x0 x1 (2 : Int) i2871 l2872 l2873 l2874 x11 x12 i2870 x20 x21 x22 x23 x24 x25 x14 x27)
     (wj2
      (fun l2895 b2896 i2897 l2898 l2899 l2900 l2901 l2902 => k0 l2895 b2896 i2897 l2898 l2899 l2900 l2901 l2902)
      (fun l2903 i2904 l2905 l2906 l2907 l2908 l2909 => k1 l2903 i2904 l2905 l2906 l2907 l2908 l2909)
      N x0 x1 (0 : Int) i2871 l2872 l2873 l2874 x11 x12 i2870 x20 x21 x22 x23 x24 x25 x14 x27))))
  (br (decide (x13 = (2 : Int)))
   (c5 x14 (IntKind.wrap .i64 x15) x10 x8 x9
    (fun i2910 i2911 l2912 l2913 l2914 => c7 x14
     (fun b2915 => br (!b2915)
      (wj2
       (fun l2916 b2917 i2918 l2919 l2920 l2921 l2922 l2923 => k0 l2916 b2917 i2918 l2919 l2920 l2921 l2922 l2923)
       (fun l2924 i2925 l2926 l2927 l2928 l2929 l2930 => k1 l2924 i2925 l2926 l2927 l2928 l2929 l2930)
       N x0 x1 (2 : Int) i2911 l2912 l2913 l2914 x11 x12 i2910 x20 x21 x22 x23 x24 x25 x14 x27)
      (br (!(decide ((64 : Int) ≤ (IntKind.wrap .i64 x15))))
       (br (inB (IntKind.wrap .i64 x15) (64 : Nat))
        (br (decide ((Int.toNat (IntKind.wrap .i64 x15)) < (64 : Nat)))
         (br (!(decide ((List.getD x12 (Int.toNat (IntKind.wrap .i64 x15)) (0 : Int)) = (0 : Int))))
          (br (inB (IntKind.wrap .i64 x15) (64 : Nat))
           (br (decide ((Int.toNat (IntKind.wrap .i64 x15)) < (64 : Nat)))
            (br (!(decide ((List.getD x12 (Int.toNat (IntKind.wrap .i64 x15)) (0 : Int)) = x14)))
             (wj2
              (fun l2931 b2932 i2933 l2934 l2935 l2936 l2937 l2938 => k0 l2931 b2932 i2933 l2934 l2935 l2936 l2937 l2938)
              (fun l2939 i2940 l2941 l2942 l2943 l2944 l2945 => k1 l2939 i2940 l2941 l2942 l2943 l2944 l2945)
              N x0 x1 (1 : Int) i2911 l2912 l2913 l2914 x11 x12 i2910 x20 x21 x22 x23 x24 x25 x14 x27)
             (br (inB (IntKind.wrap .i64 x15) (64 : Nat))
              (br (decide ((Int.toNat (IntKind.wrap .i64 x15)) < (64 : Nat)))
               (wj2
                (fun l2946 b2947 i2948 l2949 l2950 l2951 l2952 l2953 => k0 l2946 b2947 i2948 l2949 l2950 l2951 l2952 l2953)
                (fun l2954 i2955 l2956 l2957 l2958 l2959 l2960 => k1 l2954 i2955 l2956 l2957 l2958 l2959 l2960)
                N x0 x1 (0 : Int) i2911 l2912 l2913 l2914 x11 (List.set x12 (Int.toNat (IntKind.wrap .i64 x15)) x14) i2910 x20 x21 x22 x23 x24 x25 x14 x27)
               (none))
              (none)))
            (none))
           (none))
          (br (inB (IntKind.wrap .i64 x15) (64 : Nat))
           (br (decide ((Int.toNat (IntKind.wrap .i64 x15)) < (64 : Nat)))
            (wj2
             (fun l2961 b2962 i2963 l2964 l2965 l2966 l2967 l2968 => k0 l2961 b2962 i2963 l2964 l2965 l2966 l2967 l2968)
             (fun l2969 i2970 l2971 l2972 l2973 l2974 l2975 => k1 l2969 i2970 l2971 l2972 l2973 l2974 l2975)
             N x0 x1 (0 : Int) i2911 l2912 l2913 l2914 x11 (List.set x12 (Int.toNat (IntKind.wrap .i64 x15)) x14) i2910 x20 x21 x22 x23 x24 x25 x14 x27)
            (none))
           (none)))
         (none))
        (none))
       (wj2
        (fun l2976 b2977 i2978 l2979 l2980 l2981 l2982 l2983 => k0 l2976 b2977 i2978 l2979 l2980 l2981 l2982 l2983)
        (fun l2984 i2985 l2986 l2987 l2988 l2989 l2990 => k1 l2984 i2985 l2986 l2987 l2988 l2989 l2990)
        N x0 x1 (1 : Int) i2911 l2912 l2913 l2914 x11 x12 i2910 x20 x21 x22 x23 x24 x25 x14 x27)))))
   (br (decide (x13 = (3 : Int)))
    (c4 x2 x10 x8 x9
     (fun i2991 i2992 l2993 l2994 l2995 => wj2
      (fun l2996 b2997 i2998 l2999 l3000 l3001 l3002 l3003 => k0 l2996 b2997 i2998 l2999 l3000 l3001 l3002 l3003)
      (fun l3004 i3005 l3006 l3007 l3008 l3009 l3010 => k1 l3004 i3005 l3006 l3007 l3008 l3009 l3010)
      N x0 x1 (0 : Int) i2992 l2993 l2994 l2995 x11 x12 i2991 x20 x21 x22 x23 x24 x25 x5 x27))
    (br (decide ((4 : Int) ≤ x13))
     (br (decide (x13 ≤ (15 : Int)))
      (c3 x13 x2 x3 x10 x8 x9
       (fun i3011 i3012 l3013 l3014 l3015 => br (!(decide (x13 = (14 : Int))))
        (br (decide (x13 = (15 : Int)))
         (br (!(decide (x5 = x6)))
          (wj2
           (fun l3016 b3017 i3018 l3019 l3020 l3021 l3022 l3023 => k0 l3016 b3017 i3018 l3019 l3020 l3021 l3022 l3023)
           (fun l3024 i3025 l3026 l3027 l3028 l3029 l3030 => k1 l3024 i3025 l3026 l3027 l3028 l3029 l3030)
           N x0 x1 (2 : Int) i3012 l3013 l3014 l3015 x11 x12 i3011 x20 x21 x22 x23 x24 x25 (1 : Int) x27)
          (wj2
           (fun l3031 b3032 i3033 l3034 l3035 l3036 l3037 l3038 => k0 l3031 b3032 i3033 l3034 l3035 l3036 l3037 l3038)
           (fun l3039 i3040 l3041 l3042 l3043 l3044 l3045 => k1 l3039 i3040 l3041 l3042 l3043 l3044 l3045)
           N x0 x1 (0 : Int) i3012 l3013 l3014 l3015 x11 x12 i3011 x20 x21 x22 x23 x24 x25 (1 : Int) x27))
         (br (!(decide (x5 = x6)))
          (wj2
           (fun l3046 b3047 i3048 l3049 l3050 l3051 l3052 l3053 => k0 l3046 b3047 i3048 l3049 l3050 l3051 l3052 l3053)
           (fun l3054 i3055 l3056 l3057 l3058 l3059 l3060 => k1 l3054 i3055 l3056 l3057 l3058 l3059 l3060)
           N x0 x1 (2 : Int) i3012 l3013 l3014 l3015 x11 x12 i3011 x20 x21 x22 x23 x24 x25 x5 x27)
          (wj2
           (fun l3061 b3062 i3063 l3064 l3065 l3066 l3067 l3068 => k0 l3061 b3062 i3063 l3064 l3065 l3066 l3067 l3068)
           (fun l3069 i3070 l3071 l3072 l3073 l3074 l3075 => k1 l3069 i3070 l3071 l3072 l3073 l3074 l3075)
           N x0 x1 (0 : Int) i3012 l3013 l3014 l3015 x11 x12 i3011 x20 x21 x22 x23 x24 x25 x5 x27)))
        (br (!(decide (x5 = x6)))
         (wj2
          (fun l3076 b3077 i3078 l3079 l3080 l3081 l3082 l3083 => k0 l3076 b3077 i3078 l3079 l3080 l3081 l3082 l3083)
          (fun l3084 i3085 l3086 l3087 l3088 l3089 l3090 => k1 l3084 i3085 l3086 l3087 l3088 l3089 l3090)
          N x0 x1 (2 : Int) i3012 l3013 l3014 l3015 x11 x12 i3011 x20 x21 x22 x23 x24 x25 (1 : Int) x27)
         (wj2
          (fun l3091 b3092 i3093 l3094 l3095 l3096 l3097 l3098 => k0 l3091 b3092 i3093 l3094 l3095 l3096 l3097 l3098)
          (fun l3099 i3100 l3101 l3102 l3103 l3104 l3105 => k1 l3099 i3100 l3101 l3102 l3103 l3104 l3105)
          N x0 x1 (0 : Int) i3012 l3013 l3014 l3015 x11 x12 i3011 x20 x21 x22 x23 x24 x25 (1 : Int) x27))))
      (br (decide (x13 = (16 : Int)))
       (c2 x2 x3 x4 x10 x8 x9
        (fun i3106 i3107 l3108 l3109 l3110 => br (!(!(decide (x5 = (1 : Int)))))
         (br (!(decide (x6 = x7)))
          (wj2
           (fun l3111 b3112 i3113 l3114 l3115 l3116 l3117 l3118 => k0 l3111 b3112 i3113 l3114 l3115 l3116 l3117 l3118)
           (fun l3119 i3120 l3121 l3122 l3123 l3124 l3125 => k1 l3119 i3120 l3121 l3122 l3123 l3124 l3125)
           N x0 x1 (2 : Int) i3107 l3108 l3109 l3110 x11 x12 i3106 x20 x21 x22 x23 x24 x25 x6 x27)
          (wj2
           (fun l3126 b3127 i3128 l3129 l3130 l3131 l3132 l3133 => k0 l3126 b3127 i3128 l3129 l3130 l3131 l3132 l3133)
           (fun l3134 i3135 l3136 l3137 l3138 l3139 l3140 => k1 l3134 i3135 l3136 l3137 l3138 l3139 l3140)
           N x0 x1 (0 : Int) i3107 l3108 l3109 l3110 x11 x12 i3106 x20 x21 x22 x23 x24 x25 x6 x27))
         (wj2
          (fun l3141 b3142 i3143 l3144 l3145 l3146 l3147 l3148 => k0 l3141 b3142 i3143 l3144 l3145 l3146 l3147 l3148)
          (fun l3149 i3150 l3151 l3152 l3153 l3154 l3155 => k1 l3149 i3150 l3151 l3152 l3153 l3154 l3155)
          N x0 x1 (2 : Int) i3107 l3108 l3109 l3110 x11 x12 i3106 x20 x21 x22 x23 x24 x25 x6 x27)))
       (br (decide (x13 = (17 : Int)))
        (c1 x14 x2 x10 x8 x9
         (fun i3156 i3157 l3158 l3159 l3160 => c7 x14
          (fun b3161 => br (!(!b3161))
           (br (decide (x14 < x5))
            (wj2
             (fun l3162 b3163 i3164 l3165 l3166 l3167 l3168 l3169 => k0 l3162 b3163 i3164 l3165 l3166 l3167 l3168 l3169)
             (fun l3170 i3171 l3172 l3173 l3174 l3175 l3176 => k1 l3170 i3171 l3172 l3173 l3174 l3175 l3176)
             N x0 x1 (2 : Int) i3157 l3158 l3159 l3160 x11 x12 i3156 x20 x21 x22 x23 x24 x25 x14 x27)
            (wj2
             (fun l3177 b3178 i3179 l3180 l3181 l3182 l3183 l3184 => k0 l3177 b3178 i3179 l3180 l3181 l3182 l3183 l3184)
             (fun l3185 i3186 l3187 l3188 l3189 l3190 l3191 => k1 l3185 i3186 l3187 l3188 l3189 l3190 l3191)
             N x0 x1 (0 : Int) i3157 l3158 l3159 l3160 x11 x12 i3156 x20 x21 x22 x23 x24 x25 x14 x27))
           (wj2
            (fun l3192 b3193 i3194 l3195 l3196 l3197 l3198 l3199 => k0 l3192 b3193 i3194 l3195 l3196 l3197 l3198 l3199)
            (fun l3200 i3201 l3202 l3203 l3204 l3205 l3206 => k1 l3200 i3201 l3202 l3203 l3204 l3205 l3206)
            N x0 x1 (2 : Int) i3157 l3158 l3159 l3160 x11 x12 i3156 x20 x21 x22 x23 x24 x25 x14 x27))))
        (br (decide (x13 = (18 : Int)))
         (c0 x14 x2 x10 x8 x9
          (fun i3207 i3208 l3209 l3210 l3211 => wj3
           (fun l3213 i3214 i3215 i3216 l3217 l3218 l3219 l3220 l3221 i3222 i3223 i3224 i3225 i3226 i3227 i3228 i3229 l3230 => wj2
            (fun l3231 b3232 i3233 l3234 l3235 l3236 l3237 l3238 => k0 l3231 b3232 i3233 l3234 l3235 l3236 l3237 l3238)
            (fun l3239 i3240 l3241 l3242 l3243 l3244 l3245 => k1 l3239 i3240 l3241 l3242 l3243 l3244 l3245)
            N l3213 i3214 i3215 i3216 l3217 l3218 l3219 l3220 l3221 i3222 i3223 i3224 i3225 i3226 i3227 i3228 i3229 l3230)
           N x0 x1 x5 (0 : Int) i3208 l3209 l3210 l3211 x11 x12 x13 x14 x15 x16 x17 x18 i3207 x20 x21 x22 x23 x24 x25 x14 x27))
         (c3 x13 x2 x2 x10 x8 x9
          (fun i3246 i3247 l3248 l3249 l3250 => wj2
           (fun l3251 b3252 i3253 l3254 l3255 l3256 l3257 l3258 => k0 l3251 b3252 i3253 l3254 l3255 l3256 l3257 l3258)
           (fun l3259 i3260 l3261 l3262 l3263 l3264 l3265 => k1 l3259 i3260 l3261 l3262 l3263 l3264 l3265)
           N x0 x1 (5 : Int) i3247 l3248 l3249 l3250 x11 x12 x19 x20 x21 x22 x23 x24 x25 x26 x27))))))
     (br (decide (x13 = (16 : Int)))
      (c2 x2 x3 x4 x10 x8 x9
       (fun i3266 i3267 l3268 l3269 l3270 => br (!(!(decide (x5 = (1 : Int)))))
        (br (!(decide (x6 = x7)))
         (wj2
          (fun l3271 b3272 i3273 l3274 l3275 l3276 l3277 l3278 => k0 l3271 b3272 i3273 l3274 l3275 l3276 l3277 l3278)
          (fun l3279 i3280 l3281 l3282 l3283 l3284 l3285 => k1 l3279 i3280 l3281 l3282 l3283 l3284 l3285)
          N x0 x1 (2 : Int) i3267 l3268 l3269 l3270 x11 x12 i3266 x20 x21 x22 x23 x24 x25 x6 x27)
         (wj2
          (fun l3286 b3287 i3288 l3289 l3290 l3291 l3292 l3293 => k0 l3286 b3287 i3288 l3289 l3290 l3291 l3292 l3293)
          (fun l3294 i3295 l3296 l3297 l3298 l3299 l3300 => k1 l3294 i3295 l3296 l3297 l3298 l3299 l3300)
          N x0 x1 (0 : Int) i3267 l3268 l3269 l3270 x11 x12 i3266 x20 x21 x22 x23 x24 x25 x6 x27))
        (wj2
         (fun l3301 b3302 i3303 l3304 l3305 l3306 l3307 l3308 => k0 l3301 b3302 i3303 l3304 l3305 l3306 l3307 l3308)
         (fun l3309 i3310 l3311 l3312 l3313 l3314 l3315 => k1 l3309 i3310 l3311 l3312 l3313 l3314 l3315)
         N x0 x1 (2 : Int) i3267 l3268 l3269 l3270 x11 x12 i3266 x20 x21 x22 x23 x24 x25 x6 x27)))
      (br (decide (x13 = (17 : Int)))
       (c1 x14 x2 x10 x8 x9
        (fun i3316 i3317 l3318 l3319 l3320 => c7 x14
         (fun b3321 => br (!(!b3321))
          (br (decide (x14 < x5))
           (wj2
            (fun l3322 b3323 i3324 l3325 l3326 l3327 l3328 l3329 => k0 l3322 b3323 i3324 l3325 l3326 l3327 l3328 l3329)
            (fun l3330 i3331 l3332 l3333 l3334 l3335 l3336 => k1 l3330 i3331 l3332 l3333 l3334 l3335 l3336)
            N x0 x1 (2 : Int) i3317 l3318 l3319 l3320 x11 x12 i3316 x20 x21 x22 x23 x24 x25 x14 x27)
           (wj2
            (fun l3337 b3338 i3339 l3340 l3341 l3342 l3343 l3344 => k0 l3337 b3338 i3339 l3340 l3341 l3342 l3343 l3344)
            (fun l3345 i3346 l3347 l3348 l3349 l3350 l3351 => k1 l3345 i3346 l3347 l3348 l3349 l3350 l3351)
            N x0 x1 (0 : Int) i3317 l3318 l3319 l3320 x11 x12 i3316 x20 x21 x22 x23 x24 x25 x14 x27))
          (wj2
           (fun l3352 b3353 i3354 l3355 l3356 l3357 l3358 l3359 => k0 l3352 b3353 i3354 l3355 l3356 l3357 l3358 l3359)
           (fun l3360 i3361 l3362 l3363 l3364 l3365 l3366 => k1 l3360 i3361 l3362 l3363 l3364 l3365 l3366)
           N x0 x1 (2 : Int) i3317 l3318 l3319 l3320 x11 x12 i3316 x20 x21 x22 x23 x24 x25 x14 x27))))
       (br (decide (x13 = (18 : Int)))
        (c0 x14 x2 x10 x8 x9
         (fun i3367 i3368 l3369 l3370 l3371 => wj3
          (fun l3372 i3373 i3374 i3375 l3376 l3377 l3378 l3379 l3380 i3381 i3382 i3383 i3384 i3385 i3386 i3387 i3388 l3389 => wj2
           (fun l3390 b3391 i3392 l3393 l3394 l3395 l3396 l3397 => k0 l3390 b3391 i3392 l3393 l3394 l3395 l3396 l3397)
           (fun l3398 i3399 l3400 l3401 l3402 l3403 l3404 => k1 l3398 i3399 l3400 l3401 l3402 l3403 l3404)
           N l3372 i3373 i3374 i3375 l3376 l3377 l3378 l3379 l3380 i3381 i3382 i3383 i3384 i3385 i3386 i3387 i3388 l3389)
          N x0 x1 x5 (0 : Int) i3368 l3369 l3370 l3371 x11 x12 x13 x14 x15 x16 x17 x18 i3367 x20 x21 x22 x23 x24 x25 x14 x27))
        (c3 x13 x2 x2 x10 x8 x9
         (fun i3405 i3406 l3407 l3408 l3409 => wj2
          (fun l3410 b3411 i3412 l3413 l3414 l3415 l3416 l3417 => k0 l3410 b3411 i3412 l3413 l3414 l3415 l3416 l3417)
          (fun l3418 i3419 l3420 l3421 l3422 l3423 l3424 => k1 l3418 i3419 l3420 l3421 l3422 l3423 l3424)
          N x0 x1 (5 : Int) i3406 l3407 l3408 l3409 x11 x12 x19 x20 x21 x22 x23 x24 x25 x26 x27))))))))
noncomputable def law2_Build_4694_lj2_T0 (N : Nat) (c0 : term_Arena_Cut_99d8_Ty) (c1 : term_Arena_Ext_99d8_Ty) (c2 : term_Arena_Ite_12d2_Ty) (c3 : term_Arena_Two_12d2_Ty) (c4 : term_Arena_Not_43b4_Ty) (c5 : term_Arena_Var_99d8_Ty) (c6 : term_Arena_Width_43b4_Ty) (c7 : ref1_May_Ty) (c8 : term_Arena_Const_2c81_Ty) (wj3 : law2_Build_4694_lj3_Ty) {R : Type} (k0 : (List ((Int) × ((Int) × ((Int) × ((Int) × ((Int) × (Int))))))) → (Bool) → (Int) → (List (((Int) × ((Int) × ((Int) × ((Int) × ((Int) × (Int)))))) × (Int))) → (List ((Int) × (Int))) → (List ((Int) × ((Int) × ((Int) × ((Int) × ((Int) × (Int))))))) → (List ((Int) × (((Int) × ((Int) × ((Int) × ((Int) × ((Int) × (Int)))))) × ((Int) × ((Int) × ((Int) × (Int))))))) → (List (Int)) → Option R) (k1 : (List ((Int) × ((Int) × ((Int) × ((Int) × ((Int) × (Int))))))) → (Int) → (List (((Int) × ((Int) × ((Int) × ((Int) × ((Int) × (Int)))))) × (Int))) → (List ((Int) × (Int))) → (List ((Int) × ((Int) × ((Int) × ((Int) × ((Int) × (Int))))))) → (List ((Int) × (((Int) × ((Int) × ((Int) × ((Int) × ((Int) × (Int)))))) × ((Int) × ((Int) × ((Int) × (Int))))))) → (List (Int)) → Option R) (x0 : List ((Int) × ((Int) × ((Int) × ((Int) × ((Int) × (Int))))))) (x1 : Int) (x2 : Int) (x3 : Int) (x4 : List (((Int) × ((Int) × ((Int) × ((Int) × ((Int) × (Int)))))) × (Int))) (x5 : List ((Int) × (Int))) (x6 : List ((Int) × ((Int) × ((Int) × ((Int) × ((Int) × (Int))))))) (x7 : List ((Int) × (((Int) × ((Int) × ((Int) × ((Int) × ((Int) × (Int)))))) × ((Int) × ((Int) × ((Int) × (Int))))))) (x8 : List (Int)) (x9 : Int) (x10 : Int) (x11 : Int) (x12 : Int) (x13 : Int) (x14 : Int) (x15 : Int) (x16 : Int) (x17 : List (Int)) : Option R :=
  br (!(decide (x3 = x2)))
  (k0 x0 false x1 x4 x5 x6 x7 x8)
  (br (decide (x3 = (0 : Int)))
   (c6 x9 x6 x4 x5
    (fun i2876 l2877 l2878 l2879 => br (decide (x16 = x16))
     (br (!(decide (i2876 = x16)))
      (k0 x0 false x1 l2878 l2879 l2877 x7 x8)
      (br (((fits (0 : Nat) (List.length x7) x7) && (decide ((((List.length x7) + (1 : Nat)) * (64 : Nat)) ≤ (70368744177664 : Nat)))) && true)
       (k1 x0 x1 l2878 l2879 l2877 ((sub x7 (0 : Nat) (List.length x7)) ++ ((x9 , ((x10 , (x11 , (x12 , (x13 , (x14 , x15))))) , (x16 , ((List.getD x17 (0 : Nat) (0 : Int)) , ((List.getD x17 (1 : Nat) (0 : Int)) , (List.getD x17 (2 : Nat) (0 : Int))))))) :: ([] : List (((Sh.int IntKind.i64).pair
    (((Sh.int IntKind.i64).pair
          ((Sh.int IntKind.i64).pair
            ((Sh.int IntKind.u16).pair ((Sh.int IntKind.u8).pair ((Sh.int IntKind.u8).pair (Sh.int IntKind.u8)))))).pair
      ((Sh.int IntKind.i64).pair (nest (Sh.int IntKind.i64) 3)))).T)))) x8)
       (none)))
     (none)))
   (k1 x0 x1 x4 x5 x6 x7 x8))
noncomputable def law2_Build_4694_lj3_T0 (N : Nat) (c0 : term_Arena_Cut_99d8_Ty) (c1 : term_Arena_Ext_99d8_Ty) (c2 : term_Arena_Ite_12d2_Ty) (c3 : term_Arena_Two_12d2_Ty) (c4 : term_Arena_Not_43b4_Ty) (c5 : term_Arena_Var_99d8_Ty) (c6 : term_Arena_Width_43b4_Ty) (c7 : ref1_May_Ty) (c8 : term_Arena_Const_2c81_Ty) {R : Type} (k0 : (List ((Int) × ((Int) × ((Int) × ((Int) × ((Int) × (Int))))))) → (Int) → (Int) → (Int) → (List (((Int) × ((Int) × ((Int) × ((Int) × ((Int) × (Int)))))) × (Int))) → (List ((Int) × (Int))) → (List ((Int) × ((Int) × ((Int) × ((Int) × ((Int) × (Int))))))) → (List ((Int) × (((Int) × ((Int) × ((Int) × ((Int) × ((Int) × (Int)))))) × ((Int) × ((Int) × ((Int) × (Int))))))) → (List (Int)) → (Int) → (Int) → (Int) → (Int) → (Int) → (Int) → (Int) → (Int) → (List (Int)) → Option R) (x0 : List ((Int) × ((Int) × ((Int) × ((Int) × ((Int) × (Int))))))) (x1 : Int) (x2 : Int) (x3 : Int) (x4 : Int) (x5 : List (((Int) × ((Int) × ((Int) × ((Int) × ((Int) × (Int)))))) × (Int))) (x6 : List ((Int) × (Int))) (x7 : List ((Int) × ((Int) × ((Int) × ((Int) × ((Int) × (Int))))))) (x8 : List ((Int) × (((Int) × ((Int) × ((Int) × ((Int) × ((Int) × (Int)))))) × ((Int) × ((Int) × ((Int) × (Int))))))) (x9 : List (Int)) (x10 : Int) (x11 : Int) (x12 : Int) (x13 : Int) (x14 : Int) (x15 : Int) (x16 : Int) (x17 : Int) (x18 : Int) (x19 : Int) (x20 : Int) (x21 : Int) (x22 : Int) (x23 : Int) (x24 : List (Int)) : Option R :=
  c7 x11
  (fun b3212 => br (!(!b3212))
   (br (decide (x2 < x11))
    (k0 x0 x1 (2 : Int) x4 x5 x6 x7 x8 x9 x16 x17 x18 x19 x20 x21 x22 x23 x24)
    (k0 x0 x1 x3 x4 x5 x6 x7 x8 x9 x16 x17 x18 x19 x20 x21 x22 x23 x24))
   (k0 x0 x1 (2 : Int) x4 x5 x6 x7 x8 x9 x16 x17 x18 x19 x20 x21 x22 x23 x24))
noncomputable def law2_Build_4694_lj3 (N : Nat) {R : Type} (k0 : (List ((Int) × ((Int) × ((Int) × ((Int) × ((Int) × (Int))))))) → (Int) → (Int) → (Int) → (List (((Int) × ((Int) × ((Int) × ((Int) × ((Int) × (Int)))))) × (Int))) → (List ((Int) × (Int))) → (List ((Int) × ((Int) × ((Int) × ((Int) × ((Int) × (Int))))))) → (List ((Int) × (((Int) × ((Int) × ((Int) × ((Int) × ((Int) × (Int)))))) × ((Int) × ((Int) × ((Int) × (Int))))))) → (List (Int)) → (Int) → (Int) → (Int) → (Int) → (Int) → (Int) → (Int) → (Int) → (List (Int)) → Option R) (_ : Nat) (x0 : List ((Int) × ((Int) × ((Int) × ((Int) × ((Int) × (Int))))))) (x1 : Int) (x2 : Int) (x3 : Int) (x4 : Int) (x5 : List (((Int) × ((Int) × ((Int) × ((Int) × ((Int) × (Int)))))) × (Int))) (x6 : List ((Int) × (Int))) (x7 : List ((Int) × ((Int) × ((Int) × ((Int) × ((Int) × (Int))))))) (x8 : List ((Int) × (((Int) × ((Int) × ((Int) × ((Int) × ((Int) × (Int)))))) × ((Int) × ((Int) × ((Int) × (Int))))))) (x9 : List (Int)) (x10 : Int) (x11 : Int) (x12 : Int) (x13 : Int) (x14 : Int) (x15 : Int) (x16 : Int) (x17 : Int) (x18 : Int) (x19 : Int) (x20 : Int) (x21 : Int) (x22 : Int) (x23 : Int) (x24 : List (Int)) : Option R := law2_Build_4694_lj3_T0 N (@term_Arena_Cut_99d8 N) (@term_Arena_Ext_99d8 N) (@term_Arena_Ite_12d2 N) (@term_Arena_Two_12d2 N) (@term_Arena_Not_43b4 N) (@term_Arena_Var_99d8 N) (@term_Arena_Width_43b4 N) (@ref1_May N) (@term_Arena_Const_2c81 N) k0 x0 x1 x2 x3 x4 x5 x6 x7 x8 x9 x10 x11 x12 x13 x14 x15 x16 x17 x18 x19 x20 x21 x22 x23 x24
noncomputable def law2_Build_4694_lj2 (N : Nat) {R : Type} (k0 : (List ((Int) × ((Int) × ((Int) × ((Int) × ((Int) × (Int))))))) → (Bool) → (Int) → (List (((Int) × ((Int) × ((Int) × ((Int) × ((Int) × (Int)))))) × (Int))) → (List ((Int) × (Int))) → (List ((Int) × ((Int) × ((Int) × ((Int) × ((Int) × (Int))))))) → (List ((Int) × (((Int) × ((Int) × ((Int) × ((Int) × ((Int) × (Int)))))) × ((Int) × ((Int) × ((Int) × (Int))))))) → (List (Int)) → Option R) (k1 : (List ((Int) × ((Int) × ((Int) × ((Int) × ((Int) × (Int))))))) → (Int) → (List (((Int) × ((Int) × ((Int) × ((Int) × ((Int) × (Int)))))) × (Int))) → (List ((Int) × (Int))) → (List ((Int) × ((Int) × ((Int) × ((Int) × ((Int) × (Int))))))) → (List ((Int) × (((Int) × ((Int) × ((Int) × ((Int) × ((Int) × (Int)))))) × ((Int) × ((Int) × ((Int) × (Int))))))) → (List (Int)) → Option R) (_ : Nat) (x0 : List ((Int) × ((Int) × ((Int) × ((Int) × ((Int) × (Int))))))) (x1 : Int) (x2 : Int) (x3 : Int) (x4 : List (((Int) × ((Int) × ((Int) × ((Int) × ((Int) × (Int)))))) × (Int))) (x5 : List ((Int) × (Int))) (x6 : List ((Int) × ((Int) × ((Int) × ((Int) × ((Int) × (Int))))))) (x7 : List ((Int) × (((Int) × ((Int) × ((Int) × ((Int) × ((Int) × (Int)))))) × ((Int) × ((Int) × ((Int) × (Int))))))) (x8 : List (Int)) (x9 : Int) (x10 : Int) (x11 : Int) (x12 : Int) (x13 : Int) (x14 : Int) (x15 : Int) (x16 : Int) (x17 : List (Int)) : Option R := law2_Build_4694_lj2_T0 N (@term_Arena_Cut_99d8 N) (@term_Arena_Ext_99d8 N) (@term_Arena_Ite_12d2 N) (@term_Arena_Two_12d2 N) (@term_Arena_Not_43b4 N) (@term_Arena_Var_99d8 N) (@term_Arena_Width_43b4 N) (@ref1_May N) (@term_Arena_Const_2c81 N) (@law2_Build_4694_lj3 N) k0 k1 x0 x1 x2 x3 x4 x5 x6 x7 x8 x9 x10 x11 x12 x13 x14 x15 x16 x17
noncomputable def law2_Build_4694_lj1 (N : Nat) {R : Type} (k0 : (List ((Int) × ((Int) × ((Int) × ((Int) × ((Int) × (Int))))))) → (Bool) → (Int) → (List (((Int) × ((Int) × ((Int) × ((Int) × ((Int) × (Int)))))) × (Int))) → (List ((Int) × (Int))) → (List ((Int) × ((Int) × ((Int) × ((Int) × ((Int) × (Int))))))) → (List ((Int) × (((Int) × ((Int) × ((Int) × ((Int) × ((Int) × (Int)))))) × ((Int) × ((Int) × ((Int) × (Int))))))) → (List (Int)) → Option R) (k1 : (List ((Int) × ((Int) × ((Int) × ((Int) × ((Int) × (Int))))))) → (Int) → (List (((Int) × ((Int) × ((Int) × ((Int) × ((Int) × (Int)))))) × (Int))) → (List ((Int) × (Int))) → (List ((Int) × ((Int) × ((Int) × ((Int) × ((Int) × (Int))))))) → (List ((Int) × (((Int) × ((Int) × ((Int) × ((Int) × ((Int) × (Int)))))) × ((Int) × ((Int) × ((Int) × (Int))))))) → (List (Int)) → Option R) (_ : Nat) (x0 : List ((Int) × ((Int) × ((Int) × ((Int) × ((Int) × (Int))))))) (x1 : Int) (x2 : Int) (x3 : Int) (x4 : Int) (x5 : Int) (x6 : Int) (x7 : Int) (x8 : List (((Int) × ((Int) × ((Int) × ((Int) × ((Int) × (Int)))))) × (Int))) (x9 : List ((Int) × (Int))) (x10 : List ((Int) × ((Int) × ((Int) × ((Int) × ((Int) × (Int))))))) (x11 : List ((Int) × (((Int) × ((Int) × ((Int) × ((Int) × ((Int) × (Int)))))) × ((Int) × ((Int) × ((Int) × (Int))))))) (x12 : List (Int)) (x13 : Int) (x14 : Int) (x15 : Int) (x16 : Int) (x17 : Int) (x18 : Int) (x19 : Int) (x20 : Int) (x21 : Int) (x22 : Int) (x23 : Int) (x24 : Int) (x25 : Int) (x26 : Int) (x27 : List (Int)) : Option R := law2_Build_4694_lj1_T0 N (@term_Arena_Cut_99d8 N) (@term_Arena_Ext_99d8 N) (@term_Arena_Ite_12d2 N) (@term_Arena_Two_12d2 N) (@term_Arena_Not_43b4 N) (@term_Arena_Var_99d8 N) (@term_Arena_Width_43b4 N) (@ref1_May N) (@term_Arena_Const_2c81 N) (@law2_Build_4694_lj2 N) (@law2_Build_4694_lj3 N) k0 k1 x0 x1 x2 x3 x4 x5 x6 x7 x8 x9 x10 x11 x12 x13 x14 x15 x16 x17 x18 x19 x20 x21 x22 x23 x24 x25 x26 x27
noncomputable def law2_Build_4694_lj0 (N : Nat) {R : Type} (k0 : (List ((Int) × ((Int) × ((Int) × ((Int) × ((Int) × (Int))))))) → (Int) → (List (((Int) × ((Int) × ((Int) × ((Int) × ((Int) × (Int)))))) × (Int))) → (List ((Int) × (Int))) → (List ((Int) × ((Int) × ((Int) × ((Int) × ((Int) × (Int))))))) → (List ((Int) × (((Int) × ((Int) × ((Int) × ((Int) × ((Int) × (Int)))))) × ((Int) × ((Int) × ((Int) × (Int))))))) → (List (Int)) → Option R) (k1 : (List ((Int) × ((Int) × ((Int) × ((Int) × ((Int) × (Int))))))) → (Bool) → (Int) → (List (((Int) × ((Int) × ((Int) × ((Int) × ((Int) × (Int)))))) × (Int))) → (List ((Int) × (Int))) → (List ((Int) × ((Int) × ((Int) × ((Int) × ((Int) × (Int))))))) → (List ((Int) × (((Int) × ((Int) × ((Int) × ((Int) × ((Int) × (Int)))))) × ((Int) × ((Int) × ((Int) × (Int))))))) → (List (Int)) → Option R) (k2 : (List ((Int) × ((Int) × ((Int) × ((Int) × ((Int) × (Int))))))) → (Int) → (List (((Int) × ((Int) × ((Int) × ((Int) × ((Int) × (Int)))))) × (Int))) → (List ((Int) × (Int))) → (List ((Int) × ((Int) × ((Int) × ((Int) × ((Int) × (Int))))))) → (List ((Int) × (((Int) × ((Int) × ((Int) × ((Int) × ((Int) × (Int)))))) × ((Int) × ((Int) × ((Int) × (Int))))))) → (List (Int)) → Option R) (_ : Nat) (x0 : List ((Int) × ((Int) × ((Int) × ((Int) × ((Int) × (Int))))))) (x1 : Int) (x2 : List (((Int) × ((Int) × ((Int) × ((Int) × ((Int) × (Int)))))) × (Int))) (x3 : List ((Int) × (Int))) (x4 : List ((Int) × ((Int) × ((Int) × ((Int) × ((Int) × (Int))))))) (x5 : List ((Int) × (((Int) × ((Int) × ((Int) × ((Int) × ((Int) × (Int)))))) × ((Int) × ((Int) × ((Int) × (Int))))))) (x6 : List (Int)) (x7 : Int) (x8 : Int) (x9 : Int) (x10 : Int) (x11 : Int) (x12 : Int) (x13 : Int) (x14 : Int) (x15 : Int) (x16 : Int) (x17 : Int) (x18 : Int) (x19 : Int) (x20 : Int) (x21 : List (Int)) : Option R := law2_Build_4694_lj0_T0 N (@term_Arena_Cut_99d8 N) (@term_Arena_Ext_99d8 N) (@term_Arena_Ite_12d2 N) (@term_Arena_Two_12d2 N) (@term_Arena_Not_43b4 N) (@term_Arena_Var_99d8 N) (@term_Arena_Width_43b4 N) (@ref1_May N) (@term_Arena_Const_2c81 N) (@law2_Build_4694_lj1 N) (@law2_Build_4694_lj2 N) (@law2_Build_4694_lj3 N) k0 k1 k2 x0 x1 x2 x3 x4 x5 x6 x7 x8 x9 x10 x11 x12 x13 x14 x15 x16 x17 x18 x19 x20 x21
noncomputable def law2_Build_4694_l0 (N : Nat) {R : Type} (k0 : (Bool) → (List (((Int) × ((Int) × ((Int) × ((Int) × ((Int) × (Int)))))) × (Int))) → (List ((Int) × (Int))) → (List ((Int) × ((Int) × ((Int) × ((Int) × ((Int) × (Int))))))) → (List ((Int) × (((Int) × ((Int) × ((Int) × ((Int) × ((Int) × (Int)))))) × ((Int) × ((Int) × ((Int) × (Int))))))) → Option R) (k1 : (List (((Int) × ((Int) × ((Int) × ((Int) × ((Int) × (Int)))))) × (Int))) → (List ((Int) × (Int))) → (List ((Int) × ((Int) × ((Int) × ((Int) × ((Int) × (Int))))))) → (List ((Int) × (((Int) × ((Int) × ((Int) × ((Int) × ((Int) × (Int)))))) × ((Int) × ((Int) × ((Int) × (Int))))))) → Option R) : Nat → (List ((Int) × ((Int) × ((Int) × ((Int) × ((Int) × (Int))))))) → (Int) → (List (((Int) × ((Int) × ((Int) × ((Int) × ((Int) × (Int)))))) × (Int))) → (List ((Int) × (Int))) → (List ((Int) × ((Int) × ((Int) × ((Int) × ((Int) × (Int))))))) → (List ((Int) × (((Int) × ((Int) × ((Int) × ((Int) × ((Int) × (Int)))))) × ((Int) × ((Int) × ((Int) × (Int))))))) → (List (Int)) → Option R
  | 0, _, _, _, _, _, _, _ => none
  | n + 1, x0, x1, x2, x3, x4, x5, x6 => law2_Build_4694_l0_T0 N (@term_Arena_Cut_99d8 N) (@term_Arena_Ext_99d8 N) (@term_Arena_Ite_12d2 N) (@term_Arena_Two_12d2 N) (@term_Arena_Not_43b4 N) (@term_Arena_Var_99d8 N) (@term_Arena_Width_43b4 N) (@ref1_May N) (@term_Arena_Const_2c81 N) (@law2_Build_4694_lj0 N) (@law2_Build_4694_lj1 N) (@law2_Build_4694_lj2 N) (@law2_Build_4694_lj3 N) (fun x0 x1 x2 x3 x4 x5 x6 => law2_Build_4694_l0 N k0 k1 n x0 x1 x2 x3 x4 x5 x6) k0 k1 x0 x1 x2 x3 x4 x5 x6
noncomputable def law2_Build_4694_T (N : Nat) (c0 : term_Arena_Cut_99d8_Ty) (c1 : term_Arena_Ext_99d8_Ty) (c2 : term_Arena_Ite_12d2_Ty) (c3 : term_Arena_Two_12d2_Ty) (c4 : term_Arena_Not_43b4_Ty) (c5 : term_Arena_Var_99d8_Ty) (c6 : term_Arena_Width_43b4_Ty) (c7 : ref1_May_Ty) (c8 : term_Arena_Const_2c81_Ty) (w0 : law2_Build_4694_l0_Ty) (wj0 : law2_Build_4694_lj0_Ty) (wj1 : law2_Build_4694_lj1_Ty) (wj2 : law2_Build_4694_lj2_Ty) (wj3 : law2_Build_4694_lj3_Ty) {R : Type} (x0 : List ((Int) × ((Int) × ((Int) × ((Int) × ((Int) × (Int))))))) (x1 : List ((Int) × ((Int) × ((Int) × ((Int) × ((Int) × (Int))))))) (x2 : List (((Int) × ((Int) × ((Int) × ((Int) × ((Int) × (Int)))))) × (Int))) (x3 : List ((Int) × (Int))) (k0 : (Bool) → (List (((Int) × ((Int) × ((Int) × ((Int) × ((Int) × (Int)))))) × (Int))) → (List ((Int) × (Int))) → (List ((Int) × ((Int) × ((Int) × ((Int) × ((Int) × (Int))))))) → (List ((Int) × (((Int) × ((Int) × ((Int) × ((Int) × ((Int) × (Int)))))) × ((Int) × ((Int) × ((Int) × (Int))))))) → Option R) : Option R :=
  w0
  (fun b3559 l3560 l3561 l3562 l3563 => k0 b3559 l3560 l3561 l3562 ([] : List (((Sh.int IntKind.i64).pair
    (((Sh.int IntKind.i64).pair
          ((Sh.int IntKind.i64).pair
            ((Sh.int IntKind.u16).pair ((Sh.int IntKind.u8).pair ((Sh.int IntKind.u8).pair (Sh.int IntKind.u8)))))).pair
      ((Sh.int IntKind.i64).pair ((Sh.int IntKind.i64).pair ((Sh.int IntKind.i64).pair (Sh.int IntKind.i64)))))).T)))
  (fun l3564 l3565 l3566 l3567 => k0 true l3564 l3565 l3566 l3567)
  N x0 (0 : Int) x2 x3 x1 ([] : List (((Sh.int IntKind.i64).pair
    (((Sh.int IntKind.i64).pair
          ((Sh.int IntKind.i64).pair
            ((Sh.int IntKind.u16).pair ((Sh.int IntKind.u8).pair ((Sh.int IntKind.u8).pair (Sh.int IntKind.u8)))))).pair
      ((Sh.int IntKind.i64).pair ((Sh.int IntKind.i64).pair ((Sh.int IntKind.i64).pair (Sh.int IntKind.i64)))))).T)) (List.replicate (64 : Nat) (0 : Int))
noncomputable def law2_Build_4694 (N : Nat) {R : Type} (x0 : List ((Int) × ((Int) × ((Int) × ((Int) × ((Int) × (Int))))))) (x1 : List ((Int) × ((Int) × ((Int) × ((Int) × ((Int) × (Int))))))) (x2 : List (((Int) × ((Int) × ((Int) × ((Int) × ((Int) × (Int)))))) × (Int))) (x3 : List ((Int) × (Int))) (k0 : (Bool) → (List (((Int) × ((Int) × ((Int) × ((Int) × ((Int) × (Int)))))) × (Int))) → (List ((Int) × (Int))) → (List ((Int) × ((Int) × ((Int) × ((Int) × ((Int) × (Int))))))) → (List ((Int) × (((Int) × ((Int) × ((Int) × ((Int) × ((Int) × (Int)))))) × ((Int) × ((Int) × ((Int) × (Int))))))) → Option R) : Option R := law2_Build_4694_T N (@term_Arena_Cut_99d8 N) (@term_Arena_Ext_99d8 N) (@term_Arena_Ite_12d2 N) (@term_Arena_Two_12d2 N) (@term_Arena_Not_43b4 N) (@term_Arena_Var_99d8 N) (@term_Arena_Width_43b4 N) (@ref1_May N) (@term_Arena_Const_2c81 N) (@law2_Build_4694_l0 N) (@law2_Build_4694_lj0 N) (@law2_Build_4694_lj1 N) (@law2_Build_4694_lj2 N) (@law2_Build_4694_lj3 N) x0 x1 x2 x3 k0
abbrev law2_TermVars_l0_Ty : Type 1 := {R : Type} → ((Bool) → Option R) → (Option R) → Nat → (List (Int)) → (Int) → (Int) → (List ((Int) × ((Int) × ((Int) × ((Int) × ((Int) × (Int))))))) → (List (((Int) × ((Int) × ((Int) × ((Int) × ((Int) × (Int)))))) × (Int))) → (List ((Int) × (Int))) → (List ((Int) × (((Int) × ((Int) × ((Int) × ((Int) × ((Int) × (Int)))))) × ((Int) × ((Int) × ((Int) × (Int))))))) → Option R
abbrev law2_TermVars_l1_Ty : Type 1 := {R : Type} → ((List (Int)) → (Int) → (Bool) → (Int) → (List ((Int) × ((Int) × ((Int) × ((Int) × ((Int) × (Int))))))) → (List (((Int) × ((Int) × ((Int) × ((Int) × ((Int) × (Int)))))) × (Int))) → (List ((Int) × (Int))) → (List ((Int) × (((Int) × ((Int) × ((Int) × ((Int) × ((Int) × (Int)))))) × ((Int) × ((Int) × ((Int) × (Int))))))) → (List (Bool)) → Option R) → ((List (Int)) → (Int) → (Int) → (List ((Int) × ((Int) × ((Int) × ((Int) × ((Int) × (Int))))))) → (List (((Int) × ((Int) × ((Int) × ((Int) × ((Int) × (Int)))))) × (Int))) → (List ((Int) × (Int))) → (List ((Int) × (((Int) × ((Int) × ((Int) × ((Int) × ((Int) × (Int)))))) × ((Int) × ((Int) × ((Int) × (Int))))))) → (List (Bool)) → Option R) → Nat → (List (Int)) → (Int) → (Int) → (Int) → (List ((Int) × ((Int) × ((Int) × ((Int) × ((Int) × (Int))))))) → (List (((Int) × ((Int) × ((Int) × ((Int) × ((Int) × (Int)))))) × (Int))) → (List ((Int) × (Int))) → (List ((Int) × (((Int) × ((Int) × ((Int) × ((Int) × ((Int) × (Int)))))) × ((Int) × ((Int) × ((Int) × (Int))))))) → (List (Int)) → (List (Bool)) → Option R
abbrev law2_TermVars_l2_Ty : Type 1 := {R : Type} → ((List (Int)) → (Int) → (Int) → (List ((Int) × ((Int) × ((Int) × ((Int) × ((Int) × (Int))))))) → (List (((Int) × ((Int) × ((Int) × ((Int) × ((Int) × (Int)))))) × (Int))) → (List ((Int) × (Int))) → (List ((Int) × (((Int) × ((Int) × ((Int) × ((Int) × ((Int) × (Int)))))) × ((Int) × ((Int) × ((Int) × (Int))))))) → (List (Int)) → (List (Int)) → Option R) → Nat → (List (Int)) → (Int) → (Int) → (Int) → (List ((Int) × ((Int) × ((Int) × ((Int) × ((Int) × (Int))))))) → (List (((Int) × ((Int) × ((Int) × ((Int) × ((Int) × (Int)))))) × (Int))) → (List ((Int) × (Int))) → (List ((Int) × (((Int) × ((Int) × ((Int) × ((Int) × ((Int) × (Int)))))) × ((Int) × ((Int) × ((Int) × (Int))))))) → (List (Bool)) → (List (Int)) → (List (Int)) → Option R
abbrev law2_TermVars_Ty : Type 1 := {R : Type} → (List ((Int) × ((Int) × ((Int) × ((Int) × ((Int) × (Int))))))) → (List (Int)) → (Int) → ((Bool) → Option R) → Option R
noncomputable def law2_TermVars_l0_T0 (N : Nat) (c0 : term_Arena_Eval_0112_Ty) (c1 : term_Arena_Vars_43b4_Ty) (c2 : law2_Build_4694_Ty) (c3 : term_New_Ty) (c4 : law2_awake_Ty) (w1 : law2_TermVars_l1_Ty) (w2 : law2_TermVars_l2_Ty) {R : Type} (nx : (List (Int)) → (Int) → (Int) → (List ((Int) × ((Int) × ((Int) × ((Int) × ((Int) × (Int))))))) → (List (((Int) × ((Int) × ((Int) × ((Int) × ((Int) × (Int)))))) × (Int))) → (List ((Int) × (Int))) → (List ((Int) × (((Int) × ((Int) × ((Int) × ((Int) × ((Int) × (Int)))))) × ((Int) × ((Int) × ((Int) × (Int))))))) → Option R) (k0 : (Bool) → Option R) (k1 : Option R) (x0 : List (Int)) (x1 : Int) (x2 : Int) (x3 : List ((Int) × ((Int) × ((Int) × ((Int) × ((Int) × (Int))))))) (x4 : List (((Int) × ((Int) × ((Int) × ((Int) × ((Int) × (Int)))))) × (Int))) (x5 : List ((Int) × (Int))) (x6 : List ((Int) × (((Int) × ((Int) × ((Int) × ((Int) × ((Int) × (Int)))))) × ((Int) × ((Int) × ((Int) × (Int))))))) : Option R :=
  br (decide (x2 < (Nat.cast (List.length x6) : Int)))
  (br (inB x2 (List.length x6))
   (br (decide ((Int.toNat x2) < (List.length x6)))
    (c1 (List.getD x6 (Int.toNat x2) ((0 : Int) , (((0 : Int) , ((0 : Int) , ((0 : Int) , ((0 : Int) , ((0 : Int) , (0 : Int)))))) , ((0 : Int) , ((0 : Int) , ((0 : Int) , (0 : Int))))))).1 x3 x4 x5
     (fun l3573 l3574 l3575 l3576 => w1
      (fun l3577 i3578 b3579 i3580 l3581 l3582 l3583 l3584 l3585 => k0 b3579)
      (fun l3586 i3587 i3588 l3589 l3590 l3591 l3592 l3593 => w2
       (fun l3594 i3595 i3596 l3597 l3598 l3599 l3600 l3601 l3602 => br (inB i3596 (List.length l3600))
        (br (decide ((Int.toNat i3596) < (List.length l3600)))
         (br (inB i3596 (List.length l3600))
          (br (decide ((Int.toNat i3596) < (List.length l3600)))
           (c0 (List.getD l3600 (Int.toNat i3596) ((0 : Int) , (((0 : Int) , ((0 : Int) , ((0 : Int) , ((0 : Int) , ((0 : Int) , (0 : Int)))))) , ((0 : Int) , ((0 : Int) , ((0 : Int) , (0 : Int))))))).1 l3597 l3598 l3599 l3601
            (fun i3603 l3604 l3605 l3606 l3607 => br (decide (i3596 = i3596))
             (br (inB i3596 (List.length l3600))
              (br (decide (i3596 = i3596))
               (br (decide (i3596 = i3596))
                (br (decide ((Int.toNat i3596) < (List.length l3600)))
                 (br (decide ((List.getD l3600 (Int.toNat i3596) ((0 : Int) , (((0 : Int) , ((0 : Int) , ((0 : Int) , ((0 : Int) , ((0 : Int) , (0 : Int)))))) , ((0 : Int) , ((0 : Int) , ((0 : Int) , (0 : Int))))))).1 = (List.getD l3600 (Int.toNat i3596) ((0 : Int) , (((0 : Int) , ((0 : Int) , ((0 : Int) , ((0 : Int) , ((0 : Int) , (0 : Int)))))) , ((0 : Int) , ((0 : Int) , ((0 : Int) , (0 : Int))))))).1))
                  (c0 (List.getD l3600 (Int.toNat i3596) ((0 : Int) , (((0 : Int) , ((0 : Int) , ((0 : Int) , ((0 : Int) , ((0 : Int) , (0 : Int)))))) , ((0 : Int) , ((0 : Int) , ((0 : Int) , (0 : Int))))))).1 l3604 l3605 l3606 l3602
                   (fun i3608 l3609 l3610 l3611 l3612 => br (!(decide (i3603 = i3608)))
                    (k0 false)
                    (nx l3594 i3595 (IntKind.wrap .i64 (i3596 + (1 : Int))) l3609 l3610 l3611 l3600)))
                  (none))
                 (none))
                (none))
               (none))
              (none))
             (none)))
           (none))
          (none))
         (none))
        (none))
       N l3586 i3587 i3588 (0 : Int) l3589 l3590 l3591 l3592 l3593 (List.replicate (64 : Nat) (0 : Int)) (List.replicate (64 : Nat) (0 : Int)))
      N x0 x1 x2 (0 : Int) l3573 l3574 l3575 x6 l3576 (List.replicate (64 : Nat) false)))
    (none))
   (none))
  (k1)
noncomputable def law2_TermVars_l1_T0 (N : Nat) (c0 : term_Arena_Eval_0112_Ty) (c1 : term_Arena_Vars_43b4_Ty) (c2 : law2_Build_4694_Ty) (c3 : term_New_Ty) (c4 : law2_awake_Ty) (w2 : law2_TermVars_l2_Ty) {R : Type} (nx : (List (Int)) → (Int) → (Int) → (Int) → (List ((Int) × ((Int) × ((Int) × ((Int) × ((Int) × (Int))))))) → (List (((Int) × ((Int) × ((Int) × ((Int) × ((Int) × (Int)))))) × (Int))) → (List ((Int) × (Int))) → (List ((Int) × (((Int) × ((Int) × ((Int) × ((Int) × ((Int) × (Int)))))) × ((Int) × ((Int) × ((Int) × (Int))))))) → (List (Int)) → (List (Bool)) → Option R) (k0 : (List (Int)) → (Int) → (Bool) → (Int) → (List ((Int) × ((Int) × ((Int) × ((Int) × ((Int) × (Int))))))) → (List (((Int) × ((Int) × ((Int) × ((Int) × ((Int) × (Int)))))) × (Int))) → (List ((Int) × (Int))) → (List ((Int) × (((Int) × ((Int) × ((Int) × ((Int) × ((Int) × (Int)))))) × ((Int) × ((Int) × ((Int) × (Int))))))) → (List (Bool)) → Option R) (k1 : (List (Int)) → (Int) → (Int) → (List ((Int) × ((Int) × ((Int) × ((Int) × ((Int) × (Int))))))) → (List (((Int) × ((Int) × ((Int) × ((Int) × ((Int) × (Int)))))) × (Int))) → (List ((Int) × (Int))) → (List ((Int) × (((Int) × ((Int) × ((Int) × ((Int) × ((Int) × (Int)))))) × ((Int) × ((Int) × ((Int) × (Int))))))) → (List (Bool)) → Option R) (x0 : List (Int)) (x1 : Int) (x2 : Int) (x3 : Int) (x4 : List ((Int) × ((Int) × ((Int) × ((Int) × ((Int) × (Int))))))) (x5 : List (((Int) × ((Int) × ((Int) × ((Int) × ((Int) × (Int)))))) × (Int))) (x6 : List ((Int) × (Int))) (x7 : List ((Int) × (((Int) × ((Int) × ((Int) × ((Int) × ((Int) × (Int)))))) × ((Int) × ((Int) × ((Int) × (Int))))))) (x8 : List (Int)) (x9 : List (Bool)) : Option R :=
  br (decide (x3 < (Nat.cast (List.length x8) : Int)))
  (br (inB x3 (List.length x8))
   (br (decide ((Int.toNat x3) < (List.length x8)))
    (br (!(decide ((List.getD x8 (Int.toNat x3) (0 : Int)) < (0 : Int))))
     (br (inB x3 (List.length x8))
      (br (decide ((Int.toNat x3) < (List.length x8)))
       (br (!(decide ((64 : Int) ≤ (List.getD x8 (Int.toNat x3) (0 : Int)))))
        (br (decide ((0 : Int) < x3))
         (br (inB x3 (List.length x8))
          (br (decide ((Int.toNat x3) < (List.length x8)))
           (br (inB (IntKind.wrap .i64 (x3 - (1 : Int))) (List.length x8))
            (br (decide ((Int.toNat (IntKind.wrap .i64 (x3 - (1 : Int)))) < (List.length x8)))
             (br (decide ((List.getD x8 (Int.toNat x3) (0 : Int)) ≤ (List.getD x8 (Int.toNat (IntKind.wrap .i64 (x3 - (1 : Int)))) (0 : Int))))
              (k0 x0 x1 false x2 x4 x5 x6 x7 x9)
              (br (inB x3 (List.length x8))
               (br (decide ((Int.toNat x3) < (List.length x8)))
                (br (inB (List.getD x8 (Int.toNat x3) (0 : Int)) (64 : Nat))
                 (br (decide ((Int.toNat (List.getD x8 (Int.toNat x3) (0 : Int))) < (64 : Nat)))
                  (nx x0 x1 x2 (IntKind.wrap .i64 (x3 + (1 : Int))) x4 x5 x6 x7 x8 (List.set x9 (Int.toNat (List.getD x8 (Int.toNat x3) (0 : Int))) true))
                  (none))
                 (none))
                (none))
               (none)))
             (none))
            (none))
           (none))
          (none))
         (br (inB x3 (List.length x8))
          (br (decide ((Int.toNat x3) < (List.length x8)))
           (br (inB (List.getD x8 (Int.toNat x3) (0 : Int)) (64 : Nat))
            (br (decide ((Int.toNat (List.getD x8 (Int.toNat x3) (0 : Int))) < (64 : Nat)))
             (nx x0 x1 x2 (IntKind.wrap .i64 (x3 + (1 : Int))) x4 x5 x6 x7 x8 (List.set x9 (Int.toNat (List.getD x8 (Int.toNat x3) (0 : Int))) true))
             (none))
            (none))
           (none))
          (none)))
        (k0 x0 x1 false x2 x4 x5 x6 x7 x9))
       (none))
      (none))
     (k0 x0 x1 false x2 x4 x5 x6 x7 x9))
    (none))
   (none))
  (k1 x0 x1 x2 x4 x5 x6 x7 x9)
noncomputable def law2_TermVars_l2_T0 (N : Nat) (c0 : term_Arena_Eval_0112_Ty) (c1 : term_Arena_Vars_43b4_Ty) (c2 : law2_Build_4694_Ty) (c3 : term_New_Ty) (c4 : law2_awake_Ty) {R : Type} (nx : (List (Int)) → (Int) → (Int) → (Int) → (List ((Int) × ((Int) × ((Int) × ((Int) × ((Int) × (Int))))))) → (List (((Int) × ((Int) × ((Int) × ((Int) × ((Int) × (Int)))))) × (Int))) → (List ((Int) × (Int))) → (List ((Int) × (((Int) × ((Int) × ((Int) × ((Int) × ((Int) × (Int)))))) × ((Int) × ((Int) × ((Int) × (Int))))))) → (List (Bool)) → (List (Int)) → (List (Int)) → Option R) (k0 : (List (Int)) → (Int) → (Int) → (List ((Int) × ((Int) × ((Int) × ((Int) × ((Int) × (Int))))))) → (List (((Int) × ((Int) × ((Int) × ((Int) × ((Int) × (Int)))))) × (Int))) → (List ((Int) × (Int))) → (List ((Int) × (((Int) × ((Int) × ((Int) × ((Int) × ((Int) × (Int)))))) × ((Int) × ((Int) × ((Int) × (Int))))))) → (List (Int)) → (List (Int)) → Option R) (x0 : List (Int)) (x1 : Int) (x2 : Int) (x3 : Int) (x4 : List ((Int) × ((Int) × ((Int) × ((Int) × ((Int) × (Int))))))) (x5 : List (((Int) × ((Int) × ((Int) × ((Int) × ((Int) × (Int)))))) × (Int))) (x6 : List ((Int) × (Int))) (x7 : List ((Int) × (((Int) × ((Int) × ((Int) × ((Int) × ((Int) × (Int)))))) × ((Int) × ((Int) × ((Int) × (Int))))))) (x8 : List (Bool)) (x9 : List (Int)) (x10 : List (Int)) : Option R :=
  br (decide (x3 < (64 : Int)))
  (br (decide (x3 < (Nat.cast (List.length x0) : Int)))
   (br (inB x3 (List.length x0))
    (br (inB x3 (List.length x9))
     (br (decide ((Int.toNat x3) < (List.length x9)))
      (br (inB x3 (List.length x9))
       (br (decide ((Int.toNat x3) < (List.length x9)))
        (br (inB x3 (List.length x10))
         (br (decide ((Int.toNat x3) < (List.length x10)))
          (br (inB x3 (64 : Nat))
           (br (decide ((Int.toNat x3) < (64 : Nat)))
            (br (!(List.getD x8 (Int.toNat x3) false))
             (br (inB x3 (List.length x9))
              (br (decide ((Int.toNat x3) < (List.length x9)))
               (br (inB x3 (List.length x10))
                (br (decide ((Int.toNat x3) < (List.length x10)))
                 (nx x0 x1 x2 (IntKind.wrap .i64 (x3 + (1 : Int))) x4 x5 x6 x7 x8 (List.set x9 (Int.toNat x3) (List.getD x0 (Int.toNat x3) (0 : Int))) (List.set (List.set x10 (Int.toNat x3) (List.getD (List.set x9 (Int.toNat x3) (List.getD x0 (Int.toNat x3) (0 : Int))) (Int.toNat x3) (0 : Int))) (Int.toNat x3) (bxor .u16 (List.getD (List.set x9 (Int.toNat x3) (List.getD x0 (Int.toNat x3) (0 : Int))) (Int.toNat x3) (0 : Int)) x1)))
                 (none))
                (none))
               (none))
              (none))
             (nx x0 x1 x2 (IntKind.wrap .i64 (x3 + (1 : Int))) x4 x5 x6 x7 x8 (List.set x9 (Int.toNat x3) (List.getD x0 (Int.toNat x3) (0 : Int))) (List.set x10 (Int.toNat x3) (List.getD (List.set x9 (Int.toNat x3) (List.getD x0 (Int.toNat x3) (0 : Int))) (Int.toNat x3) (0 : Int)))))
            (none))
           (none))
          (none))
         (none))
        (none))
       (none))
      (none))
     (none))
    (none))
   (br (inB x3 (List.length x9))
    (br (decide ((Int.toNat x3) < (List.length x9)))
     (br (inB x3 (List.length x10))
      (br (decide ((Int.toNat x3) < (List.length x10)))
       (br (inB x3 (64 : Nat))
        (br (decide ((Int.toNat x3) < (64 : Nat)))
         (br (!(List.getD x8 (Int.toNat x3) false))
          (br (inB x3 (List.length x9))
           (br (decide ((Int.toNat x3) < (List.length x9)))
            (br (inB x3 (List.length x10))
             (br (decide ((Int.toNat x3) < (List.length x10)))
              (nx x0 x1 x2 (IntKind.wrap .i64 (x3 + (1 : Int))) x4 x5 x6 x7 x8 x9 (List.set (List.set x10 (Int.toNat x3) (List.getD x9 (Int.toNat x3) (0 : Int))) (Int.toNat x3) (bxor .u16 (List.getD x9 (Int.toNat x3) (0 : Int)) x1)))
              (none))
             (none))
            (none))
           (none))
          (nx x0 x1 x2 (IntKind.wrap .i64 (x3 + (1 : Int))) x4 x5 x6 x7 x8 x9 (List.set x10 (Int.toNat x3) (List.getD x9 (Int.toNat x3) (0 : Int)))))
         (none))
        (none))
       (none))
      (none))
     (none))
    (none)))
  (k0 x0 x1 x2 x4 x5 x6 x7 x9 x10)
noncomputable def law2_TermVars_l2 (N : Nat) {R : Type} (k0 : (List (Int)) → (Int) → (Int) → (List ((Int) × ((Int) × ((Int) × ((Int) × ((Int) × (Int))))))) → (List (((Int) × ((Int) × ((Int) × ((Int) × ((Int) × (Int)))))) × (Int))) → (List ((Int) × (Int))) → (List ((Int) × (((Int) × ((Int) × ((Int) × ((Int) × ((Int) × (Int)))))) × ((Int) × ((Int) × ((Int) × (Int))))))) → (List (Int)) → (List (Int)) → Option R) : Nat → (List (Int)) → (Int) → (Int) → (Int) → (List ((Int) × ((Int) × ((Int) × ((Int) × ((Int) × (Int))))))) → (List (((Int) × ((Int) × ((Int) × ((Int) × ((Int) × (Int)))))) × (Int))) → (List ((Int) × (Int))) → (List ((Int) × (((Int) × ((Int) × ((Int) × ((Int) × ((Int) × (Int)))))) × ((Int) × ((Int) × ((Int) × (Int))))))) → (List (Bool)) → (List (Int)) → (List (Int)) → Option R
  | 0, _, _, _, _, _, _, _, _, _, _, _ => none
  | n + 1, x0, x1, x2, x3, x4, x5, x6, x7, x8, x9, x10 => law2_TermVars_l2_T0 N (@term_Arena_Eval_0112 N) (@term_Arena_Vars_43b4 N) (@law2_Build_4694 N) (@term_New N) (@law2_awake N) (fun x0 x1 x2 x3 x4 x5 x6 x7 x8 x9 x10 => law2_TermVars_l2 N k0 n x0 x1 x2 x3 x4 x5 x6 x7 x8 x9 x10) k0 x0 x1 x2 x3 x4 x5 x6 x7 x8 x9 x10
noncomputable def law2_TermVars_l1 (N : Nat) {R : Type} (k0 : (List (Int)) → (Int) → (Bool) → (Int) → (List ((Int) × ((Int) × ((Int) × ((Int) × ((Int) × (Int))))))) → (List (((Int) × ((Int) × ((Int) × ((Int) × ((Int) × (Int)))))) × (Int))) → (List ((Int) × (Int))) → (List ((Int) × (((Int) × ((Int) × ((Int) × ((Int) × ((Int) × (Int)))))) × ((Int) × ((Int) × ((Int) × (Int))))))) → (List (Bool)) → Option R) (k1 : (List (Int)) → (Int) → (Int) → (List ((Int) × ((Int) × ((Int) × ((Int) × ((Int) × (Int))))))) → (List (((Int) × ((Int) × ((Int) × ((Int) × ((Int) × (Int)))))) × (Int))) → (List ((Int) × (Int))) → (List ((Int) × (((Int) × ((Int) × ((Int) × ((Int) × ((Int) × (Int)))))) × ((Int) × ((Int) × ((Int) × (Int))))))) → (List (Bool)) → Option R) : Nat → (List (Int)) → (Int) → (Int) → (Int) → (List ((Int) × ((Int) × ((Int) × ((Int) × ((Int) × (Int))))))) → (List (((Int) × ((Int) × ((Int) × ((Int) × ((Int) × (Int)))))) × (Int))) → (List ((Int) × (Int))) → (List ((Int) × (((Int) × ((Int) × ((Int) × ((Int) × ((Int) × (Int)))))) × ((Int) × ((Int) × ((Int) × (Int))))))) → (List (Int)) → (List (Bool)) → Option R
  | 0, _, _, _, _, _, _, _, _, _, _ => none
  | n + 1, x0, x1, x2, x3, x4, x5, x6, x7, x8, x9 => law2_TermVars_l1_T0 N (@term_Arena_Eval_0112 N) (@term_Arena_Vars_43b4 N) (@law2_Build_4694 N) (@term_New N) (@law2_awake N) (@law2_TermVars_l2 N) (fun x0 x1 x2 x3 x4 x5 x6 x7 x8 x9 => law2_TermVars_l1 N k0 k1 n x0 x1 x2 x3 x4 x5 x6 x7 x8 x9) k0 k1 x0 x1 x2 x3 x4 x5 x6 x7 x8 x9
noncomputable def law2_TermVars_l0 (N : Nat) {R : Type} (k0 : (Bool) → Option R) (k1 : Option R) : Nat → (List (Int)) → (Int) → (Int) → (List ((Int) × ((Int) × ((Int) × ((Int) × ((Int) × (Int))))))) → (List (((Int) × ((Int) × ((Int) × ((Int) × ((Int) × (Int)))))) × (Int))) → (List ((Int) × (Int))) → (List ((Int) × (((Int) × ((Int) × ((Int) × ((Int) × ((Int) × (Int)))))) × ((Int) × ((Int) × ((Int) × (Int))))))) → Option R
  | 0, _, _, _, _, _, _, _ => none
  | n + 1, x0, x1, x2, x3, x4, x5, x6 => law2_TermVars_l0_T0 N (@term_Arena_Eval_0112 N) (@term_Arena_Vars_43b4 N) (@law2_Build_4694 N) (@term_New N) (@law2_awake N) (@law2_TermVars_l1 N) (@law2_TermVars_l2 N) (fun x0 x1 x2 x3 x4 x5 x6 => law2_TermVars_l0 N k0 k1 n x0 x1 x2 x3 x4 x5 x6) k0 k1 x0 x1 x2 x3 x4 x5 x6
noncomputable def law2_TermVars_T (N : Nat) (c0 : term_Arena_Eval_0112_Ty) (c1 : term_Arena_Vars_43b4_Ty) (c2 : law2_Build_4694_Ty) (c3 : term_New_Ty) (c4 : law2_awake_Ty) (w0 : law2_TermVars_l0_Ty) (w1 : law2_TermVars_l1_Ty) (w2 : law2_TermVars_l2_Ty) {R : Type} (x0 : List ((Int) × ((Int) × ((Int) × ((Int) × ((Int) × (Int))))))) (x1 : List (Int)) (x2 : Int) (k0 : (Bool) → Option R) : Option R :=
  c4
  (fun b828 => br (!b828)
   (k0 false)
   (br (!(decide ((100 : Int) < (Nat.cast (List.length x0) : Int))))
    (br (decide ((100 : Int) < (Nat.cast (List.length x1) : Int)))
     (k0 true)
     (c3
      (fun l829 l830 l831 => c2 x0 l829 l830 l831
       (fun b3568 l3569 l3570 l3571 l3572 => br (!b3568)
        (k0 false)
        (w0
         (fun b3613 => k0 b3613)
         (k0 true)
         N x1 x2 (0 : Int) l3571 l3569 l3570 l3572)))))
    (k0 true)))
noncomputable def law2_TermVars (N : Nat) {R : Type} (x0 : List ((Int) × ((Int) × ((Int) × ((Int) × ((Int) × (Int))))))) (x1 : List (Int)) (x2 : Int) (k0 : (Bool) → Option R) : Option R := law2_TermVars_T N (@term_Arena_Eval_0112 N) (@term_Arena_Vars_43b4 N) (@law2_Build_4694 N) (@term_New N) (@law2_awake N) (@law2_TermVars_l0 N) (@law2_TermVars_l1 N) (@law2_TermVars_l2 N) x0 x1 x2 k0
end Go.Proofs.Yteagdmkedffplaa
