/-
  The functions that the statement reaches, each as a function of Lean (printed by a program of this work).
-/
import Derived.Test.YteagdmkedffplaaGxZ
set_option linter.unusedVariables false
set_option maxRecDepth 100000
namespace Go.Proofs.Yteagdmkedffplaa
open Go.Gx
abbrev term_New_Ty : Type 1 := {R : Type} → ((List ((Int) × ((Int) × ((Int) × ((Int) × ((Int) × (Int))))))) → (List (((Int) × ((Int) × ((Int) × ((Int) × ((Int) × (Int)))))) × (Int))) → (List ((Int) × (Int))) → Option R) → Option R
noncomputable def term_New_T (N : Nat) {R : Type} (k0 : (List ((Int) × ((Int) × ((Int) × ((Int) × ((Int) × (Int))))))) → (List (((Int) × ((Int) × ((Int) × ((Int) × ((Int) × (Int)))))) × (Int))) → (List ((Int) × (Int))) → Option R) : Option R :=
  k0 ([] : List (((Sh.int IntKind.i64).pair
    ((Sh.int IntKind.i64).pair
      ((Sh.int IntKind.u16).pair ((Sh.int IntKind.i64).pair ((Sh.int IntKind.i64).pair (Sh.int IntKind.i64)))))).T)) ([] : List ((((Sh.int IntKind.i64).pair
    ((Sh.int IntKind.i64).pair
      ((Sh.int IntKind.u16).pair ((Sh.int IntKind.i64).pair ((Sh.int IntKind.i64).pair (Sh.int IntKind.i64)))))).T) × ((Sh.int IntKind.i64).T))) ([] : List (((Sh.int IntKind.i64).T) × ((Sh.int IntKind.i64).T)))
noncomputable def term_New (N : Nat) {R : Type} (k0 : (List ((Int) × ((Int) × ((Int) × ((Int) × ((Int) × (Int))))))) → (List (((Int) × ((Int) × ((Int) × ((Int) × ((Int) × (Int)))))) × (Int))) → (List ((Int) × (Int))) → Option R) : Option R := term_New_T N k0
abbrev wide_May_Ty : Type 1 := {R : Type} → (Int) → ((Bool) → Option R) → Option R
noncomputable def wide_May_T (N : Nat) {R : Type} (x0 : Int) (k0 : (Bool) → Option R) : Option R :=
  br (!(decide (x0 = (1 : Int))))
  (br (!(decide (x0 = (8 : Int))))
   (k0 (decide (x0 = (16 : Int))))
   (k0 true))
  (k0 true)
noncomputable def wide_May (N : Nat) {R : Type} (x0 : Int) (k0 : (Bool) → Option R) : Option R := wide_May_T N x0 k0
abbrev wide_Mask_Ty : Type 1 := {R : Type} → (Int) → ((Int) → Option R) → Option R
noncomputable def wide_Mask_T (N : Nat) (c0 : wide_May_Ty) {R : Type} (x0 : Int) (k0 : (Int) → Option R) : Option R :=
  c0 x0
  (fun b4 => br (!b4)
   (k0 (0 : Int))
   (br (decide ((IntKind.wrap .u64 x0) < (0 : Int)))
    (none)
    (k0 (IntKind.wrap .u16 ((shlI .u16 (1 : Int) (IntKind.wrap .u64 x0)) - (1 : Int))))))
noncomputable def wide_Mask (N : Nat) {R : Type} (x0 : Int) (k0 : (Int) → Option R) : Option R := wide_Mask_T N (@wide_May N) x0 k0
abbrev term_Arena_keep_a25e_Ty : Type 1 := {R : Type} → (Int) → (Int) → (Int) → (Int) → (Int) → (Int) → (List ((Int) × ((Int) × ((Int) × ((Int) × ((Int) × (Int))))))) → (List (((Int) × ((Int) × ((Int) × ((Int) × ((Int) × (Int)))))) × (Int))) → (List ((Int) × (Int))) → ((Int) → (Int) → (List (((Int) × ((Int) × ((Int) × ((Int) × ((Int) × (Int)))))) × (Int))) → (List ((Int) × (Int))) → (List ((Int) × ((Int) × ((Int) × ((Int) × ((Int) × (Int))))))) → Option R) → Option R
noncomputable def term_Arena_keep_a25e_T (N : Nat) {R : Type} (x0 : Int) (x1 : Int) (x2 : Int) (x3 : Int) (x4 : Int) (x5 : Int) (x6 : List ((Int) × ((Int) × ((Int) × ((Int) × ((Int) × (Int))))))) (x7 : List (((Int) × ((Int) × ((Int) × ((Int) × ((Int) × (Int)))))) × (Int))) (x8 : List ((Int) × (Int))) (k0 : (Int) → (Int) → (List (((Int) × ((Int) × ((Int) × ((Int) × ((Int) × (Int)))))) × (Int))) → (List ((Int) × (Int))) → (List ((Int) × ((Int) × ((Int) × ((Int) × ((Int) × (Int))))))) → Option R) : Option R :=
  br (Option.isSome (mfind (.pair (.int .i64) (.pair (.int .i64) (.pair (.int .u16) (.pair (.int .i64) (.pair (.int .i64) (.int .i64)))))) (.int .i64) x7 (x0 , (x1 , (x2 , (x3 , (x4 , x5)))))))
  (k0 (Option.getD (mfind (.pair (.int .i64) (.pair (.int .i64) (.pair (.int .u16) (.pair (.int .i64) (.pair (.int .i64) (.int .i64)))))) (.int .i64) x7 (x0 , (x1 , (x2 , (x3 , (x4 , x5)))))) (0 : Int)) (0 : Int) x7 x8 x6)
  (br (decide ((65536 : Int) ≤ (Nat.cast (List.length x6) : Int)))
   (k0 (0 : Int) (3 : Int) x7 x8 x6)
   (br (((fits (0 : Nat) (List.length x6) x6) && (decide ((((List.length x6) + (1 : Nat)) * (48 : Nat)) ≤ (70368744177664 : Nat)))) && true)
    (k0 (Nat.cast ((List.length x6) + (1 : Nat)) : Int) (0 : Int) (mput (.pair (.int .i64) (.pair (.int .i64) (.pair (.int .u16) (.pair (.int .i64) (.pair (.int .i64) (.int .i64)))))) (.int .i64) x7 (x0 , (x1 , (x2 , (x3 , (x4 , x5))))) (Nat.cast ((List.length x6) + (1 : Nat)) : Int)) x8 ((sub x6 (0 : Nat) (List.length x6)) ++ ((x0 , (x1 , (x2 , (x3 , (x4 , x5))))) :: ([] : List (((Sh.int IntKind.i64).pair
    ((Sh.int IntKind.i64).pair
      ((Sh.int IntKind.u16).pair ((Sh.int IntKind.i64).pair ((Sh.int IntKind.i64).pair (Sh.int IntKind.i64)))))).T)))))
    (none)))
noncomputable def term_Arena_keep_a25e (N : Nat) {R : Type} (x0 : Int) (x1 : Int) (x2 : Int) (x3 : Int) (x4 : Int) (x5 : Int) (x6 : List ((Int) × ((Int) × ((Int) × ((Int) × ((Int) × (Int))))))) (x7 : List (((Int) × ((Int) × ((Int) × ((Int) × ((Int) × (Int)))))) × (Int))) (x8 : List ((Int) × (Int))) (k0 : (Int) → (Int) → (List (((Int) × ((Int) × ((Int) × ((Int) × ((Int) × (Int)))))) × (Int))) → (List ((Int) × (Int))) → (List ((Int) × ((Int) × ((Int) × ((Int) × ((Int) × (Int))))))) → Option R) : Option R := term_Arena_keep_a25e_T N x0 x1 x2 x3 x4 x5 x6 x7 x8 k0
abbrev term_Arena_Const_2c81_Ty : Type 1 := {R : Type} → (Int) → (Int) → (List ((Int) × ((Int) × ((Int) × ((Int) × ((Int) × (Int))))))) → (List (((Int) × ((Int) × ((Int) × ((Int) × ((Int) × (Int)))))) × (Int))) → (List ((Int) × (Int))) → ((Int) → (Int) → (List (((Int) × ((Int) × ((Int) × ((Int) × ((Int) × (Int)))))) × (Int))) → (List ((Int) × (Int))) → (List ((Int) × ((Int) × ((Int) × ((Int) × ((Int) × (Int))))))) → Option R) → Option R
noncomputable def term_Arena_Const_2c81_T (N : Nat) (c0 : term_Arena_keep_a25e_Ty) (c1 : wide_Mask_Ty) (c2 : wide_May_Ty) {R : Type} (x0 : Int) (x1 : Int) (x2 : List ((Int) × ((Int) × ((Int) × ((Int) × ((Int) × (Int))))))) (x3 : List (((Int) × ((Int) × ((Int) × ((Int) × ((Int) × (Int)))))) × (Int))) (x4 : List ((Int) × (Int))) (k0 : (Int) → (Int) → (List (((Int) × ((Int) × ((Int) × ((Int) × ((Int) × (Int)))))) × (Int))) → (List ((Int) × (Int))) → (List ((Int) × ((Int) × ((Int) × ((Int) × ((Int) × (Int))))))) → Option R) : Option R :=
  c2 x0
  (fun b11 => br (!b11)
   (k0 (0 : Int) (2 : Int) x3 x4 x2)
   (c1 x0
    (fun i12 => c0 (1 : Int) x0 (band .u16 x1 i12) (0 : Int) (0 : Int) (0 : Int) x2 x3 x4
     (fun i13 i14 l15 l16 l17 => k0 i13 i14 l15 l16 l17))))
noncomputable def term_Arena_Const_2c81 (N : Nat) {R : Type} (x0 : Int) (x1 : Int) (x2 : List ((Int) × ((Int) × ((Int) × ((Int) × ((Int) × (Int))))))) (x3 : List (((Int) × ((Int) × ((Int) × ((Int) × ((Int) × (Int)))))) × (Int))) (x4 : List ((Int) × (Int))) (k0 : (Int) → (Int) → (List (((Int) × ((Int) × ((Int) × ((Int) × ((Int) × (Int)))))) × (Int))) → (List ((Int) × (Int))) → (List ((Int) × ((Int) × ((Int) × ((Int) × ((Int) × (Int))))))) → Option R) : Option R := term_Arena_Const_2c81_T N (@term_Arena_keep_a25e N) (@wide_Mask N) (@wide_May N) x0 x1 x2 x3 x4 k0
abbrev term_two_Ty : Type 1 := {R : Type} → (Int) → ((Bool) → Option R) → Option R
noncomputable def term_two_T (N : Nat) {R : Type} (x0 : Int) (k0 : (Bool) → Option R) : Option R :=
  br (decide ((4 : Int) ≤ x0))
  (k0 (decide (x0 ≤ (15 : Int))))
  (k0 false)
noncomputable def term_two (N : Nat) {R : Type} (x0 : Int) (k0 : (Bool) → Option R) : Option R := term_two_T N x0 k0
abbrev term_Arena_Node_43b4_Ty : Type 1 := {R : Type} → (Int) → (List ((Int) × ((Int) × ((Int) × ((Int) × ((Int) × (Int))))))) → (List (((Int) × ((Int) × ((Int) × ((Int) × ((Int) × (Int)))))) × (Int))) → (List ((Int) × (Int))) → ((Int) → (Int) → (Int) → (Int) → (Int) → (Int) → (Bool) → (List ((Int) × ((Int) × ((Int) × ((Int) × ((Int) × (Int))))))) → (List (((Int) × ((Int) × ((Int) × ((Int) × ((Int) × (Int)))))) × (Int))) → (List ((Int) × (Int))) → Option R) → Option R
noncomputable def term_Arena_Node_43b4_T (N : Nat) {R : Type} (x0 : Int) (x1 : List ((Int) × ((Int) × ((Int) × ((Int) × ((Int) × (Int))))))) (x2 : List (((Int) × ((Int) × ((Int) × ((Int) × ((Int) × (Int)))))) × (Int))) (x3 : List ((Int) × (Int))) (k0 : (Int) → (Int) → (Int) → (Int) → (Int) → (Int) → (Bool) → (List ((Int) × ((Int) × ((Int) × ((Int) × ((Int) × (Int))))))) → (List (((Int) × ((Int) × ((Int) × ((Int) × ((Int) × (Int)))))) × (Int))) → (List ((Int) × (Int))) → Option R) : Option R :=
  br (!(decide (x0 < (1 : Int))))
  (br (decide ((Nat.cast (List.length x1) : Int) < x0))
   (k0 (0 : Int) (0 : Int) (0 : Int) (0 : Int) (0 : Int) (0 : Int) false x1 x2 x3)
   (br (inB (IntKind.wrap .i64 (x0 - (1 : Int))) (List.length x1))
    (br (decide ((Int.toNat (IntKind.wrap .i64 (x0 - (1 : Int)))) < (List.length x1)))
     (k0 (List.getD x1 (Int.toNat (IntKind.wrap .i64 (x0 - (1 : Int)))) ((0 : Int) , ((0 : Int) , ((0 : Int) , ((0 : Int) , ((0 : Int) , (0 : Int))))))).1 (List.getD x1 (Int.toNat (IntKind.wrap .i64 (x0 - (1 : Int)))) ((0 : Int) , ((0 : Int) , ((0 : Int) , ((0 : Int) , ((0 : Int) , (0 : Int))))))).2.1 (List.getD x1 (Int.toNat (IntKind.wrap .i64 (x0 - (1 : Int)))) ((0 : Int) , ((0 : Int) , ((0 : Int) , ((0 : Int) , ((0 : Int) , (0 : Int))))))).2.2.1 (List.getD x1 (Int.toNat (IntKind.wrap .i64 (x0 - (1 : Int)))) ((0 : Int) , ((0 : Int) , ((0 : Int) , ((0 : Int) , ((0 : Int) , (0 : Int))))))).2.2.2.1 (List.getD x1 (Int.toNat (IntKind.wrap .i64 (x0 - (1 : Int)))) ((0 : Int) , ((0 : Int) , ((0 : Int) , ((0 : Int) , ((0 : Int) , (0 : Int))))))).2.2.2.2.1 (List.getD x1 (Int.toNat (IntKind.wrap .i64 (x0 - (1 : Int)))) ((0 : Int) , ((0 : Int) , ((0 : Int) , ((0 : Int) , ((0 : Int) , (0 : Int))))))).2.2.2.2.2 true x1 x2 x3)
     (none))
    (none)))
  (k0 (0 : Int) (0 : Int) (0 : Int) (0 : Int) (0 : Int) (0 : Int) false x1 x2 x3)
noncomputable def term_Arena_Node_43b4 (N : Nat) {R : Type} (x0 : Int) (x1 : List ((Int) × ((Int) × ((Int) × ((Int) × ((Int) × (Int))))))) (x2 : List (((Int) × ((Int) × ((Int) × ((Int) × ((Int) × (Int)))))) × (Int))) (x3 : List ((Int) × (Int))) (k0 : (Int) → (Int) → (Int) → (Int) → (Int) → (Int) → (Bool) → (List ((Int) × ((Int) × ((Int) × ((Int) × ((Int) × (Int))))))) → (List (((Int) × ((Int) × ((Int) × ((Int) × ((Int) × (Int)))))) × (Int))) → (List ((Int) × (Int))) → Option R) : Option R := term_Arena_Node_43b4_T N x0 x1 x2 x3 k0
abbrev term_Arena_there_2549_l0_Ty : Type 1 := {R : Type} → ((Bool) → (List ((Int) × ((Int) × ((Int) × ((Int) × ((Int) × (Int))))))) → (List (((Int) × ((Int) × ((Int) × ((Int) × ((Int) × (Int)))))) × (Int))) → (List ((Int) × (Int))) → (List (Int)) → Option R) → ((List ((Int) × ((Int) × ((Int) × ((Int) × ((Int) × (Int))))))) → (List (((Int) × ((Int) × ((Int) × ((Int) × ((Int) × (Int)))))) × (Int))) → (List ((Int) × (Int))) → (List (Int)) → Option R) → Nat → (Int) → (Int) → (List ((Int) × ((Int) × ((Int) × ((Int) × ((Int) × (Int))))))) → (List (((Int) × ((Int) × ((Int) × ((Int) × ((Int) × (Int)))))) × (Int))) → (List ((Int) × (Int))) → (List (Int)) → Option R
abbrev term_Arena_there_2549_Ty : Type 1 := {R : Type} → (List ((Int) × ((Int) × ((Int) × ((Int) × ((Int) × (Int))))))) → (List (((Int) × ((Int) × ((Int) × ((Int) × ((Int) × (Int)))))) × (Int))) → (List ((Int) × (Int))) → (List (Int)) → ((Bool) → (List ((Int) × ((Int) × ((Int) × ((Int) × ((Int) × (Int))))))) → (List (((Int) × ((Int) × ((Int) × ((Int) × ((Int) × (Int)))))) × (Int))) → (List ((Int) × (Int))) → (List (Int)) → Option R) → Option R
noncomputable def term_Arena_there_2549_l0_T0 (N : Nat) (c0 : term_Arena_Node_43b4_Ty) {R : Type} (nx : (Int) → (Int) → (List ((Int) × ((Int) × ((Int) × ((Int) × ((Int) × (Int))))))) → (List (((Int) × ((Int) × ((Int) × ((Int) × ((Int) × (Int)))))) × (Int))) → (List ((Int) × (Int))) → (List (Int)) → Option R) (k0 : (Bool) → (List ((Int) × ((Int) × ((Int) × ((Int) × ((Int) × (Int))))))) → (List (((Int) × ((Int) × ((Int) × ((Int) × ((Int) × (Int)))))) × (Int))) → (List ((Int) × (Int))) → (List (Int)) → Option R) (k1 : (List ((Int) × ((Int) × ((Int) × ((Int) × ((Int) × (Int))))))) → (List (((Int) × ((Int) × ((Int) × ((Int) × ((Int) × (Int)))))) × (Int))) → (List ((Int) × (Int))) → (List (Int)) → Option R) (x0 : Int) (x1 : Int) (x2 : List ((Int) × ((Int) × ((Int) × ((Int) × ((Int) × (Int))))))) (x3 : List (((Int) × ((Int) × ((Int) × ((Int) × ((Int) × (Int)))))) × (Int))) (x4 : List ((Int) × (Int))) (x5 : List (Int)) : Option R :=
  br (decide (x1 < x0))
  (br (inB x1 (List.length x5))
   (br (decide ((Int.toNat x1) < (List.length x5)))
    (c0 (List.getD x5 (Int.toNat x1) (0 : Int)) x2 x3 x4
     (fun i29 i30 i31 i32 i33 i34 b35 l36 l37 l38 => br (!b35)
      (k0 false l36 l37 l38 x5)
      (nx x0 (IntKind.wrap .i64 (x1 + (1 : Int))) l36 l37 l38 x5)))
    (none))
   (none))
  (k1 x2 x3 x4 x5)
noncomputable def term_Arena_there_2549_l0 (N : Nat) {R : Type} (k0 : (Bool) → (List ((Int) × ((Int) × ((Int) × ((Int) × ((Int) × (Int))))))) → (List (((Int) × ((Int) × ((Int) × ((Int) × ((Int) × (Int)))))) × (Int))) → (List ((Int) × (Int))) → (List (Int)) → Option R) (k1 : (List ((Int) × ((Int) × ((Int) × ((Int) × ((Int) × (Int))))))) → (List (((Int) × ((Int) × ((Int) × ((Int) × ((Int) × (Int)))))) × (Int))) → (List ((Int) × (Int))) → (List (Int)) → Option R) : Nat → (Int) → (Int) → (List ((Int) × ((Int) × ((Int) × ((Int) × ((Int) × (Int))))))) → (List (((Int) × ((Int) × ((Int) × ((Int) × ((Int) × (Int)))))) × (Int))) → (List ((Int) × (Int))) → (List (Int)) → Option R
  | 0, _, _, _, _, _, _ => none
  | n + 1, x0, x1, x2, x3, x4, x5 => term_Arena_there_2549_l0_T0 N (@term_Arena_Node_43b4 N) (fun x0 x1 x2 x3 x4 x5 => term_Arena_there_2549_l0 N k0 k1 n x0 x1 x2 x3 x4 x5) k0 k1 x0 x1 x2 x3 x4 x5
noncomputable def term_Arena_there_2549_T (N : Nat) (c0 : term_Arena_Node_43b4_Ty) (w0 : term_Arena_there_2549_l0_Ty) {R : Type} (x0 : List ((Int) × ((Int) × ((Int) × ((Int) × ((Int) × (Int))))))) (x1 : List (((Int) × ((Int) × ((Int) × ((Int) × ((Int) × (Int)))))) × (Int))) (x2 : List ((Int) × (Int))) (x3 : List (Int)) (k0 : (Bool) → (List ((Int) × ((Int) × ((Int) × ((Int) × ((Int) × (Int))))))) → (List (((Int) × ((Int) × ((Int) × ((Int) × ((Int) × (Int)))))) × (Int))) → (List ((Int) × (Int))) → (List (Int)) → Option R) : Option R :=
  w0
  (fun b39 l40 l41 l42 l43 => k0 b39 l40 l41 l42 l43)
  (fun l44 l45 l46 l47 => k0 true l44 l45 l46 l47)
  N (Nat.cast (List.length x3) : Int) (0 : Int) x0 x1 x2 x3
noncomputable def term_Arena_there_2549 (N : Nat) {R : Type} (x0 : List ((Int) × ((Int) × ((Int) × ((Int) × ((Int) × (Int))))))) (x1 : List (((Int) × ((Int) × ((Int) × ((Int) × ((Int) × (Int)))))) × (Int))) (x2 : List ((Int) × (Int))) (x3 : List (Int)) (k0 : (Bool) → (List ((Int) × ((Int) × ((Int) × ((Int) × ((Int) × (Int))))))) → (List (((Int) × ((Int) × ((Int) × ((Int) × ((Int) × (Int)))))) × (Int))) → (List ((Int) × (Int))) → (List (Int)) → Option R) : Option R := term_Arena_there_2549_T N (@term_Arena_Node_43b4 N) (@term_Arena_there_2549_l0 N) x0 x1 x2 x3 k0
abbrev term_Arena_Width_43b4_Ty : Type 1 := {R : Type} → (Int) → (List ((Int) × ((Int) × ((Int) × ((Int) × ((Int) × (Int))))))) → (List (((Int) × ((Int) × ((Int) × ((Int) × ((Int) × (Int)))))) × (Int))) → (List ((Int) × (Int))) → ((Int) → (List ((Int) × ((Int) × ((Int) × ((Int) × ((Int) × (Int))))))) → (List (((Int) × ((Int) × ((Int) × ((Int) × ((Int) × (Int)))))) × (Int))) → (List ((Int) × (Int))) → Option R) → Option R
noncomputable def term_Arena_Width_43b4_T (N : Nat) (c0 : term_Arena_Node_43b4_Ty) {R : Type} (x0 : Int) (x1 : List ((Int) × ((Int) × ((Int) × ((Int) × ((Int) × (Int))))))) (x2 : List (((Int) × ((Int) × ((Int) × ((Int) × ((Int) × (Int)))))) × (Int))) (x3 : List ((Int) × (Int))) (k0 : (Int) → (List ((Int) × ((Int) × ((Int) × ((Int) × ((Int) × (Int))))))) → (List (((Int) × ((Int) × ((Int) × ((Int) × ((Int) × (Int)))))) × (Int))) → (List ((Int) × (Int))) → Option R) : Option R :=
  c0 x0 x1 x2 x3
  (fun i53 i54 i55 i56 i57 i58 b59 l60 l61 l62 => k0 i54 l60 l61 l62)
noncomputable def term_Arena_Width_43b4 (N : Nat) {R : Type} (x0 : Int) (x1 : List ((Int) × ((Int) × ((Int) × ((Int) × ((Int) × (Int))))))) (x2 : List (((Int) × ((Int) × ((Int) × ((Int) × ((Int) × (Int)))))) × (Int))) (x3 : List ((Int) × (Int))) (k0 : (Int) → (List ((Int) × ((Int) × ((Int) × ((Int) × ((Int) × (Int))))))) → (List (((Int) × ((Int) × ((Int) × ((Int) × ((Int) × (Int)))))) × (Int))) → (List ((Int) × (Int))) → Option R) : Option R := term_Arena_Width_43b4_T N (@term_Arena_Node_43b4 N) x0 x1 x2 x3 k0
abbrev term_Arena_Known_43b4_Ty : Type 1 := {R : Type} → (Int) → (List ((Int) × ((Int) × ((Int) × ((Int) × ((Int) × (Int))))))) → (List (((Int) × ((Int) × ((Int) × ((Int) × ((Int) × (Int)))))) × (Int))) → (List ((Int) × (Int))) → ((Int) → (Bool) → (List ((Int) × ((Int) × ((Int) × ((Int) × ((Int) × (Int))))))) → (List (((Int) × ((Int) × ((Int) × ((Int) × ((Int) × (Int)))))) × (Int))) → (List ((Int) × (Int))) → Option R) → Option R
noncomputable def term_Arena_Known_43b4_T (N : Nat) (c0 : term_Arena_Node_43b4_Ty) {R : Type} (x0 : Int) (x1 : List ((Int) × ((Int) × ((Int) × ((Int) × ((Int) × (Int))))))) (x2 : List (((Int) × ((Int) × ((Int) × ((Int) × ((Int) × (Int)))))) × (Int))) (x3 : List ((Int) × (Int))) (k0 : (Int) → (Bool) → (List ((Int) × ((Int) × ((Int) × ((Int) × ((Int) × (Int))))))) → (List (((Int) × ((Int) × ((Int) × ((Int) × ((Int) × (Int)))))) × (Int))) → (List ((Int) × (Int))) → Option R) : Option R :=
  c0 x0 x1 x2 x3
  (fun i71 i72 i73 i74 i75 i76 b77 l78 l79 l80 => br (decide (i71 = (1 : Int)))
   (k0 i73 (decide ((0 : Int) < i72)) l78 l79 l80)
   (k0 i73 false l78 l79 l80))
noncomputable def term_Arena_Known_43b4 (N : Nat) {R : Type} (x0 : Int) (x1 : List ((Int) × ((Int) × ((Int) × ((Int) × ((Int) × (Int))))))) (x2 : List (((Int) × ((Int) × ((Int) × ((Int) × ((Int) × (Int)))))) × (Int))) (x3 : List ((Int) × (Int))) (k0 : (Int) → (Bool) → (List ((Int) × ((Int) × ((Int) × ((Int) × ((Int) × (Int))))))) → (List (((Int) × ((Int) × ((Int) × ((Int) × ((Int) × (Int)))))) × (Int))) → (List ((Int) × (Int))) → Option R) : Option R := term_Arena_Known_43b4_T N (@term_Arena_Node_43b4 N) x0 x1 x2 x3 k0
abbrev wide_divided_Ty : Type 1 := {R : Type} → (Int) → (Int) → (Int) → ((Int) → Option R) → Option R
noncomputable def wide_divided_T (N : Nat) (c0 : wide_Mask_Ty) {R : Type} (x0 : Int) (x1 : Int) (x2 : Int) (k0 : (Int) → Option R) : Option R :=
  br (decide (x2 = (0 : Int)))
  (c0 x0
   (fun i97 => k0 i97))
  (br (decide (x2 = (0 : Int)))
   (none)
   (k0 (IntKind.wrap .u16 (Int.tdiv x1 x2))))
noncomputable def wide_divided (N : Nat) {R : Type} (x0 : Int) (x1 : Int) (x2 : Int) (k0 : (Int) → Option R) : Option R := wide_divided_T N (@wide_Mask N) x0 x1 x2 k0
abbrev wide_rest_Ty : Type 1 := {R : Type} → (Int) → (Int) → ((Int) → Option R) → Option R
noncomputable def wide_rest_T (N : Nat) {R : Type} (x0 : Int) (x1 : Int) (k0 : (Int) → Option R) : Option R :=
  br (decide (x1 = (0 : Int)))
  (k0 x0)
  (br (decide (x1 = (0 : Int)))
   (none)
   (k0 (Int.tmod x0 x1)))
noncomputable def wide_rest (N : Nat) {R : Type} (x0 : Int) (x1 : Int) (k0 : (Int) → Option R) : Option R := wide_rest_T N x0 x1 k0
abbrev wide_truth_Ty : Type 1 := {R : Type} → (Bool) → ((Int) → Option R) → Option R
noncomputable def wide_truth_T (N : Nat) {R : Type} (x0 : Bool) (k0 : (Int) → Option R) : Option R :=
  br x0
  (k0 (1 : Int))
  (k0 (0 : Int))
noncomputable def wide_truth (N : Nat) {R : Type} (x0 : Bool) (k0 : (Int) → Option R) : Option R := wide_truth_T N x0 k0
abbrev wide_reckon_Ty : Type 1 := {R : Type} → (Int) → (Int) → (Int) → (Int) → ((Int) → (Bool) → Option R) → Option R
noncomputable def wide_reckon_T (N : Nat) (c0 : wide_truth_Ty) (c1 : wide_rest_Ty) (c2 : wide_divided_Ty) {R : Type} (x0 : Int) (x1 : Int) (x2 : Int) (x3 : Int) (k0 : (Int) → (Bool) → Option R) : Option R :=
  br (decide (x0 = (3 : Int)))
  (k0 (bxor .u16 (if ((IntKind.signed .u16) = true) then (-1 : Int) else (IntKind.max .u16)) x2) true)
  (br (decide (x0 = (4 : Int)))
   (k0 (band .u16 x2 x3) true)
   (br (decide (x0 = (5 : Int)))
    (k0 (bor .u16 x2 x3) true)
    (br (decide (x0 = (6 : Int)))
     (k0 (bxor .u16 x2 x3) true)
     (br (decide (x0 = (7 : Int)))
      (k0 (IntKind.wrap .u16 (x2 + x3)) true)
      (br (decide (x0 = (8 : Int)))
       (k0 (IntKind.wrap .u16 (x2 - x3)) true)
       (br (decide (x0 = (9 : Int)))
        (k0 (IntKind.wrap .u16 (x2 * x3)) true)
        (br (decide (x0 = (10 : Int)))
         (c2 x1 x2 x3
          (fun i98 => k0 i98 true))
         (br (decide (x0 = (11 : Int)))
          (c1 x2 x3
           (fun i99 => k0 i99 true))
          (br (decide (x0 = (12 : Int)))
           (br (decide (x3 < (0 : Int)))
            (none)
            (k0 (shlI .u16 x2 x3) true))
           (br (decide (x0 = (13 : Int)))
            (br (decide (x3 < (0 : Int)))
             (none)
             (k0 (shrI .u16 x2 x3) true))
            (br (decide (x0 = (14 : Int)))
             (c0 (decide (x2 = x3))
              (fun i100 => k0 i100 true))
             (br (decide (x0 = (15 : Int)))
              (c0 (decide (x2 < x3))
               (fun i101 => k0 i101 true))
              (k0 (0 : Int) false)))))))))))))
noncomputable def wide_reckon (N : Nat) {R : Type} (x0 : Int) (x1 : Int) (x2 : Int) (x3 : Int) (k0 : (Int) → (Bool) → Option R) : Option R := wide_reckon_T N (@wide_truth N) (@wide_rest N) (@wide_divided N) x0 x1 x2 x3 k0
abbrev wide_Do_Ty : Type 1 := {R : Type} → (Int) → (Int) → (Int) → (Int) → ((Int) → (Int) → Option R) → Option R
noncomputable def wide_Do_T (N : Nat) (c0 : wide_reckon_Ty) (c1 : wide_Mask_Ty) (c2 : wide_May_Ty) {R : Type} (x0 : Int) (x1 : Int) (x2 : Int) (x3 : Int) (k0 : (Int) → (Int) → Option R) : Option R :=
  c2 x1
  (fun b95 => br (!b95)
   (k0 (0 : Int) (2 : Int))
   (c1 x1
    (fun i96 => c0 x0 x1 (band .u16 x2 i96) (band .u16 x3 i96)
     (fun i102 b103 => br (!b103)
      (k0 (0 : Int) (5 : Int))
      (k0 (band .u16 i102 i96) (0 : Int))))))
noncomputable def wide_Do (N : Nat) {R : Type} (x0 : Int) (x1 : Int) (x2 : Int) (x3 : Int) (k0 : (Int) → (Int) → Option R) : Option R := wide_Do_T N (@wide_reckon N) (@wide_Mask N) (@wide_May N) x0 x1 x2 x3 k0
abbrev wide_Out_Ty : Type 1 := {R : Type} → (Int) → (Int) → ((Int) → Option R) → Option R
noncomputable def wide_Out_T (N : Nat) (c0 : wide_Do_Ty) {R : Type} (x0 : Int) (x1 : Int) (k0 : (Int) → Option R) : Option R :=
  c0 x0 x1 (0 : Int) (0 : Int)
  (fun i110 i111 => br (!(decide (i111 = (0 : Int))))
   (k0 (0 : Int))
   (br (!(decide (x0 = (14 : Int))))
    (br (decide (x0 = (15 : Int)))
     (k0 (1 : Int))
     (k0 x1))
    (k0 (1 : Int))))
noncomputable def wide_Out (N : Nat) {R : Type} (x0 : Int) (x1 : Int) (k0 : (Int) → Option R) : Option R := wide_Out_T N (@wide_Do N) x0 x1 k0
abbrev term_turns_Ty : Type 1 := {R : Type} → (Int) → ((Bool) → Option R) → Option R
noncomputable def term_turns_T (N : Nat) {R : Type} (x0 : Int) (k0 : (Bool) → Option R) : Option R :=
  br (decide (x0 = (4 : Int)))
  (k0 true)
  (br (decide (x0 = (5 : Int)))
   (k0 true)
   (br (decide (x0 = (6 : Int)))
    (k0 true)
    (br (decide (x0 = (7 : Int)))
     (k0 true)
     (br (decide (x0 = (9 : Int)))
      (k0 true)
      (br (decide (x0 = (14 : Int)))
       (k0 true)
       (k0 false))))))
noncomputable def term_turns (N : Nat) {R : Type} (x0 : Int) (k0 : (Bool) → Option R) : Option R := term_turns_T N x0 k0
abbrev term_Arena_alike_99d8_Ty : Type 1 := {R : Type} → (Int) → (Int) → (List ((Int) × ((Int) × ((Int) × ((Int) × ((Int) × (Int))))))) → (List (((Int) × ((Int) × ((Int) × ((Int) × ((Int) × (Int)))))) × (Int))) → (List ((Int) × (Int))) → ((Int) → (Int) → (Bool) → (List (((Int) × ((Int) × ((Int) × ((Int) × ((Int) × (Int)))))) × (Int))) → (List ((Int) × (Int))) → (List ((Int) × ((Int) × ((Int) × ((Int) × ((Int) × (Int))))))) → Option R) → Option R
noncomputable def term_Arena_alike_99d8_T (N : Nat) (c0 : wide_Do_Ty) (c1 : term_Arena_Const_2c81_Ty) (c2 : term_Arena_Width_43b4_Ty) {R : Type} (x0 : Int) (x1 : Int) (x2 : List ((Int) × ((Int) × ((Int) × ((Int) × ((Int) × (Int))))))) (x3 : List (((Int) × ((Int) × ((Int) × ((Int) × ((Int) × (Int)))))) × (Int))) (x4 : List ((Int) × (Int))) (k0 : (Int) → (Int) → (Bool) → (List (((Int) × ((Int) × ((Int) × ((Int) × ((Int) × (Int)))))) × (Int))) → (List ((Int) × (Int))) → (List ((Int) × ((Int) × ((Int) × ((Int) × ((Int) × (Int))))))) → Option R) : Option R :=
  c2 x1 x2 x3 x4
  (fun i168 l169 l170 l171 => br (decide (x0 = (4 : Int)))
   (k0 x1 (0 : Int) true l170 l171 l169)
   (br (decide (x0 = (5 : Int)))
    (k0 x1 (0 : Int) true l170 l171 l169)
    (br (decide (x0 = (6 : Int)))
     (c1 i168 (0 : Int) l169 l170 l171
      (fun i172 i173 l174 l175 l176 => k0 i172 i173 true l174 l175 l176))
     (br (decide (x0 = (8 : Int)))
      (c1 i168 (0 : Int) l169 l170 l171
       (fun i177 i178 l179 l180 l181 => k0 i177 i178 true l179 l180 l181))
      (br (decide (x0 = (14 : Int)))
       (c0 x0 i168 (0 : Int) (0 : Int)
        (fun i182 i183 => c1 (1 : Int) i182 l169 l170 l171
         (fun i184 i185 l186 l187 l188 => k0 i184 i185 true l186 l187 l188)))
       (br (decide (x0 = (15 : Int)))
        (c0 x0 i168 (0 : Int) (0 : Int)
         (fun i189 i190 => c1 (1 : Int) i189 l169 l170 l171
          (fun i191 i192 l193 l194 l195 => k0 i191 i192 true l193 l194 l195)))
        (k0 (0 : Int) (0 : Int) false l170 l171 l169)))))))
noncomputable def term_Arena_alike_99d8 (N : Nat) {R : Type} (x0 : Int) (x1 : Int) (x2 : List ((Int) × ((Int) × ((Int) × ((Int) × ((Int) × (Int))))))) (x3 : List (((Int) × ((Int) × ((Int) × ((Int) × ((Int) × (Int)))))) × (Int))) (x4 : List ((Int) × (Int))) (k0 : (Int) → (Int) → (Bool) → (List (((Int) × ((Int) × ((Int) × ((Int) × ((Int) × (Int)))))) × (Int))) → (List ((Int) × (Int))) → (List ((Int) × ((Int) × ((Int) × ((Int) × ((Int) × (Int))))))) → Option R) : Option R := term_Arena_alike_99d8_T N (@wide_Do N) (@term_Arena_Const_2c81 N) (@term_Arena_Width_43b4 N) x0 x1 x2 x3 x4 k0
abbrev term_Arena_Not_43b4_Ty : Type 1 := {R : Type} → (Int) → (List ((Int) × ((Int) × ((Int) × ((Int) × ((Int) × (Int))))))) → (List (((Int) × ((Int) × ((Int) × ((Int) × ((Int) × (Int)))))) × (Int))) → (List ((Int) × (Int))) → ((Int) → (Int) → (List (((Int) × ((Int) × ((Int) × ((Int) × ((Int) × (Int)))))) × (Int))) → (List ((Int) × (Int))) → (List ((Int) × ((Int) × ((Int) × ((Int) × ((Int) × (Int))))))) → Option R) → Option R
noncomputable def term_Arena_Not_43b4_T (N : Nat) (c0 : term_Arena_keep_a25e_Ty) (c1 : term_Arena_Const_2c81_Ty) (c2 : term_Arena_Node_43b4_Ty) (c3 : term_Arena_there_2549_Ty) {R : Type} (x0 : Int) (x1 : List ((Int) × ((Int) × ((Int) × ((Int) × ((Int) × (Int))))))) (x2 : List (((Int) × ((Int) × ((Int) × ((Int) × ((Int) × (Int)))))) × (Int))) (x3 : List ((Int) × (Int))) (k0 : (Int) → (Int) → (List (((Int) × ((Int) × ((Int) × ((Int) × ((Int) × (Int)))))) × (Int))) → (List ((Int) × (Int))) → (List ((Int) × ((Int) × ((Int) × ((Int) × ((Int) × (Int))))))) → Option R) : Option R :=
  c3 x1 x2 x3 (x0 :: ([] : List ((Sh.int IntKind.i64).T)))
  (fun b259 l260 l261 l262 l263 => br (!b259)
   (k0 (0 : Int) (1 : Int) l261 l262 l260)
   (c2 x0 l260 l261 l262
    (fun i264 i265 i266 i267 i268 i269 b270 l271 l272 l273 => br (decide (i264 = (1 : Int)))
     (c1 i265 (bxor .u16 (if ((IntKind.signed .u16) = true) then (-1 : Int) else (IntKind.max .u16)) i266) l271 l272 l273
      (fun i274 i275 l276 l277 l278 => k0 i274 i275 l276 l277 l278))
     (br (decide (i264 = (3 : Int)))
      (k0 i267 (0 : Int) l272 l273 l271)
      (c0 (3 : Int) i265 (0 : Int) x0 (0 : Int) (0 : Int) l271 l272 l273
       (fun i279 i280 l281 l282 l283 => k0 i279 i280 l281 l282 l283))))))
noncomputable def term_Arena_Not_43b4 (N : Nat) {R : Type} (x0 : Int) (x1 : List ((Int) × ((Int) × ((Int) × ((Int) × ((Int) × (Int))))))) (x2 : List (((Int) × ((Int) × ((Int) × ((Int) × ((Int) × (Int)))))) × (Int))) (x3 : List ((Int) × (Int))) (k0 : (Int) → (Int) → (List (((Int) × ((Int) × ((Int) × ((Int) × ((Int) × (Int)))))) × (Int))) → (List ((Int) × (Int))) → (List ((Int) × ((Int) × ((Int) × ((Int) × ((Int) × (Int))))))) → Option R) : Option R := term_Arena_Not_43b4_T N (@term_Arena_keep_a25e N) (@term_Arena_Const_2c81 N) (@term_Arena_Node_43b4 N) (@term_Arena_there_2549 N) x0 x1 x2 x3 k0
abbrev term_Arena_Var_99d8_Ty : Type 1 := {R : Type} → (Int) → (Int) → (List ((Int) × ((Int) × ((Int) × ((Int) × ((Int) × (Int))))))) → (List (((Int) × ((Int) × ((Int) × ((Int) × ((Int) × (Int)))))) × (Int))) → (List ((Int) × (Int))) → ((Int) → (Int) → (List (((Int) × ((Int) × ((Int) × ((Int) × ((Int) × (Int)))))) × (Int))) → (List ((Int) × (Int))) → (List ((Int) × ((Int) × ((Int) × ((Int) × ((Int) × (Int))))))) → Option R) → Option R
noncomputable def term_Arena_Var_99d8_T (N : Nat) (c0 : term_Arena_keep_a25e_Ty) (c1 : wide_May_Ty) {R : Type} (x0 : Int) (x1 : Int) (x2 : List ((Int) × ((Int) × ((Int) × ((Int) × ((Int) × (Int))))))) (x3 : List (((Int) × ((Int) × ((Int) × ((Int) × ((Int) × (Int)))))) × (Int))) (x4 : List ((Int) × (Int))) (k0 : (Int) → (Int) → (List (((Int) × ((Int) × ((Int) × ((Int) × ((Int) × (Int)))))) × (Int))) → (List ((Int) × (Int))) → (List ((Int) × ((Int) × ((Int) × ((Int) × ((Int) × (Int))))))) → Option R) : Option R :=
  c1 x0
  (fun b666 => br (!b666)
   (k0 (0 : Int) (2 : Int) x3 x4 x2)
   (br (!(decide (x1 < (0 : Int))))
    (br (!(decide ((64 : Int) ≤ x1)))
     (br (Option.isSome (mfind (.int .i64) (.int .i64) x4 x1))
      (br (!(decide ((Option.getD (mfind (.int .i64) (.int .i64) x4 x1) (0 : Int)) = x0)))
       (k0 (0 : Int) (1 : Int) x3 x4 x2)
       (c0 (2 : Int) x0 (IntKind.wrap .u16 x1) (0 : Int) (0 : Int) (0 : Int) x2 x3 x4
        (fun i667 i668 l669 l670 l671 => br (decide (i668 = (0 : Int)))
         (k0 i667 i668 l669 (mput (.int .i64) (.int .i64) l670 x1 x0) l671)
         (k0 i667 i668 l669 l670 l671))))
      (c0 (2 : Int) x0 (IntKind.wrap .u16 x1) (0 : Int) (0 : Int) (0 : Int) x2 x3 x4
       (fun i672 i673 l674 l675 l676 => br (decide (i673 = (0 : Int)))
        (k0 i672 i673 l674 (mput (.int .i64) (.int .i64) l675 x1 x0) l676)
        (k0 i672 i673 l674 l675 l676))))
     (k0 (0 : Int) (1 : Int) x3 x4 x2))
    (k0 (0 : Int) (1 : Int) x3 x4 x2)))
noncomputable def term_Arena_Var_99d8 (N : Nat) {R : Type} (x0 : Int) (x1 : Int) (x2 : List ((Int) × ((Int) × ((Int) × ((Int) × ((Int) × (Int))))))) (x3 : List (((Int) × ((Int) × ((Int) × ((Int) × ((Int) × (Int)))))) × (Int))) (x4 : List ((Int) × (Int))) (k0 : (Int) → (Int) → (List (((Int) × ((Int) × ((Int) × ((Int) × ((Int) × (Int)))))) × (Int))) → (List ((Int) × (Int))) → (List ((Int) × ((Int) × ((Int) × ((Int) × ((Int) × (Int))))))) → Option R) : Option R := term_Arena_Var_99d8_T N (@term_Arena_keep_a25e N) (@wide_May N) x0 x1 x2 x3 x4 k0
abbrev term_Value_7344_Ty : Type 1 := {R : Type} → (Int) → (Int) → (Int) → (Int) → (Int) → (Int) → (Int) → (Int) → (Int) → (Int) → (List (Int)) → ((Int) → (List (Int)) → Option R) → Option R
noncomputable def term_Value_7344_T (N : Nat) (c0 : wide_Do_Ty) (c1 : wide_Mask_Ty) {R : Type} (x0 : Int) (x1 : Int) (x2 : Int) (x3 : Int) (x4 : Int) (x5 : Int) (x6 : Int) (x7 : Int) (x8 : Int) (x9 : Int) (x10 : List (Int)) (k0 : (Int) → (List (Int)) → Option R) : Option R :=
  br (decide (x0 = (1 : Int)))
  (k0 x2 x10)
  (br (decide (x0 = (2 : Int)))
   (br (decide ((IntKind.wrap .i64 x2) < (Nat.cast (List.length x10) : Int)))
    (br (inB x2 (List.length x10))
     (br (decide ((Int.toNat x2) < (List.length x10)))
      (c1 x1
       (fun i717 => br (decide (x2 = x2))
        (br (inB x2 (List.length x10))
         (br (decide (x2 = x2))
          (br (decide ((Int.toNat x2) < (List.length x10)))
           (br (decide ((List.getD x10 (Int.toNat x2) (0 : Int)) = (List.getD x10 (Int.toNat x2) (0 : Int))))
            (k0 (band .u16 (List.getD x10 (Int.toNat x2) (0 : Int)) i717) x10)
            (none))
           (none))
          (none))
         (none))
        (none)))
      (none))
     (none))
    (k0 (0 : Int) x10))
   (br (decide (x0 = (16 : Int)))
    (br (decide (x7 = (1 : Int)))
     (k0 x8 x10)
     (k0 x9 x10))
    (br (decide (x0 = (17 : Int)))
     (k0 x7 x10)
     (br (decide (x0 = (18 : Int)))
      (c1 x1
       (fun i718 => k0 (band .u16 x7 i718) x10))
      (c0 x0 x6 x7 x8
       (fun i719 i720 => k0 i719 x10))))))
noncomputable def term_Value_7344 (N : Nat) {R : Type} (x0 : Int) (x1 : Int) (x2 : Int) (x3 : Int) (x4 : Int) (x5 : Int) (x6 : Int) (x7 : Int) (x8 : Int) (x9 : Int) (x10 : List (Int)) (k0 : (Int) → (List (Int)) → Option R) : Option R := term_Value_7344_T N (@wide_Do N) (@wide_Mask N) x0 x1 x2 x3 x4 x5 x6 x7 x8 x9 x10 k0
abbrev term_Value_c09b_Ty : Type 1 := {R : Type} → (Int) → (Int) → (Int) → (Int) → (Int) → (Int) → (Int) → (Int) → (Int) → (Int) → (Nat) → (Nat) → (List (Int)) → ((Int) → (List (Int)) → Option R) → Option R
noncomputable def term_Value_c09b_T (N : Nat) (c0 : wide_Do_Ty) (c1 : wide_Mask_Ty) {R : Type} (x0 : Int) (x1 : Int) (x2 : Int) (x3 : Int) (x4 : Int) (x5 : Int) (x6 : Int) (x7 : Int) (x8 : Int) (x9 : Int) (x10 : Nat) (x11 : Nat) (x12 : List (Int)) (k0 : (Int) → (List (Int)) → Option R) : Option R :=
  br (decide (x0 = (1 : Int)))
  (k0 x2 x12)
  (br (decide (x0 = (2 : Int)))
   (br (decide ((IntKind.wrap .i64 x2) < (Nat.cast x10 : Int)))
    (br (inB x2 x10)
     (br (decide ((Int.toNat x2) < (3 : Nat)))
      (c1 x1
       (fun i990 => br (decide (x10 = x10))
        (br (decide (x11 = x11))
         (br (decide (x2 = x2))
          (br (inB x2 x10)
           (br (decide (x2 = x2))
            (br (decide ((Int.toNat x2) < (3 : Nat)))
             (br (decide ((List.getD x12 (Int.toNat x2) (0 : Int)) = (List.getD x12 (Int.toNat x2) (0 : Int))))
              (k0 (band .u16 (List.getD x12 (Int.toNat x2) (0 : Int)) i990) x12)
              (none))
             (none))
            (none))
           (none))
          (none))
         (none))
        (none)))
      (none))
     (none))
    (k0 (0 : Int) x12))
   (br (decide (x0 = (16 : Int)))
    (br (decide (x7 = (1 : Int)))
     (k0 x8 x12)
     (k0 x9 x12))
    (br (decide (x0 = (17 : Int)))
     (k0 x7 x12)
     (br (decide (x0 = (18 : Int)))
      (c1 x1
       (fun i991 => k0 (band .u16 x7 i991) x12))
      (c0 x0 x6 x7 x8
       (fun i992 i993 => k0 i992 x12))))))
noncomputable def term_Value_c09b (N : Nat) {R : Type} (x0 : Int) (x1 : Int) (x2 : Int) (x3 : Int) (x4 : Int) (x5 : Int) (x6 : Int) (x7 : Int) (x8 : Int) (x9 : Int) (x10 : Nat) (x11 : Nat) (x12 : List (Int)) (k0 : (Int) → (List (Int)) → Option R) : Option R := term_Value_c09b_T N (@wide_Do N) (@wide_Mask N) x0 x1 x2 x3 x4 x5 x6 x7 x8 x9 x10 x11 x12 k0
abbrev term_Arena_Under_2549_l0_Ty : Type 1 := {R : Type} → ((Int) → (List ((Int) × ((Int) × ((Int) × ((Int) × ((Int) × (Int))))))) → (List (((Int) × ((Int) × ((Int) × ((Int) × ((Int) × (Int)))))) × (Int))) → (List ((Int) × (Int))) → (List (Int)) → Option R) → Nat → (Int) → (Int) → (Int) → (List ((Int) × ((Int) × ((Int) × ((Int) × ((Int) × (Int))))))) → (List (((Int) × ((Int) × ((Int) × ((Int) × ((Int) × (Int)))))) × (Int))) → (List ((Int) × (Int))) → (List (Int)) → Option R
abbrev term_Arena_Under_2549_l1_Ty : Type 1 := {R : Type} → ((Int) → (List ((Int) × ((Int) × ((Int) × ((Int) × ((Int) × (Int))))))) → (List (((Int) × ((Int) × ((Int) × ((Int) × ((Int) × (Int)))))) × (Int))) → (List ((Int) × (Int))) → (List (Int)) → (List (Bool)) → Option R) → Nat → (Int) → (Int) → (Int) → (List ((Int) × ((Int) × ((Int) × ((Int) × ((Int) × (Int))))))) → (List (((Int) × ((Int) × ((Int) × ((Int) × ((Int) × (Int)))))) × (Int))) → (List ((Int) × (Int))) → (List (Int)) → (List (Bool)) → Option R
abbrev term_Arena_Under_2549_l2_Ty : Type 1 := {R : Type} → ((Int) → (List ((Int) × ((Int) × ((Int) × ((Int) × ((Int) × (Int))))))) → (List (((Int) × ((Int) × ((Int) × ((Int) × ((Int) × (Int)))))) × (Int))) → (List ((Int) × (Int))) → (List (Int)) → (List (Bool)) → Option R) → Nat → (Int) → (Int) → (List ((Int) × ((Int) × ((Int) × ((Int) × ((Int) × (Int))))))) → (List (((Int) × ((Int) × ((Int) × ((Int) × ((Int) × (Int)))))) × (Int))) → (List ((Int) × (Int))) → (List (Int)) → (List (Bool)) → Option R
abbrev term_Arena_Under_2549_l3_Ty : Type 1 := {R : Type} → ((List ((Int) × ((Int) × ((Int) × ((Int) × ((Int) × (Int))))))) → (List (((Int) × ((Int) × ((Int) × ((Int) × ((Int) × (Int)))))) × (Int))) → (List ((Int) × (Int))) → (List (Int)) → (List (Int)) → Option R) → Nat → (Int) → (Int) → (List ((Int) × ((Int) × ((Int) × ((Int) × ((Int) × (Int))))))) → (List (((Int) × ((Int) × ((Int) × ((Int) × ((Int) × (Int)))))) × (Int))) → (List ((Int) × (Int))) → (List (Int)) → (List (Bool)) → (List (Int)) → Option R
abbrev term_Arena_Under_2549_Ty : Type 1 := {R : Type} → (List ((Int) × ((Int) × ((Int) × ((Int) × ((Int) × (Int))))))) → (List (((Int) × ((Int) × ((Int) × ((Int) × ((Int) × (Int)))))) × (Int))) → (List ((Int) × (Int))) → (List (Int)) → ((List ((Int) × ((Int) × ((Int) × ((Int) × ((Int) × (Int))))))) → (List (((Int) × ((Int) × ((Int) × ((Int) × ((Int) × (Int)))))) × (Int))) → (List ((Int) × (Int))) → (List (Int)) → (List (Int)) → Option R) → Option R
noncomputable def term_Arena_Under_2549_l0_T0 (N : Nat) (c0 : term_Arena_there_2549_Ty) (w1 : term_Arena_Under_2549_l1_Ty) (w2 : term_Arena_Under_2549_l2_Ty) (w3 : term_Arena_Under_2549_l3_Ty) {R : Type} (nx : (Int) → (Int) → (Int) → (List ((Int) × ((Int) × ((Int) × ((Int) × ((Int) × (Int))))))) → (List (((Int) × ((Int) × ((Int) × ((Int) × ((Int) × (Int)))))) × (Int))) → (List ((Int) × (Int))) → (List (Int)) → Option R) (k0 : (Int) → (List ((Int) × ((Int) × ((Int) × ((Int) × ((Int) × (Int))))))) → (List (((Int) × ((Int) × ((Int) × ((Int) × ((Int) × (Int)))))) × (Int))) → (List ((Int) × (Int))) → (List (Int)) → Option R) (x0 : Int) (x1 : Int) (x2 : Int) (x3 : List ((Int) × ((Int) × ((Int) × ((Int) × ((Int) × (Int))))))) (x4 : List (((Int) × ((Int) × ((Int) × ((Int) × ((Int) × (Int)))))) × (Int))) (x5 : List ((Int) × (Int))) (x6 : List (Int)) : Option R :=
  br (decide (x2 < x1))
  (br (inB x2 (List.length x6))
   (br (decide ((Int.toNat x2) < (List.length x6)))
    (c0 x3 x4 x5 ((List.getD x6 (Int.toNat x2) (0 : Int)) :: ([] : List ((Sh.int IntKind.i64).T)))
     (fun b730 l731 l732 l733 l734 => br b730
      (nx (if (x0 < (List.getD x6 (Int.toNat x2) (0 : Int))) then (List.getD x6 (Int.toNat x2) (0 : Int)) else x0) x1 (IntKind.wrap .i64 (x2 + (1 : Int))) l731 l732 l733 x6)
      (nx x0 x1 (IntKind.wrap .i64 (x2 + (1 : Int))) l731 l732 l733 x6)))
    (none))
   (none))
  (k0 x0 x3 x4 x5 x6)
noncomputable def term_Arena_Under_2549_l1_T0 (N : Nat) (c0 : term_Arena_there_2549_Ty) (w2 : term_Arena_Under_2549_l2_Ty) (w3 : term_Arena_Under_2549_l3_Ty) {R : Type} (nx : (Int) → (Int) → (Int) → (List ((Int) × ((Int) × ((Int) × ((Int) × ((Int) × (Int))))))) → (List (((Int) × ((Int) × ((Int) × ((Int) × ((Int) × (Int)))))) × (Int))) → (List ((Int) × (Int))) → (List (Int)) → (List (Bool)) → Option R) (k0 : (Int) → (List ((Int) × ((Int) × ((Int) × ((Int) × ((Int) × (Int))))))) → (List (((Int) × ((Int) × ((Int) × ((Int) × ((Int) × (Int)))))) × (Int))) → (List ((Int) × (Int))) → (List (Int)) → (List (Bool)) → Option R) (x0 : Int) (x1 : Int) (x2 : Int) (x3 : List ((Int) × ((Int) × ((Int) × ((Int) × ((Int) × (Int))))))) (x4 : List (((Int) × ((Int) × ((Int) × ((Int) × ((Int) × (Int)))))) × (Int))) (x5 : List ((Int) × (Int))) (x6 : List (Int)) (x7 : List (Bool)) : Option R :=
  br (decide (x2 < x1))
  (br (inB x2 (List.length x6))
   (br (decide ((Int.toNat x2) < (List.length x6)))
    (c0 x3 x4 x5 ((List.getD x6 (Int.toNat x2) (0 : Int)) :: ([] : List ((Sh.int IntKind.i64).T)))
     (fun b740 l741 l742 l743 l744 => br b740
      (br (inB (List.getD x6 (Int.toNat x2) (0 : Int)) (List.length x7))
       (br (decide ((Int.toNat (List.getD x6 (Int.toNat x2) (0 : Int))) < (List.length x7)))
        (nx x0 x1 (IntKind.wrap .i64 (x2 + (1 : Int))) l741 l742 l743 x6 (List.set x7 (Int.toNat (List.getD x6 (Int.toNat x2) (0 : Int))) true))
        (none))
       (none))
      (nx x0 x1 (IntKind.wrap .i64 (x2 + (1 : Int))) l741 l742 l743 x6 x7)))
    (none))
   (none))
  (k0 x0 x3 x4 x5 x6 x7)
noncomputable def term_Arena_Under_2549_l2_T0 (N : Nat) (c0 : term_Arena_there_2549_Ty) (w3 : term_Arena_Under_2549_l3_Ty) {R : Type} (nx : (Int) → (Int) → (List ((Int) × ((Int) × ((Int) × ((Int) × ((Int) × (Int))))))) → (List (((Int) × ((Int) × ((Int) × ((Int) × ((Int) × (Int)))))) × (Int))) → (List ((Int) × (Int))) → (List (Int)) → (List (Bool)) → Option R) (k0 : (Int) → (List ((Int) × ((Int) × ((Int) × ((Int) × ((Int) × (Int))))))) → (List (((Int) × ((Int) × ((Int) × ((Int) × ((Int) × (Int)))))) × (Int))) → (List ((Int) × (Int))) → (List (Int)) → (List (Bool)) → Option R) (x0 : Int) (x1 : Int) (x2 : List ((Int) × ((Int) × ((Int) × ((Int) × ((Int) × (Int))))))) (x3 : List (((Int) × ((Int) × ((Int) × ((Int) × ((Int) × (Int)))))) × (Int))) (x4 : List ((Int) × (Int))) (x5 : List (Int)) (x6 : List (Bool)) : Option R :=
  br (decide ((0 : Int) < x1))
  (br (inB x1 (List.length x6))
   (br (decide ((Int.toNat x1) < (List.length x6)))
    (br (!(List.getD x6 (Int.toNat x1) false))
     (nx x0 (IntKind.wrap .i64 (x1 - (1 : Int))) x2 x3 x4 x5 x6)
     (br (inB (IntKind.wrap .i64 (x1 - (1 : Int))) (List.length x2))
      (br (decide ((Int.toNat (IntKind.wrap .i64 (x1 - (1 : Int)))) < (List.length x2)))
       (br (inB (List.getD x2 (Int.toNat (IntKind.wrap .i64 (x1 - (1 : Int)))) ((0 : Int) , ((0 : Int) , ((0 : Int) , ((0 : Int) , ((0 : Int) , (0 : Int))))))).2.2.2.1 (List.length x6))
        (br (decide ((Int.toNat (List.getD x2 (Int.toNat (IntKind.wrap .i64 (x1 - (1 : Int)))) ((0 : Int) , ((0 : Int) , ((0 : Int) , ((0 : Int) , ((0 : Int) , (0 : Int))))))).2.2.2.1) < (List.length x6)))
         (br (decide ((List.getD x2 (Int.toNat (IntKind.wrap .i64 (x1 - (1 : Int)))) ((0 : Int) , ((0 : Int) , ((0 : Int) , ((0 : Int) , ((0 : Int) , (0 : Int))))))).2.2.2.2.1 = (List.getD x2 (Int.toNat (IntKind.wrap .i64 (x1 - (1 : Int)))) ((0 : Int) , ((0 : Int) , ((0 : Int) , ((0 : Int) , ((0 : Int) , (0 : Int))))))).2.2.2.2.1))
          (br (decide ((List.getD x2 (Int.toNat (IntKind.wrap .i64 (x1 - (1 : Int)))) ((0 : Int) , ((0 : Int) , ((0 : Int) , ((0 : Int) , ((0 : Int) , (0 : Int))))))).2.2.2.2.2 = (List.getD x2 (Int.toNat (IntKind.wrap .i64 (x1 - (1 : Int)))) ((0 : Int) , ((0 : Int) , ((0 : Int) , ((0 : Int) , ((0 : Int) , (0 : Int))))))).2.2.2.2.2))
           (br (inB (List.getD x2 (Int.toNat (IntKind.wrap .i64 (x1 - (1 : Int)))) ((0 : Int) , ((0 : Int) , ((0 : Int) , ((0 : Int) , ((0 : Int) , (0 : Int))))))).2.2.2.2.1 (List.length x6))
            (br (decide ((Int.toNat (List.getD x2 (Int.toNat (IntKind.wrap .i64 (x1 - (1 : Int)))) ((0 : Int) , ((0 : Int) , ((0 : Int) , ((0 : Int) , ((0 : Int) , (0 : Int))))))).2.2.2.2.1) < (List.length x6)))
             (br (decide ((List.getD x2 (Int.toNat (IntKind.wrap .i64 (x1 - (1 : Int)))) ((0 : Int) , ((0 : Int) , ((0 : Int) , ((0 : Int) , ((0 : Int) , (0 : Int))))))).2.2.2.2.2 = (List.getD x2 (Int.toNat (IntKind.wrap .i64 (x1 - (1 : Int)))) ((0 : Int) , ((0 : Int) , ((0 : Int) , ((0 : Int) , ((0 : Int) , (0 : Int))))))).2.2.2.2.2))
              (br (inB (List.getD x2 (Int.toNat (IntKind.wrap .i64 (x1 - (1 : Int)))) ((0 : Int) , ((0 : Int) , ((0 : Int) , ((0 : Int) , ((0 : Int) , (0 : Int))))))).2.2.2.2.2 (List.length x6))
               (br (decide ((Int.toNat (List.getD x2 (Int.toNat (IntKind.wrap .i64 (x1 - (1 : Int)))) ((0 : Int) , ((0 : Int) , ((0 : Int) , ((0 : Int) , ((0 : Int) , (0 : Int))))))).2.2.2.2.2) < (List.length x6)))
                (nx (IntKind.wrap .i64 (x0 + (1 : Int))) (IntKind.wrap .i64 (x1 - (1 : Int))) x2 x3 x4 x5 (List.set (List.set (List.set x6 (Int.toNat (List.getD x2 (Int.toNat (IntKind.wrap .i64 (x1 - (1 : Int)))) ((0 : Int) , ((0 : Int) , ((0 : Int) , ((0 : Int) , ((0 : Int) , (0 : Int))))))).2.2.2.1) true) (Int.toNat (List.getD x2 (Int.toNat (IntKind.wrap .i64 (x1 - (1 : Int)))) ((0 : Int) , ((0 : Int) , ((0 : Int) , ((0 : Int) , ((0 : Int) , (0 : Int))))))).2.2.2.2.1) true) (Int.toNat (List.getD x2 (Int.toNat (IntKind.wrap .i64 (x1 - (1 : Int)))) ((0 : Int) , ((0 : Int) , ((0 : Int) , ((0 : Int) , ((0 : Int) , (0 : Int))))))).2.2.2.2.2) true))
                (none))
               (none))
              (none))
             (none))
            (none))
           (none))
          (none))
         (none))
        (none))
       (none))
      (none)))
    (none))
   (none))
  (k0 x0 x2 x3 x4 x5 x6)
noncomputable def term_Arena_Under_2549_l3_T0 (N : Nat) (c0 : term_Arena_there_2549_Ty) {R : Type} (nx : (Int) → (Int) → (List ((Int) × ((Int) × ((Int) × ((Int) × ((Int) × (Int))))))) → (List (((Int) × ((Int) × ((Int) × ((Int) × ((Int) × (Int)))))) × (Int))) → (List ((Int) × (Int))) → (List (Int)) → (List (Bool)) → (List (Int)) → Option R) (k0 : (List ((Int) × ((Int) × ((Int) × ((Int) × ((Int) × (Int))))))) → (List (((Int) × ((Int) × ((Int) × ((Int) × ((Int) × (Int)))))) × (Int))) → (List ((Int) × (Int))) → (List (Int)) → (List (Int)) → Option R) (x0 : Int) (x1 : Int) (x2 : List ((Int) × ((Int) × ((Int) × ((Int) × ((Int) × (Int))))))) (x3 : List (((Int) × ((Int) × ((Int) × ((Int) × ((Int) × (Int)))))) × (Int))) (x4 : List ((Int) × (Int))) (x5 : List (Int)) (x6 : List (Bool)) (x7 : List (Int)) : Option R :=
  br (decide (x1 < x0))
  (br (decide ((0 : Int) < x1))
   (br (inB x1 (List.length x6))
    (br (decide ((Int.toNat x1) < (List.length x6)))
     (br (List.getD x6 (Int.toNat x1) false)
      (br (((fits (0 : Nat) (List.length x7) x7) && (decide ((((List.length x7) + (1 : Nat)) * (8 : Nat)) ≤ (70368744177664 : Nat)))) && true)
       (nx x0 (IntKind.wrap .i64 (x1 + (1 : Int))) x2 x3 x4 x5 x6 ((sub x7 (0 : Nat) (List.length x7)) ++ (x1 :: ([] : List ((Sh.int IntKind.i64).T)))))
       (none))
      (nx x0 (IntKind.wrap .i64 (x1 + (1 : Int))) x2 x3 x4 x5 x6 x7))
     (none))
    (none))
   (nx x0 (IntKind.wrap .i64 (x1 + (1 : Int))) x2 x3 x4 x5 x6 x7))
  (k0 x2 x3 x4 x5 x7)
noncomputable def term_Arena_Under_2549_l3 (N : Nat) {R : Type} (k0 : (List ((Int) × ((Int) × ((Int) × ((Int) × ((Int) × (Int))))))) → (List (((Int) × ((Int) × ((Int) × ((Int) × ((Int) × (Int)))))) × (Int))) → (List ((Int) × (Int))) → (List (Int)) → (List (Int)) → Option R) : Nat → (Int) → (Int) → (List ((Int) × ((Int) × ((Int) × ((Int) × ((Int) × (Int))))))) → (List (((Int) × ((Int) × ((Int) × ((Int) × ((Int) × (Int)))))) × (Int))) → (List ((Int) × (Int))) → (List (Int)) → (List (Bool)) → (List (Int)) → Option R
  | 0, _, _, _, _, _, _, _, _ => none
  | n + 1, x0, x1, x2, x3, x4, x5, x6, x7 => term_Arena_Under_2549_l3_T0 N (@term_Arena_there_2549 N) (fun x0 x1 x2 x3 x4 x5 x6 x7 => term_Arena_Under_2549_l3 N k0 n x0 x1 x2 x3 x4 x5 x6 x7) k0 x0 x1 x2 x3 x4 x5 x6 x7
noncomputable def term_Arena_Under_2549_l2 (N : Nat) {R : Type} (k0 : (Int) → (List ((Int) × ((Int) × ((Int) × ((Int) × ((Int) × (Int))))))) → (List (((Int) × ((Int) × ((Int) × ((Int) × ((Int) × (Int)))))) × (Int))) → (List ((Int) × (Int))) → (List (Int)) → (List (Bool)) → Option R) : Nat → (Int) → (Int) → (List ((Int) × ((Int) × ((Int) × ((Int) × ((Int) × (Int))))))) → (List (((Int) × ((Int) × ((Int) × ((Int) × ((Int) × (Int)))))) × (Int))) → (List ((Int) × (Int))) → (List (Int)) → (List (Bool)) → Option R
  | 0, _, _, _, _, _, _, _ => none
  | n + 1, x0, x1, x2, x3, x4, x5, x6 => term_Arena_Under_2549_l2_T0 N (@term_Arena_there_2549 N) (@term_Arena_Under_2549_l3 N) (fun x0 x1 x2 x3 x4 x5 x6 => term_Arena_Under_2549_l2 N k0 n x0 x1 x2 x3 x4 x5 x6) k0 x0 x1 x2 x3 x4 x5 x6
noncomputable def term_Arena_Under_2549_l1 (N : Nat) {R : Type} (k0 : (Int) → (List ((Int) × ((Int) × ((Int) × ((Int) × ((Int) × (Int))))))) → (List (((Int) × ((Int) × ((Int) × ((Int) × ((Int) × (Int)))))) × (Int))) → (List ((Int) × (Int))) → (List (Int)) → (List (Bool)) → Option R) : Nat → (Int) → (Int) → (Int) → (List ((Int) × ((Int) × ((Int) × ((Int) × ((Int) × (Int))))))) → (List (((Int) × ((Int) × ((Int) × ((Int) × ((Int) × (Int)))))) × (Int))) → (List ((Int) × (Int))) → (List (Int)) → (List (Bool)) → Option R
  | 0, _, _, _, _, _, _, _, _ => none
  | n + 1, x0, x1, x2, x3, x4, x5, x6, x7 => term_Arena_Under_2549_l1_T0 N (@term_Arena_there_2549 N) (@term_Arena_Under_2549_l2 N) (@term_Arena_Under_2549_l3 N) (fun x0 x1 x2 x3 x4 x5 x6 x7 => term_Arena_Under_2549_l1 N k0 n x0 x1 x2 x3 x4 x5 x6 x7) k0 x0 x1 x2 x3 x4 x5 x6 x7
noncomputable def term_Arena_Under_2549_l0 (N : Nat) {R : Type} (k0 : (Int) → (List ((Int) × ((Int) × ((Int) × ((Int) × ((Int) × (Int))))))) → (List (((Int) × ((Int) × ((Int) × ((Int) × ((Int) × (Int)))))) × (Int))) → (List ((Int) × (Int))) → (List (Int)) → Option R) : Nat → (Int) → (Int) → (Int) → (List ((Int) × ((Int) × ((Int) × ((Int) × ((Int) × (Int))))))) → (List (((Int) × ((Int) × ((Int) × ((Int) × ((Int) × (Int)))))) × (Int))) → (List ((Int) × (Int))) → (List (Int)) → Option R
  | 0, _, _, _, _, _, _, _ => none
  | n + 1, x0, x1, x2, x3, x4, x5, x6 => term_Arena_Under_2549_l0_T0 N (@term_Arena_there_2549 N) (@term_Arena_Under_2549_l1 N) (@term_Arena_Under_2549_l2 N) (@term_Arena_Under_2549_l3 N) (fun x0 x1 x2 x3 x4 x5 x6 => term_Arena_Under_2549_l0 N k0 n x0 x1 x2 x3 x4 x5 x6) k0 x0 x1 x2 x3 x4 x5 x6
noncomputable def term_Arena_Under_2549_T (N : Nat) (c0 : term_Arena_there_2549_Ty) (w0 : term_Arena_Under_2549_l0_Ty) (w1 : term_Arena_Under_2549_l1_Ty) (w2 : term_Arena_Under_2549_l2_Ty) (w3 : term_Arena_Under_2549_l3_Ty) {R : Type} (x0 : List ((Int) × ((Int) × ((Int) × ((Int) × ((Int) × (Int))))))) (x1 : List (((Int) × ((Int) × ((Int) × ((Int) × ((Int) × (Int)))))) × (Int))) (x2 : List ((Int) × (Int))) (x3 : List (Int)) (k0 : (List ((Int) × ((Int) × ((Int) × ((Int) × ((Int) × (Int))))))) → (List (((Int) × ((Int) × ((Int) × ((Int) × ((Int) × (Int)))))) × (Int))) → (List ((Int) × (Int))) → (List (Int)) → (List (Int)) → Option R) : Option R :=
  w0
  (fun i735 l736 l737 l738 l739 => br ((((decide ((0 : Int) ≤ (IntKind.wrap .i64 (i735 + (1 : Int))))) && (decide ((IntKind.wrap .i64 (i735 + (1 : Int))) ≤ (IntKind.wrap .i64 (i735 + (1 : Int)))))) && (decide (((IntKind.wrap .i64 (i735 + (1 : Int))) * (1 : Int)) ≤ ((2 : Int) ^ (46 : Nat))))) && true)
   (w1
    (fun i745 l746 l747 l748 l749 l750 => w2
     (fun i751 l752 l753 l754 l755 l756 => br (((decide ((0 : Int) ≤ i751)) && (decide ((i751 * (8 : Int)) ≤ ((2 : Int) ^ (46 : Nat))))) && true)
      (w3
       (fun l757 l758 l759 l760 l761 => k0 l757 l758 l759 l760 l761)
       N (Nat.cast (List.length l756) : Int) (0 : Int) l752 l753 l754 l755 l756 ([] : List ((Sh.int IntKind.i64).T)))
      (none))
     N (0 : Int) i745 l746 l747 l748 l749 l750)
    N i735 (Nat.cast (List.length l739) : Int) (0 : Int) l736 l737 l738 l739 (List.replicate (Int.toNat (IntKind.wrap .i64 (i735 + (1 : Int)))) false))
   (none))
  N (0 : Int) (Nat.cast (List.length x3) : Int) (0 : Int) x0 x1 x2 x3
noncomputable def term_Arena_Under_2549 (N : Nat) {R : Type} (x0 : List ((Int) × ((Int) × ((Int) × ((Int) × ((Int) × (Int))))))) (x1 : List (((Int) × ((Int) × ((Int) × ((Int) × ((Int) × (Int)))))) × (Int))) (x2 : List ((Int) × (Int))) (x3 : List (Int)) (k0 : (List ((Int) × ((Int) × ((Int) × ((Int) × ((Int) × (Int))))))) → (List (((Int) × ((Int) × ((Int) × ((Int) × ((Int) × (Int)))))) × (Int))) → (List ((Int) × (Int))) → (List (Int)) → (List (Int)) → Option R) : Option R := term_Arena_Under_2549_T N (@term_Arena_there_2549 N) (@term_Arena_Under_2549_l0 N) (@term_Arena_Under_2549_l1 N) (@term_Arena_Under_2549_l2 N) (@term_Arena_Under_2549_l3 N) x0 x1 x2 x3 k0
abbrev term_Arena_Vars_43b4_l0_Ty : Type 1 := {R : Type} → ((List ((Int) × ((Int) × ((Int) × ((Int) × ((Int) × (Int))))))) → (List (((Int) × ((Int) × ((Int) × ((Int) × ((Int) × (Int)))))) × (Int))) → (List ((Int) × (Int))) → (List (Bool)) → Option R) → Nat → (Int) → (Int) → (List ((Int) × ((Int) × ((Int) × ((Int) × ((Int) × (Int))))))) → (List (((Int) × ((Int) × ((Int) × ((Int) × ((Int) × (Int)))))) × (Int))) → (List ((Int) × (Int))) → (List (Bool)) → (List (Int)) → Option R
abbrev term_Arena_Vars_43b4_l1_Ty : Type 1 := {R : Type} → ((List ((Int) × ((Int) × ((Int) × ((Int) × ((Int) × (Int))))))) → (List (((Int) × ((Int) × ((Int) × ((Int) × ((Int) × (Int)))))) × (Int))) → (List ((Int) × (Int))) → (List (Int)) → Option R) → Nat → (List (Bool)) → (Int) → (List ((Int) × ((Int) × ((Int) × ((Int) × ((Int) × (Int))))))) → (List (((Int) × ((Int) × ((Int) × ((Int) × ((Int) × (Int)))))) × (Int))) → (List ((Int) × (Int))) → (List (Int)) → Option R
abbrev term_Arena_Vars_43b4_Ty : Type 1 := {R : Type} → (Int) → (List ((Int) × ((Int) × ((Int) × ((Int) × ((Int) × (Int))))))) → (List (((Int) × ((Int) × ((Int) × ((Int) × ((Int) × (Int)))))) × (Int))) → (List ((Int) × (Int))) → ((List ((Int) × ((Int) × ((Int) × ((Int) × ((Int) × (Int))))))) → (List (((Int) × ((Int) × ((Int) × ((Int) × ((Int) × (Int)))))) × (Int))) → (List ((Int) × (Int))) → (List (Int)) → Option R) → Option R
noncomputable def term_Arena_Vars_43b4_l0_T0 (N : Nat) (c0 : term_Arena_Under_2549_Ty) (c1 : term_Arena_there_2549_Ty) (w1 : term_Arena_Vars_43b4_l1_Ty) {R : Type} (nx : (Int) → (Int) → (List ((Int) × ((Int) × ((Int) × ((Int) × ((Int) × (Int))))))) → (List (((Int) × ((Int) × ((Int) × ((Int) × ((Int) × (Int)))))) × (Int))) → (List ((Int) × (Int))) → (List (Bool)) → (List (Int)) → Option R) (k0 : (List ((Int) × ((Int) × ((Int) × ((Int) × ((Int) × (Int))))))) → (List (((Int) × ((Int) × ((Int) × ((Int) × ((Int) × (Int)))))) × (Int))) → (List ((Int) × (Int))) → (List (Bool)) → Option R) (x0 : Int) (x1 : Int) (x2 : List ((Int) × ((Int) × ((Int) × ((Int) × ((Int) × (Int))))))) (x3 : List (((Int) × ((Int) × ((Int) × ((Int) × ((Int) × (Int)))))) × (Int))) (x4 : List ((Int) × (Int))) (x5 : List (Bool)) (x6 : List (Int)) : Option R :=
  br (decide (x1 < x0))
  (br (inB x1 (List.length x6))
   (br (decide ((Int.toNat x1) < (List.length x6)))
    (br (inB (IntKind.wrap .i64 ((List.getD x6 (Int.toNat x1) (0 : Int)) - (1 : Int))) (List.length x2))
     (br (decide ((Int.toNat (IntKind.wrap .i64 ((List.getD x6 (Int.toNat x1) (0 : Int)) - (1 : Int)))) < (List.length x2)))
      (br (decide ((List.getD x2 (Int.toNat (IntKind.wrap .i64 ((List.getD x6 (Int.toNat x1) (0 : Int)) - (1 : Int)))) ((0 : Int) , ((0 : Int) , ((0 : Int) , ((0 : Int) , ((0 : Int) , (0 : Int))))))).1 = (2 : Int)))
       (br (inB (List.getD x2 (Int.toNat (IntKind.wrap .i64 ((List.getD x6 (Int.toNat x1) (0 : Int)) - (1 : Int)))) ((0 : Int) , ((0 : Int) , ((0 : Int) , ((0 : Int) , ((0 : Int) , (0 : Int))))))).2.2.1 (64 : Nat))
        (br (decide ((Int.toNat (List.getD x2 (Int.toNat (IntKind.wrap .i64 ((List.getD x6 (Int.toNat x1) (0 : Int)) - (1 : Int)))) ((0 : Int) , ((0 : Int) , ((0 : Int) , ((0 : Int) , ((0 : Int) , (0 : Int))))))).2.2.1) < (64 : Nat)))
         (nx x0 (IntKind.wrap .i64 (x1 + (1 : Int))) x2 x3 x4 (List.set x5 (Int.toNat (List.getD x2 (Int.toNat (IntKind.wrap .i64 ((List.getD x6 (Int.toNat x1) (0 : Int)) - (1 : Int)))) ((0 : Int) , ((0 : Int) , ((0 : Int) , ((0 : Int) , ((0 : Int) , (0 : Int))))))).2.2.1) true) x6)
         (none))
        (none))
       (nx x0 (IntKind.wrap .i64 (x1 + (1 : Int))) x2 x3 x4 x5 x6))
      (none))
     (none))
    (none))
   (none))
  (k0 x2 x3 x4 x5)
noncomputable def term_Arena_Vars_43b4_l1_T0 (N : Nat) (c0 : term_Arena_Under_2549_Ty) (c1 : term_Arena_there_2549_Ty) {R : Type} (nx : (List (Bool)) → (Int) → (List ((Int) × ((Int) × ((Int) × ((Int) × ((Int) × (Int))))))) → (List (((Int) × ((Int) × ((Int) × ((Int) × ((Int) × (Int)))))) × (Int))) → (List ((Int) × (Int))) → (List (Int)) → Option R) (k0 : (List ((Int) × ((Int) × ((Int) × ((Int) × ((Int) × (Int))))))) → (List (((Int) × ((Int) × ((Int) × ((Int) × ((Int) × (Int)))))) × (Int))) → (List ((Int) × (Int))) → (List (Int)) → Option R) (x0 : List (Bool)) (x1 : Int) (x2 : List ((Int) × ((Int) × ((Int) × ((Int) × ((Int) × (Int))))))) (x3 : List (((Int) × ((Int) × ((Int) × ((Int) × ((Int) × (Int)))))) × (Int))) (x4 : List ((Int) × (Int))) (x5 : List (Int)) : Option R :=
  br (decide (x1 < (64 : Int)))
  (br (inB x1 (64 : Nat))
   (br (List.getD x0 (Int.toNat x1) false)
    (br (((fits (0 : Nat) (List.length x5) x5) && (decide ((((List.length x5) + (1 : Nat)) * (8 : Nat)) ≤ (70368744177664 : Nat)))) && true)
     (nx x0 (IntKind.wrap .i64 (x1 + (1 : Int))) x2 x3 x4 ((sub x5 (0 : Nat) (List.length x5)) ++ (x1 :: ([] : List ((Sh.int IntKind.i64).T)))))
     (none))
    (nx x0 (IntKind.wrap .i64 (x1 + (1 : Int))) x2 x3 x4 x5))
   (none))
  (k0 x2 x3 x4 x5)
noncomputable def term_Arena_Vars_43b4_l1 (N : Nat) {R : Type} (k0 : (List ((Int) × ((Int) × ((Int) × ((Int) × ((Int) × (Int))))))) → (List (((Int) × ((Int) × ((Int) × ((Int) × ((Int) × (Int)))))) × (Int))) → (List ((Int) × (Int))) → (List (Int)) → Option R) : Nat → (List (Bool)) → (Int) → (List ((Int) × ((Int) × ((Int) × ((Int) × ((Int) × (Int))))))) → (List (((Int) × ((Int) × ((Int) × ((Int) × ((Int) × (Int)))))) × (Int))) → (List ((Int) × (Int))) → (List (Int)) → Option R
  | 0, _, _, _, _, _, _ => none
  | n + 1, x0, x1, x2, x3, x4, x5 => term_Arena_Vars_43b4_l1_T0 N (@term_Arena_Under_2549 N) (@term_Arena_there_2549 N) (fun x0 x1 x2 x3 x4 x5 => term_Arena_Vars_43b4_l1 N k0 n x0 x1 x2 x3 x4 x5) k0 x0 x1 x2 x3 x4 x5
noncomputable def term_Arena_Vars_43b4_l0 (N : Nat) {R : Type} (k0 : (List ((Int) × ((Int) × ((Int) × ((Int) × ((Int) × (Int))))))) → (List (((Int) × ((Int) × ((Int) × ((Int) × ((Int) × (Int)))))) × (Int))) → (List ((Int) × (Int))) → (List (Bool)) → Option R) : Nat → (Int) → (Int) → (List ((Int) × ((Int) × ((Int) × ((Int) × ((Int) × (Int))))))) → (List (((Int) × ((Int) × ((Int) × ((Int) × ((Int) × (Int)))))) × (Int))) → (List ((Int) × (Int))) → (List (Bool)) → (List (Int)) → Option R
  | 0, _, _, _, _, _, _, _ => none
  | n + 1, x0, x1, x2, x3, x4, x5, x6 => term_Arena_Vars_43b4_l0_T0 N (@term_Arena_Under_2549 N) (@term_Arena_there_2549 N) (@term_Arena_Vars_43b4_l1 N) (fun x0 x1 x2 x3 x4 x5 x6 => term_Arena_Vars_43b4_l0 N k0 n x0 x1 x2 x3 x4 x5 x6) k0 x0 x1 x2 x3 x4 x5 x6
noncomputable def term_Arena_Vars_43b4_T (N : Nat) (c0 : term_Arena_Under_2549_Ty) (c1 : term_Arena_there_2549_Ty) (w0 : term_Arena_Vars_43b4_l0_Ty) (w1 : term_Arena_Vars_43b4_l1_Ty) {R : Type} (x0 : Int) (x1 : List ((Int) × ((Int) × ((Int) × ((Int) × ((Int) × (Int))))))) (x2 : List (((Int) × ((Int) × ((Int) × ((Int) × ((Int) × (Int)))))) × (Int))) (x3 : List ((Int) × (Int))) (k0 : (List ((Int) × ((Int) × ((Int) × ((Int) × ((Int) × (Int))))))) → (List (((Int) × ((Int) × ((Int) × ((Int) × ((Int) × (Int)))))) × (Int))) → (List ((Int) × (Int))) → (List (Int)) → Option R) : Option R :=
  c1 x1 x2 x3 (x0 :: ([] : List ((Sh.int IntKind.i64).T)))
  (fun b802 l803 l804 l805 l806 => br b802
   (c0 l803 l804 l805 (x0 :: ([] : List ((Sh.int IntKind.i64).T)))
    (fun l807 l808 l809 l810 l811 => w0
     (fun l812 l813 l814 l815 => w1
      (fun l816 l817 l818 l819 => k0 l816 l817 l818 l819)
      N l815 (0 : Int) l812 l813 l814 ([] : List ((Sh.int IntKind.i64).T)))
     N (Nat.cast (List.length l811) : Int) (0 : Int) l807 l808 l809 (List.replicate (64 : Nat) false) l811))
   (w1
    (fun l820 l821 l822 l823 => k0 l820 l821 l822 l823)
    N (List.replicate (64 : Nat) false) (0 : Int) l803 l804 l805 ([] : List ((Sh.int IntKind.i64).T))))
noncomputable def term_Arena_Vars_43b4 (N : Nat) {R : Type} (x0 : Int) (x1 : List ((Int) × ((Int) × ((Int) × ((Int) × ((Int) × (Int))))))) (x2 : List (((Int) × ((Int) × ((Int) × ((Int) × ((Int) × (Int)))))) × (Int))) (x3 : List ((Int) × (Int))) (k0 : (List ((Int) × ((Int) × ((Int) × ((Int) × ((Int) × (Int))))))) → (List (((Int) × ((Int) × ((Int) × ((Int) × ((Int) × (Int)))))) × (Int))) → (List ((Int) × (Int))) → (List (Int)) → Option R) : Option R := term_Arena_Vars_43b4_T N (@term_Arena_Under_2549 N) (@term_Arena_there_2549 N) (@term_Arena_Vars_43b4_l0 N) (@term_Arena_Vars_43b4_l1 N) x0 x1 x2 x3 k0
abbrev ref1_May_Ty : Type 1 := {R : Type} → (Int) → ((Bool) → Option R) → Option R
noncomputable def ref1_May_T (N : Nat) {R : Type} (x0 : Int) (k0 : (Bool) → Option R) : Option R :=
  br (!(decide (x0 = (1 : Int))))
  (br (!(decide (x0 = (8 : Int))))
   (k0 (decide (x0 = (16 : Int))))
   (k0 true))
  (k0 true)
noncomputable def ref1_May (N : Nat) {R : Type} (x0 : Int) (k0 : (Bool) → Option R) : Option R := ref1_May_T N x0 k0
abbrev ref1_Mask_Ty : Type 1 := {R : Type} → (Int) → ((Int) → Option R) → Option R
noncomputable def ref1_Mask_T (N : Nat) (c0 : ref1_May_Ty) {R : Type} (x0 : Int) (k0 : (Int) → Option R) : Option R :=
  c0 x0
  (fun b1025 => br (!b1025)
   (k0 (0 : Int))
   (br (decide ((IntKind.wrap .u64 x0) < (0 : Int)))
    (none)
    (k0 (IntKind.wrap .u16 ((shlI .u16 (1 : Int) (IntKind.wrap .u64 x0)) - (1 : Int))))))
noncomputable def ref1_Mask (N : Nat) {R : Type} (x0 : Int) (k0 : (Int) → Option R) : Option R := ref1_Mask_T N (@ref1_May N) x0 k0
abbrev term_Arena_Ite_12d2_Ty : Type 1 := {R : Type} → (Int) → (Int) → (Int) → (List ((Int) × ((Int) × ((Int) × ((Int) × ((Int) × (Int))))))) → (List (((Int) × ((Int) × ((Int) × ((Int) × ((Int) × (Int)))))) × (Int))) → (List ((Int) × (Int))) → ((Int) → (Int) → (List (((Int) × ((Int) × ((Int) × ((Int) × ((Int) × (Int)))))) × (Int))) → (List ((Int) × (Int))) → (List ((Int) × ((Int) × ((Int) × ((Int) × ((Int) × (Int))))))) → Option R) → Option R
noncomputable def term_Arena_Ite_12d2_T (N : Nat) (c0 : term_Arena_keep_a25e_Ty) (c1 : term_Arena_Known_43b4_Ty) (c2 : term_Arena_Width_43b4_Ty) (c3 : term_Arena_there_2549_Ty) {R : Type} (x0 : Int) (x1 : Int) (x2 : Int) (x3 : List ((Int) × ((Int) × ((Int) × ((Int) × ((Int) × (Int))))))) (x4 : List (((Int) × ((Int) × ((Int) × ((Int) × ((Int) × (Int)))))) × (Int))) (x5 : List ((Int) × (Int))) (k0 : (Int) → (Int) → (List (((Int) × ((Int) × ((Int) × ((Int) × ((Int) × (Int)))))) × (Int))) → (List ((Int) × (Int))) → (List ((Int) × ((Int) × ((Int) × ((Int) × ((Int) × (Int))))))) → Option R) : Option R :=
  c3 x3 x4 x5 (x0 :: (x1 :: (x2 :: ([] : List ((Sh.int IntKind.i64).T)))))
  (fun b1140 l1141 l1142 l1143 l1144 => br (!b1140)
   (k0 (0 : Int) (1 : Int) l1142 l1143 l1141)
   (c2 x0 l1141 l1142 l1143
    (fun i1145 l1146 l1147 l1148 => br (!(!(decide (i1145 = (1 : Int)))))
     (c2 x1 l1146 l1147 l1148
      (fun i1149 l1150 l1151 l1152 => c2 x2 l1150 l1151 l1152
       (fun i1153 l1154 l1155 l1156 => br (!(decide (i1149 = i1153)))
        (k0 (0 : Int) (2 : Int) l1155 l1156 l1154)
        (c1 x0 l1154 l1155 l1156
         (fun i1157 b1158 l1159 l1160 l1161 => br (!(decide (x1 = x2)))
          (br b1158
           (br (decide (i1157 = (1 : Int)))
            (k0 x1 (0 : Int) l1160 l1161 l1159)
            (br b1158
             (k0 x2 (0 : Int) l1160 l1161 l1159)
             (c2 x1 l1159 l1160 l1161
              (fun i1162 l1163 l1164 l1165 => c0 (16 : Int) i1162 (0 : Int) x0 x1 x2 l1163 l1164 l1165
               (fun i1166 i1167 l1168 l1169 l1170 => k0 i1166 i1167 l1168 l1169 l1170)))))
           (br b1158
            (k0 x2 (0 : Int) l1160 l1161 l1159)
            (c2 x1 l1159 l1160 l1161
             (fun i1171 l1172 l1173 l1174 => c0 (16 : Int) i1171 (0 : Int) x0 x1 x2 l1172 l1173 l1174
              (fun i1175 i1176 l1177 l1178 l1179 => k0 i1175 i1176 l1177 l1178 l1179)))))
          (k0 x1 (0 : Int) l1160 l1161 l1159))))))
     (k0 (0 : Int) (2 : Int) l1147 l1148 l1146))))
noncomputable def term_Arena_Ite_12d2 (N : Nat) {R : Type} (x0 : Int) (x1 : Int) (x2 : Int) (x3 : List ((Int) × ((Int) × ((Int) × ((Int) × ((Int) × (Int))))))) (x4 : List (((Int) × ((Int) × ((Int) × ((Int) × ((Int) × (Int)))))) × (Int))) (x5 : List ((Int) × (Int))) (k0 : (Int) → (Int) → (List (((Int) × ((Int) × ((Int) × ((Int) × ((Int) × (Int)))))) × (Int))) → (List ((Int) × (Int))) → (List ((Int) × ((Int) × ((Int) × ((Int) × ((Int) × (Int))))))) → Option R) : Option R := term_Arena_Ite_12d2_T N (@term_Arena_keep_a25e N) (@term_Arena_Known_43b4 N) (@term_Arena_Width_43b4 N) (@term_Arena_there_2549 N) x0 x1 x2 x3 x4 x5 k0
abbrev term_Arena_Two_12d2_Ty : Type 1 := {R : Type} → (Int) → (Int) → (Int) → (List ((Int) × ((Int) × ((Int) × ((Int) × ((Int) × (Int))))))) → (List (((Int) × ((Int) × ((Int) × ((Int) × ((Int) × (Int)))))) × (Int))) → (List ((Int) × (Int))) → ((Int) → (Int) → (List (((Int) × ((Int) × ((Int) × ((Int) × ((Int) × (Int)))))) × (Int))) → (List ((Int) × (Int))) → (List ((Int) × ((Int) × ((Int) × ((Int) × ((Int) × (Int))))))) → Option R) → Option R
abbrev term_Arena_less_12d2_Ty : Type 1 := {R : Type} → (Int) → (Int) → (Int) → (List ((Int) × ((Int) × ((Int) × ((Int) × ((Int) × (Int))))))) → (List (((Int) × ((Int) × ((Int) × ((Int) × ((Int) × (Int)))))) × (Int))) → (List ((Int) × (Int))) → ((Int) → (Int) → (Bool) → (List (((Int) × ((Int) × ((Int) × ((Int) × ((Int) × (Int)))))) × (Int))) → (List ((Int) × (Int))) → (List ((Int) × ((Int) × ((Int) × ((Int) × ((Int) × (Int))))))) → Option R) → Option R
abbrev term_Arena_with_7a2f_Ty : Type 1 := {R : Type} → (Int) → (Int) → (Int) → (List ((Int) × ((Int) × ((Int) × ((Int) × ((Int) × (Int))))))) → (List (((Int) × ((Int) × ((Int) × ((Int) × ((Int) × (Int)))))) × (Int))) → (List ((Int) × (Int))) → ((Int) → (Int) → (Bool) → (List (((Int) × ((Int) × ((Int) × ((Int) × ((Int) × (Int)))))) × (Int))) → (List ((Int) × (Int))) → (List ((Int) × ((Int) × ((Int) × ((Int) × ((Int) × (Int))))))) → Option R) → Option R
abbrev term_Arena_equal_2c81_Ty : Type 1 := {R : Type} → (Int) → (Int) → (List ((Int) × ((Int) × ((Int) × ((Int) × ((Int) × (Int))))))) → (List (((Int) × ((Int) × ((Int) × ((Int) × ((Int) × (Int)))))) × (Int))) → (List ((Int) × (Int))) → ((Int) → (Int) → (Bool) → (List (((Int) × ((Int) × ((Int) × ((Int) × ((Int) × (Int)))))) × (Int))) → (List ((Int) × (Int))) → (List ((Int) × ((Int) × ((Int) × ((Int) × ((Int) × (Int))))))) → Option R) → Option R
noncomputable def term_Arena_Two_12d2_T (N : Nat) (c0 : term_Arena_keep_a25e_Ty) (c1 : term_Arena_less_12d2_Ty) (c2 : term_turns_Ty) (c3 : term_Arena_Const_2c81_Ty) (c4 : wide_Out_Ty) (c5 : wide_Do_Ty) (c6 : term_Arena_Known_43b4_Ty) (c7 : term_Arena_Width_43b4_Ty) (c8 : term_Arena_there_2549_Ty) (c9 : term_two_Ty) {R : Type} (x0 : Int) (x1 : Int) (x2 : Int) (x3 : List ((Int) × ((Int) × ((Int) × ((Int) × ((Int) × (Int))))))) (x4 : List (((Int) × ((Int) × ((Int) × ((Int) × ((Int) × (Int)))))) × (Int))) (x5 : List ((Int) × (Int))) (k0 : (Int) → (Int) → (List (((Int) × ((Int) × ((Int) × ((Int) × ((Int) × (Int)))))) × (Int))) → (List ((Int) × (Int))) → (List ((Int) × ((Int) × ((Int) × ((Int) × ((Int) × (Int))))))) → Option R) : Option R :=
  c9 x0
  (fun b118 => br (!b118)
   (k0 (0 : Int) (5 : Int) x4 x5 x3)
   (c8 x3 x4 x5 (x1 :: (x2 :: ([] : List ((Sh.int IntKind.i64).T))))
    (fun b119 l120 l121 l122 l123 => br (!b119)
     (k0 (0 : Int) (1 : Int) l121 l122 l120)
     (c7 x1 l120 l121 l122
      (fun i124 l125 l126 l127 => c7 x2 l125 l126 l127
       (fun i128 l129 l130 l131 => br (!(decide (i124 = i128)))
        (k0 (0 : Int) (2 : Int) l130 l131 l129)
        (c6 x1 l129 l130 l131
         (fun i132 b133 l134 l135 l136 => c6 x2 l134 l135 l136
          (fun i137 b138 l139 l140 l141 => br b133
           (br b138
            (c7 x1 l139 l140 l141
             (fun i142 l143 l144 l145 => c5 x0 i142 i132 i137
              (fun i146 i147 => c7 x1 l143 l144 l145
               (fun i148 l149 l150 l151 => c4 x0 i148
                (fun i152 => c3 i152 i146 l149 l150 l151
                 (fun i153 i154 l155 l156 l157 => k0 i153 i154 l155 l156 l157))))))
            (c2 x0
             (fun b158 => br b158
              (br (decide (x2 < x1))
               (c1 x0 x2 x1 l139 l140 l141
                (fun i553 i554 b555 l556 l557 l558 => br b555
                 (k0 i553 i554 l556 l557 l558)
                 (c7 x2 l558 l556 l557
                  (fun i559 l560 l561 l562 => c4 x0 i559
                   (fun i563 => c0 x0 i563 (0 : Int) x2 x1 (0 : Int) l560 l561 l562
                    (fun i564 i565 l566 l567 l568 => k0 i564 i565 l566 l567 l568))))))
               (c1 x0 x1 x2 l139 l140 l141
                (fun i569 i570 b571 l572 l573 l574 => br b571
                 (k0 i569 i570 l572 l573 l574)
                 (c7 x1 l574 l572 l573
                  (fun i575 l576 l577 l578 => c4 x0 i575
                   (fun i579 => c0 x0 i579 (0 : Int) x1 x2 (0 : Int) l576 l577 l578
                    (fun i580 i581 l582 l583 l584 => k0 i580 i581 l582 l583 l584)))))))
              (c1 x0 x1 x2 l139 l140 l141
               (fun i585 i586 b587 l588 l589 l590 => br b587
                (k0 i585 i586 l588 l589 l590)
                (c7 x1 l590 l588 l589
                 (fun i591 l592 l593 l594 => c4 x0 i591
                  (fun i595 => c0 x0 i595 (0 : Int) x1 x2 (0 : Int) l592 l593 l594
                   (fun i596 i597 l598 l599 l600 => k0 i596 i597 l598 l599 l600)))))))))
           (c2 x0
            (fun b601 => br b601
             (br (decide (x2 < x1))
              (c1 x0 x2 x1 l139 l140 l141
               (fun i602 i603 b604 l605 l606 l607 => br b604
                (k0 i602 i603 l605 l606 l607)
                (c7 x2 l607 l605 l606
                 (fun i608 l609 l610 l611 => c4 x0 i608
                  (fun i612 => c0 x0 i612 (0 : Int) x2 x1 (0 : Int) l609 l610 l611
                   (fun i613 i614 l615 l616 l617 => k0 i613 i614 l615 l616 l617))))))
              (c1 x0 x1 x2 l139 l140 l141
               (fun i618 i619 b620 l621 l622 l623 => br b620
                (k0 i618 i619 l621 l622 l623)
                (c7 x1 l623 l621 l622
                 (fun i624 l625 l626 l627 => c4 x0 i624
                  (fun i628 => c0 x0 i628 (0 : Int) x1 x2 (0 : Int) l625 l626 l627
                   (fun i629 i630 l631 l632 l633 => k0 i629 i630 l631 l632 l633)))))))
             (c1 x0 x1 x2 l139 l140 l141
              (fun i634 i635 b636 l637 l638 l639 => br b636
               (k0 i634 i635 l637 l638 l639)
               (c7 x1 l639 l637 l638
                (fun i640 l641 l642 l643 => c4 x0 i640
                 (fun i644 => c0 x0 i644 (0 : Int) x1 x2 (0 : Int) l641 l642 l643
                  (fun i645 i646 l647 l648 l649 => k0 i645 i646 l647 l648 l649)))))))))))))))))
noncomputable def term_Arena_less_12d2_T (N : Nat) (c0 : term_Arena_with_7a2f_Ty) (c1 : term_turns_Ty) (c2 : term_Arena_Known_43b4_Ty) (c3 : term_Arena_alike_99d8_Ty) {R : Type} (x0 : Int) (x1 : Int) (x2 : Int) (x3 : List ((Int) × ((Int) × ((Int) × ((Int) × ((Int) × (Int))))))) (x4 : List (((Int) × ((Int) × ((Int) × ((Int) × ((Int) × (Int)))))) × (Int))) (x5 : List ((Int) × (Int))) (k0 : (Int) → (Int) → (Bool) → (List (((Int) × ((Int) × ((Int) × ((Int) × ((Int) × (Int)))))) × (Int))) → (List ((Int) × (Int))) → (List ((Int) × ((Int) × ((Int) × ((Int) × ((Int) × (Int))))))) → Option R) : Option R :=
  br (decide (x1 = x2))
  (c3 x0 x1 x3 x4 x5
   (fun i513 i514 b515 l516 l517 l518 => k0 i513 i514 b515 l516 l517 l518))
  (c2 x1 x3 x4 x5
   (fun i519 b520 l521 l522 l523 => br b520
    (c1 x0
     (fun b524 => br b524
      (c0 x0 x2 i519 l521 l522 l523
       (fun i525 i526 b527 l528 l529 l530 => k0 i525 i526 b527 l528 l529 l530))
      (c2 x2 l521 l522 l523
       (fun i531 b532 l533 l534 l535 => br b532
        (c0 x0 x1 i531 l533 l534 l535
         (fun i536 i537 b538 l539 l540 l541 => k0 i536 i537 b538 l539 l540 l541))
        (k0 (0 : Int) (0 : Int) false l534 l535 l533)))))
    (c2 x2 l521 l522 l523
     (fun i542 b543 l544 l545 l546 => br b543
      (c0 x0 x1 i542 l544 l545 l546
       (fun i547 i548 b549 l550 l551 l552 => k0 i547 i548 b549 l550 l551 l552))
      (k0 (0 : Int) (0 : Int) false l545 l546 l544)))))
noncomputable def term_Arena_with_7a2f_T (N : Nat) (c0 : term_Arena_equal_2c81_Ty) (c1 : wide_Mask_Ty) (c2 : term_Arena_Const_2c81_Ty) (c3 : wide_Out_Ty) (c4 : term_Arena_Width_43b4_Ty) {R : Type} (x0 : Int) (x1 : Int) (x2 : Int) (x3 : List ((Int) × ((Int) × ((Int) × ((Int) × ((Int) × (Int))))))) (x4 : List (((Int) × ((Int) × ((Int) × ((Int) × ((Int) × (Int)))))) × (Int))) (x5 : List ((Int) × (Int))) (k0 : (Int) → (Int) → (Bool) → (List (((Int) × ((Int) × ((Int) × ((Int) × ((Int) × (Int)))))) × (Int))) → (List ((Int) × (Int))) → (List ((Int) × ((Int) × ((Int) × ((Int) × ((Int) × (Int))))))) → Option R) : Option R :=
  c4 x1 x3 x4 x5
  (fun i218 l219 l220 l221 => br (decide (x2 = (0 : Int)))
   (br (!(decide (x0 = (4 : Int))))
    (br (!(decide (x0 = (9 : Int))))
     (br (decide (x0 = (15 : Int)))
      (c3 x0 i218
       (fun i222 => c2 i222 (0 : Int) l219 l220 l221
        (fun i223 i224 l225 l226 l227 => k0 i223 i224 true l225 l226 l227)))
      (br (decide (x2 = (0 : Int)))
       (br (!(decide (x0 = (5 : Int))))
        (br (!(decide (x0 = (6 : Int))))
         (br (!(decide (x0 = (7 : Int))))
          (br (!(decide (x0 = (8 : Int))))
           (br (!(decide (x0 = (12 : Int))))
            (br (!(decide (x0 = (13 : Int))))
             (br (decide (x0 = (11 : Int)))
              (k0 x1 (0 : Int) true l220 l221 l219)
              (c1 i218
               (fun i228 => br (decide (x2 = i228))
                (br (!(decide (x0 = (4 : Int))))
                 (br (decide (x2 = (1 : Int)))
                  (br (!(decide (x0 = (9 : Int))))
                   (br (decide (x0 = (10 : Int)))
                    (k0 x1 (0 : Int) true l220 l221 l219)
                    (br (decide (x0 = (14 : Int)))
                     (c0 x1 x2 l219 l220 l221
                      (fun i385 i386 b387 l388 l389 l390 => k0 i385 i386 b387 l388 l389 l390))
                     (k0 (0 : Int) (0 : Int) false l220 l221 l219)))
                   (k0 x1 (0 : Int) true l220 l221 l219))
                  (br (decide (x0 = (14 : Int)))
                   (c0 x1 x2 l219 l220 l221
                    (fun i391 i392 b393 l394 l395 l396 => k0 i391 i392 b393 l394 l395 l396))
                   (k0 (0 : Int) (0 : Int) false l220 l221 l219)))
                 (k0 x1 (0 : Int) true l220 l221 l219))
                (br (decide (x2 = (1 : Int)))
                 (br (!(decide (x0 = (9 : Int))))
                  (br (decide (x0 = (10 : Int)))
                   (k0 x1 (0 : Int) true l220 l221 l219)
                   (br (decide (x0 = (14 : Int)))
                    (c0 x1 x2 l219 l220 l221
                     (fun i397 i398 b399 l400 l401 l402 => k0 i397 i398 b399 l400 l401 l402))
                    (k0 (0 : Int) (0 : Int) false l220 l221 l219)))
                  (k0 x1 (0 : Int) true l220 l221 l219))
                 (br (decide (x0 = (14 : Int)))
                  (c0 x1 x2 l219 l220 l221
                   (fun i403 i404 b405 l406 l407 l408 => k0 i403 i404 b405 l406 l407 l408))
                  (k0 (0 : Int) (0 : Int) false l220 l221 l219))))))
             (k0 x1 (0 : Int) true l220 l221 l219))
            (k0 x1 (0 : Int) true l220 l221 l219))
           (k0 x1 (0 : Int) true l220 l221 l219))
          (k0 x1 (0 : Int) true l220 l221 l219))
         (k0 x1 (0 : Int) true l220 l221 l219))
        (k0 x1 (0 : Int) true l220 l221 l219))
       (c1 i218
        (fun i409 => br (decide (x2 = i409))
         (br (!(decide (x0 = (4 : Int))))
          (br (decide (x2 = (1 : Int)))
           (br (!(decide (x0 = (9 : Int))))
            (br (decide (x0 = (10 : Int)))
             (k0 x1 (0 : Int) true l220 l221 l219)
             (br (decide (x0 = (14 : Int)))
              (c0 x1 x2 l219 l220 l221
               (fun i410 i411 b412 l413 l414 l415 => k0 i410 i411 b412 l413 l414 l415))
              (k0 (0 : Int) (0 : Int) false l220 l221 l219)))
            (k0 x1 (0 : Int) true l220 l221 l219))
           (br (decide (x0 = (14 : Int)))
            (c0 x1 x2 l219 l220 l221
             (fun i416 i417 b418 l419 l420 l421 => k0 i416 i417 b418 l419 l420 l421))
            (k0 (0 : Int) (0 : Int) false l220 l221 l219)))
          (k0 x1 (0 : Int) true l220 l221 l219))
         (br (decide (x2 = (1 : Int)))
          (br (!(decide (x0 = (9 : Int))))
           (br (decide (x0 = (10 : Int)))
            (k0 x1 (0 : Int) true l220 l221 l219)
            (br (decide (x0 = (14 : Int)))
             (c0 x1 x2 l219 l220 l221
              (fun i422 i423 b424 l425 l426 l427 => k0 i422 i423 b424 l425 l426 l427))
             (k0 (0 : Int) (0 : Int) false l220 l221 l219)))
           (k0 x1 (0 : Int) true l220 l221 l219))
          (br (decide (x0 = (14 : Int)))
           (c0 x1 x2 l219 l220 l221
            (fun i428 i429 b430 l431 l432 l433 => k0 i428 i429 b430 l431 l432 l433))
           (k0 (0 : Int) (0 : Int) false l220 l221 l219)))))))
     (c3 x0 i218
      (fun i434 => c2 i434 (0 : Int) l219 l220 l221
       (fun i435 i436 l437 l438 l439 => k0 i435 i436 true l437 l438 l439))))
    (c3 x0 i218
     (fun i440 => c2 i440 (0 : Int) l219 l220 l221
      (fun i441 i442 l443 l444 l445 => k0 i441 i442 true l443 l444 l445))))
   (br (decide (x2 = (0 : Int)))
    (br (!(decide (x0 = (5 : Int))))
     (br (!(decide (x0 = (6 : Int))))
      (br (!(decide (x0 = (7 : Int))))
       (br (!(decide (x0 = (8 : Int))))
        (br (!(decide (x0 = (12 : Int))))
         (br (!(decide (x0 = (13 : Int))))
          (br (decide (x0 = (11 : Int)))
           (k0 x1 (0 : Int) true l220 l221 l219)
           (c1 i218
            (fun i446 => br (decide (x2 = i446))
             (br (!(decide (x0 = (4 : Int))))
              (br (decide (x2 = (1 : Int)))
               (br (!(decide (x0 = (9 : Int))))
                (br (decide (x0 = (10 : Int)))
                 (k0 x1 (0 : Int) true l220 l221 l219)
                 (br (decide (x0 = (14 : Int)))
                  (c0 x1 x2 l219 l220 l221
                   (fun i447 i448 b449 l450 l451 l452 => k0 i447 i448 b449 l450 l451 l452))
                  (k0 (0 : Int) (0 : Int) false l220 l221 l219)))
                (k0 x1 (0 : Int) true l220 l221 l219))
               (br (decide (x0 = (14 : Int)))
                (c0 x1 x2 l219 l220 l221
                 (fun i453 i454 b455 l456 l457 l458 => k0 i453 i454 b455 l456 l457 l458))
                (k0 (0 : Int) (0 : Int) false l220 l221 l219)))
              (k0 x1 (0 : Int) true l220 l221 l219))
             (br (decide (x2 = (1 : Int)))
              (br (!(decide (x0 = (9 : Int))))
               (br (decide (x0 = (10 : Int)))
                (k0 x1 (0 : Int) true l220 l221 l219)
                (br (decide (x0 = (14 : Int)))
                 (c0 x1 x2 l219 l220 l221
                  (fun i459 i460 b461 l462 l463 l464 => k0 i459 i460 b461 l462 l463 l464))
                 (k0 (0 : Int) (0 : Int) false l220 l221 l219)))
               (k0 x1 (0 : Int) true l220 l221 l219))
              (br (decide (x0 = (14 : Int)))
               (c0 x1 x2 l219 l220 l221
                (fun i465 i466 b467 l468 l469 l470 => k0 i465 i466 b467 l468 l469 l470))
               (k0 (0 : Int) (0 : Int) false l220 l221 l219))))))
          (k0 x1 (0 : Int) true l220 l221 l219))
         (k0 x1 (0 : Int) true l220 l221 l219))
        (k0 x1 (0 : Int) true l220 l221 l219))
       (k0 x1 (0 : Int) true l220 l221 l219))
      (k0 x1 (0 : Int) true l220 l221 l219))
     (k0 x1 (0 : Int) true l220 l221 l219))
    (c1 i218
     (fun i471 => br (decide (x2 = i471))
      (br (!(decide (x0 = (4 : Int))))
       (br (decide (x2 = (1 : Int)))
        (br (!(decide (x0 = (9 : Int))))
         (br (decide (x0 = (10 : Int)))
          (k0 x1 (0 : Int) true l220 l221 l219)
          (br (decide (x0 = (14 : Int)))
           (c0 x1 x2 l219 l220 l221
            (fun i472 i473 b474 l475 l476 l477 => k0 i472 i473 b474 l475 l476 l477))
           (k0 (0 : Int) (0 : Int) false l220 l221 l219)))
         (k0 x1 (0 : Int) true l220 l221 l219))
        (br (decide (x0 = (14 : Int)))
         (c0 x1 x2 l219 l220 l221
          (fun i478 i479 b480 l481 l482 l483 => k0 i478 i479 b480 l481 l482 l483))
         (k0 (0 : Int) (0 : Int) false l220 l221 l219)))
       (k0 x1 (0 : Int) true l220 l221 l219))
      (br (decide (x2 = (1 : Int)))
       (br (!(decide (x0 = (9 : Int))))
        (br (decide (x0 = (10 : Int)))
         (k0 x1 (0 : Int) true l220 l221 l219)
         (br (decide (x0 = (14 : Int)))
          (c0 x1 x2 l219 l220 l221
           (fun i484 i485 b486 l487 l488 l489 => k0 i484 i485 b486 l487 l488 l489))
          (k0 (0 : Int) (0 : Int) false l220 l221 l219)))
        (k0 x1 (0 : Int) true l220 l221 l219))
       (br (decide (x0 = (14 : Int)))
        (c0 x1 x2 l219 l220 l221
         (fun i490 i491 b492 l493 l494 l495 => k0 i490 i491 b492 l493 l494 l495))
        (k0 (0 : Int) (0 : Int) false l220 l221 l219)))))))
noncomputable def term_Arena_equal_2c81_T (N : Nat) (c0 : term_Arena_Two_12d2_Ty) (c1 : term_Arena_Const_2c81_Ty) (c2 : wide_Mask_Ty) (c3 : term_Arena_Width_43b4_Ty) (c4 : term_Arena_Not_43b4_Ty) (c5 : term_Arena_Node_43b4_Ty) {R : Type} (x0 : Int) (x1 : Int) (x2 : List ((Int) × ((Int) × ((Int) × ((Int) × ((Int) × (Int))))))) (x3 : List (((Int) × ((Int) × ((Int) × ((Int) × ((Int) × (Int)))))) × (Int))) (x4 : List ((Int) × (Int))) (k0 : (Int) → (Int) → (Bool) → (List (((Int) × ((Int) × ((Int) × ((Int) × ((Int) × (Int)))))) × (Int))) → (List ((Int) × (Int))) → (List ((Int) × ((Int) × ((Int) × ((Int) × ((Int) × (Int))))))) → Option R) : Option R :=
  c5 x0 x2 x3 x4
  (fun i289 i290 i291 i292 i293 i294 b295 l296 l297 l298 => br (decide (i290 = (1 : Int)))
   (br (decide (x1 = (1 : Int)))
    (k0 x0 (0 : Int) true l297 l298 l296)
    (br (decide (i290 = (1 : Int)))
     (c4 x0 l296 l297 l298
      (fun i299 i300 l301 l302 l303 => k0 i299 i300 true l301 l302 l303))
     (br (decide (i289 = (17 : Int)))
      (c3 i292 l296 l297 l298
       (fun i304 l305 l306 l307 => c2 i304
        (fun i308 => br (decide (i308 < x1))
         (c1 (1 : Int) (0 : Int) l305 l306 l307
          (fun i309 i310 l311 l312 l313 => k0 i309 i310 true l311 l312 l313))
         (br (decide (i289 = (17 : Int)))
          (c3 i292 l305 l306 l307
           (fun i314 l315 l316 l317 => c1 i314 x1 l315 l316 l317
            (fun i318 i319 l320 l321 l322 => br (!(decide (i319 = (0 : Int))))
             (k0 (0 : Int) i319 true l320 l321 l322)
             (c0 (14 : Int) i292 i318 l322 l320 l321
              (fun i323 i324 l325 l326 l327 => k0 i323 i324 true l325 l326 l327)))))
          (k0 (0 : Int) (0 : Int) false l306 l307 l305)))))
      (br (decide (i289 = (17 : Int)))
       (c3 i292 l296 l297 l298
        (fun i328 l329 l330 l331 => c1 i328 x1 l329 l330 l331
         (fun i332 i333 l334 l335 l336 => br (!(decide (i333 = (0 : Int))))
          (k0 (0 : Int) i333 true l334 l335 l336)
          (c0 (14 : Int) i292 i332 l336 l334 l335
           (fun i337 i338 l339 l340 l341 => k0 i337 i338 true l339 l340 l341)))))
       (k0 (0 : Int) (0 : Int) false l297 l298 l296)))))
   (br (decide (i290 = (1 : Int)))
    (c4 x0 l296 l297 l298
     (fun i342 i343 l344 l345 l346 => k0 i342 i343 true l344 l345 l346))
    (br (decide (i289 = (17 : Int)))
     (c3 i292 l296 l297 l298
      (fun i347 l348 l349 l350 => c2 i347
       (fun i351 => br (decide (i351 < x1))
        (c1 (1 : Int) (0 : Int) l348 l349 l350
         (fun i352 i353 l354 l355 l356 => k0 i352 i353 true l354 l355 l356))
        (br (decide (i289 = (17 : Int)))
         (c3 i292 l348 l349 l350
          (fun i357 l358 l359 l360 => c1 i357 x1 l358 l359 l360
           (fun i361 i362 l363 l364 l365 => br (!(decide (i362 = (0 : Int))))
            (k0 (0 : Int) i362 true l363 l364 l365)
            (c0 (14 : Int) i292 i361 l365 l363 l364
             (fun i366 i367 l368 l369 l370 => k0 i366 i367 true l368 l369 l370)))))
         (k0 (0 : Int) (0 : Int) false l349 l350 l348)))))
     (br (decide (i289 = (17 : Int)))
      (c3 i292 l296 l297 l298
       (fun i371 l372 l373 l374 => c1 i371 x1 l372 l373 l374
        (fun i375 i376 l377 l378 l379 => br (!(decide (i376 = (0 : Int))))
         (k0 (0 : Int) i376 true l377 l378 l379)
         (c0 (14 : Int) i292 i375 l379 l377 l378
          (fun i380 i381 l382 l383 l384 => k0 i380 i381 true l382 l383 l384)))))
      (k0 (0 : Int) (0 : Int) false l297 l298 l296)))))
structure G_term_Arena_Two_Rec : Type 1 where
  term_Arena_Two_12d2 : term_Arena_Two_12d2_Ty
  term_Arena_less_12d2 : term_Arena_less_12d2_Ty
  term_Arena_with_7a2f : term_Arena_with_7a2f_Ty
  term_Arena_equal_2c81 : term_Arena_equal_2c81_Ty
noncomputable def G_term_Arena_Two_rec (N : Nat) : Nat → G_term_Arena_Two_Rec
  | 0 => ⟨fun {R} _ _ _ _ _ _ _ => none, fun {R} _ _ _ _ _ _ _ => none, fun {R} _ _ _ _ _ _ _ => none, fun {R} _ _ _ _ _ _ => none⟩
  | n + 1 => ⟨fun {R} x0 x1 x2 x3 x4 x5 k0 => term_Arena_Two_12d2_T N (@term_Arena_keep_a25e N) (@G_term_Arena_Two_Rec.term_Arena_less_12d2 (G_term_Arena_Two_rec N n)) (@term_turns N) (@term_Arena_Const_2c81 N) (@wide_Out N) (@wide_Do N) (@term_Arena_Known_43b4 N) (@term_Arena_Width_43b4 N) (@term_Arena_there_2549 N) (@term_two N) x0 x1 x2 x3 x4 x5 k0,
    fun {R} x0 x1 x2 x3 x4 x5 k0 => term_Arena_less_12d2_T N (@G_term_Arena_Two_Rec.term_Arena_with_7a2f (G_term_Arena_Two_rec N n)) (@term_turns N) (@term_Arena_Known_43b4 N) (@term_Arena_alike_99d8 N) x0 x1 x2 x3 x4 x5 k0,
    fun {R} x0 x1 x2 x3 x4 x5 k0 => term_Arena_with_7a2f_T N (@G_term_Arena_Two_Rec.term_Arena_equal_2c81 (G_term_Arena_Two_rec N n)) (@wide_Mask N) (@term_Arena_Const_2c81 N) (@wide_Out N) (@term_Arena_Width_43b4 N) x0 x1 x2 x3 x4 x5 k0,
    fun {R} x0 x1 x2 x3 x4 k0 => term_Arena_equal_2c81_T N (@G_term_Arena_Two_Rec.term_Arena_Two_12d2 (G_term_Arena_Two_rec N n)) (@term_Arena_Const_2c81 N) (@wide_Mask N) (@term_Arena_Width_43b4 N) (@term_Arena_Not_43b4 N) (@term_Arena_Node_43b4 N) x0 x1 x2 x3 x4 k0⟩
noncomputable def term_Arena_Two_12d2 (N : Nat) {R : Type} (x0 : Int) (x1 : Int) (x2 : Int) (x3 : List ((Int) × ((Int) × ((Int) × ((Int) × ((Int) × (Int))))))) (x4 : List (((Int) × ((Int) × ((Int) × ((Int) × ((Int) × (Int)))))) × (Int))) (x5 : List ((Int) × (Int))) (k0 : (Int) → (Int) → (List (((Int) × ((Int) × ((Int) × ((Int) × ((Int) × (Int)))))) × (Int))) → (List ((Int) × (Int))) → (List ((Int) × ((Int) × ((Int) × ((Int) × ((Int) × (Int))))))) → Option R) : Option R := (G_term_Arena_Two_rec N N).term_Arena_Two_12d2 x0 x1 x2 x3 x4 x5 k0
noncomputable def term_Arena_less_12d2 (N : Nat) {R : Type} (x0 : Int) (x1 : Int) (x2 : Int) (x3 : List ((Int) × ((Int) × ((Int) × ((Int) × ((Int) × (Int))))))) (x4 : List (((Int) × ((Int) × ((Int) × ((Int) × ((Int) × (Int)))))) × (Int))) (x5 : List ((Int) × (Int))) (k0 : (Int) → (Int) → (Bool) → (List (((Int) × ((Int) × ((Int) × ((Int) × ((Int) × (Int)))))) × (Int))) → (List ((Int) × (Int))) → (List ((Int) × ((Int) × ((Int) × ((Int) × ((Int) × (Int))))))) → Option R) : Option R := (G_term_Arena_Two_rec N N).term_Arena_less_12d2 x0 x1 x2 x3 x4 x5 k0
noncomputable def term_Arena_with_7a2f (N : Nat) {R : Type} (x0 : Int) (x1 : Int) (x2 : Int) (x3 : List ((Int) × ((Int) × ((Int) × ((Int) × ((Int) × (Int))))))) (x4 : List (((Int) × ((Int) × ((Int) × ((Int) × ((Int) × (Int)))))) × (Int))) (x5 : List ((Int) × (Int))) (k0 : (Int) → (Int) → (Bool) → (List (((Int) × ((Int) × ((Int) × ((Int) × ((Int) × (Int)))))) × (Int))) → (List ((Int) × (Int))) → (List ((Int) × ((Int) × ((Int) × ((Int) × ((Int) × (Int))))))) → Option R) : Option R := (G_term_Arena_Two_rec N N).term_Arena_with_7a2f x0 x1 x2 x3 x4 x5 k0
noncomputable def term_Arena_equal_2c81 (N : Nat) {R : Type} (x0 : Int) (x1 : Int) (x2 : List ((Int) × ((Int) × ((Int) × ((Int) × ((Int) × (Int))))))) (x3 : List (((Int) × ((Int) × ((Int) × ((Int) × ((Int) × (Int)))))) × (Int))) (x4 : List ((Int) × (Int))) (k0 : (Int) → (Int) → (Bool) → (List (((Int) × ((Int) × ((Int) × ((Int) × ((Int) × (Int)))))) × (Int))) → (List ((Int) × (Int))) → (List ((Int) × ((Int) × ((Int) × ((Int) × ((Int) × (Int))))))) → Option R) : Option R := (G_term_Arena_Two_rec N N).term_Arena_equal_2c81 x0 x1 x2 x3 x4 k0
abbrev term_Arena_quick_520c_Ty : Type 1 := {R : Type} → (Int) → (List ((Int) × ((Int) × ((Int) × ((Int) × ((Int) × (Int))))))) → (List (((Int) × ((Int) × ((Int) × ((Int) × ((Int) × (Int)))))) × (Int))) → (List ((Int) × (Int))) → (List (Int)) → (Int) → ((Int) → (Bool) → (List ((Int) × ((Int) × ((Int) × ((Int) × ((Int) × (Int))))))) → (List (((Int) × ((Int) × ((Int) × ((Int) × ((Int) × (Int)))))) × (Int))) → (List ((Int) × (Int))) → (List (Int)) → (Int) → Option R) → Option R
abbrev term_Arena_quick_8272_Ty : Type 1 := {R : Type} → (Int) → (Nat) → (Nat) → (List ((Int) × ((Int) × ((Int) × ((Int) × ((Int) × (Int))))))) → (List (((Int) × ((Int) × ((Int) × ((Int) × ((Int) × (Int)))))) × (Int))) → (List ((Int) × (Int))) → (List (Int)) → (Int) → ((Int) → (Bool) → (List ((Int) × ((Int) × ((Int) × ((Int) × ((Int) × (Int))))))) → (List (((Int) × ((Int) × ((Int) × ((Int) × ((Int) × (Int)))))) × (Int))) → (List ((Int) × (Int))) → (List (Int)) → (Int) → Option R) → Option R
noncomputable def term_Arena_quick_520c_T (N : Nat) (c0 : term_Value_7344_Ty) (c1 : term_Value_c09b_Ty) (c2 : term_Arena_Width_43b4_Ty) (c3 : term_Arena_quick_520c_Ty) (c4 : term_Arena_quick_8272_Ty) {R : Type} (x0 : Int) (x1 : List ((Int) × ((Int) × ((Int) × ((Int) × ((Int) × (Int))))))) (x2 : List (((Int) × ((Int) × ((Int) × ((Int) × ((Int) × (Int)))))) × (Int))) (x3 : List ((Int) × (Int))) (x4 : List (Int)) (x5 : Int) (k0 : (Int) → (Bool) → (List ((Int) × ((Int) × ((Int) × ((Int) × ((Int) × (Int))))))) → (List (((Int) × ((Int) × ((Int) × ((Int) × ((Int) × (Int)))))) × (Int))) → (List ((Int) × (Int))) → (List (Int)) → (Int) → Option R) : Option R :=
  br (decide (x0 = (0 : Int)))
  (k0 (0 : Int) true x1 x2 x3 x4 x5)
  (br (decide ((IntKind.wrap .i64 (x5 - (1 : Int))) < (0 : Int)))
   (k0 (0 : Int) false x1 x2 x3 x4 (IntKind.wrap .i64 (x5 - (1 : Int))))
   (br (inB (IntKind.wrap .i64 (x0 - (1 : Int))) (List.length x1))
    (br (decide ((Int.toNat (IntKind.wrap .i64 (x0 - (1 : Int)))) < (List.length x1)))
     (c3 (List.getD x1 (Int.toNat (IntKind.wrap .i64 (x0 - (1 : Int)))) ((0 : Int) , ((0 : Int) , ((0 : Int) , ((0 : Int) , ((0 : Int) , (0 : Int))))))).2.2.2.1 x1 x2 x3 x4 (IntKind.wrap .i64 (x5 - (1 : Int)))
      (fun i692 b693 l694 l695 l696 l697 i698 => br (!b693)
       (k0 (0 : Int) false l694 l695 l696 l697 i698)
       (c3 (List.getD x1 (Int.toNat (IntKind.wrap .i64 (x0 - (1 : Int)))) ((0 : Int) , ((0 : Int) , ((0 : Int) , ((0 : Int) , ((0 : Int) , (0 : Int))))))).2.2.2.2.1 l694 l695 l696 l697 i698
        (fun i699 b700 l701 l702 l703 l704 i705 => br (!b700)
         (k0 (0 : Int) false l701 l702 l703 l704 i705)
         (c3 (List.getD x1 (Int.toNat (IntKind.wrap .i64 (x0 - (1 : Int)))) ((0 : Int) , ((0 : Int) , ((0 : Int) , ((0 : Int) , ((0 : Int) , (0 : Int))))))).2.2.2.2.2 l701 l702 l703 l704 i705
          (fun i706 b707 l708 l709 l710 l711 i712 => c2 (List.getD x1 (Int.toNat (IntKind.wrap .i64 (x0 - (1 : Int)))) ((0 : Int) , ((0 : Int) , ((0 : Int) , ((0 : Int) , ((0 : Int) , (0 : Int))))))).2.2.2.1 l708 l709 l710
           (fun i713 l714 l715 l716 => br (decide ((List.getD x1 (Int.toNat (IntKind.wrap .i64 (x0 - (1 : Int)))) ((0 : Int) , ((0 : Int) , ((0 : Int) , ((0 : Int) , ((0 : Int) , (0 : Int))))))).1 = (List.getD x1 (Int.toNat (IntKind.wrap .i64 (x0 - (1 : Int)))) ((0 : Int) , ((0 : Int) , ((0 : Int) , ((0 : Int) , ((0 : Int) , (0 : Int))))))).1))
            (br (decide ((List.getD x1 (Int.toNat (IntKind.wrap .i64 (x0 - (1 : Int)))) ((0 : Int) , ((0 : Int) , ((0 : Int) , ((0 : Int) , ((0 : Int) , (0 : Int))))))).2.1 = (List.getD x1 (Int.toNat (IntKind.wrap .i64 (x0 - (1 : Int)))) ((0 : Int) , ((0 : Int) , ((0 : Int) , ((0 : Int) , ((0 : Int) , (0 : Int))))))).2.1))
             (br (decide ((List.getD x1 (Int.toNat (IntKind.wrap .i64 (x0 - (1 : Int)))) ((0 : Int) , ((0 : Int) , ((0 : Int) , ((0 : Int) , ((0 : Int) , (0 : Int))))))).2.2.1 = (List.getD x1 (Int.toNat (IntKind.wrap .i64 (x0 - (1 : Int)))) ((0 : Int) , ((0 : Int) , ((0 : Int) , ((0 : Int) , ((0 : Int) , (0 : Int))))))).2.2.1))
              (br (decide ((List.getD x1 (Int.toNat (IntKind.wrap .i64 (x0 - (1 : Int)))) ((0 : Int) , ((0 : Int) , ((0 : Int) , ((0 : Int) , ((0 : Int) , (0 : Int))))))).2.2.2.1 = (List.getD x1 (Int.toNat (IntKind.wrap .i64 (x0 - (1 : Int)))) ((0 : Int) , ((0 : Int) , ((0 : Int) , ((0 : Int) , ((0 : Int) , (0 : Int))))))).2.2.2.1))
               (br (decide ((List.getD x1 (Int.toNat (IntKind.wrap .i64 (x0 - (1 : Int)))) ((0 : Int) , ((0 : Int) , ((0 : Int) , ((0 : Int) , ((0 : Int) , (0 : Int))))))).2.2.2.2.1 = (List.getD x1 (Int.toNat (IntKind.wrap .i64 (x0 - (1 : Int)))) ((0 : Int) , ((0 : Int) , ((0 : Int) , ((0 : Int) , ((0 : Int) , (0 : Int))))))).2.2.2.2.1))
                (br (decide ((List.getD x1 (Int.toNat (IntKind.wrap .i64 (x0 - (1 : Int)))) ((0 : Int) , ((0 : Int) , ((0 : Int) , ((0 : Int) , ((0 : Int) , (0 : Int))))))).2.2.2.2.2 = (List.getD x1 (Int.toNat (IntKind.wrap .i64 (x0 - (1 : Int)))) ((0 : Int) , ((0 : Int) , ((0 : Int) , ((0 : Int) , ((0 : Int) , (0 : Int))))))).2.2.2.2.2))
                 (br (decide (i692 = i692))
                  (br (decide (i699 = i699))
                   (br (decide (i706 = i706))
                    (br (b707 == b707)
                     (c0 (List.getD x1 (Int.toNat (IntKind.wrap .i64 (x0 - (1 : Int)))) ((0 : Int) , ((0 : Int) , ((0 : Int) , ((0 : Int) , ((0 : Int) , (0 : Int))))))).1 (List.getD x1 (Int.toNat (IntKind.wrap .i64 (x0 - (1 : Int)))) ((0 : Int) , ((0 : Int) , ((0 : Int) , ((0 : Int) , ((0 : Int) , (0 : Int))))))).2.1 (List.getD x1 (Int.toNat (IntKind.wrap .i64 (x0 - (1 : Int)))) ((0 : Int) , ((0 : Int) , ((0 : Int) , ((0 : Int) , ((0 : Int) , (0 : Int))))))).2.2.1 (List.getD x1 (Int.toNat (IntKind.wrap .i64 (x0 - (1 : Int)))) ((0 : Int) , ((0 : Int) , ((0 : Int) , ((0 : Int) , ((0 : Int) , (0 : Int))))))).2.2.2.1 (List.getD x1 (Int.toNat (IntKind.wrap .i64 (x0 - (1 : Int)))) ((0 : Int) , ((0 : Int) , ((0 : Int) , ((0 : Int) , ((0 : Int) , (0 : Int))))))).2.2.2.2.1 (List.getD x1 (Int.toNat (IntKind.wrap .i64 (x0 - (1 : Int)))) ((0 : Int) , ((0 : Int) , ((0 : Int) , ((0 : Int) , ((0 : Int) , (0 : Int))))))).2.2.2.2.2 i713 i692 i699 i706 l711
                      (fun i721 l722 => br (b707 == b707)
                       (k0 i721 b707 l714 l715 l716 l722 i712)
                       (none)))
                     (none))
                    (none))
                   (none))
                  (none))
                 (none))
                (none))
               (none))
              (none))
             (none))
            (none))))))))
     (none))
    (none)))
noncomputable def term_Arena_quick_8272_T (N : Nat) (c0 : term_Value_7344_Ty) (c1 : term_Value_c09b_Ty) (c2 : term_Arena_Width_43b4_Ty) (c3 : term_Arena_quick_520c_Ty) (c4 : term_Arena_quick_8272_Ty) {R : Type} (x0 : Int) (x1 : Nat) (x2 : Nat) (x3 : List ((Int) × ((Int) × ((Int) × ((Int) × ((Int) × (Int))))))) (x4 : List (((Int) × ((Int) × ((Int) × ((Int) × ((Int) × (Int)))))) × (Int))) (x5 : List ((Int) × (Int))) (x6 : List (Int)) (x7 : Int) (k0 : (Int) → (Bool) → (List ((Int) × ((Int) × ((Int) × ((Int) × ((Int) × (Int))))))) → (List (((Int) × ((Int) × ((Int) × ((Int) × ((Int) × (Int)))))) × (Int))) → (List ((Int) × (Int))) → (List (Int)) → (Int) → Option R) : Option R :=
  br (decide (x0 = (0 : Int)))
  (k0 (0 : Int) true x3 x4 x5 x6 x7)
  (br (decide ((IntKind.wrap .i64 (x7 - (1 : Int))) < (0 : Int)))
   (k0 (0 : Int) false x3 x4 x5 x6 (IntKind.wrap .i64 (x7 - (1 : Int))))
   (br (inB (IntKind.wrap .i64 (x0 - (1 : Int))) (List.length x3))
    (br (decide ((Int.toNat (IntKind.wrap .i64 (x0 - (1 : Int)))) < (List.length x3)))
     (c4 (List.getD x3 (Int.toNat (IntKind.wrap .i64 (x0 - (1 : Int)))) ((0 : Int) , ((0 : Int) , ((0 : Int) , ((0 : Int) , ((0 : Int) , (0 : Int))))))).2.2.2.1 x1 x2 x3 x4 x5 x6 (IntKind.wrap .i64 (x7 - (1 : Int)))
      (fun i965 b966 l967 l968 l969 l970 i971 => br (!b966)
       (k0 (0 : Int) false l967 l968 l969 l970 i971)
       (c4 (List.getD x3 (Int.toNat (IntKind.wrap .i64 (x0 - (1 : Int)))) ((0 : Int) , ((0 : Int) , ((0 : Int) , ((0 : Int) , ((0 : Int) , (0 : Int))))))).2.2.2.2.1 x1 x2 l967 l968 l969 l970 i971
        (fun i972 b973 l974 l975 l976 l977 i978 => br (!b973)
         (k0 (0 : Int) false l974 l975 l976 l977 i978)
         (c4 (List.getD x3 (Int.toNat (IntKind.wrap .i64 (x0 - (1 : Int)))) ((0 : Int) , ((0 : Int) , ((0 : Int) , ((0 : Int) , ((0 : Int) , (0 : Int))))))).2.2.2.2.2 x1 x2 l974 l975 l976 l977 i978
          (fun i979 b980 l981 l982 l983 l984 i985 => c2 (List.getD x3 (Int.toNat (IntKind.wrap .i64 (x0 - (1 : Int)))) ((0 : Int) , ((0 : Int) , ((0 : Int) , ((0 : Int) , ((0 : Int) , (0 : Int))))))).2.2.2.1 l981 l982 l983
           (fun i986 l987 l988 l989 => br (decide ((List.getD x3 (Int.toNat (IntKind.wrap .i64 (x0 - (1 : Int)))) ((0 : Int) , ((0 : Int) , ((0 : Int) , ((0 : Int) , ((0 : Int) , (0 : Int))))))).1 = (List.getD x3 (Int.toNat (IntKind.wrap .i64 (x0 - (1 : Int)))) ((0 : Int) , ((0 : Int) , ((0 : Int) , ((0 : Int) , ((0 : Int) , (0 : Int))))))).1))
            (br (decide ((List.getD x3 (Int.toNat (IntKind.wrap .i64 (x0 - (1 : Int)))) ((0 : Int) , ((0 : Int) , ((0 : Int) , ((0 : Int) , ((0 : Int) , (0 : Int))))))).2.1 = (List.getD x3 (Int.toNat (IntKind.wrap .i64 (x0 - (1 : Int)))) ((0 : Int) , ((0 : Int) , ((0 : Int) , ((0 : Int) , ((0 : Int) , (0 : Int))))))).2.1))
             (br (decide ((List.getD x3 (Int.toNat (IntKind.wrap .i64 (x0 - (1 : Int)))) ((0 : Int) , ((0 : Int) , ((0 : Int) , ((0 : Int) , ((0 : Int) , (0 : Int))))))).2.2.1 = (List.getD x3 (Int.toNat (IntKind.wrap .i64 (x0 - (1 : Int)))) ((0 : Int) , ((0 : Int) , ((0 : Int) , ((0 : Int) , ((0 : Int) , (0 : Int))))))).2.2.1))
              (br (decide ((List.getD x3 (Int.toNat (IntKind.wrap .i64 (x0 - (1 : Int)))) ((0 : Int) , ((0 : Int) , ((0 : Int) , ((0 : Int) , ((0 : Int) , (0 : Int))))))).2.2.2.1 = (List.getD x3 (Int.toNat (IntKind.wrap .i64 (x0 - (1 : Int)))) ((0 : Int) , ((0 : Int) , ((0 : Int) , ((0 : Int) , ((0 : Int) , (0 : Int))))))).2.2.2.1))
               (br (decide ((List.getD x3 (Int.toNat (IntKind.wrap .i64 (x0 - (1 : Int)))) ((0 : Int) , ((0 : Int) , ((0 : Int) , ((0 : Int) , ((0 : Int) , (0 : Int))))))).2.2.2.2.1 = (List.getD x3 (Int.toNat (IntKind.wrap .i64 (x0 - (1 : Int)))) ((0 : Int) , ((0 : Int) , ((0 : Int) , ((0 : Int) , ((0 : Int) , (0 : Int))))))).2.2.2.2.1))
                (br (decide ((List.getD x3 (Int.toNat (IntKind.wrap .i64 (x0 - (1 : Int)))) ((0 : Int) , ((0 : Int) , ((0 : Int) , ((0 : Int) , ((0 : Int) , (0 : Int))))))).2.2.2.2.2 = (List.getD x3 (Int.toNat (IntKind.wrap .i64 (x0 - (1 : Int)))) ((0 : Int) , ((0 : Int) , ((0 : Int) , ((0 : Int) , ((0 : Int) , (0 : Int))))))).2.2.2.2.2))
                 (br (decide (i965 = i965))
                  (br (decide (i972 = i972))
                   (br (decide (i979 = i979))
                    (br (decide (x1 = x1))
                     (br (decide (x2 = x2))
                      (br (b980 == b980)
                       (c1 (List.getD x3 (Int.toNat (IntKind.wrap .i64 (x0 - (1 : Int)))) ((0 : Int) , ((0 : Int) , ((0 : Int) , ((0 : Int) , ((0 : Int) , (0 : Int))))))).1 (List.getD x3 (Int.toNat (IntKind.wrap .i64 (x0 - (1 : Int)))) ((0 : Int) , ((0 : Int) , ((0 : Int) , ((0 : Int) , ((0 : Int) , (0 : Int))))))).2.1 (List.getD x3 (Int.toNat (IntKind.wrap .i64 (x0 - (1 : Int)))) ((0 : Int) , ((0 : Int) , ((0 : Int) , ((0 : Int) , ((0 : Int) , (0 : Int))))))).2.2.1 (List.getD x3 (Int.toNat (IntKind.wrap .i64 (x0 - (1 : Int)))) ((0 : Int) , ((0 : Int) , ((0 : Int) , ((0 : Int) , ((0 : Int) , (0 : Int))))))).2.2.2.1 (List.getD x3 (Int.toNat (IntKind.wrap .i64 (x0 - (1 : Int)))) ((0 : Int) , ((0 : Int) , ((0 : Int) , ((0 : Int) , ((0 : Int) , (0 : Int))))))).2.2.2.2.1 (List.getD x3 (Int.toNat (IntKind.wrap .i64 (x0 - (1 : Int)))) ((0 : Int) , ((0 : Int) , ((0 : Int) , ((0 : Int) , ((0 : Int) , (0 : Int))))))).2.2.2.2.2 i986 i965 i972 i979 x1 x2 l984
                        (fun i994 l995 => br (b980 == b980)
                         (k0 i994 b980 l987 l988 l989 l995 i985)
                         (none)))
                       (none))
                      (none))
                     (none))
                    (none))
                   (none))
                  (none))
                 (none))
                (none))
               (none))
              (none))
             (none))
            (none))))))))
     (none))
    (none)))
structure G_term_Arena_quick_Rec : Type 1 where
  term_Arena_quick_520c : term_Arena_quick_520c_Ty
  term_Arena_quick_8272 : term_Arena_quick_8272_Ty
noncomputable def G_term_Arena_quick_rec (N : Nat) : Nat → G_term_Arena_quick_Rec
  | 0 => ⟨fun {R} _ _ _ _ _ _ _ => none, fun {R} _ _ _ _ _ _ _ _ _ => none⟩
  | n + 1 => ⟨fun {R} x0 x1 x2 x3 x4 x5 k0 => term_Arena_quick_520c_T N (@term_Value_7344 N) (@term_Value_c09b N) (@term_Arena_Width_43b4 N) (@G_term_Arena_quick_Rec.term_Arena_quick_520c (G_term_Arena_quick_rec N n)) (@G_term_Arena_quick_Rec.term_Arena_quick_8272 (G_term_Arena_quick_rec N n)) x0 x1 x2 x3 x4 x5 k0,
    fun {R} x0 x1 x2 x3 x4 x5 x6 x7 k0 => term_Arena_quick_8272_T N (@term_Value_7344 N) (@term_Value_c09b N) (@term_Arena_Width_43b4 N) (@G_term_Arena_quick_Rec.term_Arena_quick_520c (G_term_Arena_quick_rec N n)) (@G_term_Arena_quick_Rec.term_Arena_quick_8272 (G_term_Arena_quick_rec N n)) x0 x1 x2 x3 x4 x5 x6 x7 k0⟩
noncomputable def term_Arena_quick_520c (N : Nat) {R : Type} (x0 : Int) (x1 : List ((Int) × ((Int) × ((Int) × ((Int) × ((Int) × (Int))))))) (x2 : List (((Int) × ((Int) × ((Int) × ((Int) × ((Int) × (Int)))))) × (Int))) (x3 : List ((Int) × (Int))) (x4 : List (Int)) (x5 : Int) (k0 : (Int) → (Bool) → (List ((Int) × ((Int) × ((Int) × ((Int) × ((Int) × (Int))))))) → (List (((Int) × ((Int) × ((Int) × ((Int) × ((Int) × (Int)))))) × (Int))) → (List ((Int) × (Int))) → (List (Int)) → (Int) → Option R) : Option R := (G_term_Arena_quick_rec N N).term_Arena_quick_520c x0 x1 x2 x3 x4 x5 k0
noncomputable def term_Arena_quick_8272 (N : Nat) {R : Type} (x0 : Int) (x1 : Nat) (x2 : Nat) (x3 : List ((Int) × ((Int) × ((Int) × ((Int) × ((Int) × (Int))))))) (x4 : List (((Int) × ((Int) × ((Int) × ((Int) × ((Int) × (Int)))))) × (Int))) (x5 : List ((Int) × (Int))) (x6 : List (Int)) (x7 : Int) (k0 : (Int) → (Bool) → (List ((Int) × ((Int) × ((Int) × ((Int) × ((Int) × (Int))))))) → (List (((Int) × ((Int) × ((Int) × ((Int) × ((Int) × (Int)))))) × (Int))) → (List ((Int) × (Int))) → (List (Int)) → (Int) → Option R) : Option R := (G_term_Arena_quick_rec N N).term_Arena_quick_8272 x0 x1 x2 x3 x4 x5 x6 x7 k0
abbrev term_Arena_Eval_0112_l0_Ty : Type 1 := {R : Type} → ((Int) → (List ((Int) × ((Int) × ((Int) × ((Int) × ((Int) × (Int))))))) → (List (((Int) × ((Int) × ((Int) × ((Int) × ((Int) × (Int)))))) × (Int))) → (List ((Int) × (Int))) → (List (Int)) → (List (Int)) → Option R) → Nat → (Int) → (Int) → (Int) → (List ((Int) × ((Int) × ((Int) × ((Int) × ((Int) × (Int))))))) → (List (((Int) × ((Int) × ((Int) × ((Int) × ((Int) × (Int)))))) × (Int))) → (List ((Int) × (Int))) → (List (Int)) → (List (Int)) → (List (Int)) → Option R
abbrev term_Arena_Eval_0112_Ty : Type 1 := {R : Type} → (Int) → (List ((Int) × ((Int) × ((Int) × ((Int) × ((Int) × (Int))))))) → (List (((Int) × ((Int) × ((Int) × ((Int) × ((Int) × (Int)))))) × (Int))) → (List ((Int) × (Int))) → (List (Int)) → ((Int) → (List ((Int) × ((Int) × ((Int) × ((Int) × ((Int) × (Int))))))) → (List (((Int) × ((Int) × ((Int) × ((Int) × ((Int) × (Int)))))) × (Int))) → (List ((Int) × (Int))) → (List (Int)) → Option R) → Option R
noncomputable def term_Arena_Eval_0112_l0_T0 (N : Nat) (c0 : term_Value_7344_Ty) (c1 : term_Value_c09b_Ty) (c2 : term_Arena_Width_43b4_Ty) (c3 : term_Arena_Under_2549_Ty) (c4 : term_Arena_quick_520c_Ty) (c5 : term_Arena_quick_8272_Ty) (c6 : term_Arena_there_2549_Ty) {R : Type} (nx : (Int) → (Int) → (Int) → (List ((Int) × ((Int) × ((Int) × ((Int) × ((Int) × (Int))))))) → (List (((Int) × ((Int) × ((Int) × ((Int) × ((Int) × (Int)))))) × (Int))) → (List ((Int) × (Int))) → (List (Int)) → (List (Int)) → (List (Int)) → Option R) (k0 : (Int) → (List ((Int) × ((Int) × ((Int) × ((Int) × ((Int) × (Int))))))) → (List (((Int) × ((Int) × ((Int) × ((Int) × ((Int) × (Int)))))) × (Int))) → (List ((Int) × (Int))) → (List (Int)) → (List (Int)) → Option R) (x0 : Int) (x1 : Int) (x2 : Int) (x3 : List ((Int) × ((Int) × ((Int) × ((Int) × ((Int) × (Int))))))) (x4 : List (((Int) × ((Int) × ((Int) × ((Int) × ((Int) × (Int)))))) × (Int))) (x5 : List ((Int) × (Int))) (x6 : List (Int)) (x7 : List (Int)) (x8 : List (Int)) : Option R :=
  br (decide (x2 < x1))
  (br (inB x2 (List.length x8))
   (br (decide ((Int.toNat x2) < (List.length x8)))
    (br (inB (IntKind.wrap .i64 ((List.getD x8 (Int.toNat x2) (0 : Int)) - (1 : Int))) (List.length x3))
     (br (decide ((Int.toNat (IntKind.wrap .i64 ((List.getD x8 (Int.toNat x2) (0 : Int)) - (1 : Int)))) < (List.length x3)))
      (br (inB (List.getD x3 (Int.toNat (IntKind.wrap .i64 ((List.getD x8 (Int.toNat x2) (0 : Int)) - (1 : Int)))) ((0 : Int) , ((0 : Int) , ((0 : Int) , ((0 : Int) , ((0 : Int) , (0 : Int))))))).2.2.2.1 (List.length x7))
       (br (decide ((Int.toNat (List.getD x3 (Int.toNat (IntKind.wrap .i64 ((List.getD x8 (Int.toNat x2) (0 : Int)) - (1 : Int)))) ((0 : Int) , ((0 : Int) , ((0 : Int) , ((0 : Int) , ((0 : Int) , (0 : Int))))))).2.2.2.1) < (List.length x7)))
        (br (inB (List.getD x3 (Int.toNat (IntKind.wrap .i64 ((List.getD x8 (Int.toNat x2) (0 : Int)) - (1 : Int)))) ((0 : Int) , ((0 : Int) , ((0 : Int) , ((0 : Int) , ((0 : Int) , (0 : Int))))))).2.2.2.2.1 (List.length x7))
         (br (decide ((Int.toNat (List.getD x3 (Int.toNat (IntKind.wrap .i64 ((List.getD x8 (Int.toNat x2) (0 : Int)) - (1 : Int)))) ((0 : Int) , ((0 : Int) , ((0 : Int) , ((0 : Int) , ((0 : Int) , (0 : Int))))))).2.2.2.2.1) < (List.length x7)))
          (br (inB (List.getD x3 (Int.toNat (IntKind.wrap .i64 ((List.getD x8 (Int.toNat x2) (0 : Int)) - (1 : Int)))) ((0 : Int) , ((0 : Int) , ((0 : Int) , ((0 : Int) , ((0 : Int) , (0 : Int))))))).2.2.2.2.2 (List.length x7))
           (br (decide ((Int.toNat (List.getD x3 (Int.toNat (IntKind.wrap .i64 ((List.getD x8 (Int.toNat x2) (0 : Int)) - (1 : Int)))) ((0 : Int) , ((0 : Int) , ((0 : Int) , ((0 : Int) , ((0 : Int) , (0 : Int))))))).2.2.2.2.2) < (List.length x7)))
            (c2 (List.getD x3 (Int.toNat (IntKind.wrap .i64 ((List.getD x8 (Int.toNat x2) (0 : Int)) - (1 : Int)))) ((0 : Int) , ((0 : Int) , ((0 : Int) , ((0 : Int) , ((0 : Int) , (0 : Int))))))).2.2.2.1 x3 x4 x5
             (fun i767 l768 l769 l770 => br (decide ((List.getD x8 (Int.toNat x2) (0 : Int)) = (List.getD x8 (Int.toNat x2) (0 : Int))))
              (br (decide ((List.getD x3 (Int.toNat (IntKind.wrap .i64 ((List.getD x8 (Int.toNat x2) (0 : Int)) - (1 : Int)))) ((0 : Int) , ((0 : Int) , ((0 : Int) , ((0 : Int) , ((0 : Int) , (0 : Int))))))).1 = (List.getD x3 (Int.toNat (IntKind.wrap .i64 ((List.getD x8 (Int.toNat x2) (0 : Int)) - (1 : Int)))) ((0 : Int) , ((0 : Int) , ((0 : Int) , ((0 : Int) , ((0 : Int) , (0 : Int))))))).1))
               (br (decide ((List.getD x3 (Int.toNat (IntKind.wrap .i64 ((List.getD x8 (Int.toNat x2) (0 : Int)) - (1 : Int)))) ((0 : Int) , ((0 : Int) , ((0 : Int) , ((0 : Int) , ((0 : Int) , (0 : Int))))))).2.1 = (List.getD x3 (Int.toNat (IntKind.wrap .i64 ((List.getD x8 (Int.toNat x2) (0 : Int)) - (1 : Int)))) ((0 : Int) , ((0 : Int) , ((0 : Int) , ((0 : Int) , ((0 : Int) , (0 : Int))))))).2.1))
                (br (decide ((List.getD x3 (Int.toNat (IntKind.wrap .i64 ((List.getD x8 (Int.toNat x2) (0 : Int)) - (1 : Int)))) ((0 : Int) , ((0 : Int) , ((0 : Int) , ((0 : Int) , ((0 : Int) , (0 : Int))))))).2.2.1 = (List.getD x3 (Int.toNat (IntKind.wrap .i64 ((List.getD x8 (Int.toNat x2) (0 : Int)) - (1 : Int)))) ((0 : Int) , ((0 : Int) , ((0 : Int) , ((0 : Int) , ((0 : Int) , (0 : Int))))))).2.2.1))
                 (br (decide ((List.getD x3 (Int.toNat (IntKind.wrap .i64 ((List.getD x8 (Int.toNat x2) (0 : Int)) - (1 : Int)))) ((0 : Int) , ((0 : Int) , ((0 : Int) , ((0 : Int) , ((0 : Int) , (0 : Int))))))).2.2.2.1 = (List.getD x3 (Int.toNat (IntKind.wrap .i64 ((List.getD x8 (Int.toNat x2) (0 : Int)) - (1 : Int)))) ((0 : Int) , ((0 : Int) , ((0 : Int) , ((0 : Int) , ((0 : Int) , (0 : Int))))))).2.2.2.1))
                  (br (decide ((List.getD x3 (Int.toNat (IntKind.wrap .i64 ((List.getD x8 (Int.toNat x2) (0 : Int)) - (1 : Int)))) ((0 : Int) , ((0 : Int) , ((0 : Int) , ((0 : Int) , ((0 : Int) , (0 : Int))))))).2.2.2.2.1 = (List.getD x3 (Int.toNat (IntKind.wrap .i64 ((List.getD x8 (Int.toNat x2) (0 : Int)) - (1 : Int)))) ((0 : Int) , ((0 : Int) , ((0 : Int) , ((0 : Int) , ((0 : Int) , (0 : Int))))))).2.2.2.2.1))
                   (br (decide ((List.getD x3 (Int.toNat (IntKind.wrap .i64 ((List.getD x8 (Int.toNat x2) (0 : Int)) - (1 : Int)))) ((0 : Int) , ((0 : Int) , ((0 : Int) , ((0 : Int) , ((0 : Int) , (0 : Int))))))).2.2.2.2.2 = (List.getD x3 (Int.toNat (IntKind.wrap .i64 ((List.getD x8 (Int.toNat x2) (0 : Int)) - (1 : Int)))) ((0 : Int) , ((0 : Int) , ((0 : Int) , ((0 : Int) , ((0 : Int) , (0 : Int))))))).2.2.2.2.2))
                    (br (decide ((List.getD x3 (Int.toNat (IntKind.wrap .i64 ((List.getD x8 (Int.toNat x2) (0 : Int)) - (1 : Int)))) ((0 : Int) , ((0 : Int) , ((0 : Int) , ((0 : Int) , ((0 : Int) , (0 : Int))))))).2.2.2.1 = (List.getD x3 (Int.toNat (IntKind.wrap .i64 ((List.getD x8 (Int.toNat x2) (0 : Int)) - (1 : Int)))) ((0 : Int) , ((0 : Int) , ((0 : Int) , ((0 : Int) , ((0 : Int) , (0 : Int))))))).2.2.2.1))
                     (br (inB (List.getD x3 (Int.toNat (IntKind.wrap .i64 ((List.getD x8 (Int.toNat x2) (0 : Int)) - (1 : Int)))) ((0 : Int) , ((0 : Int) , ((0 : Int) , ((0 : Int) , ((0 : Int) , (0 : Int))))))).2.2.2.1 (List.length x7))
                      (br (decide ((List.getD x3 (Int.toNat (IntKind.wrap .i64 ((List.getD x8 (Int.toNat x2) (0 : Int)) - (1 : Int)))) ((0 : Int) , ((0 : Int) , ((0 : Int) , ((0 : Int) , ((0 : Int) , (0 : Int))))))).2.2.2.1 = (List.getD x3 (Int.toNat (IntKind.wrap .i64 ((List.getD x8 (Int.toNat x2) (0 : Int)) - (1 : Int)))) ((0 : Int) , ((0 : Int) , ((0 : Int) , ((0 : Int) , ((0 : Int) , (0 : Int))))))).2.2.2.1))
                       (br (decide ((Int.toNat (List.getD x3 (Int.toNat (IntKind.wrap .i64 ((List.getD x8 (Int.toNat x2) (0 : Int)) - (1 : Int)))) ((0 : Int) , ((0 : Int) , ((0 : Int) , ((0 : Int) , ((0 : Int) , (0 : Int))))))).2.2.2.1) < (List.length x7)))
                        (br (decide ((List.getD x7 (Int.toNat (List.getD x3 (Int.toNat (IntKind.wrap .i64 ((List.getD x8 (Int.toNat x2) (0 : Int)) - (1 : Int)))) ((0 : Int) , ((0 : Int) , ((0 : Int) , ((0 : Int) , ((0 : Int) , (0 : Int))))))).2.2.2.1) (0 : Int)) = (List.getD x7 (Int.toNat (List.getD x3 (Int.toNat (IntKind.wrap .i64 ((List.getD x8 (Int.toNat x2) (0 : Int)) - (1 : Int)))) ((0 : Int) , ((0 : Int) , ((0 : Int) , ((0 : Int) , ((0 : Int) , (0 : Int))))))).2.2.2.1) (0 : Int))))
                         (br (decide ((List.getD x3 (Int.toNat (IntKind.wrap .i64 ((List.getD x8 (Int.toNat x2) (0 : Int)) - (1 : Int)))) ((0 : Int) , ((0 : Int) , ((0 : Int) , ((0 : Int) , ((0 : Int) , (0 : Int))))))).2.2.2.2.1 = (List.getD x3 (Int.toNat (IntKind.wrap .i64 ((List.getD x8 (Int.toNat x2) (0 : Int)) - (1 : Int)))) ((0 : Int) , ((0 : Int) , ((0 : Int) , ((0 : Int) , ((0 : Int) , (0 : Int))))))).2.2.2.2.1))
                          (br (inB (List.getD x3 (Int.toNat (IntKind.wrap .i64 ((List.getD x8 (Int.toNat x2) (0 : Int)) - (1 : Int)))) ((0 : Int) , ((0 : Int) , ((0 : Int) , ((0 : Int) , ((0 : Int) , (0 : Int))))))).2.2.2.2.1 (List.length x7))
                           (br (decide ((List.getD x3 (Int.toNat (IntKind.wrap .i64 ((List.getD x8 (Int.toNat x2) (0 : Int)) - (1 : Int)))) ((0 : Int) , ((0 : Int) , ((0 : Int) , ((0 : Int) , ((0 : Int) , (0 : Int))))))).2.2.2.2.1 = (List.getD x3 (Int.toNat (IntKind.wrap .i64 ((List.getD x8 (Int.toNat x2) (0 : Int)) - (1 : Int)))) ((0 : Int) , ((0 : Int) , ((0 : Int) , ((0 : Int) , ((0 : Int) , (0 : Int))))))).2.2.2.2.1))
                            (br (decide ((Int.toNat (List.getD x3 (Int.toNat (IntKind.wrap .i64 ((List.getD x8 (Int.toNat x2) (0 : Int)) - (1 : Int)))) ((0 : Int) , ((0 : Int) , ((0 : Int) , ((0 : Int) , ((0 : Int) , (0 : Int))))))).2.2.2.2.1) < (List.length x7)))
                             (br (decide ((List.getD x7 (Int.toNat (List.getD x3 (Int.toNat (IntKind.wrap .i64 ((List.getD x8 (Int.toNat x2) (0 : Int)) - (1 : Int)))) ((0 : Int) , ((0 : Int) , ((0 : Int) , ((0 : Int) , ((0 : Int) , (0 : Int))))))).2.2.2.2.1) (0 : Int)) = (List.getD x7 (Int.toNat (List.getD x3 (Int.toNat (IntKind.wrap .i64 ((List.getD x8 (Int.toNat x2) (0 : Int)) - (1 : Int)))) ((0 : Int) , ((0 : Int) , ((0 : Int) , ((0 : Int) , ((0 : Int) , (0 : Int))))))).2.2.2.2.1) (0 : Int))))
                              (br (decide ((List.getD x3 (Int.toNat (IntKind.wrap .i64 ((List.getD x8 (Int.toNat x2) (0 : Int)) - (1 : Int)))) ((0 : Int) , ((0 : Int) , ((0 : Int) , ((0 : Int) , ((0 : Int) , (0 : Int))))))).2.2.2.2.2 = (List.getD x3 (Int.toNat (IntKind.wrap .i64 ((List.getD x8 (Int.toNat x2) (0 : Int)) - (1 : Int)))) ((0 : Int) , ((0 : Int) , ((0 : Int) , ((0 : Int) , ((0 : Int) , (0 : Int))))))).2.2.2.2.2))
                               (br (inB (List.getD x3 (Int.toNat (IntKind.wrap .i64 ((List.getD x8 (Int.toNat x2) (0 : Int)) - (1 : Int)))) ((0 : Int) , ((0 : Int) , ((0 : Int) , ((0 : Int) , ((0 : Int) , (0 : Int))))))).2.2.2.2.2 (List.length x7))
                                (br (decide ((List.getD x3 (Int.toNat (IntKind.wrap .i64 ((List.getD x8 (Int.toNat x2) (0 : Int)) - (1 : Int)))) ((0 : Int) , ((0 : Int) , ((0 : Int) , ((0 : Int) , ((0 : Int) , (0 : Int))))))).2.2.2.2.2 = (List.getD x3 (Int.toNat (IntKind.wrap .i64 ((List.getD x8 (Int.toNat x2) (0 : Int)) - (1 : Int)))) ((0 : Int) , ((0 : Int) , ((0 : Int) , ((0 : Int) , ((0 : Int) , (0 : Int))))))).2.2.2.2.2))
                                 (br (decide ((Int.toNat (List.getD x3 (Int.toNat (IntKind.wrap .i64 ((List.getD x8 (Int.toNat x2) (0 : Int)) - (1 : Int)))) ((0 : Int) , ((0 : Int) , ((0 : Int) , ((0 : Int) , ((0 : Int) , (0 : Int))))))).2.2.2.2.2) < (List.length x7)))
                                  (br (decide ((List.getD x7 (Int.toNat (List.getD x3 (Int.toNat (IntKind.wrap .i64 ((List.getD x8 (Int.toNat x2) (0 : Int)) - (1 : Int)))) ((0 : Int) , ((0 : Int) , ((0 : Int) , ((0 : Int) , ((0 : Int) , (0 : Int))))))).2.2.2.2.2) (0 : Int)) = (List.getD x7 (Int.toNat (List.getD x3 (Int.toNat (IntKind.wrap .i64 ((List.getD x8 (Int.toNat x2) (0 : Int)) - (1 : Int)))) ((0 : Int) , ((0 : Int) , ((0 : Int) , ((0 : Int) , ((0 : Int) , (0 : Int))))))).2.2.2.2.2) (0 : Int))))
                                   (c0 (List.getD x3 (Int.toNat (IntKind.wrap .i64 ((List.getD x8 (Int.toNat x2) (0 : Int)) - (1 : Int)))) ((0 : Int) , ((0 : Int) , ((0 : Int) , ((0 : Int) , ((0 : Int) , (0 : Int))))))).1 (List.getD x3 (Int.toNat (IntKind.wrap .i64 ((List.getD x8 (Int.toNat x2) (0 : Int)) - (1 : Int)))) ((0 : Int) , ((0 : Int) , ((0 : Int) , ((0 : Int) , ((0 : Int) , (0 : Int))))))).2.1 (List.getD x3 (Int.toNat (IntKind.wrap .i64 ((List.getD x8 (Int.toNat x2) (0 : Int)) - (1 : Int)))) ((0 : Int) , ((0 : Int) , ((0 : Int) , ((0 : Int) , ((0 : Int) , (0 : Int))))))).2.2.1 (List.getD x3 (Int.toNat (IntKind.wrap .i64 ((List.getD x8 (Int.toNat x2) (0 : Int)) - (1 : Int)))) ((0 : Int) , ((0 : Int) , ((0 : Int) , ((0 : Int) , ((0 : Int) , (0 : Int))))))).2.2.2.1 (List.getD x3 (Int.toNat (IntKind.wrap .i64 ((List.getD x8 (Int.toNat x2) (0 : Int)) - (1 : Int)))) ((0 : Int) , ((0 : Int) , ((0 : Int) , ((0 : Int) , ((0 : Int) , (0 : Int))))))).2.2.2.2.1 (List.getD x3 (Int.toNat (IntKind.wrap .i64 ((List.getD x8 (Int.toNat x2) (0 : Int)) - (1 : Int)))) ((0 : Int) , ((0 : Int) , ((0 : Int) , ((0 : Int) , ((0 : Int) , (0 : Int))))))).2.2.2.2.2 i767 (List.getD x7 (Int.toNat (List.getD x3 (Int.toNat (IntKind.wrap .i64 ((List.getD x8 (Int.toNat x2) (0 : Int)) - (1 : Int)))) ((0 : Int) , ((0 : Int) , ((0 : Int) , ((0 : Int) , ((0 : Int) , (0 : Int))))))).2.2.2.1) (0 : Int)) (List.getD x7 (Int.toNat (List.getD x3 (Int.toNat (IntKind.wrap .i64 ((List.getD x8 (Int.toNat x2) (0 : Int)) - (1 : Int)))) ((0 : Int) , ((0 : Int) , ((0 : Int) , ((0 : Int) , ((0 : Int) , (0 : Int))))))).2.2.2.2.1) (0 : Int)) (List.getD x7 (Int.toNat (List.getD x3 (Int.toNat (IntKind.wrap .i64 ((List.getD x8 (Int.toNat x2) (0 : Int)) - (1 : Int)))) ((0 : Int) , ((0 : Int) , ((0 : Int) , ((0 : Int) , ((0 : Int) , (0 : Int))))))).2.2.2.2.2) (0 : Int)) x6
                                    (fun i771 l772 => br (decide ((List.getD x8 (Int.toNat x2) (0 : Int)) = (List.getD x8 (Int.toNat x2) (0 : Int))))
                                     (br (inB (List.getD x8 (Int.toNat x2) (0 : Int)) (List.length x7))
                                      (br (decide ((Int.toNat (List.getD x8 (Int.toNat x2) (0 : Int))) < (List.length x7)))
                                       (nx x0 x1 (IntKind.wrap .i64 (x2 + (1 : Int))) l768 l769 l770 l772 (List.set x7 (Int.toNat (List.getD x8 (Int.toNat x2) (0 : Int))) i771) x8)
                                       (none))
                                      (none))
                                     (none)))
                                   (none))
                                  (none))
                                 (none))
                                (none))
                               (none))
                              (none))
                             (none))
                            (none))
                           (none))
                          (none))
                         (none))
                        (none))
                       (none))
                      (none))
                     (none))
                    (none))
                   (none))
                  (none))
                 (none))
                (none))
               (none))
              (none)))
            (none))
           (none))
          (none))
         (none))
        (none))
       (none))
      (none))
     (none))
    (none))
   (none))
  (k0 x0 x3 x4 x5 x6 x7)
noncomputable def term_Arena_Eval_0112_l0 (N : Nat) {R : Type} (k0 : (Int) → (List ((Int) × ((Int) × ((Int) × ((Int) × ((Int) × (Int))))))) → (List (((Int) × ((Int) × ((Int) × ((Int) × ((Int) × (Int)))))) × (Int))) → (List ((Int) × (Int))) → (List (Int)) → (List (Int)) → Option R) : Nat → (Int) → (Int) → (Int) → (List ((Int) × ((Int) × ((Int) × ((Int) × ((Int) × (Int))))))) → (List (((Int) × ((Int) × ((Int) × ((Int) × ((Int) × (Int)))))) × (Int))) → (List ((Int) × (Int))) → (List (Int)) → (List (Int)) → (List (Int)) → Option R
  | 0, _, _, _, _, _, _, _, _, _ => none
  | n + 1, x0, x1, x2, x3, x4, x5, x6, x7, x8 => term_Arena_Eval_0112_l0_T0 N (@term_Value_7344 N) (@term_Value_c09b N) (@term_Arena_Width_43b4 N) (@term_Arena_Under_2549 N) (@term_Arena_quick_520c N) (@term_Arena_quick_8272 N) (@term_Arena_there_2549 N) (fun x0 x1 x2 x3 x4 x5 x6 x7 x8 => term_Arena_Eval_0112_l0 N k0 n x0 x1 x2 x3 x4 x5 x6 x7 x8) k0 x0 x1 x2 x3 x4 x5 x6 x7 x8
noncomputable def term_Arena_Eval_0112_T (N : Nat) (c0 : term_Value_7344_Ty) (c1 : term_Value_c09b_Ty) (c2 : term_Arena_Width_43b4_Ty) (c3 : term_Arena_Under_2549_Ty) (c4 : term_Arena_quick_520c_Ty) (c5 : term_Arena_quick_8272_Ty) (c6 : term_Arena_there_2549_Ty) (w0 : term_Arena_Eval_0112_l0_Ty) {R : Type} (x0 : Int) (x1 : List ((Int) × ((Int) × ((Int) × ((Int) × ((Int) × (Int))))))) (x2 : List (((Int) × ((Int) × ((Int) × ((Int) × ((Int) × (Int)))))) × (Int))) (x3 : List ((Int) × (Int))) (x4 : List (Int)) (k0 : (Int) → (List ((Int) × ((Int) × ((Int) × ((Int) × ((Int) × (Int))))))) → (List (((Int) × ((Int) × ((Int) × ((Int) × ((Int) × (Int)))))) × (Int))) → (List ((Int) × (Int))) → (List (Int)) → Option R) : Option R :=
  c6 x1 x2 x3 (x0 :: ([] : List ((Sh.int IntKind.i64).T)))
  (fun b687 l688 l689 l690 l691 => br (!b687)
   (k0 (0 : Int) l688 l689 l690 x4)
   (c4 x0 l688 l689 l690 x4 (64 : Int)
    (fun i723 b724 l725 l726 l727 l728 i729 => br b724
     (k0 i723 l725 l726 l727 l728)
     (br ((((decide ((0 : Int) ≤ (IntKind.wrap .i64 (x0 + (1 : Int))))) && (decide ((IntKind.wrap .i64 (x0 + (1 : Int))) ≤ (IntKind.wrap .i64 (x0 + (1 : Int)))))) && (decide (((IntKind.wrap .i64 (x0 + (1 : Int))) * (2 : Int)) ≤ ((2 : Int) ^ (46 : Nat))))) && true)
      (c3 l725 l726 l727 (x0 :: ([] : List ((Sh.int IntKind.i64).T)))
       (fun l762 l763 l764 l765 l766 => w0
        (fun i773 l774 l775 l776 l777 l778 => br (inB i773 (List.length l778))
         (br (decide ((Int.toNat i773) < (List.length l778)))
          (k0 (List.getD l778 (Int.toNat i773) (0 : Int)) l774 l775 l776 l777)
          (none))
         (none))
        N x0 (Nat.cast (List.length l766) : Int) (0 : Int) l762 l763 l764 l728 (List.replicate (Int.toNat (IntKind.wrap .i64 (x0 + (1 : Int)))) (0 : Int)) l766))
      (none)))))
noncomputable def term_Arena_Eval_0112 (N : Nat) {R : Type} (x0 : Int) (x1 : List ((Int) × ((Int) × ((Int) × ((Int) × ((Int) × (Int))))))) (x2 : List (((Int) × ((Int) × ((Int) × ((Int) × ((Int) × (Int)))))) × (Int))) (x3 : List ((Int) × (Int))) (x4 : List (Int)) (k0 : (Int) → (List ((Int) × ((Int) × ((Int) × ((Int) × ((Int) × (Int))))))) → (List (((Int) × ((Int) × ((Int) × ((Int) × ((Int) × (Int)))))) × (Int))) → (List ((Int) × (Int))) → (List (Int)) → Option R) : Option R := term_Arena_Eval_0112_T N (@term_Value_7344 N) (@term_Value_c09b N) (@term_Arena_Width_43b4 N) (@term_Arena_Under_2549 N) (@term_Arena_quick_520c N) (@term_Arena_quick_8272 N) (@term_Arena_there_2549 N) (@term_Arena_Eval_0112_l0 N) x0 x1 x2 x3 x4 k0
abbrev term_Arena_Eval_46dc_l0_Ty : Type 1 := {R : Type} → ((Int) → (List ((Int) × ((Int) × ((Int) × ((Int) × ((Int) × (Int))))))) → (List (((Int) × ((Int) × ((Int) × ((Int) × ((Int) × (Int)))))) × (Int))) → (List ((Int) × (Int))) → (List (Int)) → (List (Int)) → Option R) → Nat → (Int) → (Nat) → (Nat) → (Int) → (Int) → (List ((Int) × ((Int) × ((Int) × ((Int) × ((Int) × (Int))))))) → (List (((Int) × ((Int) × ((Int) × ((Int) × ((Int) × (Int)))))) × (Int))) → (List ((Int) × (Int))) → (List (Int)) → (List (Int)) → (List (Int)) → Option R
abbrev term_Arena_Eval_46dc_Ty : Type 1 := {R : Type} → (Int) → (Nat) → (Nat) → (List ((Int) × ((Int) × ((Int) × ((Int) × ((Int) × (Int))))))) → (List (((Int) × ((Int) × ((Int) × ((Int) × ((Int) × (Int)))))) × (Int))) → (List ((Int) × (Int))) → (List (Int)) → ((Int) → (List ((Int) × ((Int) × ((Int) × ((Int) × ((Int) × (Int))))))) → (List (((Int) × ((Int) × ((Int) × ((Int) × ((Int) × (Int)))))) × (Int))) → (List ((Int) × (Int))) → (List (Int)) → Option R) → Option R
noncomputable def term_Arena_Eval_46dc_l0_T0 (N : Nat) (c0 : term_Value_7344_Ty) (c1 : term_Value_c09b_Ty) (c2 : term_Arena_Width_43b4_Ty) (c3 : term_Arena_Under_2549_Ty) (c4 : term_Arena_quick_520c_Ty) (c5 : term_Arena_quick_8272_Ty) (c6 : term_Arena_there_2549_Ty) {R : Type} (nx : (Int) → (Nat) → (Nat) → (Int) → (Int) → (List ((Int) × ((Int) × ((Int) × ((Int) × ((Int) × (Int))))))) → (List (((Int) × ((Int) × ((Int) × ((Int) × ((Int) × (Int)))))) × (Int))) → (List ((Int) × (Int))) → (List (Int)) → (List (Int)) → (List (Int)) → Option R) (k0 : (Int) → (List ((Int) × ((Int) × ((Int) × ((Int) × ((Int) × (Int))))))) → (List (((Int) × ((Int) × ((Int) × ((Int) × ((Int) × (Int)))))) × (Int))) → (List ((Int) × (Int))) → (List (Int)) → (List (Int)) → Option R) (x0 : Int) (x1 : Nat) (x2 : Nat) (x3 : Int) (x4 : Int) (x5 : List ((Int) × ((Int) × ((Int) × ((Int) × ((Int) × (Int))))))) (x6 : List (((Int) × ((Int) × ((Int) × ((Int) × ((Int) × (Int)))))) × (Int))) (x7 : List ((Int) × (Int))) (x8 : List (Int)) (x9 : List (Int)) (x10 : List (Int)) : Option R :=
  br (decide (x4 < x3))
  (br (inB x4 (List.length x10))
   (br (decide ((Int.toNat x4) < (List.length x10)))
    (br (inB (IntKind.wrap .i64 ((List.getD x10 (Int.toNat x4) (0 : Int)) - (1 : Int))) (List.length x5))
     (br (decide ((Int.toNat (IntKind.wrap .i64 ((List.getD x10 (Int.toNat x4) (0 : Int)) - (1 : Int)))) < (List.length x5)))
      (br (inB (List.getD x5 (Int.toNat (IntKind.wrap .i64 ((List.getD x10 (Int.toNat x4) (0 : Int)) - (1 : Int)))) ((0 : Int) , ((0 : Int) , ((0 : Int) , ((0 : Int) , ((0 : Int) , (0 : Int))))))).2.2.2.1 (List.length x9))
       (br (decide ((Int.toNat (List.getD x5 (Int.toNat (IntKind.wrap .i64 ((List.getD x10 (Int.toNat x4) (0 : Int)) - (1 : Int)))) ((0 : Int) , ((0 : Int) , ((0 : Int) , ((0 : Int) , ((0 : Int) , (0 : Int))))))).2.2.2.1) < (List.length x9)))
        (br (inB (List.getD x5 (Int.toNat (IntKind.wrap .i64 ((List.getD x10 (Int.toNat x4) (0 : Int)) - (1 : Int)))) ((0 : Int) , ((0 : Int) , ((0 : Int) , ((0 : Int) , ((0 : Int) , (0 : Int))))))).2.2.2.2.1 (List.length x9))
         (br (decide ((Int.toNat (List.getD x5 (Int.toNat (IntKind.wrap .i64 ((List.getD x10 (Int.toNat x4) (0 : Int)) - (1 : Int)))) ((0 : Int) , ((0 : Int) , ((0 : Int) , ((0 : Int) , ((0 : Int) , (0 : Int))))))).2.2.2.2.1) < (List.length x9)))
          (br (inB (List.getD x5 (Int.toNat (IntKind.wrap .i64 ((List.getD x10 (Int.toNat x4) (0 : Int)) - (1 : Int)))) ((0 : Int) , ((0 : Int) , ((0 : Int) , ((0 : Int) , ((0 : Int) , (0 : Int))))))).2.2.2.2.2 (List.length x9))
           (br (decide ((Int.toNat (List.getD x5 (Int.toNat (IntKind.wrap .i64 ((List.getD x10 (Int.toNat x4) (0 : Int)) - (1 : Int)))) ((0 : Int) , ((0 : Int) , ((0 : Int) , ((0 : Int) , ((0 : Int) , (0 : Int))))))).2.2.2.2.2) < (List.length x9)))
            (c2 (List.getD x5 (Int.toNat (IntKind.wrap .i64 ((List.getD x10 (Int.toNat x4) (0 : Int)) - (1 : Int)))) ((0 : Int) , ((0 : Int) , ((0 : Int) , ((0 : Int) , ((0 : Int) , (0 : Int))))))).2.2.2.1 x5 x6 x7
             (fun i1008 l1009 l1010 l1011 => br (decide ((List.getD x10 (Int.toNat x4) (0 : Int)) = (List.getD x10 (Int.toNat x4) (0 : Int))))
              (br (decide ((List.getD x5 (Int.toNat (IntKind.wrap .i64 ((List.getD x10 (Int.toNat x4) (0 : Int)) - (1 : Int)))) ((0 : Int) , ((0 : Int) , ((0 : Int) , ((0 : Int) , ((0 : Int) , (0 : Int))))))).1 = (List.getD x5 (Int.toNat (IntKind.wrap .i64 ((List.getD x10 (Int.toNat x4) (0 : Int)) - (1 : Int)))) ((0 : Int) , ((0 : Int) , ((0 : Int) , ((0 : Int) , ((0 : Int) , (0 : Int))))))).1))
               (br (decide ((List.getD x5 (Int.toNat (IntKind.wrap .i64 ((List.getD x10 (Int.toNat x4) (0 : Int)) - (1 : Int)))) ((0 : Int) , ((0 : Int) , ((0 : Int) , ((0 : Int) , ((0 : Int) , (0 : Int))))))).2.1 = (List.getD x5 (Int.toNat (IntKind.wrap .i64 ((List.getD x10 (Int.toNat x4) (0 : Int)) - (1 : Int)))) ((0 : Int) , ((0 : Int) , ((0 : Int) , ((0 : Int) , ((0 : Int) , (0 : Int))))))).2.1))
                (br (decide ((List.getD x5 (Int.toNat (IntKind.wrap .i64 ((List.getD x10 (Int.toNat x4) (0 : Int)) - (1 : Int)))) ((0 : Int) , ((0 : Int) , ((0 : Int) , ((0 : Int) , ((0 : Int) , (0 : Int))))))).2.2.1 = (List.getD x5 (Int.toNat (IntKind.wrap .i64 ((List.getD x10 (Int.toNat x4) (0 : Int)) - (1 : Int)))) ((0 : Int) , ((0 : Int) , ((0 : Int) , ((0 : Int) , ((0 : Int) , (0 : Int))))))).2.2.1))
                 (br (decide ((List.getD x5 (Int.toNat (IntKind.wrap .i64 ((List.getD x10 (Int.toNat x4) (0 : Int)) - (1 : Int)))) ((0 : Int) , ((0 : Int) , ((0 : Int) , ((0 : Int) , ((0 : Int) , (0 : Int))))))).2.2.2.1 = (List.getD x5 (Int.toNat (IntKind.wrap .i64 ((List.getD x10 (Int.toNat x4) (0 : Int)) - (1 : Int)))) ((0 : Int) , ((0 : Int) , ((0 : Int) , ((0 : Int) , ((0 : Int) , (0 : Int))))))).2.2.2.1))
                  (br (decide ((List.getD x5 (Int.toNat (IntKind.wrap .i64 ((List.getD x10 (Int.toNat x4) (0 : Int)) - (1 : Int)))) ((0 : Int) , ((0 : Int) , ((0 : Int) , ((0 : Int) , ((0 : Int) , (0 : Int))))))).2.2.2.2.1 = (List.getD x5 (Int.toNat (IntKind.wrap .i64 ((List.getD x10 (Int.toNat x4) (0 : Int)) - (1 : Int)))) ((0 : Int) , ((0 : Int) , ((0 : Int) , ((0 : Int) , ((0 : Int) , (0 : Int))))))).2.2.2.2.1))
                   (br (decide ((List.getD x5 (Int.toNat (IntKind.wrap .i64 ((List.getD x10 (Int.toNat x4) (0 : Int)) - (1 : Int)))) ((0 : Int) , ((0 : Int) , ((0 : Int) , ((0 : Int) , ((0 : Int) , (0 : Int))))))).2.2.2.2.2 = (List.getD x5 (Int.toNat (IntKind.wrap .i64 ((List.getD x10 (Int.toNat x4) (0 : Int)) - (1 : Int)))) ((0 : Int) , ((0 : Int) , ((0 : Int) , ((0 : Int) , ((0 : Int) , (0 : Int))))))).2.2.2.2.2))
                    (br (decide ((List.getD x5 (Int.toNat (IntKind.wrap .i64 ((List.getD x10 (Int.toNat x4) (0 : Int)) - (1 : Int)))) ((0 : Int) , ((0 : Int) , ((0 : Int) , ((0 : Int) , ((0 : Int) , (0 : Int))))))).2.2.2.1 = (List.getD x5 (Int.toNat (IntKind.wrap .i64 ((List.getD x10 (Int.toNat x4) (0 : Int)) - (1 : Int)))) ((0 : Int) , ((0 : Int) , ((0 : Int) , ((0 : Int) , ((0 : Int) , (0 : Int))))))).2.2.2.1))
                     (br (inB (List.getD x5 (Int.toNat (IntKind.wrap .i64 ((List.getD x10 (Int.toNat x4) (0 : Int)) - (1 : Int)))) ((0 : Int) , ((0 : Int) , ((0 : Int) , ((0 : Int) , ((0 : Int) , (0 : Int))))))).2.2.2.1 (List.length x9))
                      (br (decide ((List.getD x5 (Int.toNat (IntKind.wrap .i64 ((List.getD x10 (Int.toNat x4) (0 : Int)) - (1 : Int)))) ((0 : Int) , ((0 : Int) , ((0 : Int) , ((0 : Int) , ((0 : Int) , (0 : Int))))))).2.2.2.1 = (List.getD x5 (Int.toNat (IntKind.wrap .i64 ((List.getD x10 (Int.toNat x4) (0 : Int)) - (1 : Int)))) ((0 : Int) , ((0 : Int) , ((0 : Int) , ((0 : Int) , ((0 : Int) , (0 : Int))))))).2.2.2.1))
                       (br (decide ((Int.toNat (List.getD x5 (Int.toNat (IntKind.wrap .i64 ((List.getD x10 (Int.toNat x4) (0 : Int)) - (1 : Int)))) ((0 : Int) , ((0 : Int) , ((0 : Int) , ((0 : Int) , ((0 : Int) , (0 : Int))))))).2.2.2.1) < (List.length x9)))
                        (br (decide ((List.getD x9 (Int.toNat (List.getD x5 (Int.toNat (IntKind.wrap .i64 ((List.getD x10 (Int.toNat x4) (0 : Int)) - (1 : Int)))) ((0 : Int) , ((0 : Int) , ((0 : Int) , ((0 : Int) , ((0 : Int) , (0 : Int))))))).2.2.2.1) (0 : Int)) = (List.getD x9 (Int.toNat (List.getD x5 (Int.toNat (IntKind.wrap .i64 ((List.getD x10 (Int.toNat x4) (0 : Int)) - (1 : Int)))) ((0 : Int) , ((0 : Int) , ((0 : Int) , ((0 : Int) , ((0 : Int) , (0 : Int))))))).2.2.2.1) (0 : Int))))
                         (br (decide ((List.getD x5 (Int.toNat (IntKind.wrap .i64 ((List.getD x10 (Int.toNat x4) (0 : Int)) - (1 : Int)))) ((0 : Int) , ((0 : Int) , ((0 : Int) , ((0 : Int) , ((0 : Int) , (0 : Int))))))).2.2.2.2.1 = (List.getD x5 (Int.toNat (IntKind.wrap .i64 ((List.getD x10 (Int.toNat x4) (0 : Int)) - (1 : Int)))) ((0 : Int) , ((0 : Int) , ((0 : Int) , ((0 : Int) , ((0 : Int) , (0 : Int))))))).2.2.2.2.1))
                          (br (inB (List.getD x5 (Int.toNat (IntKind.wrap .i64 ((List.getD x10 (Int.toNat x4) (0 : Int)) - (1 : Int)))) ((0 : Int) , ((0 : Int) , ((0 : Int) , ((0 : Int) , ((0 : Int) , (0 : Int))))))).2.2.2.2.1 (List.length x9))
                           (br (decide ((List.getD x5 (Int.toNat (IntKind.wrap .i64 ((List.getD x10 (Int.toNat x4) (0 : Int)) - (1 : Int)))) ((0 : Int) , ((0 : Int) , ((0 : Int) , ((0 : Int) , ((0 : Int) , (0 : Int))))))).2.2.2.2.1 = (List.getD x5 (Int.toNat (IntKind.wrap .i64 ((List.getD x10 (Int.toNat x4) (0 : Int)) - (1 : Int)))) ((0 : Int) , ((0 : Int) , ((0 : Int) , ((0 : Int) , ((0 : Int) , (0 : Int))))))).2.2.2.2.1))
                            (br (decide ((Int.toNat (List.getD x5 (Int.toNat (IntKind.wrap .i64 ((List.getD x10 (Int.toNat x4) (0 : Int)) - (1 : Int)))) ((0 : Int) , ((0 : Int) , ((0 : Int) , ((0 : Int) , ((0 : Int) , (0 : Int))))))).2.2.2.2.1) < (List.length x9)))
                             (br (decide ((List.getD x9 (Int.toNat (List.getD x5 (Int.toNat (IntKind.wrap .i64 ((List.getD x10 (Int.toNat x4) (0 : Int)) - (1 : Int)))) ((0 : Int) , ((0 : Int) , ((0 : Int) , ((0 : Int) , ((0 : Int) , (0 : Int))))))).2.2.2.2.1) (0 : Int)) = (List.getD x9 (Int.toNat (List.getD x5 (Int.toNat (IntKind.wrap .i64 ((List.getD x10 (Int.toNat x4) (0 : Int)) - (1 : Int)))) ((0 : Int) , ((0 : Int) , ((0 : Int) , ((0 : Int) , ((0 : Int) , (0 : Int))))))).2.2.2.2.1) (0 : Int))))
                              (br (decide ((List.getD x5 (Int.toNat (IntKind.wrap .i64 ((List.getD x10 (Int.toNat x4) (0 : Int)) - (1 : Int)))) ((0 : Int) , ((0 : Int) , ((0 : Int) , ((0 : Int) , ((0 : Int) , (0 : Int))))))).2.2.2.2.2 = (List.getD x5 (Int.toNat (IntKind.wrap .i64 ((List.getD x10 (Int.toNat x4) (0 : Int)) - (1 : Int)))) ((0 : Int) , ((0 : Int) , ((0 : Int) , ((0 : Int) , ((0 : Int) , (0 : Int))))))).2.2.2.2.2))
                               (br (inB (List.getD x5 (Int.toNat (IntKind.wrap .i64 ((List.getD x10 (Int.toNat x4) (0 : Int)) - (1 : Int)))) ((0 : Int) , ((0 : Int) , ((0 : Int) , ((0 : Int) , ((0 : Int) , (0 : Int))))))).2.2.2.2.2 (List.length x9))
                                (br (decide ((List.getD x5 (Int.toNat (IntKind.wrap .i64 ((List.getD x10 (Int.toNat x4) (0 : Int)) - (1 : Int)))) ((0 : Int) , ((0 : Int) , ((0 : Int) , ((0 : Int) , ((0 : Int) , (0 : Int))))))).2.2.2.2.2 = (List.getD x5 (Int.toNat (IntKind.wrap .i64 ((List.getD x10 (Int.toNat x4) (0 : Int)) - (1 : Int)))) ((0 : Int) , ((0 : Int) , ((0 : Int) , ((0 : Int) , ((0 : Int) , (0 : Int))))))).2.2.2.2.2))
                                 (br (decide ((Int.toNat (List.getD x5 (Int.toNat (IntKind.wrap .i64 ((List.getD x10 (Int.toNat x4) (0 : Int)) - (1 : Int)))) ((0 : Int) , ((0 : Int) , ((0 : Int) , ((0 : Int) , ((0 : Int) , (0 : Int))))))).2.2.2.2.2) < (List.length x9)))
                                  (br (decide ((List.getD x9 (Int.toNat (List.getD x5 (Int.toNat (IntKind.wrap .i64 ((List.getD x10 (Int.toNat x4) (0 : Int)) - (1 : Int)))) ((0 : Int) , ((0 : Int) , ((0 : Int) , ((0 : Int) , ((0 : Int) , (0 : Int))))))).2.2.2.2.2) (0 : Int)) = (List.getD x9 (Int.toNat (List.getD x5 (Int.toNat (IntKind.wrap .i64 ((List.getD x10 (Int.toNat x4) (0 : Int)) - (1 : Int)))) ((0 : Int) , ((0 : Int) , ((0 : Int) , ((0 : Int) , ((0 : Int) , (0 : Int))))))).2.2.2.2.2) (0 : Int))))
                                   (br (decide (x1 = x1))
                                    (br (decide (x2 = x2))
                                     (c1 (List.getD x5 (Int.toNat (IntKind.wrap .i64 ((List.getD x10 (Int.toNat x4) (0 : Int)) - (1 : Int)))) ((0 : Int) , ((0 : Int) , ((0 : Int) , ((0 : Int) , ((0 : Int) , (0 : Int))))))).1 (List.getD x5 (Int.toNat (IntKind.wrap .i64 ((List.getD x10 (Int.toNat x4) (0 : Int)) - (1 : Int)))) ((0 : Int) , ((0 : Int) , ((0 : Int) , ((0 : Int) , ((0 : Int) , (0 : Int))))))).2.1 (List.getD x5 (Int.toNat (IntKind.wrap .i64 ((List.getD x10 (Int.toNat x4) (0 : Int)) - (1 : Int)))) ((0 : Int) , ((0 : Int) , ((0 : Int) , ((0 : Int) , ((0 : Int) , (0 : Int))))))).2.2.1 (List.getD x5 (Int.toNat (IntKind.wrap .i64 ((List.getD x10 (Int.toNat x4) (0 : Int)) - (1 : Int)))) ((0 : Int) , ((0 : Int) , ((0 : Int) , ((0 : Int) , ((0 : Int) , (0 : Int))))))).2.2.2.1 (List.getD x5 (Int.toNat (IntKind.wrap .i64 ((List.getD x10 (Int.toNat x4) (0 : Int)) - (1 : Int)))) ((0 : Int) , ((0 : Int) , ((0 : Int) , ((0 : Int) , ((0 : Int) , (0 : Int))))))).2.2.2.2.1 (List.getD x5 (Int.toNat (IntKind.wrap .i64 ((List.getD x10 (Int.toNat x4) (0 : Int)) - (1 : Int)))) ((0 : Int) , ((0 : Int) , ((0 : Int) , ((0 : Int) , ((0 : Int) , (0 : Int))))))).2.2.2.2.2 i1008 (List.getD x9 (Int.toNat (List.getD x5 (Int.toNat (IntKind.wrap .i64 ((List.getD x10 (Int.toNat x4) (0 : Int)) - (1 : Int)))) ((0 : Int) , ((0 : Int) , ((0 : Int) , ((0 : Int) , ((0 : Int) , (0 : Int))))))).2.2.2.1) (0 : Int)) (List.getD x9 (Int.toNat (List.getD x5 (Int.toNat (IntKind.wrap .i64 ((List.getD x10 (Int.toNat x4) (0 : Int)) - (1 : Int)))) ((0 : Int) , ((0 : Int) , ((0 : Int) , ((0 : Int) , ((0 : Int) , (0 : Int))))))).2.2.2.2.1) (0 : Int)) (List.getD x9 (Int.toNat (List.getD x5 (Int.toNat (IntKind.wrap .i64 ((List.getD x10 (Int.toNat x4) (0 : Int)) - (1 : Int)))) ((0 : Int) , ((0 : Int) , ((0 : Int) , ((0 : Int) , ((0 : Int) , (0 : Int))))))).2.2.2.2.2) (0 : Int)) x1 x2 x8
                                      (fun i1012 l1013 => br (decide ((List.getD x10 (Int.toNat x4) (0 : Int)) = (List.getD x10 (Int.toNat x4) (0 : Int))))
                                       (br (inB (List.getD x10 (Int.toNat x4) (0 : Int)) (List.length x9))
                                        (br (decide ((Int.toNat (List.getD x10 (Int.toNat x4) (0 : Int))) < (List.length x9)))
                                         (nx x0 x1 x2 x3 (IntKind.wrap .i64 (x4 + (1 : Int))) l1009 l1010 l1011 l1013 (List.set x9 (Int.toNat (List.getD x10 (Int.toNat x4) (0 : Int))) i1012) x10)
                                         (none))
                                        (none))
                                       (none)))
                                     (none))
                                    (none))
                                   (none))
                                  (none))
                                 (none))
                                (none))
                               (none))
                              (none))
                             (none))
                            (none))
                           (none))
                          (none))
                         (none))
                        (none))
                       (none))
                      (none))
                     (none))
                    (none))
                   (none))
                  (none))
                 (none))
                (none))
               (none))
              (none)))
            (none))
           (none))
          (none))
         (none))
        (none))
       (none))
      (none))
     (none))
    (none))
   (none))
  (k0 x0 x5 x6 x7 x8 x9)
noncomputable def term_Arena_Eval_46dc_l0 (N : Nat) {R : Type} (k0 : (Int) → (List ((Int) × ((Int) × ((Int) × ((Int) × ((Int) × (Int))))))) → (List (((Int) × ((Int) × ((Int) × ((Int) × ((Int) × (Int)))))) × (Int))) → (List ((Int) × (Int))) → (List (Int)) → (List (Int)) → Option R) : Nat → (Int) → (Nat) → (Nat) → (Int) → (Int) → (List ((Int) × ((Int) × ((Int) × ((Int) × ((Int) × (Int))))))) → (List (((Int) × ((Int) × ((Int) × ((Int) × ((Int) × (Int)))))) × (Int))) → (List ((Int) × (Int))) → (List (Int)) → (List (Int)) → (List (Int)) → Option R
  | 0, _, _, _, _, _, _, _, _, _, _, _ => none
  | n + 1, x0, x1, x2, x3, x4, x5, x6, x7, x8, x9, x10 => term_Arena_Eval_46dc_l0_T0 N (@term_Value_7344 N) (@term_Value_c09b N) (@term_Arena_Width_43b4 N) (@term_Arena_Under_2549 N) (@term_Arena_quick_520c N) (@term_Arena_quick_8272 N) (@term_Arena_there_2549 N) (fun x0 x1 x2 x3 x4 x5 x6 x7 x8 x9 x10 => term_Arena_Eval_46dc_l0 N k0 n x0 x1 x2 x3 x4 x5 x6 x7 x8 x9 x10) k0 x0 x1 x2 x3 x4 x5 x6 x7 x8 x9 x10
noncomputable def term_Arena_Eval_46dc_T (N : Nat) (c0 : term_Value_7344_Ty) (c1 : term_Value_c09b_Ty) (c2 : term_Arena_Width_43b4_Ty) (c3 : term_Arena_Under_2549_Ty) (c4 : term_Arena_quick_520c_Ty) (c5 : term_Arena_quick_8272_Ty) (c6 : term_Arena_there_2549_Ty) (w0 : term_Arena_Eval_46dc_l0_Ty) {R : Type} (x0 : Int) (x1 : Nat) (x2 : Nat) (x3 : List ((Int) × ((Int) × ((Int) × ((Int) × ((Int) × (Int))))))) (x4 : List (((Int) × ((Int) × ((Int) × ((Int) × ((Int) × (Int)))))) × (Int))) (x5 : List ((Int) × (Int))) (x6 : List (Int)) (k0 : (Int) → (List ((Int) × ((Int) × ((Int) × ((Int) × ((Int) × (Int))))))) → (List (((Int) × ((Int) × ((Int) × ((Int) × ((Int) × (Int)))))) × (Int))) → (List ((Int) × (Int))) → (List (Int)) → Option R) : Option R :=
  c6 x3 x4 x5 (x0 :: ([] : List ((Sh.int IntKind.i64).T)))
  (fun b960 l961 l962 l963 l964 => br (!b960)
   (k0 (0 : Int) l961 l962 l963 x6)
   (c5 x0 x1 x2 l961 l962 l963 x6 (64 : Int)
    (fun i996 b997 l998 l999 l1000 l1001 i1002 => br b997
     (k0 i996 l998 l999 l1000 l1001)
     (br ((((decide ((0 : Int) ≤ (IntKind.wrap .i64 (x0 + (1 : Int))))) && (decide ((IntKind.wrap .i64 (x0 + (1 : Int))) ≤ (IntKind.wrap .i64 (x0 + (1 : Int)))))) && (decide (((IntKind.wrap .i64 (x0 + (1 : Int))) * (2 : Int)) ≤ ((2 : Int) ^ (46 : Nat))))) && true)
      (c3 l998 l999 l1000 (x0 :: ([] : List ((Sh.int IntKind.i64).T)))
       (fun l1003 l1004 l1005 l1006 l1007 => w0
        (fun i1014 l1015 l1016 l1017 l1018 l1019 => br (inB i1014 (List.length l1019))
         (br (decide ((Int.toNat i1014) < (List.length l1019)))
          (k0 (List.getD l1019 (Int.toNat i1014) (0 : Int)) l1015 l1016 l1017 l1018)
          (none))
         (none))
        N x0 x1 x2 (Nat.cast (List.length l1007) : Int) (0 : Int) l1003 l1004 l1005 l1001 (List.replicate (Int.toNat (IntKind.wrap .i64 (x0 + (1 : Int)))) (0 : Int)) l1007))
      (none)))))
noncomputable def term_Arena_Eval_46dc (N : Nat) {R : Type} (x0 : Int) (x1 : Nat) (x2 : Nat) (x3 : List ((Int) × ((Int) × ((Int) × ((Int) × ((Int) × (Int))))))) (x4 : List (((Int) × ((Int) × ((Int) × ((Int) × ((Int) × (Int)))))) × (Int))) (x5 : List ((Int) × (Int))) (x6 : List (Int)) (k0 : (Int) → (List ((Int) × ((Int) × ((Int) × ((Int) × ((Int) × (Int))))))) → (List (((Int) × ((Int) × ((Int) × ((Int) × ((Int) × (Int)))))) × (Int))) → (List ((Int) × (Int))) → (List (Int)) → Option R) : Option R := term_Arena_Eval_46dc_T N (@term_Value_7344 N) (@term_Value_c09b N) (@term_Arena_Width_43b4 N) (@term_Arena_Under_2549 N) (@term_Arena_quick_520c N) (@term_Arena_quick_8272 N) (@term_Arena_there_2549 N) (@term_Arena_Eval_46dc_l0 N) x0 x1 x2 x3 x4 x5 x6 k0
abbrev law2_awake_Ty : Type 1 := {R : Type} → ((Bool) → Option R) → Option R
noncomputable def law2_awake_T (N : Nat) (c0 : term_Arena_Vars_43b4_Ty) (c1 : term_Arena_Width_43b4_Ty) (c2 : term_Arena_Eval_0112_Ty) (c3 : term_Arena_Eval_46dc_Ty) (c4 : term_Arena_Var_99d8_Ty) (c5 : term_Arena_Known_43b4_Ty) (c6 : term_Arena_Two_12d2_Ty) (c7 : term_Arena_Const_2c81_Ty) (c8 : term_New_Ty) {R : Type} (k0 : (Bool) → Option R) : Option R :=
  c8
  (fun l0 l1 l2 => c7 (8 : Int) (200 : Int) l0 l1 l2
   (fun i18 i19 l20 l21 l22 => c7 (8 : Int) (100 : Int) l22 l20 l21
    (fun i23 i24 l25 l26 l27 => c6 (7 : Int) i18 i23 l27 l25 l26
     (fun i650 i651 l652 l653 l654 => c5 i650 l654 l652 l653
      (fun i655 b656 l657 l658 l659 => c4 (8 : Int) (0 : Int) l657 l658 l659
       (fun i677 i678 l679 l680 l681 => c6 (7 : Int) i677 i18 l681 l679 l680
        (fun i682 i683 l684 l685 l686 => br (decide (i19 = (0 : Int)))
         (br (decide (i24 = (0 : Int)))
          (br (decide (i651 = (0 : Int)))
           (br (decide (i678 = (0 : Int)))
            (br (decide (i683 = (0 : Int)))
             (br b656
              (br (decide (i655 = (44 : Int)))
               (c2 i682 l686 l684 l685 ((1 : Int) :: ([] : List ((Sh.int IntKind.u16).T)))
                (fun i779 l780 l781 l782 l783 => br (decide (i779 = (201 : Int)))
                 (c1 i682 l780 l781 l782
                  (fun i784 l785 l786 l787 => br (decide (i784 = (8 : Int)))
                   (c0 i682 l785 l786 l787
                    (fun l824 l825 l826 l827 => k0 (decide ((Nat.cast (List.length l827) : Int) = (1 : Int)))))
                   (k0 false)))
                 (k0 false)))
               (k0 false))
              (k0 false))
             (k0 false))
            (k0 false))
           (k0 false))
          (k0 false))
         (k0 false))))))))
noncomputable def law2_awake (N : Nat) {R : Type} (k0 : (Bool) → Option R) : Option R := law2_awake_T N (@term_Arena_Vars_43b4 N) (@term_Arena_Width_43b4 N) (@term_Arena_Eval_0112 N) (@term_Arena_Eval_46dc N) (@term_Arena_Var_99d8 N) (@term_Arena_Known_43b4 N) (@term_Arena_Two_12d2 N) (@term_Arena_Const_2c81 N) (@term_New N) k0
abbrev term_Arena_Ext_99d8_Ty : Type 1 := {R : Type} → (Int) → (Int) → (List ((Int) × ((Int) × ((Int) × ((Int) × ((Int) × (Int))))))) → (List (((Int) × ((Int) × ((Int) × ((Int) × ((Int) × (Int)))))) × (Int))) → (List ((Int) × (Int))) → ((Int) → (Int) → (List (((Int) × ((Int) × ((Int) × ((Int) × ((Int) × (Int)))))) × (Int))) → (List ((Int) × (Int))) → (List ((Int) × ((Int) × ((Int) × ((Int) × ((Int) × (Int))))))) → Option R) → Option R
noncomputable def term_Arena_Ext_99d8_T (N : Nat) (c0 : term_Arena_keep_a25e_Ty) (c1 : term_Arena_Ext_99d8_Ty) (c2 : term_Arena_Const_2c81_Ty) (c3 : wide_May_Ty) (c4 : term_Arena_Node_43b4_Ty) {R : Type} (x0 : Int) (x1 : Int) (x2 : List ((Int) × ((Int) × ((Int) × ((Int) × ((Int) × (Int))))))) (x3 : List (((Int) × ((Int) × ((Int) × ((Int) × ((Int) × (Int)))))) × (Int))) (x4 : List ((Int) × (Int))) (k0 : (Int) → (Int) → (List (((Int) × ((Int) × ((Int) × ((Int) × ((Int) × (Int)))))) × (Int))) → (List ((Int) × (Int))) → (List ((Int) × ((Int) × ((Int) × ((Int) × ((Int) × (Int))))))) → Option R) : Option R :=
  c4 x1 x2 x3 x4
  (fun i909 i910 i911 i912 i913 i914 b915 l916 l917 l918 => br (!b915)
   (k0 (0 : Int) (1 : Int) l917 l918 l916)
   (c3 x0
    (fun b919 => br (!(!b919))
     (br (decide (x0 < i910))
      (k0 (0 : Int) (2 : Int) l917 l918 l916)
      (br (decide (x0 = i910))
       (k0 x1 (0 : Int) l917 l918 l916)
       (br (decide (i909 = (1 : Int)))
        (c2 x0 i911 l916 l917 l918
         (fun i920 i921 l922 l923 l924 => k0 i920 i921 l922 l923 l924))
        (br (decide (i909 = (17 : Int)))
         (c1 x0 i912 l916 l917 l918
          (fun i925 i926 l927 l928 l929 => k0 i925 i926 l927 l928 l929))
         (c0 (17 : Int) x0 (0 : Int) x1 (0 : Int) (0 : Int) l916 l917 l918
          (fun i930 i931 l932 l933 l934 => k0 i930 i931 l932 l933 l934))))))
     (k0 (0 : Int) (2 : Int) l917 l918 l916))))
structure G_term_Arena_Ext_Rec : Type 1 where
  term_Arena_Ext_99d8 : term_Arena_Ext_99d8_Ty
noncomputable def G_term_Arena_Ext_rec (N : Nat) : Nat → G_term_Arena_Ext_Rec
  | 0 => ⟨fun {R} _ _ _ _ _ _ => none⟩
  | n + 1 => ⟨fun {R} x0 x1 x2 x3 x4 k0 => term_Arena_Ext_99d8_T N (@term_Arena_keep_a25e N) (@G_term_Arena_Ext_Rec.term_Arena_Ext_99d8 (G_term_Arena_Ext_rec N n)) (@term_Arena_Const_2c81 N) (@wide_May N) (@term_Arena_Node_43b4 N) x0 x1 x2 x3 x4 k0⟩
noncomputable def term_Arena_Ext_99d8 (N : Nat) {R : Type} (x0 : Int) (x1 : Int) (x2 : List ((Int) × ((Int) × ((Int) × ((Int) × ((Int) × (Int))))))) (x3 : List (((Int) × ((Int) × ((Int) × ((Int) × ((Int) × (Int)))))) × (Int))) (x4 : List ((Int) × (Int))) (k0 : (Int) → (Int) → (List (((Int) × ((Int) × ((Int) × ((Int) × ((Int) × (Int)))))) × (Int))) → (List ((Int) × (Int))) → (List ((Int) × ((Int) × ((Int) × ((Int) × ((Int) × (Int))))))) → Option R) : Option R := (G_term_Arena_Ext_rec N N).term_Arena_Ext_99d8 x0 x1 x2 x3 x4 k0
abbrev term_Arena_Cut_99d8_Ty : Type 1 := {R : Type} → (Int) → (Int) → (List ((Int) × ((Int) × ((Int) × ((Int) × ((Int) × (Int))))))) → (List (((Int) × ((Int) × ((Int) × ((Int) × ((Int) × (Int)))))) × (Int))) → (List ((Int) × (Int))) → ((Int) → (Int) → (List (((Int) × ((Int) × ((Int) × ((Int) × ((Int) × (Int)))))) × (Int))) → (List ((Int) × (Int))) → (List ((Int) × ((Int) × ((Int) × ((Int) × ((Int) × (Int))))))) → Option R) → Option R
noncomputable def term_Arena_Cut_99d8_T (N : Nat) (c0 : term_Arena_keep_a25e_Ty) (c1 : term_Arena_Ext_99d8_Ty) (c2 : term_Arena_Width_43b4_Ty) (c3 : term_Arena_Cut_99d8_Ty) (c4 : term_Arena_Const_2c81_Ty) (c5 : wide_May_Ty) (c6 : term_Arena_Node_43b4_Ty) {R : Type} (x0 : Int) (x1 : Int) (x2 : List ((Int) × ((Int) × ((Int) × ((Int) × ((Int) × (Int))))))) (x3 : List (((Int) × ((Int) × ((Int) × ((Int) × ((Int) × (Int)))))) × (Int))) (x4 : List ((Int) × (Int))) (k0 : (Int) → (Int) → (List (((Int) × ((Int) × ((Int) × ((Int) × ((Int) × (Int)))))) × (Int))) → (List ((Int) × (Int))) → (List ((Int) × ((Int) × ((Int) × ((Int) × ((Int) × (Int))))))) → Option R) : Option R :=
  c6 x1 x2 x3 x4
  (fun i863 i864 i865 i866 i867 i868 b869 l870 l871 l872 => br (!b869)
   (k0 (0 : Int) (1 : Int) l871 l872 l870)
   (c5 x0
    (fun b873 => br (!(!b873))
     (br (decide (i864 < x0))
      (k0 (0 : Int) (2 : Int) l871 l872 l870)
      (br (decide (x0 = i864))
       (k0 x1 (0 : Int) l871 l872 l870)
       (br (decide (i863 = (1 : Int)))
        (c4 x0 i865 l870 l871 l872
         (fun i874 i875 l876 l877 l878 => k0 i874 i875 l876 l877 l878))
        (br (decide (i863 = (18 : Int)))
         (c3 x0 i866 l870 l871 l872
          (fun i879 i880 l881 l882 l883 => k0 i879 i880 l881 l882 l883))
         (br (decide (i863 = (17 : Int)))
          (c2 i866 l870 l871 l872
           (fun i884 l885 l886 l887 => br (decide (x0 ≤ i884))
            (c3 x0 i866 l885 l886 l887
             (fun i888 i889 l890 l891 l892 => k0 i888 i889 l890 l891 l892))
            (br (decide (i863 = (17 : Int)))
             (c1 x0 i866 l885 l886 l887
              (fun i935 i936 l937 l938 l939 => k0 i935 i936 l937 l938 l939))
             (c0 (18 : Int) x0 (0 : Int) x1 (0 : Int) (0 : Int) l885 l886 l887
              (fun i940 i941 l942 l943 l944 => k0 i940 i941 l942 l943 l944)))))
          (br (decide (i863 = (17 : Int)))
           (c1 x0 i866 l870 l871 l872
            (fun i945 i946 l947 l948 l949 => k0 i945 i946 l947 l948 l949))
           (c0 (18 : Int) x0 (0 : Int) x1 (0 : Int) (0 : Int) l870 l871 l872
            (fun i950 i951 l952 l953 l954 => k0 i950 i951 l952 l953 l954))))))))
     (k0 (0 : Int) (2 : Int) l871 l872 l870))))
structure G_term_Arena_Cut_Rec : Type 1 where
  term_Arena_Cut_99d8 : term_Arena_Cut_99d8_Ty
noncomputable def G_term_Arena_Cut_rec (N : Nat) : Nat → G_term_Arena_Cut_Rec
  | 0 => ⟨fun {R} _ _ _ _ _ _ => none⟩
  | n + 1 => ⟨fun {R} x0 x1 x2 x3 x4 k0 => term_Arena_Cut_99d8_T N (@term_Arena_keep_a25e N) (@term_Arena_Ext_99d8 N) (@term_Arena_Width_43b4 N) (@G_term_Arena_Cut_Rec.term_Arena_Cut_99d8 (G_term_Arena_Cut_rec N n)) (@term_Arena_Const_2c81 N) (@wide_May N) (@term_Arena_Node_43b4 N) x0 x1 x2 x3 x4 k0⟩
noncomputable def term_Arena_Cut_99d8 (N : Nat) {R : Type} (x0 : Int) (x1 : Int) (x2 : List ((Int) × ((Int) × ((Int) × ((Int) × ((Int) × (Int))))))) (x3 : List (((Int) × ((Int) × ((Int) × ((Int) × ((Int) × (Int)))))) × (Int))) (x4 : List ((Int) × (Int))) (k0 : (Int) → (Int) → (List (((Int) × ((Int) × ((Int) × ((Int) × ((Int) × (Int)))))) × (Int))) → (List ((Int) × (Int))) → (List ((Int) × ((Int) × ((Int) × ((Int) × ((Int) × (Int))))))) → Option R) : Option R := (G_term_Arena_Cut_rec N N).term_Arena_Cut_99d8 x0 x1 x2 x3 x4 k0
abbrev law2_TermWidths_lj0_Ty : Type 1 := {R : Type} → ((Bool) → Option R) → Nat → (Int) → (Int) → (Int) → (Int) → (Nat) → (Nat) → (List (Int)) → (List ((Int) × ((Int) × ((Int) × ((Int) × ((Int) × (Int))))))) → (List (((Int) × ((Int) × ((Int) × ((Int) × ((Int) × (Int)))))) × (Int))) → (List ((Int) × (Int))) → (List (Int)) → Option R
abbrev law2_TermWidths_l0_Ty : Type 1 := {R : Type} → ((Int) → (Bool) → (Int) → (Int) → (Int) → (Nat) → (Nat) → (List (Int)) → (List ((Int) × ((Int) × ((Int) × ((Int) × ((Int) × (Int))))))) → (List (((Int) × ((Int) × ((Int) × ((Int) × ((Int) × (Int)))))) × (Int))) → (List ((Int) × (Int))) → (List (Int)) → Option R) → ((Int) → (Int) → (Int) → (Int) → (Nat) → (Nat) → (List (Int)) → (List ((Int) × ((Int) × ((Int) × ((Int) × ((Int) × (Int))))))) → (List (((Int) × ((Int) × ((Int) × ((Int) × ((Int) × (Int)))))) × (Int))) → (List ((Int) × (Int))) → (List (Int)) → Option R) → Nat → (Int) → (Int) → (Int) → (Int) → (Nat) → (Nat) → (Int) → (List (Int)) → (List ((Int) × ((Int) × ((Int) × ((Int) × ((Int) × (Int))))))) → (List (((Int) × ((Int) × ((Int) × ((Int) × ((Int) × (Int)))))) × (Int))) → (List ((Int) × (Int))) → (List (Int)) → Option R
abbrev law2_TermWidths_lj1_Ty : Type 1 := {R : Type} → ((Int) → (Bool) → (Int) → (Int) → (Int) → (Nat) → (Nat) → (Int) → (List (Int)) → (List ((Int) × ((Int) × ((Int) × ((Int) × ((Int) × (Int))))))) → (List (((Int) × ((Int) × ((Int) × ((Int) × ((Int) × (Int)))))) × (Int))) → (List ((Int) × (Int))) → (List (Int)) → Option R) → ((Int) → (Int) → (Int) → (Int) → (Nat) → (Nat) → (Int) → (List (Int)) → (List ((Int) × ((Int) × ((Int) × ((Int) × ((Int) × (Int))))))) → (List (((Int) × ((Int) × ((Int) × ((Int) × ((Int) × (Int)))))) × (Int))) → (List ((Int) × (Int))) → (List (Int)) → Option R) → Nat → (Int) → (Int) → (Int) → (Int) → (Nat) → (Nat) → (Int) → (Int) → (Int) → (List (Int)) → (List ((Int) × ((Int) × ((Int) × ((Int) × ((Int) × (Int))))))) → (List (((Int) × ((Int) × ((Int) × ((Int) × ((Int) × (Int)))))) × (Int))) → (List ((Int) × (Int))) → (List (Int)) → Option R
abbrev law2_TermWidths_lj2_Ty : Type 1 := {R : Type} → ((Bool) → Option R) → Nat → (Int) → (Int) → (Int) → (Int) → (List ((Int) × ((Int) × ((Int) × ((Int) × ((Int) × (Int))))))) → (List (((Int) × ((Int) × ((Int) × ((Int) × ((Int) × (Int)))))) × (Int))) → (List ((Int) × (Int))) → (List (Int)) → (List (Int)) → Option R
abbrev law2_TermWidths_Ty : Type 1 := {R : Type} → (Int) → (Int) → (Int) → (Int) → ((Bool) → Option R) → Option R
noncomputable def law2_TermWidths_lj0_T0 (N : Nat) (c0 : term_Arena_Eval_0112_Ty) (c1 : term_Arena_Eval_46dc_Ty) (c2 : term_Arena_Ite_12d2_Ty) (c3 : term_Arena_Ext_99d8_Ty) (c4 : term_Arena_Width_43b4_Ty) (c5 : ref1_Mask_Ty) (c6 : term_Arena_Cut_99d8_Ty) (c7 : term_Arena_Var_99d8_Ty) (c8 : term_New_Ty) (c9 : law2_awake_Ty) (w0 : law2_TermWidths_l0_Ty) (wj1 : law2_TermWidths_lj1_Ty) (wj2 : law2_TermWidths_lj2_Ty) {R : Type} (k0 : (Bool) → Option R) (x0 : Int) (x1 : Int) (x2 : Int) (x3 : Int) (x4 : Nat) (x5 : Nat) (x6 : List (Int)) (x7 : List ((Int) × ((Int) × ((Int) × ((Int) × ((Int) × (Int))))))) (x8 : List (((Int) × ((Int) × ((Int) × ((Int) × ((Int) × (Int)))))) × (Int))) (x9 : List ((Int) × (Int))) (x10 : List (Int)) : Option R :=
  c2 x3 x1 x2 x7 x8 x9
  (fun i1180 i1181 l1182 l1183 l1184 => br (decide ((band .u16 (List.getD x6 (2 : Nat) (0 : Int)) (1 : Int)) = (1 : Int)))
   (br (fits (0 : Nat) x4 x6)
    (wj2
     (fun b1191 => k0 b1191)
     N x0 i1180 i1181 (List.getD x6 (0 : Nat) (0 : Int)) l1184 l1182 l1183 x10 (sub x6 (0 : Nat) x4))
    (none))
   (br (fits (0 : Nat) x4 x6)
    (wj2
     (fun b1192 => k0 b1192)
     N x0 i1180 i1181 (List.getD x6 (1 : Nat) (0 : Int)) l1184 l1182 l1183 x10 (sub x6 (0 : Nat) x4))
    (none)))
noncomputable def law2_TermWidths_l0_T0 (N : Nat) (c0 : term_Arena_Eval_0112_Ty) (c1 : term_Arena_Eval_46dc_Ty) (c2 : term_Arena_Ite_12d2_Ty) (c3 : term_Arena_Ext_99d8_Ty) (c4 : term_Arena_Width_43b4_Ty) (c5 : ref1_Mask_Ty) (c6 : term_Arena_Cut_99d8_Ty) (c7 : term_Arena_Var_99d8_Ty) (c8 : term_New_Ty) (c9 : law2_awake_Ty) (wj1 : law2_TermWidths_lj1_Ty) (wj2 : law2_TermWidths_lj2_Ty) {R : Type} (nx : (Int) → (Int) → (Int) → (Int) → (Nat) → (Nat) → (Int) → (List (Int)) → (List ((Int) × ((Int) × ((Int) × ((Int) × ((Int) × (Int))))))) → (List (((Int) × ((Int) × ((Int) × ((Int) × ((Int) × (Int)))))) × (Int))) → (List ((Int) × (Int))) → (List (Int)) → Option R) (k0 : (Int) → (Bool) → (Int) → (Int) → (Int) → (Nat) → (Nat) → (List (Int)) → (List ((Int) × ((Int) × ((Int) × ((Int) × ((Int) × (Int))))))) → (List (((Int) × ((Int) × ((Int) × ((Int) × ((Int) × (Int)))))) × (Int))) → (List ((Int) × (Int))) → (List (Int)) → Option R) (k1 : (Int) → (Int) → (Int) → (Int) → (Nat) → (Nat) → (List (Int)) → (List ((Int) × ((Int) × ((Int) × ((Int) × ((Int) × (Int))))))) → (List (((Int) × ((Int) × ((Int) × ((Int) × ((Int) × (Int)))))) × (Int))) → (List ((Int) × (Int))) → (List (Int)) → Option R) (x0 : Int) (x1 : Int) (x2 : Int) (x3 : Int) (x4 : Nat) (x5 : Nat) (x6 : Int) (x7 : List (Int)) (x8 : List ((Int) × ((Int) × ((Int) × ((Int) × ((Int) × (Int))))))) (x9 : List (((Int) × ((Int) × ((Int) × ((Int) × ((Int) × (Int)))))) × (Int))) (x10 : List ((Int) × (Int))) (x11 : List (Int)) : Option R :=
  br (decide (x6 < (3 : Int)))
  (br (inB x6 (List.length x11))
   (br (decide ((Int.toNat x6) < (List.length x11)))
    (br (inB (Int.tmod x0 (3 : Int)) (List.length x11))
     (br (decide ((Int.toNat (Int.tmod x0 (3 : Int))) < (List.length x11)))
      (br (decide ((List.getD x11 (Int.toNat x6) (0 : Int)) < (List.getD x11 (Int.toNat (Int.tmod x0 (3 : Int))) (0 : Int))))
       (br (inB x6 (List.length x11))
        (br (decide ((Int.toNat x6) < (List.length x11)))
         (c6 (List.getD x11 (Int.toNat x6) (0 : Int)) x1 x8 x9 x10
          (fun i955 i956 l957 l958 l959 => br (!(!(decide (i956 = (0 : Int)))))
           (br (inB x6 (List.length x11))
            (br (decide ((Int.toNat x6) < (List.length x11)))
             (c1 i955 x4 x5 l959 l957 l958 x7
              (fun i1020 l1021 l1022 l1023 l1024 => br (decide ((List.getD l1024 (0 : Nat) (0 : Int)) = (List.getD x7 (0 : Nat) (0 : Int))))
               (br (decide (x6 = x6))
                (br (inB x6 (List.length x11))
                 (br (decide (x6 = x6))
                  (br (decide ((Int.toNat x6) < (List.length x11)))
                   (br (decide ((List.getD x11 (Int.toNat x6) (0 : Int)) = (List.getD x11 (Int.toNat x6) (0 : Int))))
                    (c5 (List.getD x11 (Int.toNat x6) (0 : Int))
                     (fun i1026 => br (decide ((List.getD l1024 (0 : Nat) (0 : Int)) = (List.getD x7 (0 : Nat) (0 : Int))))
                      (br (!(!(decide (i1020 = (band .u16 (List.getD x7 (0 : Nat) (0 : Int)) i1026)))))
                       (br (inB x6 (List.length x11))
                        (br (decide ((Int.toNat x6) < (List.length x11)))
                         (c4 i955 l1021 l1022 l1023
                          (fun i1027 l1028 l1029 l1030 => br (decide (x6 = x6))
                           (br (inB x6 (List.length x11))
                            (br (decide (x6 = x6))
                             (br (decide ((Int.toNat x6) < (List.length x11)))
                              (br (decide ((List.getD x11 (Int.toNat x6) (0 : Int)) = (List.getD x11 (Int.toNat x6) (0 : Int))))
                               (br (!(decide (i1027 = (List.getD x11 (Int.toNat x6) (0 : Int)))))
                                (k0 x0 false x1 x2 x3 x4 x5 l1024 l1028 l1029 l1030 x11)
                                (nx x0 x1 x2 x3 x4 x5 (IntKind.wrap .i64 (x6 + (1 : Int))) l1024 l1028 l1029 l1030 x11))
                               (none))
                              (none))
                             (none))
                            (none))
                           (none)))
                         (none))
                        (none))
                       (k0 x0 false x1 x2 x3 x4 x5 l1024 l1021 l1022 l1023 x11))
                      (none)))
                    (none))
                   (none))
                  (none))
                 (none))
                (none))
               (none)))
             (none))
            (none))
           (k0 x0 false x1 x2 x3 x4 x5 x7 l959 l957 l958 x11)))
         (none))
        (none))
       (br (inB x6 (List.length x11))
        (br (decide ((Int.toNat x6) < (List.length x11)))
         (c3 (List.getD x11 (Int.toNat x6) (0 : Int)) x1 x8 x9 x10
          (fun i1031 i1032 l1033 l1034 l1035 => wj1
           (fun i1061 b1062 i1063 i1064 i1065 n1066 n1067 i1068 l1069 l1070 l1071 l1072 l1073 => k0 i1061 b1062 i1063 i1064 i1065 n1066 n1067 l1069 l1070 l1071 l1072 l1073)
           (fun i1074 i1075 i1076 i1077 n1078 n1079 i1080 l1081 l1082 l1083 l1084 l1085 => nx i1074 i1075 i1076 i1077 n1078 n1079 (IntKind.wrap .i64 (i1080 + (1 : Int))) l1081 l1082 l1083 l1084 l1085)
           N x0 x1 x2 x3 x4 x5 x6 i1031 i1032 x7 l1035 l1033 l1034 x11))
         (none))
        (none)))
      (none))
     (none))
    (none))
   (none))
  (k1 x0 x1 x2 x3 x4 x5 x7 x8 x9 x10 x11)
noncomputable def law2_TermWidths_lj1_T0 (N : Nat) (c0 : term_Arena_Eval_0112_Ty) (c1 : term_Arena_Eval_46dc_Ty) (c2 : term_Arena_Ite_12d2_Ty) (c3 : term_Arena_Ext_99d8_Ty) (c4 : term_Arena_Width_43b4_Ty) (c5 : ref1_Mask_Ty) (c6 : term_Arena_Cut_99d8_Ty) (c7 : term_Arena_Var_99d8_Ty) (c8 : term_New_Ty) (c9 : law2_awake_Ty) (wj2 : law2_TermWidths_lj2_Ty) {R : Type} (k0 : (Int) → (Bool) → (Int) → (Int) → (Int) → (Nat) → (Nat) → (Int) → (List (Int)) → (List ((Int) × ((Int) × ((Int) × ((Int) × ((Int) × (Int))))))) → (List (((Int) × ((Int) × ((Int) × ((Int) × ((Int) × (Int)))))) × (Int))) → (List ((Int) × (Int))) → (List (Int)) → Option R) (k1 : (Int) → (Int) → (Int) → (Int) → (Nat) → (Nat) → (Int) → (List (Int)) → (List ((Int) × ((Int) × ((Int) × ((Int) × ((Int) × (Int))))))) → (List (((Int) × ((Int) × ((Int) × ((Int) × ((Int) × (Int)))))) × (Int))) → (List ((Int) × (Int))) → (List (Int)) → Option R) (x0 : Int) (x1 : Int) (x2 : Int) (x3 : Int) (x4 : Nat) (x5 : Nat) (x6 : Int) (x7 : Int) (x8 : Int) (x9 : List (Int)) (x10 : List ((Int) × ((Int) × ((Int) × ((Int) × ((Int) × (Int))))))) (x11 : List (((Int) × ((Int) × ((Int) × ((Int) × ((Int) × (Int)))))) × (Int))) (x12 : List ((Int) × (Int))) (x13 : List (Int)) : Option R :=
  br (inB (Int.tmod x0 (3 : Int)) (List.length x13))
  (br (decide ((Int.toNat (Int.tmod x0 (3 : Int))) < (List.length x13)))
   (c6 (List.getD x13 (Int.toNat (Int.tmod x0 (3 : Int))) (0 : Int)) x7 x10 x11 x12
    (fun i1036 i1037 l1038 l1039 l1040 => br (!(!(decide (x8 = (0 : Int)))))
     (br (!(!(decide (i1037 = (0 : Int)))))
      (br (inB x6 (List.length x13))
       (br (decide ((Int.toNat x6) < (List.length x13)))
        (c4 x7 l1040 l1038 l1039
         (fun i1041 l1042 l1043 l1044 => br (decide (x6 = x6))
          (br (inB x6 (List.length x13))
           (br (decide (x6 = x6))
            (br (decide ((Int.toNat x6) < (List.length x13)))
             (br (decide ((List.getD x13 (Int.toNat x6) (0 : Int)) = (List.getD x13 (Int.toNat x6) (0 : Int))))
              (br (!(!(decide (i1041 = (List.getD x13 (Int.toNat x6) (0 : Int))))))
               (br (inB (Int.tmod x0 (3 : Int)) (List.length x13))
                (br (decide ((Int.toNat (Int.tmod x0 (3 : Int))) < (List.length x13)))
                 (c1 i1036 x4 x5 l1042 l1043 l1044 x9
                  (fun i1045 l1046 l1047 l1048 l1049 => br (decide ((List.getD l1049 (0 : Nat) (0 : Int)) = (List.getD x9 (0 : Nat) (0 : Int))))
                   (br (decide (x0 = x0))
                    (br (decide ((Int.tmod x0 (3 : Int)) = (Int.tmod x0 (3 : Int))))
                     (br (inB (Int.tmod x0 (3 : Int)) (List.length x13))
                      (br (decide ((Int.tmod x0 (3 : Int)) = (Int.tmod x0 (3 : Int))))
                       (br (decide ((Int.toNat (Int.tmod x0 (3 : Int))) < (List.length x13)))
                        (br (decide ((List.getD x13 (Int.toNat (Int.tmod x0 (3 : Int))) (0 : Int)) = (List.getD x13 (Int.toNat (Int.tmod x0 (3 : Int))) (0 : Int))))
                         (c5 (List.getD x13 (Int.toNat (Int.tmod x0 (3 : Int))) (0 : Int))
                          (fun i1050 => br (decide ((List.getD l1049 (0 : Nat) (0 : Int)) = (List.getD x9 (0 : Nat) (0 : Int))))
                           (br (!(!(decide (i1045 = (band .u16 (List.getD x9 (0 : Nat) (0 : Int)) i1050)))))
                            (c1 x7 x4 x5 l1046 l1047 l1048 l1049
                             (fun i1051 l1052 l1053 l1054 l1055 => br (decide (x1 = x1))
                              (br (decide (x4 = x4))
                               (br (decide (x5 = x5))
                                (c1 x1 x4 x5 l1052 l1053 l1054 l1055
                                 (fun i1056 l1057 l1058 l1059 l1060 => br (!(decide (i1051 = i1056)))
                                  (k0 x0 false x1 x2 x3 x4 x5 x6 l1060 l1057 l1058 l1059 x13)
                                  (k1 x0 x1 x2 x3 x4 x5 x6 l1060 l1057 l1058 l1059 x13)))
                                (none))
                               (none))
                              (none)))
                            (k0 x0 false x1 x2 x3 x4 x5 x6 l1049 l1046 l1047 l1048 x13))
                           (none)))
                         (none))
                        (none))
                       (none))
                      (none))
                     (none))
                    (none))
                   (none)))
                 (none))
                (none))
               (k0 x0 false x1 x2 x3 x4 x5 x6 x9 l1042 l1043 l1044 x13))
              (none))
             (none))
            (none))
           (none))
          (none)))
        (none))
       (none))
      (k0 x0 false x1 x2 x3 x4 x5 x6 x9 l1040 l1038 l1039 x13))
     (k0 x0 false x1 x2 x3 x4 x5 x6 x9 l1040 l1038 l1039 x13)))
   (none))
  (none)
noncomputable def law2_TermWidths_lj2_T0 (N : Nat) (c0 : term_Arena_Eval_0112_Ty) (c1 : term_Arena_Eval_46dc_Ty) (c2 : term_Arena_Ite_12d2_Ty) (c3 : term_Arena_Ext_99d8_Ty) (c4 : term_Arena_Width_43b4_Ty) (c5 : ref1_Mask_Ty) (c6 : term_Arena_Cut_99d8_Ty) (c7 : term_Arena_Var_99d8_Ty) (c8 : term_New_Ty) (c9 : law2_awake_Ty) {R : Type} (k0 : (Bool) → Option R) (x0 : Int) (x1 : Int) (x2 : Int) (x3 : Int) (x4 : List ((Int) × ((Int) × ((Int) × ((Int) × ((Int) × (Int))))))) (x5 : List (((Int) × ((Int) × ((Int) × ((Int) × ((Int) × (Int)))))) × (Int))) (x6 : List ((Int) × (Int))) (x7 : List (Int)) (x8 : List (Int)) : Option R :=
  br (decide (x2 = (0 : Int)))
  (br (inB (Int.tmod x0 (3 : Int)) (List.length x7))
   (br (decide ((Int.toNat (Int.tmod x0 (3 : Int))) < (List.length x7)))
    (c0 x1 x4 x5 x6 x8
     (fun i1185 l1186 l1187 l1188 l1189 => br (decide (x3 = x3))
      (br (decide (x0 = x0))
       (br (decide ((Int.tmod x0 (3 : Int)) = (Int.tmod x0 (3 : Int))))
        (br (inB (Int.tmod x0 (3 : Int)) (List.length x7))
         (br (decide ((Int.tmod x0 (3 : Int)) = (Int.tmod x0 (3 : Int))))
          (br (decide ((Int.toNat (Int.tmod x0 (3 : Int))) < (List.length x7)))
           (br (decide ((List.getD x7 (Int.toNat (Int.tmod x0 (3 : Int))) (0 : Int)) = (List.getD x7 (Int.toNat (Int.tmod x0 (3 : Int))) (0 : Int))))
            (c5 (List.getD x7 (Int.toNat (Int.tmod x0 (3 : Int))) (0 : Int))
             (fun i1190 => br (decide (x3 = x3))
              (k0 (decide (i1185 = (band .u16 x3 i1190))))
              (none)))
            (none))
           (none))
          (none))
         (none))
        (none))
       (none))
      (none)))
    (none))
   (none))
  (k0 false)
noncomputable def law2_TermWidths_lj2 (N : Nat) {R : Type} (k0 : (Bool) → Option R) (_ : Nat) (x0 : Int) (x1 : Int) (x2 : Int) (x3 : Int) (x4 : List ((Int) × ((Int) × ((Int) × ((Int) × ((Int) × (Int))))))) (x5 : List (((Int) × ((Int) × ((Int) × ((Int) × ((Int) × (Int)))))) × (Int))) (x6 : List ((Int) × (Int))) (x7 : List (Int)) (x8 : List (Int)) : Option R := law2_TermWidths_lj2_T0 N (@term_Arena_Eval_0112 N) (@term_Arena_Eval_46dc N) (@term_Arena_Ite_12d2 N) (@term_Arena_Ext_99d8 N) (@term_Arena_Width_43b4 N) (@ref1_Mask N) (@term_Arena_Cut_99d8 N) (@term_Arena_Var_99d8 N) (@term_New N) (@law2_awake N) k0 x0 x1 x2 x3 x4 x5 x6 x7 x8
noncomputable def law2_TermWidths_lj1 (N : Nat) {R : Type} (k0 : (Int) → (Bool) → (Int) → (Int) → (Int) → (Nat) → (Nat) → (Int) → (List (Int)) → (List ((Int) × ((Int) × ((Int) × ((Int) × ((Int) × (Int))))))) → (List (((Int) × ((Int) × ((Int) × ((Int) × ((Int) × (Int)))))) × (Int))) → (List ((Int) × (Int))) → (List (Int)) → Option R) (k1 : (Int) → (Int) → (Int) → (Int) → (Nat) → (Nat) → (Int) → (List (Int)) → (List ((Int) × ((Int) × ((Int) × ((Int) × ((Int) × (Int))))))) → (List (((Int) × ((Int) × ((Int) × ((Int) × ((Int) × (Int)))))) × (Int))) → (List ((Int) × (Int))) → (List (Int)) → Option R) (_ : Nat) (x0 : Int) (x1 : Int) (x2 : Int) (x3 : Int) (x4 : Nat) (x5 : Nat) (x6 : Int) (x7 : Int) (x8 : Int) (x9 : List (Int)) (x10 : List ((Int) × ((Int) × ((Int) × ((Int) × ((Int) × (Int))))))) (x11 : List (((Int) × ((Int) × ((Int) × ((Int) × ((Int) × (Int)))))) × (Int))) (x12 : List ((Int) × (Int))) (x13 : List (Int)) : Option R := law2_TermWidths_lj1_T0 N (@term_Arena_Eval_0112 N) (@term_Arena_Eval_46dc N) (@term_Arena_Ite_12d2 N) (@term_Arena_Ext_99d8 N) (@term_Arena_Width_43b4 N) (@ref1_Mask N) (@term_Arena_Cut_99d8 N) (@term_Arena_Var_99d8 N) (@term_New N) (@law2_awake N) (@law2_TermWidths_lj2 N) k0 k1 x0 x1 x2 x3 x4 x5 x6 x7 x8 x9 x10 x11 x12 x13
noncomputable def law2_TermWidths_l0 (N : Nat) {R : Type} (k0 : (Int) → (Bool) → (Int) → (Int) → (Int) → (Nat) → (Nat) → (List (Int)) → (List ((Int) × ((Int) × ((Int) × ((Int) × ((Int) × (Int))))))) → (List (((Int) × ((Int) × ((Int) × ((Int) × ((Int) × (Int)))))) × (Int))) → (List ((Int) × (Int))) → (List (Int)) → Option R) (k1 : (Int) → (Int) → (Int) → (Int) → (Nat) → (Nat) → (List (Int)) → (List ((Int) × ((Int) × ((Int) × ((Int) × ((Int) × (Int))))))) → (List (((Int) × ((Int) × ((Int) × ((Int) × ((Int) × (Int)))))) × (Int))) → (List ((Int) × (Int))) → (List (Int)) → Option R) : Nat → (Int) → (Int) → (Int) → (Int) → (Nat) → (Nat) → (Int) → (List (Int)) → (List ((Int) × ((Int) × ((Int) × ((Int) × ((Int) × (Int))))))) → (List (((Int) × ((Int) × ((Int) × ((Int) × ((Int) × (Int)))))) × (Int))) → (List ((Int) × (Int))) → (List (Int)) → Option R
  | 0, _, _, _, _, _, _, _, _, _, _, _, _ => none
  | n + 1, x0, x1, x2, x3, x4, x5, x6, x7, x8, x9, x10, x11 => law2_TermWidths_l0_T0 N (@term_Arena_Eval_0112 N) (@term_Arena_Eval_46dc N) (@term_Arena_Ite_12d2 N) (@term_Arena_Ext_99d8 N) (@term_Arena_Width_43b4 N) (@ref1_Mask N) (@term_Arena_Cut_99d8 N) (@term_Arena_Var_99d8 N) (@term_New N) (@law2_awake N) (@law2_TermWidths_lj1 N) (@law2_TermWidths_lj2 N) (fun x0 x1 x2 x3 x4 x5 x6 x7 x8 x9 x10 x11 => law2_TermWidths_l0 N k0 k1 n x0 x1 x2 x3 x4 x5 x6 x7 x8 x9 x10 x11) k0 k1 x0 x1 x2 x3 x4 x5 x6 x7 x8 x9 x10 x11
noncomputable def law2_TermWidths_lj0 (N : Nat) {R : Type} (k0 : (Bool) → Option R) (_ : Nat) (x0 : Int) (x1 : Int) (x2 : Int) (x3 : Int) (x4 : Nat) (x5 : Nat) (x6 : List (Int)) (x7 : List ((Int) × ((Int) × ((Int) × ((Int) × ((Int) × (Int))))))) (x8 : List (((Int) × ((Int) × ((Int) × ((Int) × ((Int) × (Int)))))) × (Int))) (x9 : List ((Int) × (Int))) (x10 : List (Int)) : Option R := law2_TermWidths_lj0_T0 N (@term_Arena_Eval_0112 N) (@term_Arena_Eval_46dc N) (@term_Arena_Ite_12d2 N) (@term_Arena_Ext_99d8 N) (@term_Arena_Width_43b4 N) (@ref1_Mask N) (@term_Arena_Cut_99d8 N) (@term_Arena_Var_99d8 N) (@term_New N) (@law2_awake N) (@law2_TermWidths_l0 N) (@law2_TermWidths_lj1 N) (@law2_TermWidths_lj2 N) k0 x0 x1 x2 x3 x4 x5 x6 x7 x8 x9 x10
noncomputable def law2_TermWidths_T (N : Nat) (c0 : term_Arena_Eval_0112_Ty) (c1 : term_Arena_Eval_46dc_Ty) (c2 : term_Arena_Ite_12d2_Ty) (c3 : term_Arena_Ext_99d8_Ty) (c4 : term_Arena_Width_43b4_Ty) (c5 : ref1_Mask_Ty) (c6 : term_Arena_Cut_99d8_Ty) (c7 : term_Arena_Var_99d8_Ty) (c8 : term_New_Ty) (c9 : law2_awake_Ty) (wj0 : law2_TermWidths_lj0_Ty) (w0 : law2_TermWidths_l0_Ty) (wj1 : law2_TermWidths_lj1_Ty) (wj2 : law2_TermWidths_lj2_Ty) {R : Type} (x0 : Int) (x1 : Int) (x2 : Int) (x3 : Int) (k0 : (Bool) → Option R) : Option R :=
  c9
  (fun b828 => br (!b828)
   (k0 false)
   (c8
    (fun l829 l830 l831 => br (inB (Int.tmod x3 (3 : Int)) (3 : Nat))
     (br (decide ((Int.toNat (Int.tmod x3 (3 : Int))) < (3 : Nat)))
      (c7 (List.getD ((1 : Int) :: ((8 : Int) :: ((16 : Int) :: ([] : List ((Sh.int IntKind.i64).T))))) (Int.toNat (Int.tmod x3 (3 : Int))) (0 : Int)) (0 : Int) l829 l830 l831
       (fun i832 i833 l834 l835 l836 => br (inB (Int.tmod x3 (3 : Int)) (3 : Nat))
        (br (decide ((Int.toNat (Int.tmod x3 (3 : Int))) < (3 : Nat)))
         (c7 (List.getD ((1 : Int) :: ((8 : Int) :: ((16 : Int) :: ([] : List ((Sh.int IntKind.i64).T))))) (Int.toNat (Int.tmod x3 (3 : Int))) (0 : Int)) (1 : Int) l836 l834 l835
          (fun i837 i838 l839 l840 l841 => c7 (1 : Int) (2 : Int) l841 l839 l840
           (fun i842 i843 l844 l845 l846 => w0
            (fun i1086 b1087 i1088 i1089 i1090 n1091 n1092 l1093 l1094 l1095 l1096 l1097 => k0 b1087)
            (fun i1098 i1099 i1100 i1101 n1102 n1103 l1104 l1105 l1106 l1107 l1108 => wj0
             (fun b1193 => k0 b1193)
             N i1098 i1099 i1100 i1101 n1102 n1103 l1104 l1105 l1106 l1107 l1108)
            N x3 i832 i837 i842 (3 : Nat) (3 : Nat) (0 : Int) (x0 :: (x1 :: (x2 :: ([] : List ((Sh.int IntKind.u16).T))))) l846 l844 l845 ((1 : Int) :: ((8 : Int) :: ((16 : Int) :: ([] : List ((Sh.int IntKind.i64).T))))))))
         (none))
        (none)))
      (none))
     (none))))
noncomputable def law2_TermWidths (N : Nat) {R : Type} (x0 : Int) (x1 : Int) (x2 : Int) (x3 : Int) (k0 : (Bool) → Option R) : Option R := law2_TermWidths_T N (@term_Arena_Eval_0112 N) (@term_Arena_Eval_46dc N) (@term_Arena_Ite_12d2 N) (@term_Arena_Ext_99d8 N) (@term_Arena_Width_43b4 N) (@ref1_Mask N) (@term_Arena_Cut_99d8 N) (@term_Arena_Var_99d8 N) (@term_New N) (@law2_awake N) (@law2_TermWidths_lj0 N) (@law2_TermWidths_l0 N) (@law2_TermWidths_lj1 N) (@law2_TermWidths_lj2 N) x0 x1 x2 x3 k0
end Go.Proofs.Yteagdmkedffplaa
