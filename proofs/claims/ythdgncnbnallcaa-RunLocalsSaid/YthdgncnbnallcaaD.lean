/-
  The functions that the statement reaches, each as a function of Lean (printed by a program of this work).
-/
import Derived.Test.YthdgncnbnallcaaD1
set_option linter.unusedVariables false
set_option maxRecDepth 100000
namespace Go.Proofs.Ythdgncnbnallcaa
open Go.Gx
abbrev run_Steps_bc75_Ty : Type 1 := {R : Type} → Int → T2 → (Int → T2 → Option R) → Option R
noncomputable def run_Steps_bc75_T (N : Nat) (c0 : run_all_32d2_Ty) {R : Type} (x0 : Int) (x1 : T2) (k0 : Int → T2 → Option R) : Option R :=
  c0 x0 x1 ([] : List (Sh.str.T)) ([] : List ((Sh.int IntKind.u8).isl.T)) ([] : List ((Sh.int IntKind.u8).isl.T)) ([] : List (Sh.bool.T))
  (fun i7139 l7140 l7141 l7142 l7143 l7144 => br (!(decide (i7139 = (0 : Int))))
   (k0 (0 : Int) l7140)
   (none))
  (fun i7145 l7146 l7147 l7148 l7149 l7150 i7151 l7152 l7153 i7154 i7155 i7156 l7157 i7158 l7159 l7160 => br (!(decide (i7145 = (0 : Int))))
   (k0 (0 : Int) l7146)
   (k0 i7156 l7146))
  (fun i7161 l7162 l7163 l7164 l7165 l7166 i7167 l7168 l7169 i7170 i7171 i7172 l7173 l7174 i7175 l7176 l7177 l7178 i7179 l7180 l7181 => br (!(decide (i7161 = (0 : Int))))
   (k0 (0 : Int) l7162)
   (k0 i7172 l7162))
noncomputable def run_Steps_bc75 (N : Nat) {R : Type} (x0 : Int) (x1 : T2) (k0 : Int → T2 → Option R) : Option R := run_Steps_bc75_T N (@run_all_32d2 N) x0 x1 k0
abbrev law16_awake_Ty : Type 1 := {R : Type} → (Bool → Option R) → Option R
noncomputable def law16_awake_T (N : Nat) (c0 : run_Steps_bc75_Ty) (c1 : run_Run_bc75_Ty) (c2 : run_Run_99d4_Ty) {R : Type} (k0 : Bool → Option R) : Option R :=
  c1 (9 : Int) (((1 : Int) , (7 : Int)) :: (((26 : Int) , (0 : Int)) :: ([] : List (((Sh.int IntKind.i64).pair (Sh.int IntKind.i64)).T))))
  (fun i7134 i7135 i7136 l7137 l7138 => br (decide (i7136 = (0 : Int)))
   (br (decide (i7134 = (1 : Int)))
    (br (decide (i7135 = (7 : Int)))
     (c0 (9 : Int) (((1 : Int) , (7 : Int)) :: (((26 : Int) , (0 : Int)) :: ([] : List (((Sh.int IntKind.i64).pair (Sh.int IntKind.i64)).T))))
      (fun i7182 l7183 => k0 (decide (i7182 = (2 : Int)))))
     (k0 false))
    (k0 false))
   (k0 false))
noncomputable def law16_awake (N : Nat) {R : Type} (k0 : Bool → Option R) : Option R := law16_awake_T N (@run_Steps_bc75 N) (@run_Run_bc75 N) (@run_Run_99d4 N) k0
abbrev law16_RunLocals_l0_Ty : Type 1 := {R : Type} → (T2 → T3 → T1 → T1 → Option R) → Nat → T2 → Int → Int → T2 → T3 → T1 → T1 → Option R
abbrev law16_RunLocals_l1_Ty : Type 1 := {R : Type} → (T2 → T3 → T1 → T1 → Option R) → Nat → Int → T2 → T3 → T1 → T1 → Option R
abbrev law16_RunLocals_l2_Ty : Type 1 := {R : Type} → (T2 → T3 → T1 → T1 → Option R) → Nat → Int → T2 → T3 → T1 → T1 → Option R
abbrev law16_RunLocals_l3_Ty : Type 1 := {R : Type} → (Bool → Option R) → (Option R) → Nat → Int → T1 → T1 → Int → Int → T4 → Option R
abbrev law16_RunLocals_Ty : Type 1 := {R : Type} → T2 → Int → (Bool → Option R) → Option R
noncomputable def law16_RunLocals_l0_T0 (N : Nat) (c0 : run_Run_bc75_Ty) (c1 : run_Run_99d4_Ty) (c2 : law16_awake_Ty) (w1 : law16_RunLocals_l1_Ty) (w2 : law16_RunLocals_l2_Ty) (w3 : law16_RunLocals_l3_Ty) {R : Type} (nx : T2 → Int → Int → T2 → T3 → T1 → T1 → Option R) (k0 : T2 → T3 → T1 → T1 → Option R) (x0 : T2) (x1 : Int) (x2 : Int) (x3 : T2) (x4 : T3) (x5 : T1) (x6 : T1) : Option R :=
  br (decide (x2 < (Nat.cast (List.length x0) : Int)))
  (br (inB x2 (List.length x0))
   (br (inB x2 (List.length x0))
    (br (((fits (0 : Nat) (List.length x3) x3) && (decide ((((List.length x3) + (5 : Nat)) * (16 : Nat)) ≤ (70368744177664 : Nat)))) && true)
     (br (inB (Int.tmod (IntKind.wrap .i64 (List.getD x0 (Int.toNat x2) ((0 : Int) , (0 : Int))).1) (8 : Int)) (8 : Nat))
      (br (decide ((Int.toNat (Int.tmod (IntKind.wrap .i64 (List.getD x0 (Int.toNat x2) ((0 : Int) , (0 : Int))).1) (8 : Int))) < (8 : Nat)))
       (br (inB (Int.tmod (IntKind.wrap .i64 (List.getD x0 (Int.toNat x2) ((0 : Int) , (0 : Int))).1) (32 : Int)) (32 : Nat))
        (br (decide ((Int.toNat (Int.tmod (IntKind.wrap .i64 (List.getD x0 (Int.toNat x2) ((0 : Int) , (0 : Int))).1) (32 : Int))) < (32 : Nat)))
         (nx x0 x1 (IntKind.wrap .i64 (x2 + (1 : Int))) ((sub x3 (0 : Nat) (List.length x3)) ++ (((1 : Int) , (IntKind.wrap .i64 (IntKind.wrap .u16 ((IntKind.wrap .u16 (x1 * (IntKind.wrap .u16 (IntKind.wrap .i64 (x2 + (1 : Int)))))) + (IntKind.wrap .u16 (List.getD x0 (Int.toNat x2) ((0 : Int) , (0 : Int))).2))))) :: (((19 : Int) , (Int.tmod (IntKind.wrap .i64 (List.getD x0 (Int.toNat x2) ((0 : Int) , (0 : Int))).1) (8 : Int))) :: (((1 : Int) , (Int.tmod (IntKind.wrap .i64 (List.getD x0 (Int.toNat x2) ((0 : Int) , (0 : Int))).1) (32 : Int))) :: (((1 : Int) , (IntKind.wrap .i64 (IntKind.wrap .u16 ((IntKind.wrap .u16 (x1 * (IntKind.wrap .u16 (IntKind.wrap .i64 (x2 + (1 : Int)))))) + (IntKind.wrap .u16 (List.getD x0 (Int.toNat x2) ((0 : Int) , (0 : Int))).2))))) :: (((21 : Int) , (0 : Int)) :: ([] : List (((Sh.int IntKind.i64).pair (Sh.int IntKind.i64)).T)))))))) x4 (List.set x5 (Int.toNat (Int.tmod (IntKind.wrap .i64 (List.getD x0 (Int.toNat x2) ((0 : Int) , (0 : Int))).1) (8 : Int))) (IntKind.wrap .u16 ((IntKind.wrap .u16 (x1 * (IntKind.wrap .u16 (IntKind.wrap .i64 (x2 + (1 : Int)))))) + (IntKind.wrap .u16 (List.getD x0 (Int.toNat x2) ((0 : Int) , (0 : Int))).2)))) (List.set x6 (Int.toNat (Int.tmod (IntKind.wrap .i64 (List.getD x0 (Int.toNat x2) ((0 : Int) , (0 : Int))).1) (32 : Int))) (IntKind.wrap .u8 (IntKind.wrap .u16 ((IntKind.wrap .u16 (x1 * (IntKind.wrap .u16 (IntKind.wrap .i64 (x2 + (1 : Int)))))) + (IntKind.wrap .u16 (List.getD x0 (Int.toNat x2) ((0 : Int) , (0 : Int))).2))))))
         (none))
        (none))
       (none))
      (none))
     (none))
    (none))
   (none))
  (k0 x3 x4 x5 x6)
noncomputable def law16_RunLocals_l1_T0 (N : Nat) (c0 : run_Run_bc75_Ty) (c1 : run_Run_99d4_Ty) (c2 : law16_awake_Ty) (w2 : law16_RunLocals_l2_Ty) (w3 : law16_RunLocals_l3_Ty) {R : Type} (nx : Int → T2 → T3 → T1 → T1 → Option R) (k0 : T2 → T3 → T1 → T1 → Option R) (x0 : Int) (x1 : T2) (x2 : T3) (x3 : T1) (x4 : T1) : Option R :=
  br (decide (x0 < (8 : Int)))
  (br (((fits (0 : Nat) (List.length x1) x1) && (decide ((((List.length x1) + (2 : Nat)) * (16 : Nat)) ≤ (70368744177664 : Nat)))) && true)
   (nx (IntKind.wrap .i64 (x0 + (1 : Int))) ((sub x1 (0 : Nat) (List.length x1)) ++ (((18 : Int) , x0) :: (((24 : Int) , (0 : Int)) :: ([] : List (((Sh.int IntKind.i64).pair (Sh.int IntKind.i64)).T))))) x2 x3 x4)
   (none))
  (k0 x1 x2 x3 x4)
noncomputable def law16_RunLocals_l2_T0 (N : Nat) (c0 : run_Run_bc75_Ty) (c1 : run_Run_99d4_Ty) (c2 : law16_awake_Ty) (w3 : law16_RunLocals_l3_Ty) {R : Type} (nx : Int → T2 → T3 → T1 → T1 → Option R) (k0 : T2 → T3 → T1 → T1 → Option R) (x0 : Int) (x1 : T2) (x2 : T3) (x3 : T1) (x4 : T1) : Option R :=
  br (decide (x0 < (8 : Int)))
  (br (((fits (0 : Nat) (List.length x1) x1) && (decide ((((List.length x1) + (3 : Nat)) * (16 : Nat)) ≤ (70368744177664 : Nat)))) && true)
   (nx (IntKind.wrap .i64 (x0 + (1 : Int))) ((sub x1 (0 : Nat) (List.length x1)) ++ (((1 : Int) , (IntKind.wrap .i64 ((4 : Int) * x0))) :: (((20 : Int) , (0 : Int)) :: (((24 : Int) , (0 : Int)) :: ([] : List (((Sh.int IntKind.i64).pair (Sh.int IntKind.i64)).T)))))) x2 x3 x4)
   (none))
  (k0 x1 x2 x3 x4)
noncomputable def law16_RunLocals_l3_T0 (N : Nat) (c0 : run_Run_bc75_Ty) (c1 : run_Run_99d4_Ty) (c2 : law16_awake_Ty) {R : Type} (nx : Int → T1 → T1 → Int → Int → T4 → Option R) (k0 : Bool → Option R) (k1 : Option R) (x0 : Int) (x1 : T1) (x2 : T1) (x3 : Int) (x4 : Int) (x5 : T4) : Option R :=
  br (decide (x0 < (8 : Int)))
  (br (inB x0 (List.length x5))
   (br (decide ((Int.toNat x0) < (List.length x5)))
    (br (inB x0 (8 : Nat))
     (br (decide ((Int.toNat x0) < (8 : Nat)))
      (br (!(!(decide ((List.getD x5 (Int.toNat x0) (false , (0 : Int))).2 = (band .u16 (List.getD x1 (Int.toNat x0) (0 : Int)) (255 : Int))))))
       (br (inB (IntKind.wrap .i64 ((8 : Int) + x0)) (List.length x5))
        (br (decide ((Int.toNat (IntKind.wrap .i64 ((8 : Int) + x0))) < (List.length x5)))
         (br (inB (IntKind.wrap .i64 ((4 : Int) * x0)) (32 : Nat))
          (br (decide ((Int.toNat (IntKind.wrap .i64 ((4 : Int) * x0))) < (32 : Nat)))
           (br (!(decide ((List.getD x5 (Int.toNat (IntKind.wrap .i64 ((8 : Int) + x0))) (false , (0 : Int))).2 = (IntKind.wrap .u16 (List.getD x2 (Int.toNat (IntKind.wrap .i64 ((4 : Int) * x0))) (0 : Int))))))
            (k0 false)
            (nx (IntKind.wrap .i64 (x0 + (1 : Int))) x1 x2 x3 x4 x5))
           (none))
          (none))
         (none))
        (none))
       (k0 false))
      (none))
     (none))
    (none))
   (none))
  (k1)
noncomputable def law16_RunLocals_l3 (N : Nat) {R : Type} (k0 : Bool → Option R) (k1 : Option R) : Nat → Int → T1 → T1 → Int → Int → T4 → Option R
  | 0, _, _, _, _, _, _ => none
  | n + 1, x0, x1, x2, x3, x4, x5 => law16_RunLocals_l3_T0 N (@run_Run_bc75 N) (@run_Run_99d4 N) (@law16_awake N) (fun x0 x1 x2 x3 x4 x5 => law16_RunLocals_l3 N k0 k1 n x0 x1 x2 x3 x4 x5) k0 k1 x0 x1 x2 x3 x4 x5
noncomputable def law16_RunLocals_l2 (N : Nat) {R : Type} (k0 : T2 → T3 → T1 → T1 → Option R) : Nat → Int → T2 → T3 → T1 → T1 → Option R
  | 0, _, _, _, _, _ => none
  | n + 1, x0, x1, x2, x3, x4 => law16_RunLocals_l2_T0 N (@run_Run_bc75 N) (@run_Run_99d4 N) (@law16_awake N) (@law16_RunLocals_l3 N) (fun x0 x1 x2 x3 x4 => law16_RunLocals_l2 N k0 n x0 x1 x2 x3 x4) k0 x0 x1 x2 x3 x4
noncomputable def law16_RunLocals_l1 (N : Nat) {R : Type} (k0 : T2 → T3 → T1 → T1 → Option R) : Nat → Int → T2 → T3 → T1 → T1 → Option R
  | 0, _, _, _, _, _ => none
  | n + 1, x0, x1, x2, x3, x4 => law16_RunLocals_l1_T0 N (@run_Run_bc75 N) (@run_Run_99d4 N) (@law16_awake N) (@law16_RunLocals_l2 N) (@law16_RunLocals_l3 N) (fun x0 x1 x2 x3 x4 => law16_RunLocals_l1 N k0 n x0 x1 x2 x3 x4) k0 x0 x1 x2 x3 x4
noncomputable def law16_RunLocals_l0 (N : Nat) {R : Type} (k0 : T2 → T3 → T1 → T1 → Option R) : Nat → T2 → Int → Int → T2 → T3 → T1 → T1 → Option R
  | 0, _, _, _, _, _, _, _ => none
  | n + 1, x0, x1, x2, x3, x4, x5, x6 => law16_RunLocals_l0_T0 N (@run_Run_bc75 N) (@run_Run_99d4 N) (@law16_awake N) (@law16_RunLocals_l1 N) (@law16_RunLocals_l2 N) (@law16_RunLocals_l3 N) (fun x0 x1 x2 x3 x4 x5 x6 => law16_RunLocals_l0 N k0 n x0 x1 x2 x3 x4 x5 x6) k0 x0 x1 x2 x3 x4 x5 x6
noncomputable def law16_RunLocals_T (N : Nat) (c0 : run_Run_bc75_Ty) (c1 : run_Run_99d4_Ty) (c2 : law16_awake_Ty) (w0 : law16_RunLocals_l0_Ty) (w1 : law16_RunLocals_l1_Ty) (w2 : law16_RunLocals_l2_Ty) (w3 : law16_RunLocals_l3_Ty) {R : Type} (x0 : T2) (x1 : Int) (k0 : Bool → Option R) : Option R :=
  c2
  (fun b7184 => br (!b7184)
   (k0 false)
   (br (decide ((10 : Int) < (Nat.cast (List.length x0) : Int)))
    (k0 true)
    (w0
     (fun l7185 l7186 l7187 l7188 => w1
      (fun l7189 l7190 l7191 l7192 => w2
       (fun l7193 l7194 l7195 l7196 => br (decide ((96 : Int) < (IntKind.wrap .i64 ((Nat.cast (List.length l7193) : Int) + (2 : Int)))))
        (k0 true)
        (br (((fits (0 : Nat) (List.length l7193) l7193) && (decide ((((List.length l7193) + (2 : Nat)) * (16 : Nat)) ≤ (70368744177664 : Nat)))) && true)
         (c1 (300 : Int) ((sub l7193 (0 : Nat) (List.length l7193)) ++ (((18 : Int) , (0 : Int)) :: (((26 : Int) , (0 : Int)) :: ([] : List (((Sh.int IntKind.i64).pair (Sh.int IntKind.i64)).T))))) l7194
          (fun i7240 i7241 i7242 l7243 l7244 l7245 => br (!(!(decide (i7242 = (0 : Int)))))
           (br (!(!(decide ((Nat.cast (List.length l7245) : Int) = (16 : Int)))))
            (br (!(!(decide (i7240 = (1 : Int)))))
             (br (!(decide (i7241 = (band .u16 (List.getD l7195 (0 : Nat) (0 : Int)) (255 : Int)))))
              (k0 false)
              (w3
               (fun b7246 => k0 b7246)
               (k0 true)
               N (0 : Int) l7195 l7196 i7240 i7241 l7245))
             (k0 false))
            (k0 false))
           (k0 false)))
         (none)))
       N (0 : Int) l7189 l7190 l7191 l7192)
      N (0 : Int) l7185 l7186 l7187 l7188)
     N x0 x1 (0 : Int) ([] : List (((Sh.int IntKind.i64).pair (Sh.int IntKind.i64)).T)) ([] : List (Sh.str.T)) (List.replicate (8 : Nat) (0 : Int)) (List.replicate (32 : Nat) (0 : Int)))))
noncomputable def law16_RunLocals (N : Nat) {R : Type} (x0 : T2) (x1 : Int) (k0 : Bool → Option R) : Option R := law16_RunLocals_T N (@run_Run_bc75 N) (@run_Run_99d4 N) (@law16_awake N) (@law16_RunLocals_l0 N) (@law16_RunLocals_l1 N) (@law16_RunLocals_l2 N) (@law16_RunLocals_l3 N) x0 x1 k0
end Go.Proofs.Ythdgncnbnallcaa
