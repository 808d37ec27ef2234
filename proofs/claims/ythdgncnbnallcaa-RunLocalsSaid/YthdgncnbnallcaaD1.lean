/-
  The functions that the statement reaches, each as a function of Lean, the first of them (printed by a program of this work).
-/
import Derived.Test.YthdgncnbnallcaaGx5
set_option linter.unusedVariables false
set_option maxRecDepth 100000
namespace Go.Proofs.Ythdgncnbnallcaa
open Go.Gx
abbrev T0 : Type := ((ByteArray) × (ByteArray)) × ((Int) × (Bool))
abbrev T1 : Type := List (Int)
abbrev T2 : Type := List ((Int) × (Int))
abbrev T3 : Type := List (ByteArray)
abbrev T4 : Type := List ((Bool) × (Int))
abbrev T5 : Type := List ((Int) × T1)
abbrev T6 : Type := List (Bool)
abbrev T7 : Type := List T1
abbrev T8 : Type := List T0
abbrev stringslite_IndexByte_Ty : Type 1 := {R : Type} → ByteArray → Int → (Int → Option R) → Option R
abbrev stringslite_Index_Ty : Type 1 := {R : Type} → ByteArray → ByteArray → (Int → Option R) → Option R
noncomputable def stringslite_Index_T (N : Nat) (c0 : stringslite_IndexByte_Ty) {R : Type} (x0 : ByteArray) (x1 : ByteArray) (k0 : Int → Option R) : Option R :=
  br (!(decide ((Nat.cast (ByteArray.size x1) : Int) = (0 : Int))))
  (br (decide (x1 = x0))
   (k0 (0 : Int))
   (br (decide ((Nat.cast (ByteArray.size x1) : Int) = (1 : Int)))
    (br (inB (0 : Int) (ByteArray.size x1))
     (c0 x0 (bt x1 (0 : Int))
      (fun i0 => k0 i0))
     (none))
    (br (decide ((Nat.cast (ByteArray.size x0) : Int) ≤ (Nat.cast (ByteArray.size x1) : Int)))
     (k0 (-1 : Int))
     (none))))
  (k0 (0 : Int))
noncomputable def stringslite_Index (N : Nat) {R : Type} (x0 : ByteArray) (x1 : ByteArray) (k0 : Int → Option R) : Option R := stringslite_Index_T N @stringslite_IndexByte x0 x1 k0
abbrev stringslite_Cut_Ty : Type 1 := {R : Type} → ByteArray → ByteArray → (ByteArray → ByteArray → Bool → Option R) → Option R
noncomputable def stringslite_Cut_T (N : Nat) (c0 : stringslite_Index_Ty) {R : Type} (x0 : ByteArray) (x1 : ByteArray) (k0 : ByteArray → ByteArray → Bool → Option R) : Option R :=
  c0 x0 x1
  (fun i1 => br (decide ((0 : Int) ≤ i1))
   (br (leB i1 (ByteArray.size x0))
    (br (leB (IntKind.wrap .i64 (i1 + (Nat.cast (ByteArray.size x1) : Int))) (ByteArray.size x0))
     (k0 (ByteArray.extract x0 (0 : Nat) (Int.toNat i1)) (ByteArray.extract x0 (Int.toNat (IntKind.wrap .i64 (i1 + (Nat.cast (ByteArray.size x1) : Int)))) (ByteArray.size x0)) true)
     (none))
    (none))
   (k0 x0 (bs []) false))
noncomputable def stringslite_Cut (N : Nat) {R : Type} (x0 : ByteArray) (x1 : ByteArray) (k0 : ByteArray → ByteArray → Bool → Option R) : Option R := stringslite_Cut_T N (@stringslite_Index N) x0 x1 k0
abbrev strings_Cut_Ty : Type 1 := {R : Type} → ByteArray → ByteArray → (ByteArray → ByteArray → Bool → Option R) → Option R
noncomputable def strings_Cut_T (N : Nat) (c0 : stringslite_Cut_Ty) {R : Type} (x0 : ByteArray) (x1 : ByteArray) (k0 : ByteArray → ByteArray → Bool → Option R) : Option R :=
  c0 x0 x1
  (fun s2 s3 b4 => k0 s2 s3 b4)
noncomputable def strings_Cut (N : Nat) {R : Type} (x0 : ByteArray) (x1 : ByteArray) (k0 : ByteArray → ByteArray → Bool → Option R) : Option R := strings_Cut_T N (@stringslite_Cut N) x0 x1 k0
abbrev check_letter_Ty : Type 1 := {R : Type} → Int → (Bool → Option R) → Option R
noncomputable def check_letter_T (N : Nat) {R : Type} (x0 : Int) (k0 : Bool → Option R) : Option R :=
  br (decide ((97 : Int) ≤ x0))
  (br (!(decide (x0 ≤ (122 : Int))))
   (br (decide ((48 : Int) ≤ x0))
    (br (!(decide (x0 ≤ (57 : Int))))
     (br (!(decide (x0 = (46 : Int))))
      (k0 (decide (x0 = (95 : Int))))
      (k0 true))
     (k0 true))
    (br (!(decide (x0 = (46 : Int))))
     (k0 (decide (x0 = (95 : Int))))
     (k0 true)))
   (k0 true))
  (br (decide ((48 : Int) ≤ x0))
   (br (!(decide (x0 ≤ (57 : Int))))
    (br (!(decide (x0 = (46 : Int))))
     (k0 (decide (x0 = (95 : Int))))
     (k0 true))
    (k0 true))
   (br (!(decide (x0 = (46 : Int))))
    (k0 (decide (x0 = (95 : Int))))
    (k0 true)))
noncomputable def check_letter (N : Nat) {R : Type} (x0 : Int) (k0 : Bool → Option R) : Option R := check_letter_T N x0 k0
abbrev check_part_l0_Ty : Type 1 := {R : Type} → (ByteArray → Bool → Option R) → (ByteArray → Option R) → Nat → ByteArray → Int → Int → Option R
abbrev check_part_Ty : Type 1 := {R : Type} → ByteArray → (Bool → Option R) → Option R
noncomputable def check_part_l0_T0 (N : Nat) (c0 : check_letter_Ty) {R : Type} (nx : ByteArray → Int → Int → Option R) (k0 : ByteArray → Bool → Option R) (k1 : ByteArray → Option R) (x0 : ByteArray) (x1 : Int) (x2 : Int) : Option R :=
  br (decide (x2 < x1))
  (br (inB x2 (ByteArray.size x0))
   (c0 (bt x0 x2)
    (fun b8 => br (!b8)
     (k0 x0 false)
     (nx x0 x1 (IntKind.wrap .i64 (x2 + (1 : Int))))))
   (none))
  (k1 x0)
noncomputable def check_part_l0 (N : Nat) {R : Type} (k0 : ByteArray → Bool → Option R) (k1 : ByteArray → Option R) : Nat → ByteArray → Int → Int → Option R
  | 0, _, _, _ => none
  | n + 1, x0, x1, x2 => check_part_l0_T0 N (@check_letter N) (fun x0 x1 x2 => check_part_l0 N k0 k1 n x0 x1 x2) k0 k1 x0 x1 x2
noncomputable def check_part_T (N : Nat) (c0 : check_letter_Ty) (w0 : check_part_l0_Ty) {R : Type} (x0 : ByteArray) (k0 : Bool → Option R) : Option R :=
  w0
  (fun s9 b10 => k0 b10)
  (fun s11 => br (!(decide (s11 = (bs []))))
   (br (!(decide (s11 = (bs [46]))))
    (k0 (!(decide (s11 = (bs [46, 46])))))
    (k0 false))
   (k0 false))
  N x0 (Nat.cast (ByteArray.size x0) : Int) (0 : Int)
noncomputable def check_part (N : Nat) {R : Type} (x0 : ByteArray) (k0 : Bool → Option R) : Option R := check_part_T N (@check_letter N) (@check_part_l0 N) x0 k0
abbrev check_Name_Ty : Type 1 := {R : Type} → ByteArray → (Bool → Option R) → Option R
noncomputable def check_Name_T (N : Nat) (c0 : check_part_Ty) (c1 : strings_Cut_Ty) {R : Type} (x0 : ByteArray) (k0 : Bool → Option R) : Option R :=
  br (decide ((8 : Int) < (Nat.cast (ByteArray.size x0) : Int)))
  (k0 false)
  (c1 x0 (bs [47])
   (fun s5 s6 b7 => c0 s5
    (fun b12 => br b12
     (br (!(!b7))
      (c0 s6
       (fun b13 => k0 b13))
      (k0 true))
     (k0 false))))
noncomputable def check_Name (N : Nat) {R : Type} (x0 : ByteArray) (k0 : Bool → Option R) : Option R := check_Name_T N (@check_part N) (@strings_Cut N) x0 k0
abbrev inst_table_Ty : Type 1 := {R : Type} → Int → (Int → Int → Int → Bool → Option R) → Option R
noncomputable def inst_table_T (N : Nat) {R : Type} (x0 : Int) (k0 : Int → Int → Int → Bool → Option R) : Option R :=
  br (decide (x0 = (1 : Int)))
  (k0 (0 : Int) (1 : Int) (65536 : Int) true)
  (br (decide (x0 = (2 : Int)))
   (k0 (1 : Int) (0 : Int) (1 : Int) true)
   (br (decide (x0 = (24 : Int)))
    (k0 (1 : Int) (0 : Int) (1 : Int) true)
    (br (decide (x0 = (25 : Int)))
     (k0 (1 : Int) (0 : Int) (1 : Int) true)
     (br (decide (x0 = (26 : Int)))
      (k0 (1 : Int) (0 : Int) (1 : Int) true)
      (br (decide (x0 = (3 : Int)))
       (k0 (1 : Int) (2 : Int) (1 : Int) true)
       (br (decide (x0 = (4 : Int)))
        (k0 (2 : Int) (2 : Int) (1 : Int) true)
        (br (decide (x0 = (5 : Int)))
         (k0 (2 : Int) (1 : Int) (1 : Int) true)
         (br (decide (x0 = (6 : Int)))
          (k0 (2 : Int) (1 : Int) (1 : Int) true)
          (br (decide (x0 = (7 : Int)))
           (k0 (2 : Int) (1 : Int) (1 : Int) true)
           (br (decide (x0 = (8 : Int)))
            (k0 (2 : Int) (1 : Int) (1 : Int) true)
            (br (decide (x0 = (9 : Int)))
             (k0 (2 : Int) (1 : Int) (1 : Int) true)
             (br (decide (x0 = (10 : Int)))
              (k0 (2 : Int) (1 : Int) (1 : Int) true)
              (br (decide (x0 = (11 : Int)))
               (k0 (2 : Int) (1 : Int) (1 : Int) true)
               (br (decide (x0 = (12 : Int)))
                (k0 (2 : Int) (1 : Int) (1 : Int) true)
                (br (decide (x0 = (13 : Int)))
                 (k0 (2 : Int) (1 : Int) (1 : Int) true)
                 (br (decide (x0 = (14 : Int)))
                  (k0 (2 : Int) (1 : Int) (1 : Int) true)
                  (br (decide (x0 = (15 : Int)))
                   (k0 (2 : Int) (1 : Int) (1 : Int) true)
                   (br (decide (x0 = (16 : Int)))
                    (k0 (2 : Int) (1 : Int) (1 : Int) true)
                    (br (decide (x0 = (31 : Int)))
                     (k0 (2 : Int) (1 : Int) (1 : Int) true)
                     (br (decide (x0 = (38 : Int)))
                      (k0 (2 : Int) (1 : Int) (1 : Int) true)
                      (br (decide (x0 = (41 : Int)))
                       (k0 (2 : Int) (1 : Int) (1 : Int) true)
                       (br (decide (x0 = (17 : Int)))
                        (k0 (1 : Int) (1 : Int) (1 : Int) true)
                        (br (decide (x0 = (20 : Int)))
                         (k0 (1 : Int) (1 : Int) (1 : Int) true)
                         (br (decide (x0 = (28 : Int)))
                          (k0 (1 : Int) (1 : Int) (1 : Int) true)
                          (br (decide (x0 = (32 : Int)))
                           (k0 (1 : Int) (1 : Int) (1 : Int) true)
                           (br (decide (x0 = (39 : Int)))
                            (k0 (1 : Int) (1 : Int) (1 : Int) true)
                            (br (decide (x0 = (18 : Int)))
                             (k0 (0 : Int) (1 : Int) (8 : Int) true)
                             (br (decide (x0 = (19 : Int)))
                              (k0 (1 : Int) (0 : Int) (8 : Int) true)
                              (br (decide (x0 = (21 : Int)))
                               (k0 (2 : Int) (0 : Int) (1 : Int) true)
                               (br (decide (x0 = (22 : Int)))
                                (k0 (0 : Int) (0 : Int) (96 : Int) true)
                                (br (decide (x0 = (23 : Int)))
                                 (k0 (1 : Int) (0 : Int) (96 : Int) true)
                                 (br (decide (x0 = (29 : Int)))
                                  (k0 (3 : Int) (1 : Int) (1 : Int) true)
                                  (br (decide (x0 = (30 : Int)))
                                   (k0 (3 : Int) (1 : Int) (1 : Int) true)
                                   (br (decide (x0 = (27 : Int)))
                                    (k0 (0 : Int) (1 : Int) (8 : Int) true)
                                    (br (decide (x0 = (33 : Int)))
                                     (k0 (0 : Int) (1 : Int) (8 : Int) true)
                                     (br (decide (x0 = (35 : Int)))
                                      (k0 (0 : Int) (1 : Int) (8 : Int) true)
                                      (br (decide (x0 = (36 : Int)))
                                       (k0 (0 : Int) (1 : Int) (8 : Int) true)
                                       (br (decide (x0 = (37 : Int)))
                                        (k0 (0 : Int) (1 : Int) (8 : Int) true)
                                        (br (decide (x0 = (34 : Int)))
                                         (k0 (0 : Int) (1 : Int) (64 : Int) true)
                                         (br (decide (x0 = (40 : Int)))
                                          (k0 (0 : Int) (1 : Int) (1 : Int) true)
                                          (k0 (0 : Int) (0 : Int) (0 : Int) false)))))))))))))))))))))))))))))))))))))))))
noncomputable def inst_table (N : Nat) {R : Type} (x0 : Int) (k0 : Int → Int → Int → Bool → Option R) : Option R := inst_table_T N x0 k0
abbrev inst_May_Ty : Type 1 := {R : Type} → Int → Int → (Bool → Option R) → Option R
noncomputable def inst_May_T (N : Nat) (c0 : inst_table_Ty) {R : Type} (x0 : Int) (x1 : Int) (k0 : Bool → Option R) : Option R :=
  c0 x0
  (fun i21 i22 i23 b24 => br b24
   (br (decide ((0 : Int) ≤ x1))
    (k0 (decide (x1 < i23)))
    (k0 false))
   (k0 false))
noncomputable def inst_May (N : Nat) {R : Type} (x0 : Int) (x1 : Int) (k0 : Bool → Option R) : Option R := inst_May_T N (@inst_table N) x0 x1 k0
abbrev check_names_Ty : Type 1 := {R : Type} → Int → Int → Int → (Bool → Option R) → Option R
noncomputable def check_names_T (N : Nat) {R : Type} (x0 : Int) (x1 : Int) (x2 : Int) (k0 : Bool → Option R) : Option R :=
  br (decide (x0 = (27 : Int)))
  (k0 (decide (x1 < x2)))
  (br (decide (x0 = (33 : Int)))
   (k0 (decide (x1 < x2)))
   (br (decide (x0 = (35 : Int)))
    (k0 (decide (x1 < x2)))
    (br (decide (x0 = (36 : Int)))
     (k0 (decide (x1 < x2)))
     (br (decide (x0 = (37 : Int)))
      (k0 (decide (x1 < x2)))
      (br (decide (x0 = (34 : Int)))
       (br (decide ((IntKind.wrap .i64 (Int.tdiv x1 (8 : Int))) < x2))
        (k0 (decide ((Int.tmod x1 (8 : Int)) < x2)))
        (k0 false))
       (k0 true))))))
noncomputable def check_names (N : Nat) {R : Type} (x0 : Int) (x1 : Int) (x2 : Int) (k0 : Bool → Option R) : Option R := check_names_T N x0 x1 x2 k0
abbrev inst_Jumps_Ty : Type 1 := {R : Type} → Int → (Bool → Option R) → Option R
noncomputable def inst_Jumps_T (N : Nat) {R : Type} (x0 : Int) (k0 : Bool → Option R) : Option R :=
  br (!(decide (x0 = (22 : Int))))
  (k0 (decide (x0 = (23 : Int))))
  (k0 true)
noncomputable def inst_Jumps (N : Nat) {R : Type} (x0 : Int) (k0 : Bool → Option R) : Option R := inst_Jumps_T N x0 k0
abbrev inst_Ends_Ty : Type 1 := {R : Type} → Int → (Bool → Option R) → Option R
noncomputable def inst_Ends_T (N : Nat) {R : Type} (x0 : Int) (k0 : Bool → Option R) : Option R :=
  br (!(decide (x0 = (22 : Int))))
  (k0 (decide (x0 = (26 : Int))))
  (k0 true)
noncomputable def inst_Ends (N : Nat) {R : Type} (x0 : Int) (k0 : Bool → Option R) : Option R := inst_Ends_T N x0 k0
abbrev check_one_ebbf_Ty : Type 1 := {R : Type} → Int → T2 → T3 → (Int → T2 → T3 → Option R) → Option R
noncomputable def check_one_ebbf_T (N : Nat) (c0 : inst_Ends_Ty) (c1 : inst_Jumps_Ty) (c2 : check_names_Ty) (c3 : inst_May_Ty) {R : Type} (x0 : Int) (x1 : T2) (x2 : T3) (k0 : Int → T2 → T3 → Option R) : Option R :=
  br (inB x0 (List.length x1))
  (br (decide ((Int.toNat x0) < (List.length x1)))
   (c3 (List.getD x1 (Int.toNat x0) ((0 : Int) , (0 : Int))).1 (List.getD x1 (Int.toNat x0) ((0 : Int) , (0 : Int))).2
    (fun b25 => br (!b25)
     (k0 (5 : Int) x1 x2)
     (c2 (List.getD x1 (Int.toNat x0) ((0 : Int) , (0 : Int))).1 (List.getD x1 (Int.toNat x0) ((0 : Int) , (0 : Int))).2 (Nat.cast (List.length x2) : Int)
      (fun b26 => br (!b26)
       (k0 (10 : Int) x1 x2)
       (c1 (List.getD x1 (Int.toNat x0) ((0 : Int) , (0 : Int))).1
        (fun b27 => br b27
         (br (decide ((Nat.cast (List.length x1) : Int) ≤ (List.getD x1 (Int.toNat x0) ((0 : Int) , (0 : Int))).2))
          (k0 (6 : Int) x1 x2)
          (c0 (List.getD x1 (Int.toNat x0) ((0 : Int) , (0 : Int))).1
           (fun b28 => br (!b28)
            (br (decide ((IntKind.wrap .i64 (x0 + (1 : Int))) = (Nat.cast (List.length x1) : Int)))
             (k0 (8 : Int) x1 x2)
             (k0 (0 : Int) x1 x2))
            (k0 (0 : Int) x1 x2))))
         (c0 (List.getD x1 (Int.toNat x0) ((0 : Int) , (0 : Int))).1
          (fun b29 => br (!b29)
           (br (decide ((IntKind.wrap .i64 (x0 + (1 : Int))) = (Nat.cast (List.length x1) : Int)))
            (k0 (8 : Int) x1 x2)
            (k0 (0 : Int) x1 x2))
           (k0 (0 : Int) x1 x2)))))))))
   (none))
  (none)
noncomputable def check_one_ebbf (N : Nat) {R : Type} (x0 : Int) (x1 : T2) (x2 : T3) (k0 : Int → T2 → T3 → Option R) : Option R := check_one_ebbf_T N (@inst_Ends N) (@inst_Jumps N) (@check_names N) (@inst_May N) x0 x1 x2 k0
abbrev inst_Takes_Ty : Type 1 := {R : Type} → Int → (Int → Option R) → Option R
noncomputable def inst_Takes_T (N : Nat) (c0 : inst_table_Ty) {R : Type} (x0 : Int) (k0 : Int → Option R) : Option R :=
  c0 x0
  (fun i39 i40 i41 b42 => br (!b42)
   (k0 (-1 : Int))
   (k0 i39))
noncomputable def inst_Takes (N : Nat) {R : Type} (x0 : Int) (k0 : Int → Option R) : Option R := inst_Takes_T N (@inst_table N) x0 k0
abbrev inst_Gives_Ty : Type 1 := {R : Type} → Int → (Int → Option R) → Option R
noncomputable def inst_Gives_T (N : Nat) (c0 : inst_table_Ty) {R : Type} (x0 : Int) (k0 : Int → Option R) : Option R :=
  c0 x0
  (fun i44 i45 i46 b47 => br (!b47)
   (k0 (-1 : Int))
   (k0 i45))
noncomputable def inst_Gives (N : Nat) {R : Type} (x0 : Int) (k0 : Int → Option R) : Option R := inst_Gives_T N (@inst_table N) x0 k0
abbrev check_behind_Ty : Type 1 := {R : Type} → Int → Int → Int → (Int → Bool → Option R) → Option R
noncomputable def check_behind_T (N : Nat) (c0 : inst_Gives_Ty) (c1 : inst_Takes_Ty) {R : Type} (x0 : Int) (x1 : Int) (x2 : Int) (k0 : Int → Bool → Option R) : Option R :=
  c1 x0
  (fun i43 => c0 x0
   (fun i48 => br (decide ((0 : Int) ≤ (IntKind.wrap .i64 (x2 - i43))))
    (k0 (IntKind.wrap .i64 ((IntKind.wrap .i64 (x2 - i43)) + i48)) (decide ((IntKind.wrap .i64 ((IntKind.wrap .i64 (x2 - i43)) + i48)) ≤ (16 : Int))))
    (k0 (IntKind.wrap .i64 ((IntKind.wrap .i64 (x2 - i43)) + i48)) false)))
noncomputable def check_behind (N : Nat) {R : Type} (x0 : Int) (x1 : Int) (x2 : Int) (k0 : Int → Bool → Option R) : Option R := check_behind_T N (@inst_Gives N) (@inst_Takes N) x0 x1 x2 k0
abbrev check_next_ebbf_Ty : Type 1 := {R : Type} → Int → T2 → T3 → (T2 → T3 → T1 → Option R) → Option R
noncomputable def check_next_ebbf_T (N : Nat) (c0 : inst_Jumps_Ty) (c1 : inst_Ends_Ty) {R : Type} (x0 : Int) (x1 : T2) (x2 : T3) (k0 : T2 → T3 → T1 → Option R) : Option R :=
  br (inB x0 (List.length x1))
  (br (decide ((Int.toNat x0) < (List.length x1)))
   (c1 (List.getD x1 (Int.toNat x0) ((0 : Int) , (0 : Int))).1
    (fun b54 => br (!b54)
     (c0 (List.getD x1 (Int.toNat x0) ((0 : Int) , (0 : Int))).1
      (fun b55 => br b55
       (k0 x1 x2 ((IntKind.wrap .i64 (x0 + (1 : Int))) :: ((List.getD x1 (Int.toNat x0) ((0 : Int) , (0 : Int))).2 :: ([] : List ((Sh.int IntKind.i64).T)))))
       (k0 x1 x2 ((IntKind.wrap .i64 (x0 + (1 : Int))) :: ([] : List ((Sh.int IntKind.i64).T))))))
     (c0 (List.getD x1 (Int.toNat x0) ((0 : Int) , (0 : Int))).1
      (fun b56 => br b56
       (k0 x1 x2 ((List.getD x1 (Int.toNat x0) ((0 : Int) , (0 : Int))).2 :: ([] : List ((Sh.int IntKind.i64).T))))
       (k0 x1 x2 ([] : List ((Sh.int IntKind.i64).T)))))))
   (none))
  (none)
noncomputable def check_next_ebbf (N : Nat) {R : Type} (x0 : Int) (x1 : T2) (x2 : T3) (k0 : T2 → T3 → T1 → Option R) : Option R := check_next_ebbf_T N (@inst_Jumps N) (@inst_Ends N) x0 x1 x2 k0
abbrev check_reach_87f1_l0_Ty : Type 1 := {R : Type} → (T2 → T3 → T6 → Option R) → Nat → Bool → T2 → T3 → T6 → Option R
abbrev check_reach_87f1_l1_Ty : Type 1 := {R : Type} → (Bool → T2 → T3 → T6 → Option R) → Nat → Bool → Int → Int → T2 → T3 → T6 → Option R
abbrev check_reach_87f1_l2_Ty : Type 1 := {R : Type} → (Bool → Int → Int → T2 → T3 → T6 → Option R) → Nat → Bool → Int → Int → Int → T6 → Int → T2 → T3 → T6 → Int → Int → Option R
abbrev check_reach_87f1_l3_Ty : Type 1 := {R : Type} → (Bool → Int → Int → Int → T6 → Int → T2 → T3 → T6 → Int → Int → Option R) → Nat → Bool → Int → Int → Int → Int → T6 → Int → Int → Int → T2 → T3 → T6 → Int → Int → T1 → Option R
abbrev check_reach_87f1_Ty : Type 1 := {R : Type} → T2 → T3 → (T2 → T3 → T6 → Option R) → Option R
noncomputable def check_reach_87f1_l0_T0 (N : Nat) (c0 : check_next_ebbf_Ty) (c1 : check_behind_Ty) (w1 : check_reach_87f1_l1_Ty) (w2 : check_reach_87f1_l2_Ty) (w3 : check_reach_87f1_l3_Ty) {R : Type} (nx : Bool → T2 → T3 → T6 → Option R) (k0 : T2 → T3 → T6 → Option R) (x0 : Bool) (x1 : T2) (x2 : T3) (x3 : T6) : Option R :=
  br x0
  (w1
   (fun b77 l78 l79 l80 => nx b77 l78 l79 l80)
   N false (Nat.cast (List.length x1) : Int) (0 : Int) x1 x2 x3)
  (k0 x1 x2 x3)
noncomputable def check_reach_87f1_l1_T0 (N : Nat) (c0 : check_next_ebbf_Ty) (c1 : check_behind_Ty) (w2 : check_reach_87f1_l2_Ty) (w3 : check_reach_87f1_l3_Ty) {R : Type} (nx : Bool → Int → Int → T2 → T3 → T6 → Option R) (k0 : Bool → T2 → T3 → T6 → Option R) (x0 : Bool) (x1 : Int) (x2 : Int) (x3 : T2) (x4 : T3) (x5 : T6) : Option R :=
  br (decide (x2 < x1))
  (br (inB x2 (List.length x3))
   (br (decide ((Int.toNat x2) < (List.length x3)))
    (br (inB x2 (96 : Nat))
     (br (decide ((((Int.toNat x2) + (1 : Nat)) * (17 : Nat)) ≤ (1632 : Nat)))
      (w2
       (fun b71 i72 i73 l74 l75 l76 => nx b71 i72 (IntKind.wrap .i64 (i73 + (1 : Int))) l74 l75 l76)
       N x0 x2 x1 x2 (sub x5 ((Int.toNat x2) * (17 : Nat)) (17 : Nat)) (0 : Int) x3 x4 x5 (List.getD x3 (Int.toNat x2) ((0 : Int) , (0 : Int))).1 (List.getD x3 (Int.toNat x2) ((0 : Int) , (0 : Int))).2)
      (none))
     (none))
    (none))
   (none))
  (k0 x0 x3 x4 x5)
noncomputable def check_reach_87f1_l2_T0 (N : Nat) (c0 : check_next_ebbf_Ty) (c1 : check_behind_Ty) (w3 : check_reach_87f1_l3_Ty) {R : Type} (nx : Bool → Int → Int → Int → T6 → Int → T2 → T3 → T6 → Int → Int → Option R) (k0 : Bool → Int → Int → T2 → T3 → T6 → Option R) (x0 : Bool) (x1 : Int) (x2 : Int) (x3 : Int) (x4 : T6) (x5 : Int) (x6 : T2) (x7 : T3) (x8 : T6) (x9 : Int) (x10 : Int) : Option R :=
  br (decide (x5 < (17 : Int)))
  (br (inB x5 (17 : Nat))
   (c1 x9 x10 x5
    (fun i49 b50 => br (!(!(List.getD x4 (Int.toNat x5) false)))
     (br (!b50)
      (nx x0 x1 x2 x3 x4 (IntKind.wrap .i64 (x5 + (1 : Int))) x6 x7 x8 x9 x10)
      (c0 x1 x6 x7
       (fun l57 l58 l59 => w3
        (fun b60 i61 i62 i63 l64 i65 l66 l67 l68 i69 i70 => nx b60 i61 i62 i63 l64 (IntKind.wrap .i64 (i65 + (1 : Int))) l66 l67 l68 i69 i70)
        N x0 x1 i49 x2 x3 x4 x5 (Nat.cast (List.length l59) : Int) (0 : Int) l57 l58 x8 x9 x10 l59)))
     (nx x0 x1 x2 x3 x4 (IntKind.wrap .i64 (x5 + (1 : Int))) x6 x7 x8 x9 x10)))
   (none))
  (k0 x0 x2 x3 x6 x7 x8)
noncomputable def check_reach_87f1_l3_T0 (N : Nat) (c0 : check_next_ebbf_Ty) (c1 : check_behind_Ty) {R : Type} (nx : Bool → Int → Int → Int → Int → T6 → Int → Int → Int → T2 → T3 → T6 → Int → Int → T1 → Option R) (k0 : Bool → Int → Int → Int → T6 → Int → T2 → T3 → T6 → Int → Int → Option R) (x0 : Bool) (x1 : Int) (x2 : Int) (x3 : Int) (x4 : Int) (x5 : T6) (x6 : Int) (x7 : Int) (x8 : Int) (x9 : T2) (x10 : T3) (x11 : T6) (x12 : Int) (x13 : Int) (x14 : T1) : Option R :=
  br (decide (x8 < x7))
  (br (inB x8 (List.length x14))
   (br (decide ((Int.toNat x8) < (List.length x14)))
    (br (!x0)
     (br (inB (List.getD x14 (Int.toNat x8) (0 : Int)) (96 : Nat))
      (br ((inB x2 (17 : Nat)) && (decide ((0 : Int) ≤ (List.getD x14 (Int.toNat x8) (0 : Int)))))
       (br (decide ((Int.toNat (((List.getD x14 (Int.toNat x8) (0 : Int)) * (17 : Int)) + x2)) < (1632 : Nat)))
        (br (inB (List.getD x14 (Int.toNat x8) (0 : Int)) (96 : Nat))
         (br ((inB x2 (17 : Nat)) && (decide ((0 : Int) ≤ (List.getD x14 (Int.toNat x8) (0 : Int)))))
          (br (decide ((Int.toNat (((List.getD x14 (Int.toNat x8) (0 : Int)) * (17 : Int)) + x2)) < (1632 : Nat)))
           (nx (!(List.getD x11 (Int.toNat (((List.getD x14 (Int.toNat x8) (0 : Int)) * (17 : Int)) + x2)) false)) x1 x2 x3 x4 x5 x6 x7 (IntKind.wrap .i64 (x8 + (1 : Int))) x9 x10 (List.set x11 (Int.toNat (((List.getD x14 (Int.toNat x8) (0 : Int)) * (17 : Int)) + x2)) true) x12 x13 x14)
           (none))
          (none))
         (none))
        (none))
       (none))
      (none))
     (br (inB (List.getD x14 (Int.toNat x8) (0 : Int)) (96 : Nat))
      (br ((inB x2 (17 : Nat)) && (decide ((0 : Int) ≤ (List.getD x14 (Int.toNat x8) (0 : Int)))))
       (br (decide ((Int.toNat (((List.getD x14 (Int.toNat x8) (0 : Int)) * (17 : Int)) + x2)) < (1632 : Nat)))
        (nx true x1 x2 x3 x4 x5 x6 x7 (IntKind.wrap .i64 (x8 + (1 : Int))) x9 x10 (List.set x11 (Int.toNat (((List.getD x14 (Int.toNat x8) (0 : Int)) * (17 : Int)) + x2)) true) x12 x13 x14)
        (none))
       (none))
      (none)))
    (none))
   (none))
  (k0 x0 x1 x3 x4 x5 x6 x9 x10 x11 x12 x13)
noncomputable def check_reach_87f1_l3 (N : Nat) {R : Type} (k0 : Bool → Int → Int → Int → T6 → Int → T2 → T3 → T6 → Int → Int → Option R) : Nat → Bool → Int → Int → Int → Int → T6 → Int → Int → Int → T2 → T3 → T6 → Int → Int → T1 → Option R
  | 0, _, _, _, _, _, _, _, _, _, _, _, _, _, _, _ => none
  | n + 1, x0, x1, x2, x3, x4, x5, x6, x7, x8, x9, x10, x11, x12, x13, x14 => check_reach_87f1_l3_T0 N (@check_next_ebbf N) (@check_behind N) (fun x0 x1 x2 x3 x4 x5 x6 x7 x8 x9 x10 x11 x12 x13 x14 => check_reach_87f1_l3 N k0 n x0 x1 x2 x3 x4 x5 x6 x7 x8 x9 x10 x11 x12 x13 x14) k0 x0 x1 x2 x3 x4 x5 x6 x7 x8 x9 x10 x11 x12 x13 x14
noncomputable def check_reach_87f1_l2 (N : Nat) {R : Type} (k0 : Bool → Int → Int → T2 → T3 → T6 → Option R) : Nat → Bool → Int → Int → Int → T6 → Int → T2 → T3 → T6 → Int → Int → Option R
  | 0, _, _, _, _, _, _, _, _, _, _, _ => none
  | n + 1, x0, x1, x2, x3, x4, x5, x6, x7, x8, x9, x10 => check_reach_87f1_l2_T0 N (@check_next_ebbf N) (@check_behind N) (@check_reach_87f1_l3 N) (fun x0 x1 x2 x3 x4 x5 x6 x7 x8 x9 x10 => check_reach_87f1_l2 N k0 n x0 x1 x2 x3 x4 x5 x6 x7 x8 x9 x10) k0 x0 x1 x2 x3 x4 x5 x6 x7 x8 x9 x10
noncomputable def check_reach_87f1_l1 (N : Nat) {R : Type} (k0 : Bool → T2 → T3 → T6 → Option R) : Nat → Bool → Int → Int → T2 → T3 → T6 → Option R
  | 0, _, _, _, _, _, _ => none
  | n + 1, x0, x1, x2, x3, x4, x5 => check_reach_87f1_l1_T0 N (@check_next_ebbf N) (@check_behind N) (@check_reach_87f1_l2 N) (@check_reach_87f1_l3 N) (fun x0 x1 x2 x3 x4 x5 => check_reach_87f1_l1 N k0 n x0 x1 x2 x3 x4 x5) k0 x0 x1 x2 x3 x4 x5
noncomputable def check_reach_87f1_l0 (N : Nat) {R : Type} (k0 : T2 → T3 → T6 → Option R) : Nat → Bool → T2 → T3 → T6 → Option R
  | 0, _, _, _, _ => none
  | n + 1, x0, x1, x2, x3 => check_reach_87f1_l0_T0 N (@check_next_ebbf N) (@check_behind N) (@check_reach_87f1_l1 N) (@check_reach_87f1_l2 N) (@check_reach_87f1_l3 N) (fun x0 x1 x2 x3 => check_reach_87f1_l0 N k0 n x0 x1 x2 x3) k0 x0 x1 x2 x3
noncomputable def check_reach_87f1_T (N : Nat) (c0 : check_next_ebbf_Ty) (c1 : check_behind_Ty) (w0 : check_reach_87f1_l0_Ty) (w1 : check_reach_87f1_l1_Ty) (w2 : check_reach_87f1_l2_Ty) (w3 : check_reach_87f1_l3_Ty) {R : Type} (x0 : T2) (x1 : T3) (k0 : T2 → T3 → T6 → Option R) : Option R :=
  w0
  (fun l81 l82 l83 => k0 l81 l82 l83)
  N true x0 x1 (List.set (List.replicate (1632 : Nat) false) (Int.toNat (((0 : Int) * (17 : Int)) + (0 : Int))) true)
noncomputable def check_reach_87f1 (N : Nat) {R : Type} (x0 : T2) (x1 : T3) (k0 : T2 → T3 → T6 → Option R) : Option R := check_reach_87f1_T N (@check_next_ebbf N) (@check_behind N) (@check_reach_87f1_l0 N) (@check_reach_87f1_l1 N) (@check_reach_87f1_l2 N) (@check_reach_87f1_l3 N) x0 x1 k0
abbrev check_height_866d_l0_Ty : Type 1 := {R : Type} → (Int → Bool → T2 → T3 → T6 → Option R) → Nat → Int → Int → Bool → T6 → Int → T2 → T3 → T6 → Option R
abbrev check_height_866d_Ty : Type 1 := {R : Type} → Int → T2 → T3 → T6 → (Int → Bool → T2 → T3 → T6 → Option R) → Option R
noncomputable def check_height_866d_l0_T0 (N : Nat) (c0 : check_behind_Ty) {R : Type} (nx : Int → Int → Bool → T6 → Int → T2 → T3 → T6 → Option R) (k0 : Int → Bool → T2 → T3 → T6 → Option R) (x0 : Int) (x1 : Int) (x2 : Bool) (x3 : T6) (x4 : Int) (x5 : T2) (x6 : T3) (x7 : T6) : Option R :=
  br (decide (x4 < (17 : Int)))
  (br (inB x4 (17 : Nat))
   (br (!(List.getD x3 (Int.toNat x4) false))
    (nx x0 x1 x2 x3 (IntKind.wrap .i64 (x4 + (1 : Int))) x5 x6 x7)
    (br (inB x0 (List.length x5))
     (br (decide ((Int.toNat x0) < (List.length x5)))
      (c0 (List.getD x5 (Int.toNat x0) ((0 : Int) , (0 : Int))).1 (List.getD x5 (Int.toNat x0) ((0 : Int) , (0 : Int))).2 x4
       (fun i87 b88 => br x2
        (br b88
         (nx x0 x4 (decide (x1 = (-1 : Int))) x3 (IntKind.wrap .i64 (x4 + (1 : Int))) x5 x6 x7)
         (nx x0 x4 false x3 (IntKind.wrap .i64 (x4 + (1 : Int))) x5 x6 x7))
        (nx x0 x4 false x3 (IntKind.wrap .i64 (x4 + (1 : Int))) x5 x6 x7)))
      (none))
     (none)))
   (none))
  (k0 x1 x2 x5 x6 x7)
noncomputable def check_height_866d_l0 (N : Nat) {R : Type} (k0 : Int → Bool → T2 → T3 → T6 → Option R) : Nat → Int → Int → Bool → T6 → Int → T2 → T3 → T6 → Option R
  | 0, _, _, _, _, _, _, _, _ => none
  | n + 1, x0, x1, x2, x3, x4, x5, x6, x7 => check_height_866d_l0_T0 N (@check_behind N) (fun x0 x1 x2 x3 x4 x5 x6 x7 => check_height_866d_l0 N k0 n x0 x1 x2 x3 x4 x5 x6 x7) k0 x0 x1 x2 x3 x4 x5 x6 x7
noncomputable def check_height_866d_T (N : Nat) (c0 : check_behind_Ty) (w0 : check_height_866d_l0_Ty) {R : Type} (x0 : Int) (x1 : T2) (x2 : T3) (x3 : T6) (k0 : Int → Bool → T2 → T3 → T6 → Option R) : Option R :=
  br (inB x0 (96 : Nat))
  (br (decide ((((Int.toNat x0) + (1 : Nat)) * (17 : Nat)) ≤ (1632 : Nat)))
   (w0
    (fun i89 b90 l91 l92 l93 => k0 i89 b90 l91 l92 l93)
    N x0 (-1 : Int) true (sub x3 ((Int.toNat x0) * (17 : Nat)) (17 : Nat)) (0 : Int) x1 x2 x3)
   (none))
  (none)
noncomputable def check_height_866d (N : Nat) {R : Type} (x0 : Int) (x1 : T2) (x2 : T3) (x3 : T6) (k0 : Int → Bool → T2 → T3 → T6 → Option R) : Option R := check_height_866d_T N (@check_behind N) (@check_height_866d_l0 N) x0 x1 x2 x3 k0
abbrev check_Run_87f1_l0_Ty : Type 1 := {R : Type} → (Int → Int → T2 → T3 → Option R) → (T2 → T3 → Option R) → Nat → Int → Int → T2 → T3 → Option R
abbrev check_Run_87f1_l1_Ty : Type 1 := {R : Type} → (Int → Int → T2 → T3 → Option R) → (T2 → T3 → Option R) → Nat → Int → Int → T2 → T3 → Option R
abbrev check_Run_87f1_l2_Ty : Type 1 := {R : Type} → (Int → Int → T2 → T3 → Option R) → (T2 → T3 → Option R) → Nat → Int → Int → T2 → T3 → T6 → Option R
abbrev check_Run_87f1_Ty : Type 1 := {R : Type} → T2 → T3 → (Int → Int → T2 → T3 → Option R) → Option R
noncomputable def check_Run_87f1_l0_T0 (N : Nat) (c0 : check_height_866d_Ty) (c1 : check_reach_87f1_Ty) (c2 : check_one_ebbf_Ty) (c3 : check_Name_Ty) (w1 : check_Run_87f1_l1_Ty) (w2 : check_Run_87f1_l2_Ty) {R : Type} (nx : Int → Int → T2 → T3 → Option R) (k0 : Int → Int → T2 → T3 → Option R) (k1 : T2 → T3 → Option R) (x0 : Int) (x1 : Int) (x2 : T2) (x3 : T3) : Option R :=
  br (decide (x1 < x0))
  (br (inB x1 (List.length x3))
   (br (decide ((Int.toNat x1) < (List.length x3)))
    (c3 (List.getD x3 (Int.toNat x1) (bs []))
     (fun b14 => br (!b14)
      (k0 (0 : Int) (10 : Int) x2 x3)
      (nx x0 (IntKind.wrap .i64 (x1 + (1 : Int))) x2 x3)))
    (none))
   (none))
  (k1 x2 x3)
noncomputable def check_Run_87f1_l1_T0 (N : Nat) (c0 : check_height_866d_Ty) (c1 : check_reach_87f1_Ty) (c2 : check_one_ebbf_Ty) (c3 : check_Name_Ty) (w2 : check_Run_87f1_l2_Ty) {R : Type} (nx : Int → Int → T2 → T3 → Option R) (k0 : Int → Int → T2 → T3 → Option R) (k1 : T2 → T3 → Option R) (x0 : Int) (x1 : Int) (x2 : T2) (x3 : T3) : Option R :=
  br (decide (x1 < x0))
  (c2 x1 x2 x3
   (fun i30 l31 l32 => br (!(decide (i30 = (0 : Int))))
    (k0 x1 i30 l31 l32)
    (nx x0 (IntKind.wrap .i64 (x1 + (1 : Int))) l31 l32)))
  (k1 x2 x3)
noncomputable def check_Run_87f1_l2_T0 (N : Nat) (c0 : check_height_866d_Ty) (c1 : check_reach_87f1_Ty) (c2 : check_one_ebbf_Ty) (c3 : check_Name_Ty) {R : Type} (nx : Int → Int → T2 → T3 → T6 → Option R) (k0 : Int → Int → T2 → T3 → Option R) (k1 : T2 → T3 → Option R) (x0 : Int) (x1 : Int) (x2 : T2) (x3 : T3) (x4 : T6) : Option R :=
  br (decide (x1 < x0))
  (c0 x1 x2 x3 x4
   (fun i94 b95 l96 l97 l98 => br (!b95)
    (k0 x1 (7 : Int) l96 l97)
    (nx x0 (IntKind.wrap .i64 (x1 + (1 : Int))) l96 l97 l98)))
  (k1 x2 x3)
noncomputable def check_Run_87f1_l2 (N : Nat) {R : Type} (k0 : Int → Int → T2 → T3 → Option R) (k1 : T2 → T3 → Option R) : Nat → Int → Int → T2 → T3 → T6 → Option R
  | 0, _, _, _, _, _ => none
  | n + 1, x0, x1, x2, x3, x4 => check_Run_87f1_l2_T0 N (@check_height_866d N) (@check_reach_87f1 N) (@check_one_ebbf N) (@check_Name N) (fun x0 x1 x2 x3 x4 => check_Run_87f1_l2 N k0 k1 n x0 x1 x2 x3 x4) k0 k1 x0 x1 x2 x3 x4
noncomputable def check_Run_87f1_l1 (N : Nat) {R : Type} (k0 : Int → Int → T2 → T3 → Option R) (k1 : T2 → T3 → Option R) : Nat → Int → Int → T2 → T3 → Option R
  | 0, _, _, _, _ => none
  | n + 1, x0, x1, x2, x3 => check_Run_87f1_l1_T0 N (@check_height_866d N) (@check_reach_87f1 N) (@check_one_ebbf N) (@check_Name N) (@check_Run_87f1_l2 N) (fun x0 x1 x2 x3 => check_Run_87f1_l1 N k0 k1 n x0 x1 x2 x3) k0 k1 x0 x1 x2 x3
noncomputable def check_Run_87f1_l0 (N : Nat) {R : Type} (k0 : Int → Int → T2 → T3 → Option R) (k1 : T2 → T3 → Option R) : Nat → Int → Int → T2 → T3 → Option R
  | 0, _, _, _, _ => none
  | n + 1, x0, x1, x2, x3 => check_Run_87f1_l0_T0 N (@check_height_866d N) (@check_reach_87f1 N) (@check_one_ebbf N) (@check_Name N) (@check_Run_87f1_l1 N) (@check_Run_87f1_l2 N) (fun x0 x1 x2 x3 => check_Run_87f1_l0 N k0 k1 n x0 x1 x2 x3) k0 k1 x0 x1 x2 x3
noncomputable def check_Run_87f1_T (N : Nat) (c0 : check_height_866d_Ty) (c1 : check_reach_87f1_Ty) (c2 : check_one_ebbf_Ty) (c3 : check_Name_Ty) (w0 : check_Run_87f1_l0_Ty) (w1 : check_Run_87f1_l1_Ty) (w2 : check_Run_87f1_l2_Ty) {R : Type} (x0 : T2) (x1 : T3) (k0 : Int → Int → T2 → T3 → Option R) : Option R :=
  br (!(decide ((Nat.cast (List.length x0) : Int) = (0 : Int))))
  (br (!(decide ((96 : Int) < (Nat.cast (List.length x0) : Int))))
   (br (decide ((8 : Int) < (Nat.cast (List.length x1) : Int)))
    (k0 (0 : Int) (3 : Int) x0 x1)
    (w0
     (fun i15 i16 l17 l18 => k0 i15 i16 l17 l18)
     (fun l19 l20 => w1
      (fun i33 i34 l35 l36 => k0 i33 i34 l35 l36)
      (fun l37 l38 => c1 l37 l38
       (fun l84 l85 l86 => w2
        (fun i99 i100 l101 l102 => k0 i99 i100 l101 l102)
        (fun l103 l104 => k0 (0 : Int) (0 : Int) l103 l104)
        N (Nat.cast (List.length l84) : Int) (0 : Int) l84 l85 l86))
      N (Nat.cast (List.length l19) : Int) (0 : Int) l19 l20)
     N (Nat.cast (List.length x1) : Int) (0 : Int) x0 x1))
   (k0 (0 : Int) (3 : Int) x0 x1))
  (k0 (0 : Int) (3 : Int) x0 x1)
noncomputable def check_Run_87f1 (N : Nat) {R : Type} (x0 : T2) (x1 : T3) (k0 : Int → Int → T2 → T3 → Option R) : Option R := check_Run_87f1_T N (@check_height_866d N) (@check_reach_87f1 N) (@check_one_ebbf N) (@check_Name N) (@check_Run_87f1_l0 N) (@check_Run_87f1_l1 N) (@check_Run_87f1_l2 N) x0 x1 k0
abbrev tree_New_1c12_l0_Ty : Type 1 := {R : Type} → (Int → T8 → Option R) → Nat → Int → Int → Int → T8 → Option R
abbrev tree_New_1c12_Ty : Type 1 := {R : Type} → (Int → Int → T8 → Option R) → Option R
noncomputable def tree_New_1c12_l0_T0 (N : Nat) {R : Type} (nx : Int → Int → Int → T8 → Option R) (k0 : Int → T8 → Option R) (x0 : Int) (x1 : Int) (x2 : Int) (x3 : T8) : Option R :=
  br (decide (x1 < x0))
  (none)
  (k0 x2 x3)
noncomputable def tree_New_1c12_l0 (N : Nat) {R : Type} (k0 : Int → T8 → Option R) : Nat → Int → Int → Int → T8 → Option R
  | 0, _, _, _, _ => none
  | n + 1, x0, x1, x2, x3 => tree_New_1c12_l0_T0 N (fun x0 x1 x2 x3 => tree_New_1c12_l0 N k0 n x0 x1 x2 x3) k0 x0 x1 x2 x3
noncomputable def tree_New_1c12_T (N : Nat) (w0 : tree_New_1c12_l0_Ty) {R : Type} (k0 : Int → Int → T8 → Option R) : Option R :=
  w0
  (fun i109 l110 => k0 (0 : Int) i109 l110)
  N (0 : Int) (0 : Int) (0 : Int) ([] : List (((Sh.str.pair Sh.str).T) × (((Sh.int IntKind.i64).pair Sh.bool).T)))
noncomputable def tree_New_1c12 (N : Nat) {R : Type} (k0 : Int → Int → T8 → Option R) : Option R := tree_New_1c12_T N (@tree_New_1c12_l0 N) k0
abbrev files_New_9d03_l0_Ty : Type 1 := {R : Type} → (T7 → T1 → Int → T8 → T5 → T2 → Option R) → Nat → Int → Int → T7 → T1 → Int → T8 → T5 → T2 → Option R
abbrev files_New_9d03_Ty : Type 1 := {R : Type} → T7 → (Int → T7 → Option R) → (Int → T7 → T1 → Int → T8 → T5 → T2 → Option R) → Option R
noncomputable def files_New_9d03_l0_T0 (N : Nat) (c0 : tree_New_1c12_Ty) {R : Type} (nx : Int → Int → T7 → T1 → Int → T8 → T5 → T2 → Option R) (k0 : T7 → T1 → Int → T8 → T5 → T2 → Option R) (x0 : Int) (x1 : Int) (x2 : T7) (x3 : T1) (x4 : Int) (x5 : T8) (x6 : T5) (x7 : T2) : Option R :=
  br (decide (x1 < x0))
  (none)
  (k0 x2 x3 x4 x5 x6 x7)
noncomputable def files_New_9d03_l0 (N : Nat) {R : Type} (k0 : T7 → T1 → Int → T8 → T5 → T2 → Option R) : Nat → Int → Int → T7 → T1 → Int → T8 → T5 → T2 → Option R
  | 0, _, _, _, _, _, _, _, _ => none
  | n + 1, x0, x1, x2, x3, x4, x5, x6, x7 => files_New_9d03_l0_T0 N (@tree_New_1c12 N) (fun x0 x1 x2 x3 x4 x5 x6 x7 => files_New_9d03_l0 N k0 n x0 x1 x2 x3 x4 x5 x6 x7) k0 x0 x1 x2 x3 x4 x5 x6 x7
noncomputable def files_New_9d03_T (N : Nat) (c0 : tree_New_1c12_Ty) (w0 : files_New_9d03_l0_Ty) {R : Type} (x0 : T7) (k0 : Int → T7 → Option R) (k1 : Int → T7 → T1 → Int → T8 → T5 → T2 → Option R) : Option R :=
  c0
  (fun i111 i112 l113 => br (!(decide (i111 = (0 : Int))))
   (k0 i111 x0)
   (w0
    (fun l114 l115 i116 l117 l118 l119 => br (decide ((0 : Int) < (Nat.cast (List.length l114) : Int)))
     (k0 (12 : Int) l114)
     (k1 (0 : Int) l114 l115 i116 l117 l118 l119))
    N (0 : Int) (0 : Int) x0 ((0 : Int) :: ((0 : Int) :: ((0 : Int) :: ((0 : Int) :: ([] : List ((Sh.int IntKind.i64).T)))))) i112 l113 ([] : List (((Sh.int IntKind.i64).T) × ((Sh.int IntKind.u8).isl.T))) ([] : List (((Sh.int IntKind.i64).pair (Sh.int IntKind.i64)).T))))
noncomputable def files_New_9d03 (N : Nat) {R : Type} (x0 : T7) (k0 : Int → T7 → Option R) (k1 : Int → T7 → T1 → Int → T8 → T5 → T2 → Option R) : Option R := files_New_9d03_T N (@tree_New_1c12 N) (@files_New_9d03_l0 N) x0 k0 k1
abbrev run_made_1_Ty : Type 1 := {R : Type} → T1 → (Bool → Option R) → Option R
noncomputable def run_made_1_T (N : Nat) {R : Type} (x0 : T1) (k0 : Bool → Option R) : Option R :=
  k0 (decide ((255 : Int) < (Nat.cast (List.length x0) : Int)))
noncomputable def run_made_1 (N : Nat) {R : Type} (x0 : T1) (k0 : Bool → Option R) : Option R := run_made_1_T N x0 k0
abbrev slices_IndexFunc___byte__byte_0f9d_l0_Ty : Type 1 := {R : Type} → (Int → T7 → Option R) → (T7 → Option R) → Nat → Int → Int → T7 → Option R
abbrev slices_IndexFunc___byte__byte_0f9d_Ty : Type 1 := {R : Type} → T7 → (Int → T7 → Option R) → Option R
noncomputable def slices_IndexFunc___byte__byte_0f9d_l0_T0 (N : Nat) (c0 : run_made_1_Ty) {R : Type} (nx : Int → Int → T7 → Option R) (k0 : Int → T7 → Option R) (k1 : T7 → Option R) (x0 : Int) (x1 : Int) (x2 : T7) : Option R :=
  br (decide (x1 < x0))
  (br (inB x1 (List.length x2))
   (br (decide ((Int.toNat x1) < (List.length x2)))
    (c0 (List.getD x2 (Int.toNat x1) (Sh.zero (.isl (.int .u8))))
     (fun b122 => br b122
      (k0 x1 x2)
      (nx x0 (IntKind.wrap .i64 (x1 + (1 : Int))) x2)))
    (none))
   (none))
  (k1 x2)
noncomputable def slices_IndexFunc___byte__byte_0f9d_l0 (N : Nat) {R : Type} (k0 : Int → T7 → Option R) (k1 : T7 → Option R) : Nat → Int → Int → T7 → Option R
  | 0, _, _, _ => none
  | n + 1, x0, x1, x2 => slices_IndexFunc___byte__byte_0f9d_l0_T0 N (@run_made_1 N) (fun x0 x1 x2 => slices_IndexFunc___byte__byte_0f9d_l0 N k0 k1 n x0 x1 x2) k0 k1 x0 x1 x2
noncomputable def slices_IndexFunc___byte__byte_0f9d_T (N : Nat) (c0 : run_made_1_Ty) (w0 : slices_IndexFunc___byte__byte_0f9d_l0_Ty) {R : Type} (x0 : T7) (k0 : Int → T7 → Option R) : Option R :=
  w0
  (fun i123 l124 => k0 i123 l124)
  (fun l125 => k0 (-1 : Int) l125)
  N (Nat.cast (List.length x0) : Int) (0 : Int) x0
noncomputable def slices_IndexFunc___byte__byte_0f9d (N : Nat) {R : Type} (x0 : T7) (k0 : Int → T7 → Option R) : Option R := slices_IndexFunc___byte__byte_0f9d_T N (@run_made_1 N) (@slices_IndexFunc___byte__byte_0f9d_l0 N) x0 k0
abbrev slices_ContainsFunc___byte__byte_0f9d_Ty : Type 1 := {R : Type} → T7 → (Bool → T7 → Option R) → Option R
noncomputable def slices_ContainsFunc___byte__byte_0f9d_T (N : Nat) (c0 : slices_IndexFunc___byte__byte_0f9d_Ty) {R : Type} (x0 : T7) (k0 : Bool → T7 → Option R) : Option R :=
  c0 x0
  (fun i126 l127 => k0 (decide ((0 : Int) ≤ i126)) l127)
noncomputable def slices_ContainsFunc___byte__byte_0f9d (N : Nat) {R : Type} (x0 : T7) (k0 : Bool → T7 → Option R) : Option R := slices_ContainsFunc___byte__byte_0f9d_T N (@slices_IndexFunc___byte__byte_0f9d N) x0 k0
abbrev slices_Clone__bool_bool_a594_Ty : Type 1 := {R : Type} → T6 → (T6 → T6 → Option R) → Option R
noncomputable def slices_Clone__bool_bool_a594 {R : Type} (x0 : T6) (k0 : T6 → T6 → Option R) : Option R := br (fits (0 : Nat) (List.length x0) x0) (br ((decide (((0 : Nat) + (List.length (sub x0 (0 : Nat) (List.length x0)))) * (1 : Nat) ≤ (70368744177664 : Nat))) && true) (k0 x0 (sub x0 (0 : Nat) (List.length x0))) (none)) (none)
abbrev fails_New_a594_Ty : Type 1 := {R : Type} → T6 → (T6 → Int → T6 → Option R) → Option R
noncomputable def fails_New_a594_T (N : Nat) (c0 : slices_Clone__bool_bool_a594_Ty) {R : Type} (x0 : T6) (k0 : T6 → Int → T6 → Option R) : Option R :=
  c0 x0
  (fun l130 l131 => k0 l130 (0 : Int) l131)
noncomputable def fails_New_a594 (N : Nat) {R : Type} (x0 : T6) (k0 : T6 → Int → T6 → Option R) : Option R := fails_New_a594_T N @slices_Clone__bool_bool_a594 x0 k0
abbrev run_made_32d2_Ty : Type 1 := {R : Type} → Int → T2 → T3 → T7 → T7 → T6 → (Int → T2 → T3 → T7 → T7 → T6 → Option R) → (Int → T2 → T3 → T7 → T7 → T6 → Int → T1 → T1 → Int → Int → Int → T1 → Int → T6 → T4 → Option R) → (Int → T2 → T3 → T7 → T7 → T6 → Int → T1 → T1 → Int → Int → Int → T1 → T1 → Int → T8 → T5 → T2 → Int → T6 → T4 → Option R) → Option R
noncomputable def run_made_32d2_T (N : Nat) (c0 : fails_New_a594_Ty) (c1 : slices_ContainsFunc___byte__byte_0f9d_Ty) (c2 : files_New_9d03_Ty) (c3 : check_Run_87f1_Ty) {R : Type} (x0 : Int) (x1 : T2) (x2 : T3) (x3 : T7) (x4 : T7) (x5 : T6) (k0 : Int → T2 → T3 → T7 → T7 → T6 → Option R) (k1 : Int → T2 → T3 → T7 → T7 → T6 → Int → T1 → T1 → Int → Int → Int → T1 → Int → T6 → T4 → Option R) (k2 : Int → T2 → T3 → T7 → T7 → T6 → Int → T1 → T1 → Int → Int → Int → T1 → T1 → Int → T8 → T5 → T2 → Int → T6 → T4 → Option R) : Option R :=
  c3 x1 x2
  (fun i105 i106 l107 l108 => br (!(decide (i106 = (0 : Int))))
   (k0 i106 l107 l108 x3 x4 x5)
   (c2 x3
    (fun i120 l121 => br (!(decide (i120 = (0 : Int))))
     (k0 i120 l107 l108 l121 x4 x5)
     (br (!(decide ((2 : Int) < (Nat.cast (List.length x4) : Int))))
      (c1 x4
       (fun b128 l129 => br b128
        (k0 (12 : Int) l107 l108 l121 l129 x5)
        (br (!(decide (x0 < (0 : Int))))
         (br (decide ((400 : Int) < x0))
          (k0 (1 : Int) l107 l108 l121 l129 x5)
          (c0 x5
           (fun l132 i133 l134 => k1 (0 : Int) l107 l108 l121 l129 l132 (0 : Int) (List.replicate (8 : Nat) (0 : Int)) (List.replicate (32 : Nat) (0 : Int)) (0 : Int) (0 : Int) (0 : Int) ([] : List ((Sh.int IntKind.u16).T)) i133 l134 ([] : List ((Sh.bool.pair (Sh.int IntKind.u16)).T)))))
         (k0 (1 : Int) l107 l108 l121 l129 x5))))
      (k0 (12 : Int) l107 l108 l121 x4 x5)))
    (fun i135 l136 l137 i138 l139 l140 l141 => br (!(decide (i135 = (0 : Int))))
     (k0 i135 l107 l108 l136 x4 x5)
     (br (!(decide ((2 : Int) < (Nat.cast (List.length x4) : Int))))
      (c1 x4
       (fun b142 l143 => br b142
        (k0 (12 : Int) l107 l108 l136 l143 x5)
        (br (!(decide (x0 < (0 : Int))))
         (br (decide ((400 : Int) < x0))
          (k0 (1 : Int) l107 l108 l136 l143 x5)
          (c0 x5
           (fun l144 i145 l146 => k2 (0 : Int) l107 l108 l136 l143 l144 (0 : Int) (List.replicate (8 : Nat) (0 : Int)) (List.replicate (32 : Nat) (0 : Int)) (0 : Int) (0 : Int) (0 : Int) ([] : List ((Sh.int IntKind.u16).T)) l137 i138 l139 l140 l141 i145 l146 ([] : List ((Sh.bool.pair (Sh.int IntKind.u16)).T)))))
         (k0 (1 : Int) l107 l108 l136 l143 x5))))
      (k0 (12 : Int) l107 l108 l136 x4 x5)))))
noncomputable def run_made_32d2 (N : Nat) {R : Type} (x0 : Int) (x1 : T2) (x2 : T3) (x3 : T7) (x4 : T7) (x5 : T6) (k0 : Int → T2 → T3 → T7 → T7 → T6 → Option R) (k1 : Int → T2 → T3 → T7 → T7 → T6 → Int → T1 → T1 → Int → Int → Int → T1 → Int → T6 → T4 → Option R) (k2 : Int → T2 → T3 → T7 → T7 → T6 → Int → T1 → T1 → Int → Int → Int → T1 → T1 → Int → T8 → T5 → T2 → Int → T6 → T4 → Option R) : Option R := run_made_32d2_T N (@fails_New_a594 N) (@slices_ContainsFunc___byte__byte_0f9d N) (@files_New_9d03 N) (@check_Run_87f1 N) x0 x1 x2 x3 x4 x5 k0 k1 k2
abbrev run_machine_end_5a2b_Ty : Type 1 := {R : Type} → Int → Int → Int → T1 → T1 → Int → Int → Int → T2 → T3 → T1 → Int → T6 → T7 → T4 → (Int → T1 → T1 → Int → Int → Int → T2 → T3 → T1 → Int → T6 → T7 → T4 → Option R) → Option R
noncomputable def run_machine_end_5a2b_T (N : Nat) {R : Type} (x0 : Int) (x1 : Int) (x2 : Int) (x3 : T1) (x4 : T1) (x5 : Int) (x6 : Int) (x7 : Int) (x8 : T2) (x9 : T3) (x10 : T1) (x11 : Int) (x12 : T6) (x13 : T7) (x14 : T4) (k0 : Int → T1 → T1 → Int → Int → Int → T2 → T3 → T1 → Int → T6 → T7 → T4 → Option R) : Option R :=
  k0 x2 x3 x4 x0 x1 x7 x8 x9 x10 x11 x12 x13 x14
noncomputable def run_machine_end_5a2b (N : Nat) {R : Type} (x0 : Int) (x1 : Int) (x2 : Int) (x3 : T1) (x4 : T1) (x5 : Int) (x6 : Int) (x7 : Int) (x8 : T2) (x9 : T3) (x10 : T1) (x11 : Int) (x12 : T6) (x13 : T7) (x14 : T4) (k0 : Int → T1 → T1 → Int → Int → Int → T2 → T3 → T1 → Int → T6 → T7 → T4 → Option R) : Option R := run_machine_end_5a2b_T N x0 x1 x2 x3 x4 x5 x6 x7 x8 x9 x10 x11 x12 x13 x14 k0
abbrev run_machine_end_3f90_Ty : Type 1 := {R : Type} → Int → Int → Int → T1 → T1 → Int → Int → Int → T2 → T3 → T1 → T1 → Int → T8 → T5 → T2 → Int → T6 → T7 → T4 → (Int → T1 → T1 → Int → Int → Int → T2 → T3 → T1 → T1 → Int → T8 → T5 → T2 → Int → T6 → T7 → T4 → Option R) → Option R
noncomputable def run_machine_end_3f90_T (N : Nat) {R : Type} (x0 : Int) (x1 : Int) (x2 : Int) (x3 : T1) (x4 : T1) (x5 : Int) (x6 : Int) (x7 : Int) (x8 : T2) (x9 : T3) (x10 : T1) (x11 : T1) (x12 : Int) (x13 : T8) (x14 : T5) (x15 : T2) (x16 : Int) (x17 : T6) (x18 : T7) (x19 : T4) (k0 : Int → T1 → T1 → Int → Int → Int → T2 → T3 → T1 → T1 → Int → T8 → T5 → T2 → Int → T6 → T7 → T4 → Option R) : Option R :=
  k0 x2 x3 x4 x0 x1 x7 x8 x9 x10 x11 x12 x13 x14 x15 x16 x17 x18 x19
noncomputable def run_machine_end_3f90 (N : Nat) {R : Type} (x0 : Int) (x1 : Int) (x2 : Int) (x3 : T1) (x4 : T1) (x5 : Int) (x6 : Int) (x7 : Int) (x8 : T2) (x9 : T3) (x10 : T1) (x11 : T1) (x12 : Int) (x13 : T8) (x14 : T5) (x15 : T2) (x16 : Int) (x17 : T6) (x18 : T7) (x19 : T4) (k0 : Int → T1 → T1 → Int → Int → Int → T2 → T3 → T1 → T1 → Int → T8 → T5 → T2 → Int → T6 → T7 → T4 → Option R) : Option R := run_machine_end_3f90_T N x0 x1 x2 x3 x4 x5 x6 x7 x8 x9 x10 x11 x12 x13 x14 x15 x16 x17 x18 x19 k0
abbrev inst_Falls_Ty : Type 1 := {R : Type} → Int → (Bool → Option R) → Option R
noncomputable def inst_Falls_T (N : Nat) {R : Type} (x0 : Int) (k0 : Bool → Option R) : Option R :=
  br (decide (x0 = (27 : Int)))
  (k0 true)
  (br (decide (x0 = (29 : Int)))
   (k0 true)
   (br (decide (x0 = (30 : Int)))
    (k0 true)
    (br (decide (x0 = (33 : Int)))
     (k0 true)
     (br (decide (x0 = (34 : Int)))
      (k0 true)
      (br (decide (x0 = (35 : Int)))
       (k0 true)
       (br (decide (x0 = (36 : Int)))
        (k0 true)
        (br (decide (x0 = (38 : Int)))
         (k0 true)
         (k0 false))))))))
noncomputable def inst_Falls (N : Nat) {R : Type} (x0 : Int) (k0 : Bool → Option R) : Option R := inst_Falls_T N x0 k0
abbrev fails_Fails_Next_054a_Ty : Type 1 := {R : Type} → Int → T6 → (Bool → Int → T6 → Option R) → Option R
noncomputable def fails_Fails_Next_054a_T (N : Nat) {R : Type} (x0 : Int) (x1 : T6) (k0 : Bool → Int → T6 → Option R) : Option R :=
  br (decide (x0 = (Nat.cast (List.length x1) : Int)))
  (k0 false x0 x1)
  (br (inB (IntKind.wrap .i64 ((IntKind.wrap .i64 (x0 + (1 : Int))) - (1 : Int))) (List.length x1))
   (br (decide ((Int.toNat (IntKind.wrap .i64 ((IntKind.wrap .i64 (x0 + (1 : Int))) - (1 : Int)))) < (List.length x1)))
    (k0 (List.getD x1 (Int.toNat (IntKind.wrap .i64 ((IntKind.wrap .i64 (x0 + (1 : Int))) - (1 : Int)))) false) (IntKind.wrap .i64 (x0 + (1 : Int))) x1)
    (none))
   (none))
noncomputable def fails_Fails_Next_054a (N : Nat) {R : Type} (x0 : Int) (x1 : T6) (k0 : Bool → Int → T6 → Option R) : Option R := fails_Fails_Next_054a_T N x0 x1 k0
abbrev run_machine_push_6121_Ty : Type 1 := {R : Type} → Int → Int → Nat → Nat → T1 → T1 → Int → Int → Int → T2 → T3 → Nat → T1 → Int → T6 → T7 → T4 → (Int → T1 → T1 → Int → Int → Int → T2 → T3 → Int → T6 → T7 → T4 → T1 → Option R) → Option R
noncomputable def run_machine_push_6121_T (N : Nat) {R : Type} (x0 : Int) (x1 : Int) (x2 : Nat) (x3 : Nat) (x4 : T1) (x5 : T1) (x6 : Int) (x7 : Int) (x8 : Int) (x9 : T2) (x10 : T3) (x11 : Nat) (x12 : T1) (x13 : Int) (x14 : T6) (x15 : T7) (x16 : T4) (k0 : Int → T1 → T1 → Int → Int → Int → T2 → T3 → Int → T6 → T7 → T4 → T1 → Option R) : Option R :=
  br (((fits (0 : Nat) x2 x12) && (decide (((x2 + (1 : Nat)) * (2 : Nat)) ≤ (70368744177664 : Nat)))) && true)
  (k0 x1 x4 x5 x6 x7 x8 x9 x10 x13 x14 x15 x16 ((sub x12 (0 : Nat) x2) ++ (x0 :: ([] : List ((Sh.int IntKind.u16).T)))))
  (none)
noncomputable def run_machine_push_6121 (N : Nat) {R : Type} (x0 : Int) (x1 : Int) (x2 : Nat) (x3 : Nat) (x4 : T1) (x5 : T1) (x6 : Int) (x7 : Int) (x8 : Int) (x9 : T2) (x10 : T3) (x11 : Nat) (x12 : T1) (x13 : Int) (x14 : T6) (x15 : T7) (x16 : T4) (k0 : Int → T1 → T1 → Int → Int → Int → T2 → T3 → Int → T6 → T7 → T4 → T1 → Option R) : Option R := run_machine_push_6121_T N x0 x1 x2 x3 x4 x5 x6 x7 x8 x9 x10 x11 x12 x13 x14 x15 x16 k0
abbrev run_machine_push_9b59_Ty : Type 1 := {R : Type} → Int → Int → T1 → T1 → Int → Int → Int → T2 → T3 → T1 → Int → T6 → T7 → T4 → (Int → T1 → T1 → Int → Int → Int → T2 → T3 → Int → T6 → T7 → T4 → T1 → Option R) → Option R
noncomputable def run_machine_push_9b59_T (N : Nat) {R : Type} (x0 : Int) (x1 : Int) (x2 : T1) (x3 : T1) (x4 : Int) (x5 : Int) (x6 : Int) (x7 : T2) (x8 : T3) (x9 : T1) (x10 : Int) (x11 : T6) (x12 : T7) (x13 : T4) (k0 : Int → T1 → T1 → Int → Int → Int → T2 → T3 → Int → T6 → T7 → T4 → T1 → Option R) : Option R :=
  br (((fits (0 : Nat) (List.length x9) x9) && (decide ((((List.length x9) + (1 : Nat)) * (2 : Nat)) ≤ (70368744177664 : Nat)))) && true)
  (k0 x1 x2 x3 x4 x5 x6 x7 x8 x10 x11 x12 x13 ((sub x9 (0 : Nat) (List.length x9)) ++ (x0 :: ([] : List ((Sh.int IntKind.u16).T)))))
  (none)
noncomputable def run_machine_push_9b59 (N : Nat) {R : Type} (x0 : Int) (x1 : Int) (x2 : T1) (x3 : T1) (x4 : Int) (x5 : Int) (x6 : Int) (x7 : T2) (x8 : T3) (x9 : T1) (x10 : Int) (x11 : T6) (x12 : T7) (x13 : T4) (k0 : Int → T1 → T1 → Int → Int → Int → T2 → T3 → Int → T6 → T7 → T4 → T1 → Option R) : Option R := run_machine_push_9b59_T N x0 x1 x2 x3 x4 x5 x6 x7 x8 x9 x10 x11 x12 x13 k0
abbrev run_machine_push_c21d_Ty : Type 1 := {R : Type} → Int → Int → Nat → Nat → T1 → T1 → Int → Int → Int → T2 → T3 → Nat → T1 → T1 → Int → T8 → T5 → T2 → Int → T6 → T7 → T4 → (Int → T1 → T1 → Int → Int → Int → T2 → T3 → T1 → Int → T8 → T5 → T2 → Int → T6 → T7 → T4 → T1 → Option R) → Option R
noncomputable def run_machine_push_c21d_T (N : Nat) {R : Type} (x0 : Int) (x1 : Int) (x2 : Nat) (x3 : Nat) (x4 : T1) (x5 : T1) (x6 : Int) (x7 : Int) (x8 : Int) (x9 : T2) (x10 : T3) (x11 : Nat) (x12 : T1) (x13 : T1) (x14 : Int) (x15 : T8) (x16 : T5) (x17 : T2) (x18 : Int) (x19 : T6) (x20 : T7) (x21 : T4) (k0 : Int → T1 → T1 → Int → Int → Int → T2 → T3 → T1 → Int → T8 → T5 → T2 → Int → T6 → T7 → T4 → T1 → Option R) : Option R :=
  br (((fits (0 : Nat) x2 x12) && (decide (((x2 + (1 : Nat)) * (2 : Nat)) ≤ (70368744177664 : Nat)))) && true)
  (k0 x1 x4 x5 x6 x7 x8 x9 x10 x13 x14 x15 x16 x17 x18 x19 x20 x21 ((sub x12 (0 : Nat) x2) ++ (x0 :: ([] : List ((Sh.int IntKind.u16).T)))))
  (none)
noncomputable def run_machine_push_c21d (N : Nat) {R : Type} (x0 : Int) (x1 : Int) (x2 : Nat) (x3 : Nat) (x4 : T1) (x5 : T1) (x6 : Int) (x7 : Int) (x8 : Int) (x9 : T2) (x10 : T3) (x11 : Nat) (x12 : T1) (x13 : T1) (x14 : Int) (x15 : T8) (x16 : T5) (x17 : T2) (x18 : Int) (x19 : T6) (x20 : T7) (x21 : T4) (k0 : Int → T1 → T1 → Int → Int → Int → T2 → T3 → T1 → Int → T8 → T5 → T2 → Int → T6 → T7 → T4 → T1 → Option R) : Option R := run_machine_push_c21d_T N x0 x1 x2 x3 x4 x5 x6 x7 x8 x9 x10 x11 x12 x13 x14 x15 x16 x17 x18 x19 x20 x21 k0
abbrev run_machine_push_684b_Ty : Type 1 := {R : Type} → Int → Int → T1 → T1 → Int → Int → Int → T2 → T3 → T1 → T1 → Int → T8 → T5 → T2 → Int → T6 → T7 → T4 → (Int → T1 → T1 → Int → Int → Int → T2 → T3 → T1 → Int → T8 → T5 → T2 → Int → T6 → T7 → T4 → T1 → Option R) → Option R
noncomputable def run_machine_push_684b_T (N : Nat) {R : Type} (x0 : Int) (x1 : Int) (x2 : T1) (x3 : T1) (x4 : Int) (x5 : Int) (x6 : Int) (x7 : T2) (x8 : T3) (x9 : T1) (x10 : T1) (x11 : Int) (x12 : T8) (x13 : T5) (x14 : T2) (x15 : Int) (x16 : T6) (x17 : T7) (x18 : T4) (k0 : Int → T1 → T1 → Int → Int → Int → T2 → T3 → T1 → Int → T8 → T5 → T2 → Int → T6 → T7 → T4 → T1 → Option R) : Option R :=
  br (((fits (0 : Nat) (List.length x9) x9) && (decide ((((List.length x9) + (1 : Nat)) * (2 : Nat)) ≤ (70368744177664 : Nat)))) && true)
  (k0 x1 x2 x3 x4 x5 x6 x7 x8 x10 x11 x12 x13 x14 x15 x16 x17 x18 ((sub x9 (0 : Nat) (List.length x9)) ++ (x0 :: ([] : List ((Sh.int IntKind.u16).T)))))
  (none)
noncomputable def run_machine_push_684b (N : Nat) {R : Type} (x0 : Int) (x1 : Int) (x2 : T1) (x3 : T1) (x4 : Int) (x5 : Int) (x6 : Int) (x7 : T2) (x8 : T3) (x9 : T1) (x10 : T1) (x11 : Int) (x12 : T8) (x13 : T5) (x14 : T2) (x15 : Int) (x16 : T6) (x17 : T7) (x18 : T4) (k0 : Int → T1 → T1 → Int → Int → Int → T2 → T3 → T1 → Int → T8 → T5 → T2 → Int → T6 → T7 → T4 → T1 → Option R) : Option R := run_machine_push_684b_T N x0 x1 x2 x3 x4 x5 x6 x7 x8 x9 x10 x11 x12 x13 x14 x15 x16 x17 x18 k0
abbrev run_machine_answer_6121_Ty : Type 1 := {R : Type} → Int → Int → Nat → Nat → T1 → T1 → Int → Int → Int → T2 → T3 → Nat → T1 → Int → T6 → T7 → T4 → (Int → T1 → T1 → Int → Int → Int → T2 → T3 → Int → T6 → T7 → T1 → T4 → Option R) → Option R
noncomputable def run_machine_answer_6121_T (N : Nat) (c0 : run_machine_push_6121_Ty) (c1 : run_machine_push_9b59_Ty) (c2 : run_machine_push_c21d_Ty) (c3 : run_machine_push_684b_Ty) {R : Type} (x0 : Int) (x1 : Int) (x2 : Nat) (x3 : Nat) (x4 : T1) (x5 : T1) (x6 : Int) (x7 : Int) (x8 : Int) (x9 : T2) (x10 : T3) (x11 : Nat) (x12 : T1) (x13 : Int) (x14 : T6) (x15 : T7) (x16 : T4) (k0 : Int → T1 → T1 → Int → Int → Int → T2 → T3 → Int → T6 → T7 → T1 → T4 → Option R) : Option R :=
  c0 x0 x1 x2 x3 x4 x5 x6 x7 x8 x9 x10 x11 x12 x13 x14 x15 x16
  (fun i187 l188 l189 i190 i191 i192 l193 l194 i195 l196 l197 l198 l199 => br (((fits (0 : Nat) (List.length l198) l198) && (decide ((((List.length l198) + (1 : Nat)) * (4 : Nat)) ≤ (70368744177664 : Nat)))) && true)
   (k0 i187 l188 l189 i190 i191 i192 l193 l194 i195 l196 l197 l199 ((sub l198 (0 : Nat) (List.length l198)) ++ ((false , x0) :: ([] : List ((Sh.bool.pair (Sh.int IntKind.u16)).T)))))
   (none))
noncomputable def run_machine_answer_6121 (N : Nat) {R : Type} (x0 : Int) (x1 : Int) (x2 : Nat) (x3 : Nat) (x4 : T1) (x5 : T1) (x6 : Int) (x7 : Int) (x8 : Int) (x9 : T2) (x10 : T3) (x11 : Nat) (x12 : T1) (x13 : Int) (x14 : T6) (x15 : T7) (x16 : T4) (k0 : Int → T1 → T1 → Int → Int → Int → T2 → T3 → Int → T6 → T7 → T1 → T4 → Option R) : Option R := run_machine_answer_6121_T N (@run_machine_push_6121 N) (@run_machine_push_9b59 N) (@run_machine_push_c21d N) (@run_machine_push_684b N) x0 x1 x2 x3 x4 x5 x6 x7 x8 x9 x10 x11 x12 x13 x14 x15 x16 k0
abbrev run_machine_answer_9b59_Ty : Type 1 := {R : Type} → Int → Int → T1 → T1 → Int → Int → Int → T2 → T3 → T1 → Int → T6 → T7 → T4 → (Int → T1 → T1 → Int → Int → Int → T2 → T3 → Int → T6 → T7 → T1 → T4 → Option R) → Option R
noncomputable def run_machine_answer_9b59_T (N : Nat) (c0 : run_machine_push_6121_Ty) (c1 : run_machine_push_9b59_Ty) (c2 : run_machine_push_c21d_Ty) (c3 : run_machine_push_684b_Ty) {R : Type} (x0 : Int) (x1 : Int) (x2 : T1) (x3 : T1) (x4 : Int) (x5 : Int) (x6 : Int) (x7 : T2) (x8 : T3) (x9 : T1) (x10 : Int) (x11 : T6) (x12 : T7) (x13 : T4) (k0 : Int → T1 → T1 → Int → Int → Int → T2 → T3 → Int → T6 → T7 → T1 → T4 → Option R) : Option R :=
  c1 x0 x1 x2 x3 x4 x5 x6 x7 x8 x9 x10 x11 x12 x13
  (fun i1115 l1116 l1117 i1118 i1119 i1120 l1121 l1122 i1123 l1124 l1125 l1126 l1127 => br (((fits (0 : Nat) (List.length l1126) l1126) && (decide ((((List.length l1126) + (1 : Nat)) * (4 : Nat)) ≤ (70368744177664 : Nat)))) && true)
   (k0 i1115 l1116 l1117 i1118 i1119 i1120 l1121 l1122 i1123 l1124 l1125 l1127 ((sub l1126 (0 : Nat) (List.length l1126)) ++ ((false , x0) :: ([] : List ((Sh.bool.pair (Sh.int IntKind.u16)).T)))))
   (none))
noncomputable def run_machine_answer_9b59 (N : Nat) {R : Type} (x0 : Int) (x1 : Int) (x2 : T1) (x3 : T1) (x4 : Int) (x5 : Int) (x6 : Int) (x7 : T2) (x8 : T3) (x9 : T1) (x10 : Int) (x11 : T6) (x12 : T7) (x13 : T4) (k0 : Int → T1 → T1 → Int → Int → Int → T2 → T3 → Int → T6 → T7 → T1 → T4 → Option R) : Option R := run_machine_answer_9b59_T N (@run_machine_push_6121 N) (@run_machine_push_9b59 N) (@run_machine_push_c21d N) (@run_machine_push_684b N) x0 x1 x2 x3 x4 x5 x6 x7 x8 x9 x10 x11 x12 x13 k0
abbrev run_machine_answer_c21d_Ty : Type 1 := {R : Type} → Int → Int → Nat → Nat → T1 → T1 → Int → Int → Int → T2 → T3 → Nat → T1 → T1 → Int → T8 → T5 → T2 → Int → T6 → T7 → T4 → (Int → T1 → T1 → Int → Int → Int → T2 → T3 → T1 → Int → T8 → T5 → T2 → Int → T6 → T7 → T1 → T4 → Option R) → Option R
noncomputable def run_machine_answer_c21d_T (N : Nat) (c0 : run_machine_push_6121_Ty) (c1 : run_machine_push_9b59_Ty) (c2 : run_machine_push_c21d_Ty) (c3 : run_machine_push_684b_Ty) {R : Type} (x0 : Int) (x1 : Int) (x2 : Nat) (x3 : Nat) (x4 : T1) (x5 : T1) (x6 : Int) (x7 : Int) (x8 : Int) (x9 : T2) (x10 : T3) (x11 : Nat) (x12 : T1) (x13 : T1) (x14 : Int) (x15 : T8) (x16 : T5) (x17 : T2) (x18 : Int) (x19 : T6) (x20 : T7) (x21 : T4) (k0 : Int → T1 → T1 → Int → Int → Int → T2 → T3 → T1 → Int → T8 → T5 → T2 → Int → T6 → T7 → T1 → T4 → Option R) : Option R :=
  c2 x0 x1 x2 x3 x4 x5 x6 x7 x8 x9 x10 x11 x12 x13 x14 x15 x16 x17 x18 x19 x20 x21
  (fun i2697 l2698 l2699 i2700 i2701 i2702 l2703 l2704 l2705 i2706 l2707 l2708 l2709 i2710 l2711 l2712 l2713 l2714 => br (((fits (0 : Nat) (List.length l2713) l2713) && (decide ((((List.length l2713) + (1 : Nat)) * (4 : Nat)) ≤ (70368744177664 : Nat)))) && true)
   (k0 i2697 l2698 l2699 i2700 i2701 i2702 l2703 l2704 l2705 i2706 l2707 l2708 l2709 i2710 l2711 l2712 l2714 ((sub l2713 (0 : Nat) (List.length l2713)) ++ ((false , x0) :: ([] : List ((Sh.bool.pair (Sh.int IntKind.u16)).T)))))
   (none))
noncomputable def run_machine_answer_c21d (N : Nat) {R : Type} (x0 : Int) (x1 : Int) (x2 : Nat) (x3 : Nat) (x4 : T1) (x5 : T1) (x6 : Int) (x7 : Int) (x8 : Int) (x9 : T2) (x10 : T3) (x11 : Nat) (x12 : T1) (x13 : T1) (x14 : Int) (x15 : T8) (x16 : T5) (x17 : T2) (x18 : Int) (x19 : T6) (x20 : T7) (x21 : T4) (k0 : Int → T1 → T1 → Int → Int → Int → T2 → T3 → T1 → Int → T8 → T5 → T2 → Int → T6 → T7 → T1 → T4 → Option R) : Option R := run_machine_answer_c21d_T N (@run_machine_push_6121 N) (@run_machine_push_9b59 N) (@run_machine_push_c21d N) (@run_machine_push_684b N) x0 x1 x2 x3 x4 x5 x6 x7 x8 x9 x10 x11 x12 x13 x14 x15 x16 x17 x18 x19 x20 x21 k0
abbrev run_machine_answer_684b_Ty : Type 1 := {R : Type} → Int → Int → T1 → T1 → Int → Int → Int → T2 → T3 → T1 → T1 → Int → T8 → T5 → T2 → Int → T6 → T7 → T4 → (Int → T1 → T1 → Int → Int → Int → T2 → T3 → T1 → Int → T8 → T5 → T2 → Int → T6 → T7 → T1 → T4 → Option R) → Option R
noncomputable def run_machine_answer_684b_T (N : Nat) (c0 : run_machine_push_6121_Ty) (c1 : run_machine_push_9b59_Ty) (c2 : run_machine_push_c21d_Ty) (c3 : run_machine_push_684b_Ty) {R : Type} (x0 : Int) (x1 : Int) (x2 : T1) (x3 : T1) (x4 : Int) (x5 : Int) (x6 : Int) (x7 : T2) (x8 : T3) (x9 : T1) (x10 : T1) (x11 : Int) (x12 : T8) (x13 : T5) (x14 : T2) (x15 : Int) (x16 : T6) (x17 : T7) (x18 : T4) (k0 : Int → T1 → T1 → Int → Int → Int → T2 → T3 → T1 → Int → T8 → T5 → T2 → Int → T6 → T7 → T1 → T4 → Option R) : Option R :=
  c3 x0 x1 x2 x3 x4 x5 x6 x7 x8 x9 x10 x11 x12 x13 x14 x15 x16 x17 x18
  (fun i4065 l4066 l4067 i4068 i4069 i4070 l4071 l4072 l4073 i4074 l4075 l4076 l4077 i4078 l4079 l4080 l4081 l4082 => br (((fits (0 : Nat) (List.length l4081) l4081) && (decide ((((List.length l4081) + (1 : Nat)) * (4 : Nat)) ≤ (70368744177664 : Nat)))) && true)
   (k0 i4065 l4066 l4067 i4068 i4069 i4070 l4071 l4072 l4073 i4074 l4075 l4076 l4077 i4078 l4079 l4080 l4082 ((sub l4081 (0 : Nat) (List.length l4081)) ++ ((false , x0) :: ([] : List ((Sh.bool.pair (Sh.int IntKind.u16)).T)))))
   (none))
noncomputable def run_machine_answer_684b (N : Nat) {R : Type} (x0 : Int) (x1 : Int) (x2 : T1) (x3 : T1) (x4 : Int) (x5 : Int) (x6 : Int) (x7 : T2) (x8 : T3) (x9 : T1) (x10 : T1) (x11 : Int) (x12 : T8) (x13 : T5) (x14 : T2) (x15 : Int) (x16 : T6) (x17 : T7) (x18 : T4) (k0 : Int → T1 → T1 → Int → Int → Int → T2 → T3 → T1 → Int → T8 → T5 → T2 → Int → T6 → T7 → T1 → T4 → Option R) : Option R := run_machine_answer_684b_T N (@run_machine_push_6121 N) (@run_machine_push_9b59 N) (@run_machine_push_c21d N) (@run_machine_push_684b N) x0 x1 x2 x3 x4 x5 x6 x7 x8 x9 x10 x11 x12 x13 x14 x15 x16 x17 x18 k0
abbrev run_machine_pop_9c77_Ty : Type 1 := {R : Type} → Int → T1 → T1 → Int → Int → Int → T2 → T3 → T1 → Int → T6 → T7 → T4 → (Int → Int → T1 → T1 → Int → Int → Int → T2 → T3 → Int → T6 → T7 → T4 → T1 → Option R) → Option R
noncomputable def run_machine_pop_9c77_T (N : Nat) {R : Type} (x0 : Int) (x1 : T1) (x2 : T1) (x3 : Int) (x4 : Int) (x5 : Int) (x6 : T2) (x7 : T3) (x8 : T1) (x9 : Int) (x10 : T6) (x11 : T7) (x12 : T4) (k0 : Int → Int → T1 → T1 → Int → Int → Int → T2 → T3 → Int → T6 → T7 → T4 → T1 → Option R) : Option R :=
  br (inB (IntKind.wrap .i64 ((Nat.cast (List.length x8) : Int) - (1 : Int))) (List.length x8))
  (br (decide ((Int.toNat (IntKind.wrap .i64 ((Nat.cast (List.length x8) : Int) - (1 : Int)))) < (List.length x8)))
   (br (leB (IntKind.wrap .i64 ((Nat.cast (List.length x8) : Int) - (1 : Int))) (List.length x8))
    (br (fits (0 : Nat) ((Int.toNat (IntKind.wrap .i64 ((Nat.cast (List.length x8) : Int) - (1 : Int)))) - (0 : Nat)) x8)
     (k0 (List.getD x8 (Int.toNat (IntKind.wrap .i64 ((Nat.cast (List.length x8) : Int) - (1 : Int)))) (0 : Int)) x0 x1 x2 x3 x4 x5 x6 x7 x9 x10 x11 x12 (sub x8 (0 : Nat) ((Int.toNat (IntKind.wrap .i64 ((Nat.cast (List.length x8) : Int) - (1 : Int)))) - (0 : Nat))))
     (none))
    (none))
   (none))
  (none)
noncomputable def run_machine_pop_9c77 (N : Nat) {R : Type} (x0 : Int) (x1 : T1) (x2 : T1) (x3 : Int) (x4 : Int) (x5 : Int) (x6 : T2) (x7 : T3) (x8 : T1) (x9 : Int) (x10 : T6) (x11 : T7) (x12 : T4) (k0 : Int → Int → T1 → T1 → Int → Int → Int → T2 → T3 → Int → T6 → T7 → T4 → T1 → Option R) : Option R := run_machine_pop_9c77_T N x0 x1 x2 x3 x4 x5 x6 x7 x8 x9 x10 x11 x12 k0
abbrev run_machine_pop_6326_Ty : Type 1 := {R : Type} → Int → T1 → T1 → Int → Int → Int → T2 → T3 → T1 → T1 → Int → T8 → T5 → T2 → Int → T6 → T7 → T4 → (Int → Int → T1 → T1 → Int → Int → Int → T2 → T3 → T1 → Int → T8 → T5 → T2 → Int → T6 → T7 → T4 → T1 → Option R) → Option R
noncomputable def run_machine_pop_6326_T (N : Nat) {R : Type} (x0 : Int) (x1 : T1) (x2 : T1) (x3 : Int) (x4 : Int) (x5 : Int) (x6 : T2) (x7 : T3) (x8 : T1) (x9 : T1) (x10 : Int) (x11 : T8) (x12 : T5) (x13 : T2) (x14 : Int) (x15 : T6) (x16 : T7) (x17 : T4) (k0 : Int → Int → T1 → T1 → Int → Int → Int → T2 → T3 → T1 → Int → T8 → T5 → T2 → Int → T6 → T7 → T4 → T1 → Option R) : Option R :=
  br (inB (IntKind.wrap .i64 ((Nat.cast (List.length x8) : Int) - (1 : Int))) (List.length x8))
  (br (decide ((Int.toNat (IntKind.wrap .i64 ((Nat.cast (List.length x8) : Int) - (1 : Int)))) < (List.length x8)))
   (br (leB (IntKind.wrap .i64 ((Nat.cast (List.length x8) : Int) - (1 : Int))) (List.length x8))
    (br (fits (0 : Nat) ((Int.toNat (IntKind.wrap .i64 ((Nat.cast (List.length x8) : Int) - (1 : Int)))) - (0 : Nat)) x8)
     (k0 (List.getD x8 (Int.toNat (IntKind.wrap .i64 ((Nat.cast (List.length x8) : Int) - (1 : Int)))) (0 : Int)) x0 x1 x2 x3 x4 x5 x6 x7 x9 x10 x11 x12 x13 x14 x15 x16 x17 (sub x8 (0 : Nat) ((Int.toNat (IntKind.wrap .i64 ((Nat.cast (List.length x8) : Int) - (1 : Int)))) - (0 : Nat))))
     (none))
    (none))
   (none))
  (none)
noncomputable def run_machine_pop_6326 (N : Nat) {R : Type} (x0 : Int) (x1 : T1) (x2 : T1) (x3 : Int) (x4 : Int) (x5 : Int) (x6 : T2) (x7 : T3) (x8 : T1) (x9 : T1) (x10 : Int) (x11 : T8) (x12 : T5) (x13 : T2) (x14 : Int) (x15 : T6) (x16 : T7) (x17 : T4) (k0 : Int → Int → T1 → T1 → Int → Int → Int → T2 → T3 → T1 → Int → T8 → T5 → T2 → Int → T6 → T7 → T4 → T1 → Option R) : Option R := run_machine_pop_6326_T N x0 x1 x2 x3 x4 x5 x6 x7 x8 x9 x10 x11 x12 x13 x14 x15 x16 x17 k0
abbrev run_operator_Ty : Type 1 := {R : Type} → Int → (Int → Option R) → Option R
noncomputable def run_operator_T (N : Nat) {R : Type} (x0 : Int) (k0 : Int → Option R) : Option R :=
  k0 (IntKind.wrap .i64 ((IntKind.wrap .i64 (x0 - (5 : Int))) + (7 : Int)))
noncomputable def run_operator (N : Nat) {R : Type} (x0 : Int) (k0 : Int → Option R) : Option R := run_operator_T N x0 k0
abbrev run_logic_Ty : Type 1 := {R : Type} → Int → (Int → Option R) → Option R
noncomputable def run_logic_T (N : Nat) (c0 : run_operator_Ty) {R : Type} (x0 : Int) (k0 : Int → Option R) : Option R :=
  br (decide (x0 = (10 : Int)))
  (k0 (4 : Int))
  (br (decide (x0 = (11 : Int)))
   (k0 (5 : Int))
   (br (decide (x0 = (12 : Int)))
    (k0 (6 : Int))
    (br (decide (x0 = (13 : Int)))
     (k0 (12 : Int))
     (br (decide (x0 = (14 : Int)))
      (k0 (13 : Int))
      (br (decide (x0 = (15 : Int)))
       (k0 (14 : Int))
       (br (decide (x0 = (16 : Int)))
        (k0 (15 : Int))
        (c0 x0
         (fun i254 => k0 i254))))))))
noncomputable def run_logic (N : Nat) {R : Type} (x0 : Int) (k0 : Int → Option R) : Option R := run_logic_T N (@run_operator N) x0 k0
abbrev wide_May_Ty : Type 1 := {R : Type} → Int → (Bool → Option R) → Option R
noncomputable def wide_May_T (N : Nat) {R : Type} (x0 : Int) (k0 : Bool → Option R) : Option R :=
  br (!(decide (x0 = (1 : Int))))
  (br (!(decide (x0 = (8 : Int))))
   (k0 (decide (x0 = (16 : Int))))
   (k0 true))
  (k0 true)
noncomputable def wide_May (N : Nat) {R : Type} (x0 : Int) (k0 : Bool → Option R) : Option R := wide_May_T N x0 k0
abbrev wide_Mask_Ty : Type 1 := {R : Type} → Int → (Int → Option R) → Option R
noncomputable def wide_Mask_T (N : Nat) (c0 : wide_May_Ty) {R : Type} (x0 : Int) (k0 : Int → Option R) : Option R :=
  c0 x0
  (fun b257 => br (!b257)
   (k0 (0 : Int))
   (br (decide ((IntKind.wrap .u64 x0) < (0 : Int)))
    (none)
    (k0 (IntKind.wrap .u16 ((shlI .u16 (1 : Int) (IntKind.wrap .u64 x0)) - (1 : Int))))))
noncomputable def wide_Mask (N : Nat) {R : Type} (x0 : Int) (k0 : Int → Option R) : Option R := wide_Mask_T N (@wide_May N) x0 k0
abbrev wide_divided_Ty : Type 1 := {R : Type} → Int → Int → Int → (Int → Option R) → Option R
noncomputable def wide_divided_T (N : Nat) (c0 : wide_Mask_Ty) {R : Type} (x0 : Int) (x1 : Int) (x2 : Int) (k0 : Int → Option R) : Option R :=
  br (decide (x2 = (0 : Int)))
  (c0 x0
   (fun i259 => k0 i259))
  (br (decide (x2 = (0 : Int)))
   (none)
   (k0 (IntKind.wrap .u16 (Int.tdiv x1 x2))))
noncomputable def wide_divided (N : Nat) {R : Type} (x0 : Int) (x1 : Int) (x2 : Int) (k0 : Int → Option R) : Option R := wide_divided_T N (@wide_Mask N) x0 x1 x2 k0
abbrev wide_rest_Ty : Type 1 := {R : Type} → Int → Int → (Int → Option R) → Option R
noncomputable def wide_rest_T (N : Nat) {R : Type} (x0 : Int) (x1 : Int) (k0 : Int → Option R) : Option R :=
  br (decide (x1 = (0 : Int)))
  (k0 x0)
  (br (decide (x1 = (0 : Int)))
   (none)
   (k0 (Int.tmod x0 x1)))
noncomputable def wide_rest (N : Nat) {R : Type} (x0 : Int) (x1 : Int) (k0 : Int → Option R) : Option R := wide_rest_T N x0 x1 k0
abbrev wide_truth_Ty : Type 1 := {R : Type} → Bool → (Int → Option R) → Option R
noncomputable def wide_truth_T (N : Nat) {R : Type} (x0 : Bool) (k0 : Int → Option R) : Option R :=
  br x0
  (k0 (1 : Int))
  (k0 (0 : Int))
noncomputable def wide_truth (N : Nat) {R : Type} (x0 : Bool) (k0 : Int → Option R) : Option R := wide_truth_T N x0 k0
abbrev wide_reckon_Ty : Type 1 := {R : Type} → Int → Int → Int → Int → (Int → Bool → Option R) → Option R
noncomputable def wide_reckon_T (N : Nat) (c0 : wide_truth_Ty) (c1 : wide_rest_Ty) (c2 : wide_divided_Ty) {R : Type} (x0 : Int) (x1 : Int) (x2 : Int) (x3 : Int) (k0 : Int → Bool → Option R) : Option R :=
  br (decide (x0 = (3 : Int)))
  (k0 (bxor .u16 (if ((IntKind.signed .u16) = true) then (-1 : Int) else (IntKind.max .u16)) x2) true)
  (br (decide (x0 = (4 : Int)))
   (k0 (band .u16 x2 x3) true)
   (br (decide (x0 = (5 : Int)))
    (k0 (bor .u16 x2 x3) true)
    (br (decide (x0 = (6 : Int)))
     (k0 (bxor .u16 x2 x3) true)
     (br (decide (x0 = (7 : Int)))
      (k0 (IntKind.wrap .u16 (x2 + x3)) true)
      (br (decide (x0 = (8 : Int)))
       (k0 (IntKind.wrap .u16 (x2 - x3)) true)
       (br (decide (x0 = (9 : Int)))
        (k0 (IntKind.wrap .u16 (x2 * x3)) true)
        (br (decide (x0 = (10 : Int)))
         (c2 x1 x2 x3
          (fun i260 => k0 i260 true))
         (br (decide (x0 = (11 : Int)))
          (c1 x2 x3
           (fun i261 => k0 i261 true))
          (br (decide (x0 = (12 : Int)))
           (br (decide (x3 < (0 : Int)))
            (none)
            (k0 (shlI .u16 x2 x3) true))
           (br (decide (x0 = (13 : Int)))
            (br (decide (x3 < (0 : Int)))
             (none)
             (k0 (shrI .u16 x2 x3) true))
            (br (decide (x0 = (14 : Int)))
             (c0 (decide (x2 = x3))
              (fun i262 => k0 i262 true))
             (br (decide (x0 = (15 : Int)))
              (c0 (decide (x2 < x3))
               (fun i263 => k0 i263 true))
              (k0 (0 : Int) false)))))))))))))
noncomputable def wide_reckon (N : Nat) {R : Type} (x0 : Int) (x1 : Int) (x2 : Int) (x3 : Int) (k0 : Int → Bool → Option R) : Option R := wide_reckon_T N (@wide_truth N) (@wide_rest N) (@wide_divided N) x0 x1 x2 x3 k0
abbrev wide_Do_Ty : Type 1 := {R : Type} → Int → Int → Int → Int → (Int → Int → Option R) → Option R
noncomputable def wide_Do_T (N : Nat) (c0 : wide_reckon_Ty) (c1 : wide_Mask_Ty) (c2 : wide_May_Ty) {R : Type} (x0 : Int) (x1 : Int) (x2 : Int) (x3 : Int) (k0 : Int → Int → Option R) : Option R :=
  c2 x1
  (fun b256 => br (!b256)
   (k0 (0 : Int) (2 : Int))
   (c1 x1
    (fun i258 => c0 x0 x1 (band .u16 x2 i258) (band .u16 x3 i258)
     (fun i264 b265 => br (!b265)
      (k0 (0 : Int) (5 : Int))
      (k0 (band .u16 i264 i258) (0 : Int))))))
noncomputable def wide_Do (N : Nat) {R : Type} (x0 : Int) (x1 : Int) (x2 : Int) (x3 : Int) (k0 : Int → Int → Option R) : Option R := wide_Do_T N (@wide_reckon N) (@wide_Mask N) (@wide_May N) x0 x1 x2 x3 k0
abbrev run_machine_reckon_3c75_Ty : Type 1 := {R : Type} → Int → Int → T1 → T1 → Int → Int → Int → T2 → T3 → T1 → Int → T6 → T7 → T4 → (Int → T1 → T1 → Int → Int → Int → T2 → T3 → Int → T6 → T7 → T4 → T1 → Option R) → Option R
noncomputable def run_machine_reckon_3c75_T (N : Nat) (c0 : run_machine_push_6121_Ty) (c1 : run_machine_push_9b59_Ty) (c2 : run_machine_push_c21d_Ty) (c3 : run_machine_push_684b_Ty) (c4 : wide_Do_Ty) (c5 : run_logic_Ty) (c6 : run_machine_end_5a2b_Ty) (c7 : run_machine_end_3f90_Ty) (c8 : run_machine_pop_9c77_Ty) (c9 : run_machine_pop_6326_Ty) {R : Type} (x0 : Int) (x1 : Int) (x2 : T1) (x3 : T1) (x4 : Int) (x5 : Int) (x6 : Int) (x7 : T2) (x8 : T3) (x9 : T1) (x10 : Int) (x11 : T6) (x12 : T7) (x13 : T4) (k0 : Int → T1 → T1 → Int → Int → Int → T2 → T3 → Int → T6 → T7 → T4 → T1 → Option R) : Option R :=
  c8 x1 x2 x3 x4 x5 x6 x7 x8 x9 x10 x11 x12 x13
  (fun i213 i214 l215 l216 i217 i218 i219 l220 l221 i222 l223 l224 l225 l226 => c8 i214 l215 l216 i217 i218 i219 l220 l221 l226 i222 l223 l224 l225
   (fun i227 i228 l229 l230 i231 i232 i233 l234 l235 i236 l237 l238 l239 l240 => br (decide (i213 = (0 : Int)))
    (br (!(decide (x0 = (8 : Int))))
     (br (decide (x0 = (9 : Int)))
      (c6 (2 : Int) (0 : Int) i228 l229 l230 i231 i232 i233 l234 l235 l240 i236 l237 l238 l239
       (fun i241 l242 l243 i244 i245 i246 l247 l248 l249 i250 l251 l252 l253 => k0 i241 l242 l243 i244 i245 i246 l247 l248 i250 l251 l252 l253 l249))
      (c5 x0
       (fun i255 => c4 i255 (16 : Int) i227 i213
        (fun i266 i267 => c1 i266 i228 l229 l230 i231 i232 i233 l234 l235 l240 i236 l237 l238 l239
         (fun i268 l269 l270 i271 i272 i273 l274 l275 i276 l277 l278 l279 l280 => k0 i268 l269 l270 i271 i272 i273 l274 l275 i276 l277 l278 l279 l280)))))
     (c6 (2 : Int) (0 : Int) i228 l229 l230 i231 i232 i233 l234 l235 l240 i236 l237 l238 l239
      (fun i281 l282 l283 i284 i285 i286 l287 l288 l289 i290 l291 l292 l293 => k0 i281 l282 l283 i284 i285 i286 l287 l288 i290 l291 l292 l293 l289)))
    (c5 x0
     (fun i294 => c4 i294 (16 : Int) i227 i213
      (fun i295 i296 => c1 i295 i228 l229 l230 i231 i232 i233 l234 l235 l240 i236 l237 l238 l239
       (fun i297 l298 l299 i300 i301 i302 l303 l304 i305 l306 l307 l308 l309 => k0 i297 l298 l299 i300 i301 i302 l303 l304 i305 l306 l307 l308 l309))))))
noncomputable def run_machine_reckon_3c75 (N : Nat) {R : Type} (x0 : Int) (x1 : Int) (x2 : T1) (x3 : T1) (x4 : Int) (x5 : Int) (x6 : Int) (x7 : T2) (x8 : T3) (x9 : T1) (x10 : Int) (x11 : T6) (x12 : T7) (x13 : T4) (k0 : Int → T1 → T1 → Int → Int → Int → T2 → T3 → Int → T6 → T7 → T4 → T1 → Option R) : Option R := run_machine_reckon_3c75_T N (@run_machine_push_6121 N) (@run_machine_push_9b59 N) (@run_machine_push_c21d N) (@run_machine_push_684b N) (@wide_Do N) (@run_logic N) (@run_machine_end_5a2b N) (@run_machine_end_3f90 N) (@run_machine_pop_9c77 N) (@run_machine_pop_6326 N) x0 x1 x2 x3 x4 x5 x6 x7 x8 x9 x10 x11 x12 x13 k0
abbrev run_machine_reckon_61a1_Ty : Type 1 := {R : Type} → Int → Int → T1 → T1 → Int → Int → Int → T2 → T3 → T1 → T1 → Int → T8 → T5 → T2 → Int → T6 → T7 → T4 → (Int → T1 → T1 → Int → Int → Int → T2 → T3 → T1 → Int → T8 → T5 → T2 → Int → T6 → T7 → T4 → T1 → Option R) → Option R
noncomputable def run_machine_reckon_61a1_T (N : Nat) (c0 : run_machine_push_6121_Ty) (c1 : run_machine_push_9b59_Ty) (c2 : run_machine_push_c21d_Ty) (c3 : run_machine_push_684b_Ty) (c4 : wide_Do_Ty) (c5 : run_logic_Ty) (c6 : run_machine_end_5a2b_Ty) (c7 : run_machine_end_3f90_Ty) (c8 : run_machine_pop_9c77_Ty) (c9 : run_machine_pop_6326_Ty) {R : Type} (x0 : Int) (x1 : Int) (x2 : T1) (x3 : T1) (x4 : Int) (x5 : Int) (x6 : Int) (x7 : T2) (x8 : T3) (x9 : T1) (x10 : T1) (x11 : Int) (x12 : T8) (x13 : T5) (x14 : T2) (x15 : Int) (x16 : T6) (x17 : T7) (x18 : T4) (k0 : Int → T1 → T1 → Int → Int → Int → T2 → T3 → T1 → Int → T8 → T5 → T2 → Int → T6 → T7 → T4 → T1 → Option R) : Option R :=
  c9 x1 x2 x3 x4 x5 x6 x7 x8 x9 x10 x11 x12 x13 x14 x15 x16 x17 x18
  (fun i2733 i2734 l2735 l2736 i2737 i2738 i2739 l2740 l2741 l2742 i2743 l2744 l2745 l2746 i2747 l2748 l2749 l2750 l2751 => c9 i2734 l2735 l2736 i2737 i2738 i2739 l2740 l2741 l2751 l2742 i2743 l2744 l2745 l2746 i2747 l2748 l2749 l2750
   (fun i2752 i2753 l2754 l2755 i2756 i2757 i2758 l2759 l2760 l2761 i2762 l2763 l2764 l2765 i2766 l2767 l2768 l2769 l2770 => br (decide (i2733 = (0 : Int)))
    (br (!(decide (x0 = (8 : Int))))
     (br (decide (x0 = (9 : Int)))
      (c7 (2 : Int) (0 : Int) i2753 l2754 l2755 i2756 i2757 i2758 l2759 l2760 l2770 l2761 i2762 l2763 l2764 l2765 i2766 l2767 l2768 l2769
       (fun i2771 l2772 l2773 i2774 i2775 i2776 l2777 l2778 l2779 l2780 i2781 l2782 l2783 l2784 i2785 l2786 l2787 l2788 => k0 i2771 l2772 l2773 i2774 i2775 i2776 l2777 l2778 l2780 i2781 l2782 l2783 l2784 i2785 l2786 l2787 l2788 l2779))
      (c5 x0
       (fun i2789 => c4 i2789 (16 : Int) i2752 i2733
        (fun i2790 i2791 => c3 i2790 i2753 l2754 l2755 i2756 i2757 i2758 l2759 l2760 l2770 l2761 i2762 l2763 l2764 l2765 i2766 l2767 l2768 l2769
         (fun i2792 l2793 l2794 i2795 i2796 i2797 l2798 l2799 l2800 i2801 l2802 l2803 l2804 i2805 l2806 l2807 l2808 l2809 => k0 i2792 l2793 l2794 i2795 i2796 i2797 l2798 l2799 l2800 i2801 l2802 l2803 l2804 i2805 l2806 l2807 l2808 l2809)))))
     (c7 (2 : Int) (0 : Int) i2753 l2754 l2755 i2756 i2757 i2758 l2759 l2760 l2770 l2761 i2762 l2763 l2764 l2765 i2766 l2767 l2768 l2769
      (fun i2810 l2811 l2812 i2813 i2814 i2815 l2816 l2817 l2818 l2819 i2820 l2821 l2822 l2823 i2824 l2825 l2826 l2827 => k0 i2810 l2811 l2812 i2813 i2814 i2815 l2816 l2817 l2819 i2820 l2821 l2822 l2823 i2824 l2825 l2826 l2827 l2818)))
    (c5 x0
     (fun i2828 => c4 i2828 (16 : Int) i2752 i2733
      (fun i2829 i2830 => c3 i2829 i2753 l2754 l2755 i2756 i2757 i2758 l2759 l2760 l2770 l2761 i2762 l2763 l2764 l2765 i2766 l2767 l2768 l2769
       (fun i2831 l2832 l2833 i2834 i2835 i2836 l2837 l2838 l2839 i2840 l2841 l2842 l2843 i2844 l2845 l2846 l2847 l2848 => k0 i2831 l2832 l2833 i2834 i2835 i2836 l2837 l2838 l2839 i2840 l2841 l2842 l2843 i2844 l2845 l2846 l2847 l2848))))))
noncomputable def run_machine_reckon_61a1 (N : Nat) {R : Type} (x0 : Int) (x1 : Int) (x2 : T1) (x3 : T1) (x4 : Int) (x5 : Int) (x6 : Int) (x7 : T2) (x8 : T3) (x9 : T1) (x10 : T1) (x11 : Int) (x12 : T8) (x13 : T5) (x14 : T2) (x15 : Int) (x16 : T6) (x17 : T7) (x18 : T4) (k0 : Int → T1 → T1 → Int → Int → Int → T2 → T3 → T1 → Int → T8 → T5 → T2 → Int → T6 → T7 → T4 → T1 → Option R) : Option R := run_machine_reckon_61a1_T N (@run_machine_push_6121 N) (@run_machine_push_9b59 N) (@run_machine_push_c21d N) (@run_machine_push_684b N) (@wide_Do N) (@run_logic N) (@run_machine_end_5a2b N) (@run_machine_end_3f90 N) (@run_machine_pop_9c77 N) (@run_machine_pop_6326 N) x0 x1 x2 x3 x4 x5 x6 x7 x8 x9 x10 x11 x12 x13 x14 x15 x16 x17 x18 k0
abbrev run_truth_Ty : Type 1 := {R : Type} → Bool → (Int → Option R) → Option R
noncomputable def run_truth_T (N : Nat) {R : Type} (x0 : Bool) (k0 : Int → Option R) : Option R :=
  br x0
  (k0 (1 : Int))
  (k0 (0 : Int))
noncomputable def run_truth (N : Nat) {R : Type} (x0 : Bool) (k0 : Int → Option R) : Option R := run_truth_T N x0 k0
abbrev run_machine_memory_3c75_Ty : Type 1 := {R : Type} → Int → Int → T1 → T1 → Int → Int → Int → T2 → T3 → T1 → Int → T6 → T7 → T4 → (Int → T1 → T1 → Int → Int → Int → T2 → T3 → Int → T6 → T7 → T4 → T1 → Option R) → Option R
noncomputable def run_machine_memory_3c75_T (N : Nat) (c0 : run_machine_push_6121_Ty) (c1 : run_machine_push_9b59_Ty) (c2 : run_machine_push_c21d_Ty) (c3 : run_machine_push_684b_Ty) (c4 : run_machine_end_5a2b_Ty) (c5 : run_machine_end_3f90_Ty) (c6 : run_machine_pop_9c77_Ty) (c7 : run_machine_pop_6326_Ty) {R : Type} (x0 : Int) (x1 : Int) (x2 : T1) (x3 : T1) (x4 : Int) (x5 : Int) (x6 : Int) (x7 : T2) (x8 : T3) (x9 : T1) (x10 : Int) (x11 : T6) (x12 : T7) (x13 : T4) (k0 : Int → T1 → T1 → Int → Int → Int → T2 → T3 → Int → T6 → T7 → T4 → T1 → Option R) : Option R :=
  br (decide (x0 = (21 : Int)))
  (c6 x1 x2 x3 x4 x5 x6 x7 x8 x9 x10 x11 x12 x13
   (fun i503 i504 l505 l506 i507 i508 i509 l510 l511 i512 l513 l514 l515 l516 => c6 i504 l505 l506 i507 i508 i509 l510 l511 l516 i512 l513 l514 l515
    (fun i517 i518 l519 l520 i521 i522 i523 l524 l525 i526 l527 l528 l529 l530 => br (decide ((32 : Int) ≤ i517))
     (c4 (3 : Int) (0 : Int) i518 l519 l520 i521 i522 i523 l524 l525 l530 i526 l527 l528 l529
      (fun i531 l532 l533 i534 i535 i536 l537 l538 l539 i540 l541 l542 l543 => k0 i531 l532 l533 i534 i535 i536 l537 l538 i540 l541 l542 l543 l539))
     (br (decide (x0 = (21 : Int)))
      (br (inB i517 (32 : Nat))
       (br (decide ((Int.toNat i517) < (32 : Nat)))
        (k0 i518 l519 (List.set l520 (Int.toNat i517) (IntKind.wrap .u8 i503)) i521 i522 i523 l524 l525 i526 l527 l528 l529 l530)
        (none))
       (none))
      (br (inB i517 (32 : Nat))
       (br (decide ((Int.toNat i517) < (32 : Nat)))
        (c1 (IntKind.wrap .u16 (List.getD l520 (Int.toNat i517) (0 : Int))) i518 l519 l520 i521 i522 i523 l524 l525 l530 i526 l527 l528 l529
         (fun i544 l545 l546 i547 i548 i549 l550 l551 i552 l553 l554 l555 l556 => k0 i544 l545 l546 i547 i548 i549 l550 l551 i552 l553 l554 l555 l556))
        (none))
       (none))))))
  (c6 x1 x2 x3 x4 x5 x6 x7 x8 x9 x10 x11 x12 x13
   (fun i557 i558 l559 l560 i561 i562 i563 l564 l565 i566 l567 l568 l569 l570 => br (decide ((32 : Int) ≤ i557))
    (c4 (3 : Int) (0 : Int) i558 l559 l560 i561 i562 i563 l564 l565 l570 i566 l567 l568 l569
     (fun i571 l572 l573 i574 i575 i576 l577 l578 l579 i580 l581 l582 l583 => k0 i571 l572 l573 i574 i575 i576 l577 l578 i580 l581 l582 l583 l579))
    (br (decide (x0 = (21 : Int)))
     (br (inB i557 (32 : Nat))
      (br (decide ((Int.toNat i557) < (32 : Nat)))
       (k0 i558 l559 (List.set l560 (Int.toNat i557) (IntKind.wrap .u8 (0 : Int))) i561 i562 i563 l564 l565 i566 l567 l568 l569 l570)
       (none))
      (none))
     (br (inB i557 (32 : Nat))
      (br (decide ((Int.toNat i557) < (32 : Nat)))
       (c1 (IntKind.wrap .u16 (List.getD l560 (Int.toNat i557) (0 : Int))) i558 l559 l560 i561 i562 i563 l564 l565 l570 i566 l567 l568 l569
        (fun i584 l585 l586 i587 i588 i589 l590 l591 i592 l593 l594 l595 l596 => k0 i584 l585 l586 i587 i588 i589 l590 l591 i592 l593 l594 l595 l596))
       (none))
      (none)))))
noncomputable def run_machine_memory_3c75 (N : Nat) {R : Type} (x0 : Int) (x1 : Int) (x2 : T1) (x3 : T1) (x4 : Int) (x5 : Int) (x6 : Int) (x7 : T2) (x8 : T3) (x9 : T1) (x10 : Int) (x11 : T6) (x12 : T7) (x13 : T4) (k0 : Int → T1 → T1 → Int → Int → Int → T2 → T3 → Int → T6 → T7 → T4 → T1 → Option R) : Option R := run_machine_memory_3c75_T N (@run_machine_push_6121 N) (@run_machine_push_9b59 N) (@run_machine_push_c21d N) (@run_machine_push_684b N) (@run_machine_end_5a2b N) (@run_machine_end_3f90 N) (@run_machine_pop_9c77 N) (@run_machine_pop_6326 N) x0 x1 x2 x3 x4 x5 x6 x7 x8 x9 x10 x11 x12 x13 k0
abbrev run_machine_memory_61a1_Ty : Type 1 := {R : Type} → Int → Int → T1 → T1 → Int → Int → Int → T2 → T3 → T1 → T1 → Int → T8 → T5 → T2 → Int → T6 → T7 → T4 → (Int → T1 → T1 → Int → Int → Int → T2 → T3 → T1 → Int → T8 → T5 → T2 → Int → T6 → T7 → T4 → T1 → Option R) → Option R
noncomputable def run_machine_memory_61a1_T (N : Nat) (c0 : run_machine_push_6121_Ty) (c1 : run_machine_push_9b59_Ty) (c2 : run_machine_push_c21d_Ty) (c3 : run_machine_push_684b_Ty) (c4 : run_machine_end_5a2b_Ty) (c5 : run_machine_end_3f90_Ty) (c6 : run_machine_pop_9c77_Ty) (c7 : run_machine_pop_6326_Ty) {R : Type} (x0 : Int) (x1 : Int) (x2 : T1) (x3 : T1) (x4 : Int) (x5 : Int) (x6 : Int) (x7 : T2) (x8 : T3) (x9 : T1) (x10 : T1) (x11 : Int) (x12 : T8) (x13 : T5) (x14 : T2) (x15 : Int) (x16 : T6) (x17 : T7) (x18 : T4) (k0 : Int → T1 → T1 → Int → Int → Int → T2 → T3 → T1 → Int → T8 → T5 → T2 → Int → T6 → T7 → T4 → T1 → Option R) : Option R :=
  br (decide (x0 = (21 : Int)))
  (c7 x1 x2 x3 x4 x5 x6 x7 x8 x9 x10 x11 x12 x13 x14 x15 x16 x17 x18
   (fun i3112 i3113 l3114 l3115 i3116 i3117 i3118 l3119 l3120 l3121 i3122 l3123 l3124 l3125 i3126 l3127 l3128 l3129 l3130 => c7 i3113 l3114 l3115 i3116 i3117 i3118 l3119 l3120 l3130 l3121 i3122 l3123 l3124 l3125 i3126 l3127 l3128 l3129
    (fun i3131 i3132 l3133 l3134 i3135 i3136 i3137 l3138 l3139 l3140 i3141 l3142 l3143 l3144 i3145 l3146 l3147 l3148 l3149 => br (decide ((32 : Int) ≤ i3131))
     (c5 (3 : Int) (0 : Int) i3132 l3133 l3134 i3135 i3136 i3137 l3138 l3139 l3149 l3140 i3141 l3142 l3143 l3144 i3145 l3146 l3147 l3148
      (fun i3150 l3151 l3152 i3153 i3154 i3155 l3156 l3157 l3158 l3159 i3160 l3161 l3162 l3163 i3164 l3165 l3166 l3167 => k0 i3150 l3151 l3152 i3153 i3154 i3155 l3156 l3157 l3159 i3160 l3161 l3162 l3163 i3164 l3165 l3166 l3167 l3158))
     (br (decide (x0 = (21 : Int)))
      (br (inB i3131 (32 : Nat))
       (br (decide ((Int.toNat i3131) < (32 : Nat)))
        (k0 i3132 l3133 (List.set l3134 (Int.toNat i3131) (IntKind.wrap .u8 i3112)) i3135 i3136 i3137 l3138 l3139 l3140 i3141 l3142 l3143 l3144 i3145 l3146 l3147 l3148 l3149)
        (none))
       (none))
      (br (inB i3131 (32 : Nat))
       (br (decide ((Int.toNat i3131) < (32 : Nat)))
        (c3 (IntKind.wrap .u16 (List.getD l3134 (Int.toNat i3131) (0 : Int))) i3132 l3133 l3134 i3135 i3136 i3137 l3138 l3139 l3149 l3140 i3141 l3142 l3143 l3144 i3145 l3146 l3147 l3148
         (fun i3168 l3169 l3170 i3171 i3172 i3173 l3174 l3175 l3176 i3177 l3178 l3179 l3180 i3181 l3182 l3183 l3184 l3185 => k0 i3168 l3169 l3170 i3171 i3172 i3173 l3174 l3175 l3176 i3177 l3178 l3179 l3180 i3181 l3182 l3183 l3184 l3185))
        (none))
       (none))))))
  (c7 x1 x2 x3 x4 x5 x6 x7 x8 x9 x10 x11 x12 x13 x14 x15 x16 x17 x18
   (fun i3186 i3187 l3188 l3189 i3190 i3191 i3192 l3193 l3194 l3195 i3196 l3197 l3198 l3199 i3200 l3201 l3202 l3203 l3204 => br (decide ((32 : Int) ≤ i3186))
    (c5 (3 : Int) (0 : Int) i3187 l3188 l3189 i3190 i3191 i3192 l3193 l3194 l3204 l3195 i3196 l3197 l3198 l3199 i3200 l3201 l3202 l3203
     (fun i3205 l3206 l3207 i3208 i3209 i3210 l3211 l3212 l3213 l3214 i3215 l3216 l3217 l3218 i3219 l3220 l3221 l3222 => k0 i3205 l3206 l3207 i3208 i3209 i3210 l3211 l3212 l3214 i3215 l3216 l3217 l3218 i3219 l3220 l3221 l3222 l3213))
    (br (decide (x0 = (21 : Int)))
     (br (inB i3186 (32 : Nat))
      (br (decide ((Int.toNat i3186) < (32 : Nat)))
       (k0 i3187 l3188 (List.set l3189 (Int.toNat i3186) (IntKind.wrap .u8 (0 : Int))) i3190 i3191 i3192 l3193 l3194 l3195 i3196 l3197 l3198 l3199 i3200 l3201 l3202 l3203 l3204)
       (none))
      (none))
     (br (inB i3186 (32 : Nat))
      (br (decide ((Int.toNat i3186) < (32 : Nat)))
       (c3 (IntKind.wrap .u16 (List.getD l3189 (Int.toNat i3186) (0 : Int))) i3187 l3188 l3189 i3190 i3191 i3192 l3193 l3194 l3204 l3195 i3196 l3197 l3198 l3199 i3200 l3201 l3202 l3203
        (fun i3223 l3224 l3225 i3226 i3227 i3228 l3229 l3230 l3231 i3232 l3233 l3234 l3235 i3236 l3237 l3238 l3239 l3240 => k0 i3223 l3224 l3225 i3226 i3227 i3228 l3229 l3230 l3231 i3232 l3233 l3234 l3235 i3236 l3237 l3238 l3239 l3240))
       (none))
      (none)))))
noncomputable def run_machine_memory_61a1 (N : Nat) {R : Type} (x0 : Int) (x1 : Int) (x2 : T1) (x3 : T1) (x4 : Int) (x5 : Int) (x6 : Int) (x7 : T2) (x8 : T3) (x9 : T1) (x10 : T1) (x11 : Int) (x12 : T8) (x13 : T5) (x14 : T2) (x15 : Int) (x16 : T6) (x17 : T7) (x18 : T4) (k0 : Int → T1 → T1 → Int → Int → Int → T2 → T3 → T1 → Int → T8 → T5 → T2 → Int → T6 → T7 → T4 → T1 → Option R) : Option R := run_machine_memory_61a1_T N (@run_machine_push_6121 N) (@run_machine_push_9b59 N) (@run_machine_push_c21d N) (@run_machine_push_684b N) (@run_machine_end_5a2b N) (@run_machine_end_3f90 N) (@run_machine_pop_9c77 N) (@run_machine_pop_6326 N) x0 x1 x2 x3 x4 x5 x6 x7 x8 x9 x10 x11 x12 x13 x14 x15 x16 x17 x18 k0
abbrev run_machine_plain_ffdd_Ty : Type 1 := {R : Type} → Int → Int → Int → T1 → T1 → Int → Int → Int → T2 → T3 → T1 → Int → T6 → T7 → T4 → (Bool → Int → T1 → T1 → Int → Int → Int → T2 → T3 → Int → T6 → T7 → T1 → T4 → Option R) → Option R
noncomputable def run_machine_plain_ffdd_T (N : Nat) (c0 : run_machine_end_5a2b_Ty) (c1 : run_machine_end_3f90_Ty) (c2 : wide_Mask_Ty) (c3 : run_machine_memory_3c75_Ty) (c4 : run_machine_memory_61a1_Ty) (c5 : run_truth_Ty) (c6 : run_machine_pop_9c77_Ty) (c7 : run_machine_pop_6326_Ty) (c8 : run_machine_push_6121_Ty) (c9 : run_machine_push_9b59_Ty) (c10 : run_machine_push_c21d_Ty) (c11 : run_machine_push_684b_Ty) {R : Type} (x0 : Int) (x1 : Int) (x2 : Int) (x3 : T1) (x4 : T1) (x5 : Int) (x6 : Int) (x7 : Int) (x8 : T2) (x9 : T3) (x10 : T1) (x11 : Int) (x12 : T6) (x13 : T7) (x14 : T4) (k0 : Bool → Int → T1 → T1 → Int → Int → Int → T2 → T3 → Int → T6 → T7 → T1 → T4 → Option R) : Option R :=
  br (decide (x0 = (1 : Int)))
  (c9 (IntKind.wrap .u16 x1) x2 x3 x4 x5 x6 x7 x8 x9 x10 x11 x12 x13 x14
   (fun i827 l828 l829 i830 i831 i832 l833 l834 i835 l836 l837 l838 l839 => k0 true i827 l828 l829 i830 i831 i832 l833 l834 i835 l836 l837 l839 l838))
  (br (decide (x0 = (2 : Int)))
   (c6 x2 x3 x4 x5 x6 x7 x8 x9 x10 x11 x12 x13 x14
    (fun i840 i841 l842 l843 i844 i845 i846 l847 l848 i849 l850 l851 l852 l853 => k0 true i841 l842 l843 i844 i845 i846 l847 l848 i849 l850 l851 l853 l852))
   (br (decide (x0 = (3 : Int)))
    (br (inB (IntKind.wrap .i64 ((Nat.cast (List.length x10) : Int) - (1 : Int))) (List.length x10))
     (br (decide ((Int.toNat (IntKind.wrap .i64 ((Nat.cast (List.length x10) : Int) - (1 : Int)))) < (List.length x10)))
      (c9 (List.getD x10 (Int.toNat (IntKind.wrap .i64 ((Nat.cast (List.length x10) : Int) - (1 : Int)))) (0 : Int)) x2 x3 x4 x5 x6 x7 x8 x9 x10 x11 x12 x13 x14
       (fun i854 l855 l856 i857 i858 i859 l860 l861 i862 l863 l864 l865 l866 => k0 true i854 l855 l856 i857 i858 i859 l860 l861 i862 l863 l864 l866 l865))
      (none))
     (none))
    (br (decide (x0 = (4 : Int)))
     (c6 x2 x3 x4 x5 x6 x7 x8 x9 x10 x11 x12 x13 x14
      (fun i867 i868 l869 l870 i871 i872 i873 l874 l875 i876 l877 l878 l879 l880 => c6 i868 l869 l870 i871 i872 i873 l874 l875 l880 i876 l877 l878 l879
       (fun i881 i882 l883 l884 i885 i886 i887 l888 l889 i890 l891 l892 l893 l894 => c9 i867 i882 l883 l884 i885 i886 i887 l888 l889 l894 i890 l891 l892 l893
        (fun i895 l896 l897 i898 i899 i900 l901 l902 i903 l904 l905 l906 l907 => c9 i881 i895 l896 l897 i898 i899 i900 l901 l902 l907 i903 l904 l905 l906
         (fun i908 l909 l910 i911 i912 i913 l914 l915 i916 l917 l918 l919 l920 => k0 true i908 l909 l910 i911 i912 i913 l914 l915 i916 l917 l918 l920 l919)))))
     (br (decide (x0 = (17 : Int)))
      (c6 x2 x3 x4 x5 x6 x7 x8 x9 x10 x11 x12 x13 x14
       (fun i921 i922 l923 l924 i925 i926 i927 l928 l929 i930 l931 l932 l933 l934 => c5 (decide (i921 = (0 : Int)))
        (fun i935 => c9 i935 i922 l923 l924 i925 i926 i927 l928 l929 l934 i930 l931 l932 l933
         (fun i936 l937 l938 i939 i940 i941 l942 l943 i944 l945 l946 l947 l948 => k0 true i936 l937 l938 i939 i940 i941 l942 l943 i944 l945 l946 l948 l947))))
      (br (decide (x0 = (18 : Int)))
       (br (inB x1 (8 : Nat))
        (br (decide ((Int.toNat x1) < (8 : Nat)))
         (c9 (List.getD x3 (Int.toNat x1) (0 : Int)) x2 x3 x4 x5 x6 x7 x8 x9 x10 x11 x12 x13 x14
          (fun i949 l950 l951 i952 i953 i954 l955 l956 i957 l958 l959 l960 l961 => k0 true i949 l950 l951 i952 i953 i954 l955 l956 i957 l958 l959 l961 l960))
         (none))
        (none))
       (br (decide (x0 = (19 : Int)))
        (c6 x2 x3 x4 x5 x6 x7 x8 x9 x10 x11 x12 x13 x14
         (fun i962 i963 l964 l965 i966 i967 i968 l969 l970 i971 l972 l973 l974 l975 => br (decide (x1 = x1))
          (br (inB x1 (8 : Nat))
           (br (decide ((Int.toNat x1) < (8 : Nat)))
            (k0 true i963 (List.set l964 (Int.toNat x1) i962) l965 i966 i967 i968 l969 l970 i971 l972 l973 l975 l974)
            (none))
           (none))
          (none)))
        (br (decide (x0 = (20 : Int)))
         (c3 x0 x2 x3 x4 x5 x6 x7 x8 x9 x10 x11 x12 x13 x14
          (fun i976 l977 l978 i979 i980 i981 l982 l983 i984 l985 l986 l987 l988 => k0 true i976 l977 l978 i979 i980 i981 l982 l983 i984 l985 l986 l988 l987))
         (br (decide (x0 = (21 : Int)))
          (c3 x0 x2 x3 x4 x5 x6 x7 x8 x9 x10 x11 x12 x13 x14
           (fun i989 l990 l991 i992 i993 i994 l995 l996 i997 l998 l999 l1000 l1001 => k0 true i989 l990 l991 i992 i993 i994 l995 l996 i997 l998 l999 l1001 l1000))
          (br (decide (x0 = (22 : Int)))
           (k0 true x1 x3 x4 x5 x6 x7 x8 x9 x11 x12 x13 x10 x14)
           (br (decide (x0 = (23 : Int)))
            (c6 x2 x3 x4 x5 x6 x7 x8 x9 x10 x11 x12 x13 x14
             (fun i1002 i1003 l1004 l1005 i1006 i1007 i1008 l1009 l1010 i1011 l1012 l1013 l1014 l1015 => br (decide (i1002 = (0 : Int)))
              (k0 true x1 l1004 l1005 i1006 i1007 i1008 l1009 l1010 i1011 l1012 l1013 l1015 l1014)
              (k0 true i1003 l1004 l1005 i1006 i1007 i1008 l1009 l1010 i1011 l1012 l1013 l1015 l1014)))
            (br (decide (x0 = (24 : Int)))
             (c6 x2 x3 x4 x5 x6 x7 x8 x9 x10 x11 x12 x13 x14
              (fun i1016 i1017 l1018 l1019 i1020 i1021 i1022 l1023 l1024 i1025 l1026 l1027 l1028 l1029 => c2 (8 : Int)
               (fun i1030 => br (((fits (0 : Nat) (List.length l1028) l1028) && (decide ((((List.length l1028) + (1 : Nat)) * (4 : Nat)) ≤ (70368744177664 : Nat)))) && true)
                (k0 true i1017 l1018 l1019 i1020 i1021 i1022 l1023 l1024 i1025 l1026 l1027 l1029 ((sub l1028 (0 : Nat) (List.length l1028)) ++ ((true , (band .u16 i1016 i1030)) :: ([] : List ((Sh.bool.pair (Sh.int IntKind.u16)).T)))))
                (none))))
             (br (decide (x0 = (25 : Int)))
              (c6 x2 x3 x4 x5 x6 x7 x8 x9 x10 x11 x12 x13 x14
               (fun i1031 i1032 l1033 l1034 i1035 i1036 i1037 l1038 l1039 i1040 l1041 l1042 l1043 l1044 => br (decide (i1031 = (0 : Int)))
                (c0 (4 : Int) (0 : Int) i1032 l1033 l1034 i1035 i1036 i1037 l1038 l1039 l1044 i1040 l1041 l1042 l1043
                 (fun i1045 l1046 l1047 i1048 i1049 i1050 l1051 l1052 l1053 i1054 l1055 l1056 l1057 => k0 true i1045 l1046 l1047 i1048 i1049 i1050 l1051 l1052 i1054 l1055 l1056 l1053 l1057))
                (k0 true i1032 l1033 l1034 i1035 i1036 i1037 l1038 l1039 i1040 l1041 l1042 l1044 l1043)))
              (br (decide (x0 = (26 : Int)))
               (c6 x2 x3 x4 x5 x6 x7 x8 x9 x10 x11 x12 x13 x14
                (fun i1058 i1059 l1060 l1061 i1062 i1063 i1064 l1065 l1066 i1067 l1068 l1069 l1070 l1071 => c2 (8 : Int)
                 (fun i1072 => c0 (1 : Int) (band .u16 i1058 i1072) i1059 l1060 l1061 i1062 i1063 i1064 l1065 l1066 l1071 i1067 l1068 l1069 l1070
                  (fun i1073 l1074 l1075 i1076 i1077 i1078 l1079 l1080 l1081 i1082 l1083 l1084 l1085 => k0 true i1073 l1074 l1075 i1076 i1077 i1078 l1079 l1080 i1082 l1083 l1084 l1081 l1085))))
               (k0 false x2 x3 x4 x5 x6 x7 x8 x9 x11 x12 x13 x10 x14))))))))))))))
noncomputable def run_machine_plain_ffdd (N : Nat) {R : Type} (x0 : Int) (x1 : Int) (x2 : Int) (x3 : T1) (x4 : T1) (x5 : Int) (x6 : Int) (x7 : Int) (x8 : T2) (x9 : T3) (x10 : T1) (x11 : Int) (x12 : T6) (x13 : T7) (x14 : T4) (k0 : Bool → Int → T1 → T1 → Int → Int → Int → T2 → T3 → Int → T6 → T7 → T1 → T4 → Option R) : Option R := run_machine_plain_ffdd_T N (@run_machine_end_5a2b N) (@run_machine_end_3f90 N) (@wide_Mask N) (@run_machine_memory_3c75 N) (@run_machine_memory_61a1 N) (@run_truth N) (@run_machine_pop_9c77 N) (@run_machine_pop_6326 N) (@run_machine_push_6121 N) (@run_machine_push_9b59 N) (@run_machine_push_c21d N) (@run_machine_push_684b N) x0 x1 x2 x3 x4 x5 x6 x7 x8 x9 x10 x11 x12 x13 x14 k0
abbrev run_machine_plain_e571_Ty : Type 1 := {R : Type} → Int → Int → Int → T1 → T1 → Int → Int → Int → T2 → T3 → T1 → T1 → Int → T8 → T5 → T2 → Int → T6 → T7 → T4 → (Bool → Int → T1 → T1 → Int → Int → Int → T2 → T3 → T1 → Int → T8 → T5 → T2 → Int → T6 → T7 → T1 → T4 → Option R) → Option R
noncomputable def run_machine_plain_e571_T (N : Nat) (c0 : run_machine_end_5a2b_Ty) (c1 : run_machine_end_3f90_Ty) (c2 : wide_Mask_Ty) (c3 : run_machine_memory_3c75_Ty) (c4 : run_machine_memory_61a1_Ty) (c5 : run_truth_Ty) (c6 : run_machine_pop_9c77_Ty) (c7 : run_machine_pop_6326_Ty) (c8 : run_machine_push_6121_Ty) (c9 : run_machine_push_9b59_Ty) (c10 : run_machine_push_c21d_Ty) (c11 : run_machine_push_684b_Ty) {R : Type} (x0 : Int) (x1 : Int) (x2 : Int) (x3 : T1) (x4 : T1) (x5 : Int) (x6 : Int) (x7 : Int) (x8 : T2) (x9 : T3) (x10 : T1) (x11 : T1) (x12 : Int) (x13 : T8) (x14 : T5) (x15 : T2) (x16 : Int) (x17 : T6) (x18 : T7) (x19 : T4) (k0 : Bool → Int → T1 → T1 → Int → Int → Int → T2 → T3 → T1 → Int → T8 → T5 → T2 → Int → T6 → T7 → T1 → T4 → Option R) : Option R :=
  br (decide (x0 = (1 : Int)))
  (c11 (IntKind.wrap .u16 x1) x2 x3 x4 x5 x6 x7 x8 x9 x10 x11 x12 x13 x14 x15 x16 x17 x18 x19
   (fun i3556 l3557 l3558 i3559 i3560 i3561 l3562 l3563 l3564 i3565 l3566 l3567 l3568 i3569 l3570 l3571 l3572 l3573 => k0 true i3556 l3557 l3558 i3559 i3560 i3561 l3562 l3563 l3564 i3565 l3566 l3567 l3568 i3569 l3570 l3571 l3573 l3572))
  (br (decide (x0 = (2 : Int)))
   (c7 x2 x3 x4 x5 x6 x7 x8 x9 x10 x11 x12 x13 x14 x15 x16 x17 x18 x19
    (fun i3574 i3575 l3576 l3577 i3578 i3579 i3580 l3581 l3582 l3583 i3584 l3585 l3586 l3587 i3588 l3589 l3590 l3591 l3592 => k0 true i3575 l3576 l3577 i3578 i3579 i3580 l3581 l3582 l3583 i3584 l3585 l3586 l3587 i3588 l3589 l3590 l3592 l3591))
   (br (decide (x0 = (3 : Int)))
    (br (inB (IntKind.wrap .i64 ((Nat.cast (List.length x10) : Int) - (1 : Int))) (List.length x10))
     (br (decide ((Int.toNat (IntKind.wrap .i64 ((Nat.cast (List.length x10) : Int) - (1 : Int)))) < (List.length x10)))
      (c11 (List.getD x10 (Int.toNat (IntKind.wrap .i64 ((Nat.cast (List.length x10) : Int) - (1 : Int)))) (0 : Int)) x2 x3 x4 x5 x6 x7 x8 x9 x10 x11 x12 x13 x14 x15 x16 x17 x18 x19
       (fun i3593 l3594 l3595 i3596 i3597 i3598 l3599 l3600 l3601 i3602 l3603 l3604 l3605 i3606 l3607 l3608 l3609 l3610 => k0 true i3593 l3594 l3595 i3596 i3597 i3598 l3599 l3600 l3601 i3602 l3603 l3604 l3605 i3606 l3607 l3608 l3610 l3609))
      (none))
     (none))
    (br (decide (x0 = (4 : Int)))
     (c7 x2 x3 x4 x5 x6 x7 x8 x9 x10 x11 x12 x13 x14 x15 x16 x17 x18 x19
      (fun i3611 i3612 l3613 l3614 i3615 i3616 i3617 l3618 l3619 l3620 i3621 l3622 l3623 l3624 i3625 l3626 l3627 l3628 l3629 => c7 i3612 l3613 l3614 i3615 i3616 i3617 l3618 l3619 l3629 l3620 i3621 l3622 l3623 l3624 i3625 l3626 l3627 l3628
       (fun i3630 i3631 l3632 l3633 i3634 i3635 i3636 l3637 l3638 l3639 i3640 l3641 l3642 l3643 i3644 l3645 l3646 l3647 l3648 => c11 i3611 i3631 l3632 l3633 i3634 i3635 i3636 l3637 l3638 l3648 l3639 i3640 l3641 l3642 l3643 i3644 l3645 l3646 l3647
        (fun i3649 l3650 l3651 i3652 i3653 i3654 l3655 l3656 l3657 i3658 l3659 l3660 l3661 i3662 l3663 l3664 l3665 l3666 => c11 i3630 i3649 l3650 l3651 i3652 i3653 i3654 l3655 l3656 l3666 l3657 i3658 l3659 l3660 l3661 i3662 l3663 l3664 l3665
         (fun i3667 l3668 l3669 i3670 i3671 i3672 l3673 l3674 l3675 i3676 l3677 l3678 l3679 i3680 l3681 l3682 l3683 l3684 => k0 true i3667 l3668 l3669 i3670 i3671 i3672 l3673 l3674 l3675 i3676 l3677 l3678 l3679 i3680 l3681 l3682 l3684 l3683)))))
     (br (decide (x0 = (17 : Int)))
      (c7 x2 x3 x4 x5 x6 x7 x8 x9 x10 x11 x12 x13 x14 x15 x16 x17 x18 x19
       (fun i3685 i3686 l3687 l3688 i3689 i3690 i3691 l3692 l3693 l3694 i3695 l3696 l3697 l3698 i3699 l3700 l3701 l3702 l3703 => c5 (decide (i3685 = (0 : Int)))
        (fun i3704 => c11 i3704 i3686 l3687 l3688 i3689 i3690 i3691 l3692 l3693 l3703 l3694 i3695 l3696 l3697 l3698 i3699 l3700 l3701 l3702
         (fun i3705 l3706 l3707 i3708 i3709 i3710 l3711 l3712 l3713 i3714 l3715 l3716 l3717 i3718 l3719 l3720 l3721 l3722 => k0 true i3705 l3706 l3707 i3708 i3709 i3710 l3711 l3712 l3713 i3714 l3715 l3716 l3717 i3718 l3719 l3720 l3722 l3721))))
      (br (decide (x0 = (18 : Int)))
       (br (inB x1 (8 : Nat))
        (br (decide ((Int.toNat x1) < (8 : Nat)))
         (c11 (List.getD x3 (Int.toNat x1) (0 : Int)) x2 x3 x4 x5 x6 x7 x8 x9 x10 x11 x12 x13 x14 x15 x16 x17 x18 x19
          (fun i3723 l3724 l3725 i3726 i3727 i3728 l3729 l3730 l3731 i3732 l3733 l3734 l3735 i3736 l3737 l3738 l3739 l3740 => k0 true i3723 l3724 l3725 i3726 i3727 i3728 l3729 l3730 l3731 i3732 l3733 l3734 l3735 i3736 l3737 l3738 l3740 l3739))
         (none))
        (none))
       (br (decide (x0 = (19 : Int)))
        (c7 x2 x3 x4 x5 x6 x7 x8 x9 x10 x11 x12 x13 x14 x15 x16 x17 x18 x19
         (fun i3741 i3742 l3743 l3744 i3745 i3746 i3747 l3748 l3749 l3750 i3751 l3752 l3753 l3754 i3755 l3756 l3757 l3758 l3759 => br (decide (x1 = x1))
          (br (inB x1 (8 : Nat))
           (br (decide ((Int.toNat x1) < (8 : Nat)))
            (k0 true i3742 (List.set l3743 (Int.toNat x1) i3741) l3744 i3745 i3746 i3747 l3748 l3749 l3750 i3751 l3752 l3753 l3754 i3755 l3756 l3757 l3759 l3758)
            (none))
           (none))
          (none)))
        (br (decide (x0 = (20 : Int)))
         (c4 x0 x2 x3 x4 x5 x6 x7 x8 x9 x10 x11 x12 x13 x14 x15 x16 x17 x18 x19
          (fun i3760 l3761 l3762 i3763 i3764 i3765 l3766 l3767 l3768 i3769 l3770 l3771 l3772 i3773 l3774 l3775 l3776 l3777 => k0 true i3760 l3761 l3762 i3763 i3764 i3765 l3766 l3767 l3768 i3769 l3770 l3771 l3772 i3773 l3774 l3775 l3777 l3776))
         (br (decide (x0 = (21 : Int)))
          (c4 x0 x2 x3 x4 x5 x6 x7 x8 x9 x10 x11 x12 x13 x14 x15 x16 x17 x18 x19
           (fun i3778 l3779 l3780 i3781 i3782 i3783 l3784 l3785 l3786 i3787 l3788 l3789 l3790 i3791 l3792 l3793 l3794 l3795 => k0 true i3778 l3779 l3780 i3781 i3782 i3783 l3784 l3785 l3786 i3787 l3788 l3789 l3790 i3791 l3792 l3793 l3795 l3794))
          (br (decide (x0 = (22 : Int)))
           (k0 true x1 x3 x4 x5 x6 x7 x8 x9 x11 x12 x13 x14 x15 x16 x17 x18 x10 x19)
           (br (decide (x0 = (23 : Int)))
            (c7 x2 x3 x4 x5 x6 x7 x8 x9 x10 x11 x12 x13 x14 x15 x16 x17 x18 x19
             (fun i3796 i3797 l3798 l3799 i3800 i3801 i3802 l3803 l3804 l3805 i3806 l3807 l3808 l3809 i3810 l3811 l3812 l3813 l3814 => br (decide (i3796 = (0 : Int)))
              (k0 true x1 l3798 l3799 i3800 i3801 i3802 l3803 l3804 l3805 i3806 l3807 l3808 l3809 i3810 l3811 l3812 l3814 l3813)
              (k0 true i3797 l3798 l3799 i3800 i3801 i3802 l3803 l3804 l3805 i3806 l3807 l3808 l3809 i3810 l3811 l3812 l3814 l3813)))
            (br (decide (x0 = (24 : Int)))
             (c7 x2 x3 x4 x5 x6 x7 x8 x9 x10 x11 x12 x13 x14 x15 x16 x17 x18 x19
              (fun i3815 i3816 l3817 l3818 i3819 i3820 i3821 l3822 l3823 l3824 i3825 l3826 l3827 l3828 i3829 l3830 l3831 l3832 l3833 => c2 (8 : Int)
               (fun i3834 => br (((fits (0 : Nat) (List.length l3832) l3832) && (decide ((((List.length l3832) + (1 : Nat)) * (4 : Nat)) ≤ (70368744177664 : Nat)))) && true)
                (k0 true i3816 l3817 l3818 i3819 i3820 i3821 l3822 l3823 l3824 i3825 l3826 l3827 l3828 i3829 l3830 l3831 l3833 ((sub l3832 (0 : Nat) (List.length l3832)) ++ ((true , (band .u16 i3815 i3834)) :: ([] : List ((Sh.bool.pair (Sh.int IntKind.u16)).T)))))
                (none))))
             (br (decide (x0 = (25 : Int)))
              (c7 x2 x3 x4 x5 x6 x7 x8 x9 x10 x11 x12 x13 x14 x15 x16 x17 x18 x19
               (fun i3835 i3836 l3837 l3838 i3839 i3840 i3841 l3842 l3843 l3844 i3845 l3846 l3847 l3848 i3849 l3850 l3851 l3852 l3853 => br (decide (i3835 = (0 : Int)))
                (c1 (4 : Int) (0 : Int) i3836 l3837 l3838 i3839 i3840 i3841 l3842 l3843 l3853 l3844 i3845 l3846 l3847 l3848 i3849 l3850 l3851 l3852
                 (fun i3854 l3855 l3856 i3857 i3858 i3859 l3860 l3861 l3862 l3863 i3864 l3865 l3866 l3867 i3868 l3869 l3870 l3871 => k0 true i3854 l3855 l3856 i3857 i3858 i3859 l3860 l3861 l3863 i3864 l3865 l3866 l3867 i3868 l3869 l3870 l3862 l3871))
                (k0 true i3836 l3837 l3838 i3839 i3840 i3841 l3842 l3843 l3844 i3845 l3846 l3847 l3848 i3849 l3850 l3851 l3853 l3852)))
              (br (decide (x0 = (26 : Int)))
               (c7 x2 x3 x4 x5 x6 x7 x8 x9 x10 x11 x12 x13 x14 x15 x16 x17 x18 x19
                (fun i3872 i3873 l3874 l3875 i3876 i3877 i3878 l3879 l3880 l3881 i3882 l3883 l3884 l3885 i3886 l3887 l3888 l3889 l3890 => c2 (8 : Int)
                 (fun i3891 => c1 (1 : Int) (band .u16 i3872 i3891) i3873 l3874 l3875 i3876 i3877 i3878 l3879 l3880 l3890 l3881 i3882 l3883 l3884 l3885 i3886 l3887 l3888 l3889
                  (fun i3892 l3893 l3894 i3895 i3896 i3897 l3898 l3899 l3900 l3901 i3902 l3903 l3904 l3905 i3906 l3907 l3908 l3909 => k0 true i3892 l3893 l3894 i3895 i3896 i3897 l3898 l3899 l3901 i3902 l3903 l3904 l3905 i3906 l3907 l3908 l3900 l3909))))
               (k0 false x2 x3 x4 x5 x6 x7 x8 x9 x11 x12 x13 x14 x15 x16 x17 x18 x10 x19))))))))))))))
noncomputable def run_machine_plain_e571 (N : Nat) {R : Type} (x0 : Int) (x1 : Int) (x2 : Int) (x3 : T1) (x4 : T1) (x5 : Int) (x6 : Int) (x7 : Int) (x8 : T2) (x9 : T3) (x10 : T1) (x11 : T1) (x12 : Int) (x13 : T8) (x14 : T5) (x15 : T2) (x16 : Int) (x17 : T6) (x18 : T7) (x19 : T4) (k0 : Bool → Int → T1 → T1 → Int → Int → Int → T2 → T3 → T1 → Int → T8 → T5 → T2 → Int → T6 → T7 → T1 → T4 → Option R) : Option R := run_machine_plain_e571_T N (@run_machine_end_5a2b N) (@run_machine_end_3f90 N) (@wide_Mask N) (@run_machine_memory_3c75 N) (@run_machine_memory_61a1 N) (@run_truth N) (@run_machine_pop_9c77 N) (@run_machine_pop_6326 N) (@run_machine_push_6121 N) (@run_machine_push_9b59 N) (@run_machine_push_c21d N) (@run_machine_push_684b N) x0 x1 x2 x3 x4 x5 x6 x7 x8 x9 x10 x11 x12 x13 x14 x15 x16 x17 x18 x19 k0
abbrev run_machine_name_3c75_Ty : Type 1 := {R : Type} → Int → Int → T1 → T1 → Int → Int → Int → T2 → T3 → T1 → Int → T6 → T7 → T4 → (ByteArray → Int → T1 → T1 → Int → Int → Int → T2 → T3 → T1 → Int → T6 → T7 → T4 → Option R) → Option R
noncomputable def run_machine_name_3c75_T (N : Nat) {R : Type} (x0 : Int) (x1 : Int) (x2 : T1) (x3 : T1) (x4 : Int) (x5 : Int) (x6 : Int) (x7 : T2) (x8 : T3) (x9 : T1) (x10 : Int) (x11 : T6) (x12 : T7) (x13 : T4) (k0 : ByteArray → Int → T1 → T1 → Int → Int → Int → T2 → T3 → T1 → Int → T6 → T7 → T4 → Option R) : Option R :=
  br (inB x0 (List.length x8))
  (br (decide ((Int.toNat x0) < (List.length x8)))
   (k0 (List.getD x8 (Int.toNat x0) (bs [])) x1 x2 x3 x4 x5 x6 x7 x8 x9 x10 x11 x12 x13)
   (none))
  (none)
noncomputable def run_machine_name_3c75 (N : Nat) {R : Type} (x0 : Int) (x1 : Int) (x2 : T1) (x3 : T1) (x4 : Int) (x5 : Int) (x6 : Int) (x7 : T2) (x8 : T3) (x9 : T1) (x10 : Int) (x11 : T6) (x12 : T7) (x13 : T4) (k0 : ByteArray → Int → T1 → T1 → Int → Int → Int → T2 → T3 → T1 → Int → T6 → T7 → T4 → Option R) : Option R := run_machine_name_3c75_T N x0 x1 x2 x3 x4 x5 x6 x7 x8 x9 x10 x11 x12 x13 k0
abbrev run_machine_name_61a1_Ty : Type 1 := {R : Type} → Int → Int → T1 → T1 → Int → Int → Int → T2 → T3 → T1 → T1 → Int → T8 → T5 → T2 → Int → T6 → T7 → T4 → (ByteArray → Int → T1 → T1 → Int → Int → Int → T2 → T3 → T1 → T1 → Int → T8 → T5 → T2 → Int → T6 → T7 → T4 → Option R) → Option R
noncomputable def run_machine_name_61a1_T (N : Nat) {R : Type} (x0 : Int) (x1 : Int) (x2 : T1) (x3 : T1) (x4 : Int) (x5 : Int) (x6 : Int) (x7 : T2) (x8 : T3) (x9 : T1) (x10 : T1) (x11 : Int) (x12 : T8) (x13 : T5) (x14 : T2) (x15 : Int) (x16 : T6) (x17 : T7) (x18 : T4) (k0 : ByteArray → Int → T1 → T1 → Int → Int → Int → T2 → T3 → T1 → T1 → Int → T8 → T5 → T2 → Int → T6 → T7 → T4 → Option R) : Option R :=
  br (inB x0 (List.length x8))
  (br (decide ((Int.toNat x0) < (List.length x8)))
   (k0 (List.getD x8 (Int.toNat x0) (bs [])) x1 x2 x3 x4 x5 x6 x7 x8 x9 x10 x11 x12 x13 x14 x15 x16 x17 x18)
   (none))
  (none)
noncomputable def run_machine_name_61a1 (N : Nat) {R : Type} (x0 : Int) (x1 : Int) (x2 : T1) (x3 : T1) (x4 : Int) (x5 : Int) (x6 : Int) (x7 : T2) (x8 : T3) (x9 : T1) (x10 : T1) (x11 : Int) (x12 : T8) (x13 : T5) (x14 : T2) (x15 : Int) (x16 : T6) (x17 : T7) (x18 : T4) (k0 : ByteArray → Int → T1 → T1 → Int → Int → Int → T2 → T3 → T1 → T1 → Int → T8 → T5 → T2 → Int → T6 → T7 → T4 → Option R) : Option R := run_machine_name_61a1_T N x0 x1 x2 x3 x4 x5 x6 x7 x8 x9 x10 x11 x12 x13 x14 x15 x16 x17 x18 k0
abbrev files_Files_file_Ty : Type 1 := {R : Type} → Int → (Option R) → Option R
noncomputable def files_Files_file_T (N : Nat) {R : Type} (x0 : Int) (k0 : Option R) : Option R :=
  k0
noncomputable def files_Files_file (N : Nat) {R : Type} (x0 : Int) (k0 : Option R) : Option R := files_Files_file_T N x0 k0
abbrev files_Files_file_b447_Ty : Type 1 := {R : Type} → Int → T1 → Int → T8 → T5 → T2 → (T1 → Int → T8 → T5 → T2 → Option R) → (Int → T1 → Int → T8 → T5 → T2 → Option R) → Option R
noncomputable def files_Files_file_b447_T (N : Nat) {R : Type} (x0 : Int) (x1 : T1) (x2 : Int) (x3 : T8) (x4 : T5) (x5 : T2) (k0 : T1 → Int → T8 → T5 → T2 → Option R) (k1 : Int → T1 → Int → T8 → T5 → T2 → Option R) : Option R :=
  br (!(decide ((4 : Int) ≤ x0)))
  (br (inB x0 (4 : Nat))
   (br (decide ((Int.toNat x0) < (4 : Nat)))
    (br (decide ((List.getD x1 (Int.toNat x0) (0 : Int)) = (0 : Int)))
     (k0 x1 x2 x3 x4 x5)
     (br (inB x0 (4 : Nat))
      (br (decide ((Int.toNat x0) < (4 : Nat)))
       (br (inB (IntKind.wrap .i64 ((List.getD x1 (Int.toNat x0) (0 : Int)) - (1 : Int))) (List.length x5))
        (k1 (IntKind.wrap .i64 ((List.getD x1 (Int.toNat x0) (0 : Int)) - (1 : Int))) x1 x2 x3 x4 x5)
        (none))
       (none))
      (none)))
    (none))
   (none))
  (k0 x1 x2 x3 x4 x5)
noncomputable def files_Files_file_b447 (N : Nat) {R : Type} (x0 : Int) (x1 : T1) (x2 : Int) (x3 : T8) (x4 : T5) (x5 : T2) (k0 : T1 → Int → T8 → T5 → T2 → Option R) (k1 : Int → T1 → Int → T8 → T5 → T2 → Option R) : Option R := files_Files_file_b447_T N x0 x1 x2 x3 x4 x5 k0 k1
abbrev files_Files_Close_Ty : Type 1 := {R : Type} → Int → (Int → Option R) → Option R
noncomputable def files_Files_Close_T (N : Nat) (c0 : files_Files_file_Ty) (c1 : files_Files_file_b447_Ty) {R : Type} (x0 : Int) (k0 : Int → Option R) : Option R :=
  c0 x0
  (k0 (65289 : Int))
noncomputable def files_Files_Close (N : Nat) {R : Type} (x0 : Int) (k0 : Int → Option R) : Option R := files_Files_Close_T N (@files_Files_file N) (@files_Files_file_b447 N) x0 k0
abbrev files_Files_Close_b447_Ty : Type 1 := {R : Type} → Int → T1 → Int → T8 → T5 → T2 → (Int → T1 → Int → T8 → T5 → T2 → Option R) → Option R
noncomputable def files_Files_Close_b447_T (N : Nat) (c0 : files_Files_file_Ty) (c1 : files_Files_file_b447_Ty) {R : Type} (x0 : Int) (x1 : T1) (x2 : Int) (x3 : T8) (x4 : T5) (x5 : T2) (k0 : Int → T1 → Int → T8 → T5 → T2 → Option R) : Option R :=
  c1 x0 x1 x2 x3 x4 x5
  (fun l4826 i4827 l4828 l4829 l4830 => k0 (65289 : Int) l4826 i4827 l4828 l4829 l4830)
  (fun i4831 l4832 i4833 l4834 l4835 l4836 => br (inB x0 (4 : Nat))
   (br (decide ((Int.toNat x0) < (4 : Nat)))
    (k0 (0 : Int) (List.set l4832 (Int.toNat x0) (0 : Int)) i4833 l4834 l4835 l4836)
    (none))
   (none))
noncomputable def files_Files_Close_b447 (N : Nat) {R : Type} (x0 : Int) (x1 : T1) (x2 : Int) (x3 : T8) (x4 : T5) (x5 : T2) (k0 : Int → T1 → Int → T8 → T5 → T2 → Option R) : Option R := files_Files_Close_b447_T N (@files_Files_file N) (@files_Files_file_b447 N) x0 x1 x2 x3 x4 x5 k0
abbrev files_Files_Size_Ty : Type 1 := {R : Type} → Int → (Int → Option R) → Option R
noncomputable def files_Files_Size_T (N : Nat) (c0 : files_Files_file_Ty) (c1 : files_Files_file_b447_Ty) {R : Type} (x0 : Int) (k0 : Int → Option R) : Option R :=
  c0 x0
  (k0 (65289 : Int))
noncomputable def files_Files_Size (N : Nat) {R : Type} (x0 : Int) (k0 : Int → Option R) : Option R := files_Files_Size_T N (@files_Files_file N) (@files_Files_file_b447 N) x0 k0
abbrev files_Files_Size_b447_Ty : Type 1 := {R : Type} → Int → T1 → Int → T8 → T5 → T2 → (Int → T1 → Int → T8 → T5 → T2 → Option R) → Option R
noncomputable def files_Files_Size_b447_T (N : Nat) (c0 : files_Files_file_Ty) (c1 : files_Files_file_b447_Ty) {R : Type} (x0 : Int) (x1 : T1) (x2 : Int) (x3 : T8) (x4 : T5) (x5 : T2) (k0 : Int → T1 → Int → T8 → T5 → T2 → Option R) : Option R :=
  c1 x0 x1 x2 x3 x4 x5
  (fun l4880 i4881 l4882 l4883 l4884 => k0 (65289 : Int) l4880 i4881 l4882 l4883 l4884)
  (fun i4885 l4886 i4887 l4888 l4889 l4890 => br (decide ((Int.toNat i4885) < (List.length l4890)))
   (k0 (IntKind.wrap .u16 (Nat.cast (List.length (Option.getD (mfind (.int .i64) (.isl (.int .u8)) l4889 (List.getD l4890 (Int.toNat i4885) ((0 : Int) , (0 : Int))).1) (Sh.zero (.isl (.int .u8))))) : Int)) l4886 i4887 l4888 l4889 l4890)
   (none))
noncomputable def files_Files_Size_b447 (N : Nat) {R : Type} (x0 : Int) (x1 : T1) (x2 : Int) (x3 : T8) (x4 : T5) (x5 : T2) (k0 : Int → T1 → Int → T8 → T5 → T2 → Option R) : Option R := files_Files_Size_b447_T N (@files_Files_file N) (@files_Files_file_b447 N) x0 x1 x2 x3 x4 x5 k0
abbrev files_Files_Seek_Ty : Type 1 := {R : Type} → Int → Int → (Int → Option R) → Option R
noncomputable def files_Files_Seek_T (N : Nat) (c0 : files_Files_file_Ty) (c1 : files_Files_file_b447_Ty) {R : Type} (x0 : Int) (x1 : Int) (k0 : Int → Option R) : Option R :=
  c0 x0
  (k0 (65289 : Int))
noncomputable def files_Files_Seek (N : Nat) {R : Type} (x0 : Int) (x1 : Int) (k0 : Int → Option R) : Option R := files_Files_Seek_T N (@files_Files_file N) (@files_Files_file_b447 N) x0 x1 k0
abbrev files_Files_Seek_0442_Ty : Type 1 := {R : Type} → Int → Int → T1 → Int → T8 → T5 → T2 → (Int → T1 → Int → T8 → T5 → T2 → Option R) → Option R
noncomputable def files_Files_Seek_0442_T (N : Nat) (c0 : files_Files_file_Ty) (c1 : files_Files_file_b447_Ty) {R : Type} (x0 : Int) (x1 : Int) (x2 : T1) (x3 : Int) (x4 : T8) (x5 : T5) (x6 : T2) (k0 : Int → T1 → Int → T8 → T5 → T2 → Option R) : Option R :=
  c1 x0 x2 x3 x4 x5 x6
  (fun l5014 i5015 l5016 l5017 l5018 => k0 (65289 : Int) l5014 i5015 l5016 l5017 l5018)
  (fun i5019 l5020 i5021 l5022 l5023 l5024 => br (decide ((255 : Int) < x1))
   (k0 (65302 : Int) l5020 i5021 l5022 l5023 l5024)
   (br (decide ((Int.toNat i5019) < (List.length l5024)))
    (k0 x1 l5020 i5021 l5022 l5023 (List.set l5024 (Int.toNat i5019) ((List.getD l5024 (Int.toNat i5019) ((0 : Int) , (0 : Int))).1 , (IntKind.wrap .i64 x1))))
    (none)))
noncomputable def files_Files_Seek_0442 (N : Nat) {R : Type} (x0 : Int) (x1 : Int) (x2 : T1) (x3 : Int) (x4 : T8) (x5 : T5) (x6 : T2) (k0 : Int → T1 → Int → T8 → T5 → T2 → Option R) : Option R := files_Files_Seek_0442_T N (@files_Files_file N) (@files_Files_file_b447 N) x0 x1 x2 x3 x4 x5 x6 k0
abbrev run_machine_argument_9c77_Ty : Type 1 := {R : Type} → Int → T1 → T1 → Int → Int → Int → T2 → T3 → T1 → Int → T6 → T7 → T4 → (Int → T1 → T1 → Int → Int → Int → T2 → T3 → Int → T6 → T7 → T4 → T1 → Option R) → Option R
noncomputable def run_machine_argument_9c77_T (N : Nat) (c0 : run_machine_push_6121_Ty) (c1 : run_machine_push_9b59_Ty) (c2 : run_machine_push_c21d_Ty) (c3 : run_machine_push_684b_Ty) (c4 : run_machine_pop_9c77_Ty) (c5 : run_machine_pop_6326_Ty) {R : Type} (x0 : Int) (x1 : T1) (x2 : T1) (x3 : Int) (x4 : Int) (x5 : Int) (x6 : T2) (x7 : T3) (x8 : T1) (x9 : Int) (x10 : T6) (x11 : T7) (x12 : T4) (k0 : Int → T1 → T1 → Int → Int → Int → T2 → T3 → Int → T6 → T7 → T4 → T1 → Option R) : Option R :=
  c4 x0 x1 x2 x3 x4 x5 x6 x7 x8 x9 x10 x11 x12
  (fun i2179 i2180 l2181 l2182 i2183 i2184 i2185 l2186 l2187 i2188 l2189 l2190 l2191 l2192 => c4 i2180 l2181 l2182 i2183 i2184 i2185 l2186 l2187 l2192 i2188 l2189 l2190 l2191
   (fun i2193 i2194 l2195 l2196 i2197 i2198 i2199 l2200 l2201 i2202 l2203 l2204 l2205 l2206 => br (!(decide ((Nat.cast (List.length l2204) : Int) ≤ (IntKind.wrap .i64 i2193))))
    (br (inB i2193 (List.length l2204))
     (br (decide ((Int.toNat i2193) < (List.length l2204)))
      (br (decide ((Nat.cast (List.length (List.getD l2204 (Int.toNat i2193) (Sh.zero (.isl (.int .u8))))) : Int) ≤ (IntKind.wrap .i64 i2179)))
       (c1 (65535 : Int) i2194 l2195 l2196 i2197 i2198 i2199 l2200 l2201 l2206 i2202 l2203 l2204 l2205
        (fun i2207 l2208 l2209 i2210 i2211 i2212 l2213 l2214 i2215 l2216 l2217 l2218 l2219 => k0 i2207 l2208 l2209 i2210 i2211 i2212 l2213 l2214 i2215 l2216 l2217 l2218 l2219))
       (br (inB i2193 (List.length l2204))
        (br (decide ((Int.toNat i2193) < (List.length l2204)))
         (br (inB i2179 (List.length (List.getD l2204 (Int.toNat i2193) (Sh.zero (.isl (.int .u8))))))
          (c1 (IntKind.wrap .u16 (List.getD (List.getD l2204 (Int.toNat i2193) (Sh.zero (.isl (.int .u8)))) (Int.toNat i2179) (0 : Int))) i2194 l2195 l2196 i2197 i2198 i2199 l2200 l2201 l2206 i2202 l2203 l2204 l2205
           (fun i2220 l2221 l2222 i2223 i2224 i2225 l2226 l2227 i2228 l2229 l2230 l2231 l2232 => k0 i2220 l2221 l2222 i2223 i2224 i2225 l2226 l2227 i2228 l2229 l2230 l2231 l2232))
          (none))
         (none))
        (none)))
      (none))
     (none))
    (c1 (65535 : Int) i2194 l2195 l2196 i2197 i2198 i2199 l2200 l2201 l2206 i2202 l2203 l2204 l2205
     (fun i2233 l2234 l2235 i2236 i2237 i2238 l2239 l2240 i2241 l2242 l2243 l2244 l2245 => k0 i2233 l2234 l2235 i2236 i2237 i2238 l2239 l2240 i2241 l2242 l2243 l2244 l2245))))
noncomputable def run_machine_argument_9c77 (N : Nat) {R : Type} (x0 : Int) (x1 : T1) (x2 : T1) (x3 : Int) (x4 : Int) (x5 : Int) (x6 : T2) (x7 : T3) (x8 : T1) (x9 : Int) (x10 : T6) (x11 : T7) (x12 : T4) (k0 : Int → T1 → T1 → Int → Int → Int → T2 → T3 → Int → T6 → T7 → T4 → T1 → Option R) : Option R := run_machine_argument_9c77_T N (@run_machine_push_6121 N) (@run_machine_push_9b59 N) (@run_machine_push_c21d N) (@run_machine_push_684b N) (@run_machine_pop_9c77 N) (@run_machine_pop_6326 N) x0 x1 x2 x3 x4 x5 x6 x7 x8 x9 x10 x11 x12 k0
abbrev run_machine_argument_6326_Ty : Type 1 := {R : Type} → Int → T1 → T1 → Int → Int → Int → T2 → T3 → T1 → T1 → Int → T8 → T5 → T2 → Int → T6 → T7 → T4 → (Int → T1 → T1 → Int → Int → Int → T2 → T3 → T1 → Int → T8 → T5 → T2 → Int → T6 → T7 → T4 → T1 → Option R) → Option R
noncomputable def run_machine_argument_6326_T (N : Nat) (c0 : run_machine_push_6121_Ty) (c1 : run_machine_push_9b59_Ty) (c2 : run_machine_push_c21d_Ty) (c3 : run_machine_push_684b_Ty) (c4 : run_machine_pop_9c77_Ty) (c5 : run_machine_pop_6326_Ty) {R : Type} (x0 : Int) (x1 : T1) (x2 : T1) (x3 : Int) (x4 : Int) (x5 : Int) (x6 : T2) (x7 : T3) (x8 : T1) (x9 : T1) (x10 : Int) (x11 : T8) (x12 : T5) (x13 : T2) (x14 : Int) (x15 : T6) (x16 : T7) (x17 : T4) (k0 : Int → T1 → T1 → Int → Int → Int → T2 → T3 → T1 → Int → T8 → T5 → T2 → Int → T6 → T7 → T4 → T1 → Option R) : Option R :=
  c5 x0 x1 x2 x3 x4 x5 x6 x7 x8 x9 x10 x11 x12 x13 x14 x15 x16 x17
  (fun i6096 i6097 l6098 l6099 i6100 i6101 i6102 l6103 l6104 l6105 i6106 l6107 l6108 l6109 i6110 l6111 l6112 l6113 l6114 => c5 i6097 l6098 l6099 i6100 i6101 i6102 l6103 l6104 l6114 l6105 i6106 l6107 l6108 l6109 i6110 l6111 l6112 l6113
   (fun i6115 i6116 l6117 l6118 i6119 i6120 i6121 l6122 l6123 l6124 i6125 l6126 l6127 l6128 i6129 l6130 l6131 l6132 l6133 => br (!(decide ((Nat.cast (List.length l6131) : Int) ≤ (IntKind.wrap .i64 i6115))))
    (br (inB i6115 (List.length l6131))
     (br (decide ((Int.toNat i6115) < (List.length l6131)))
      (br (decide ((Nat.cast (List.length (List.getD l6131 (Int.toNat i6115) (Sh.zero (.isl (.int .u8))))) : Int) ≤ (IntKind.wrap .i64 i6096)))
       (c3 (65535 : Int) i6116 l6117 l6118 i6119 i6120 i6121 l6122 l6123 l6133 l6124 i6125 l6126 l6127 l6128 i6129 l6130 l6131 l6132
        (fun i6134 l6135 l6136 i6137 i6138 i6139 l6140 l6141 l6142 i6143 l6144 l6145 l6146 i6147 l6148 l6149 l6150 l6151 => k0 i6134 l6135 l6136 i6137 i6138 i6139 l6140 l6141 l6142 i6143 l6144 l6145 l6146 i6147 l6148 l6149 l6150 l6151))
       (br (inB i6115 (List.length l6131))
        (br (decide ((Int.toNat i6115) < (List.length l6131)))
         (br (inB i6096 (List.length (List.getD l6131 (Int.toNat i6115) (Sh.zero (.isl (.int .u8))))))
          (c3 (IntKind.wrap .u16 (List.getD (List.getD l6131 (Int.toNat i6115) (Sh.zero (.isl (.int .u8)))) (Int.toNat i6096) (0 : Int))) i6116 l6117 l6118 i6119 i6120 i6121 l6122 l6123 l6133 l6124 i6125 l6126 l6127 l6128 i6129 l6130 l6131 l6132
           (fun i6152 l6153 l6154 i6155 i6156 i6157 l6158 l6159 l6160 i6161 l6162 l6163 l6164 i6165 l6166 l6167 l6168 l6169 => k0 i6152 l6153 l6154 i6155 i6156 i6157 l6158 l6159 l6160 i6161 l6162 l6163 l6164 i6165 l6166 l6167 l6168 l6169))
          (none))
         (none))
        (none)))
      (none))
     (none))
    (c3 (65535 : Int) i6116 l6117 l6118 i6119 i6120 i6121 l6122 l6123 l6133 l6124 i6125 l6126 l6127 l6128 i6129 l6130 l6131 l6132
     (fun i6170 l6171 l6172 i6173 i6174 i6175 l6176 l6177 l6178 i6179 l6180 l6181 l6182 i6183 l6184 l6185 l6186 l6187 => k0 i6170 l6171 l6172 i6173 i6174 i6175 l6176 l6177 l6178 i6179 l6180 l6181 l6182 i6183 l6184 l6185 l6186 l6187))))
noncomputable def run_machine_argument_6326 (N : Nat) {R : Type} (x0 : Int) (x1 : T1) (x2 : T1) (x3 : Int) (x4 : Int) (x5 : Int) (x6 : T2) (x7 : T3) (x8 : T1) (x9 : T1) (x10 : Int) (x11 : T8) (x12 : T5) (x13 : T2) (x14 : Int) (x15 : T6) (x16 : T7) (x17 : T4) (k0 : Int → T1 → T1 → Int → Int → Int → T2 → T3 → T1 → Int → T8 → T5 → T2 → Int → T6 → T7 → T4 → T1 → Option R) : Option R := run_machine_argument_6326_T N (@run_machine_push_6121 N) (@run_machine_push_9b59 N) (@run_machine_push_c21d N) (@run_machine_push_684b N) (@run_machine_pop_9c77 N) (@run_machine_pop_6326 N) x0 x1 x2 x3 x4 x5 x6 x7 x8 x9 x10 x11 x12 x13 x14 x15 x16 x17 k0
abbrev names_May_Ty : Type 1 := {R : Type} → ByteArray → (Bool → Option R) → Option R
noncomputable def names_May_T (N : Nat) (c0 : check_Name_Ty) {R : Type} (x0 : ByteArray) (k0 : Bool → Option R) : Option R :=
  c0 x0
  (fun b3948 => k0 b3948)
noncomputable def names_May (N : Nat) {R : Type} (x0 : ByteArray) (k0 : Bool → Option R) : Option R := names_May_T N (@check_Name N) x0 k0
abbrev names_Split_Ty : Type 1 := {R : Type} → ByteArray → (ByteArray → ByteArray → Option R) → Option R
noncomputable def names_Split_T (N : Nat) (c0 : strings_Cut_Ty) (c1 : names_May_Ty) {R : Type} (x0 : ByteArray) (k0 : ByteArray → ByteArray → Option R) : Option R :=
  c1 x0
  (fun b3949 => br (!b3949)
   (k0 (bs []) (bs []))
   (c0 x0 (bs [47])
    (fun s3950 s3951 b3952 => br (!b3952)
     (k0 (bs []) s3950)
     (k0 s3950 s3951))))
noncomputable def names_Split (N : Nat) {R : Type} (x0 : ByteArray) (k0 : ByteArray → ByteArray → Option R) : Option R := names_Split_T N (@strings_Cut N) (@names_May N) x0 k0
abbrev tree_of_Ty : Type 1 := {R : Type} → ByteArray → (ByteArray → ByteArray → Option R) → Option R
noncomputable def tree_of_T (N : Nat) (c0 : names_Split_Ty) {R : Type} (x0 : ByteArray) (k0 : ByteArray → ByteArray → Option R) : Option R :=
  c0 x0
  (fun s3953 s3954 => k0 s3953 s3954)
noncomputable def tree_of (N : Nat) {R : Type} (x0 : ByteArray) (k0 : ByteArray → ByteArray → Option R) : Option R := tree_of_T N (@names_Split N) x0 k0
abbrev tree_Tree_above_2de7_Ty : Type 1 := {R : Type} → ByteArray → ByteArray → Int → T8 → (Int → Int → T8 → Option R) → Option R
noncomputable def tree_Tree_above_2de7_T (N : Nat) {R : Type} (x0 : ByteArray) (x1 : ByteArray) (x2 : Int) (x3 : T8) (k0 : Int → Int → T8 → Option R) : Option R :=
  br (decide (x1 = (bs [])))
  (k0 (65282 : Int) x2 x3)
  (br (decide (x0 = (bs [])))
   (k0 (0 : Int) x2 x3)
   (br ((Option.isSome (mfind (.pair .str .str) (.pair (.int .i64) .bool) x3 ((bs []) , x0))) == (Option.isSome (mfind (.pair .str .str) (.pair (.int .i64) .bool) x3 ((bs []) , x0))))
    (br (!(Option.isSome (mfind (.pair .str .str) (.pair (.int .i64) .bool) x3 ((bs []) , x0))))
     (k0 (65282 : Int) x2 x3)
     (br (!(Option.getD (mfind (.pair .str .str) (.pair (.int .i64) .bool) x3 ((bs []) , x0)) ((0 : Int) , false)).2)
      (k0 (65300 : Int) x2 x3)
      (k0 (0 : Int) x2 x3)))
    (none)))
noncomputable def tree_Tree_above_2de7 (N : Nat) {R : Type} (x0 : ByteArray) (x1 : ByteArray) (x2 : Int) (x3 : T8) (k0 : Int → Int → T8 → Option R) : Option R := tree_Tree_above_2de7_T N x0 x1 x2 x3 k0
abbrev tree_Tree_get_fb98_Ty : Type 1 := {R : Type} → ByteArray → Int → T8 → (Int → Bool → Int → Int → T8 → Option R) → Option R
noncomputable def tree_Tree_get_fb98_T (N : Nat) (c0 : tree_Tree_above_2de7_Ty) (c1 : tree_of_Ty) {R : Type} (x0 : ByteArray) (x1 : Int) (x2 : T8) (k0 : Int → Bool → Int → Int → T8 → Option R) : Option R :=
  c1 x0
  (fun s3955 s3956 => c0 s3955 s3956 x1 x2
   (fun i3957 i3958 l3959 => br (!(decide (i3957 = (0 : Int))))
    (k0 (0 : Int) false i3957 i3958 l3959)
    (br ((Option.isSome (mfind (.pair .str .str) (.pair (.int .i64) .bool) l3959 (s3955 , s3956))) == (Option.isSome (mfind (.pair .str .str) (.pair (.int .i64) .bool) l3959 (s3955 , s3956))))
     (br (!(Option.isSome (mfind (.pair .str .str) (.pair (.int .i64) .bool) l3959 (s3955 , s3956))))
      (k0 (0 : Int) false (65282 : Int) i3958 l3959)
      (k0 (Option.getD (mfind (.pair .str .str) (.pair (.int .i64) .bool) l3959 (s3955 , s3956)) ((0 : Int) , false)).1 (Option.getD (mfind (.pair .str .str) (.pair (.int .i64) .bool) l3959 (s3955 , s3956)) ((0 : Int) , false)).2 (0 : Int) i3958 l3959))
     (none))))
noncomputable def tree_Tree_get_fb98 (N : Nat) {R : Type} (x0 : ByteArray) (x1 : Int) (x2 : T8) (k0 : Int → Bool → Int → Int → T8 → Option R) : Option R := tree_Tree_get_fb98_T N (@tree_Tree_above_2de7 N) (@tree_of N) x0 x1 x2 k0
abbrev tree_Tree_Find_fb98_Ty : Type 1 := {R : Type} → ByteArray → Int → T8 → (Int → Bool → Int → Int → T8 → Option R) → Option R
noncomputable def tree_Tree_Find_fb98_T (N : Nat) (c0 : tree_Tree_get_fb98_Ty) {R : Type} (x0 : ByteArray) (x1 : Int) (x2 : T8) (k0 : Int → Bool → Int → Int → T8 → Option R) : Option R :=
  c0 x0 x1 x2
  (fun i3960 b3961 i3962 i3963 l3964 => br (!(decide (i3962 = (0 : Int))))
   (k0 (-1 : Int) false i3962 i3963 l3964)
   (k0 i3960 b3961 (0 : Int) i3963 l3964))
noncomputable def tree_Tree_Find_fb98 (N : Nat) {R : Type} (x0 : ByteArray) (x1 : Int) (x2 : T8) (k0 : Int → Bool → Int → Int → T8 → Option R) : Option R := tree_Tree_Find_fb98_T N (@tree_Tree_get_fb98 N) x0 x1 x2 k0
abbrev slices_Index__int_int_9a75_l0_Ty : Type 1 := {R : Type} → (Int → T1 → Int → T8 → T5 → T2 → Option R) → (T1 → Int → T8 → T5 → T2 → Option R) → Nat → Nat → Nat → Int → Int → Int → T1 → Int → T8 → T5 → T2 → Option R
abbrev slices_Index__int_int_9a75_Ty : Type 1 := {R : Type} → Nat → Nat → Int → T1 → Int → T8 → T5 → T2 → (Int → T1 → Int → T8 → T5 → T2 → Option R) → Option R
noncomputable def slices_Index__int_int_9a75_l0_T0 (N : Nat) {R : Type} (nx : Nat → Nat → Int → Int → Int → T1 → Int → T8 → T5 → T2 → Option R) (k0 : Int → T1 → Int → T8 → T5 → T2 → Option R) (k1 : T1 → Int → T8 → T5 → T2 → Option R) (x0 : Nat) (x1 : Nat) (x2 : Int) (x3 : Int) (x4 : Int) (x5 : T1) (x6 : Int) (x7 : T8) (x8 : T5) (x9 : T2) : Option R :=
  br (decide (x4 < x3))
  (br (inB x4 x0)
   (br (decide ((Int.toNat x4) < (4 : Nat)))
    (br (decide (x2 = (List.getD x5 (Int.toNat x4) (0 : Int))))
     (k0 x4 x5 x6 x7 x8 x9)
     (nx x0 x1 x2 x3 (IntKind.wrap .i64 (x4 + (1 : Int))) x5 x6 x7 x8 x9))
    (none))
   (none))
  (k1 x5 x6 x7 x8 x9)
noncomputable def slices_Index__int_int_9a75_l0 (N : Nat) {R : Type} (k0 : Int → T1 → Int → T8 → T5 → T2 → Option R) (k1 : T1 → Int → T8 → T5 → T2 → Option R) : Nat → Nat → Nat → Int → Int → Int → T1 → Int → T8 → T5 → T2 → Option R
  | 0, _, _, _, _, _, _, _, _, _, _ => none
  | n + 1, x0, x1, x2, x3, x4, x5, x6, x7, x8, x9 => slices_Index__int_int_9a75_l0_T0 N (fun x0 x1 x2 x3 x4 x5 x6 x7 x8 x9 => slices_Index__int_int_9a75_l0 N k0 k1 n x0 x1 x2 x3 x4 x5 x6 x7 x8 x9) k0 k1 x0 x1 x2 x3 x4 x5 x6 x7 x8 x9
noncomputable def slices_Index__int_int_9a75_T (N : Nat) (w0 : slices_Index__int_int_9a75_l0_Ty) {R : Type} (x0 : Nat) (x1 : Nat) (x2 : Int) (x3 : T1) (x4 : Int) (x5 : T8) (x6 : T5) (x7 : T2) (k0 : Int → T1 → Int → T8 → T5 → T2 → Option R) : Option R :=
  w0
  (fun i3970 l3971 i3972 l3973 l3974 l3975 => k0 i3970 l3971 i3972 l3973 l3974 l3975)
  (fun l3976 i3977 l3978 l3979 l3980 => k0 (-1 : Int) l3976 i3977 l3978 l3979 l3980)
  N x0 x1 x2 (Nat.cast x0 : Int) (0 : Int) x3 x4 x5 x6 x7
noncomputable def slices_Index__int_int_9a75 (N : Nat) {R : Type} (x0 : Nat) (x1 : Nat) (x2 : Int) (x3 : T1) (x4 : Int) (x5 : T8) (x6 : T5) (x7 : T2) (k0 : Int → T1 → Int → T8 → T5 → T2 → Option R) : Option R := slices_Index__int_int_9a75_T N (@slices_Index__int_int_9a75_l0 N) x0 x1 x2 x3 x4 x5 x6 x7 k0
abbrev files_Files_free_18fa_Ty : Type 1 := {R : Type} → T1 → Int → T8 → T5 → T2 → (Int → Bool → T1 → Int → T8 → T5 → T2 → Option R) → Option R
noncomputable def files_Files_free_18fa_T (N : Nat) (c0 : slices_Index__int_int_9a75_Ty) {R : Type} (x0 : T1) (x1 : Int) (x2 : T8) (x3 : T5) (x4 : T2) (k0 : Int → Bool → T1 → Int → T8 → T5 → T2 → Option R) : Option R :=
  c0 (4 : Nat) (4 : Nat) (0 : Int) x0 x1 x2 x3 x4
  (fun i3981 l3982 i3983 l3984 l3985 l3986 => k0 i3981 (decide ((0 : Int) ≤ i3981)) l3982 i3983 l3984 l3985 l3986)
noncomputable def files_Files_free_18fa (N : Nat) {R : Type} (x0 : T1) (x1 : Int) (x2 : T8) (x3 : T5) (x4 : T2) (k0 : Int → Bool → T1 → Int → T8 → T5 → T2 → Option R) : Option R := files_Files_free_18fa_T N (@slices_Index__int_int_9a75 N) x0 x1 x2 x3 x4 k0
abbrev files_Files_Twin_Ty : Type 1 := {R : Type} → Int → (Int → Option R) → Option R
noncomputable def files_Files_Twin_T (N : Nat) (c0 : files_Files_file_Ty) (c1 : files_Files_file_b447_Ty) (c2 : files_Files_free_18fa_Ty) {R : Type} (x0 : Int) (k0 : Int → Option R) : Option R :=
  c0 x0
  (k0 (65289 : Int))
noncomputable def files_Files_Twin (N : Nat) {R : Type} (x0 : Int) (k0 : Int → Option R) : Option R := files_Files_Twin_T N (@files_Files_file N) (@files_Files_file_b447 N) (@files_Files_free_18fa N) x0 k0
abbrev files_Files_Twin_b447_Ty : Type 1 := {R : Type} → Int → T1 → Int → T8 → T5 → T2 → (Int → T1 → Int → T8 → T5 → T2 → Option R) → Option R
noncomputable def files_Files_Twin_b447_T (N : Nat) (c0 : files_Files_file_Ty) (c1 : files_Files_file_b447_Ty) (c2 : files_Files_free_18fa_Ty) {R : Type} (x0 : Int) (x1 : T1) (x2 : Int) (x3 : T8) (x4 : T5) (x5 : T2) (k0 : Int → T1 → Int → T8 → T5 → T2 → Option R) : Option R :=
  c1 x0 x1 x2 x3 x4 x5
  (fun l4934 i4935 l4936 l4937 l4938 => k0 (65289 : Int) l4934 i4935 l4936 l4937 l4938)
  (fun i4939 l4940 i4941 l4942 l4943 l4944 => c2 l4940 i4941 l4942 l4943 l4944
   (fun i4945 b4946 l4947 i4948 l4949 l4950 l4951 => br (!b4946)
    (k0 (65304 : Int) l4947 i4948 l4949 l4950 l4951)
    (br (inB x0 (4 : Nat))
     (br (decide ((Int.toNat x0) < (4 : Nat)))
      (br (inB i4945 (4 : Nat))
       (br (decide ((Int.toNat i4945) < (4 : Nat)))
        (k0 (IntKind.wrap .u16 i4945) (List.set l4947 (Int.toNat i4945) (List.getD l4947 (Int.toNat x0) (0 : Int))) i4948 l4949 l4950 l4951)
        (none))
       (none))
      (none))
     (none))))
noncomputable def files_Files_Twin_b447 (N : Nat) {R : Type} (x0 : Int) (x1 : T1) (x2 : Int) (x3 : T8) (x4 : T5) (x5 : T2) (k0 : Int → T1 → Int → T8 → T5 → T2 → Option R) : Option R := files_Files_Twin_b447_T N (@files_Files_file N) (@files_Files_file_b447 N) (@files_Files_free_18fa N) x0 x1 x2 x3 x4 x5 k0
abbrev maps_Clone_map_tree_keytree_entry_tree_key_tree_entry_df6b_Ty : Type 1 := {R : Type} → T8 → (T8 → T8 → Option R) → Option R
noncomputable def maps_Clone_map_tree_keytree_entry_tree_key_tree_entry_df6b {R : Type} (x0 : T8) (k0 : T8 → T8 → Option R) : Option R := k0 x0 x0
abbrev tree_Tree_Copy_a28d_Ty : Type 1 := {R : Type} → Int → T8 → (Int → T8 → Int → T8 → Option R) → Option R
noncomputable def tree_Tree_Copy_a28d_T (N : Nat) (c0 : maps_Clone_map_tree_keytree_entry_tree_key_tree_entry_df6b_Ty) {R : Type} (x0 : Int) (x1 : T8) (k0 : Int → T8 → Int → T8 → Option R) : Option R :=
  c0 x1
  (fun l3994 l3995 => br (decide (x0 = x0))
   (k0 x0 l3994 x0 l3995)
   (none))
noncomputable def tree_Tree_Copy_a28d (N : Nat) {R : Type} (x0 : Int) (x1 : T8) (k0 : Int → T8 → Int → T8 → Option R) : Option R := tree_Tree_Copy_a28d_T N @maps_Clone_map_tree_keytree_entry_tree_key_tree_entry_df6b x0 x1 k0
abbrev tree_Tree_Make_c502_Ty : Type 1 := {R : Type} → ByteArray → Bool → Int → T8 → (Int → Int → Int → T8 → Option R) → Option R
noncomputable def tree_Tree_Make_c502_T (N : Nat) (c0 : tree_Tree_above_2de7_Ty) (c1 : tree_of_Ty) {R : Type} (x0 : ByteArray) (x1 : Bool) (x2 : Int) (x3 : T8) (k0 : Int → Int → Int → T8 → Option R) : Option R :=
  c1 x0
  (fun s4000 s4001 => c0 s4000 s4001 x2 x3
   (fun i4002 i4003 l4004 => br (!(decide (i4002 = (0 : Int))))
    (k0 (-1 : Int) i4002 i4003 l4004)
    (br ((Option.isSome (mfind (.pair .str .str) (.pair (.int .i64) .bool) l4004 (s4000 , s4001))) == (Option.isSome (mfind (.pair .str .str) (.pair (.int .i64) .bool) l4004 (s4000 , s4001))))
     (br (Option.isSome (mfind (.pair .str .str) (.pair (.int .i64) .bool) l4004 (s4000 , s4001)))
      (k0 (-1 : Int) (65297 : Int) i4003 l4004)
      (br x1
       (br (!(decide (s4000 = (bs []))))
        (k0 (-1 : Int) (65302 : Int) i4003 l4004)
        (br (decide ((8 : Int) ≤ (Nat.cast (List.length l4004) : Int)))
         (k0 (-1 : Int) (65308 : Int) i4003 l4004)
         (k0 (IntKind.wrap .i64 ((IntKind.wrap .i64 (i4003 + (1 : Int))) - (1 : Int))) (0 : Int) (IntKind.wrap .i64 (i4003 + (1 : Int))) (mput (.pair .str .str) (.pair (.int .i64) .bool) l4004 (s4000 , s4001) (i4003 , x1)))))
       (br (decide ((8 : Int) ≤ (Nat.cast (List.length l4004) : Int)))
        (k0 (-1 : Int) (65308 : Int) i4003 l4004)
        (k0 (IntKind.wrap .i64 ((IntKind.wrap .i64 (i4003 + (1 : Int))) - (1 : Int))) (0 : Int) (IntKind.wrap .i64 (i4003 + (1 : Int))) (mput (.pair .str .str) (.pair (.int .i64) .bool) l4004 (s4000 , s4001) (i4003 , x1))))))
     (none))))
noncomputable def tree_Tree_Make_c502 (N : Nat) {R : Type} (x0 : ByteArray) (x1 : Bool) (x2 : Int) (x3 : T8) (k0 : Int → Int → Int → T8 → Option R) : Option R := tree_Tree_Make_c502_T N (@tree_Tree_above_2de7 N) (@tree_of N) x0 x1 x2 x3 k0
abbrev files_Files_Mkdir_Ty : Type 1 := {R : Type} → ByteArray → (Int → Option R) → Option R
noncomputable def files_Files_Mkdir_T (N : Nat) (c0 : tree_Tree_Make_c502_Ty) {R : Type} (x0 : ByteArray) (k0 : Int → Option R) : Option R :=
  k0 (0 : Int)
noncomputable def files_Files_Mkdir (N : Nat) {R : Type} (x0 : ByteArray) (k0 : Int → Option R) : Option R := files_Files_Mkdir_T N (@tree_Tree_Make_c502 N) x0 k0
abbrev files_Files_Mkdir_f601_Ty : Type 1 := {R : Type} → ByteArray → T1 → Int → T8 → T5 → T2 → (Int → T1 → Int → T8 → T5 → T2 → Option R) → Option R
noncomputable def files_Files_Mkdir_f601_T (N : Nat) (c0 : tree_Tree_Make_c502_Ty) {R : Type} (x0 : ByteArray) (x1 : T1) (x2 : Int) (x3 : T8) (x4 : T5) (x5 : T2) (k0 : Int → T1 → Int → T8 → T5 → T2 → Option R) : Option R :=
  c0 x0 true x2 x3
  (fun i4384 i4385 i4386 l4387 => k0 i4385 x1 i4386 l4387 x4 x5)
noncomputable def files_Files_Mkdir_f601 (N : Nat) {R : Type} (x0 : ByteArray) (x1 : T1) (x2 : Int) (x3 : T8) (x4 : T5) (x5 : T2) (k0 : Int → T1 → Int → T8 → T5 → T2 → Option R) : Option R := files_Files_Mkdir_f601_T N (@tree_Tree_Make_c502 N) x0 x1 x2 x3 x4 x5 k0
abbrev files_Files_may_f601_Ty : Type 1 := {R : Type} → ByteArray → T1 → Int → T8 → T5 → T2 → (Bool → T1 → Int → T8 → T5 → T2 → Option R) → Option R
noncomputable def files_Files_may_f601_T (N : Nat) (c0 : tree_Tree_Make_c502_Ty) (c1 : tree_Tree_Copy_a28d_Ty) {R : Type} (x0 : ByteArray) (x1 : T1) (x2 : Int) (x3 : T8) (x4 : T5) (x5 : T2) (k0 : Bool → T1 → Int → T8 → T5 → T2 → Option R) : Option R :=
  c1 x2 x3
  (fun i3996 l3997 i3998 l3999 => c0 x0 false i3998 l3999
   (fun i4005 i4006 i4007 l4008 => k0 (!(decide (i4006 = (65282 : Int)))) x1 i3996 l3997 x4 x5))
noncomputable def files_Files_may_f601 (N : Nat) {R : Type} (x0 : ByteArray) (x1 : T1) (x2 : Int) (x3 : T8) (x4 : T5) (x5 : T2) (k0 : Bool → T1 → Int → T8 → T5 → T2 → Option R) : Option R := files_Files_may_f601_T N (@tree_Tree_Make_c502 N) (@tree_Tree_Copy_a28d N) x0 x1 x2 x3 x4 x5 k0
abbrev files_Files_Open_Ty : Type 1 := {R : Type} → ByteArray → (Int → Option R) → Option R
noncomputable def files_Files_Open_T (N : Nat) (c0 : tree_Tree_Make_c502_Ty) (c1 : files_Files_may_f601_Ty) (c2 : files_Files_free_18fa_Ty) (c3 : tree_Tree_Find_fb98_Ty) {R : Type} (x0 : ByteArray) (k0 : Int → Option R) : Option R :=
  k0 (0 : Int)
noncomputable def files_Files_Open (N : Nat) {R : Type} (x0 : ByteArray) (k0 : Int → Option R) : Option R := files_Files_Open_T N (@tree_Tree_Make_c502 N) (@files_Files_may_f601 N) (@files_Files_free_18fa N) (@tree_Tree_Find_fb98 N) x0 k0
abbrev files_Files_Open_f601_Ty : Type 1 := {R : Type} → ByteArray → T1 → Int → T8 → T5 → T2 → (Int → T1 → Int → T8 → T5 → T2 → Option R) → Option R
noncomputable def files_Files_Open_f601_T (N : Nat) (c0 : tree_Tree_Make_c502_Ty) (c1 : files_Files_may_f601_Ty) (c2 : files_Files_free_18fa_Ty) (c3 : tree_Tree_Find_fb98_Ty) {R : Type} (x0 : ByteArray) (x1 : T1) (x2 : Int) (x3 : T8) (x4 : T5) (x5 : T2) (k0 : Int → T1 → Int → T8 → T5 → T2 → Option R) : Option R :=
  c3 x0 x2 x3
  (fun i4019 b4020 i4021 i4022 l4023 => c2 x1 i4022 l4023 x4 x5
   (fun i4024 b4025 l4026 i4027 l4028 l4029 l4030 => br (decide (i4021 = (0 : Int)))
    (br b4020
     (k0 (65301 : Int) l4026 i4027 l4028 l4029 l4030)
     (br (decide (i4021 = (65300 : Int)))
      (k0 i4021 l4026 i4027 l4028 l4029 l4030)
      (br (!(decide (i4021 = (0 : Int))))
       (c1 x0 l4026 i4027 l4028 l4029 l4030
        (fun b4031 l4032 i4033 l4034 l4035 l4036 => br (!b4031)
         (k0 (65282 : Int) l4032 i4033 l4034 l4035 l4036)
         (br (!b4025)
          (k0 (65304 : Int) l4032 i4033 l4034 l4035 l4036)
          (br (!(decide (i4021 = (0 : Int))))
           (c0 x0 false i4033 l4034
            (fun i4037 i4038 i4039 l4040 => br (!(decide (i4038 = (0 : Int))))
             (k0 i4038 l4032 i4039 l4040 l4035 l4036)
             (br (((fits (0 : Nat) (List.length l4036) l4036) && (decide ((((List.length l4036) + (1 : Nat)) * (16 : Nat)) ≤ (70368744177664 : Nat)))) && true)
              (br (inB i4024 (4 : Nat))
               (br (decide ((Int.toNat i4024) < (4 : Nat)))
                (k0 (IntKind.wrap .u16 i4024) (List.set l4032 (Int.toNat i4024) (Nat.cast ((List.length l4036) + (1 : Nat)) : Int)) i4039 l4040 l4035 ((sub l4036 (0 : Nat) (List.length l4036)) ++ ((i4037 , (0 : Int)) :: ([] : List (((Sh.int IntKind.i64).pair (Sh.int IntKind.i64)).T)))))
                (none))
               (none))
              (none))))
           (br (((fits (0 : Nat) (List.length l4036) l4036) && (decide ((((List.length l4036) + (1 : Nat)) * (16 : Nat)) ≤ (70368744177664 : Nat)))) && true)
            (br (inB i4024 (4 : Nat))
             (br (decide ((Int.toNat i4024) < (4 : Nat)))
              (k0 (IntKind.wrap .u16 i4024) (List.set l4032 (Int.toNat i4024) (Nat.cast ((List.length l4036) + (1 : Nat)) : Int)) i4033 l4034 l4035 ((sub l4036 (0 : Nat) (List.length l4036)) ++ ((i4019 , (0 : Int)) :: ([] : List (((Sh.int IntKind.i64).pair (Sh.int IntKind.i64)).T)))))
              (none))
             (none))
            (none))))))
       (br (!b4025)
        (k0 (65304 : Int) l4026 i4027 l4028 l4029 l4030)
        (br (!(decide (i4021 = (0 : Int))))
         (c0 x0 false i4027 l4028
          (fun i4041 i4042 i4043 l4044 => br (!(decide (i4042 = (0 : Int))))
           (k0 i4042 l4026 i4043 l4044 l4029 l4030)
           (br (((fits (0 : Nat) (List.length l4030) l4030) && (decide ((((List.length l4030) + (1 : Nat)) * (16 : Nat)) ≤ (70368744177664 : Nat)))) && true)
            (br (inB i4024 (4 : Nat))
             (br (decide ((Int.toNat i4024) < (4 : Nat)))
              (k0 (IntKind.wrap .u16 i4024) (List.set l4026 (Int.toNat i4024) (Nat.cast ((List.length l4030) + (1 : Nat)) : Int)) i4043 l4044 l4029 ((sub l4030 (0 : Nat) (List.length l4030)) ++ ((i4041 , (0 : Int)) :: ([] : List (((Sh.int IntKind.i64).pair (Sh.int IntKind.i64)).T)))))
              (none))
             (none))
            (none))))
         (br (((fits (0 : Nat) (List.length l4030) l4030) && (decide ((((List.length l4030) + (1 : Nat)) * (16 : Nat)) ≤ (70368744177664 : Nat)))) && true)
          (br (inB i4024 (4 : Nat))
           (br (decide ((Int.toNat i4024) < (4 : Nat)))
            (k0 (IntKind.wrap .u16 i4024) (List.set l4026 (Int.toNat i4024) (Nat.cast ((List.length l4030) + (1 : Nat)) : Int)) i4027 l4028 l4029 ((sub l4030 (0 : Nat) (List.length l4030)) ++ ((i4019 , (0 : Int)) :: ([] : List (((Sh.int IntKind.i64).pair (Sh.int IntKind.i64)).T)))))
            (none))
           (none))
          (none)))))))
    (br (decide (i4021 = (65300 : Int)))
     (k0 i4021 l4026 i4027 l4028 l4029 l4030)
     (br (!(decide (i4021 = (0 : Int))))
      (c1 x0 l4026 i4027 l4028 l4029 l4030
       (fun b4045 l4046 i4047 l4048 l4049 l4050 => br (!b4045)
        (k0 (65282 : Int) l4046 i4047 l4048 l4049 l4050)
        (br (!b4025)
         (k0 (65304 : Int) l4046 i4047 l4048 l4049 l4050)
         (br (!(decide (i4021 = (0 : Int))))
          (c0 x0 false i4047 l4048
           (fun i4051 i4052 i4053 l4054 => br (!(decide (i4052 = (0 : Int))))
            (k0 i4052 l4046 i4053 l4054 l4049 l4050)
            (br (((fits (0 : Nat) (List.length l4050) l4050) && (decide ((((List.length l4050) + (1 : Nat)) * (16 : Nat)) ≤ (70368744177664 : Nat)))) && true)
             (br (inB i4024 (4 : Nat))
              (br (decide ((Int.toNat i4024) < (4 : Nat)))
               (k0 (IntKind.wrap .u16 i4024) (List.set l4046 (Int.toNat i4024) (Nat.cast ((List.length l4050) + (1 : Nat)) : Int)) i4053 l4054 l4049 ((sub l4050 (0 : Nat) (List.length l4050)) ++ ((i4051 , (0 : Int)) :: ([] : List (((Sh.int IntKind.i64).pair (Sh.int IntKind.i64)).T)))))
               (none))
              (none))
             (none))))
          (br (((fits (0 : Nat) (List.length l4050) l4050) && (decide ((((List.length l4050) + (1 : Nat)) * (16 : Nat)) ≤ (70368744177664 : Nat)))) && true)
           (br (inB i4024 (4 : Nat))
            (br (decide ((Int.toNat i4024) < (4 : Nat)))
             (k0 (IntKind.wrap .u16 i4024) (List.set l4046 (Int.toNat i4024) (Nat.cast ((List.length l4050) + (1 : Nat)) : Int)) i4047 l4048 l4049 ((sub l4050 (0 : Nat) (List.length l4050)) ++ ((i4019 , (0 : Int)) :: ([] : List (((Sh.int IntKind.i64).pair (Sh.int IntKind.i64)).T)))))
             (none))
            (none))
           (none))))))
      (br (!b4025)
       (k0 (65304 : Int) l4026 i4027 l4028 l4029 l4030)
       (br (!(decide (i4021 = (0 : Int))))
        (c0 x0 false i4027 l4028
         (fun i4055 i4056 i4057 l4058 => br (!(decide (i4056 = (0 : Int))))
          (k0 i4056 l4026 i4057 l4058 l4029 l4030)
          (br (((fits (0 : Nat) (List.length l4030) l4030) && (decide ((((List.length l4030) + (1 : Nat)) * (16 : Nat)) ≤ (70368744177664 : Nat)))) && true)
           (br (inB i4024 (4 : Nat))
            (br (decide ((Int.toNat i4024) < (4 : Nat)))
             (k0 (IntKind.wrap .u16 i4024) (List.set l4026 (Int.toNat i4024) (Nat.cast ((List.length l4030) + (1 : Nat)) : Int)) i4057 l4058 l4029 ((sub l4030 (0 : Nat) (List.length l4030)) ++ ((i4055 , (0 : Int)) :: ([] : List (((Sh.int IntKind.i64).pair (Sh.int IntKind.i64)).T)))))
             (none))
            (none))
           (none))))
        (br (((fits (0 : Nat) (List.length l4030) l4030) && (decide ((((List.length l4030) + (1 : Nat)) * (16 : Nat)) ≤ (70368744177664 : Nat)))) && true)
         (br (inB i4024 (4 : Nat))
          (br (decide ((Int.toNat i4024) < (4 : Nat)))
           (k0 (IntKind.wrap .u16 i4024) (List.set l4026 (Int.toNat i4024) (Nat.cast ((List.length l4030) + (1 : Nat)) : Int)) i4027 l4028 l4029 ((sub l4030 (0 : Nat) (List.length l4030)) ++ ((i4019 , (0 : Int)) :: ([] : List (((Sh.int IntKind.i64).pair (Sh.int IntKind.i64)).T)))))
           (none))
          (none))
         (none))))))))
noncomputable def files_Files_Open_f601 (N : Nat) {R : Type} (x0 : ByteArray) (x1 : T1) (x2 : Int) (x3 : T8) (x4 : T5) (x5 : T2) (k0 : Int → T1 → Int → T8 → T5 → T2 → Option R) : Option R := files_Files_Open_f601_T N (@tree_Tree_Make_c502 N) (@files_Files_may_f601 N) (@files_Files_free_18fa N) (@tree_Tree_Find_fb98 N) x0 x1 x2 x3 x4 x5 k0
abbrev tree_Tree_many_fb98_Ty : Type 1 := {R : Type} → ByteArray → Int → T8 → (Int → Int → T8 → Option R) → Option R
noncomputable def tree_Tree_many_fb98 {R : Type} (x0 : ByteArray) (x1 : Int) (x2 : T8) (k0 : Int → Int → T8 → Option R) : Option R := k0 (mcount x0 x2) x1 x2
abbrev tree_Tree_Drop_c502_Ty : Type 1 := {R : Type} → ByteArray → Bool → Int → T8 → (Int → Int → T8 → Option R) → Option R
noncomputable def tree_Tree_Drop_c502_T (N : Nat) (c0 : tree_of_Ty) (c1 : tree_Tree_many_fb98_Ty) (c2 : tree_Tree_get_fb98_Ty) {R : Type} (x0 : ByteArray) (x1 : Bool) (x2 : Int) (x3 : T8) (k0 : Int → Int → T8 → Option R) : Option R :=
  c2 x0 x2 x3
  (fun i4120 b4121 i4122 i4123 l4124 => br (!(decide (i4122 = (0 : Int))))
   (k0 i4122 i4123 l4124)
   (br (!x1)
    (br b4121
     (k0 (65301 : Int) i4123 l4124)
     (br x1
      (br (!b4121)
       (k0 (65300 : Int) i4123 l4124)
       (br x1
        (c1 x0 i4123 l4124
         (fun i4125 i4126 l4127 => br (decide ((0 : Int) < i4125))
          (k0 (65319 : Int) i4126 l4127)
          (c0 x0
           (fun s4128 s4129 => k0 (0 : Int) i4126 (mdel (.pair .str .str) (.pair (.int .i64) .bool) l4127 (s4128 , s4129))))))
        (c0 x0
         (fun s4130 s4131 => k0 (0 : Int) i4123 (mdel (.pair .str .str) (.pair (.int .i64) .bool) l4124 (s4130 , s4131))))))
      (br x1
       (c1 x0 i4123 l4124
        (fun i4132 i4133 l4134 => br (decide ((0 : Int) < i4132))
         (k0 (65319 : Int) i4133 l4134)
         (c0 x0
          (fun s4135 s4136 => k0 (0 : Int) i4133 (mdel (.pair .str .str) (.pair (.int .i64) .bool) l4134 (s4135 , s4136))))))
       (c0 x0
        (fun s4137 s4138 => k0 (0 : Int) i4123 (mdel (.pair .str .str) (.pair (.int .i64) .bool) l4124 (s4137 , s4138)))))))
    (br x1
     (br (!b4121)
      (k0 (65300 : Int) i4123 l4124)
      (br x1
       (c1 x0 i4123 l4124
        (fun i4139 i4140 l4141 => br (decide ((0 : Int) < i4139))
         (k0 (65319 : Int) i4140 l4141)
         (c0 x0
          (fun s4142 s4143 => k0 (0 : Int) i4140 (mdel (.pair .str .str) (.pair (.int .i64) .bool) l4141 (s4142 , s4143))))))
       (c0 x0
        (fun s4144 s4145 => k0 (0 : Int) i4123 (mdel (.pair .str .str) (.pair (.int .i64) .bool) l4124 (s4144 , s4145))))))
     (br x1
      (c1 x0 i4123 l4124
       (fun i4146 i4147 l4148 => br (decide ((0 : Int) < i4146))
        (k0 (65319 : Int) i4147 l4148)
        (c0 x0
         (fun s4149 s4150 => k0 (0 : Int) i4147 (mdel (.pair .str .str) (.pair (.int .i64) .bool) l4148 (s4149 , s4150))))))
      (c0 x0
       (fun s4151 s4152 => k0 (0 : Int) i4123 (mdel (.pair .str .str) (.pair (.int .i64) .bool) l4124 (s4151 , s4152))))))))
noncomputable def tree_Tree_Drop_c502 (N : Nat) {R : Type} (x0 : ByteArray) (x1 : Bool) (x2 : Int) (x3 : T8) (k0 : Int → Int → T8 → Option R) : Option R := tree_Tree_Drop_c502_T N (@tree_of N) @tree_Tree_many_fb98 (@tree_Tree_get_fb98 N) x0 x1 x2 x3 k0
abbrev files_Files_Unlink_Ty : Type 1 := {R : Type} → ByteArray → (Int → Option R) → Option R
noncomputable def files_Files_Unlink_T (N : Nat) (c0 : tree_Tree_Drop_c502_Ty) {R : Type} (x0 : ByteArray) (k0 : Int → Option R) : Option R :=
  k0 (0 : Int)
noncomputable def files_Files_Unlink (N : Nat) {R : Type} (x0 : ByteArray) (k0 : Int → Option R) : Option R := files_Files_Unlink_T N (@tree_Tree_Drop_c502 N) x0 k0
abbrev files_Files_Unlink_f601_Ty : Type 1 := {R : Type} → ByteArray → T1 → Int → T8 → T5 → T2 → (Int → T1 → Int → T8 → T5 → T2 → Option R) → Option R
noncomputable def files_Files_Unlink_f601_T (N : Nat) (c0 : tree_Tree_Drop_c502_Ty) {R : Type} (x0 : ByteArray) (x1 : T1) (x2 : Int) (x3 : T8) (x4 : T5) (x5 : T2) (k0 : Int → T1 → Int → T8 → T5 → T2 → Option R) : Option R :=
  c0 x0 false x2 x3
  (fun i4153 i4154 l4155 => k0 i4153 x1 i4154 l4155 x4 x5)
noncomputable def files_Files_Unlink_f601 (N : Nat) {R : Type} (x0 : ByteArray) (x1 : T1) (x2 : Int) (x3 : T8) (x4 : T5) (x5 : T2) (k0 : Int → T1 → Int → T8 → T5 → T2 → Option R) : Option R := files_Files_Unlink_f601_T N (@tree_Tree_Drop_c502 N) x0 x1 x2 x3 x4 x5 k0
abbrev files_Files_Rmdir_Ty : Type 1 := {R : Type} → ByteArray → (Int → Option R) → Option R
noncomputable def files_Files_Rmdir_T (N : Nat) (c0 : tree_Tree_Drop_c502_Ty) {R : Type} (x0 : ByteArray) (k0 : Int → Option R) : Option R :=
  k0 (0 : Int)
noncomputable def files_Files_Rmdir (N : Nat) {R : Type} (x0 : ByteArray) (k0 : Int → Option R) : Option R := files_Files_Rmdir_T N (@tree_Tree_Drop_c502 N) x0 k0
abbrev files_Files_Rmdir_f601_Ty : Type 1 := {R : Type} → ByteArray → T1 → Int → T8 → T5 → T2 → (Int → T1 → Int → T8 → T5 → T2 → Option R) → Option R
noncomputable def files_Files_Rmdir_f601_T (N : Nat) (c0 : tree_Tree_Drop_c502_Ty) {R : Type} (x0 : ByteArray) (x1 : T1) (x2 : Int) (x3 : T8) (x4 : T5) (x5 : T2) (k0 : Int → T1 → Int → T8 → T5 → T2 → Option R) : Option R :=
  c0 x0 true x2 x3
  (fun i4431 i4432 l4433 => k0 i4431 x1 i4432 l4433 x4 x5)
noncomputable def files_Files_Rmdir_f601 (N : Nat) {R : Type} (x0 : ByteArray) (x1 : T1) (x2 : Int) (x3 : T8) (x4 : T5) (x5 : T2) (k0 : Int → T1 → Int → T8 → T5 → T2 → Option R) : Option R := files_Files_Rmdir_f601_T N (@tree_Tree_Drop_c502 N) x0 x1 x2 x3 x4 x5 k0
abbrev tree_Tree_Move_f9be_Ty : Type 1 := {R : Type} → ByteArray → ByteArray → Int → T8 → (Int → Int → Int → T8 → Option R) → Option R
noncomputable def tree_Tree_Move_f9be_T (N : Nat) (c0 : tree_Tree_above_2de7_Ty) (c1 : tree_of_Ty) (c2 : tree_Tree_get_fb98_Ty) {R : Type} (x0 : ByteArray) (x1 : ByteArray) (x2 : Int) (x3 : T8) (k0 : Int → Int → Int → T8 → Option R) : Option R :=
  c2 x0 x2 x3
  (fun i4304 b4305 i4306 i4307 l4308 => br (decide (i4306 = (0 : Int)))
   (br b4305
    (c1 x1
     (fun s4309 s4310 => k0 (-1 : Int) (65301 : Int) i4307 l4308))
    (c1 x1
     (fun s4311 s4312 => br (decide (i4306 = (0 : Int)))
      (c0 s4311 s4312 i4307 l4308
       (fun i4313 i4314 l4315 => br (!(!(decide (i4313 = (0 : Int)))))
        (br (decide (x0 = x1))
         (k0 (-1 : Int) i4313 i4314 l4315)
         (br ((Option.isSome (mfind (.pair .str .str) (.pair (.int .i64) .bool) l4315 (s4311 , s4312))) == (Option.isSome (mfind (.pair .str .str) (.pair (.int .i64) .bool) l4315 (s4311 , s4312))))
          (br (Option.isSome (mfind (.pair .str .str) (.pair (.int .i64) .bool) l4315 (s4311 , s4312)))
           (br (Option.getD (mfind (.pair .str .str) (.pair (.int .i64) .bool) l4315 (s4311 , s4312)) ((0 : Int) , false)).2
            (k0 (-1 : Int) (65301 : Int) i4314 l4315)
            (c1 x0
             (fun s4316 s4317 => br (!(Option.isSome (mfind (.pair .str .str) (.pair (.int .i64) .bool) l4315 (s4311 , s4312))))
              (k0 (-1 : Int) (0 : Int) i4314 (mput (.pair .str .str) (.pair (.int .i64) .bool) (mdel (.pair .str .str) (.pair (.int .i64) .bool) l4315 (s4316 , s4317)) (s4311 , s4312) (i4304 , b4305)))
              (k0 (Option.getD (mfind (.pair .str .str) (.pair (.int .i64) .bool) l4315 (s4311 , s4312)) ((0 : Int) , false)).1 (0 : Int) i4314 (mput (.pair .str .str) (.pair (.int .i64) .bool) (mdel (.pair .str .str) (.pair (.int .i64) .bool) l4315 (s4316 , s4317)) (s4311 , s4312) (i4304 , b4305))))))
           (c1 x0
            (fun s4318 s4319 => br (!(Option.isSome (mfind (.pair .str .str) (.pair (.int .i64) .bool) l4315 (s4311 , s4312))))
             (k0 (-1 : Int) (0 : Int) i4314 (mput (.pair .str .str) (.pair (.int .i64) .bool) (mdel (.pair .str .str) (.pair (.int .i64) .bool) l4315 (s4318 , s4319)) (s4311 , s4312) (i4304 , b4305)))
             (k0 (Option.getD (mfind (.pair .str .str) (.pair (.int .i64) .bool) l4315 (s4311 , s4312)) ((0 : Int) , false)).1 (0 : Int) i4314 (mput (.pair .str .str) (.pair (.int .i64) .bool) (mdel (.pair .str .str) (.pair (.int .i64) .bool) l4315 (s4318 , s4319)) (s4311 , s4312) (i4304 , b4305))))))
          (none)))
        (k0 (-1 : Int) i4313 i4314 l4315)))
      (br (!(!(decide (i4306 = (0 : Int)))))
       (br (decide (x0 = x1))
        (k0 (-1 : Int) i4306 i4307 l4308)
        (br ((Option.isSome (mfind (.pair .str .str) (.pair (.int .i64) .bool) l4308 (s4311 , s4312))) == (Option.isSome (mfind (.pair .str .str) (.pair (.int .i64) .bool) l4308 (s4311 , s4312))))
         (br (Option.isSome (mfind (.pair .str .str) (.pair (.int .i64) .bool) l4308 (s4311 , s4312)))
          (br (Option.getD (mfind (.pair .str .str) (.pair (.int .i64) .bool) l4308 (s4311 , s4312)) ((0 : Int) , false)).2
           (k0 (-1 : Int) (65301 : Int) i4307 l4308)
           (c1 x0
            (fun s4320 s4321 => br (!(Option.isSome (mfind (.pair .str .str) (.pair (.int .i64) .bool) l4308 (s4311 , s4312))))
             (k0 (-1 : Int) (0 : Int) i4307 (mput (.pair .str .str) (.pair (.int .i64) .bool) (mdel (.pair .str .str) (.pair (.int .i64) .bool) l4308 (s4320 , s4321)) (s4311 , s4312) (i4304 , b4305)))
             (k0 (Option.getD (mfind (.pair .str .str) (.pair (.int .i64) .bool) l4308 (s4311 , s4312)) ((0 : Int) , false)).1 (0 : Int) i4307 (mput (.pair .str .str) (.pair (.int .i64) .bool) (mdel (.pair .str .str) (.pair (.int .i64) .bool) l4308 (s4320 , s4321)) (s4311 , s4312) (i4304 , b4305))))))
          (c1 x0
           (fun s4322 s4323 => br (!(Option.isSome (mfind (.pair .str .str) (.pair (.int .i64) .bool) l4308 (s4311 , s4312))))
            (k0 (-1 : Int) (0 : Int) i4307 (mput (.pair .str .str) (.pair (.int .i64) .bool) (mdel (.pair .str .str) (.pair (.int .i64) .bool) l4308 (s4322 , s4323)) (s4311 , s4312) (i4304 , b4305)))
            (k0 (Option.getD (mfind (.pair .str .str) (.pair (.int .i64) .bool) l4308 (s4311 , s4312)) ((0 : Int) , false)).1 (0 : Int) i4307 (mput (.pair .str .str) (.pair (.int .i64) .bool) (mdel (.pair .str .str) (.pair (.int .i64) .bool) l4308 (s4322 , s4323)) (s4311 , s4312) (i4304 , b4305))))))
         (none)))
       (k0 (-1 : Int) i4306 i4307 l4308)))))
   (c1 x1
    (fun s4324 s4325 => br (decide (i4306 = (0 : Int)))
     (c0 s4324 s4325 i4307 l4308
      (fun i4326 i4327 l4328 => br (!(!(decide (i4326 = (0 : Int)))))
       (br (decide (x0 = x1))
        (k0 (-1 : Int) i4326 i4327 l4328)
        (br ((Option.isSome (mfind (.pair .str .str) (.pair (.int .i64) .bool) l4328 (s4324 , s4325))) == (Option.isSome (mfind (.pair .str .str) (.pair (.int .i64) .bool) l4328 (s4324 , s4325))))
         (br (Option.isSome (mfind (.pair .str .str) (.pair (.int .i64) .bool) l4328 (s4324 , s4325)))
          (br (Option.getD (mfind (.pair .str .str) (.pair (.int .i64) .bool) l4328 (s4324 , s4325)) ((0 : Int) , false)).2
           (k0 (-1 : Int) (65301 : Int) i4327 l4328)
           (c1 x0
            (fun s4329 s4330 => br (!(Option.isSome (mfind (.pair .str .str) (.pair (.int .i64) .bool) l4328 (s4324 , s4325))))
             (k0 (-1 : Int) (0 : Int) i4327 (mput (.pair .str .str) (.pair (.int .i64) .bool) (mdel (.pair .str .str) (.pair (.int .i64) .bool) l4328 (s4329 , s4330)) (s4324 , s4325) (i4304 , b4305)))
             (k0 (Option.getD (mfind (.pair .str .str) (.pair (.int .i64) .bool) l4328 (s4324 , s4325)) ((0 : Int) , false)).1 (0 : Int) i4327 (mput (.pair .str .str) (.pair (.int .i64) .bool) (mdel (.pair .str .str) (.pair (.int .i64) .bool) l4328 (s4329 , s4330)) (s4324 , s4325) (i4304 , b4305))))))
          (c1 x0
           (fun s4331 s4332 => br (!(Option.isSome (mfind (.pair .str .str) (.pair (.int .i64) .bool) l4328 (s4324 , s4325))))
            (k0 (-1 : Int) (0 : Int) i4327 (mput (.pair .str .str) (.pair (.int .i64) .bool) (mdel (.pair .str .str) (.pair (.int .i64) .bool) l4328 (s4331 , s4332)) (s4324 , s4325) (i4304 , b4305)))
            (k0 (Option.getD (mfind (.pair .str .str) (.pair (.int .i64) .bool) l4328 (s4324 , s4325)) ((0 : Int) , false)).1 (0 : Int) i4327 (mput (.pair .str .str) (.pair (.int .i64) .bool) (mdel (.pair .str .str) (.pair (.int .i64) .bool) l4328 (s4331 , s4332)) (s4324 , s4325) (i4304 , b4305))))))
         (none)))
       (k0 (-1 : Int) i4326 i4327 l4328)))
     (br (!(!(decide (i4306 = (0 : Int)))))
      (br (decide (x0 = x1))
       (k0 (-1 : Int) i4306 i4307 l4308)
       (br ((Option.isSome (mfind (.pair .str .str) (.pair (.int .i64) .bool) l4308 (s4324 , s4325))) == (Option.isSome (mfind (.pair .str .str) (.pair (.int .i64) .bool) l4308 (s4324 , s4325))))
        (br (Option.isSome (mfind (.pair .str .str) (.pair (.int .i64) .bool) l4308 (s4324 , s4325)))
         (br (Option.getD (mfind (.pair .str .str) (.pair (.int .i64) .bool) l4308 (s4324 , s4325)) ((0 : Int) , false)).2
          (k0 (-1 : Int) (65301 : Int) i4307 l4308)
          (c1 x0
           (fun s4333 s4334 => br (!(Option.isSome (mfind (.pair .str .str) (.pair (.int .i64) .bool) l4308 (s4324 , s4325))))
            (k0 (-1 : Int) (0 : Int) i4307 (mput (.pair .str .str) (.pair (.int .i64) .bool) (mdel (.pair .str .str) (.pair (.int .i64) .bool) l4308 (s4333 , s4334)) (s4324 , s4325) (i4304 , b4305)))
            (k0 (Option.getD (mfind (.pair .str .str) (.pair (.int .i64) .bool) l4308 (s4324 , s4325)) ((0 : Int) , false)).1 (0 : Int) i4307 (mput (.pair .str .str) (.pair (.int .i64) .bool) (mdel (.pair .str .str) (.pair (.int .i64) .bool) l4308 (s4333 , s4334)) (s4324 , s4325) (i4304 , b4305))))))
         (c1 x0
          (fun s4335 s4336 => br (!(Option.isSome (mfind (.pair .str .str) (.pair (.int .i64) .bool) l4308 (s4324 , s4325))))
           (k0 (-1 : Int) (0 : Int) i4307 (mput (.pair .str .str) (.pair (.int .i64) .bool) (mdel (.pair .str .str) (.pair (.int .i64) .bool) l4308 (s4335 , s4336)) (s4324 , s4325) (i4304 , b4305)))
           (k0 (Option.getD (mfind (.pair .str .str) (.pair (.int .i64) .bool) l4308 (s4324 , s4325)) ((0 : Int) , false)).1 (0 : Int) i4307 (mput (.pair .str .str) (.pair (.int .i64) .bool) (mdel (.pair .str .str) (.pair (.int .i64) .bool) l4308 (s4335 , s4336)) (s4324 , s4325) (i4304 , b4305))))))
        (none)))
      (k0 (-1 : Int) i4306 i4307 l4308)))))
noncomputable def tree_Tree_Move_f9be (N : Nat) {R : Type} (x0 : ByteArray) (x1 : ByteArray) (x2 : Int) (x3 : T8) (k0 : Int → Int → Int → T8 → Option R) : Option R := tree_Tree_Move_f9be_T N (@tree_Tree_above_2de7 N) (@tree_of N) (@tree_Tree_get_fb98 N) x0 x1 x2 x3 k0
abbrev files_Files_Rename_Ty : Type 1 := {R : Type} → ByteArray → ByteArray → (Int → Option R) → Option R
noncomputable def files_Files_Rename_T (N : Nat) (c0 : tree_Tree_Move_f9be_Ty) {R : Type} (x0 : ByteArray) (x1 : ByteArray) (k0 : Int → Option R) : Option R :=
  k0 (0 : Int)
noncomputable def files_Files_Rename (N : Nat) {R : Type} (x0 : ByteArray) (x1 : ByteArray) (k0 : Int → Option R) : Option R := files_Files_Rename_T N (@tree_Tree_Move_f9be N) x0 x1 k0
abbrev files_Files_Rename_94d5_Ty : Type 1 := {R : Type} → ByteArray → ByteArray → T1 → Int → T8 → T5 → T2 → (Int → T1 → Int → T8 → T5 → T2 → Option R) → Option R
noncomputable def files_Files_Rename_94d5_T (N : Nat) (c0 : tree_Tree_Move_f9be_Ty) {R : Type} (x0 : ByteArray) (x1 : ByteArray) (x2 : T1) (x3 : Int) (x4 : T8) (x5 : T5) (x6 : T2) (k0 : Int → T1 → Int → T8 → T5 → T2 → Option R) : Option R :=
  c0 x0 x1 x3 x4
  (fun i4337 i4338 i4339 l4340 => k0 i4338 x2 i4339 l4340 x5 x6)
noncomputable def files_Files_Rename_94d5 (N : Nat) {R : Type} (x0 : ByteArray) (x1 : ByteArray) (x2 : T1) (x3 : Int) (x4 : T8) (x5 : T5) (x6 : T2) (k0 : Int → T1 → Int → T8 → T5 → T2 → Option R) : Option R := files_Files_Rename_94d5_T N (@tree_Tree_Move_f9be N) x0 x1 x2 x3 x4 x5 x6 k0
abbrev tree_Tree_Many_fb98_Ty : Type 1 := {R : Type} → ByteArray → Int → T8 → (Int → Int → T8 → Option R) → Option R
noncomputable def tree_Tree_Many_fb98_T (N : Nat) (c0 : tree_Tree_many_fb98_Ty) (c1 : tree_Tree_get_fb98_Ty) {R : Type} (x0 : ByteArray) (x1 : Int) (x2 : T8) (k0 : Int → Int → T8 → Option R) : Option R :=
  c1 x0 x1 x2
  (fun i4477 b4478 i4479 i4480 l4481 => br (!(decide (i4479 = (0 : Int))))
   (k0 i4479 i4480 l4481)
   (br (!b4478)
    (k0 (65300 : Int) i4480 l4481)
    (c0 x0 i4480 l4481
     (fun i4482 i4483 l4484 => k0 (IntKind.wrap .u16 i4482) i4483 l4484))))
noncomputable def tree_Tree_Many_fb98 (N : Nat) {R : Type} (x0 : ByteArray) (x1 : Int) (x2 : T8) (k0 : Int → Int → T8 → Option R) : Option R := tree_Tree_Many_fb98_T N @tree_Tree_many_fb98 (@tree_Tree_get_fb98 N) x0 x1 x2 k0
abbrev files_Files_List_Ty : Type 1 := {R : Type} → ByteArray → (Int → Option R) → Option R
noncomputable def files_Files_List_T (N : Nat) (c0 : tree_Tree_Many_fb98_Ty) {R : Type} (x0 : ByteArray) (k0 : Int → Option R) : Option R :=
  k0 (0 : Int)
noncomputable def files_Files_List (N : Nat) {R : Type} (x0 : ByteArray) (k0 : Int → Option R) : Option R := files_Files_List_T N (@tree_Tree_Many_fb98 N) x0 k0
abbrev files_Files_List_f601_Ty : Type 1 := {R : Type} → ByteArray → T1 → Int → T8 → T5 → T2 → (Int → T1 → Int → T8 → T5 → T2 → Option R) → Option R
noncomputable def files_Files_List_f601_T (N : Nat) (c0 : tree_Tree_Many_fb98_Ty) {R : Type} (x0 : ByteArray) (x1 : T1) (x2 : Int) (x3 : T8) (x4 : T5) (x5 : T2) (k0 : Int → T1 → Int → T8 → T5 → T2 → Option R) : Option R :=
  c0 x0 x2 x3
  (fun i4485 i4486 l4487 => k0 i4485 x1 i4486 l4487 x4 x5)
noncomputable def files_Files_List_f601 (N : Nat) {R : Type} (x0 : ByteArray) (x1 : T1) (x2 : Int) (x3 : T8) (x4 : T5) (x5 : T2) (k0 : Int → T1 → Int → T8 → T5 → T2 → Option R) : Option R := files_Files_List_f601_T N (@tree_Tree_Many_fb98 N) x0 x1 x2 x3 x4 x5 k0
abbrev run_machine_named_ffdd_Ty : Type 1 := {R : Type} → Int → Int → Int → T1 → T1 → Int → Int → Int → T2 → T3 → T1 → Int → T6 → T7 → T4 → (Int → T1 → T1 → Int → Int → Int → T2 → T3 → Int → T6 → T7 → T1 → T4 → Option R) → Option R
noncomputable def run_machine_named_ffdd_T (N : Nat) (c0 : files_Files_List_Ty) (c1 : files_Files_List_f601_Ty) (c2 : files_Files_Rmdir_Ty) (c3 : files_Files_Rmdir_f601_Ty) (c4 : files_Files_Mkdir_Ty) (c5 : files_Files_Mkdir_f601_Ty) (c6 : files_Files_Rename_Ty) (c7 : files_Files_Rename_94d5_Ty) (c8 : files_Files_Unlink_Ty) (c9 : files_Files_Unlink_f601_Ty) (c10 : run_machine_answer_6121_Ty) (c11 : run_machine_answer_9b59_Ty) (c12 : run_machine_answer_c21d_Ty) (c13 : run_machine_answer_684b_Ty) (c14 : files_Files_Open_Ty) (c15 : files_Files_Open_f601_Ty) (c16 : run_machine_name_3c75_Ty) (c17 : run_machine_name_61a1_Ty) {R : Type} (x0 : Int) (x1 : Int) (x2 : Int) (x3 : T1) (x4 : T1) (x5 : Int) (x6 : Int) (x7 : Int) (x8 : T2) (x9 : T3) (x10 : T1) (x11 : Int) (x12 : T6) (x13 : T7) (x14 : T4) (k0 : Int → T1 → T1 → Int → Int → Int → T2 → T3 → Int → T6 → T7 → T1 → T4 → Option R) : Option R :=
  br (decide (x0 = (27 : Int)))
  (c16 x1 x2 x3 x4 x5 x6 x7 x8 x9 x10 x11 x12 x13 x14
   (fun s1295 i1296 l1297 l1298 i1299 i1300 i1301 l1302 l1303 l1304 i1305 l1306 l1307 l1308 => c14 s1295
    (fun i1309 => c11 i1309 i1296 l1297 l1298 i1299 i1300 i1301 l1302 l1303 l1304 i1305 l1306 l1307 l1308
     (fun i1310 l1311 l1312 i1313 i1314 i1315 l1316 l1317 i1318 l1319 l1320 l1321 l1322 => k0 i1310 l1311 l1312 i1313 i1314 i1315 l1316 l1317 i1318 l1319 l1320 l1321 l1322))))
  (br (decide (x0 = (33 : Int)))
   (c16 x1 x2 x3 x4 x5 x6 x7 x8 x9 x10 x11 x12 x13 x14
    (fun s1323 i1324 l1325 l1326 i1327 i1328 i1329 l1330 l1331 l1332 i1333 l1334 l1335 l1336 => c8 s1323
     (fun i1337 => c11 i1337 i1324 l1325 l1326 i1327 i1328 i1329 l1330 l1331 l1332 i1333 l1334 l1335 l1336
      (fun i1338 l1339 l1340 i1341 i1342 i1343 l1344 l1345 i1346 l1347 l1348 l1349 l1350 => k0 i1338 l1339 l1340 i1341 i1342 i1343 l1344 l1345 i1346 l1347 l1348 l1349 l1350))))
   (br (decide (x0 = (34 : Int)))
    (c16 (IntKind.wrap .i64 (Int.tdiv x1 (8 : Int))) x2 x3 x4 x5 x6 x7 x8 x9 x10 x11 x12 x13 x14
     (fun s1351 i1352 l1353 l1354 i1355 i1356 i1357 l1358 l1359 l1360 i1361 l1362 l1363 l1364 => br (decide (x1 = x1))
      (br (decide ((Int.tmod x1 (8 : Int)) = (Int.tmod x1 (8 : Int))))
       (c16 (Int.tmod x1 (8 : Int)) i1352 l1353 l1354 i1355 i1356 i1357 l1358 l1359 l1360 i1361 l1362 l1363 l1364
        (fun s1365 i1366 l1367 l1368 i1369 i1370 i1371 l1372 l1373 l1374 i1375 l1376 l1377 l1378 => c6 s1351 s1365
         (fun i1379 => c11 i1379 i1366 l1367 l1368 i1369 i1370 i1371 l1372 l1373 l1374 i1375 l1376 l1377 l1378
          (fun i1380 l1381 l1382 i1383 i1384 i1385 l1386 l1387 i1388 l1389 l1390 l1391 l1392 => k0 i1380 l1381 l1382 i1383 i1384 i1385 l1386 l1387 i1388 l1389 l1390 l1391 l1392))))
       (none))
      (none)))
    (br (decide (x0 = (35 : Int)))
     (c16 x1 x2 x3 x4 x5 x6 x7 x8 x9 x10 x11 x12 x13 x14
      (fun s1393 i1394 l1395 l1396 i1397 i1398 i1399 l1400 l1401 l1402 i1403 l1404 l1405 l1406 => c4 s1393
       (fun i1407 => c11 i1407 i1394 l1395 l1396 i1397 i1398 i1399 l1400 l1401 l1402 i1403 l1404 l1405 l1406
        (fun i1408 l1409 l1410 i1411 i1412 i1413 l1414 l1415 i1416 l1417 l1418 l1419 l1420 => k0 i1408 l1409 l1410 i1411 i1412 i1413 l1414 l1415 i1416 l1417 l1418 l1419 l1420))))
     (br (decide (x0 = (36 : Int)))
      (c16 x1 x2 x3 x4 x5 x6 x7 x8 x9 x10 x11 x12 x13 x14
       (fun s1421 i1422 l1423 l1424 i1425 i1426 i1427 l1428 l1429 l1430 i1431 l1432 l1433 l1434 => c2 s1421
        (fun i1435 => c11 i1435 i1422 l1423 l1424 i1425 i1426 i1427 l1428 l1429 l1430 i1431 l1432 l1433 l1434
         (fun i1436 l1437 l1438 i1439 i1440 i1441 l1442 l1443 i1444 l1445 l1446 l1447 l1448 => k0 i1436 l1437 l1438 i1439 i1440 i1441 l1442 l1443 i1444 l1445 l1446 l1447 l1448))))
      (br (decide (x0 = (37 : Int)))
       (c16 x1 x2 x3 x4 x5 x6 x7 x8 x9 x10 x11 x12 x13 x14
        (fun s1449 i1450 l1451 l1452 i1453 i1454 i1455 l1456 l1457 l1458 i1459 l1460 l1461 l1462 => c0 s1449
         (fun i1463 => c11 i1463 i1450 l1451 l1452 i1453 i1454 i1455 l1456 l1457 l1458 i1459 l1460 l1461 l1462
          (fun i1464 l1465 l1466 i1467 i1468 i1469 l1470 l1471 i1472 l1473 l1474 l1475 l1476 => k0 i1464 l1465 l1466 i1467 i1468 i1469 l1470 l1471 i1472 l1473 l1474 l1475 l1476))))
       (k0 x2 x3 x4 x5 x6 x7 x8 x9 x11 x12 x13 x10 x14))))))
noncomputable def run_machine_named_ffdd (N : Nat) {R : Type} (x0 : Int) (x1 : Int) (x2 : Int) (x3 : T1) (x4 : T1) (x5 : Int) (x6 : Int) (x7 : Int) (x8 : T2) (x9 : T3) (x10 : T1) (x11 : Int) (x12 : T6) (x13 : T7) (x14 : T4) (k0 : Int → T1 → T1 → Int → Int → Int → T2 → T3 → Int → T6 → T7 → T1 → T4 → Option R) : Option R := run_machine_named_ffdd_T N (@files_Files_List N) (@files_Files_List_f601 N) (@files_Files_Rmdir N) (@files_Files_Rmdir_f601 N) (@files_Files_Mkdir N) (@files_Files_Mkdir_f601 N) (@files_Files_Rename N) (@files_Files_Rename_94d5 N) (@files_Files_Unlink N) (@files_Files_Unlink_f601 N) (@run_machine_answer_6121 N) (@run_machine_answer_9b59 N) (@run_machine_answer_c21d N) (@run_machine_answer_684b N) (@files_Files_Open N) (@files_Files_Open_f601 N) (@run_machine_name_3c75 N) (@run_machine_name_61a1 N) x0 x1 x2 x3 x4 x5 x6 x7 x8 x9 x10 x11 x12 x13 x14 k0
abbrev run_machine_named_e571_Ty : Type 1 := {R : Type} → Int → Int → Int → T1 → T1 → Int → Int → Int → T2 → T3 → T1 → T1 → Int → T8 → T5 → T2 → Int → T6 → T7 → T4 → (Int → T1 → T1 → Int → Int → Int → T2 → T3 → T1 → Int → T8 → T5 → Int → T6 → T7 → T1 → T4 → T2 → Option R) → Option R
noncomputable def run_machine_named_e571_T (N : Nat) (c0 : files_Files_List_Ty) (c1 : files_Files_List_f601_Ty) (c2 : files_Files_Rmdir_Ty) (c3 : files_Files_Rmdir_f601_Ty) (c4 : files_Files_Mkdir_Ty) (c5 : files_Files_Mkdir_f601_Ty) (c6 : files_Files_Rename_Ty) (c7 : files_Files_Rename_94d5_Ty) (c8 : files_Files_Unlink_Ty) (c9 : files_Files_Unlink_f601_Ty) (c10 : run_machine_answer_6121_Ty) (c11 : run_machine_answer_9b59_Ty) (c12 : run_machine_answer_c21d_Ty) (c13 : run_machine_answer_684b_Ty) (c14 : files_Files_Open_Ty) (c15 : files_Files_Open_f601_Ty) (c16 : run_machine_name_3c75_Ty) (c17 : run_machine_name_61a1_Ty) {R : Type} (x0 : Int) (x1 : Int) (x2 : Int) (x3 : T1) (x4 : T1) (x5 : Int) (x6 : Int) (x7 : Int) (x8 : T2) (x9 : T3) (x10 : T1) (x11 : T1) (x12 : Int) (x13 : T8) (x14 : T5) (x15 : T2) (x16 : Int) (x17 : T6) (x18 : T7) (x19 : T4) (k0 : Int → T1 → T1 → Int → Int → Int → T2 → T3 → T1 → Int → T8 → T5 → Int → T6 → T7 → T1 → T4 → T2 → Option R) : Option R :=
  br (decide (x0 = (27 : Int)))
  (c17 x1 x2 x3 x4 x5 x6 x7 x8 x9 x10 x11 x12 x13 x14 x15 x16 x17 x18 x19
   (fun s4512 i4513 l4514 l4515 i4516 i4517 i4518 l4519 l4520 l4521 l4522 i4523 l4524 l4525 l4526 i4527 l4528 l4529 l4530 => c15 s4512 l4522 i4523 l4524 l4525 l4526
    (fun i4531 l4532 i4533 l4534 l4535 l4536 => c13 i4531 i4513 l4514 l4515 i4516 i4517 i4518 l4519 l4520 l4521 l4532 i4533 l4534 l4535 l4536 i4527 l4528 l4529 l4530
     (fun i4537 l4538 l4539 i4540 i4541 i4542 l4543 l4544 l4545 i4546 l4547 l4548 l4549 i4550 l4551 l4552 l4553 l4554 => k0 i4537 l4538 l4539 i4540 i4541 i4542 l4543 l4544 l4545 i4546 l4547 l4548 i4550 l4551 l4552 l4553 l4554 l4549))))
  (br (decide (x0 = (33 : Int)))
   (c17 x1 x2 x3 x4 x5 x6 x7 x8 x9 x10 x11 x12 x13 x14 x15 x16 x17 x18 x19
    (fun s4555 i4556 l4557 l4558 i4559 i4560 i4561 l4562 l4563 l4564 l4565 i4566 l4567 l4568 l4569 i4570 l4571 l4572 l4573 => c9 s4555 l4565 i4566 l4567 l4568 l4569
     (fun i4574 l4575 i4576 l4577 l4578 l4579 => c13 i4574 i4556 l4557 l4558 i4559 i4560 i4561 l4562 l4563 l4564 l4575 i4576 l4577 l4578 l4579 i4570 l4571 l4572 l4573
      (fun i4580 l4581 l4582 i4583 i4584 i4585 l4586 l4587 l4588 i4589 l4590 l4591 l4592 i4593 l4594 l4595 l4596 l4597 => k0 i4580 l4581 l4582 i4583 i4584 i4585 l4586 l4587 l4588 i4589 l4590 l4591 i4593 l4594 l4595 l4596 l4597 l4592))))
   (br (decide (x0 = (34 : Int)))
    (c17 (IntKind.wrap .i64 (Int.tdiv x1 (8 : Int))) x2 x3 x4 x5 x6 x7 x8 x9 x10 x11 x12 x13 x14 x15 x16 x17 x18 x19
     (fun s4598 i4599 l4600 l4601 i4602 i4603 i4604 l4605 l4606 l4607 l4608 i4609 l4610 l4611 l4612 i4613 l4614 l4615 l4616 => br (decide (x1 = x1))
      (br (decide ((Int.tmod x1 (8 : Int)) = (Int.tmod x1 (8 : Int))))
       (c17 (Int.tmod x1 (8 : Int)) i4599 l4600 l4601 i4602 i4603 i4604 l4605 l4606 l4607 l4608 i4609 l4610 l4611 l4612 i4613 l4614 l4615 l4616
        (fun s4617 i4618 l4619 l4620 i4621 i4622 i4623 l4624 l4625 l4626 l4627 i4628 l4629 l4630 l4631 i4632 l4633 l4634 l4635 => c7 s4598 s4617 l4627 i4628 l4629 l4630 l4631
         (fun i4636 l4637 i4638 l4639 l4640 l4641 => c13 i4636 i4618 l4619 l4620 i4621 i4622 i4623 l4624 l4625 l4626 l4637 i4638 l4639 l4640 l4641 i4632 l4633 l4634 l4635
          (fun i4642 l4643 l4644 i4645 i4646 i4647 l4648 l4649 l4650 i4651 l4652 l4653 l4654 i4655 l4656 l4657 l4658 l4659 => k0 i4642 l4643 l4644 i4645 i4646 i4647 l4648 l4649 l4650 i4651 l4652 l4653 i4655 l4656 l4657 l4658 l4659 l4654))))
       (none))
      (none)))
    (br (decide (x0 = (35 : Int)))
     (c17 x1 x2 x3 x4 x5 x6 x7 x8 x9 x10 x11 x12 x13 x14 x15 x16 x17 x18 x19
      (fun s4660 i4661 l4662 l4663 i4664 i4665 i4666 l4667 l4668 l4669 l4670 i4671 l4672 l4673 l4674 i4675 l4676 l4677 l4678 => c5 s4660 l4670 i4671 l4672 l4673 l4674
       (fun i4679 l4680 i4681 l4682 l4683 l4684 => c13 i4679 i4661 l4662 l4663 i4664 i4665 i4666 l4667 l4668 l4669 l4680 i4681 l4682 l4683 l4684 i4675 l4676 l4677 l4678
        (fun i4685 l4686 l4687 i4688 i4689 i4690 l4691 l4692 l4693 i4694 l4695 l4696 l4697 i4698 l4699 l4700 l4701 l4702 => k0 i4685 l4686 l4687 i4688 i4689 i4690 l4691 l4692 l4693 i4694 l4695 l4696 i4698 l4699 l4700 l4701 l4702 l4697))))
     (br (decide (x0 = (36 : Int)))
      (c17 x1 x2 x3 x4 x5 x6 x7 x8 x9 x10 x11 x12 x13 x14 x15 x16 x17 x18 x19
       (fun s4703 i4704 l4705 l4706 i4707 i4708 i4709 l4710 l4711 l4712 l4713 i4714 l4715 l4716 l4717 i4718 l4719 l4720 l4721 => c3 s4703 l4713 i4714 l4715 l4716 l4717
        (fun i4722 l4723 i4724 l4725 l4726 l4727 => c13 i4722 i4704 l4705 l4706 i4707 i4708 i4709 l4710 l4711 l4712 l4723 i4724 l4725 l4726 l4727 i4718 l4719 l4720 l4721
         (fun i4728 l4729 l4730 i4731 i4732 i4733 l4734 l4735 l4736 i4737 l4738 l4739 l4740 i4741 l4742 l4743 l4744 l4745 => k0 i4728 l4729 l4730 i4731 i4732 i4733 l4734 l4735 l4736 i4737 l4738 l4739 i4741 l4742 l4743 l4744 l4745 l4740))))
      (br (decide (x0 = (37 : Int)))
       (c17 x1 x2 x3 x4 x5 x6 x7 x8 x9 x10 x11 x12 x13 x14 x15 x16 x17 x18 x19
        (fun s4746 i4747 l4748 l4749 i4750 i4751 i4752 l4753 l4754 l4755 l4756 i4757 l4758 l4759 l4760 i4761 l4762 l4763 l4764 => c1 s4746 l4756 i4757 l4758 l4759 l4760
         (fun i4765 l4766 i4767 l4768 l4769 l4770 => c13 i4765 i4747 l4748 l4749 i4750 i4751 i4752 l4753 l4754 l4755 l4766 i4767 l4768 l4769 l4770 i4761 l4762 l4763 l4764
          (fun i4771 l4772 l4773 i4774 i4775 i4776 l4777 l4778 l4779 i4780 l4781 l4782 l4783 i4784 l4785 l4786 l4787 l4788 => k0 i4771 l4772 l4773 i4774 i4775 i4776 l4777 l4778 l4779 i4780 l4781 l4782 i4784 l4785 l4786 l4787 l4788 l4783))))
       (k0 x2 x3 x4 x5 x6 x7 x8 x9 x11 x12 x13 x14 x16 x17 x18 x10 x19 x15))))))
noncomputable def run_machine_named_e571 (N : Nat) {R : Type} (x0 : Int) (x1 : Int) (x2 : Int) (x3 : T1) (x4 : T1) (x5 : Int) (x6 : Int) (x7 : Int) (x8 : T2) (x9 : T3) (x10 : T1) (x11 : T1) (x12 : Int) (x13 : T8) (x14 : T5) (x15 : T2) (x16 : Int) (x17 : T6) (x18 : T7) (x19 : T4) (k0 : Int → T1 → T1 → Int → Int → Int → T2 → T3 → T1 → Int → T8 → T5 → Int → T6 → T7 → T1 → T4 → T2 → Option R) : Option R := run_machine_named_e571_T N (@files_Files_List N) (@files_Files_List_f601 N) (@files_Files_Rmdir N) (@files_Files_Rmdir_f601 N) (@files_Files_Mkdir N) (@files_Files_Mkdir_f601 N) (@files_Files_Rename N) (@files_Files_Rename_94d5 N) (@files_Files_Unlink N) (@files_Files_Unlink_f601 N) (@run_machine_answer_6121 N) (@run_machine_answer_9b59 N) (@run_machine_answer_c21d N) (@run_machine_answer_684b N) (@files_Files_Open N) (@files_Files_Open_f601 N) (@run_machine_name_3c75 N) (@run_machine_name_61a1 N) x0 x1 x2 x3 x4 x5 x6 x7 x8 x9 x10 x11 x12 x13 x14 x15 x16 x17 x18 x19 k0
abbrev slices_Clone__byte_byte_Ty : Type 1 := {R : Type} → T1 → (T1 → Option R) → Option R
noncomputable def slices_Clone__byte_byte {R : Type} (x0 : T1) (k0 : T1 → Option R) : Option R := br ((decide (((0 : Nat) + (List.length x0)) * (1 : Nat) ≤ (70368744177664 : Nat))) && true) (k0 x0) (none)
abbrev files_Files_Read_Ty : Type 1 := {R : Type} → Int → Int → (Int → Option R) → Option R
noncomputable def files_Files_Read_T (N : Nat) (c0 : files_Files_file_Ty) (c1 : files_Files_file_b447_Ty) (c2 : slices_Clone__byte_byte_Ty) {R : Type} (x0 : Int) (x1 : Int) (k0 : Int → Option R) : Option R :=
  c0 x0
  (k0 (65289 : Int))
noncomputable def files_Files_Read (N : Nat) {R : Type} (x0 : Int) (x1 : Int) (k0 : Int → Option R) : Option R := files_Files_Read_T N (@files_Files_file N) (@files_Files_file_b447 N) @slices_Clone__byte_byte x0 x1 k0
abbrev files_Files_Read_0442_Ty : Type 1 := {R : Type} → Int → Int → T1 → Int → T8 → T5 → T2 → (Int → T1 → Int → T8 → T5 → T2 → T1 → Option R) → Option R
noncomputable def files_Files_Read_0442_T (N : Nat) (c0 : files_Files_file_Ty) (c1 : files_Files_file_b447_Ty) (c2 : slices_Clone__byte_byte_Ty) {R : Type} (x0 : Int) (x1 : Int) (x2 : T1) (x3 : Int) (x4 : T8) (x5 : T5) (x6 : T2) (k0 : Int → T1 → Int → T8 → T5 → T2 → T1 → Option R) : Option R :=
  c1 x0 x2 x3 x4 x5 x6
  (fun l5194 i5195 l5196 l5197 l5198 => k0 (65289 : Int) l5194 i5195 l5196 l5197 l5198 ([] : List ((Sh.int IntKind.u8).T)))
  (fun i5199 l5200 i5201 l5202 l5203 l5204 => br (decide ((Int.toNat i5199) < (List.length l5204)))
   (br (decide ((Int.toNat i5199) < (List.length l5204)))
    (br (leB (if ((Nat.cast (List.length (Option.getD (mfind (.int .i64) (.isl (.int .u8)) l5203 (List.getD l5204 (Int.toNat i5199) ((0 : Int) , (0 : Int))).1) (Sh.zero (.isl (.int .u8))))) : Int) < (List.getD l5204 (Int.toNat i5199) ((0 : Int) , (0 : Int))).2) then (Nat.cast (List.length (Option.getD (mfind (.int .i64) (.isl (.int .u8)) l5203 (List.getD l5204 (Int.toNat i5199) ((0 : Int) , (0 : Int))).1) (Sh.zero (.isl (.int .u8))))) : Int) else (List.getD l5204 (Int.toNat i5199) ((0 : Int) , (0 : Int))).2) (List.length (Option.getD (mfind (.int .i64) (.isl (.int .u8)) l5203 (List.getD l5204 (Int.toNat i5199) ((0 : Int) , (0 : Int))).1) (Sh.zero (.isl (.int .u8))))))
     (br (leB (if ((Nat.cast (List.length (sub (Option.getD (mfind (.int .i64) (.isl (.int .u8)) l5203 (List.getD l5204 (Int.toNat i5199) ((0 : Int) , (0 : Int))).1) (Sh.zero (.isl (.int .u8)))) (Int.toNat (if ((Nat.cast (List.length (Option.getD (mfind (.int .i64) (.isl (.int .u8)) l5203 (List.getD l5204 (Int.toNat i5199) ((0 : Int) , (0 : Int))).1) (Sh.zero (.isl (.int .u8))))) : Int) < (List.getD l5204 (Int.toNat i5199) ((0 : Int) , (0 : Int))).2) then (Nat.cast (List.length (Option.getD (mfind (.int .i64) (.isl (.int .u8)) l5203 (List.getD l5204 (Int.toNat i5199) ((0 : Int) , (0 : Int))).1) (Sh.zero (.isl (.int .u8))))) : Int) else (List.getD l5204 (Int.toNat i5199) ((0 : Int) , (0 : Int))).2)) ((List.length (Option.getD (mfind (.int .i64) (.isl (.int .u8)) l5203 (List.getD l5204 (Int.toNat i5199) ((0 : Int) , (0 : Int))).1) (Sh.zero (.isl (.int .u8))))) - (Int.toNat (if ((Nat.cast (List.length (Option.getD (mfind (.int .i64) (.isl (.int .u8)) l5203 (List.getD l5204 (Int.toNat i5199) ((0 : Int) , (0 : Int))).1) (Sh.zero (.isl (.int .u8))))) : Int) < (List.getD l5204 (Int.toNat i5199) ((0 : Int) , (0 : Int))).2) then (Nat.cast (List.length (Option.getD (mfind (.int .i64) (.isl (.int .u8)) l5203 (List.getD l5204 (Int.toNat i5199) ((0 : Int) , (0 : Int))).1) (Sh.zero (.isl (.int .u8))))) : Int) else (List.getD l5204 (Int.toNat i5199) ((0 : Int) , (0 : Int))).2))))) : Int) < (IntKind.wrap .i64 x1)) then (Nat.cast (List.length (sub (Option.getD (mfind (.int .i64) (.isl (.int .u8)) l5203 (List.getD l5204 (Int.toNat i5199) ((0 : Int) , (0 : Int))).1) (Sh.zero (.isl (.int .u8)))) (Int.toNat (if ((Nat.cast (List.length (Option.getD (mfind (.int .i64) (.isl (.int .u8)) l5203 (List.getD l5204 (Int.toNat i5199) ((0 : Int) , (0 : Int))).1) (Sh.zero (.isl (.int .u8))))) : Int) < (List.getD l5204 (Int.toNat i5199) ((0 : Int) , (0 : Int))).2) then (Nat.cast (List.length (Option.getD (mfind (.int .i64) (.isl (.int .u8)) l5203 (List.getD l5204 (Int.toNat i5199) ((0 : Int) , (0 : Int))).1) (Sh.zero (.isl (.int .u8))))) : Int) else (List.getD l5204 (Int.toNat i5199) ((0 : Int) , (0 : Int))).2)) ((List.length (Option.getD (mfind (.int .i64) (.isl (.int .u8)) l5203 (List.getD l5204 (Int.toNat i5199) ((0 : Int) , (0 : Int))).1) (Sh.zero (.isl (.int .u8))))) - (Int.toNat (if ((Nat.cast (List.length (Option.getD (mfind (.int .i64) (.isl (.int .u8)) l5203 (List.getD l5204 (Int.toNat i5199) ((0 : Int) , (0 : Int))).1) (Sh.zero (.isl (.int .u8))))) : Int) < (List.getD l5204 (Int.toNat i5199) ((0 : Int) , (0 : Int))).2) then (Nat.cast (List.length (Option.getD (mfind (.int .i64) (.isl (.int .u8)) l5203 (List.getD l5204 (Int.toNat i5199) ((0 : Int) , (0 : Int))).1) (Sh.zero (.isl (.int .u8))))) : Int) else (List.getD l5204 (Int.toNat i5199) ((0 : Int) , (0 : Int))).2))))) : Int) else (IntKind.wrap .i64 x1)) (List.length (sub (Option.getD (mfind (.int .i64) (.isl (.int .u8)) l5203 (List.getD l5204 (Int.toNat i5199) ((0 : Int) , (0 : Int))).1) (Sh.zero (.isl (.int .u8)))) (Int.toNat (if ((Nat.cast (List.length (Option.getD (mfind (.int .i64) (.isl (.int .u8)) l5203 (List.getD l5204 (Int.toNat i5199) ((0 : Int) , (0 : Int))).1) (Sh.zero (.isl (.int .u8))))) : Int) < (List.getD l5204 (Int.toNat i5199) ((0 : Int) , (0 : Int))).2) then (Nat.cast (List.length (Option.getD (mfind (.int .i64) (.isl (.int .u8)) l5203 (List.getD l5204 (Int.toNat i5199) ((0 : Int) , (0 : Int))).1) (Sh.zero (.isl (.int .u8))))) : Int) else (List.getD l5204 (Int.toNat i5199) ((0 : Int) , (0 : Int))).2)) ((List.length (Option.getD (mfind (.int .i64) (.isl (.int .u8)) l5203 (List.getD l5204 (Int.toNat i5199) ((0 : Int) , (0 : Int))).1) (Sh.zero (.isl (.int .u8))))) - (Int.toNat (if ((Nat.cast (List.length (Option.getD (mfind (.int .i64) (.isl (.int .u8)) l5203 (List.getD l5204 (Int.toNat i5199) ((0 : Int) , (0 : Int))).1) (Sh.zero (.isl (.int .u8))))) : Int) < (List.getD l5204 (Int.toNat i5199) ((0 : Int) , (0 : Int))).2) then (Nat.cast (List.length (Option.getD (mfind (.int .i64) (.isl (.int .u8)) l5203 (List.getD l5204 (Int.toNat i5199) ((0 : Int) , (0 : Int))).1) (Sh.zero (.isl (.int .u8))))) : Int) else (List.getD l5204 (Int.toNat i5199) ((0 : Int) , (0 : Int))).2))))))
      (c2 (sub (sub (Option.getD (mfind (.int .i64) (.isl (.int .u8)) l5203 (List.getD l5204 (Int.toNat i5199) ((0 : Int) , (0 : Int))).1) (Sh.zero (.isl (.int .u8)))) (Int.toNat (if ((Nat.cast (List.length (Option.getD (mfind (.int .i64) (.isl (.int .u8)) l5203 (List.getD l5204 (Int.toNat i5199) ((0 : Int) , (0 : Int))).1) (Sh.zero (.isl (.int .u8))))) : Int) < (List.getD l5204 (Int.toNat i5199) ((0 : Int) , (0 : Int))).2) then (Nat.cast (List.length (Option.getD (mfind (.int .i64) (.isl (.int .u8)) l5203 (List.getD l5204 (Int.toNat i5199) ((0 : Int) , (0 : Int))).1) (Sh.zero (.isl (.int .u8))))) : Int) else (List.getD l5204 (Int.toNat i5199) ((0 : Int) , (0 : Int))).2)) ((List.length (Option.getD (mfind (.int .i64) (.isl (.int .u8)) l5203 (List.getD l5204 (Int.toNat i5199) ((0 : Int) , (0 : Int))).1) (Sh.zero (.isl (.int .u8))))) - (Int.toNat (if ((Nat.cast (List.length (Option.getD (mfind (.int .i64) (.isl (.int .u8)) l5203 (List.getD l5204 (Int.toNat i5199) ((0 : Int) , (0 : Int))).1) (Sh.zero (.isl (.int .u8))))) : Int) < (List.getD l5204 (Int.toNat i5199) ((0 : Int) , (0 : Int))).2) then (Nat.cast (List.length (Option.getD (mfind (.int .i64) (.isl (.int .u8)) l5203 (List.getD l5204 (Int.toNat i5199) ((0 : Int) , (0 : Int))).1) (Sh.zero (.isl (.int .u8))))) : Int) else (List.getD l5204 (Int.toNat i5199) ((0 : Int) , (0 : Int))).2)))) (0 : Nat) ((Int.toNat (if ((Nat.cast (List.length (sub (Option.getD (mfind (.int .i64) (.isl (.int .u8)) l5203 (List.getD l5204 (Int.toNat i5199) ((0 : Int) , (0 : Int))).1) (Sh.zero (.isl (.int .u8)))) (Int.toNat (if ((Nat.cast (List.length (Option.getD (mfind (.int .i64) (.isl (.int .u8)) l5203 (List.getD l5204 (Int.toNat i5199) ((0 : Int) , (0 : Int))).1) (Sh.zero (.isl (.int .u8))))) : Int) < (List.getD l5204 (Int.toNat i5199) ((0 : Int) , (0 : Int))).2) then (Nat.cast (List.length (Option.getD (mfind (.int .i64) (.isl (.int .u8)) l5203 (List.getD l5204 (Int.toNat i5199) ((0 : Int) , (0 : Int))).1) (Sh.zero (.isl (.int .u8))))) : Int) else (List.getD l5204 (Int.toNat i5199) ((0 : Int) , (0 : Int))).2)) ((List.length (Option.getD (mfind (.int .i64) (.isl (.int .u8)) l5203 (List.getD l5204 (Int.toNat i5199) ((0 : Int) , (0 : Int))).1) (Sh.zero (.isl (.int .u8))))) - (Int.toNat (if ((Nat.cast (List.length (Option.getD (mfind (.int .i64) (.isl (.int .u8)) l5203 (List.getD l5204 (Int.toNat i5199) ((0 : Int) , (0 : Int))).1) (Sh.zero (.isl (.int .u8))))) : Int) < (List.getD l5204 (Int.toNat i5199) ((0 : Int) , (0 : Int))).2) then (Nat.cast (List.length (Option.getD (mfind (.int .i64) (.isl (.int .u8)) l5203 (List.getD l5204 (Int.toNat i5199) ((0 : Int) , (0 : Int))).1) (Sh.zero (.isl (.int .u8))))) : Int) else (List.getD l5204 (Int.toNat i5199) ((0 : Int) , (0 : Int))).2))))) : Int) < (IntKind.wrap .i64 x1)) then (Nat.cast (List.length (sub (Option.getD (mfind (.int .i64) (.isl (.int .u8)) l5203 (List.getD l5204 (Int.toNat i5199) ((0 : Int) , (0 : Int))).1) (Sh.zero (.isl (.int .u8)))) (Int.toNat (if ((Nat.cast (List.length (Option.getD (mfind (.int .i64) (.isl (.int .u8)) l5203 (List.getD l5204 (Int.toNat i5199) ((0 : Int) , (0 : Int))).1) (Sh.zero (.isl (.int .u8))))) : Int) < (List.getD l5204 (Int.toNat i5199) ((0 : Int) , (0 : Int))).2) then (Nat.cast (List.length (Option.getD (mfind (.int .i64) (.isl (.int .u8)) l5203 (List.getD l5204 (Int.toNat i5199) ((0 : Int) , (0 : Int))).1) (Sh.zero (.isl (.int .u8))))) : Int) else (List.getD l5204 (Int.toNat i5199) ((0 : Int) , (0 : Int))).2)) ((List.length (Option.getD (mfind (.int .i64) (.isl (.int .u8)) l5203 (List.getD l5204 (Int.toNat i5199) ((0 : Int) , (0 : Int))).1) (Sh.zero (.isl (.int .u8))))) - (Int.toNat (if ((Nat.cast (List.length (Option.getD (mfind (.int .i64) (.isl (.int .u8)) l5203 (List.getD l5204 (Int.toNat i5199) ((0 : Int) , (0 : Int))).1) (Sh.zero (.isl (.int .u8))))) : Int) < (List.getD l5204 (Int.toNat i5199) ((0 : Int) , (0 : Int))).2) then (Nat.cast (List.length (Option.getD (mfind (.int .i64) (.isl (.int .u8)) l5203 (List.getD l5204 (Int.toNat i5199) ((0 : Int) , (0 : Int))).1) (Sh.zero (.isl (.int .u8))))) : Int) else (List.getD l5204 (Int.toNat i5199) ((0 : Int) , (0 : Int))).2))))) : Int) else (IntKind.wrap .i64 x1))) - (0 : Nat)))
       (fun l5205 => br (decide ((Int.toNat i5199) < (List.length l5204)))
        (br (decide ((Int.toNat i5199) < (List.length l5204)))
         (k0 (IntKind.wrap .u16 (Nat.cast (List.length l5205) : Int)) l5200 i5201 l5202 l5203 (List.set l5204 (Int.toNat i5199) ((List.getD l5204 (Int.toNat i5199) ((0 : Int) , (0 : Int))).1 , (IntKind.wrap .i64 ((List.getD l5204 (Int.toNat i5199) ((0 : Int) , (0 : Int))).2 + (Nat.cast (List.length l5205) : Int))))) l5205)
         (none))
        (none)))
      (none))
     (none))
    (none))
   (none))
noncomputable def files_Files_Read_0442 (N : Nat) {R : Type} (x0 : Int) (x1 : Int) (x2 : T1) (x3 : Int) (x4 : T8) (x5 : T5) (x6 : T2) (k0 : Int → T1 → Int → T8 → T5 → T2 → T1 → Option R) : Option R := files_Files_Read_0442_T N (@files_Files_file N) (@files_Files_file_b447 N) @slices_Clone__byte_byte x0 x1 x2 x3 x4 x5 x6 k0
abbrev run_machine_read_9c77_Ty : Type 1 := {R : Type} → Int → T1 → T1 → Int → Int → Int → T2 → T3 → T1 → Int → T6 → T7 → T4 → (Int → T1 → T1 → Int → Int → Int → T2 → T3 → Int → T6 → T7 → T1 → T4 → Option R) → Option R
noncomputable def run_machine_read_9c77_T (N : Nat) (c0 : run_machine_answer_6121_Ty) (c1 : run_machine_answer_9b59_Ty) (c2 : run_machine_answer_c21d_Ty) (c3 : run_machine_answer_684b_Ty) (c4 : files_Files_Read_Ty) (c5 : files_Files_Read_0442_Ty) (c6 : run_machine_pop_9c77_Ty) (c7 : run_machine_pop_6326_Ty) (c8 : run_machine_end_5a2b_Ty) (c9 : run_machine_end_3f90_Ty) {R : Type} (x0 : Int) (x1 : T1) (x2 : T1) (x3 : Int) (x4 : Int) (x5 : Int) (x6 : T2) (x7 : T3) (x8 : T1) (x9 : Int) (x10 : T6) (x11 : T7) (x12 : T4) (k0 : Int → T1 → T1 → Int → Int → Int → T2 → T3 → Int → T6 → T7 → T1 → T4 → Option R) : Option R :=
  c6 x0 x1 x2 x3 x4 x5 x6 x7 x8 x9 x10 x11 x12
  (fun i1658 i1659 l1660 l1661 i1662 i1663 i1664 l1665 l1666 i1667 l1668 l1669 l1670 l1671 => c6 i1659 l1660 l1661 i1662 i1663 i1664 l1665 l1666 l1671 i1667 l1668 l1669 l1670
   (fun i1672 i1673 l1674 l1675 i1676 i1677 i1678 l1679 l1680 i1681 l1682 l1683 l1684 l1685 => c6 i1673 l1674 l1675 i1676 i1677 i1678 l1679 l1680 l1685 i1681 l1682 l1683 l1684
    (fun i1686 i1687 l1688 l1689 i1690 i1691 i1692 l1693 l1694 i1695 l1696 l1697 l1698 l1699 => c4 i1686 i1658
     (fun i1700 => c1 i1700 i1687 l1688 l1689 i1690 i1691 i1692 l1693 l1694 l1699 i1695 l1696 l1697 l1698
      (fun i1701 l1702 l1703 i1704 i1705 i1706 l1707 l1708 i1709 l1710 l1711 l1712 l1713 => k0 i1701 l1702 l1703 i1704 i1705 i1706 l1707 l1708 i1709 l1710 l1711 l1712 l1713)))))
noncomputable def run_machine_read_9c77 (N : Nat) {R : Type} (x0 : Int) (x1 : T1) (x2 : T1) (x3 : Int) (x4 : Int) (x5 : Int) (x6 : T2) (x7 : T3) (x8 : T1) (x9 : Int) (x10 : T6) (x11 : T7) (x12 : T4) (k0 : Int → T1 → T1 → Int → Int → Int → T2 → T3 → Int → T6 → T7 → T1 → T4 → Option R) : Option R := run_machine_read_9c77_T N (@run_machine_answer_6121 N) (@run_machine_answer_9b59 N) (@run_machine_answer_c21d N) (@run_machine_answer_684b N) (@files_Files_Read N) (@files_Files_Read_0442 N) (@run_machine_pop_9c77 N) (@run_machine_pop_6326 N) (@run_machine_end_5a2b N) (@run_machine_end_3f90 N) x0 x1 x2 x3 x4 x5 x6 x7 x8 x9 x10 x11 x12 k0
abbrev run_machine_read_6326_Ty : Type 1 := {R : Type} → Int → T1 → T1 → Int → Int → Int → T2 → T3 → T1 → T1 → Int → T8 → T5 → T2 → Int → T6 → T7 → T4 → (Int → T1 → T1 → Int → Int → Int → T2 → T3 → T1 → Int → T8 → T5 → T2 → Int → T6 → T7 → T1 → T4 → Option R) → Option R
noncomputable def run_machine_read_6326_T (N : Nat) (c0 : run_machine_answer_6121_Ty) (c1 : run_machine_answer_9b59_Ty) (c2 : run_machine_answer_c21d_Ty) (c3 : run_machine_answer_684b_Ty) (c4 : files_Files_Read_Ty) (c5 : files_Files_Read_0442_Ty) (c6 : run_machine_pop_9c77_Ty) (c7 : run_machine_pop_6326_Ty) (c8 : run_machine_end_5a2b_Ty) (c9 : run_machine_end_3f90_Ty) {R : Type} (x0 : Int) (x1 : T1) (x2 : T1) (x3 : Int) (x4 : Int) (x5 : Int) (x6 : T2) (x7 : T3) (x8 : T1) (x9 : T1) (x10 : Int) (x11 : T8) (x12 : T5) (x13 : T2) (x14 : Int) (x15 : T6) (x16 : T7) (x17 : T4) (k0 : Int → T1 → T1 → Int → Int → Int → T2 → T3 → T1 → Int → T8 → T5 → T2 → Int → T6 → T7 → T1 → T4 → Option R) : Option R :=
  c7 x0 x1 x2 x3 x4 x5 x6 x7 x8 x9 x10 x11 x12 x13 x14 x15 x16 x17
  (fun i5249 i5250 l5251 l5252 i5253 i5254 i5255 l5256 l5257 l5258 i5259 l5260 l5261 l5262 i5263 l5264 l5265 l5266 l5267 => c7 i5250 l5251 l5252 i5253 i5254 i5255 l5256 l5257 l5267 l5258 i5259 l5260 l5261 l5262 i5263 l5264 l5265 l5266
   (fun i5268 i5269 l5270 l5271 i5272 i5273 i5274 l5275 l5276 l5277 i5278 l5279 l5280 l5281 i5282 l5283 l5284 l5285 l5286 => c7 i5269 l5270 l5271 i5272 i5273 i5274 l5275 l5276 l5286 l5277 i5278 l5279 l5280 l5281 i5282 l5283 l5284 l5285
    (fun i5287 i5288 l5289 l5290 i5291 i5292 i5293 l5294 l5295 l5296 i5297 l5298 l5299 l5300 i5301 l5302 l5303 l5304 l5305 => c5 i5287 i5249 l5296 i5297 l5298 l5299 l5300
     (fun i5306 l5307 i5308 l5309 l5310 l5311 l5312 => br (decide ((0 : Int) < (Nat.cast (List.length l5312) : Int)))
      (br (decide ((32 : Int) < (IntKind.wrap .i64 ((IntKind.wrap .i64 i5268) + (Nat.cast (List.length l5312) : Int)))))
       (c9 (3 : Int) (0 : Int) i5288 l5289 l5290 i5291 i5292 i5293 l5294 l5295 l5305 l5307 i5308 l5309 l5310 l5311 i5301 l5302 l5303 l5304
        (fun i5313 l5314 l5315 i5316 i5317 i5318 l5319 l5320 l5321 l5322 i5323 l5324 l5325 l5326 i5327 l5328 l5329 l5330 => k0 i5313 l5314 l5315 i5316 i5317 i5318 l5319 l5320 l5322 i5323 l5324 l5325 l5326 i5327 l5328 l5329 l5321 l5330))
       (br (decide ((0 : Int) < (Nat.cast (List.length l5312) : Int)))
        (br (leB i5268 (32 : Nat))
         (br (fits (0 : Nat) (List.length l5312) l5312)
          (br (fits (Int.toNat i5268) ((32 : Nat) - (Int.toNat i5268)) l5290)
           (c3 i5306 i5288 l5289 ((List.take (Int.toNat i5268) l5290) ++ ((List.take (Min.min (List.length (sub l5312 (0 : Nat) (List.length l5312))) ((32 : Nat) - (Int.toNat i5268))) (sub l5312 (0 : Nat) (List.length l5312))) ++ (List.drop ((Int.toNat i5268) + (Min.min (List.length (sub l5312 (0 : Nat) (List.length l5312))) ((32 : Nat) - (Int.toNat i5268)))) l5290))) i5291 i5292 i5293 l5294 l5295 l5305 l5307 i5308 l5309 l5310 l5311 i5301 l5302 l5303 l5304
            (fun i5331 l5332 l5333 i5334 i5335 i5336 l5337 l5338 l5339 i5340 l5341 l5342 l5343 i5344 l5345 l5346 l5347 l5348 => k0 i5331 l5332 l5333 i5334 i5335 i5336 l5337 l5338 l5339 i5340 l5341 l5342 l5343 i5344 l5345 l5346 l5347 l5348))
           (none))
          (none))
         (none))
        (c3 i5306 i5288 l5289 l5290 i5291 i5292 i5293 l5294 l5295 l5305 l5307 i5308 l5309 l5310 l5311 i5301 l5302 l5303 l5304
         (fun i5349 l5350 l5351 i5352 i5353 i5354 l5355 l5356 l5357 i5358 l5359 l5360 l5361 i5362 l5363 l5364 l5365 l5366 => k0 i5349 l5350 l5351 i5352 i5353 i5354 l5355 l5356 l5357 i5358 l5359 l5360 l5361 i5362 l5363 l5364 l5365 l5366))))
      (br (decide ((0 : Int) < (Nat.cast (List.length l5312) : Int)))
       (br (leB i5268 (32 : Nat))
        (br (fits (0 : Nat) (List.length l5312) l5312)
         (br (fits (Int.toNat i5268) ((32 : Nat) - (Int.toNat i5268)) l5290)
          (c3 i5306 i5288 l5289 ((List.take (Int.toNat i5268) l5290) ++ ((List.take (Min.min (List.length (sub l5312 (0 : Nat) (List.length l5312))) ((32 : Nat) - (Int.toNat i5268))) (sub l5312 (0 : Nat) (List.length l5312))) ++ (List.drop ((Int.toNat i5268) + (Min.min (List.length (sub l5312 (0 : Nat) (List.length l5312))) ((32 : Nat) - (Int.toNat i5268)))) l5290))) i5291 i5292 i5293 l5294 l5295 l5305 l5307 i5308 l5309 l5310 l5311 i5301 l5302 l5303 l5304
           (fun i5367 l5368 l5369 i5370 i5371 i5372 l5373 l5374 l5375 i5376 l5377 l5378 l5379 i5380 l5381 l5382 l5383 l5384 => k0 i5367 l5368 l5369 i5370 i5371 i5372 l5373 l5374 l5375 i5376 l5377 l5378 l5379 i5380 l5381 l5382 l5383 l5384))
          (none))
         (none))
        (none))
       (c3 i5306 i5288 l5289 l5290 i5291 i5292 i5293 l5294 l5295 l5305 l5307 i5308 l5309 l5310 l5311 i5301 l5302 l5303 l5304
        (fun i5385 l5386 l5387 i5388 i5389 i5390 l5391 l5392 l5393 i5394 l5395 l5396 l5397 i5398 l5399 l5400 l5401 l5402 => k0 i5385 l5386 l5387 i5388 i5389 i5390 l5391 l5392 l5393 i5394 l5395 l5396 l5397 i5398 l5399 l5400 l5401 l5402)))))))
noncomputable def run_machine_read_6326 (N : Nat) {R : Type} (x0 : Int) (x1 : T1) (x2 : T1) (x3 : Int) (x4 : Int) (x5 : Int) (x6 : T2) (x7 : T3) (x8 : T1) (x9 : T1) (x10 : Int) (x11 : T8) (x12 : T5) (x13 : T2) (x14 : Int) (x15 : T6) (x16 : T7) (x17 : T4) (k0 : Int → T1 → T1 → Int → Int → Int → T2 → T3 → T1 → Int → T8 → T5 → T2 → Int → T6 → T7 → T1 → T4 → Option R) : Option R := run_machine_read_6326_T N (@run_machine_answer_6121 N) (@run_machine_answer_9b59 N) (@run_machine_answer_c21d N) (@run_machine_answer_684b N) (@files_Files_Read N) (@files_Files_Read_0442 N) (@run_machine_pop_9c77 N) (@run_machine_pop_6326 N) (@run_machine_end_5a2b N) (@run_machine_end_3f90 N) x0 x1 x2 x3 x4 x5 x6 x7 x8 x9 x10 x11 x12 x13 x14 x15 x16 x17 k0
abbrev files_sized_l0_Ty : Type 1 := {R : Type} → (T1 → Option R) → Nat → Int → T1 → Option R
abbrev files_sized_Ty : Type 1 := {R : Type} → T1 → Int → (T1 → Option R) → Option R
noncomputable def files_sized_l0_T0 (N : Nat) (c0 : slices_Clone__byte_byte_Ty) {R : Type} (nx : Int → T1 → Option R) (k0 : T1 → Option R) (x0 : Int) (x1 : T1) : Option R :=
  br (decide ((Nat.cast (List.length x1) : Int) < x0))
  (br (((fits (0 : Nat) (List.length x1) x1) && (decide ((((List.length x1) + (1 : Nat)) * (1 : Nat)) ≤ (70368744177664 : Nat)))) && true)
   (nx x0 ((sub x1 (0 : Nat) (List.length x1)) ++ ((0 : Int) :: ([] : List ((Sh.int IntKind.u8).T)))))
   (none))
  (k0 x1)
noncomputable def files_sized_l0 (N : Nat) {R : Type} (k0 : T1 → Option R) : Nat → Int → T1 → Option R
  | 0, _, _ => none
  | n + 1, x0, x1 => files_sized_l0_T0 N @slices_Clone__byte_byte (fun x0 x1 => files_sized_l0 N k0 n x0 x1) k0 x0 x1
noncomputable def files_sized_T (N : Nat) (c0 : slices_Clone__byte_byte_Ty) (w0 : files_sized_l0_Ty) {R : Type} (x0 : T1) (x1 : Int) (k0 : T1 → Option R) : Option R :=
  br (leB (if ((Nat.cast (List.length x0) : Int) < x1) then (Nat.cast (List.length x0) : Int) else x1) (List.length x0))
  (c0 (sub x0 (0 : Nat) ((Int.toNat (if ((Nat.cast (List.length x0) : Int) < x1) then (Nat.cast (List.length x0) : Int) else x1)) - (0 : Nat)))
   (fun l5098 => w0
    (fun l5099 => k0 l5099)
    N x1 l5098))
  (none)
noncomputable def files_sized (N : Nat) {R : Type} (x0 : T1) (x1 : Int) (k0 : T1 → Option R) : Option R := files_sized_T N @slices_Clone__byte_byte (@files_sized_l0 N) x0 x1 k0
abbrev files_Files_Trunc_Ty : Type 1 := {R : Type} → Int → Int → (Int → Option R) → Option R
noncomputable def files_Files_Trunc_T (N : Nat) (c0 : files_Files_file_Ty) (c1 : files_Files_file_b447_Ty) (c2 : files_sized_Ty) {R : Type} (x0 : Int) (x1 : Int) (k0 : Int → Option R) : Option R :=
  c0 x0
  (k0 (65289 : Int))
noncomputable def files_Files_Trunc (N : Nat) {R : Type} (x0 : Int) (x1 : Int) (k0 : Int → Option R) : Option R := files_Files_Trunc_T N (@files_Files_file N) (@files_Files_file_b447 N) (@files_sized N) x0 x1 k0
abbrev files_Files_Trunc_0442_Ty : Type 1 := {R : Type} → Int → Int → T1 → Int → T8 → T5 → T2 → (Int → T1 → Int → T8 → T5 → T2 → Option R) → Option R
noncomputable def files_Files_Trunc_0442_T (N : Nat) (c0 : files_Files_file_Ty) (c1 : files_Files_file_b447_Ty) (c2 : files_sized_Ty) {R : Type} (x0 : Int) (x1 : Int) (x2 : T1) (x3 : Int) (x4 : T8) (x5 : T5) (x6 : T2) (k0 : Int → T1 → Int → T8 → T5 → T2 → Option R) : Option R :=
  c1 x0 x2 x3 x4 x5 x6
  (fun l5087 i5088 l5089 l5090 l5091 => k0 (65289 : Int) l5087 i5088 l5089 l5090 l5091)
  (fun i5092 l5093 i5094 l5095 l5096 l5097 => br (decide ((8 : Int) < x1))
   (k0 (65302 : Int) l5093 i5094 l5095 l5096 l5097)
   (br (decide ((Int.toNat i5092) < (List.length l5097)))
    (br (decide ((Int.toNat i5092) < (List.length l5097)))
     (c2 (Option.getD (mfind (.int .i64) (.isl (.int .u8)) l5096 (List.getD l5097 (Int.toNat i5092) ((0 : Int) , (0 : Int))).1) (Sh.zero (.isl (.int .u8)))) (IntKind.wrap .i64 x1)
      (fun l5100 => br (decide (i5092 = i5092))
       (br (decide (i5092 = i5092))
        (br (decide (i5092 = i5092))
         (br (decide ((Int.toNat i5092) < (List.length l5097)))
          (br (decide ((List.getD l5097 (Int.toNat i5092) ((0 : Int) , (0 : Int))).1 = (List.getD l5097 (Int.toNat i5092) ((0 : Int) , (0 : Int))).1))
           (br (fits (0 : Nat) (List.length l5100) l5100)
            (k0 (0 : Int) l5093 i5094 l5095 (mput (.int .i64) (.isl (.int .u8)) l5096 (List.getD l5097 (Int.toNat i5092) ((0 : Int) , (0 : Int))).1 (sub l5100 (0 : Nat) (List.length l5100))) l5097)
            (none))
           (none))
          (none))
         (none))
        (none))
       (none)))
     (none))
    (none)))
noncomputable def files_Files_Trunc_0442 (N : Nat) {R : Type} (x0 : Int) (x1 : Int) (x2 : T1) (x3 : Int) (x4 : T8) (x5 : T5) (x6 : T2) (k0 : Int → T1 → Int → T8 → T5 → T2 → Option R) : Option R := files_Files_Trunc_0442_T N (@files_Files_file N) (@files_Files_file_b447 N) (@files_sized N) x0 x1 x2 x3 x4 x5 x6 k0
abbrev files_Files_Write_c4b4_Ty : Type 1 := {R : Type} → Int → Nat → Nat → Nat → Int → T1 → T1 → Int → Int → Int → T2 → T3 → T1 → Int → T6 → T7 → T4 → (Int → Int → T1 → T1 → Int → Int → Int → T2 → T3 → T1 → Int → T6 → T7 → T4 → Option R) → Option R
noncomputable def files_Files_Write_c4b4_T (N : Nat) (c0 : files_Files_file_Ty) (c1 : files_Files_file_b447_Ty) (c2 : files_sized_Ty) {R : Type} (x0 : Int) (x1 : Nat) (x2 : Nat) (x3 : Nat) (x4 : Int) (x5 : T1) (x6 : T1) (x7 : Int) (x8 : Int) (x9 : Int) (x10 : T2) (x11 : T3) (x12 : T1) (x13 : Int) (x14 : T6) (x15 : T7) (x16 : T4) (k0 : Int → Int → T1 → T1 → Int → Int → Int → T2 → T3 → T1 → Int → T6 → T7 → T4 → Option R) : Option R :=
  c0 x0
  (k0 (65289 : Int) x4 x5 x6 x7 x8 x9 x10 x11 x12 x13 x14 x15 x16)
noncomputable def files_Files_Write_c4b4 (N : Nat) {R : Type} (x0 : Int) (x1 : Nat) (x2 : Nat) (x3 : Nat) (x4 : Int) (x5 : T1) (x6 : T1) (x7 : Int) (x8 : Int) (x9 : Int) (x10 : T2) (x11 : T3) (x12 : T1) (x13 : Int) (x14 : T6) (x15 : T7) (x16 : T4) (k0 : Int → Int → T1 → T1 → Int → Int → Int → T2 → T3 → T1 → Int → T6 → T7 → T4 → Option R) : Option R := files_Files_Write_c4b4_T N (@files_Files_file N) (@files_Files_file_b447 N) (@files_sized N) x0 x1 x2 x3 x4 x5 x6 x7 x8 x9 x10 x11 x12 x13 x14 x15 x16 k0
abbrev files_Files_Write_44ab_Ty : Type 1 := {R : Type} → Int → (Int → Option R) → Option R
noncomputable def files_Files_Write_44ab_T (N : Nat) (c0 : files_Files_file_Ty) (c1 : files_Files_file_b447_Ty) (c2 : files_sized_Ty) {R : Type} (x0 : Int) (k0 : Int → Option R) : Option R :=
  c0 x0
  (k0 (65289 : Int))
noncomputable def files_Files_Write_44ab (N : Nat) {R : Type} (x0 : Int) (k0 : Int → Option R) : Option R := files_Files_Write_44ab_T N (@files_Files_file N) (@files_Files_file_b447 N) (@files_sized N) x0 k0
abbrev files_Files_Write_56dc_Ty : Type 1 := {R : Type} → Int → Nat → Nat → Nat → T1 → Int → T8 → T5 → T2 → Int → T1 → T1 → Int → Int → Int → T2 → T3 → T1 → Int → T6 → T7 → T4 → (Int → T1 → Int → T8 → T5 → T2 → Int → T1 → T1 → Int → Int → Int → T2 → T3 → T1 → Int → T6 → T7 → T4 → Option R) → Option R
noncomputable def files_Files_Write_56dc_T (N : Nat) (c0 : files_Files_file_Ty) (c1 : files_Files_file_b447_Ty) (c2 : files_sized_Ty) {R : Type} (x0 : Int) (x1 : Nat) (x2 : Nat) (x3 : Nat) (x4 : T1) (x5 : Int) (x6 : T8) (x7 : T5) (x8 : T2) (x9 : Int) (x10 : T1) (x11 : T1) (x12 : Int) (x13 : Int) (x14 : Int) (x15 : T2) (x16 : T3) (x17 : T1) (x18 : Int) (x19 : T6) (x20 : T7) (x21 : T4) (k0 : Int → T1 → Int → T8 → T5 → T2 → Int → T1 → T1 → Int → Int → Int → T2 → T3 → T1 → Int → T6 → T7 → T4 → Option R) : Option R :=
  c1 x0 x4 x5 x6 x7 x8
  (fun l5496 i5497 l5498 l5499 l5500 => k0 (65289 : Int) l5496 i5497 l5498 l5499 l5500 x9 x10 x11 x12 x13 x14 x15 x16 x17 x18 x19 x20 x21)
  (fun i5501 l5502 i5503 l5504 l5505 l5506 => br (decide ((Nat.cast x2 : Int) = (0 : Int)))
   (k0 (0 : Int) l5502 i5503 l5504 l5505 l5506 x9 x10 x11 x12 x13 x14 x15 x16 x17 x18 x19 x20 x21)
   (br (decide ((Int.toNat i5501) < (List.length l5506)))
    (br (decide ((8 : Int) ≤ (List.getD l5506 (Int.toNat i5501) ((0 : Int) , (0 : Int))).2))
     (k0 (65308 : Int) l5502 i5503 l5504 l5505 l5506 x9 x10 x11 x12 x13 x14 x15 x16 x17 x18 x19 x20 x21)
     (br (decide ((Int.toNat i5501) < (List.length l5506)))
      (br (leB (if ((IntKind.wrap .i64 ((8 : Int) - (List.getD l5506 (Int.toNat i5501) ((0 : Int) , (0 : Int))).2)) < (Nat.cast x2 : Int)) then (IntKind.wrap .i64 ((8 : Int) - (List.getD l5506 (Int.toNat i5501) ((0 : Int) , (0 : Int))).2)) else (Nat.cast x2 : Int)) x3)
       (br (decide ((Int.toNat i5501) < (List.length l5506)))
        (br (decide ((Int.toNat i5501) < (List.length l5506)))
         (c2 (Option.getD (mfind (.int .i64) (.isl (.int .u8)) l5505 (List.getD l5506 (Int.toNat i5501) ((0 : Int) , (0 : Int))).1) (Sh.zero (.isl (.int .u8)))) (if ((Nat.cast (List.length (Option.getD (mfind (.int .i64) (.isl (.int .u8)) l5505 (List.getD l5506 (Int.toNat i5501) ((0 : Int) , (0 : Int))).1) (Sh.zero (.isl (.int .u8))))) : Int) < (IntKind.wrap .i64 ((List.getD l5506 (Int.toNat i5501) ((0 : Int) , (0 : Int))).2 + (Nat.cast ((Int.toNat (if ((IntKind.wrap .i64 ((8 : Int) - (List.getD l5506 (Int.toNat i5501) ((0 : Int) , (0 : Int))).2)) < (Nat.cast x2 : Int)) then (IntKind.wrap .i64 ((8 : Int) - (List.getD l5506 (Int.toNat i5501) ((0 : Int) , (0 : Int))).2)) else (Nat.cast x2 : Int))) - (0 : Nat)) : Int)))) then (IntKind.wrap .i64 ((List.getD l5506 (Int.toNat i5501) ((0 : Int) , (0 : Int))).2 + (Nat.cast ((Int.toNat (if ((IntKind.wrap .i64 ((8 : Int) - (List.getD l5506 (Int.toNat i5501) ((0 : Int) , (0 : Int))).2)) < (Nat.cast x2 : Int)) then (IntKind.wrap .i64 ((8 : Int) - (List.getD l5506 (Int.toNat i5501) ((0 : Int) , (0 : Int))).2)) else (Nat.cast x2 : Int))) - (0 : Nat)) : Int))) else (Nat.cast (List.length (Option.getD (mfind (.int .i64) (.isl (.int .u8)) l5505 (List.getD l5506 (Int.toNat i5501) ((0 : Int) , (0 : Int))).1) (Sh.zero (.isl (.int .u8))))) : Int))
          (fun l5507 => br (decide ((Int.toNat i5501) < (List.length l5506)))
           (br (leB (List.getD l5506 (Int.toNat i5501) ((0 : Int) , (0 : Int))).2 (List.length l5507))
            (br (fits (addN x1 (0 : Nat)) ((Int.toNat (if ((IntKind.wrap .i64 ((8 : Int) - (List.getD l5506 (Int.toNat i5501) ((0 : Int) , (0 : Int))).2)) < (Nat.cast x2 : Int)) then (IntKind.wrap .i64 ((8 : Int) - (List.getD l5506 (Int.toNat i5501) ((0 : Int) , (0 : Int))).2)) else (Nat.cast x2 : Int))) - (0 : Nat)) x11)
             (br (fits (Int.toNat (List.getD l5506 (Int.toNat i5501) ((0 : Int) , (0 : Int))).2) ((List.length l5507) - (Int.toNat (List.getD l5506 (Int.toNat i5501) ((0 : Int) , (0 : Int))).2)) l5507)
              (br (decide ((Int.toNat i5501) < (List.length l5506)))
               (br (fits (0 : Nat) (List.length l5507) ((List.take (Int.toNat (List.getD l5506 (Int.toNat i5501) ((0 : Int) , (0 : Int))).2) l5507) ++ ((List.take (Min.min (List.length (sub x11 (addN x1 (0 : Nat)) ((Int.toNat (if ((IntKind.wrap .i64 ((8 : Int) - (List.getD l5506 (Int.toNat i5501) ((0 : Int) , (0 : Int))).2)) < (Nat.cast x2 : Int)) then (IntKind.wrap .i64 ((8 : Int) - (List.getD l5506 (Int.toNat i5501) ((0 : Int) , (0 : Int))).2)) else (Nat.cast x2 : Int))) - (0 : Nat)))) ((List.length l5507) - (Int.toNat (List.getD l5506 (Int.toNat i5501) ((0 : Int) , (0 : Int))).2))) (sub x11 (addN x1 (0 : Nat)) ((Int.toNat (if ((IntKind.wrap .i64 ((8 : Int) - (List.getD l5506 (Int.toNat i5501) ((0 : Int) , (0 : Int))).2)) < (Nat.cast x2 : Int)) then (IntKind.wrap .i64 ((8 : Int) - (List.getD l5506 (Int.toNat i5501) ((0 : Int) , (0 : Int))).2)) else (Nat.cast x2 : Int))) - (0 : Nat)))) ++ (List.drop ((Int.toNat (List.getD l5506 (Int.toNat i5501) ((0 : Int) , (0 : Int))).2) + (Min.min (List.length (sub x11 (addN x1 (0 : Nat)) ((Int.toNat (if ((IntKind.wrap .i64 ((8 : Int) - (List.getD l5506 (Int.toNat i5501) ((0 : Int) , (0 : Int))).2)) < (Nat.cast x2 : Int)) then (IntKind.wrap .i64 ((8 : Int) - (List.getD l5506 (Int.toNat i5501) ((0 : Int) , (0 : Int))).2)) else (Nat.cast x2 : Int))) - (0 : Nat)))) ((List.length l5507) - (Int.toNat (List.getD l5506 (Int.toNat i5501) ((0 : Int) , (0 : Int))).2)))) l5507))))
                (br (decide ((Int.toNat i5501) < (List.length l5506)))
                 (br (decide ((Int.toNat i5501) < (List.length l5506)))
                  (k0 (IntKind.wrap .u16 (Nat.cast ((Int.toNat (if ((IntKind.wrap .i64 ((8 : Int) - (List.getD l5506 (Int.toNat i5501) ((0 : Int) , (0 : Int))).2)) < (Nat.cast x2 : Int)) then (IntKind.wrap .i64 ((8 : Int) - (List.getD l5506 (Int.toNat i5501) ((0 : Int) , (0 : Int))).2)) else (Nat.cast x2 : Int))) - (0 : Nat)) : Int)) l5502 i5503 l5504 (mput (.int .i64) (.isl (.int .u8)) l5505 (List.getD l5506 (Int.toNat i5501) ((0 : Int) , (0 : Int))).1 (sub ((List.take (Int.toNat (List.getD l5506 (Int.toNat i5501) ((0 : Int) , (0 : Int))).2) l5507) ++ ((List.take (Min.min (List.length (sub x11 (addN x1 (0 : Nat)) ((Int.toNat (if ((IntKind.wrap .i64 ((8 : Int) - (List.getD l5506 (Int.toNat i5501) ((0 : Int) , (0 : Int))).2)) < (Nat.cast x2 : Int)) then (IntKind.wrap .i64 ((8 : Int) - (List.getD l5506 (Int.toNat i5501) ((0 : Int) , (0 : Int))).2)) else (Nat.cast x2 : Int))) - (0 : Nat)))) ((List.length l5507) - (Int.toNat (List.getD l5506 (Int.toNat i5501) ((0 : Int) , (0 : Int))).2))) (sub x11 (addN x1 (0 : Nat)) ((Int.toNat (if ((IntKind.wrap .i64 ((8 : Int) - (List.getD l5506 (Int.toNat i5501) ((0 : Int) , (0 : Int))).2)) < (Nat.cast x2 : Int)) then (IntKind.wrap .i64 ((8 : Int) - (List.getD l5506 (Int.toNat i5501) ((0 : Int) , (0 : Int))).2)) else (Nat.cast x2 : Int))) - (0 : Nat)))) ++ (List.drop ((Int.toNat (List.getD l5506 (Int.toNat i5501) ((0 : Int) , (0 : Int))).2) + (Min.min (List.length (sub x11 (addN x1 (0 : Nat)) ((Int.toNat (if ((IntKind.wrap .i64 ((8 : Int) - (List.getD l5506 (Int.toNat i5501) ((0 : Int) , (0 : Int))).2)) < (Nat.cast x2 : Int)) then (IntKind.wrap .i64 ((8 : Int) - (List.getD l5506 (Int.toNat i5501) ((0 : Int) , (0 : Int))).2)) else (Nat.cast x2 : Int))) - (0 : Nat)))) ((List.length l5507) - (Int.toNat (List.getD l5506 (Int.toNat i5501) ((0 : Int) , (0 : Int))).2)))) l5507))) (0 : Nat) (List.length l5507))) (List.set l5506 (Int.toNat i5501) ((List.getD l5506 (Int.toNat i5501) ((0 : Int) , (0 : Int))).1 , (IntKind.wrap .i64 ((List.getD l5506 (Int.toNat i5501) ((0 : Int) , (0 : Int))).2 + (Nat.cast ((Int.toNat (if ((IntKind.wrap .i64 ((8 : Int) - (List.getD l5506 (Int.toNat i5501) ((0 : Int) , (0 : Int))).2)) < (Nat.cast x2 : Int)) then (IntKind.wrap .i64 ((8 : Int) - (List.getD l5506 (Int.toNat i5501) ((0 : Int) , (0 : Int))).2)) else (Nat.cast x2 : Int))) - (0 : Nat)) : Int))))) x9 x10 x11 x12 x13 x14 x15 x16 x17 x18 x19 x20 x21)
                  (none))
                 (none))
                (none))
               (none))
              (none))
             (none))
            (none))
           (none)))
         (none))
        (none))
       (none))
      (none)))
    (none)))
noncomputable def files_Files_Write_56dc (N : Nat) {R : Type} (x0 : Int) (x1 : Nat) (x2 : Nat) (x3 : Nat) (x4 : T1) (x5 : Int) (x6 : T8) (x7 : T5) (x8 : T2) (x9 : Int) (x10 : T1) (x11 : T1) (x12 : Int) (x13 : Int) (x14 : Int) (x15 : T2) (x16 : T3) (x17 : T1) (x18 : Int) (x19 : T6) (x20 : T7) (x21 : T4) (k0 : Int → T1 → Int → T8 → T5 → T2 → Int → T1 → T1 → Int → Int → Int → T2 → T3 → T1 → Int → T6 → T7 → T4 → Option R) : Option R := files_Files_Write_56dc_T N (@files_Files_file N) (@files_Files_file_b447 N) (@files_sized N) x0 x1 x2 x3 x4 x5 x6 x7 x8 x9 x10 x11 x12 x13 x14 x15 x16 x17 x18 x19 x20 x21 k0
abbrev files_Files_Write_b195_Ty : Type 1 := {R : Type} → Int → T1 → Int → T8 → T5 → T2 → (Int → T1 → Int → T8 → T5 → T2 → Option R) → Option R
noncomputable def files_Files_Write_b195_T (N : Nat) (c0 : files_Files_file_Ty) (c1 : files_Files_file_b447_Ty) (c2 : files_sized_Ty) {R : Type} (x0 : Int) (x1 : T1) (x2 : Int) (x3 : T8) (x4 : T5) (x5 : T2) (k0 : Int → T1 → Int → T8 → T5 → T2 → Option R) : Option R :=
  c1 x0 x1 x2 x3 x4 x5
  (fun l5657 i5658 l5659 l5660 l5661 => k0 (65289 : Int) l5657 i5658 l5659 l5660 l5661)
  (fun i5662 l5663 i5664 l5665 l5666 l5667 => k0 (0 : Int) l5663 i5664 l5665 l5666 l5667)
noncomputable def files_Files_Write_b195 (N : Nat) {R : Type} (x0 : Int) (x1 : T1) (x2 : Int) (x3 : T8) (x4 : T5) (x5 : T2) (k0 : Int → T1 → Int → T8 → T5 → T2 → Option R) : Option R := files_Files_Write_b195_T N (@files_Files_file N) (@files_Files_file_b447 N) (@files_sized N) x0 x1 x2 x3 x4 x5 k0
abbrev run_machine_write_9c77_Ty : Type 1 := {R : Type} → Int → T1 → T1 → Int → Int → Int → T2 → T3 → T1 → Int → T6 → T7 → T4 → (Int → T1 → T1 → Int → Int → Int → T2 → T3 → Int → T6 → T7 → T1 → T4 → Option R) → Option R
noncomputable def run_machine_write_9c77_T (N : Nat) (c0 : files_Files_Write_c4b4_Ty) (c1 : files_Files_Write_44ab_Ty) (c2 : files_Files_Write_56dc_Ty) (c3 : files_Files_Write_b195_Ty) (c4 : run_machine_answer_6121_Ty) (c5 : run_machine_answer_9b59_Ty) (c6 : run_machine_answer_c21d_Ty) (c7 : run_machine_answer_684b_Ty) (c8 : run_machine_end_5a2b_Ty) (c9 : run_machine_end_3f90_Ty) (c10 : run_machine_pop_9c77_Ty) (c11 : run_machine_pop_6326_Ty) {R : Type} (x0 : Int) (x1 : T1) (x2 : T1) (x3 : Int) (x4 : Int) (x5 : Int) (x6 : T2) (x7 : T3) (x8 : T1) (x9 : Int) (x10 : T6) (x11 : T7) (x12 : T4) (k0 : Int → T1 → T1 → Int → Int → Int → T2 → T3 → Int → T6 → T7 → T1 → T4 → Option R) : Option R :=
  c10 x0 x1 x2 x3 x4 x5 x6 x7 x8 x9 x10 x11 x12
  (fun i1809 i1810 l1811 l1812 i1813 i1814 i1815 l1816 l1817 i1818 l1819 l1820 l1821 l1822 => c10 i1810 l1811 l1812 i1813 i1814 i1815 l1816 l1817 l1822 i1818 l1819 l1820 l1821
   (fun i1823 i1824 l1825 l1826 i1827 i1828 i1829 l1830 l1831 i1832 l1833 l1834 l1835 l1836 => c10 i1824 l1825 l1826 i1827 i1828 i1829 l1830 l1831 l1836 i1832 l1833 l1834 l1835
    (fun i1837 i1838 l1839 l1840 i1841 i1842 i1843 l1844 l1845 i1846 l1847 l1848 l1849 l1850 => br (decide ((0 : Int) < i1809))
     (br (decide ((32 : Int) < (IntKind.wrap .i64 ((IntKind.wrap .i64 i1823) + (IntKind.wrap .i64 i1809)))))
      (c8 (3 : Int) (0 : Int) i1838 l1839 l1840 i1841 i1842 i1843 l1844 l1845 l1850 i1846 l1847 l1848 l1849
       (fun i1851 l1852 l1853 i1854 i1855 i1856 l1857 l1858 l1859 i1860 l1861 l1862 l1863 => k0 i1851 l1852 l1853 i1854 i1855 i1856 l1857 l1858 i1860 l1861 l1862 l1859 l1863))
      (br (decide ((0 : Int) < i1809))
       (br (leB (IntKind.wrap .u16 (i1823 + i1809)) (32 : Nat))
        (br (leB i1823 (Int.toNat (IntKind.wrap .u16 (i1823 + i1809))))
         (c0 i1837 (Int.toNat i1823) ((Int.toNat (IntKind.wrap .u16 (i1823 + i1809))) - (Int.toNat i1823)) ((32 : Nat) - (Int.toNat i1823)) i1838 l1839 l1840 i1841 i1842 i1843 l1844 l1845 l1850 i1846 l1847 l1848 l1849
          (fun i1864 i1865 l1866 l1867 i1868 i1869 i1870 l1871 l1872 l1873 i1874 l1875 l1876 l1877 => c5 i1864 i1865 l1866 l1867 i1868 i1869 i1870 l1871 l1872 l1873 i1874 l1875 l1876 l1877
           (fun i1878 l1879 l1880 i1881 i1882 i1883 l1884 l1885 i1886 l1887 l1888 l1889 l1890 => k0 i1878 l1879 l1880 i1881 i1882 i1883 l1884 l1885 i1886 l1887 l1888 l1889 l1890)))
         (none))
        (none))
       (c1 i1837
        (fun i1891 => c5 i1891 i1838 l1839 l1840 i1841 i1842 i1843 l1844 l1845 l1850 i1846 l1847 l1848 l1849
         (fun i1892 l1893 l1894 i1895 i1896 i1897 l1898 l1899 i1900 l1901 l1902 l1903 l1904 => k0 i1892 l1893 l1894 i1895 i1896 i1897 l1898 l1899 i1900 l1901 l1902 l1903 l1904)))))
     (br (decide ((0 : Int) < i1809))
      (br (leB (IntKind.wrap .u16 (i1823 + i1809)) (32 : Nat))
       (br (leB i1823 (Int.toNat (IntKind.wrap .u16 (i1823 + i1809))))
        (c0 i1837 (Int.toNat i1823) ((Int.toNat (IntKind.wrap .u16 (i1823 + i1809))) - (Int.toNat i1823)) ((32 : Nat) - (Int.toNat i1823)) i1838 l1839 l1840 i1841 i1842 i1843 l1844 l1845 l1850 i1846 l1847 l1848 l1849
         (fun i1905 i1906 l1907 l1908 i1909 i1910 i1911 l1912 l1913 l1914 i1915 l1916 l1917 l1918 => c5 i1905 i1906 l1907 l1908 i1909 i1910 i1911 l1912 l1913 l1914 i1915 l1916 l1917 l1918
          (fun i1919 l1920 l1921 i1922 i1923 i1924 l1925 l1926 i1927 l1928 l1929 l1930 l1931 => k0 i1919 l1920 l1921 i1922 i1923 i1924 l1925 l1926 i1927 l1928 l1929 l1930 l1931)))
        (none))
       (none))
      (c1 i1837
       (fun i1932 => c5 i1932 i1838 l1839 l1840 i1841 i1842 i1843 l1844 l1845 l1850 i1846 l1847 l1848 l1849
        (fun i1933 l1934 l1935 i1936 i1937 i1938 l1939 l1940 i1941 l1942 l1943 l1944 l1945 => k0 i1933 l1934 l1935 i1936 i1937 i1938 l1939 l1940 i1941 l1942 l1943 l1944 l1945)))))))
noncomputable def run_machine_write_9c77 (N : Nat) {R : Type} (x0 : Int) (x1 : T1) (x2 : T1) (x3 : Int) (x4 : Int) (x5 : Int) (x6 : T2) (x7 : T3) (x8 : T1) (x9 : Int) (x10 : T6) (x11 : T7) (x12 : T4) (k0 : Int → T1 → T1 → Int → Int → Int → T2 → T3 → Int → T6 → T7 → T1 → T4 → Option R) : Option R := run_machine_write_9c77_T N (@files_Files_Write_c4b4 N) (@files_Files_Write_44ab N) (@files_Files_Write_56dc N) (@files_Files_Write_b195 N) (@run_machine_answer_6121 N) (@run_machine_answer_9b59 N) (@run_machine_answer_c21d N) (@run_machine_answer_684b N) (@run_machine_end_5a2b N) (@run_machine_end_3f90 N) (@run_machine_pop_9c77 N) (@run_machine_pop_6326 N) x0 x1 x2 x3 x4 x5 x6 x7 x8 x9 x10 x11 x12 k0
abbrev run_machine_write_6326_Ty : Type 1 := {R : Type} → Int → T1 → T1 → Int → Int → Int → T2 → T3 → T1 → T1 → Int → T8 → T5 → T2 → Int → T6 → T7 → T4 → (Int → T1 → T1 → Int → Int → Int → T2 → T3 → T1 → Int → T8 → T5 → T2 → Int → T6 → T7 → T1 → T4 → Option R) → Option R
noncomputable def run_machine_write_6326_T (N : Nat) (c0 : files_Files_Write_c4b4_Ty) (c1 : files_Files_Write_44ab_Ty) (c2 : files_Files_Write_56dc_Ty) (c3 : files_Files_Write_b195_Ty) (c4 : run_machine_answer_6121_Ty) (c5 : run_machine_answer_9b59_Ty) (c6 : run_machine_answer_c21d_Ty) (c7 : run_machine_answer_684b_Ty) (c8 : run_machine_end_5a2b_Ty) (c9 : run_machine_end_3f90_Ty) (c10 : run_machine_pop_9c77_Ty) (c11 : run_machine_pop_6326_Ty) {R : Type} (x0 : Int) (x1 : T1) (x2 : T1) (x3 : Int) (x4 : Int) (x5 : Int) (x6 : T2) (x7 : T3) (x8 : T1) (x9 : T1) (x10 : Int) (x11 : T8) (x12 : T5) (x13 : T2) (x14 : Int) (x15 : T6) (x16 : T7) (x17 : T4) (k0 : Int → T1 → T1 → Int → Int → Int → T2 → T3 → T1 → Int → T8 → T5 → T2 → Int → T6 → T7 → T1 → T4 → Option R) : Option R :=
  c11 x0 x1 x2 x3 x4 x5 x6 x7 x8 x9 x10 x11 x12 x13 x14 x15 x16 x17
  (fun i5545 i5546 l5547 l5548 i5549 i5550 i5551 l5552 l5553 l5554 i5555 l5556 l5557 l5558 i5559 l5560 l5561 l5562 l5563 => c11 i5546 l5547 l5548 i5549 i5550 i5551 l5552 l5553 l5563 l5554 i5555 l5556 l5557 l5558 i5559 l5560 l5561 l5562
   (fun i5564 i5565 l5566 l5567 i5568 i5569 i5570 l5571 l5572 l5573 i5574 l5575 l5576 l5577 i5578 l5579 l5580 l5581 l5582 => c11 i5565 l5566 l5567 i5568 i5569 i5570 l5571 l5572 l5582 l5573 i5574 l5575 l5576 l5577 i5578 l5579 l5580 l5581
    (fun i5583 i5584 l5585 l5586 i5587 i5588 i5589 l5590 l5591 l5592 i5593 l5594 l5595 l5596 i5597 l5598 l5599 l5600 l5601 => br (decide ((0 : Int) < i5545))
     (br (decide ((32 : Int) < (IntKind.wrap .i64 ((IntKind.wrap .i64 i5564) + (IntKind.wrap .i64 i5545)))))
      (c9 (3 : Int) (0 : Int) i5584 l5585 l5586 i5587 i5588 i5589 l5590 l5591 l5601 l5592 i5593 l5594 l5595 l5596 i5597 l5598 l5599 l5600
       (fun i5602 l5603 l5604 i5605 i5606 i5607 l5608 l5609 l5610 l5611 i5612 l5613 l5614 l5615 i5616 l5617 l5618 l5619 => k0 i5602 l5603 l5604 i5605 i5606 i5607 l5608 l5609 l5611 i5612 l5613 l5614 l5615 i5616 l5617 l5618 l5610 l5619))
      (br (decide ((0 : Int) < i5545))
       (br (leB (IntKind.wrap .u16 (i5564 + i5545)) (32 : Nat))
        (br (leB i5564 (Int.toNat (IntKind.wrap .u16 (i5564 + i5545))))
         (c2 i5583 (Int.toNat i5564) ((Int.toNat (IntKind.wrap .u16 (i5564 + i5545))) - (Int.toNat i5564)) ((32 : Nat) - (Int.toNat i5564)) l5592 i5593 l5594 l5595 l5596 i5584 l5585 l5586 i5587 i5588 i5589 l5590 l5591 l5601 i5597 l5598 l5599 l5600
          (fun i5620 l5621 i5622 l5623 l5624 l5625 i5626 l5627 l5628 i5629 i5630 i5631 l5632 l5633 l5634 i5635 l5636 l5637 l5638 => c7 i5620 i5626 l5627 l5628 i5629 i5630 i5631 l5632 l5633 l5634 l5621 i5622 l5623 l5624 l5625 i5635 l5636 l5637 l5638
           (fun i5639 l5640 l5641 i5642 i5643 i5644 l5645 l5646 l5647 i5648 l5649 l5650 l5651 i5652 l5653 l5654 l5655 l5656 => k0 i5639 l5640 l5641 i5642 i5643 i5644 l5645 l5646 l5647 i5648 l5649 l5650 l5651 i5652 l5653 l5654 l5655 l5656)))
         (none))
        (none))
       (c3 i5583 l5592 i5593 l5594 l5595 l5596
        (fun i5668 l5669 i5670 l5671 l5672 l5673 => c7 i5668 i5584 l5585 l5586 i5587 i5588 i5589 l5590 l5591 l5601 l5669 i5670 l5671 l5672 l5673 i5597 l5598 l5599 l5600
         (fun i5674 l5675 l5676 i5677 i5678 i5679 l5680 l5681 l5682 i5683 l5684 l5685 l5686 i5687 l5688 l5689 l5690 l5691 => k0 i5674 l5675 l5676 i5677 i5678 i5679 l5680 l5681 l5682 i5683 l5684 l5685 l5686 i5687 l5688 l5689 l5690 l5691)))))
     (br (decide ((0 : Int) < i5545))
      (br (leB (IntKind.wrap .u16 (i5564 + i5545)) (32 : Nat))
       (br (leB i5564 (Int.toNat (IntKind.wrap .u16 (i5564 + i5545))))
        (c2 i5583 (Int.toNat i5564) ((Int.toNat (IntKind.wrap .u16 (i5564 + i5545))) - (Int.toNat i5564)) ((32 : Nat) - (Int.toNat i5564)) l5592 i5593 l5594 l5595 l5596 i5584 l5585 l5586 i5587 i5588 i5589 l5590 l5591 l5601 i5597 l5598 l5599 l5600
         (fun i5692 l5693 i5694 l5695 l5696 l5697 i5698 l5699 l5700 i5701 i5702 i5703 l5704 l5705 l5706 i5707 l5708 l5709 l5710 => c7 i5692 i5698 l5699 l5700 i5701 i5702 i5703 l5704 l5705 l5706 l5693 i5694 l5695 l5696 l5697 i5707 l5708 l5709 l5710
          (fun i5711 l5712 l5713 i5714 i5715 i5716 l5717 l5718 l5719 i5720 l5721 l5722 l5723 i5724 l5725 l5726 l5727 l5728 => k0 i5711 l5712 l5713 i5714 i5715 i5716 l5717 l5718 l5719 i5720 l5721 l5722 l5723 i5724 l5725 l5726 l5727 l5728)))
        (none))
       (none))
      (c3 i5583 l5592 i5593 l5594 l5595 l5596
       (fun i5729 l5730 i5731 l5732 l5733 l5734 => c7 i5729 i5584 l5585 l5586 i5587 i5588 i5589 l5590 l5591 l5601 l5730 i5731 l5732 l5733 l5734 i5597 l5598 l5599 l5600
        (fun i5735 l5736 l5737 i5738 i5739 i5740 l5741 l5742 l5743 i5744 l5745 l5746 l5747 i5748 l5749 l5750 l5751 l5752 => k0 i5735 l5736 l5737 i5738 i5739 i5740 l5741 l5742 l5743 i5744 l5745 l5746 l5747 i5748 l5749 l5750 l5751 l5752)))))))
noncomputable def run_machine_write_6326 (N : Nat) {R : Type} (x0 : Int) (x1 : T1) (x2 : T1) (x3 : Int) (x4 : Int) (x5 : Int) (x6 : T2) (x7 : T3) (x8 : T1) (x9 : T1) (x10 : Int) (x11 : T8) (x12 : T5) (x13 : T2) (x14 : Int) (x15 : T6) (x16 : T7) (x17 : T4) (k0 : Int → T1 → T1 → Int → Int → Int → T2 → T3 → T1 → Int → T8 → T5 → T2 → Int → T6 → T7 → T1 → T4 → Option R) : Option R := run_machine_write_6326_T N (@files_Files_Write_c4b4 N) (@files_Files_Write_44ab N) (@files_Files_Write_56dc N) (@files_Files_Write_b195 N) (@run_machine_answer_6121 N) (@run_machine_answer_9b59 N) (@run_machine_answer_c21d N) (@run_machine_answer_684b N) (@run_machine_end_5a2b N) (@run_machine_end_3f90 N) (@run_machine_pop_9c77 N) (@run_machine_pop_6326 N) x0 x1 x2 x3 x4 x5 x6 x7 x8 x9 x10 x11 x12 x13 x14 x15 x16 x17 k0
abbrev run_machine_call_3c75_Ty : Type 1 := {R : Type} → Int → Int → T1 → T1 → Int → Int → Int → T2 → T3 → T1 → Int → T6 → T7 → T4 → (Int → T1 → T1 → Int → Int → Int → T2 → T3 → Int → T6 → T7 → T1 → T4 → Option R) → Option R
noncomputable def run_machine_call_3c75_T (N : Nat) (c0 : run_machine_argument_9c77_Ty) (c1 : run_machine_argument_6326_Ty) (c2 : run_machine_push_6121_Ty) (c3 : run_machine_push_9b59_Ty) (c4 : run_machine_push_c21d_Ty) (c5 : run_machine_push_684b_Ty) (c6 : run_machine_write_9c77_Ty) (c7 : run_machine_write_6326_Ty) (c8 : run_machine_read_9c77_Ty) (c9 : run_machine_read_6326_Ty) (c10 : files_Files_Trunc_Ty) (c11 : files_Files_Trunc_0442_Ty) (c12 : files_Files_Seek_Ty) (c13 : files_Files_Seek_0442_Ty) (c14 : files_Files_Twin_Ty) (c15 : files_Files_Twin_b447_Ty) (c16 : files_Files_Size_Ty) (c17 : files_Files_Size_b447_Ty) (c18 : run_machine_answer_6121_Ty) (c19 : run_machine_answer_9b59_Ty) (c20 : run_machine_answer_c21d_Ty) (c21 : run_machine_answer_684b_Ty) (c22 : files_Files_Close_Ty) (c23 : files_Files_Close_b447_Ty) (c24 : run_machine_pop_9c77_Ty) (c25 : run_machine_pop_6326_Ty) {R : Type} (x0 : Int) (x1 : Int) (x2 : T1) (x3 : T1) (x4 : Int) (x5 : Int) (x6 : Int) (x7 : T2) (x8 : T3) (x9 : T1) (x10 : Int) (x11 : T6) (x12 : T7) (x13 : T4) (k0 : Int → T1 → T1 → Int → Int → Int → T2 → T3 → Int → T6 → T7 → T1 → T4 → Option R) : Option R :=
  br (decide (x0 = (28 : Int)))
  (c24 x1 x2 x3 x4 x5 x6 x7 x8 x9 x10 x11 x12 x13
   (fun i2259 i2260 l2261 l2262 i2263 i2264 i2265 l2266 l2267 i2268 l2269 l2270 l2271 l2272 => c22 i2259
    (fun i2273 => c19 i2273 i2260 l2261 l2262 i2263 i2264 i2265 l2266 l2267 l2272 i2268 l2269 l2270 l2271
     (fun i2274 l2275 l2276 i2277 i2278 i2279 l2280 l2281 i2282 l2283 l2284 l2285 l2286 => k0 i2274 l2275 l2276 i2277 i2278 i2279 l2280 l2281 i2282 l2283 l2284 l2285 l2286))))
  (br (decide (x0 = (32 : Int)))
   (c24 x1 x2 x3 x4 x5 x6 x7 x8 x9 x10 x11 x12 x13
    (fun i2287 i2288 l2289 l2290 i2291 i2292 i2293 l2294 l2295 i2296 l2297 l2298 l2299 l2300 => c16 i2287
     (fun i2301 => c19 i2301 i2288 l2289 l2290 i2291 i2292 i2293 l2294 l2295 l2300 i2296 l2297 l2298 l2299
      (fun i2302 l2303 l2304 i2305 i2306 i2307 l2308 l2309 i2310 l2311 l2312 l2313 l2314 => k0 i2302 l2303 l2304 i2305 i2306 i2307 l2308 l2309 i2310 l2311 l2312 l2313 l2314))))
   (br (decide (x0 = (39 : Int)))
    (c24 x1 x2 x3 x4 x5 x6 x7 x8 x9 x10 x11 x12 x13
     (fun i2315 i2316 l2317 l2318 i2319 i2320 i2321 l2322 l2323 i2324 l2325 l2326 l2327 l2328 => c14 i2315
      (fun i2329 => c19 i2329 i2316 l2317 l2318 i2319 i2320 i2321 l2322 l2323 l2328 i2324 l2325 l2326 l2327
       (fun i2330 l2331 l2332 i2333 i2334 i2335 l2336 l2337 i2338 l2339 l2340 l2341 l2342 => k0 i2330 l2331 l2332 i2333 i2334 i2335 l2336 l2337 i2338 l2339 l2340 l2341 l2342))))
    (br (decide (x0 = (31 : Int)))
     (c24 x1 x2 x3 x4 x5 x6 x7 x8 x9 x10 x11 x12 x13
      (fun i2343 i2344 l2345 l2346 i2347 i2348 i2349 l2350 l2351 i2352 l2353 l2354 l2355 l2356 => c24 i2344 l2345 l2346 i2347 i2348 i2349 l2350 l2351 l2356 i2352 l2353 l2354 l2355
       (fun i2357 i2358 l2359 l2360 i2361 i2362 i2363 l2364 l2365 i2366 l2367 l2368 l2369 l2370 => c12 i2357 i2343
        (fun i2371 => c19 i2371 i2358 l2359 l2360 i2361 i2362 i2363 l2364 l2365 l2370 i2366 l2367 l2368 l2369
         (fun i2372 l2373 l2374 i2375 i2376 i2377 l2378 l2379 i2380 l2381 l2382 l2383 l2384 => k0 i2372 l2373 l2374 i2375 i2376 i2377 l2378 l2379 i2380 l2381 l2382 l2383 l2384)))))
     (br (decide (x0 = (38 : Int)))
      (c24 x1 x2 x3 x4 x5 x6 x7 x8 x9 x10 x11 x12 x13
       (fun i2385 i2386 l2387 l2388 i2389 i2390 i2391 l2392 l2393 i2394 l2395 l2396 l2397 l2398 => c24 i2386 l2387 l2388 i2389 i2390 i2391 l2392 l2393 l2398 i2394 l2395 l2396 l2397
        (fun i2399 i2400 l2401 l2402 i2403 i2404 i2405 l2406 l2407 i2408 l2409 l2410 l2411 l2412 => c10 i2399 i2385
         (fun i2413 => c19 i2413 i2400 l2401 l2402 i2403 i2404 i2405 l2406 l2407 l2412 i2408 l2409 l2410 l2411
          (fun i2414 l2415 l2416 i2417 i2418 i2419 l2420 l2421 i2422 l2423 l2424 l2425 l2426 => k0 i2414 l2415 l2416 i2417 i2418 i2419 l2420 l2421 i2422 l2423 l2424 l2425 l2426)))))
      (br (decide (x0 = (29 : Int)))
       (c8 x1 x2 x3 x4 x5 x6 x7 x8 x9 x10 x11 x12 x13
        (fun i2427 l2428 l2429 i2430 i2431 i2432 l2433 l2434 i2435 l2436 l2437 l2438 l2439 => k0 i2427 l2428 l2429 i2430 i2431 i2432 l2433 l2434 i2435 l2436 l2437 l2438 l2439))
       (br (decide (x0 = (30 : Int)))
        (c6 x1 x2 x3 x4 x5 x6 x7 x8 x9 x10 x11 x12 x13
         (fun i2440 l2441 l2442 i2443 i2444 i2445 l2446 l2447 i2448 l2449 l2450 l2451 l2452 => k0 i2440 l2441 l2442 i2443 i2444 i2445 l2446 l2447 i2448 l2449 l2450 l2451 l2452))
        (br (decide (x0 = (40 : Int)))
         (c3 (IntKind.wrap .u16 (Nat.cast (List.length x12) : Int)) x1 x2 x3 x4 x5 x6 x7 x8 x9 x10 x11 x12 x13
          (fun i2453 l2454 l2455 i2456 i2457 i2458 l2459 l2460 i2461 l2462 l2463 l2464 l2465 => k0 i2453 l2454 l2455 i2456 i2457 i2458 l2459 l2460 i2461 l2462 l2463 l2465 l2464))
         (br (decide (x0 = (41 : Int)))
          (c0 x1 x2 x3 x4 x5 x6 x7 x8 x9 x10 x11 x12 x13
           (fun i2466 l2467 l2468 i2469 i2470 i2471 l2472 l2473 i2474 l2475 l2476 l2477 l2478 => k0 i2466 l2467 l2468 i2469 i2470 i2471 l2472 l2473 i2474 l2475 l2476 l2478 l2477))
          (k0 x1 x2 x3 x4 x5 x6 x7 x8 x10 x11 x12 x9 x13)))))))))
noncomputable def run_machine_call_3c75 (N : Nat) {R : Type} (x0 : Int) (x1 : Int) (x2 : T1) (x3 : T1) (x4 : Int) (x5 : Int) (x6 : Int) (x7 : T2) (x8 : T3) (x9 : T1) (x10 : Int) (x11 : T6) (x12 : T7) (x13 : T4) (k0 : Int → T1 → T1 → Int → Int → Int → T2 → T3 → Int → T6 → T7 → T1 → T4 → Option R) : Option R := run_machine_call_3c75_T N (@run_machine_argument_9c77 N) (@run_machine_argument_6326 N) (@run_machine_push_6121 N) (@run_machine_push_9b59 N) (@run_machine_push_c21d N) (@run_machine_push_684b N) (@run_machine_write_9c77 N) (@run_machine_write_6326 N) (@run_machine_read_9c77 N) (@run_machine_read_6326 N) (@files_Files_Trunc N) (@files_Files_Trunc_0442 N) (@files_Files_Seek N) (@files_Files_Seek_0442 N) (@files_Files_Twin N) (@files_Files_Twin_b447 N) (@files_Files_Size N) (@files_Files_Size_b447 N) (@run_machine_answer_6121 N) (@run_machine_answer_9b59 N) (@run_machine_answer_c21d N) (@run_machine_answer_684b N) (@files_Files_Close N) (@files_Files_Close_b447 N) (@run_machine_pop_9c77 N) (@run_machine_pop_6326 N) x0 x1 x2 x3 x4 x5 x6 x7 x8 x9 x10 x11 x12 x13 k0
abbrev run_machine_call_61a1_Ty : Type 1 := {R : Type} → Int → Int → T1 → T1 → Int → Int → Int → T2 → T3 → T1 → T1 → Int → T8 → T5 → T2 → Int → T6 → T7 → T4 → (Int → T1 → T1 → Int → Int → Int → T2 → T3 → T1 → Int → T8 → T5 → T2 → Int → T6 → T7 → T1 → T4 → Option R) → Option R
noncomputable def run_machine_call_61a1_T (N : Nat) (c0 : run_machine_argument_9c77_Ty) (c1 : run_machine_argument_6326_Ty) (c2 : run_machine_push_6121_Ty) (c3 : run_machine_push_9b59_Ty) (c4 : run_machine_push_c21d_Ty) (c5 : run_machine_push_684b_Ty) (c6 : run_machine_write_9c77_Ty) (c7 : run_machine_write_6326_Ty) (c8 : run_machine_read_9c77_Ty) (c9 : run_machine_read_6326_Ty) (c10 : files_Files_Trunc_Ty) (c11 : files_Files_Trunc_0442_Ty) (c12 : files_Files_Seek_Ty) (c13 : files_Files_Seek_0442_Ty) (c14 : files_Files_Twin_Ty) (c15 : files_Files_Twin_b447_Ty) (c16 : files_Files_Size_Ty) (c17 : files_Files_Size_b447_Ty) (c18 : run_machine_answer_6121_Ty) (c19 : run_machine_answer_9b59_Ty) (c20 : run_machine_answer_c21d_Ty) (c21 : run_machine_answer_684b_Ty) (c22 : files_Files_Close_Ty) (c23 : files_Files_Close_b447_Ty) (c24 : run_machine_pop_9c77_Ty) (c25 : run_machine_pop_6326_Ty) {R : Type} (x0 : Int) (x1 : Int) (x2 : T1) (x3 : T1) (x4 : Int) (x5 : Int) (x6 : Int) (x7 : T2) (x8 : T3) (x9 : T1) (x10 : T1) (x11 : Int) (x12 : T8) (x13 : T5) (x14 : T2) (x15 : Int) (x16 : T6) (x17 : T7) (x18 : T4) (k0 : Int → T1 → T1 → Int → Int → Int → T2 → T3 → T1 → Int → T8 → T5 → T2 → Int → T6 → T7 → T1 → T4 → Option R) : Option R :=
  br (decide (x0 = (28 : Int)))
  (c25 x1 x2 x3 x4 x5 x6 x7 x8 x9 x10 x11 x12 x13 x14 x15 x16 x17 x18
   (fun i6206 i6207 l6208 l6209 i6210 i6211 i6212 l6213 l6214 l6215 i6216 l6217 l6218 l6219 i6220 l6221 l6222 l6223 l6224 => c23 i6206 l6215 i6216 l6217 l6218 l6219
    (fun i6225 l6226 i6227 l6228 l6229 l6230 => c21 i6225 i6207 l6208 l6209 i6210 i6211 i6212 l6213 l6214 l6224 l6226 i6227 l6228 l6229 l6230 i6220 l6221 l6222 l6223
     (fun i6231 l6232 l6233 i6234 i6235 i6236 l6237 l6238 l6239 i6240 l6241 l6242 l6243 i6244 l6245 l6246 l6247 l6248 => k0 i6231 l6232 l6233 i6234 i6235 i6236 l6237 l6238 l6239 i6240 l6241 l6242 l6243 i6244 l6245 l6246 l6247 l6248))))
  (br (decide (x0 = (32 : Int)))
   (c25 x1 x2 x3 x4 x5 x6 x7 x8 x9 x10 x11 x12 x13 x14 x15 x16 x17 x18
    (fun i6249 i6250 l6251 l6252 i6253 i6254 i6255 l6256 l6257 l6258 i6259 l6260 l6261 l6262 i6263 l6264 l6265 l6266 l6267 => c17 i6249 l6258 i6259 l6260 l6261 l6262
     (fun i6268 l6269 i6270 l6271 l6272 l6273 => c21 i6268 i6250 l6251 l6252 i6253 i6254 i6255 l6256 l6257 l6267 l6269 i6270 l6271 l6272 l6273 i6263 l6264 l6265 l6266
      (fun i6274 l6275 l6276 i6277 i6278 i6279 l6280 l6281 l6282 i6283 l6284 l6285 l6286 i6287 l6288 l6289 l6290 l6291 => k0 i6274 l6275 l6276 i6277 i6278 i6279 l6280 l6281 l6282 i6283 l6284 l6285 l6286 i6287 l6288 l6289 l6290 l6291))))
   (br (decide (x0 = (39 : Int)))
    (c25 x1 x2 x3 x4 x5 x6 x7 x8 x9 x10 x11 x12 x13 x14 x15 x16 x17 x18
     (fun i6292 i6293 l6294 l6295 i6296 i6297 i6298 l6299 l6300 l6301 i6302 l6303 l6304 l6305 i6306 l6307 l6308 l6309 l6310 => c15 i6292 l6301 i6302 l6303 l6304 l6305
      (fun i6311 l6312 i6313 l6314 l6315 l6316 => c21 i6311 i6293 l6294 l6295 i6296 i6297 i6298 l6299 l6300 l6310 l6312 i6313 l6314 l6315 l6316 i6306 l6307 l6308 l6309
       (fun i6317 l6318 l6319 i6320 i6321 i6322 l6323 l6324 l6325 i6326 l6327 l6328 l6329 i6330 l6331 l6332 l6333 l6334 => k0 i6317 l6318 l6319 i6320 i6321 i6322 l6323 l6324 l6325 i6326 l6327 l6328 l6329 i6330 l6331 l6332 l6333 l6334))))
    (br (decide (x0 = (31 : Int)))
     (c25 x1 x2 x3 x4 x5 x6 x7 x8 x9 x10 x11 x12 x13 x14 x15 x16 x17 x18
      (fun i6335 i6336 l6337 l6338 i6339 i6340 i6341 l6342 l6343 l6344 i6345 l6346 l6347 l6348 i6349 l6350 l6351 l6352 l6353 => c25 i6336 l6337 l6338 i6339 i6340 i6341 l6342 l6343 l6353 l6344 i6345 l6346 l6347 l6348 i6349 l6350 l6351 l6352
       (fun i6354 i6355 l6356 l6357 i6358 i6359 i6360 l6361 l6362 l6363 i6364 l6365 l6366 l6367 i6368 l6369 l6370 l6371 l6372 => c13 i6354 i6335 l6363 i6364 l6365 l6366 l6367
        (fun i6373 l6374 i6375 l6376 l6377 l6378 => c21 i6373 i6355 l6356 l6357 i6358 i6359 i6360 l6361 l6362 l6372 l6374 i6375 l6376 l6377 l6378 i6368 l6369 l6370 l6371
         (fun i6379 l6380 l6381 i6382 i6383 i6384 l6385 l6386 l6387 i6388 l6389 l6390 l6391 i6392 l6393 l6394 l6395 l6396 => k0 i6379 l6380 l6381 i6382 i6383 i6384 l6385 l6386 l6387 i6388 l6389 l6390 l6391 i6392 l6393 l6394 l6395 l6396)))))
     (br (decide (x0 = (38 : Int)))
      (c25 x1 x2 x3 x4 x5 x6 x7 x8 x9 x10 x11 x12 x13 x14 x15 x16 x17 x18
       (fun i6397 i6398 l6399 l6400 i6401 i6402 i6403 l6404 l6405 l6406 i6407 l6408 l6409 l6410 i6411 l6412 l6413 l6414 l6415 => c25 i6398 l6399 l6400 i6401 i6402 i6403 l6404 l6405 l6415 l6406 i6407 l6408 l6409 l6410 i6411 l6412 l6413 l6414
        (fun i6416 i6417 l6418 l6419 i6420 i6421 i6422 l6423 l6424 l6425 i6426 l6427 l6428 l6429 i6430 l6431 l6432 l6433 l6434 => c11 i6416 i6397 l6425 i6426 l6427 l6428 l6429
         (fun i6435 l6436 i6437 l6438 l6439 l6440 => c21 i6435 i6417 l6418 l6419 i6420 i6421 i6422 l6423 l6424 l6434 l6436 i6437 l6438 l6439 l6440 i6430 l6431 l6432 l6433
          (fun i6441 l6442 l6443 i6444 i6445 i6446 l6447 l6448 l6449 i6450 l6451 l6452 l6453 i6454 l6455 l6456 l6457 l6458 => k0 i6441 l6442 l6443 i6444 i6445 i6446 l6447 l6448 l6449 i6450 l6451 l6452 l6453 i6454 l6455 l6456 l6457 l6458)))))
      (br (decide (x0 = (29 : Int)))
       (c9 x1 x2 x3 x4 x5 x6 x7 x8 x9 x10 x11 x12 x13 x14 x15 x16 x17 x18
        (fun i6459 l6460 l6461 i6462 i6463 i6464 l6465 l6466 l6467 i6468 l6469 l6470 l6471 i6472 l6473 l6474 l6475 l6476 => k0 i6459 l6460 l6461 i6462 i6463 i6464 l6465 l6466 l6467 i6468 l6469 l6470 l6471 i6472 l6473 l6474 l6475 l6476))
       (br (decide (x0 = (30 : Int)))
        (c7 x1 x2 x3 x4 x5 x6 x7 x8 x9 x10 x11 x12 x13 x14 x15 x16 x17 x18
         (fun i6477 l6478 l6479 i6480 i6481 i6482 l6483 l6484 l6485 i6486 l6487 l6488 l6489 i6490 l6491 l6492 l6493 l6494 => k0 i6477 l6478 l6479 i6480 i6481 i6482 l6483 l6484 l6485 i6486 l6487 l6488 l6489 i6490 l6491 l6492 l6493 l6494))
        (br (decide (x0 = (40 : Int)))
         (c5 (IntKind.wrap .u16 (Nat.cast (List.length x17) : Int)) x1 x2 x3 x4 x5 x6 x7 x8 x9 x10 x11 x12 x13 x14 x15 x16 x17 x18
          (fun i6495 l6496 l6497 i6498 i6499 i6500 l6501 l6502 l6503 i6504 l6505 l6506 l6507 i6508 l6509 l6510 l6511 l6512 => k0 i6495 l6496 l6497 i6498 i6499 i6500 l6501 l6502 l6503 i6504 l6505 l6506 l6507 i6508 l6509 l6510 l6512 l6511))
         (br (decide (x0 = (41 : Int)))
          (c1 x1 x2 x3 x4 x5 x6 x7 x8 x9 x10 x11 x12 x13 x14 x15 x16 x17 x18
           (fun i6513 l6514 l6515 i6516 i6517 i6518 l6519 l6520 l6521 i6522 l6523 l6524 l6525 i6526 l6527 l6528 l6529 l6530 => k0 i6513 l6514 l6515 i6516 i6517 i6518 l6519 l6520 l6521 i6522 l6523 l6524 l6525 i6526 l6527 l6528 l6530 l6529))
          (k0 x1 x2 x3 x4 x5 x6 x7 x8 x10 x11 x12 x13 x14 x15 x16 x17 x9 x18)))))))))
noncomputable def run_machine_call_61a1 (N : Nat) {R : Type} (x0 : Int) (x1 : Int) (x2 : T1) (x3 : T1) (x4 : Int) (x5 : Int) (x6 : Int) (x7 : T2) (x8 : T3) (x9 : T1) (x10 : T1) (x11 : Int) (x12 : T8) (x13 : T5) (x14 : T2) (x15 : Int) (x16 : T6) (x17 : T7) (x18 : T4) (k0 : Int → T1 → T1 → Int → Int → Int → T2 → T3 → T1 → Int → T8 → T5 → T2 → Int → T6 → T7 → T1 → T4 → Option R) : Option R := run_machine_call_61a1_T N (@run_machine_argument_9c77 N) (@run_machine_argument_6326 N) (@run_machine_push_6121 N) (@run_machine_push_9b59 N) (@run_machine_push_c21d N) (@run_machine_push_684b N) (@run_machine_write_9c77 N) (@run_machine_write_6326 N) (@run_machine_read_9c77 N) (@run_machine_read_6326 N) (@files_Files_Trunc N) (@files_Files_Trunc_0442 N) (@files_Files_Seek N) (@files_Files_Seek_0442 N) (@files_Files_Twin N) (@files_Files_Twin_b447 N) (@files_Files_Size N) (@files_Files_Size_b447 N) (@run_machine_answer_6121 N) (@run_machine_answer_9b59 N) (@run_machine_answer_c21d N) (@run_machine_answer_684b N) (@files_Files_Close N) (@files_Files_Close_b447 N) (@run_machine_pop_9c77 N) (@run_machine_pop_6326 N) x0 x1 x2 x3 x4 x5 x6 x7 x8 x9 x10 x11 x12 x13 x14 x15 x16 x17 x18 k0
abbrev run_machine_step_9c77_Ty : Type 1 := {R : Type} → Int → T1 → T1 → Int → Int → Int → T2 → T3 → T1 → Int → T6 → T7 → T4 → (Int → T1 → T1 → Int → Int → Int → T2 → T3 → Int → T6 → T7 → T1 → T4 → Option R) → Option R
noncomputable def run_machine_step_9c77_T (N : Nat) (c0 : run_machine_call_3c75_Ty) (c1 : run_machine_call_61a1_Ty) (c2 : run_machine_named_ffdd_Ty) (c3 : run_machine_named_e571_Ty) (c4 : run_machine_plain_ffdd_Ty) (c5 : run_machine_plain_e571_Ty) (c6 : run_machine_reckon_3c75_Ty) (c7 : run_machine_reckon_61a1_Ty) (c8 : run_machine_answer_6121_Ty) (c9 : run_machine_answer_9b59_Ty) (c10 : run_machine_answer_c21d_Ty) (c11 : run_machine_answer_684b_Ty) (c12 : inst_Takes_Ty) (c13 : fails_Fails_Next_054a_Ty) (c14 : inst_Falls_Ty) {R : Type} (x0 : Int) (x1 : T1) (x2 : T1) (x3 : Int) (x4 : Int) (x5 : Int) (x6 : T2) (x7 : T3) (x8 : T1) (x9 : Int) (x10 : T6) (x11 : T7) (x12 : T4) (k0 : Int → T1 → T1 → Int → Int → Int → T2 → T3 → Int → T6 → T7 → T1 → T4 → Option R) : Option R :=
  br (inB x0 (List.length x6))
  (br (decide ((Int.toNat x0) < (List.length x6)))
   (c14 (List.getD x6 (Int.toNat x0) ((0 : Int) , (0 : Int))).1
    (fun b323 => br b323
     (c13 x9 x10
      (fun b324 i325 l326 => br b324
       (c12 (List.getD x6 (Int.toNat x0) ((0 : Int) , (0 : Int))).1
        (fun i327 => br (decide ((Nat.cast (List.length x8) : Int) = (Nat.cast (List.length x8) : Int)))
         (br (leB (IntKind.wrap .i64 ((Nat.cast (List.length x8) : Int) - i327)) (List.length x8))
          (c8 (65285 : Int) (IntKind.wrap .i64 (x0 + (1 : Int))) ((Int.toNat (IntKind.wrap .i64 ((Nat.cast (List.length x8) : Int) - i327))) - (0 : Nat)) ((List.length x8) - (0 : Nat)) x1 x2 x3 x4 (IntKind.wrap .i64 (x5 + (1 : Int))) x6 x7 (List.length x8) x8 i325 l326 x11 x12
           (fun i328 l329 l330 i331 i332 i333 l334 l335 i336 l337 l338 l339 l340 => k0 i328 l329 l330 i331 i332 i333 l334 l335 i336 l337 l338 l339 l340))
          (none))
         (none)))
       (br (decide ((5 : Int) ≤ (List.getD x6 (Int.toNat x0) ((0 : Int) , (0 : Int))).1))
        (br (decide ((List.getD x6 (Int.toNat x0) ((0 : Int) , (0 : Int))).1 ≤ (16 : Int)))
         (c6 (List.getD x6 (Int.toNat x0) ((0 : Int) , (0 : Int))).1 (IntKind.wrap .i64 (x0 + (1 : Int))) x1 x2 x3 x4 (IntKind.wrap .i64 (x5 + (1 : Int))) x6 x7 x8 i325 l326 x11 x12
          (fun i341 l342 l343 i344 i345 i346 l347 l348 i349 l350 l351 l352 l353 => k0 i341 l342 l343 i344 i345 i346 l347 l348 i349 l350 l351 l353 l352))
         (c4 (List.getD x6 (Int.toNat x0) ((0 : Int) , (0 : Int))).1 (List.getD x6 (Int.toNat x0) ((0 : Int) , (0 : Int))).2 (IntKind.wrap .i64 (x0 + (1 : Int))) x1 x2 x3 x4 (IntKind.wrap .i64 (x5 + (1 : Int))) x6 x7 x8 i325 l326 x11 x12
          (fun b1086 i1087 l1088 l1089 i1090 i1091 i1092 l1093 l1094 i1095 l1096 l1097 l1098 l1099 => br b1086
           (k0 i1087 l1088 l1089 i1090 i1091 i1092 l1093 l1094 i1095 l1096 l1097 l1098 l1099)
           (c2 (List.getD x6 (Int.toNat x0) ((0 : Int) , (0 : Int))).1 (List.getD x6 (Int.toNat x0) ((0 : Int) , (0 : Int))).2 i1087 l1088 l1089 i1090 i1091 i1092 l1093 l1094 l1098 i1095 l1096 l1097 l1099
            (fun i1477 l1478 l1479 i1480 i1481 i1482 l1483 l1484 i1485 l1486 l1487 l1488 l1489 => c0 (List.getD x6 (Int.toNat x0) ((0 : Int) , (0 : Int))).1 i1477 l1478 l1479 i1480 i1481 i1482 l1483 l1484 l1488 i1485 l1486 l1487 l1489
             (fun i2479 l2480 l2481 i2482 i2483 i2484 l2485 l2486 i2487 l2488 l2489 l2490 l2491 => k0 i2479 l2480 l2481 i2482 i2483 i2484 l2485 l2486 i2487 l2488 l2489 l2490 l2491))))))
        (c4 (List.getD x6 (Int.toNat x0) ((0 : Int) , (0 : Int))).1 (List.getD x6 (Int.toNat x0) ((0 : Int) , (0 : Int))).2 (IntKind.wrap .i64 (x0 + (1 : Int))) x1 x2 x3 x4 (IntKind.wrap .i64 (x5 + (1 : Int))) x6 x7 x8 i325 l326 x11 x12
         (fun b2492 i2493 l2494 l2495 i2496 i2497 i2498 l2499 l2500 i2501 l2502 l2503 l2504 l2505 => br b2492
          (k0 i2493 l2494 l2495 i2496 i2497 i2498 l2499 l2500 i2501 l2502 l2503 l2504 l2505)
          (c2 (List.getD x6 (Int.toNat x0) ((0 : Int) , (0 : Int))).1 (List.getD x6 (Int.toNat x0) ((0 : Int) , (0 : Int))).2 i2493 l2494 l2495 i2496 i2497 i2498 l2499 l2500 l2504 i2501 l2502 l2503 l2505
           (fun i2506 l2507 l2508 i2509 i2510 i2511 l2512 l2513 i2514 l2515 l2516 l2517 l2518 => c0 (List.getD x6 (Int.toNat x0) ((0 : Int) , (0 : Int))).1 i2506 l2507 l2508 i2509 i2510 i2511 l2512 l2513 l2517 i2514 l2515 l2516 l2518
            (fun i2519 l2520 l2521 i2522 i2523 i2524 l2525 l2526 i2527 l2528 l2529 l2530 l2531 => k0 i2519 l2520 l2521 i2522 i2523 i2524 l2525 l2526 i2527 l2528 l2529 l2530 l2531))))))))
     (br (decide ((5 : Int) ≤ (List.getD x6 (Int.toNat x0) ((0 : Int) , (0 : Int))).1))
      (br (decide ((List.getD x6 (Int.toNat x0) ((0 : Int) , (0 : Int))).1 ≤ (16 : Int)))
       (c6 (List.getD x6 (Int.toNat x0) ((0 : Int) , (0 : Int))).1 (IntKind.wrap .i64 (x0 + (1 : Int))) x1 x2 x3 x4 (IntKind.wrap .i64 (x5 + (1 : Int))) x6 x7 x8 x9 x10 x11 x12
        (fun i2532 l2533 l2534 i2535 i2536 i2537 l2538 l2539 i2540 l2541 l2542 l2543 l2544 => k0 i2532 l2533 l2534 i2535 i2536 i2537 l2538 l2539 i2540 l2541 l2542 l2544 l2543))
       (c4 (List.getD x6 (Int.toNat x0) ((0 : Int) , (0 : Int))).1 (List.getD x6 (Int.toNat x0) ((0 : Int) , (0 : Int))).2 (IntKind.wrap .i64 (x0 + (1 : Int))) x1 x2 x3 x4 (IntKind.wrap .i64 (x5 + (1 : Int))) x6 x7 x8 x9 x10 x11 x12
        (fun b2545 i2546 l2547 l2548 i2549 i2550 i2551 l2552 l2553 i2554 l2555 l2556 l2557 l2558 => br b2545
         (k0 i2546 l2547 l2548 i2549 i2550 i2551 l2552 l2553 i2554 l2555 l2556 l2557 l2558)
         (c2 (List.getD x6 (Int.toNat x0) ((0 : Int) , (0 : Int))).1 (List.getD x6 (Int.toNat x0) ((0 : Int) , (0 : Int))).2 i2546 l2547 l2548 i2549 i2550 i2551 l2552 l2553 l2557 i2554 l2555 l2556 l2558
          (fun i2559 l2560 l2561 i2562 i2563 i2564 l2565 l2566 i2567 l2568 l2569 l2570 l2571 => c0 (List.getD x6 (Int.toNat x0) ((0 : Int) , (0 : Int))).1 i2559 l2560 l2561 i2562 i2563 i2564 l2565 l2566 l2570 i2567 l2568 l2569 l2571
           (fun i2572 l2573 l2574 i2575 i2576 i2577 l2578 l2579 i2580 l2581 l2582 l2583 l2584 => k0 i2572 l2573 l2574 i2575 i2576 i2577 l2578 l2579 i2580 l2581 l2582 l2583 l2584))))))
      (c4 (List.getD x6 (Int.toNat x0) ((0 : Int) , (0 : Int))).1 (List.getD x6 (Int.toNat x0) ((0 : Int) , (0 : Int))).2 (IntKind.wrap .i64 (x0 + (1 : Int))) x1 x2 x3 x4 (IntKind.wrap .i64 (x5 + (1 : Int))) x6 x7 x8 x9 x10 x11 x12
       (fun b2585 i2586 l2587 l2588 i2589 i2590 i2591 l2592 l2593 i2594 l2595 l2596 l2597 l2598 => br b2585
        (k0 i2586 l2587 l2588 i2589 i2590 i2591 l2592 l2593 i2594 l2595 l2596 l2597 l2598)
        (c2 (List.getD x6 (Int.toNat x0) ((0 : Int) , (0 : Int))).1 (List.getD x6 (Int.toNat x0) ((0 : Int) , (0 : Int))).2 i2586 l2587 l2588 i2589 i2590 i2591 l2592 l2593 l2597 i2594 l2595 l2596 l2598
         (fun i2599 l2600 l2601 i2602 i2603 i2604 l2605 l2606 i2607 l2608 l2609 l2610 l2611 => c0 (List.getD x6 (Int.toNat x0) ((0 : Int) , (0 : Int))).1 i2599 l2600 l2601 i2602 i2603 i2604 l2605 l2606 l2610 i2607 l2608 l2609 l2611
          (fun i2612 l2613 l2614 i2615 i2616 i2617 l2618 l2619 i2620 l2621 l2622 l2623 l2624 => k0 i2612 l2613 l2614 i2615 i2616 i2617 l2618 l2619 i2620 l2621 l2622 l2623 l2624))))))))
   (none))
  (none)
noncomputable def run_machine_step_9c77 (N : Nat) {R : Type} (x0 : Int) (x1 : T1) (x2 : T1) (x3 : Int) (x4 : Int) (x5 : Int) (x6 : T2) (x7 : T3) (x8 : T1) (x9 : Int) (x10 : T6) (x11 : T7) (x12 : T4) (k0 : Int → T1 → T1 → Int → Int → Int → T2 → T3 → Int → T6 → T7 → T1 → T4 → Option R) : Option R := run_machine_step_9c77_T N (@run_machine_call_3c75 N) (@run_machine_call_61a1 N) (@run_machine_named_ffdd N) (@run_machine_named_e571 N) (@run_machine_plain_ffdd N) (@run_machine_plain_e571 N) (@run_machine_reckon_3c75 N) (@run_machine_reckon_61a1 N) (@run_machine_answer_6121 N) (@run_machine_answer_9b59 N) (@run_machine_answer_c21d N) (@run_machine_answer_684b N) (@inst_Takes N) (@fails_Fails_Next_054a N) (@inst_Falls N) x0 x1 x2 x3 x4 x5 x6 x7 x8 x9 x10 x11 x12 k0
abbrev run_machine_step_6326_Ty : Type 1 := {R : Type} → Int → T1 → T1 → Int → Int → Int → T2 → T3 → T1 → T1 → Int → T8 → T5 → T2 → Int → T6 → T7 → T4 → (Int → T1 → T1 → Int → Int → Int → T2 → T3 → T1 → Int → T8 → T5 → Int → T6 → T7 → T1 → T4 → T2 → Option R) → Option R
noncomputable def run_machine_step_6326_T (N : Nat) (c0 : run_machine_call_3c75_Ty) (c1 : run_machine_call_61a1_Ty) (c2 : run_machine_named_ffdd_Ty) (c3 : run_machine_named_e571_Ty) (c4 : run_machine_plain_ffdd_Ty) (c5 : run_machine_plain_e571_Ty) (c6 : run_machine_reckon_3c75_Ty) (c7 : run_machine_reckon_61a1_Ty) (c8 : run_machine_answer_6121_Ty) (c9 : run_machine_answer_9b59_Ty) (c10 : run_machine_answer_c21d_Ty) (c11 : run_machine_answer_684b_Ty) (c12 : inst_Takes_Ty) (c13 : fails_Fails_Next_054a_Ty) (c14 : inst_Falls_Ty) {R : Type} (x0 : Int) (x1 : T1) (x2 : T1) (x3 : Int) (x4 : Int) (x5 : Int) (x6 : T2) (x7 : T3) (x8 : T1) (x9 : T1) (x10 : Int) (x11 : T8) (x12 : T5) (x13 : T2) (x14 : Int) (x15 : T6) (x16 : T7) (x17 : T4) (k0 : Int → T1 → T1 → Int → Int → Int → T2 → T3 → T1 → Int → T8 → T5 → Int → T6 → T7 → T1 → T4 → T2 → Option R) : Option R :=
  br (inB x0 (List.length x6))
  (br (decide ((Int.toNat x0) < (List.length x6)))
   (c14 (List.getD x6 (Int.toNat x0) ((0 : Int) , (0 : Int))).1
    (fun b6549 => br b6549
     (c13 x14 x15
      (fun b6550 i6551 l6552 => br b6550
       (c12 (List.getD x6 (Int.toNat x0) ((0 : Int) , (0 : Int))).1
        (fun i6553 => br (decide ((Nat.cast (List.length x8) : Int) = (Nat.cast (List.length x8) : Int)))
         (br (leB (IntKind.wrap .i64 ((Nat.cast (List.length x8) : Int) - i6553)) (List.length x8))
          (c10 (65285 : Int) (IntKind.wrap .i64 (x0 + (1 : Int))) ((Int.toNat (IntKind.wrap .i64 ((Nat.cast (List.length x8) : Int) - i6553))) - (0 : Nat)) ((List.length x8) - (0 : Nat)) x1 x2 x3 x4 (IntKind.wrap .i64 (x5 + (1 : Int))) x6 x7 (List.length x8) x8 x9 x10 x11 x12 x13 i6551 l6552 x16 x17
           (fun i6554 l6555 l6556 i6557 i6558 i6559 l6560 l6561 l6562 i6563 l6564 l6565 l6566 i6567 l6568 l6569 l6570 l6571 => k0 i6554 l6555 l6556 i6557 i6558 i6559 l6560 l6561 l6562 i6563 l6564 l6565 i6567 l6568 l6569 l6570 l6571 l6566))
          (none))
         (none)))
       (br (decide ((5 : Int) ≤ (List.getD x6 (Int.toNat x0) ((0 : Int) , (0 : Int))).1))
        (br (decide ((List.getD x6 (Int.toNat x0) ((0 : Int) , (0 : Int))).1 ≤ (16 : Int)))
         (c7 (List.getD x6 (Int.toNat x0) ((0 : Int) , (0 : Int))).1 (IntKind.wrap .i64 (x0 + (1 : Int))) x1 x2 x3 x4 (IntKind.wrap .i64 (x5 + (1 : Int))) x6 x7 x8 x9 x10 x11 x12 x13 i6551 l6552 x16 x17
          (fun i6572 l6573 l6574 i6575 i6576 i6577 l6578 l6579 l6580 i6581 l6582 l6583 l6584 i6585 l6586 l6587 l6588 l6589 => k0 i6572 l6573 l6574 i6575 i6576 i6577 l6578 l6579 l6580 i6581 l6582 l6583 i6585 l6586 l6587 l6589 l6588 l6584))
         (c5 (List.getD x6 (Int.toNat x0) ((0 : Int) , (0 : Int))).1 (List.getD x6 (Int.toNat x0) ((0 : Int) , (0 : Int))).2 (IntKind.wrap .i64 (x0 + (1 : Int))) x1 x2 x3 x4 (IntKind.wrap .i64 (x5 + (1 : Int))) x6 x7 x8 x9 x10 x11 x12 x13 i6551 l6552 x16 x17
          (fun b6590 i6591 l6592 l6593 i6594 i6595 i6596 l6597 l6598 l6599 i6600 l6601 l6602 l6603 i6604 l6605 l6606 l6607 l6608 => br b6590
           (k0 i6591 l6592 l6593 i6594 i6595 i6596 l6597 l6598 l6599 i6600 l6601 l6602 i6604 l6605 l6606 l6607 l6608 l6603)
           (c3 (List.getD x6 (Int.toNat x0) ((0 : Int) , (0 : Int))).1 (List.getD x6 (Int.toNat x0) ((0 : Int) , (0 : Int))).2 i6591 l6592 l6593 i6594 i6595 i6596 l6597 l6598 l6607 l6599 i6600 l6601 l6602 l6603 i6604 l6605 l6606 l6608
            (fun i6609 l6610 l6611 i6612 i6613 i6614 l6615 l6616 l6617 i6618 l6619 l6620 i6621 l6622 l6623 l6624 l6625 l6626 => c1 (List.getD x6 (Int.toNat x0) ((0 : Int) , (0 : Int))).1 i6609 l6610 l6611 i6612 i6613 i6614 l6615 l6616 l6624 l6617 i6618 l6619 l6620 l6626 i6621 l6622 l6623 l6625
             (fun i6627 l6628 l6629 i6630 i6631 i6632 l6633 l6634 l6635 i6636 l6637 l6638 l6639 i6640 l6641 l6642 l6643 l6644 => k0 i6627 l6628 l6629 i6630 i6631 i6632 l6633 l6634 l6635 i6636 l6637 l6638 i6640 l6641 l6642 l6643 l6644 l6639))))))
        (c5 (List.getD x6 (Int.toNat x0) ((0 : Int) , (0 : Int))).1 (List.getD x6 (Int.toNat x0) ((0 : Int) , (0 : Int))).2 (IntKind.wrap .i64 (x0 + (1 : Int))) x1 x2 x3 x4 (IntKind.wrap .i64 (x5 + (1 : Int))) x6 x7 x8 x9 x10 x11 x12 x13 i6551 l6552 x16 x17
         (fun b6645 i6646 l6647 l6648 i6649 i6650 i6651 l6652 l6653 l6654 i6655 l6656 l6657 l6658 i6659 l6660 l6661 l6662 l6663 => br b6645
          (k0 i6646 l6647 l6648 i6649 i6650 i6651 l6652 l6653 l6654 i6655 l6656 l6657 i6659 l6660 l6661 l6662 l6663 l6658)
          (c3 (List.getD x6 (Int.toNat x0) ((0 : Int) , (0 : Int))).1 (List.getD x6 (Int.toNat x0) ((0 : Int) , (0 : Int))).2 i6646 l6647 l6648 i6649 i6650 i6651 l6652 l6653 l6662 l6654 i6655 l6656 l6657 l6658 i6659 l6660 l6661 l6663
           (fun i6664 l6665 l6666 i6667 i6668 i6669 l6670 l6671 l6672 i6673 l6674 l6675 i6676 l6677 l6678 l6679 l6680 l6681 => c1 (List.getD x6 (Int.toNat x0) ((0 : Int) , (0 : Int))).1 i6664 l6665 l6666 i6667 i6668 i6669 l6670 l6671 l6679 l6672 i6673 l6674 l6675 l6681 i6676 l6677 l6678 l6680
            (fun i6682 l6683 l6684 i6685 i6686 i6687 l6688 l6689 l6690 i6691 l6692 l6693 l6694 i6695 l6696 l6697 l6698 l6699 => k0 i6682 l6683 l6684 i6685 i6686 i6687 l6688 l6689 l6690 i6691 l6692 l6693 i6695 l6696 l6697 l6698 l6699 l6694))))))))
     (br (decide ((5 : Int) ≤ (List.getD x6 (Int.toNat x0) ((0 : Int) , (0 : Int))).1))
      (br (decide ((List.getD x6 (Int.toNat x0) ((0 : Int) , (0 : Int))).1 ≤ (16 : Int)))
       (c7 (List.getD x6 (Int.toNat x0) ((0 : Int) , (0 : Int))).1 (IntKind.wrap .i64 (x0 + (1 : Int))) x1 x2 x3 x4 (IntKind.wrap .i64 (x5 + (1 : Int))) x6 x7 x8 x9 x10 x11 x12 x13 x14 x15 x16 x17
        (fun i6700 l6701 l6702 i6703 i6704 i6705 l6706 l6707 l6708 i6709 l6710 l6711 l6712 i6713 l6714 l6715 l6716 l6717 => k0 i6700 l6701 l6702 i6703 i6704 i6705 l6706 l6707 l6708 i6709 l6710 l6711 i6713 l6714 l6715 l6717 l6716 l6712))
       (c5 (List.getD x6 (Int.toNat x0) ((0 : Int) , (0 : Int))).1 (List.getD x6 (Int.toNat x0) ((0 : Int) , (0 : Int))).2 (IntKind.wrap .i64 (x0 + (1 : Int))) x1 x2 x3 x4 (IntKind.wrap .i64 (x5 + (1 : Int))) x6 x7 x8 x9 x10 x11 x12 x13 x14 x15 x16 x17
        (fun b6718 i6719 l6720 l6721 i6722 i6723 i6724 l6725 l6726 l6727 i6728 l6729 l6730 l6731 i6732 l6733 l6734 l6735 l6736 => br b6718
         (k0 i6719 l6720 l6721 i6722 i6723 i6724 l6725 l6726 l6727 i6728 l6729 l6730 i6732 l6733 l6734 l6735 l6736 l6731)
         (c3 (List.getD x6 (Int.toNat x0) ((0 : Int) , (0 : Int))).1 (List.getD x6 (Int.toNat x0) ((0 : Int) , (0 : Int))).2 i6719 l6720 l6721 i6722 i6723 i6724 l6725 l6726 l6735 l6727 i6728 l6729 l6730 l6731 i6732 l6733 l6734 l6736
          (fun i6737 l6738 l6739 i6740 i6741 i6742 l6743 l6744 l6745 i6746 l6747 l6748 i6749 l6750 l6751 l6752 l6753 l6754 => c1 (List.getD x6 (Int.toNat x0) ((0 : Int) , (0 : Int))).1 i6737 l6738 l6739 i6740 i6741 i6742 l6743 l6744 l6752 l6745 i6746 l6747 l6748 l6754 i6749 l6750 l6751 l6753
           (fun i6755 l6756 l6757 i6758 i6759 i6760 l6761 l6762 l6763 i6764 l6765 l6766 l6767 i6768 l6769 l6770 l6771 l6772 => k0 i6755 l6756 l6757 i6758 i6759 i6760 l6761 l6762 l6763 i6764 l6765 l6766 i6768 l6769 l6770 l6771 l6772 l6767))))))
      (c5 (List.getD x6 (Int.toNat x0) ((0 : Int) , (0 : Int))).1 (List.getD x6 (Int.toNat x0) ((0 : Int) , (0 : Int))).2 (IntKind.wrap .i64 (x0 + (1 : Int))) x1 x2 x3 x4 (IntKind.wrap .i64 (x5 + (1 : Int))) x6 x7 x8 x9 x10 x11 x12 x13 x14 x15 x16 x17
       (fun b6773 i6774 l6775 l6776 i6777 i6778 i6779 l6780 l6781 l6782 i6783 l6784 l6785 l6786 i6787 l6788 l6789 l6790 l6791 => br b6773
        (k0 i6774 l6775 l6776 i6777 i6778 i6779 l6780 l6781 l6782 i6783 l6784 l6785 i6787 l6788 l6789 l6790 l6791 l6786)
        (c3 (List.getD x6 (Int.toNat x0) ((0 : Int) , (0 : Int))).1 (List.getD x6 (Int.toNat x0) ((0 : Int) , (0 : Int))).2 i6774 l6775 l6776 i6777 i6778 i6779 l6780 l6781 l6790 l6782 i6783 l6784 l6785 l6786 i6787 l6788 l6789 l6791
         (fun i6792 l6793 l6794 i6795 i6796 i6797 l6798 l6799 l6800 i6801 l6802 l6803 i6804 l6805 l6806 l6807 l6808 l6809 => c1 (List.getD x6 (Int.toNat x0) ((0 : Int) , (0 : Int))).1 i6792 l6793 l6794 i6795 i6796 i6797 l6798 l6799 l6807 l6800 i6801 l6802 l6803 l6809 i6804 l6805 l6806 l6808
          (fun i6810 l6811 l6812 i6813 i6814 i6815 l6816 l6817 l6818 i6819 l6820 l6821 l6822 i6823 l6824 l6825 l6826 l6827 => k0 i6810 l6811 l6812 i6813 i6814 i6815 l6816 l6817 l6818 i6819 l6820 l6821 i6823 l6824 l6825 l6826 l6827 l6822))))))))
   (none))
  (none)
noncomputable def run_machine_step_6326 (N : Nat) {R : Type} (x0 : Int) (x1 : T1) (x2 : T1) (x3 : Int) (x4 : Int) (x5 : Int) (x6 : T2) (x7 : T3) (x8 : T1) (x9 : T1) (x10 : Int) (x11 : T8) (x12 : T5) (x13 : T2) (x14 : Int) (x15 : T6) (x16 : T7) (x17 : T4) (k0 : Int → T1 → T1 → Int → Int → Int → T2 → T3 → T1 → Int → T8 → T5 → Int → T6 → T7 → T1 → T4 → T2 → Option R) : Option R := run_machine_step_6326_T N (@run_machine_call_3c75 N) (@run_machine_call_61a1 N) (@run_machine_named_ffdd N) (@run_machine_named_e571 N) (@run_machine_plain_ffdd N) (@run_machine_plain_e571 N) (@run_machine_reckon_3c75 N) (@run_machine_reckon_61a1 N) (@run_machine_answer_6121 N) (@run_machine_answer_9b59 N) (@run_machine_answer_c21d N) (@run_machine_answer_684b N) (@inst_Takes N) (@fails_Fails_Next_054a N) (@inst_Falls N) x0 x1 x2 x3 x4 x5 x6 x7 x8 x9 x10 x11 x12 x13 x14 x15 x16 x17 k0
inductive run_all_32d2_S0 where
  | v0 (x0 : Int) (x1 : T2) (x2 : T3) (x3 : T7) (x4 : T7) (x5 : T6)
  | v1 (x0 : Int) (x1 : T2) (x2 : T3) (x3 : T7) (x4 : T7) (x5 : T6) (x6 : Int) (x7 : T1) (x8 : T1) (x9 : Int) (x10 : Int) (x11 : Int) (x12 : T1) (x13 : Int) (x14 : T6) (x15 : T4)
  | v2 (x0 : Int) (x1 : T2) (x2 : T3) (x3 : T7) (x4 : T7) (x5 : T6) (x6 : Int) (x7 : T1) (x8 : T1) (x9 : Int) (x10 : Int) (x11 : Int) (x12 : T1) (x13 : T1) (x14 : Int) (x15 : T8) (x16 : T5) (x17 : T2) (x18 : Int) (x19 : T6) (x20 : T4)
abbrev run_all_32d2_l0_Ty : Type 1 := {R : Type} → (T2 → T3 → T7 → T7 → T6 → Int → T1 → T1 → Int → Int → Int → T1 → Int → T6 → T4 → Option R) → (T2 → T3 → T7 → T7 → T6 → Int → T1 → T1 → Int → Int → Int → T1 → T1 → Int → T8 → T5 → T2 → Int → T6 → T4 → Option R) → Nat → run_all_32d2_S0 → Option R
abbrev run_all_32d2_Ty : Type 1 := {R : Type} → Int → T2 → T3 → T7 → T7 → T6 → (Int → T2 → T3 → T7 → T7 → T6 → Option R) → (Int → T2 → T3 → T7 → T7 → T6 → Int → T1 → T1 → Int → Int → Int → T1 → Int → T6 → T4 → Option R) → (Int → T2 → T3 → T7 → T7 → T6 → Int → T1 → T1 → Int → Int → Int → T1 → T1 → Int → T8 → T5 → T2 → Int → T6 → T4 → Option R) → Option R
noncomputable def run_all_32d2_l0_T0 (N : Nat) (c0 : run_machine_step_9c77_Ty) (c1 : run_machine_step_6326_Ty) (c2 : run_machine_end_5a2b_Ty) (c3 : run_machine_end_3f90_Ty) (c4 : run_made_32d2_Ty) {R : Type} (nx : run_all_32d2_S0 → Option R) (k0 : T2 → T3 → T7 → T7 → T6 → Int → T1 → T1 → Int → Int → Int → T1 → Int → T6 → T4 → Option R) (k1 : T2 → T3 → T7 → T7 → T6 → Int → T1 → T1 → Int → Int → Int → T1 → T1 → Int → T8 → T5 → T2 → Int → T6 → T4 → Option R) (x0 : Int) (x1 : T2) (x2 : T3) (x3 : T7) (x4 : T7) (x5 : T6) : Option R :=
  none
noncomputable def run_all_32d2_l0_T1 (N : Nat) (c0 : run_machine_step_9c77_Ty) (c1 : run_machine_step_6326_Ty) (c2 : run_machine_end_5a2b_Ty) (c3 : run_machine_end_3f90_Ty) (c4 : run_made_32d2_Ty) {R : Type} (nx : run_all_32d2_S0 → Option R) (k0 : T2 → T3 → T7 → T7 → T6 → Int → T1 → T1 → Int → Int → Int → T1 → Int → T6 → T4 → Option R) (k1 : T2 → T3 → T7 → T7 → T6 → Int → T1 → T1 → Int → Int → Int → T1 → T1 → Int → T8 → T5 → T2 → Int → T6 → T4 → Option R) (x0 : Int) (x1 : T2) (x2 : T3) (x3 : T7) (x4 : T7) (x5 : T6) (x6 : Int) (x7 : T1) (x8 : T1) (x9 : Int) (x10 : Int) (x11 : Int) (x12 : T1) (x13 : Int) (x14 : T6) (x15 : T4) : Option R :=
  br (decide (x9 = (0 : Int)))
  (br (decide (x11 = x0))
   (c2 (5 : Int) (0 : Int) x6 x7 x8 x9 x10 x11 x1 x2 x12 x13 x14 x4 x15
    (fun i6887 l6888 l6889 i6890 i6891 i6892 l6893 l6894 l6895 i6896 l6897 l6898 l6899 => k0 l6893 l6894 x3 l6898 x5 i6887 l6888 l6889 i6890 i6891 i6892 l6895 i6896 l6897 l6899))
   (c0 x6 x7 x8 x9 x10 x11 x1 x2 x12 x13 x14 x4 x15
    (fun i6900 l6901 l6902 i6903 i6904 i6905 l6906 l6907 i6908 l6909 l6910 l6911 l6912 => nx (.v1 x0 l6906 l6907 x3 l6910 x5 i6900 l6901 l6902 i6903 i6904 i6905 l6911 i6908 l6909 l6912))))
  (k0 x1 x2 x3 x4 x5 x6 x7 x8 x9 x10 x11 x12 x13 x14 x15)
noncomputable def run_all_32d2_l0_T2 (N : Nat) (c0 : run_machine_step_9c77_Ty) (c1 : run_machine_step_6326_Ty) (c2 : run_machine_end_5a2b_Ty) (c3 : run_machine_end_3f90_Ty) (c4 : run_made_32d2_Ty) {R : Type} (nx : run_all_32d2_S0 → Option R) (k0 : T2 → T3 → T7 → T7 → T6 → Int → T1 → T1 → Int → Int → Int → T1 → Int → T6 → T4 → Option R) (k1 : T2 → T3 → T7 → T7 → T6 → Int → T1 → T1 → Int → Int → Int → T1 → T1 → Int → T8 → T5 → T2 → Int → T6 → T4 → Option R) (x0 : Int) (x1 : T2) (x2 : T3) (x3 : T7) (x4 : T7) (x5 : T6) (x6 : Int) (x7 : T1) (x8 : T1) (x9 : Int) (x10 : Int) (x11 : Int) (x12 : T1) (x13 : T1) (x14 : Int) (x15 : T8) (x16 : T5) (x17 : T2) (x18 : Int) (x19 : T6) (x20 : T4) : Option R :=
  br (decide (x9 = (0 : Int)))
  (br (decide (x11 = x0))
   (c3 (5 : Int) (0 : Int) x6 x7 x8 x9 x10 x11 x1 x2 x12 x13 x14 x15 x16 x17 x18 x19 x4 x20
    (fun i6913 l6914 l6915 i6916 i6917 i6918 l6919 l6920 l6921 l6922 i6923 l6924 l6925 l6926 i6927 l6928 l6929 l6930 => k1 l6919 l6920 x3 l6929 x5 i6913 l6914 l6915 i6916 i6917 i6918 l6921 l6922 i6923 l6924 l6925 l6926 i6927 l6928 l6930))
   (c1 x6 x7 x8 x9 x10 x11 x1 x2 x12 x13 x14 x15 x16 x17 x18 x19 x4 x20
    (fun i6931 l6932 l6933 i6934 i6935 i6936 l6937 l6938 l6939 i6940 l6941 l6942 i6943 l6944 l6945 l6946 l6947 l6948 => nx (.v2 x0 l6937 l6938 x3 l6945 x5 i6931 l6932 l6933 i6934 i6935 i6936 l6946 l6939 i6940 l6941 l6942 l6948 i6943 l6944 l6947))))
  (k1 x1 x2 x3 x4 x5 x6 x7 x8 x9 x10 x11 x12 x13 x14 x15 x16 x17 x18 x19 x20)
noncomputable def run_all_32d2_l0 (N : Nat) {R : Type} (k0 : T2 → T3 → T7 → T7 → T6 → Int → T1 → T1 → Int → Int → Int → T1 → Int → T6 → T4 → Option R) (k1 : T2 → T3 → T7 → T7 → T6 → Int → T1 → T1 → Int → Int → Int → T1 → T1 → Int → T8 → T5 → T2 → Int → T6 → T4 → Option R) : Nat → run_all_32d2_S0 → Option R
  | 0, _ => none
  | n + 1, .v0 x0 x1 x2 x3 x4 x5 => run_all_32d2_l0_T0 N (@run_machine_step_9c77 N) (@run_machine_step_6326 N) (@run_machine_end_5a2b N) (@run_machine_end_3f90 N) (@run_made_32d2 N) (fun s => run_all_32d2_l0 N k0 k1 n s) k0 k1 x0 x1 x2 x3 x4 x5
  | n + 1, .v1 x0 x1 x2 x3 x4 x5 x6 x7 x8 x9 x10 x11 x12 x13 x14 x15 => run_all_32d2_l0_T1 N (@run_machine_step_9c77 N) (@run_machine_step_6326 N) (@run_machine_end_5a2b N) (@run_machine_end_3f90 N) (@run_made_32d2 N) (fun s => run_all_32d2_l0 N k0 k1 n s) k0 k1 x0 x1 x2 x3 x4 x5 x6 x7 x8 x9 x10 x11 x12 x13 x14 x15
  | n + 1, .v2 x0 x1 x2 x3 x4 x5 x6 x7 x8 x9 x10 x11 x12 x13 x14 x15 x16 x17 x18 x19 x20 => run_all_32d2_l0_T2 N (@run_machine_step_9c77 N) (@run_machine_step_6326 N) (@run_machine_end_5a2b N) (@run_machine_end_3f90 N) (@run_made_32d2 N) (fun s => run_all_32d2_l0 N k0 k1 n s) k0 k1 x0 x1 x2 x3 x4 x5 x6 x7 x8 x9 x10 x11 x12 x13 x14 x15 x16 x17 x18 x19 x20
noncomputable def run_all_32d2_T (N : Nat) (c0 : run_machine_step_9c77_Ty) (c1 : run_machine_step_6326_Ty) (c2 : run_machine_end_5a2b_Ty) (c3 : run_machine_end_3f90_Ty) (c4 : run_made_32d2_Ty) (w0 : run_all_32d2_l0_Ty) {R : Type} (x0 : Int) (x1 : T2) (x2 : T3) (x3 : T7) (x4 : T7) (x5 : T6) (k0 : Int → T2 → T3 → T7 → T7 → T6 → Option R) (k1 : Int → T2 → T3 → T7 → T7 → T6 → Int → T1 → T1 → Int → Int → Int → T1 → Int → T6 → T4 → Option R) (k2 : Int → T2 → T3 → T7 → T7 → T6 → Int → T1 → T1 → Int → Int → Int → T1 → T1 → Int → T8 → T5 → T2 → Int → T6 → T4 → Option R) : Option R :=
  c4 x0 x1 x2 x3 x4 x5
  (fun i6881 l6882 l6883 l6884 l6885 l6886 => br (!(decide (i6881 = (0 : Int))))
   (k0 i6881 l6882 l6883 l6884 l6885 l6886)
   (w0
    (fun l6949 l6950 l6951 l6952 l6953 i6954 l6955 l6956 i6957 i6958 i6959 l6960 i6961 l6962 l6963 => k1 (0 : Int) l6949 l6950 l6951 l6952 l6953 i6954 l6955 l6956 i6957 i6958 i6959 l6960 i6961 l6962 l6963)
    (fun l6964 l6965 l6966 l6967 l6968 i6969 l6970 l6971 i6972 i6973 i6974 l6975 l6976 i6977 l6978 l6979 l6980 i6981 l6982 l6983 => k2 (0 : Int) l6964 l6965 l6966 l6967 l6968 i6969 l6970 l6971 i6972 i6973 i6974 l6975 l6976 i6977 l6978 l6979 l6980 i6981 l6982 l6983)
    N (.v0 x0 l6882 l6883 l6884 l6885 l6886)))
  (fun i6984 l6985 l6986 l6987 l6988 l6989 i6990 l6991 l6992 i6993 i6994 i6995 l6996 i6997 l6998 l6999 => br (!(decide (i6984 = (0 : Int))))
   (k0 i6984 l6985 l6986 l6987 l6988 l6989)
   (w0
    (fun l7000 l7001 l7002 l7003 l7004 i7005 l7006 l7007 i7008 i7009 i7010 l7011 i7012 l7013 l7014 => k1 (0 : Int) l7000 l7001 l7002 l7003 l7004 i7005 l7006 l7007 i7008 i7009 i7010 l7011 i7012 l7013 l7014)
    (fun l7015 l7016 l7017 l7018 l7019 i7020 l7021 l7022 i7023 i7024 i7025 l7026 l7027 i7028 l7029 l7030 l7031 i7032 l7033 l7034 => k2 (0 : Int) l7015 l7016 l7017 l7018 l7019 i7020 l7021 l7022 i7023 i7024 i7025 l7026 l7027 i7028 l7029 l7030 l7031 i7032 l7033 l7034)
    N (.v1 x0 l6985 l6986 l6987 l6988 l6989 i6990 l6991 l6992 i6993 i6994 i6995 l6996 i6997 l6998 l6999)))
  (fun i7035 l7036 l7037 l7038 l7039 l7040 i7041 l7042 l7043 i7044 i7045 i7046 l7047 l7048 i7049 l7050 l7051 l7052 i7053 l7054 l7055 => br (!(decide (i7035 = (0 : Int))))
   (k0 i7035 l7036 l7037 l7038 l7039 l7040)
   (w0
    (fun l7056 l7057 l7058 l7059 l7060 i7061 l7062 l7063 i7064 i7065 i7066 l7067 i7068 l7069 l7070 => k1 (0 : Int) l7056 l7057 l7058 l7059 l7060 i7061 l7062 l7063 i7064 i7065 i7066 l7067 i7068 l7069 l7070)
    (fun l7071 l7072 l7073 l7074 l7075 i7076 l7077 l7078 i7079 i7080 i7081 l7082 l7083 i7084 l7085 l7086 l7087 i7088 l7089 l7090 => k2 (0 : Int) l7071 l7072 l7073 l7074 l7075 i7076 l7077 l7078 i7079 i7080 i7081 l7082 l7083 i7084 l7085 l7086 l7087 i7088 l7089 l7090)
    N (.v2 x0 l7036 l7037 l7038 l7039 l7040 i7041 l7042 l7043 i7044 i7045 i7046 l7047 l7048 i7049 l7050 l7051 l7052 i7053 l7054 l7055)))
noncomputable def run_all_32d2 (N : Nat) {R : Type} (x0 : Int) (x1 : T2) (x2 : T3) (x3 : T7) (x4 : T7) (x5 : T6) (k0 : Int → T2 → T3 → T7 → T7 → T6 → Option R) (k1 : Int → T2 → T3 → T7 → T7 → T6 → Int → T1 → T1 → Int → Int → Int → T1 → Int → T6 → T4 → Option R) (k2 : Int → T2 → T3 → T7 → T7 → T6 → Int → T1 → T1 → Int → Int → Int → T1 → T1 → Int → T8 → T5 → T2 → Int → T6 → T4 → Option R) : Option R := run_all_32d2_T N (@run_machine_step_9c77 N) (@run_machine_step_6326 N) (@run_machine_end_5a2b N) (@run_machine_end_3f90 N) (@run_made_32d2 N) (@run_all_32d2_l0 N) x0 x1 x2 x3 x4 x5 k0 k1 k2
abbrev run_Run_bc75_Ty : Type 1 := {R : Type} → Int → T2 → (Int → Int → Int → T2 → T4 → Option R) → Option R
noncomputable def run_Run_bc75_T (N : Nat) (c0 : run_all_32d2_Ty) {R : Type} (x0 : Int) (x1 : T2) (k0 : Int → Int → Int → T2 → T4 → Option R) : Option R :=
  c0 x0 x1 ([] : List (Sh.str.T)) ([] : List ((Sh.int IntKind.u8).isl.T)) ([] : List ((Sh.int IntKind.u8).isl.T)) ([] : List (Sh.bool.T))
  (fun i7091 l7092 l7093 l7094 l7095 l7096 => br (!(decide (i7091 = (0 : Int))))
   (k0 (0 : Int) (0 : Int) i7091 l7092 ([] : List ((Sh.bool.pair (Sh.int IntKind.u16)).T)))
   (none))
  (fun i7097 l7098 l7099 l7100 l7101 l7102 i7103 l7104 l7105 i7106 i7107 i7108 l7109 i7110 l7111 l7112 => br (!(decide (i7097 = (0 : Int))))
   (k0 (0 : Int) (0 : Int) i7097 l7098 ([] : List ((Sh.bool.pair (Sh.int IntKind.u16)).T)))
   (k0 i7106 i7107 (0 : Int) l7098 l7112))
  (fun i7113 l7114 l7115 l7116 l7117 l7118 i7119 l7120 l7121 i7122 i7123 i7124 l7125 l7126 i7127 l7128 l7129 l7130 i7131 l7132 l7133 => br (!(decide (i7113 = (0 : Int))))
   (k0 (0 : Int) (0 : Int) i7113 l7114 ([] : List ((Sh.bool.pair (Sh.int IntKind.u16)).T)))
   (k0 i7122 i7123 (0 : Int) l7114 l7133))
noncomputable def run_Run_bc75 (N : Nat) {R : Type} (x0 : Int) (x1 : T2) (k0 : Int → Int → Int → T2 → T4 → Option R) : Option R := run_Run_bc75_T N (@run_all_32d2 N) x0 x1 k0
abbrev run_Run_99d4_Ty : Type 1 := {R : Type} → Int → T2 → T3 → (Int → Int → Int → T2 → T3 → T4 → Option R) → Option R
noncomputable def run_Run_99d4_T (N : Nat) (c0 : run_all_32d2_Ty) {R : Type} (x0 : Int) (x1 : T2) (x2 : T3) (k0 : Int → Int → Int → T2 → T3 → T4 → Option R) : Option R :=
  c0 x0 x1 x2 ([] : List ((Sh.int IntKind.u8).isl.T)) ([] : List ((Sh.int IntKind.u8).isl.T)) ([] : List (Sh.bool.T))
  (fun i7197 l7198 l7199 l7200 l7201 l7202 => br (!(decide (i7197 = (0 : Int))))
   (k0 (0 : Int) (0 : Int) i7197 l7198 l7199 ([] : List ((Sh.bool.pair (Sh.int IntKind.u16)).T)))
   (none))
  (fun i7203 l7204 l7205 l7206 l7207 l7208 i7209 l7210 l7211 i7212 i7213 i7214 l7215 i7216 l7217 l7218 => br (!(decide (i7203 = (0 : Int))))
   (k0 (0 : Int) (0 : Int) i7203 l7204 l7205 ([] : List ((Sh.bool.pair (Sh.int IntKind.u16)).T)))
   (k0 i7212 i7213 (0 : Int) l7204 l7205 l7218))
  (fun i7219 l7220 l7221 l7222 l7223 l7224 i7225 l7226 l7227 i7228 i7229 i7230 l7231 l7232 i7233 l7234 l7235 l7236 i7237 l7238 l7239 => br (!(decide (i7219 = (0 : Int))))
   (k0 (0 : Int) (0 : Int) i7219 l7220 l7221 ([] : List ((Sh.bool.pair (Sh.int IntKind.u16)).T)))
   (k0 i7228 i7229 (0 : Int) l7220 l7221 l7239))
noncomputable def run_Run_99d4 (N : Nat) {R : Type} (x0 : Int) (x1 : T2) (x2 : T3) (k0 : Int → Int → Int → T2 → T3 → T4 → Option R) : Option R := run_Run_99d4_T N (@run_all_32d2 N) x0 x1 x2 k0
end Go.Proofs.Ythdgncnbnallcaa
