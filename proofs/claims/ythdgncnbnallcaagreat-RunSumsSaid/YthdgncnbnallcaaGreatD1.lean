/-
  The functions that the statement reaches, each as a function of Lean, the first of them (printed by a program of this work).
-/
import Derived.Test.YthdgncnbnallcaaGreatGx5
set_option linter.unusedVariables false
set_option maxRecDepth 100000
namespace Go.Proofs.YthdgncnbnallcaaGreat
open Go.Gx
abbrev stringslite_IndexByte_Ty : Type 1 := {R : Type} → (ByteArray) → (Int) → ((Int) → Option R) → Option R
abbrev stringslite_Index_Ty : Type 1 := {R : Type} → (ByteArray) → (ByteArray) → ((Int) → Option R) → Option R
noncomputable def stringslite_Index_T (N : Nat) (c0 : stringslite_IndexByte_Ty) {R : Type} (x0 : ByteArray) (x1 : ByteArray) (k0 : (Int) → Option R) : Option R :=
  br (!(decide ((Nat.cast (ByteArray.size x1) : Int) = (0 : Int))))
  (br (decide (x1 = x0))
   (k0 (0 : Int))
   (br (decide ((Nat.cast (ByteArray.size x1) : Int) = (1 : Int)))
    (br (inB (0 : Int) (ByteArray.size x1))
     (c0 x0 (bt x1 (0 : Int))
      (fun i0 => k0 i0))
     (none))
    (br (decide ((Nat.cast (ByteArray.size x0) : Int) ≤ (Nat.cast (ByteArray.size x1) : Int)))
     (k0 (-1 : Int))
     (none))))
  (k0 (0 : Int))
noncomputable def stringslite_Index (N : Nat) {R : Type} (x0 : ByteArray) (x1 : ByteArray) (k0 : (Int) → Option R) : Option R := stringslite_Index_T N @stringslite_IndexByte x0 x1 k0
abbrev stringslite_Cut_Ty : Type 1 := {R : Type} → (ByteArray) → (ByteArray) → ((ByteArray) → (ByteArray) → (Bool) → Option R) → Option R
noncomputable def stringslite_Cut_T (N : Nat) (c0 : stringslite_Index_Ty) {R : Type} (x0 : ByteArray) (x1 : ByteArray) (k0 : (ByteArray) → (ByteArray) → (Bool) → Option R) : Option R :=
  c0 x0 x1
  (fun i1 => br (decide ((0 : Int) ≤ i1))
   (br (leB i1 (ByteArray.size x0))
    (br (leB (IntKind.wrap .i64 (i1 + (Nat.cast (ByteArray.size x1) : Int))) (ByteArray.size x0))
     (k0 (ByteArray.extract x0 (0 : Nat) (Int.toNat i1)) (ByteArray.extract x0 (Int.toNat (IntKind.wrap .i64 (i1 + (Nat.cast (ByteArray.size x1) : Int)))) (ByteArray.size x0)) true)
     (none))
    (none))
   (k0 x0 (bs []) false))
noncomputable def stringslite_Cut (N : Nat) {R : Type} (x0 : ByteArray) (x1 : ByteArray) (k0 : (ByteArray) → (ByteArray) → (Bool) → Option R) : Option R := stringslite_Cut_T N (@stringslite_Index N) x0 x1 k0
abbrev strings_Cut_Ty : Type 1 := {R : Type} → (ByteArray) → (ByteArray) → ((ByteArray) → (ByteArray) → (Bool) → Option R) → Option R
noncomputable def strings_Cut_T (N : Nat) (c0 : stringslite_Cut_Ty) {R : Type} (x0 : ByteArray) (x1 : ByteArray) (k0 : (ByteArray) → (ByteArray) → (Bool) → Option R) : Option R :=
  c0 x0 x1
  (fun s2 s3 b4 => k0 s2 s3 b4)
noncomputable def strings_Cut (N : Nat) {R : Type} (x0 : ByteArray) (x1 : ByteArray) (k0 : (ByteArray) → (ByteArray) → (Bool) → Option R) : Option R := strings_Cut_T N (@stringslite_Cut N) x0 x1 k0
abbrev check_letter_Ty : Type 1 := {R : Type} → (Int) → ((Bool) → Option R) → Option R
noncomputable def check_letter_T (N : Nat) {R : Type} (x0 : Int) (k0 : (Bool) → Option R) : Option R :=
  br (decide ((97 : Int) ≤ x0))
  (br (!(decide (x0 ≤ (122 : Int))))
   (br (decide ((48 : Int) ≤ x0))
    (br (!(decide (x0 ≤ (57 : Int))))
     (br (!(decide (x0 = (46 : Int))))
      (k0 (decide (x0 = (95 : Int))))
      (k0 true))
     (k0 true))
    (br (!(decide (x0 = (46 : Int))))
     (k0 (decide (x0 = (95 : Int))))
     (k0 true)))
   (k0 true))
  (br (decide ((48 : Int) ≤ x0))
   (br (!(decide (x0 ≤ (57 : Int))))
    (br (!(decide (x0 = (46 : Int))))
     (k0 (decide (x0 = (95 : Int))))
     (k0 true))
    (k0 true))
   (br (!(decide (x0 = (46 : Int))))
    (k0 (decide (x0 = (95 : Int))))
    (k0 true)))
noncomputable def check_letter (N : Nat) {R : Type} (x0 : Int) (k0 : (Bool) → Option R) : Option R := check_letter_T N x0 k0
abbrev check_part_l0_Ty : Type 1 := {R : Type} → ((ByteArray) → (Bool) → Option R) → ((ByteArray) → Option R) → Nat → (ByteArray) → (Int) → (Int) → Option R
abbrev check_part_Ty : Type 1 := {R : Type} → (ByteArray) → ((Bool) → Option R) → Option R
noncomputable def check_part_l0_T0 (N : Nat) (c0 : check_letter_Ty) {R : Type} (nx : (ByteArray) → (Int) → (Int) → Option R) (k0 : (ByteArray) → (Bool) → Option R) (k1 : (ByteArray) → Option R) (x0 : ByteArray) (x1 : Int) (x2 : Int) : Option R :=
  br (decide (x2 < x1))
  (br (inB x2 (ByteArray.size x0))
   (c0 (bt x0 x2)
    (fun b8 => br (!b8)
     (k0 x0 false)
     (nx x0 x1 (IntKind.wrap .i64 (x2 + (1 : Int))))))
   (none))
  (k1 x0)
noncomputable def check_part_l0 (N : Nat) {R : Type} (k0 : (ByteArray) → (Bool) → Option R) (k1 : (ByteArray) → Option R) : Nat → (ByteArray) → (Int) → (Int) → Option R
  | 0, _, _, _ => none
  | n + 1, x0, x1, x2 => check_part_l0_T0 N (@check_letter N) (fun x0 x1 x2 => check_part_l0 N k0 k1 n x0 x1 x2) k0 k1 x0 x1 x2
noncomputable def check_part_T (N : Nat) (c0 : check_letter_Ty) (w0 : check_part_l0_Ty) {R : Type} (x0 : ByteArray) (k0 : (Bool) → Option R) : Option R :=
  w0
  (fun s9 b10 => k0 b10)
  (fun s11 => br (!(decide (s11 = (bs []))))
   (br (!(decide (s11 = (bs [46]))))
    (k0 (!(decide (s11 = (bs [46, 46])))))
    (k0 false))
   (k0 false))
  N x0 (Nat.cast (ByteArray.size x0) : Int) (0 : Int)
noncomputable def check_part (N : Nat) {R : Type} (x0 : ByteArray) (k0 : (Bool) → Option R) : Option R := check_part_T N (@check_letter N) (@check_part_l0 N) x0 k0
abbrev check_Name_Ty : Type 1 := {R : Type} → (ByteArray) → ((Bool) → Option R) → Option R
noncomputable def check_Name_T (N : Nat) (c0 : check_part_Ty) (c1 : strings_Cut_Ty) {R : Type} (x0 : ByteArray) (k0 : (Bool) → Option R) : Option R :=
  br (decide ((8 : Int) < (Nat.cast (ByteArray.size x0) : Int)))
  (k0 false)
  (c1 x0 (bs [47])
   (fun s5 s6 b7 => c0 s5
    (fun b12 => br b12
     (br (!(!b7))
      (c0 s6
       (fun b13 => k0 b13))
      (k0 true))
     (k0 false))))
noncomputable def check_Name (N : Nat) {R : Type} (x0 : ByteArray) (k0 : (Bool) → Option R) : Option R := check_Name_T N (@check_part N) (@strings_Cut N) x0 k0
abbrev inst_table_Ty : Type 1 := {R : Type} → (Int) → ((Int) → (Int) → (Int) → (Bool) → Option R) → Option R
noncomputable def inst_table_T (N : Nat) {R : Type} (x0 : Int) (k0 : (Int) → (Int) → (Int) → (Bool) → Option R) : Option R :=
  br (decide (x0 = (1 : Int)))
  (k0 (0 : Int) (1 : Int) (65536 : Int) true)
  (br (decide (x0 = (2 : Int)))
   (k0 (1 : Int) (0 : Int) (1 : Int) true)
   (br (decide (x0 = (24 : Int)))
    (k0 (1 : Int) (0 : Int) (1 : Int) true)
    (br (decide (x0 = (25 : Int)))
     (k0 (1 : Int) (0 : Int) (1 : Int) true)
     (br (decide (x0 = (26 : Int)))
      (k0 (1 : Int) (0 : Int) (1 : Int) true)
      (br (decide (x0 = (3 : Int)))
       (k0 (1 : Int) (2 : Int) (1 : Int) true)
       (br (decide (x0 = (4 : Int)))
        (k0 (2 : Int) (2 : Int) (1 : Int) true)
        (br (decide (x0 = (5 : Int)))
         (k0 (2 : Int) (1 : Int) (1 : Int) true)
         (br (decide (x0 = (6 : Int)))
          (k0 (2 : Int) (1 : Int) (1 : Int) true)
          (br (decide (x0 = (7 : Int)))
           (k0 (2 : Int) (1 : Int) (1 : Int) true)
           (br (decide (x0 = (8 : Int)))
            (k0 (2 : Int) (1 : Int) (1 : Int) true)
            (br (decide (x0 = (9 : Int)))
             (k0 (2 : Int) (1 : Int) (1 : Int) true)
             (br (decide (x0 = (10 : Int)))
              (k0 (2 : Int) (1 : Int) (1 : Int) true)
              (br (decide (x0 = (11 : Int)))
               (k0 (2 : Int) (1 : Int) (1 : Int) true)
               (br (decide (x0 = (12 : Int)))
                (k0 (2 : Int) (1 : Int) (1 : Int) true)
                (br (decide (x0 = (13 : Int)))
                 (k0 (2 : Int) (1 : Int) (1 : Int) true)
                 (br (decide (x0 = (14 : Int)))
                  (k0 (2 : Int) (1 : Int) (1 : Int) true)
                  (br (decide (x0 = (15 : Int)))
                   (k0 (2 : Int) (1 : Int) (1 : Int) true)
                   (br (decide (x0 = (16 : Int)))
                    (k0 (2 : Int) (1 : Int) (1 : Int) true)
                    (br (decide (x0 = (31 : Int)))
                     (k0 (2 : Int) (1 : Int) (1 : Int) true)
                     (br (decide (x0 = (38 : Int)))
                      (k0 (2 : Int) (1 : Int) (1 : Int) true)
                      (br (decide (x0 = (41 : Int)))
                       (k0 (2 : Int) (1 : Int) (1 : Int) true)
                       (br (decide (x0 = (17 : Int)))
                        (k0 (1 : Int) (1 : Int) (1 : Int) true)
                        (br (decide (x0 = (20 : Int)))
                         (k0 (1 : Int) (1 : Int) (1 : Int) true)
                         (br (decide (x0 = (28 : Int)))
                          (k0 (1 : Int) (1 : Int) (1 : Int) true)
                          (br (decide (x0 = (32 : Int)))
                           (k0 (1 : Int) (1 : Int) (1 : Int) true)
                           (br (decide (x0 = (39 : Int)))
                            (k0 (1 : Int) (1 : Int) (1 : Int) true)
                            (br (decide (x0 = (18 : Int)))
                             (k0 (0 : Int) (1 : Int) (8 : Int) true)
                             (br (decide (x0 = (19 : Int)))
                              (k0 (1 : Int) (0 : Int) (8 : Int) true)
                              (br (decide (x0 = (21 : Int)))
                               (k0 (2 : Int) (0 : Int) (1 : Int) true)
                               (br (decide (x0 = (22 : Int)))
                                (k0 (0 : Int) (0 : Int) (96 : Int) true)
                                (br (decide (x0 = (23 : Int)))
                                 (k0 (1 : Int) (0 : Int) (96 : Int) true)
                                 (br (decide (x0 = (29 : Int)))
                                  (k0 (3 : Int) (1 : Int) (1 : Int) true)
                                  (br (decide (x0 = (30 : Int)))
                                   (k0 (3 : Int) (1 : Int) (1 : Int) true)
                                   (br (decide (x0 = (27 : Int)))
                                    (k0 (0 : Int) (1 : Int) (8 : Int) true)
                                    (br (decide (x0 = (33 : Int)))
                                     (k0 (0 : Int) (1 : Int) (8 : Int) true)
                                     (br (decide (x0 = (35 : Int)))
                                      (k0 (0 : Int) (1 : Int) (8 : Int) true)
                                      (br (decide (x0 = (36 : Int)))
                                       (k0 (0 : Int) (1 : Int) (8 : Int) true)
                                       (br (decide (x0 = (37 : Int)))
                                        (k0 (0 : Int) (1 : Int) (8 : Int) true)
                                        (br (decide (x0 = (34 : Int)))
                                         (k0 (0 : Int) (1 : Int) (64 : Int) true)
                                         (br (decide (x0 = (40 : Int)))
                                          (k0 (0 : Int) (1 : Int) (1 : Int) true)
                                          (k0 (0 : Int) (0 : Int) (0 : Int) false)))))))))))))))))))))))))))))))))))))))))
noncomputable def inst_table (N : Nat) {R : Type} (x0 : Int) (k0 : (Int) → (Int) → (Int) → (Bool) → Option R) : Option R := inst_table_T N x0 k0
abbrev inst_May_Ty : Type 1 := {R : Type} → (Int) → (Int) → ((Bool) → Option R) → Option R
noncomputable def inst_May_T (N : Nat) (c0 : inst_table_Ty) {R : Type} (x0 : Int) (x1 : Int) (k0 : (Bool) → Option R) : Option R :=
  c0 x0
  (fun i21 i22 i23 b24 => br b24
   (br (decide ((0 : Int) ≤ x1))
    (k0 (decide (x1 < i23)))
    (k0 false))
   (k0 false))
noncomputable def inst_May (N : Nat) {R : Type} (x0 : Int) (x1 : Int) (k0 : (Bool) → Option R) : Option R := inst_May_T N (@inst_table N) x0 x1 k0
abbrev check_names_Ty : Type 1 := {R : Type} → (Int) → (Int) → (Int) → ((Bool) → Option R) → Option R
noncomputable def check_names_T (N : Nat) {R : Type} (x0 : Int) (x1 : Int) (x2 : Int) (k0 : (Bool) → Option R) : Option R :=
  br (decide (x0 = (27 : Int)))
  (k0 (decide (x1 < x2)))
  (br (decide (x0 = (33 : Int)))
   (k0 (decide (x1 < x2)))
   (br (decide (x0 = (35 : Int)))
    (k0 (decide (x1 < x2)))
    (br (decide (x0 = (36 : Int)))
     (k0 (decide (x1 < x2)))
     (br (decide (x0 = (37 : Int)))
      (k0 (decide (x1 < x2)))
      (br (decide (x0 = (34 : Int)))
       (br (decide ((IntKind.wrap .i64 (Int.tdiv x1 (8 : Int))) < x2))
        (k0 (decide ((Int.tmod x1 (8 : Int)) < x2)))
        (k0 false))
       (k0 true))))))
noncomputable def check_names (N : Nat) {R : Type} (x0 : Int) (x1 : Int) (x2 : Int) (k0 : (Bool) → Option R) : Option R := check_names_T N x0 x1 x2 k0
abbrev inst_Jumps_Ty : Type 1 := {R : Type} → (Int) → ((Bool) → Option R) → Option R
noncomputable def inst_Jumps_T (N : Nat) {R : Type} (x0 : Int) (k0 : (Bool) → Option R) : Option R :=
  br (!(decide (x0 = (22 : Int))))
  (k0 (decide (x0 = (23 : Int))))
  (k0 true)
noncomputable def inst_Jumps (N : Nat) {R : Type} (x0 : Int) (k0 : (Bool) → Option R) : Option R := inst_Jumps_T N x0 k0
abbrev inst_Ends_Ty : Type 1 := {R : Type} → (Int) → ((Bool) → Option R) → Option R
noncomputable def inst_Ends_T (N : Nat) {R : Type} (x0 : Int) (k0 : (Bool) → Option R) : Option R :=
  br (!(decide (x0 = (22 : Int))))
  (k0 (decide (x0 = (26 : Int))))
  (k0 true)
noncomputable def inst_Ends (N : Nat) {R : Type} (x0 : Int) (k0 : (Bool) → Option R) : Option R := inst_Ends_T N x0 k0
abbrev check_one_ebbf_Ty : Type 1 := {R : Type} → (Int) → (List ((Int) × (Int))) → (List (ByteArray)) → ((Int) → (List ((Int) × (Int))) → (List (ByteArray)) → Option R) → Option R
noncomputable def check_one_ebbf_T (N : Nat) (c0 : inst_Ends_Ty) (c1 : inst_Jumps_Ty) (c2 : check_names_Ty) (c3 : inst_May_Ty) {R : Type} (x0 : Int) (x1 : List ((Int) × (Int))) (x2 : List (ByteArray)) (k0 : (Int) → (List ((Int) × (Int))) → (List (ByteArray)) → Option R) : Option R :=
  br (inB x0 (List.length x1))
  (br (decide ((Int.toNat x0) < (List.length x1)))
   (c3 (List.getD x1 (Int.toNat x0) ((0 : Int) , (0 : Int))).1 (List.getD x1 (Int.toNat x0) ((0 : Int) , (0 : Int))).2
    (fun b25 => br (!b25)
     (k0 (5 : Int) x1 x2)
     (c2 (List.getD x1 (Int.toNat x0) ((0 : Int) , (0 : Int))).1 (List.getD x1 (Int.toNat x0) ((0 : Int) , (0 : Int))).2 (Nat.cast (List.length x2) : Int)
      (fun b26 => br (!b26)
       (k0 (10 : Int) x1 x2)
       (c1 (List.getD x1 (Int.toNat x0) ((0 : Int) , (0 : Int))).1
        (fun b27 => br b27
         (br (decide ((Nat.cast (List.length x1) : Int) ≤ (List.getD x1 (Int.toNat x0) ((0 : Int) , (0 : Int))).2))
          (k0 (6 : Int) x1 x2)
          (c0 (List.getD x1 (Int.toNat x0) ((0 : Int) , (0 : Int))).1
           (fun b28 => br (!b28)
            (br (decide ((IntKind.wrap .i64 (x0 + (1 : Int))) = (Nat.cast (List.length x1) : Int)))
             (k0 (8 : Int) x1 x2)
             (k0 (0 : Int) x1 x2))
            (k0 (0 : Int) x1 x2))))
         (c0 (List.getD x1 (Int.toNat x0) ((0 : Int) , (0 : Int))).1
          (fun b29 => br (!b29)
           (br (decide ((IntKind.wrap .i64 (x0 + (1 : Int))) = (Nat.cast (List.length x1) : Int)))
            (k0 (8 : Int) x1 x2)
            (k0 (0 : Int) x1 x2))
           (k0 (0 : Int) x1 x2)))))))))
   (none))
  (none)
noncomputable def check_one_ebbf (N : Nat) {R : Type} (x0 : Int) (x1 : List ((Int) × (Int))) (x2 : List (ByteArray)) (k0 : (Int) → (List ((Int) × (Int))) → (List (ByteArray)) → Option R) : Option R := check_one_ebbf_T N (@inst_Ends N) (@inst_Jumps N) (@check_names N) (@inst_May N) x0 x1 x2 k0
abbrev inst_Takes_Ty : Type 1 := {R : Type} → (Int) → ((Int) → Option R) → Option R
noncomputable def inst_Takes_T (N : Nat) (c0 : inst_table_Ty) {R : Type} (x0 : Int) (k0 : (Int) → Option R) : Option R :=
  c0 x0
  (fun i39 i40 i41 b42 => br (!b42)
   (k0 (-1 : Int))
   (k0 i39))
noncomputable def inst_Takes (N : Nat) {R : Type} (x0 : Int) (k0 : (Int) → Option R) : Option R := inst_Takes_T N (@inst_table N) x0 k0
abbrev inst_Gives_Ty : Type 1 := {R : Type} → (Int) → ((Int) → Option R) → Option R
noncomputable def inst_Gives_T (N : Nat) (c0 : inst_table_Ty) {R : Type} (x0 : Int) (k0 : (Int) → Option R) : Option R :=
  c0 x0
  (fun i44 i45 i46 b47 => br (!b47)
   (k0 (-1 : Int))
   (k0 i45))
noncomputable def inst_Gives (N : Nat) {R : Type} (x0 : Int) (k0 : (Int) → Option R) : Option R := inst_Gives_T N (@inst_table N) x0 k0
abbrev check_behind_Ty : Type 1 := {R : Type} → (Int) → (Int) → (Int) → ((Int) → (Bool) → Option R) → Option R
noncomputable def check_behind_T (N : Nat) (c0 : inst_Gives_Ty) (c1 : inst_Takes_Ty) {R : Type} (x0 : Int) (x1 : Int) (x2 : Int) (k0 : (Int) → (Bool) → Option R) : Option R :=
  c1 x0
  (fun i43 => c0 x0
   (fun i48 => br (decide ((0 : Int) ≤ (IntKind.wrap .i64 (x2 - i43))))
    (k0 (IntKind.wrap .i64 ((IntKind.wrap .i64 (x2 - i43)) + i48)) (decide ((IntKind.wrap .i64 ((IntKind.wrap .i64 (x2 - i43)) + i48)) ≤ (16 : Int))))
    (k0 (IntKind.wrap .i64 ((IntKind.wrap .i64 (x2 - i43)) + i48)) false)))
noncomputable def check_behind (N : Nat) {R : Type} (x0 : Int) (x1 : Int) (x2 : Int) (k0 : (Int) → (Bool) → Option R) : Option R := check_behind_T N (@inst_Gives N) (@inst_Takes N) x0 x1 x2 k0
abbrev check_next_ebbf_Ty : Type 1 := {R : Type} → (Int) → (List ((Int) × (Int))) → (List (ByteArray)) → ((List ((Int) × (Int))) → (List (ByteArray)) → (List (Int)) → Option R) → Option R
noncomputable def check_next_ebbf_T (N : Nat) (c0 : inst_Jumps_Ty) (c1 : inst_Ends_Ty) {R : Type} (x0 : Int) (x1 : List ((Int) × (Int))) (x2 : List (ByteArray)) (k0 : (List ((Int) × (Int))) → (List (ByteArray)) → (List (Int)) → Option R) : Option R :=
  br (inB x0 (List.length x1))
  (br (decide ((Int.toNat x0) < (List.length x1)))
   (c1 (List.getD x1 (Int.toNat x0) ((0 : Int) , (0 : Int))).1
    (fun b54 => br (!b54)
     (c0 (List.getD x1 (Int.toNat x0) ((0 : Int) , (0 : Int))).1
      (fun b55 => br b55
       (k0 x1 x2 ((IntKind.wrap .i64 (x0 + (1 : Int))) :: ((List.getD x1 (Int.toNat x0) ((0 : Int) , (0 : Int))).2 :: ([] : List ((Sh.int IntKind.i64).T)))))
       (k0 x1 x2 ((IntKind.wrap .i64 (x0 + (1 : Int))) :: ([] : List ((Sh.int IntKind.i64).T))))))
     (c0 (List.getD x1 (Int.toNat x0) ((0 : Int) , (0 : Int))).1
      (fun b56 => br b56
       (k0 x1 x2 ((List.getD x1 (Int.toNat x0) ((0 : Int) , (0 : Int))).2 :: ([] : List ((Sh.int IntKind.i64).T))))
       (k0 x1 x2 ([] : List ((Sh.int IntKind.i64).T)))))))
   (none))
  (none)
noncomputable def check_next_ebbf (N : Nat) {R : Type} (x0 : Int) (x1 : List ((Int) × (Int))) (x2 : List (ByteArray)) (k0 : (List ((Int) × (Int))) → (List (ByteArray)) → (List (Int)) → Option R) : Option R := check_next_ebbf_T N (@inst_Jumps N) (@inst_Ends N) x0 x1 x2 k0
abbrev check_reach_87f1_l0_Ty : Type 1 := {R : Type} → ((List ((Int) × (Int))) → (List (ByteArray)) → (List (Bool)) → Option R) → Nat → (Bool) → (List ((Int) × (Int))) → (List (ByteArray)) → (List (Bool)) → Option R
abbrev check_reach_87f1_l1_Ty : Type 1 := {R : Type} → ((Bool) → (List ((Int) × (Int))) → (List (ByteArray)) → (List (Bool)) → Option R) → Nat → (Bool) → (Int) → (Int) → (List ((Int) × (Int))) → (List (ByteArray)) → (List (Bool)) → Option R
abbrev check_reach_87f1_l2_Ty : Type 1 := {R : Type} → ((Bool) → (Int) → (Int) → (List ((Int) × (Int))) → (List (ByteArray)) → (List (Bool)) → Option R) → Nat → (Bool) → (Int) → (Int) → (Int) → (List (Bool)) → (Int) → (List ((Int) × (Int))) → (List (ByteArray)) → (List (Bool)) → (Int) → (Int) → Option R
abbrev check_reach_87f1_l3_Ty : Type 1 := {R : Type} → ((Bool) → (Int) → (Int) → (Int) → (List (Bool)) → (Int) → (List ((Int) × (Int))) → (List (ByteArray)) → (List (Bool)) → (Int) → (Int) → Option R) → Nat → (Bool) → (Int) → (Int) → (Int) → (Int) → (List (Bool)) → (Int) → (Int) → (Int) → (List ((Int) × (Int))) → (List (ByteArray)) → (List (Bool)) → (Int) → (Int) → (List (Int)) → Option R
abbrev check_reach_87f1_Ty : Type 1 := {R : Type} → (List ((Int) × (Int))) → (List (ByteArray)) → ((List ((Int) × (Int))) → (List (ByteArray)) → (List (Bool)) → Option R) → Option R
noncomputable def check_reach_87f1_l0_T0 (N : Nat) (c0 : check_next_ebbf_Ty) (c1 : check_behind_Ty) (w1 : check_reach_87f1_l1_Ty) (w2 : check_reach_87f1_l2_Ty) (w3 : check_reach_87f1_l3_Ty) {R : Type} (nx : (Bool) → (List ((Int) × (Int))) → (List (ByteArray)) → (List (Bool)) → Option R) (k0 : (List ((Int) × (Int))) → (List (ByteArray)) → (List (Bool)) → Option R) (x0 : Bool) (x1 : List ((Int) × (Int))) (x2 : List (ByteArray)) (x3 : List (Bool)) : Option R :=
  br x0
  (w1
   (fun b77 l78 l79 l80 => nx b77 l78 l79 l80)
   N false (Nat.cast (List.length x1) : Int) (0 : Int) x1 x2 x3)
  (k0 x1 x2 x3)
noncomputable def check_reach_87f1_l1_T0 (N : Nat) (c0 : check_next_ebbf_Ty) (c1 : check_behind_Ty) (w2 : check_reach_87f1_l2_Ty) (w3 : check_reach_87f1_l3_Ty) {R : Type} (nx : (Bool) → (Int) → (Int) → (List ((Int) × (Int))) → (List (ByteArray)) → (List (Bool)) → Option R) (k0 : (Bool) → (List ((Int) × (Int))) → (List (ByteArray)) → (List (Bool)) → Option R) (x0 : Bool) (x1 : Int) (x2 : Int) (x3 : List ((Int) × (Int))) (x4 : List (ByteArray)) (x5 : List (Bool)) : Option R :=
  br (decide (x2 < x1))
  (br (inB x2 (List.length x3))
   (br (decide ((Int.toNat x2) < (List.length x3)))
    (br (inB x2 (96 : Nat))
     (br (decide ((((Int.toNat x2) + (1 : Nat)) * (17 : Nat)) ≤ (1632 : Nat)))
      (w2
       (fun b71 i72 i73 l74 l75 l76 => nx b71 i72 (IntKind.wrap .i64 (i73 + (1 : Int))) l74 l75 l76)
       N x0 x2 x1 x2 (sub x5 ((Int.toNat x2) * (17 : Nat)) (17 : Nat)) (0 : Int) x3 x4 x5 (List.getD x3 (Int.toNat x2) ((0 : Int) , (0 : Int))).1 (List.getD x3 (Int.toNat x2) ((0 : Int) , (0 : Int))).2)
      (none))
     (none))
    (none))
   (none))
  (k0 x0 x3 x4 x5)
noncomputable def check_reach_87f1_l2_T0 (N : Nat) (c0 : check_next_ebbf_Ty) (c1 : check_behind_Ty) (w3 : check_reach_87f1_l3_Ty) {R : Type} (nx : (Bool) → (Int) → (Int) → (Int) → (List (Bool)) → (Int) → (List ((Int) × (Int))) → (List (ByteArray)) → (List (Bool)) → (Int) → (Int) → Option R) (k0 : (Bool) → (Int) → (Int) → (List ((Int) × (Int))) → (List (ByteArray)) → (List (Bool)) → Option R) (x0 : Bool) (x1 : Int) (x2 : Int) (x3 : Int) (x4 : List (Bool)) (x5 : Int) (x6 : List ((Int) × (Int))) (x7 : List (ByteArray)) (x8 : List (Bool)) (x9 : Int) (x10 : Int) : Option R :=
  br (decide (x5 < (17 : Int)))
  (br (inB x5 (17 : Nat))
   (c1 x9 x10 x5
    (fun i49 b50 => br (!(!(List.getD x4 (Int.toNat x5) false)))
     (br (!b50)
      (nx x0 x1 x2 x3 x4 (IntKind.wrap .i64 (x5 + (1 : Int))) x6 x7 x8 x9 x10)
      (c0 x1 x6 x7
       (fun l57 l58 l59 => w3
        (fun b60 i61 i62 i63 l64 i65 l66 l67 l68 i69 i70 => nx b60 i61 i62 i63 l64 (IntKind.wrap .i64 (i65 + (1 : Int))) l66 l67 l68 i69 i70)
        N x0 x1 i49 x2 x3 x4 x5 (Nat.cast (List.length l59) : Int) (0 : Int) l57 l58 x8 x9 x10 l59)))
     (nx x0 x1 x2 x3 x4 (IntKind.wrap .i64 (x5 + (1 : Int))) x6 x7 x8 x9 x10)))
   (none))
  (k0 x0 x2 x3 x6 x7 x8)
noncomputable def check_reach_87f1_l3_T0 (N : Nat) (c0 : check_next_ebbf_Ty) (c1 : check_behind_Ty) {R : Type} (nx : (Bool) → (Int) → (Int) → (Int) → (Int) → (List (Bool)) → (Int) → (Int) → (Int) → (List ((Int) × (Int))) → (List (ByteArray)) → (List (Bool)) → (Int) → (Int) → (List (Int)) → Option R) (k0 : (Bool) → (Int) → (Int) → (Int) → (List (Bool)) → (Int) → (List ((Int) × (Int))) → (List (ByteArray)) → (List (Bool)) → (Int) → (Int) → Option R) (x0 : Bool) (x1 : Int) (x2 : Int) (x3 : Int) (x4 : Int) (x5 : List (Bool)) (x6 : Int) (x7 : Int) (x8 : Int) (x9 : List ((Int) × (Int))) (x10 : List (ByteArray)) (x11 : List (Bool)) (x12 : Int) (x13 : Int) (x14 : List (Int)) : Option R :=
  br (decide (x8 < x7))
  (br (inB x8 (List.length x14))
   (br (decide ((Int.toNat x8) < (List.length x14)))
    (br (!x0)
     (br (inB (List.getD x14 (Int.toNat x8) (0 : Int)) (96 : Nat))
      (br ((inB x2 (17 : Nat)) && (decide ((0 : Int) ≤ (List.getD x14 (Int.toNat x8) (0 : Int)))))
       (br (decide ((Int.toNat (((List.getD x14 (Int.toNat x8) (0 : Int)) * (17 : Int)) + x2)) < (1632 : Nat)))
        (br (inB (List.getD x14 (Int.toNat x8) (0 : Int)) (96 : Nat))
         (br ((inB x2 (17 : Nat)) && (decide ((0 : Int) ≤ (List.getD x14 (Int.toNat x8) (0 : Int)))))
          (br (decide ((Int.toNat (((List.getD x14 (Int.toNat x8) (0 : Int)) * (17 : Int)) + x2)) < (1632 : Nat)))
           (nx (!(List.getD x11 (Int.toNat (((List.getD x14 (Int.toNat x8) (0 : Int)) * (17 : Int)) + x2)) false)) x1 x2 x3 x4 x5 x6 x7 (IntKind.wrap .i64 (x8 + (1 : Int))) x9 x10 (List.set x11 (Int.toNat (((List.getD x14 (Int.toNat x8) (0 : Int)) * (17 : Int)) + x2)) true) x12 x13 x14)
           (none))
          (none))
         (none))
        (none))
       (none))
      (none))
     (br (inB (List.getD x14 (Int.toNat x8) (0 : Int)) (96 : Nat))
      (br ((inB x2 (17 : Nat)) && (decide ((0 : Int) ≤ (List.getD x14 (Int.toNat x8) (0 : Int)))))
       (br (decide ((Int.toNat (((List.getD x14 (Int.toNat x8) (0 : Int)) * (17 : Int)) + x2)) < (1632 : Nat)))
        (nx true x1 x2 x3 x4 x5 x6 x7 (IntKind.wrap .i64 (x8 + (1 : Int))) x9 x10 (List.set x11 (Int.toNat (((List.getD x14 (Int.toNat x8) (0 : Int)) * (17 : Int)) + x2)) true) x12 x13 x14)
        (none))
       (none))
      (none)))
    (none))
   (none))
  (k0 x0 x1 x3 x4 x5 x6 x9 x10 x11 x12 x13)
noncomputable def check_reach_87f1_l3 (N : Nat) {R : Type} (k0 : (Bool) → (Int) → (Int) → (Int) → (List (Bool)) → (Int) → (List ((Int) × (Int))) → (List (ByteArray)) → (List (Bool)) → (Int) → (Int) → Option R) : Nat → (Bool) → (Int) → (Int) → (Int) → (Int) → (List (Bool)) → (Int) → (Int) → (Int) → (List ((Int) × (Int))) → (List (ByteArray)) → (List (Bool)) → (Int) → (Int) → (List (Int)) → Option R
  | 0, _, _, _, _, _, _, _, _, _, _, _, _, _, _, _ => none
  | n + 1, x0, x1, x2, x3, x4, x5, x6, x7, x8, x9, x10, x11, x12, x13, x14 => check_reach_87f1_l3_T0 N (@check_next_ebbf N) (@check_behind N) (fun x0 x1 x2 x3 x4 x5 x6 x7 x8 x9 x10 x11 x12 x13 x14 => check_reach_87f1_l3 N k0 n x0 x1 x2 x3 x4 x5 x6 x7 x8 x9 x10 x11 x12 x13 x14) k0 x0 x1 x2 x3 x4 x5 x6 x7 x8 x9 x10 x11 x12 x13 x14
noncomputable def check_reach_87f1_l2 (N : Nat) {R : Type} (k0 : (Bool) → (Int) → (Int) → (List ((Int) × (Int))) → (List (ByteArray)) → (List (Bool)) → Option R) : Nat → (Bool) → (Int) → (Int) → (Int) → (List (Bool)) → (Int) → (List ((Int) × (Int))) → (List (ByteArray)) → (List (Bool)) → (Int) → (Int) → Option R
  | 0, _, _, _, _, _, _, _, _, _, _, _ => none
  | n + 1, x0, x1, x2, x3, x4, x5, x6, x7, x8, x9, x10 => check_reach_87f1_l2_T0 N (@check_next_ebbf N) (@check_behind N) (@check_reach_87f1_l3 N) (fun x0 x1 x2 x3 x4 x5 x6 x7 x8 x9 x10 => check_reach_87f1_l2 N k0 n x0 x1 x2 x3 x4 x5 x6 x7 x8 x9 x10) k0 x0 x1 x2 x3 x4 x5 x6 x7 x8 x9 x10
noncomputable def check_reach_87f1_l1 (N : Nat) {R : Type} (k0 : (Bool) → (List ((Int) × (Int))) → (List (ByteArray)) → (List (Bool)) → Option R) : Nat → (Bool) → (Int) → (Int) → (List ((Int) × (Int))) → (List (ByteArray)) → (List (Bool)) → Option R
  | 0, _, _, _, _, _, _ => none
  | n + 1, x0, x1, x2, x3, x4, x5 => check_reach_87f1_l1_T0 N (@check_next_ebbf N) (@check_behind N) (@check_reach_87f1_l2 N) (@check_reach_87f1_l3 N) (fun x0 x1 x2 x3 x4 x5 => check_reach_87f1_l1 N k0 n x0 x1 x2 x3 x4 x5) k0 x0 x1 x2 x3 x4 x5
noncomputable def check_reach_87f1_l0 (N : Nat) {R : Type} (k0 : (List ((Int) × (Int))) → (List (ByteArray)) → (List (Bool)) → Option R) : Nat → (Bool) → (List ((Int) × (Int))) → (List (ByteArray)) → (List (Bool)) → Option R
  | 0, _, _, _, _ => none
  | n + 1, x0, x1, x2, x3 => check_reach_87f1_l0_T0 N (@check_next_ebbf N) (@check_behind N) (@check_reach_87f1_l1 N) (@check_reach_87f1_l2 N) (@check_reach_87f1_l3 N) (fun x0 x1 x2 x3 => check_reach_87f1_l0 N k0 n x0 x1 x2 x3) k0 x0 x1 x2 x3
noncomputable def check_reach_87f1_T (N : Nat) (c0 : check_next_ebbf_Ty) (c1 : check_behind_Ty) (w0 : check_reach_87f1_l0_Ty) (w1 : check_reach_87f1_l1_Ty) (w2 : check_reach_87f1_l2_Ty) (w3 : check_reach_87f1_l3_Ty) {R : Type} (x0 : List ((Int) × (Int))) (x1 : List (ByteArray)) (k0 : (List ((Int) × (Int))) → (List (ByteArray)) → (List (Bool)) → Option R) : Option R :=
  w0
  (fun l81 l82 l83 => k0 l81 l82 l83)
  N true x0 x1 (List.set (List.replicate (1632 : Nat) false) (Int.toNat (((0 : Int) * (17 : Int)) + (0 : Int))) true)
noncomputable def check_reach_87f1 (N : Nat) {R : Type} (x0 : List ((Int) × (Int))) (x1 : List (ByteArray)) (k0 : (List ((Int) × (Int))) → (List (ByteArray)) → (List (Bool)) → Option R) : Option R := check_reach_87f1_T N (@check_next_ebbf N) (@check_behind N) (@check_reach_87f1_l0 N) (@check_reach_87f1_l1 N) (@check_reach_87f1_l2 N) (@check_reach_87f1_l3 N) x0 x1 k0
abbrev check_height_866d_l0_Ty : Type 1 := {R : Type} → ((Int) → (Bool) → (List ((Int) × (Int))) → (List (ByteArray)) → (List (Bool)) → Option R) → Nat → (Int) → (Int) → (Bool) → (List (Bool)) → (Int) → (List ((Int) × (Int))) → (List (ByteArray)) → (List (Bool)) → Option R
abbrev check_height_866d_Ty : Type 1 := {R : Type} → (Int) → (List ((Int) × (Int))) → (List (ByteArray)) → (List (Bool)) → ((Int) → (Bool) → (List ((Int) × (Int))) → (List (ByteArray)) → (List (Bool)) → Option R) → Option R
noncomputable def check_height_866d_l0_T0 (N : Nat) (c0 : check_behind_Ty) {R : Type} (nx : (Int) → (Int) → (Bool) → (List (Bool)) → (Int) → (List ((Int) × (Int))) → (List (ByteArray)) → (List (Bool)) → Option R) (k0 : (Int) → (Bool) → (List ((Int) × (Int))) → (List (ByteArray)) → (List (Bool)) → Option R) (x0 : Int) (x1 : Int) (x2 : Bool) (x3 : List (Bool)) (x4 : Int) (x5 : List ((Int) × (Int))) (x6 : List (ByteArray)) (x7 : List (Bool)) : Option R :=
  br (decide (x4 < (17 : Int)))
  (br (inB x4 (17 : Nat))
   (br (!(List.getD x3 (Int.toNat x4) false))
    (nx x0 x1 x2 x3 (IntKind.wrap .i64 (x4 + (1 : Int))) x5 x6 x7)
    (br (inB x0 (List.length x5))
     (br (decide ((Int.toNat x0) < (List.length x5)))
      (c0 (List.getD x5 (Int.toNat x0) ((0 : Int) , (0 : Int))).1 (List.getD x5 (Int.toNat x0) ((0 : Int) , (0 : Int))).2 x4
       (fun i87 b88 => br x2
        (br b88
         (nx x0 x4 (decide (x1 = (-1 : Int))) x3 (IntKind.wrap .i64 (x4 + (1 : Int))) x5 x6 x7)
         (nx x0 x4 false x3 (IntKind.wrap .i64 (x4 + (1 : Int))) x5 x6 x7))
        (nx x0 x4 false x3 (IntKind.wrap .i64 (x4 + (1 : Int))) x5 x6 x7)))
      (none))
     (none)))
   (none))
  (k0 x1 x2 x5 x6 x7)
noncomputable def check_height_866d_l0 (N : Nat) {R : Type} (k0 : (Int) → (Bool) → (List ((Int) × (Int))) → (List (ByteArray)) → (List (Bool)) → Option R) : Nat → (Int) → (Int) → (Bool) → (List (Bool)) → (Int) → (List ((Int) × (Int))) → (List (ByteArray)) → (List (Bool)) → Option R
  | 0, _, _, _, _, _, _, _, _ => none
  | n + 1, x0, x1, x2, x3, x4, x5, x6, x7 => check_height_866d_l0_T0 N (@check_behind N) (fun x0 x1 x2 x3 x4 x5 x6 x7 => check_height_866d_l0 N k0 n x0 x1 x2 x3 x4 x5 x6 x7) k0 x0 x1 x2 x3 x4 x5 x6 x7
noncomputable def check_height_866d_T (N : Nat) (c0 : check_behind_Ty) (w0 : check_height_866d_l0_Ty) {R : Type} (x0 : Int) (x1 : List ((Int) × (Int))) (x2 : List (ByteArray)) (x3 : List (Bool)) (k0 : (Int) → (Bool) → (List ((Int) × (Int))) → (List (ByteArray)) → (List (Bool)) → Option R) : Option R :=
  br (inB x0 (96 : Nat))
  (br (decide ((((Int.toNat x0) + (1 : Nat)) * (17 : Nat)) ≤ (1632 : Nat)))
   (w0
    (fun i89 b90 l91 l92 l93 => k0 i89 b90 l91 l92 l93)
    N x0 (-1 : Int) true (sub x3 ((Int.toNat x0) * (17 : Nat)) (17 : Nat)) (0 : Int) x1 x2 x3)
   (none))
  (none)
noncomputable def check_height_866d (N : Nat) {R : Type} (x0 : Int) (x1 : List ((Int) × (Int))) (x2 : List (ByteArray)) (x3 : List (Bool)) (k0 : (Int) → (Bool) → (List ((Int) × (Int))) → (List (ByteArray)) → (List (Bool)) → Option R) : Option R := check_height_866d_T N (@check_behind N) (@check_height_866d_l0 N) x0 x1 x2 x3 k0
abbrev check_Run_87f1_l0_Ty : Type 1 := {R : Type} → ((Int) → (Int) → (List ((Int) × (Int))) → (List (ByteArray)) → Option R) → ((List ((Int) × (Int))) → (List (ByteArray)) → Option R) → Nat → (Int) → (Int) → (List ((Int) × (Int))) → (List (ByteArray)) → Option R
abbrev check_Run_87f1_l1_Ty : Type 1 := {R : Type} → ((Int) → (Int) → (List ((Int) × (Int))) → (List (ByteArray)) → Option R) → ((List ((Int) × (Int))) → (List (ByteArray)) → Option R) → Nat → (Int) → (Int) → (List ((Int) × (Int))) → (List (ByteArray)) → Option R
abbrev check_Run_87f1_l2_Ty : Type 1 := {R : Type} → ((Int) → (Int) → (List ((Int) × (Int))) → (List (ByteArray)) → Option R) → ((List ((Int) × (Int))) → (List (ByteArray)) → Option R) → Nat → (Int) → (Int) → (List ((Int) × (Int))) → (List (ByteArray)) → (List (Bool)) → Option R
abbrev check_Run_87f1_Ty : Type 1 := {R : Type} → (List ((Int) × (Int))) → (List (ByteArray)) → ((Int) → (Int) → (List ((Int) × (Int))) → (List (ByteArray)) → Option R) → Option R
noncomputable def check_Run_87f1_l0_T0 (N : Nat) (c0 : check_height_866d_Ty) (c1 : check_reach_87f1_Ty) (c2 : check_one_ebbf_Ty) (c3 : check_Name_Ty) (w1 : check_Run_87f1_l1_Ty) (w2 : check_Run_87f1_l2_Ty) {R : Type} (nx : (Int) → (Int) → (List ((Int) × (Int))) → (List (ByteArray)) → Option R) (k0 : (Int) → (Int) → (List ((Int) × (Int))) → (List (ByteArray)) → Option R) (k1 : (List ((Int) × (Int))) → (List (ByteArray)) → Option R) (x0 : Int) (x1 : Int) (x2 : List ((Int) × (Int))) (x3 : List (ByteArray)) : Option R :=
  br (decide (x1 < x0))
  (br (inB x1 (List.length x3))
   (br (decide ((Int.toNat x1) < (List.length x3)))
    (c3 (List.getD x3 (Int.toNat x1) (bs []))
     (fun b14 => br (!b14)
      (k0 (0 : Int) (10 : Int) x2 x3)
      (nx x0 (IntKind.wrap .i64 (x1 + (1 : Int))) x2 x3)))
    (none))
   (none))
  (k1 x2 x3)
noncomputable def check_Run_87f1_l1_T0 (N : Nat) (c0 : check_height_866d_Ty) (c1 : check_reach_87f1_Ty) (c2 : check_one_ebbf_Ty) (c3 : check_Name_Ty) (w2 : check_Run_87f1_l2_Ty) {R : Type} (nx : (Int) → (Int) → (List ((Int) × (Int))) → (List (ByteArray)) → Option R) (k0 : (Int) → (Int) → (List ((Int) × (Int))) → (List (ByteArray)) → Option R) (k1 : (List ((Int) × (Int))) → (List (ByteArray)) → Option R) (x0 : Int) (x1 : Int) (x2 : List ((Int) × (Int))) (x3 : List (ByteArray)) : Option R :=
  br (decide (x1 < x0))
  (c2 x1 x2 x3
   (fun i30 l31 l32 => br (!(decide (i30 = (0 : Int))))
    (k0 x1 i30 l31 l32)
    (nx x0 (IntKind.wrap .i64 (x1 + (1 : Int))) l31 l32)))
  (k1 x2 x3)
noncomputable def check_Run_87f1_l2_T0 (N : Nat) (c0 : check_height_866d_Ty) (c1 : check_reach_87f1_Ty) (c2 : check_one_ebbf_Ty) (c3 : check_Name_Ty) {R : Type} (nx : (Int) → (Int) → (List ((Int) × (Int))) → (List (ByteArray)) → (List (Bool)) → Option R) (k0 : (Int) → (Int) → (List ((Int) × (Int))) → (List (ByteArray)) → Option R) (k1 : (List ((Int) × (Int))) → (List (ByteArray)) → Option R) (x0 : Int) (x1 : Int) (x2 : List ((Int) × (Int))) (x3 : List (ByteArray)) (x4 : List (Bool)) : Option R :=
  br (decide (x1 < x0))
  (c0 x1 x2 x3 x4
   (fun i94 b95 l96 l97 l98 => br (!b95)
    (k0 x1 (7 : Int) l96 l97)
    (nx x0 (IntKind.wrap .i64 (x1 + (1 : Int))) l96 l97 l98)))
  (k1 x2 x3)
noncomputable def check_Run_87f1_l2 (N : Nat) {R : Type} (k0 : (Int) → (Int) → (List ((Int) × (Int))) → (List (ByteArray)) → Option R) (k1 : (List ((Int) × (Int))) → (List (ByteArray)) → Option R) : Nat → (Int) → (Int) → (List ((Int) × (Int))) → (List (ByteArray)) → (List (Bool)) → Option R
  | 0, _, _, _, _, _ => none
  | n + 1, x0, x1, x2, x3, x4 => check_Run_87f1_l2_T0 N (@check_height_866d N) (@check_reach_87f1 N) (@check_one_ebbf N) (@check_Name N) (fun x0 x1 x2 x3 x4 => check_Run_87f1_l2 N k0 k1 n x0 x1 x2 x3 x4) k0 k1 x0 x1 x2 x3 x4
noncomputable def check_Run_87f1_l1 (N : Nat) {R : Type} (k0 : (Int) → (Int) → (List ((Int) × (Int))) → (List (ByteArray)) → Option R) (k1 : (List ((Int) × (Int))) → (List (ByteArray)) → Option R) : Nat → (Int) → (Int) → (List ((Int) × (Int))) → (List (ByteArray)) → Option R
  | 0, _, _, _, _ => none
  | n + 1, x0, x1, x2, x3 => check_Run_87f1_l1_T0 N (@check_height_866d N) (@check_reach_87f1 N) (@check_one_ebbf N) (@check_Name N) (@check_Run_87f1_l2 N) (fun x0 x1 x2 x3 => check_Run_87f1_l1 N k0 k1 n x0 x1 x2 x3) k0 k1 x0 x1 x2 x3
noncomputable def check_Run_87f1_l0 (N : Nat) {R : Type} (k0 : (Int) → (Int) → (List ((Int) × (Int))) → (List (ByteArray)) → Option R) (k1 : (List ((Int) × (Int))) → (List (ByteArray)) → Option R) : Nat → (Int) → (Int) → (List ((Int) × (Int))) → (List (ByteArray)) → Option R
  | 0, _, _, _, _ => none
  | n + 1, x0, x1, x2, x3 => check_Run_87f1_l0_T0 N (@check_height_866d N) (@check_reach_87f1 N) (@check_one_ebbf N) (@check_Name N) (@check_Run_87f1_l1 N) (@check_Run_87f1_l2 N) (fun x0 x1 x2 x3 => check_Run_87f1_l0 N k0 k1 n x0 x1 x2 x3) k0 k1 x0 x1 x2 x3
noncomputable def check_Run_87f1_T (N : Nat) (c0 : check_height_866d_Ty) (c1 : check_reach_87f1_Ty) (c2 : check_one_ebbf_Ty) (c3 : check_Name_Ty) (w0 : check_Run_87f1_l0_Ty) (w1 : check_Run_87f1_l1_Ty) (w2 : check_Run_87f1_l2_Ty) {R : Type} (x0 : List ((Int) × (Int))) (x1 : List (ByteArray)) (k0 : (Int) → (Int) → (List ((Int) × (Int))) → (List (ByteArray)) → Option R) : Option R :=
  br (!(decide ((Nat.cast (List.length x0) : Int) = (0 : Int))))
  (br (!(decide ((96 : Int) < (Nat.cast (List.length x0) : Int))))
   (br (decide ((8 : Int) < (Nat.cast (List.length x1) : Int)))
    (k0 (0 : Int) (3 : Int) x0 x1)
    (w0
     (fun i15 i16 l17 l18 => k0 i15 i16 l17 l18)
     (fun l19 l20 => w1
      (fun i33 i34 l35 l36 => k0 i33 i34 l35 l36)
      (fun l37 l38 => c1 l37 l38
       (fun l84 l85 l86 => w2
        (fun i99 i100 l101 l102 => k0 i99 i100 l101 l102)
        (fun l103 l104 => k0 (0 : Int) (0 : Int) l103 l104)
        N (Nat.cast (List.length l84) : Int) (0 : Int) l84 l85 l86))
      N (Nat.cast (List.length l19) : Int) (0 : Int) l19 l20)
     N (Nat.cast (List.length x1) : Int) (0 : Int) x0 x1))
   (k0 (0 : Int) (3 : Int) x0 x1))
  (k0 (0 : Int) (3 : Int) x0 x1)
noncomputable def check_Run_87f1 (N : Nat) {R : Type} (x0 : List ((Int) × (Int))) (x1 : List (ByteArray)) (k0 : (Int) → (Int) → (List ((Int) × (Int))) → (List (ByteArray)) → Option R) : Option R := check_Run_87f1_T N (@check_height_866d N) (@check_reach_87f1 N) (@check_one_ebbf N) (@check_Name N) (@check_Run_87f1_l0 N) (@check_Run_87f1_l1 N) (@check_Run_87f1_l2 N) x0 x1 k0
abbrev tree_New_1c12_l0_Ty : Type 1 := {R : Type} → ((Int) → (List (((ByteArray) × (ByteArray)) × ((Int) × (Bool)))) → Option R) → Nat → (Int) → (Int) → (Int) → (List (((ByteArray) × (ByteArray)) × ((Int) × (Bool)))) → Option R
abbrev tree_New_1c12_Ty : Type 1 := {R : Type} → ((Int) → (Int) → (List (((ByteArray) × (ByteArray)) × ((Int) × (Bool)))) → Option R) → Option R
noncomputable def tree_New_1c12_l0_T0 (N : Nat) {R : Type} (nx : (Int) → (Int) → (Int) → (List (((ByteArray) × (ByteArray)) × ((Int) × (Bool)))) → Option R) (k0 : (Int) → (List (((ByteArray) × (ByteArray)) × ((Int) × (Bool)))) → Option R) (x0 : Int) (x1 : Int) (x2 : Int) (x3 : List (((ByteArray) × (ByteArray)) × ((Int) × (Bool)))) : Option R :=
  br (decide (x1 < x0))
  (none)
  (k0 x2 x3)
noncomputable def tree_New_1c12_l0 (N : Nat) {R : Type} (k0 : (Int) → (List (((ByteArray) × (ByteArray)) × ((Int) × (Bool)))) → Option R) : Nat → (Int) → (Int) → (Int) → (List (((ByteArray) × (ByteArray)) × ((Int) × (Bool)))) → Option R
  | 0, _, _, _, _ => none
  | n + 1, x0, x1, x2, x3 => tree_New_1c12_l0_T0 N (fun x0 x1 x2 x3 => tree_New_1c12_l0 N k0 n x0 x1 x2 x3) k0 x0 x1 x2 x3
noncomputable def tree_New_1c12_T (N : Nat) (w0 : tree_New_1c12_l0_Ty) {R : Type} (k0 : (Int) → (Int) → (List (((ByteArray) × (ByteArray)) × ((Int) × (Bool)))) → Option R) : Option R :=
  w0
  (fun i109 l110 => k0 (0 : Int) i109 l110)
  N (0 : Int) (0 : Int) (0 : Int) ([] : List (((Sh.str.pair Sh.str).T) × (((Sh.int IntKind.i64).pair Sh.bool).T)))
noncomputable def tree_New_1c12 (N : Nat) {R : Type} (k0 : (Int) → (Int) → (List (((ByteArray) × (ByteArray)) × ((Int) × (Bool)))) → Option R) : Option R := tree_New_1c12_T N (@tree_New_1c12_l0 N) k0
abbrev files_New_9d03_l0_Ty : Type 1 := {R : Type} → ((List (List (Int))) → (List (Int)) → (Int) → (List (((ByteArray) × (ByteArray)) × ((Int) × (Bool)))) → (List ((Int) × (List (Int)))) → (List ((Int) × (Int))) → Option R) → Nat → (Int) → (Int) → (List (List (Int))) → (List (Int)) → (Int) → (List (((ByteArray) × (ByteArray)) × ((Int) × (Bool)))) → (List ((Int) × (List (Int)))) → (List ((Int) × (Int))) → Option R
abbrev files_New_9d03_Ty : Type 1 := {R : Type} → (List (List (Int))) → ((Int) → (List (List (Int))) → Option R) → ((Int) → (List (List (Int))) → (List (Int)) → (Int) → (List (((ByteArray) × (ByteArray)) × ((Int) × (Bool)))) → (List ((Int) × (List (Int)))) → (List ((Int) × (Int))) → Option R) → Option R
noncomputable def files_New_9d03_l0_T0 (N : Nat) (c0 : tree_New_1c12_Ty) {R : Type} (nx : (Int) → (Int) → (List (List (Int))) → (List (Int)) → (Int) → (List (((ByteArray) × (ByteArray)) × ((Int) × (Bool)))) → (List ((Int) × (List (Int)))) → (List ((Int) × (Int))) → Option R) (k0 : (List (List (Int))) → (List (Int)) → (Int) → (List (((ByteArray) × (ByteArray)) × ((Int) × (Bool)))) → (List ((Int) × (List (Int)))) → (List ((Int) × (Int))) → Option R) (x0 : Int) (x1 : Int) (x2 : List (List (Int))) (x3 : List (Int)) (x4 : Int) (x5 : List (((ByteArray) × (ByteArray)) × ((Int) × (Bool)))) (x6 : List ((Int) × (List (Int)))) (x7 : List ((Int) × (Int))) : Option R :=
  br (decide (x1 < x0))
  (none)
  (k0 x2 x3 x4 x5 x6 x7)
noncomputable def files_New_9d03_l0 (N : Nat) {R : Type} (k0 : (List (List (Int))) → (List (Int)) → (Int) → (List (((ByteArray) × (ByteArray)) × ((Int) × (Bool)))) → (List ((Int) × (List (Int)))) → (List ((Int) × (Int))) → Option R) : Nat → (Int) → (Int) → (List (List (Int))) → (List (Int)) → (Int) → (List (((ByteArray) × (ByteArray)) × ((Int) × (Bool)))) → (List ((Int) × (List (Int)))) → (List ((Int) × (Int))) → Option R
  | 0, _, _, _, _, _, _, _, _ => none
  | n + 1, x0, x1, x2, x3, x4, x5, x6, x7 => files_New_9d03_l0_T0 N (@tree_New_1c12 N) (fun x0 x1 x2 x3 x4 x5 x6 x7 => files_New_9d03_l0 N k0 n x0 x1 x2 x3 x4 x5 x6 x7) k0 x0 x1 x2 x3 x4 x5 x6 x7
noncomputable def files_New_9d03_T (N : Nat) (c0 : tree_New_1c12_Ty) (w0 : files_New_9d03_l0_Ty) {R : Type} (x0 : List (List (Int))) (k0 : (Int) → (List (List (Int))) → Option R) (k1 : (Int) → (List (List (Int))) → (List (Int)) → (Int) → (List (((ByteArray) × (ByteArray)) × ((Int) × (Bool)))) → (List ((Int) × (List (Int)))) → (List ((Int) × (Int))) → Option R) : Option R :=
  c0
  (fun i111 i112 l113 => br (!(decide (i111 = (0 : Int))))
   (k0 i111 x0)
   (w0
    (fun l114 l115 i116 l117 l118 l119 => br (decide ((0 : Int) < (Nat.cast (List.length l114) : Int)))
     (k0 (12 : Int) l114)
     (k1 (0 : Int) l114 l115 i116 l117 l118 l119))
    N (0 : Int) (0 : Int) x0 ((0 : Int) :: ((0 : Int) :: ((0 : Int) :: ((0 : Int) :: ([] : List ((Sh.int IntKind.i64).T)))))) i112 l113 ([] : List (((Sh.int IntKind.i64).T) × ((Sh.int IntKind.u8).isl.T))) ([] : List (((Sh.int IntKind.i64).pair (Sh.int IntKind.i64)).T))))
noncomputable def files_New_9d03 (N : Nat) {R : Type} (x0 : List (List (Int))) (k0 : (Int) → (List (List (Int))) → Option R) (k1 : (Int) → (List (List (Int))) → (List (Int)) → (Int) → (List (((ByteArray) × (ByteArray)) × ((Int) × (Bool)))) → (List ((Int) × (List (Int)))) → (List ((Int) × (Int))) → Option R) : Option R := files_New_9d03_T N (@tree_New_1c12 N) (@files_New_9d03_l0 N) x0 k0 k1
abbrev run_made_1_Ty : Type 1 := {R : Type} → (List (Int)) → ((Bool) → Option R) → Option R
noncomputable def run_made_1_T (N : Nat) {R : Type} (x0 : List (Int)) (k0 : (Bool) → Option R) : Option R :=
  k0 (decide ((255 : Int) < (Nat.cast (List.length x0) : Int)))
noncomputable def run_made_1 (N : Nat) {R : Type} (x0 : List (Int)) (k0 : (Bool) → Option R) : Option R := run_made_1_T N x0 k0
abbrev slices_IndexFunc___byte__byte_ce38_l0_Ty : Type 1 := {R : Type} → ((Int) → (List (List (Int))) → Option R) → ((List (List (Int))) → Option R) → Nat → (Int) → (Int) → (List (List (Int))) → Option R
abbrev slices_IndexFunc___byte__byte_ce38_Ty : Type 1 := {R : Type} → (List (List (Int))) → ((Int) → (List (List (Int))) → Option R) → Option R
noncomputable def slices_IndexFunc___byte__byte_ce38_l0_T0 (N : Nat) (c0 : run_made_1_Ty) {R : Type} (nx : (Int) → (Int) → (List (List (Int))) → Option R) (k0 : (Int) → (List (List (Int))) → Option R) (k1 : (List (List (Int))) → Option R) (x0 : Int) (x1 : Int) (x2 : List (List (Int))) : Option R :=
  br (decide (x1 < x0))
  (br (inB x1 (List.length x2))
   (br (decide ((Int.toNat x1) < (List.length x2)))
    (c0 (List.getD x2 (Int.toNat x1) (Sh.zero (.isl (.int .u8))))
     (fun b122 => br b122
      (k0 x1 x2)
      (nx x0 (IntKind.wrap .i64 (x1 + (1 : Int))) x2)))
    (none))
   (none))
  (k1 x2)
noncomputable def slices_IndexFunc___byte__byte_ce38_l0 (N : Nat) {R : Type} (k0 : (Int) → (List (List (Int))) → Option R) (k1 : (List (List (Int))) → Option R) : Nat → (Int) → (Int) → (List (List (Int))) → Option R
  | 0, _, _, _ => none
  | n + 1, x0, x1, x2 => slices_IndexFunc___byte__byte_ce38_l0_T0 N (@run_made_1 N) (fun x0 x1 x2 => slices_IndexFunc___byte__byte_ce38_l0 N k0 k1 n x0 x1 x2) k0 k1 x0 x1 x2
noncomputable def slices_IndexFunc___byte__byte_ce38_T (N : Nat) (c0 : run_made_1_Ty) (w0 : slices_IndexFunc___byte__byte_ce38_l0_Ty) {R : Type} (x0 : List (List (Int))) (k0 : (Int) → (List (List (Int))) → Option R) : Option R :=
  w0
  (fun i123 l124 => k0 i123 l124)
  (fun l125 => k0 (-1 : Int) l125)
  N (Nat.cast (List.length x0) : Int) (0 : Int) x0
noncomputable def slices_IndexFunc___byte__byte_ce38 (N : Nat) {R : Type} (x0 : List (List (Int))) (k0 : (Int) → (List (List (Int))) → Option R) : Option R := slices_IndexFunc___byte__byte_ce38_T N (@run_made_1 N) (@slices_IndexFunc___byte__byte_ce38_l0 N) x0 k0
abbrev slices_ContainsFunc___byte__byte_ce38_Ty : Type 1 := {R : Type} → (List (List (Int))) → ((Bool) → (List (List (Int))) → Option R) → Option R
noncomputable def slices_ContainsFunc___byte__byte_ce38_T (N : Nat) (c0 : slices_IndexFunc___byte__byte_ce38_Ty) {R : Type} (x0 : List (List (Int))) (k0 : (Bool) → (List (List (Int))) → Option R) : Option R :=
  c0 x0
  (fun i126 l127 => k0 (decide ((0 : Int) ≤ i126)) l127)
noncomputable def slices_ContainsFunc___byte__byte_ce38 (N : Nat) {R : Type} (x0 : List (List (Int))) (k0 : (Bool) → (List (List (Int))) → Option R) : Option R := slices_ContainsFunc___byte__byte_ce38_T N (@slices_IndexFunc___byte__byte_ce38 N) x0 k0
abbrev slices_Clone__bool_bool_a594_Ty : Type 1 := {R : Type} → (List (Bool)) → ((List (Bool)) → (List (Bool)) → Option R) → Option R
noncomputable def slices_Clone__bool_bool_a594 {R : Type} (x0 : List (Bool)) (k0 : (List (Bool)) → (List (Bool)) → Option R) : Option R := br (fits (0 : Nat) (List.length x0) x0) (br ((decide (((0 : Nat) + (List.length (sub x0 (0 : Nat) (List.length x0)))) * (1 : Nat) ≤ (70368744177664 : Nat))) && true) (k0 x0 (sub x0 (0 : Nat) (List.length x0))) (none)) (none)
abbrev fails_New_a594_Ty : Type 1 := {R : Type} → (List (Bool)) → ((List (Bool)) → (Int) → (List (Bool)) → Option R) → Option R
noncomputable def fails_New_a594_T (N : Nat) (c0 : slices_Clone__bool_bool_a594_Ty) {R : Type} (x0 : List (Bool)) (k0 : (List (Bool)) → (Int) → (List (Bool)) → Option R) : Option R :=
  c0 x0
  (fun l130 l131 => k0 l130 (0 : Int) l131)
noncomputable def fails_New_a594 (N : Nat) {R : Type} (x0 : List (Bool)) (k0 : (List (Bool)) → (Int) → (List (Bool)) → Option R) : Option R := fails_New_a594_T N @slices_Clone__bool_bool_a594 x0 k0
abbrev run_made_32d2_Ty : Type 1 := {R : Type} → (Int) → (List ((Int) × (Int))) → (List (ByteArray)) → (List (List (Int))) → (List (List (Int))) → (List (Bool)) → ((Int) → (List ((Int) × (Int))) → (List (ByteArray)) → (List (List (Int))) → (List (List (Int))) → (List (Bool)) → Option R) → ((Int) → (List ((Int) × (Int))) → (List (ByteArray)) → (List (List (Int))) → (List (List (Int))) → (List (Bool)) → (Int) → (List (Int)) → (List (Int)) → (Int) → (Int) → (Int) → (List (Int)) → (Int) → (List (Bool)) → (List ((Bool) × (Int))) → Option R) → ((Int) → (List ((Int) × (Int))) → (List (ByteArray)) → (List (List (Int))) → (List (List (Int))) → (List (Bool)) → (Int) → (List (Int)) → (List (Int)) → (Int) → (Int) → (Int) → (List (Int)) → (List (Int)) → (Int) → (List (((ByteArray) × (ByteArray)) × ((Int) × (Bool)))) → (List ((Int) × (List (Int)))) → (List ((Int) × (Int))) → (Int) → (List (Bool)) → (List ((Bool) × (Int))) → Option R) → Option R
noncomputable def run_made_32d2_T (N : Nat) (c0 : fails_New_a594_Ty) (c1 : slices_ContainsFunc___byte__byte_ce38_Ty) (c2 : files_New_9d03_Ty) (c3 : check_Run_87f1_Ty) {R : Type} (x0 : Int) (x1 : List ((Int) × (Int))) (x2 : List (ByteArray)) (x3 : List (List (Int))) (x4 : List (List (Int))) (x5 : List (Bool)) (k0 : (Int) → (List ((Int) × (Int))) → (List (ByteArray)) → (List (List (Int))) → (List (List (Int))) → (List (Bool)) → Option R) (k1 : (Int) → (List ((Int) × (Int))) → (List (ByteArray)) → (List (List (Int))) → (List (List (Int))) → (List (Bool)) → (Int) → (List (Int)) → (List (Int)) → (Int) → (Int) → (Int) → (List (Int)) → (Int) → (List (Bool)) → (List ((Bool) × (Int))) → Option R) (k2 : (Int) → (List ((Int) × (Int))) → (List (ByteArray)) → (List (List (Int))) → (List (List (Int))) → (List (Bool)) → (Int) → (List (Int)) → (List (Int)) → (Int) → (Int) → (Int) → (List (Int)) → (List (Int)) → (Int) → (List (((ByteArray) × (ByteArray)) × ((Int) × (Bool)))) → (List ((Int) × (List (Int)))) → (List ((Int) × (Int))) → (Int) → (List (Bool)) → (List ((Bool) × (Int))) → Option R) : Option R :=
  c3 x1 x2
  (fun i105 i106 l107 l108 => br (!(decide (i106 = (0 : Int))))
   (k0 i106 l107 l108 x3 x4 x5)
   (c2 x3
    (fun i120 l121 => br (!(decide (i120 = (0 : Int))))
     (k0 i120 l107 l108 l121 x4 x5)
     (br (!(decide ((2 : Int) < (Nat.cast (List.length x4) : Int))))
      (c1 x4
       (fun b128 l129 => br b128
        (k0 (12 : Int) l107 l108 l121 l129 x5)
        (br (!(decide (x0 < (0 : Int))))
         (br (decide ((400 : Int) < x0))
          (k0 (1 : Int) l107 l108 l121 l129 x5)
          (c0 x5
           (fun l132 i133 l134 => k1 (0 : Int) l107 l108 l121 l129 l132 (0 : Int) (List.replicate (8 : Nat) (0 : Int)) (List.replicate (32 : Nat) (0 : Int)) (0 : Int) (0 : Int) (0 : Int) ([] : List ((Sh.int IntKind.u16).T)) i133 l134 ([] : List ((Sh.bool.pair (Sh.int IntKind.u16)).T)))))
         (k0 (1 : Int) l107 l108 l121 l129 x5))))
      (k0 (12 : Int) l107 l108 l121 x4 x5)))
    (fun i135 l136 l137 i138 l139 l140 l141 => br (!(decide (i135 = (0 : Int))))
     (k0 i135 l107 l108 l136 x4 x5)
     (br (!(decide ((2 : Int) < (Nat.cast (List.length x4) : Int))))
      (c1 x4
       (fun b142 l143 => br b142
        (k0 (12 : Int) l107 l108 l136 l143 x5)
        (br (!(decide (x0 < (0 : Int))))
         (br (decide ((400 : Int) < x0))
          (k0 (1 : Int) l107 l108 l136 l143 x5)
          (c0 x5
           (fun l144 i145 l146 => k2 (0 : Int) l107 l108 l136 l143 l144 (0 : Int) (List.replicate (8 : Nat) (0 : Int)) (List.replicate (32 : Nat) (0 : Int)) (0 : Int) (0 : Int) (0 : Int) ([] : List ((Sh.int IntKind.u16).T)) l137 i138 l139 l140 l141 i145 l146 ([] : List ((Sh.bool.pair (Sh.int IntKind.u16)).T)))))
         (k0 (1 : Int) l107 l108 l136 l143 x5))))
      (k0 (12 : Int) l107 l108 l136 x4 x5)))))
noncomputable def run_made_32d2 (N : Nat) {R : Type} (x0 : Int) (x1 : List ((Int) × (Int))) (x2 : List (ByteArray)) (x3 : List (List (Int))) (x4 : List (List (Int))) (x5 : List (Bool)) (k0 : (Int) → (List ((Int) × (Int))) → (List (ByteArray)) → (List (List (Int))) → (List (List (Int))) → (List (Bool)) → Option R) (k1 : (Int) → (List ((Int) × (Int))) → (List (ByteArray)) → (List (List (Int))) → (List (List (Int))) → (List (Bool)) → (Int) → (List (Int)) → (List (Int)) → (Int) → (Int) → (Int) → (List (Int)) → (Int) → (List (Bool)) → (List ((Bool) × (Int))) → Option R) (k2 : (Int) → (List ((Int) × (Int))) → (List (ByteArray)) → (List (List (Int))) → (List (List (Int))) → (List (Bool)) → (Int) → (List (Int)) → (List (Int)) → (Int) → (Int) → (Int) → (List (Int)) → (List (Int)) → (Int) → (List (((ByteArray) × (ByteArray)) × ((Int) × (Bool)))) → (List ((Int) × (List (Int)))) → (List ((Int) × (Int))) → (Int) → (List (Bool)) → (List ((Bool) × (Int))) → Option R) : Option R := run_made_32d2_T N (@fails_New_a594 N) (@slices_ContainsFunc___byte__byte_ce38 N) (@files_New_9d03 N) (@check_Run_87f1 N) x0 x1 x2 x3 x4 x5 k0 k1 k2
abbrev run_machine_end_5a2b_Ty : Type 1 := {R : Type} → (Int) → (Int) → (Int) → (List (Int)) → (List (Int)) → (Int) → (Int) → (Int) → (List ((Int) × (Int))) → (List (ByteArray)) → (List (Int)) → (Int) → (List (Bool)) → (List (List (Int))) → (List ((Bool) × (Int))) → ((Int) → (List (Int)) → (List (Int)) → (Int) → (Int) → (Int) → (List ((Int) × (Int))) → (List (ByteArray)) → (List (Int)) → (Int) → (List (Bool)) → (List (List (Int))) → (List ((Bool) × (Int))) → Option R) → Option R
noncomputable def run_machine_end_5a2b_T (N : Nat) {R : Type} (x0 : Int) (x1 : Int) (x2 : Int) (x3 : List (Int)) (x4 : List (Int)) (x5 : Int) (x6 : Int) (x7 : Int) (x8 : List ((Int) × (Int))) (x9 : List (ByteArray)) (x10 : List (Int)) (x11 : Int) (x12 : List (Bool)) (x13 : List (List (Int))) (x14 : List ((Bool) × (Int))) (k0 : (Int) → (List (Int)) → (List (Int)) → (Int) → (Int) → (Int) → (List ((Int) × (Int))) → (List (ByteArray)) → (List (Int)) → (Int) → (List (Bool)) → (List (List (Int))) → (List ((Bool) × (Int))) → Option R) : Option R :=
  k0 x2 x3 x4 x0 x1 x7 x8 x9 x10 x11 x12 x13 x14
noncomputable def run_machine_end_5a2b (N : Nat) {R : Type} (x0 : Int) (x1 : Int) (x2 : Int) (x3 : List (Int)) (x4 : List (Int)) (x5 : Int) (x6 : Int) (x7 : Int) (x8 : List ((Int) × (Int))) (x9 : List (ByteArray)) (x10 : List (Int)) (x11 : Int) (x12 : List (Bool)) (x13 : List (List (Int))) (x14 : List ((Bool) × (Int))) (k0 : (Int) → (List (Int)) → (List (Int)) → (Int) → (Int) → (Int) → (List ((Int) × (Int))) → (List (ByteArray)) → (List (Int)) → (Int) → (List (Bool)) → (List (List (Int))) → (List ((Bool) × (Int))) → Option R) : Option R := run_machine_end_5a2b_T N x0 x1 x2 x3 x4 x5 x6 x7 x8 x9 x10 x11 x12 x13 x14 k0
abbrev run_machine_end_3f90_Ty : Type 1 := {R : Type} → (Int) → (Int) → (Int) → (List (Int)) → (List (Int)) → (Int) → (Int) → (Int) → (List ((Int) × (Int))) → (List (ByteArray)) → (List (Int)) → (List (Int)) → (Int) → (List (((ByteArray) × (ByteArray)) × ((Int) × (Bool)))) → (List ((Int) × (List (Int)))) → (List ((Int) × (Int))) → (Int) → (List (Bool)) → (List (List (Int))) → (List ((Bool) × (Int))) → ((Int) → (List (Int)) → (List (Int)) → (Int) → (Int) → (Int) → (List ((Int) × (Int))) → (List (ByteArray)) → (List (Int)) → (List (Int)) → (Int) → (List (((ByteArray) × (ByteArray)) × ((Int) × (Bool)))) → (List ((Int) × (List (Int)))) → (List ((Int) × (Int))) → (Int) → (List (Bool)) → (List (List (Int))) → (List ((Bool) × (Int))) → Option R) → Option R
noncomputable def run_machine_end_3f90_T (N : Nat) {R : Type} (x0 : Int) (x1 : Int) (x2 : Int) (x3 : List (Int)) (x4 : List (Int)) (x5 : Int) (x6 : Int) (x7 : Int) (x8 : List ((Int) × (Int))) (x9 : List (ByteArray)) (x10 : List (Int)) (x11 : List (Int)) (x12 : Int) (x13 : List (((ByteArray) × (ByteArray)) × ((Int) × (Bool)))) (x14 : List ((Int) × (List (Int)))) (x15 : List ((Int) × (Int))) (x16 : Int) (x17 : List (Bool)) (x18 : List (List (Int))) (x19 : List ((Bool) × (Int))) (k0 : (Int) → (List (Int)) → (List (Int)) → (Int) → (Int) → (Int) → (List ((Int) × (Int))) → (List (ByteArray)) → (List (Int)) → (List (Int)) → (Int) → (List (((ByteArray) × (ByteArray)) × ((Int) × (Bool)))) → (List ((Int) × (List (Int)))) → (List ((Int) × (Int))) → (Int) → (List (Bool)) → (List (List (Int))) → (List ((Bool) × (Int))) → Option R) : Option R :=
  k0 x2 x3 x4 x0 x1 x7 x8 x9 x10 x11 x12 x13 x14 x15 x16 x17 x18 x19
noncomputable def run_machine_end_3f90 (N : Nat) {R : Type} (x0 : Int) (x1 : Int) (x2 : Int) (x3 : List (Int)) (x4 : List (Int)) (x5 : Int) (x6 : Int) (x7 : Int) (x8 : List ((Int) × (Int))) (x9 : List (ByteArray)) (x10 : List (Int)) (x11 : List (Int)) (x12 : Int) (x13 : List (((ByteArray) × (ByteArray)) × ((Int) × (Bool)))) (x14 : List ((Int) × (List (Int)))) (x15 : List ((Int) × (Int))) (x16 : Int) (x17 : List (Bool)) (x18 : List (List (Int))) (x19 : List ((Bool) × (Int))) (k0 : (Int) → (List (Int)) → (List (Int)) → (Int) → (Int) → (Int) → (List ((Int) × (Int))) → (List (ByteArray)) → (List (Int)) → (List (Int)) → (Int) → (List (((ByteArray) × (ByteArray)) × ((Int) × (Bool)))) → (List ((Int) × (List (Int)))) → (List ((Int) × (Int))) → (Int) → (List (Bool)) → (List (List (Int))) → (List ((Bool) × (Int))) → Option R) : Option R := run_machine_end_3f90_T N x0 x1 x2 x3 x4 x5 x6 x7 x8 x9 x10 x11 x12 x13 x14 x15 x16 x17 x18 x19 k0
abbrev inst_Falls_Ty : Type 1 := {R : Type} → (Int) → ((Bool) → Option R) → Option R
noncomputable def inst_Falls_T (N : Nat) {R : Type} (x0 : Int) (k0 : (Bool) → Option R) : Option R :=
  br (decide (x0 = (27 : Int)))
  (k0 true)
  (br (decide (x0 = (29 : Int)))
   (k0 true)
   (br (decide (x0 = (30 : Int)))
    (k0 true)
    (br (decide (x0 = (33 : Int)))
     (k0 true)
     (br (decide (x0 = (34 : Int)))
      (k0 true)
      (br (decide (x0 = (35 : Int)))
       (k0 true)
       (br (decide (x0 = (36 : Int)))
        (k0 true)
        (br (decide (x0 = (38 : Int)))
         (k0 true)
         (k0 false))))))))
noncomputable def inst_Falls (N : Nat) {R : Type} (x0 : Int) (k0 : (Bool) → Option R) : Option R := inst_Falls_T N x0 k0
abbrev fails_Fails_Next_054a_Ty : Type 1 := {R : Type} → (Int) → (List (Bool)) → ((Bool) → (Int) → (List (Bool)) → Option R) → Option R
noncomputable def fails_Fails_Next_054a_T (N : Nat) {R : Type} (x0 : Int) (x1 : List (Bool)) (k0 : (Bool) → (Int) → (List (Bool)) → Option R) : Option R :=
  br (decide (x0 = (Nat.cast (List.length x1) : Int)))
  (k0 false x0 x1)
  (br (inB (IntKind.wrap .i64 ((IntKind.wrap .i64 (x0 + (1 : Int))) - (1 : Int))) (List.length x1))
   (br (decide ((Int.toNat (IntKind.wrap .i64 ((IntKind.wrap .i64 (x0 + (1 : Int))) - (1 : Int)))) < (List.length x1)))
    (k0 (List.getD x1 (Int.toNat (IntKind.wrap .i64 ((IntKind.wrap .i64 (x0 + (1 : Int))) - (1 : Int)))) false) (IntKind.wrap .i64 (x0 + (1 : Int))) x1)
    (none))
   (none))
noncomputable def fails_Fails_Next_054a (N : Nat) {R : Type} (x0 : Int) (x1 : List (Bool)) (k0 : (Bool) → (Int) → (List (Bool)) → Option R) : Option R := fails_Fails_Next_054a_T N x0 x1 k0
abbrev run_machine_push_6121_Ty : Type 1 := {R : Type} → (Int) → (Int) → (Nat) → (Nat) → (List (Int)) → (List (Int)) → (Int) → (Int) → (Int) → (List ((Int) × (Int))) → (List (ByteArray)) → (Nat) → (List (Int)) → (Int) → (List (Bool)) → (List (List (Int))) → (List ((Bool) × (Int))) → ((Int) → (List (Int)) → (List (Int)) → (Int) → (Int) → (Int) → (List ((Int) × (Int))) → (List (ByteArray)) → (Int) → (List (Bool)) → (List (List (Int))) → (List ((Bool) × (Int))) → (List (Int)) → Option R) → Option R
noncomputable def run_machine_push_6121_T (N : Nat) {R : Type} (x0 : Int) (x1 : Int) (x2 : Nat) (x3 : Nat) (x4 : List (Int)) (x5 : List (Int)) (x6 : Int) (x7 : Int) (x8 : Int) (x9 : List ((Int) × (Int))) (x10 : List (ByteArray)) (x11 : Nat) (x12 : List (Int)) (x13 : Int) (x14 : List (Bool)) (x15 : List (List (Int))) (x16 : List ((Bool) × (Int))) (k0 : (Int) → (List (Int)) → (List (Int)) → (Int) → (Int) → (Int) → (List ((Int) × (Int))) → (List (ByteArray)) → (Int) → (List (Bool)) → (List (List (Int))) → (List ((Bool) × (Int))) → (List (Int)) → Option R) : Option R :=
  br (((fits (0 : Nat) x2 x12) && (decide (((x2 + (1 : Nat)) * (2 : Nat)) ≤ (70368744177664 : Nat)))) && true)
  (k0 x1 x4 x5 x6 x7 x8 x9 x10 x13 x14 x15 x16 ((sub x12 (0 : Nat) x2) ++ (x0 :: ([] : List ((Sh.int IntKind.u16).T)))))
  (none)
noncomputable def run_machine_push_6121 (N : Nat) {R : Type} (x0 : Int) (x1 : Int) (x2 : Nat) (x3 : Nat) (x4 : List (Int)) (x5 : List (Int)) (x6 : Int) (x7 : Int) (x8 : Int) (x9 : List ((Int) × (Int))) (x10 : List (ByteArray)) (x11 : Nat) (x12 : List (Int)) (x13 : Int) (x14 : List (Bool)) (x15 : List (List (Int))) (x16 : List ((Bool) × (Int))) (k0 : (Int) → (List (Int)) → (List (Int)) → (Int) → (Int) → (Int) → (List ((Int) × (Int))) → (List (ByteArray)) → (Int) → (List (Bool)) → (List (List (Int))) → (List ((Bool) × (Int))) → (List (Int)) → Option R) : Option R := run_machine_push_6121_T N x0 x1 x2 x3 x4 x5 x6 x7 x8 x9 x10 x11 x12 x13 x14 x15 x16 k0
abbrev run_machine_push_9b59_Ty : Type 1 := {R : Type} → (Int) → (Int) → (List (Int)) → (List (Int)) → (Int) → (Int) → (Int) → (List ((Int) × (Int))) → (List (ByteArray)) → (List (Int)) → (Int) → (List (Bool)) → (List (List (Int))) → (List ((Bool) × (Int))) → ((Int) → (List (Int)) → (List (Int)) → (Int) → (Int) → (Int) → (List ((Int) × (Int))) → (List (ByteArray)) → (Int) → (List (Bool)) → (List (List (Int))) → (List ((Bool) × (Int))) → (List (Int)) → Option R) → Option R
noncomputable def run_machine_push_9b59_T (N : Nat) {R : Type} (x0 : Int) (x1 : Int) (x2 : List (Int)) (x3 : List (Int)) (x4 : Int) (x5 : Int) (x6 : Int) (x7 : List ((Int) × (Int))) (x8 : List (ByteArray)) (x9 : List (Int)) (x10 : Int) (x11 : List (Bool)) (x12 : List (List (Int))) (x13 : List ((Bool) × (Int))) (k0 : (Int) → (List (Int)) → (List (Int)) → (Int) → (Int) → (Int) → (List ((Int) × (Int))) → (List (ByteArray)) → (Int) → (List (Bool)) → (List (List (Int))) → (List ((Bool) × (Int))) → (List (Int)) → Option R) : Option R :=
  br (((fits (0 : Nat) (List.length x9) x9) && (decide ((((List.length x9) + (1 : Nat)) * (2 : Nat)) ≤ (70368744177664 : Nat)))) && true)
  (k0 x1 x2 x3 x4 x5 x6 x7 x8 x10 x11 x12 x13 ((sub x9 (0 : Nat) (List.length x9)) ++ (x0 :: ([] : List ((Sh.int IntKind.u16).T)))))
  (none)
noncomputable def run_machine_push_9b59 (N : Nat) {R : Type} (x0 : Int) (x1 : Int) (x2 : List (Int)) (x3 : List (Int)) (x4 : Int) (x5 : Int) (x6 : Int) (x7 : List ((Int) × (Int))) (x8 : List (ByteArray)) (x9 : List (Int)) (x10 : Int) (x11 : List (Bool)) (x12 : List (List (Int))) (x13 : List ((Bool) × (Int))) (k0 : (Int) → (List (Int)) → (List (Int)) → (Int) → (Int) → (Int) → (List ((Int) × (Int))) → (List (ByteArray)) → (Int) → (List (Bool)) → (List (List (Int))) → (List ((Bool) × (Int))) → (List (Int)) → Option R) : Option R := run_machine_push_9b59_T N x0 x1 x2 x3 x4 x5 x6 x7 x8 x9 x10 x11 x12 x13 k0
abbrev run_machine_push_c21d_Ty : Type 1 := {R : Type} → (Int) → (Int) → (Nat) → (Nat) → (List (Int)) → (List (Int)) → (Int) → (Int) → (Int) → (List ((Int) × (Int))) → (List (ByteArray)) → (Nat) → (List (Int)) → (List (Int)) → (Int) → (List (((ByteArray) × (ByteArray)) × ((Int) × (Bool)))) → (List ((Int) × (List (Int)))) → (List ((Int) × (Int))) → (Int) → (List (Bool)) → (List (List (Int))) → (List ((Bool) × (Int))) → ((Int) → (List (Int)) → (List (Int)) → (Int) → (Int) → (Int) → (List ((Int) × (Int))) → (List (ByteArray)) → (List (Int)) → (Int) → (List (((ByteArray) × (ByteArray)) × ((Int) × (Bool)))) → (List ((Int) × (List (Int)))) → (List ((Int) × (Int))) → (Int) → (List (Bool)) → (List (List (Int))) → (List ((Bool) × (Int))) → (List (Int)) → Option R) → Option R
noncomputable def run_machine_push_c21d_T (N : Nat) {R : Type} (x0 : Int) (x1 : Int) (x2 : Nat) (x3 : Nat) (x4 : List (Int)) (x5 : List (Int)) (x6 : Int) (x7 : Int) (x8 : Int) (x9 : List ((Int) × (Int))) (x10 : List (ByteArray)) (x11 : Nat) (x12 : List (Int)) (x13 : List (Int)) (x14 : Int) (x15 : List (((ByteArray) × (ByteArray)) × ((Int) × (Bool)))) (x16 : List ((Int) × (List (Int)))) (x17 : List ((Int) × (Int))) (x18 : Int) (x19 : List (Bool)) (x20 : List (List (Int))) (x21 : List ((Bool) × (Int))) (k0 : (Int) → (List (Int)) → (List (Int)) → (Int) → (Int) → (Int) → (List ((Int) × (Int))) → (List (ByteArray)) → (List (Int)) → (Int) → (List (((ByteArray) × (ByteArray)) × ((Int) × (Bool)))) → (List ((Int) × (List (Int)))) → (List ((Int) × (Int))) → (Int) → (List (Bool)) → (List (List (Int))) → (List ((Bool) × (Int))) → (List (Int)) → Option R) : Option R :=
  br (((fits (0 : Nat) x2 x12) && (decide (((x2 + (1 : Nat)) * (2 : Nat)) ≤ (70368744177664 : Nat)))) && true)
  (k0 x1 x4 x5 x6 x7 x8 x9 x10 x13 x14 x15 x16 x17 x18 x19 x20 x21 ((sub x12 (0 : Nat) x2) ++ (x0 :: ([] : List ((Sh.int IntKind.u16).T)))))
  (none)
noncomputable def run_machine_push_c21d (N : Nat) {R : Type} (x0 : Int) (x1 : Int) (x2 : Nat) (x3 : Nat) (x4 : List (Int)) (x5 : List (Int)) (x6 : Int) (x7 : Int) (x8 : Int) (x9 : List ((Int) × (Int))) (x10 : List (ByteArray)) (x11 : Nat) (x12 : List (Int)) (x13 : List (Int)) (x14 : Int) (x15 : List (((ByteArray) × (ByteArray)) × ((Int) × (Bool)))) (x16 : List ((Int) × (List (Int)))) (x17 : List ((Int) × (Int))) (x18 : Int) (x19 : List (Bool)) (x20 : List (List (Int))) (x21 : List ((Bool) × (Int))) (k0 : (Int) → (List (Int)) → (List (Int)) → (Int) → (Int) → (Int) → (List ((Int) × (Int))) → (List (ByteArray)) → (List (Int)) → (Int) → (List (((ByteArray) × (ByteArray)) × ((Int) × (Bool)))) → (List ((Int) × (List (Int)))) → (List ((Int) × (Int))) → (Int) → (List (Bool)) → (List (List (Int))) → (List ((Bool) × (Int))) → (List (Int)) → Option R) : Option R := run_machine_push_c21d_T N x0 x1 x2 x3 x4 x5 x6 x7 x8 x9 x10 x11 x12 x13 x14 x15 x16 x17 x18 x19 x20 x21 k0
abbrev run_machine_push_684b_Ty : Type 1 := {R : Type} → (Int) → (Int) → (List (Int)) → (List (Int)) → (Int) → (Int) → (Int) → (List ((Int) × (Int))) → (List (ByteArray)) → (List (Int)) → (List (Int)) → (Int) → (List (((ByteArray) × (ByteArray)) × ((Int) × (Bool)))) → (List ((Int) × (List (Int)))) → (List ((Int) × (Int))) → (Int) → (List (Bool)) → (List (List (Int))) → (List ((Bool) × (Int))) → ((Int) → (List (Int)) → (List (Int)) → (Int) → (Int) → (Int) → (List ((Int) × (Int))) → (List (ByteArray)) → (List (Int)) → (Int) → (List (((ByteArray) × (ByteArray)) × ((Int) × (Bool)))) → (List ((Int) × (List (Int)))) → (List ((Int) × (Int))) → (Int) → (List (Bool)) → (List (List (Int))) → (List ((Bool) × (Int))) → (List (Int)) → Option R) → Option R
noncomputable def run_machine_push_684b_T (N : Nat) {R : Type} (x0 : Int) (x1 : Int) (x2 : List (Int)) (x3 : List (Int)) (x4 : Int) (x5 : Int) (x6 : Int) (x7 : List ((Int) × (Int))) (x8 : List (ByteArray)) (x9 : List (Int)) (x10 : List (Int)) (x11 : Int) (x12 : List (((ByteArray) × (ByteArray)) × ((Int) × (Bool)))) (x13 : List ((Int) × (List (Int)))) (x14 : List ((Int) × (Int))) (x15 : Int) (x16 : List (Bool)) (x17 : List (List (Int))) (x18 : List ((Bool) × (Int))) (k0 : (Int) → (List (Int)) → (List (Int)) → (Int) → (Int) → (Int) → (List ((Int) × (Int))) → (List (ByteArray)) → (List (Int)) → (Int) → (List (((ByteArray) × (ByteArray)) × ((Int) × (Bool)))) → (List ((Int) × (List (Int)))) → (List ((Int) × (Int))) → (Int) → (List (Bool)) → (List (List (Int))) → (List ((Bool) × (Int))) → (List (Int)) → Option R) : Option R :=
  br (((fits (0 : Nat) (List.length x9) x9) && (decide ((((List.length x9) + (1 : Nat)) * (2 : Nat)) ≤ (70368744177664 : Nat)))) && true)
  (k0 x1 x2 x3 x4 x5 x6 x7 x8 x10 x11 x12 x13 x14 x15 x16 x17 x18 ((sub x9 (0 : Nat) (List.length x9)) ++ (x0 :: ([] : List ((Sh.int IntKind.u16).T)))))
  (none)
noncomputable def run_machine_push_684b (N : Nat) {R : Type} (x0 : Int) (x1 : Int) (x2 : List (Int)) (x3 : List (Int)) (x4 : Int) (x5 : Int) (x6 : Int) (x7 : List ((Int) × (Int))) (x8 : List (ByteArray)) (x9 : List (Int)) (x10 : List (Int)) (x11 : Int) (x12 : List (((ByteArray) × (ByteArray)) × ((Int) × (Bool)))) (x13 : List ((Int) × (List (Int)))) (x14 : List ((Int) × (Int))) (x15 : Int) (x16 : List (Bool)) (x17 : List (List (Int))) (x18 : List ((Bool) × (Int))) (k0 : (Int) → (List (Int)) → (List (Int)) → (Int) → (Int) → (Int) → (List ((Int) × (Int))) → (List (ByteArray)) → (List (Int)) → (Int) → (List (((ByteArray) × (ByteArray)) × ((Int) × (Bool)))) → (List ((Int) × (List (Int)))) → (List ((Int) × (Int))) → (Int) → (List (Bool)) → (List (List (Int))) → (List ((Bool) × (Int))) → (List (Int)) → Option R) : Option R := run_machine_push_684b_T N x0 x1 x2 x3 x4 x5 x6 x7 x8 x9 x10 x11 x12 x13 x14 x15 x16 x17 x18 k0
abbrev run_machine_answer_6121_Ty : Type 1 := {R : Type} → (Int) → (Int) → (Nat) → (Nat) → (List (Int)) → (List (Int)) → (Int) → (Int) → (Int) → (List ((Int) × (Int))) → (List (ByteArray)) → (Nat) → (List (Int)) → (Int) → (List (Bool)) → (List (List (Int))) → (List ((Bool) × (Int))) → ((Int) → (List (Int)) → (List (Int)) → (Int) → (Int) → (Int) → (List ((Int) × (Int))) → (List (ByteArray)) → (Int) → (List (Bool)) → (List (List (Int))) → (List (Int)) → (List ((Bool) × (Int))) → Option R) → Option R
noncomputable def run_machine_answer_6121_T (N : Nat) (c0 : run_machine_push_6121_Ty) (c1 : run_machine_push_9b59_Ty) (c2 : run_machine_push_c21d_Ty) (c3 : run_machine_push_684b_Ty) {R : Type} (x0 : Int) (x1 : Int) (x2 : Nat) (x3 : Nat) (x4 : List (Int)) (x5 : List (Int)) (x6 : Int) (x7 : Int) (x8 : Int) (x9 : List ((Int) × (Int))) (x10 : List (ByteArray)) (x11 : Nat) (x12 : List (Int)) (x13 : Int) (x14 : List (Bool)) (x15 : List (List (Int))) (x16 : List ((Bool) × (Int))) (k0 : (Int) → (List (Int)) → (List (Int)) → (Int) → (Int) → (Int) → (List ((Int) × (Int))) → (List (ByteArray)) → (Int) → (List (Bool)) → (List (List (Int))) → (List (Int)) → (List ((Bool) × (Int))) → Option R) : Option R :=
  c0 x0 x1 x2 x3 x4 x5 x6 x7 x8 x9 x10 x11 x12 x13 x14 x15 x16
  (fun i187 l188 l189 i190 i191 i192 l193 l194 i195 l196 l197 l198 l199 => br (((fits (0 : Nat) (List.length l198) l198) && (decide ((((List.length l198) + (1 : Nat)) * (4 : Nat)) ≤ (70368744177664 : Nat)))) && true)
   (k0 i187 l188 l189 i190 i191 i192 l193 l194 i195 l196 l197 l199 ((sub l198 (0 : Nat) (List.length l198)) ++ ((false , x0) :: ([] : List ((Sh.bool.pair (Sh.int IntKind.u16)).T)))))
   (none))
noncomputable def run_machine_answer_6121 (N : Nat) {R : Type} (x0 : Int) (x1 : Int) (x2 : Nat) (x3 : Nat) (x4 : List (Int)) (x5 : List (Int)) (x6 : Int) (x7 : Int) (x8 : Int) (x9 : List ((Int) × (Int))) (x10 : List (ByteArray)) (x11 : Nat) (x12 : List (Int)) (x13 : Int) (x14 : List (Bool)) (x15 : List (List (Int))) (x16 : List ((Bool) × (Int))) (k0 : (Int) → (List (Int)) → (List (Int)) → (Int) → (Int) → (Int) → (List ((Int) × (Int))) → (List (ByteArray)) → (Int) → (List (Bool)) → (List (List (Int))) → (List (Int)) → (List ((Bool) × (Int))) → Option R) : Option R := run_machine_answer_6121_T N (@run_machine_push_6121 N) (@run_machine_push_9b59 N) (@run_machine_push_c21d N) (@run_machine_push_684b N) x0 x1 x2 x3 x4 x5 x6 x7 x8 x9 x10 x11 x12 x13 x14 x15 x16 k0
abbrev run_machine_answer_9b59_Ty : Type 1 := {R : Type} → (Int) → (Int) → (List (Int)) → (List (Int)) → (Int) → (Int) → (Int) → (List ((Int) × (Int))) → (List (ByteArray)) → (List (Int)) → (Int) → (List (Bool)) → (List (List (Int))) → (List ((Bool) × (Int))) → ((Int) → (List (Int)) → (List (Int)) → (Int) → (Int) → (Int) → (List ((Int) × (Int))) → (List (ByteArray)) → (Int) → (List (Bool)) → (List (List (Int))) → (List (Int)) → (List ((Bool) × (Int))) → Option R) → Option R
noncomputable def run_machine_answer_9b59_T (N : Nat) (c0 : run_machine_push_6121_Ty) (c1 : run_machine_push_9b59_Ty) (c2 : run_machine_push_c21d_Ty) (c3 : run_machine_push_684b_Ty) {R : Type} (x0 : Int) (x1 : Int) (x2 : List (Int)) (x3 : List (Int)) (x4 : Int) (x5 : Int) (x6 : Int) (x7 : List ((Int) × (Int))) (x8 : List (ByteArray)) (x9 : List (Int)) (x10 : Int) (x11 : List (Bool)) (x12 : List (List (Int))) (x13 : List ((Bool) × (Int))) (k0 : (Int) → (List (Int)) → (List (Int)) → (Int) → (Int) → (Int) → (List ((Int) × (Int))) → (List (ByteArray)) → (Int) → (List (Bool)) → (List (List (Int))) → (List (Int)) → (List ((Bool) × (Int))) → Option R) : Option R :=
  c1 x0 x1 x2 x3 x4 x5 x6 x7 x8 x9 x10 x11 x12 x13
  (fun i1115 l1116 l1117 i1118 i1119 i1120 l1121 l1122 i1123 l1124 l1125 l1126 l1127 => br (((fits (0 : Nat) (List.length l1126) l1126) && (decide ((((List.length l1126) + (1 : Nat)) * (4 : Nat)) ≤ (70368744177664 : Nat)))) && true)
   (k0 i1115 l1116 l1117 i1118 i1119 i1120 l1121 l1122 i1123 l1124 l1125 l1127 ((sub l1126 (0 : Nat) (List.length l1126)) ++ ((false , x0) :: ([] : List ((Sh.bool.pair (Sh.int IntKind.u16)).T)))))
   (none))
noncomputable def run_machine_answer_9b59 (N : Nat) {R : Type} (x0 : Int) (x1 : Int) (x2 : List (Int)) (x3 : List (Int)) (x4 : Int) (x5 : Int) (x6 : Int) (x7 : List ((Int) × (Int))) (x8 : List (ByteArray)) (x9 : List (Int)) (x10 : Int) (x11 : List (Bool)) (x12 : List (List (Int))) (x13 : List ((Bool) × (Int))) (k0 : (Int) → (List (Int)) → (List (Int)) → (Int) → (Int) → (Int) → (List ((Int) × (Int))) → (List (ByteArray)) → (Int) → (List (Bool)) → (List (List (Int))) → (List (Int)) → (List ((Bool) × (Int))) → Option R) : Option R := run_machine_answer_9b59_T N (@run_machine_push_6121 N) (@run_machine_push_9b59 N) (@run_machine_push_c21d N) (@run_machine_push_684b N) x0 x1 x2 x3 x4 x5 x6 x7 x8 x9 x10 x11 x12 x13 k0
abbrev run_machine_answer_c21d_Ty : Type 1 := {R : Type} → (Int) → (Int) → (Nat) → (Nat) → (List (Int)) → (List (Int)) → (Int) → (Int) → (Int) → (List ((Int) × (Int))) → (List (ByteArray)) → (Nat) → (List (Int)) → (List (Int)) → (Int) → (List (((ByteArray) × (ByteArray)) × ((Int) × (Bool)))) → (List ((Int) × (List (Int)))) → (List ((Int) × (Int))) → (Int) → (List (Bool)) → (List (List (Int))) → (List ((Bool) × (Int))) → ((Int) → (List (Int)) → (List (Int)) → (Int) → (Int) → (Int) → (List ((Int) × (Int))) → (List (ByteArray)) → (List (Int)) → (Int) → (List (((ByteArray) × (ByteArray)) × ((Int) × (Bool)))) → (List ((Int) × (List (Int)))) → (List ((Int) × (Int))) → (Int) → (List (Bool)) → (List (List (Int))) → (List (Int)) → (List ((Bool) × (Int))) → Option R) → Option R
noncomputable def run_machine_answer_c21d_T (N : Nat) (c0 : run_machine_push_6121_Ty) (c1 : run_machine_push_9b59_Ty) (c2 : run_machine_push_c21d_Ty) (c3 : run_machine_push_684b_Ty) {R : Type} (x0 : Int) (x1 : Int) (x2 : Nat) (x3 : Nat) (x4 : List (Int)) (x5 : List (Int)) (x6 : Int) (x7 : Int) (x8 : Int) (x9 : List ((Int) × (Int))) (x10 : List (ByteArray)) (x11 : Nat) (x12 : List (Int)) (x13 : List (Int)) (x14 : Int) (x15 : List (((ByteArray) × (ByteArray)) × ((Int) × (Bool)))) (x16 : List ((Int) × (List (Int)))) (x17 : List ((Int) × (Int))) (x18 : Int) (x19 : List (Bool)) (x20 : List (List (Int))) (x21 : List ((Bool) × (Int))) (k0 : (Int) → (List (Int)) → (List (Int)) → (Int) → (Int) → (Int) → (List ((Int) × (Int))) → (List (ByteArray)) → (List (Int)) → (Int) → (List (((ByteArray) × (ByteArray)) × ((Int) × (Bool)))) → (List ((Int) × (List (Int)))) → (List ((Int) × (Int))) → (Int) → (List (Bool)) → (List (List (Int))) → (List (Int)) → (List ((Bool) × (Int))) → Option R) : Option R :=
  c2 x0 x1 x2 x3 x4 x5 x6 x7 x8 x9 x10 x11 x12 x13 x14 x15 x16 x17 x18 x19 x20 x21
  (fun i2697 l2698 l2699 i2700 i2701 i2702 l2703 l2704 l2705 i2706 l2707 l2708 l2709 i2710 l2711 l2712 l2713 l2714 => br (((fits (0 : Nat) (List.length l2713) l2713) && (decide ((((List.length l2713) + (1 : Nat)) * (4 : Nat)) ≤ (70368744177664 : Nat)))) && true)
   (k0 i2697 l2698 l2699 i2700 i2701 i2702 l2703 l2704 l2705 i2706 l2707 l2708 l2709 i2710 l2711 l2712 l2714 ((sub l2713 (0 : Nat) (List.length l2713)) ++ ((false , x0) :: ([] : List ((Sh.bool.pair (Sh.int IntKind.u16)).T)))))
   (none))
noncomputable def run_machine_answer_c21d (N : Nat) {R : Type} (x0 : Int) (x1 : Int) (x2 : Nat) (x3 : Nat) (x4 : List (Int)) (x5 : List (Int)) (x6 : Int) (x7 : Int) (x8 : Int) (x9 : List ((Int) × (Int))) (x10 : List (ByteArray)) (x11 : Nat) (x12 : List (Int)) (x13 : List (Int)) (x14 : Int) (x15 : List (((ByteArray) × (ByteArray)) × ((Int) × (Bool)))) (x16 : List ((Int) × (List (Int)))) (x17 : List ((Int) × (Int))) (x18 : Int) (x19 : List (Bool)) (x20 : List (List (Int))) (x21 : List ((Bool) × (Int))) (k0 : (Int) → (List (Int)) → (List (Int)) → (Int) → (Int) → (Int) → (List ((Int) × (Int))) → (List (ByteArray)) → (List (Int)) → (Int) → (List (((ByteArray) × (ByteArray)) × ((Int) × (Bool)))) → (List ((Int) × (List (Int)))) → (List ((Int) × (Int))) → (Int) → (List (Bool)) → (List (List (Int))) → (List (Int)) → (List ((Bool) × (Int))) → Option R) : Option R := run_machine_answer_c21d_T N (@run_machine_push_6121 N) (@run_machine_push_9b59 N) (@run_machine_push_c21d N) (@run_machine_push_684b N) x0 x1 x2 x3 x4 x5 x6 x7 x8 x9 x10 x11 x12 x13 x14 x15 x16 x17 x18 x19 x20 x21 k0
abbrev run_machine_answer_684b_Ty : Type 1 := {R : Type} → (Int) → (Int) → (List (Int)) → (List (Int)) → (Int) → (Int) → (Int) → (List ((Int) × (Int))) → (List (ByteArray)) → (List (Int)) → (List (Int)) → (Int) → (List (((ByteArray) × (ByteArray)) × ((Int) × (Bool)))) → (List ((Int) × (List (Int)))) → (List ((Int) × (Int))) → (Int) → (List (Bool)) → (List (List (Int))) → (List ((Bool) × (Int))) → ((Int) → (List (Int)) → (List (Int)) → (Int) → (Int) → (Int) → (List ((Int) × (Int))) → (List (ByteArray)) → (List (Int)) → (Int) → (List (((ByteArray) × (ByteArray)) × ((Int) × (Bool)))) → (List ((Int) × (List (Int)))) → (List ((Int) × (Int))) → (Int) → (List (Bool)) → (List (List (Int))) → (List (Int)) → (List ((Bool) × (Int))) → Option R) → Option R
noncomputable def run_machine_answer_684b_T (N : Nat) (c0 : run_machine_push_6121_Ty) (c1 : run_machine_push_9b59_Ty) (c2 : run_machine_push_c21d_Ty) (c3 : run_machine_push_684b_Ty) {R : Type} (x0 : Int) (x1 : Int) (x2 : List (Int)) (x3 : List (Int)) (x4 : Int) (x5 : Int) (x6 : Int) (x7 : List ((Int) × (Int))) (x8 : List (ByteArray)) (x9 : List (Int)) (x10 : List (Int)) (x11 : Int) (x12 : List (((ByteArray) × (ByteArray)) × ((Int) × (Bool)))) (x13 : List ((Int) × (List (Int)))) (x14 : List ((Int) × (Int))) (x15 : Int) (x16 : List (Bool)) (x17 : List (List (Int))) (x18 : List ((Bool) × (Int))) (k0 : (Int) → (List (Int)) → (List (Int)) → (Int) → (Int) → (Int) → (List ((Int) × (Int))) → (List (ByteArray)) → (List (Int)) → (Int) → (List (((ByteArray) × (ByteArray)) × ((Int) × (Bool)))) → (List ((Int) × (List (Int)))) → (List ((Int) × (Int))) → (Int) → (List (Bool)) → (List (List (Int))) → (List (Int)) → (List ((Bool) × (Int))) → Option R) : Option R :=
  c3 x0 x1 x2 x3 x4 x5 x6 x7 x8 x9 x10 x11 x12 x13 x14 x15 x16 x17 x18
  (fun i4065 l4066 l4067 i4068 i4069 i4070 l4071 l4072 l4073 i4074 l4075 l4076 l4077 i4078 l4079 l4080 l4081 l4082 => br (((fits (0 : Nat) (List.length l4081) l4081) && (decide ((((List.length l4081) + (1 : Nat)) * (4 : Nat)) ≤ (70368744177664 : Nat)))) && true)
   (k0 i4065 l4066 l4067 i4068 i4069 i4070 l4071 l4072 l4073 i4074 l4075 l4076 l4077 i4078 l4079 l4080 l4082 ((sub l4081 (0 : Nat) (List.length l4081)) ++ ((false , x0) :: ([] : List ((Sh.bool.pair (Sh.int IntKind.u16)).T)))))
   (none))
noncomputable def run_machine_answer_684b (N : Nat) {R : Type} (x0 : Int) (x1 : Int) (x2 : List (Int)) (x3 : List (Int)) (x4 : Int) (x5 : Int) (x6 : Int) (x7 : List ((Int) × (Int))) (x8 : List (ByteArray)) (x9 : List (Int)) (x10 : List (Int)) (x11 : Int) (x12 : List (((ByteArray) × (ByteArray)) × ((Int) × (Bool)))) (x13 : List ((Int) × (List (Int)))) (x14 : List ((Int) × (Int))) (x15 : Int) (x16 : List (Bool)) (x17 : List (List (Int))) (x18 : List ((Bool) × (Int))) (k0 : (Int) → (List (Int)) → (List (Int)) → (Int) → (Int) → (Int) → (List ((Int) × (Int))) → (List (ByteArray)) → (List (Int)) → (Int) → (List (((ByteArray) × (ByteArray)) × ((Int) × (Bool)))) → (List ((Int) × (List (Int)))) → (List ((Int) × (Int))) → (Int) → (List (Bool)) → (List (List (Int))) → (List (Int)) → (List ((Bool) × (Int))) → Option R) : Option R := run_machine_answer_684b_T N (@run_machine_push_6121 N) (@run_machine_push_9b59 N) (@run_machine_push_c21d N) (@run_machine_push_684b N) x0 x1 x2 x3 x4 x5 x6 x7 x8 x9 x10 x11 x12 x13 x14 x15 x16 x17 x18 k0
abbrev run_machine_pop_9c77_Ty : Type 1 := {R : Type} → (Int) → (List (Int)) → (List (Int)) → (Int) → (Int) → (Int) → (List ((Int) × (Int))) → (List (ByteArray)) → (List (Int)) → (Int) → (List (Bool)) → (List (List (Int))) → (List ((Bool) × (Int))) → ((Int) → (Int) → (List (Int)) → (List (Int)) → (Int) → (Int) → (Int) → (List ((Int) × (Int))) → (List (ByteArray)) → (Int) → (List (Bool)) → (List (List (Int))) → (List ((Bool) × (Int))) → (List (Int)) → Option R) → Option R
noncomputable def run_machine_pop_9c77_T (N : Nat) {R : Type} (x0 : Int) (x1 : List (Int)) (x2 : List (Int)) (x3 : Int) (x4 : Int) (x5 : Int) (x6 : List ((Int) × (Int))) (x7 : List (ByteArray)) (x8 : List (Int)) (x9 : Int) (x10 : List (Bool)) (x11 : List (List (Int))) (x12 : List ((Bool) × (Int))) (k0 : (Int) → (Int) → (List (Int)) → (List (Int)) → (Int) → (Int) → (Int) → (List ((Int) × (Int))) → (List (ByteArray)) → (Int) → (List (Bool)) → (List (List (Int))) → (List ((Bool) × (Int))) → (List (Int)) → Option R) : Option R :=
  br (inB (IntKind.wrap .i64 ((Nat.cast (List.length x8) : Int) - (1 : Int))) (List.length x8))
  (br (decide ((Int.toNat (IntKind.wrap .i64 ((Nat.cast (List.length x8) : Int) - (1 : Int)))) < (List.length x8)))
   (br (leB (IntKind.wrap .i64 ((Nat.cast (List.length x8) : Int) - (1 : Int))) (List.length x8))
    (br (fits (0 : Nat) ((Int.toNat (IntKind.wrap .i64 ((Nat.cast (List.length x8) : Int) - (1 : Int)))) - (0 : Nat)) x8)
     (k0 (List.getD x8 (Int.toNat (IntKind.wrap .i64 ((Nat.cast (List.length x8) : Int) - (1 : Int)))) (0 : Int)) x0 x1 x2 x3 x4 x5 x6 x7 x9 x10 x11 x12 (sub x8 (0 : Nat) ((Int.toNat (IntKind.wrap .i64 ((Nat.cast (List.length x8) : Int) - (1 : Int)))) - (0 : Nat))))
     (none))
    (none))
   (none))
  (none)
noncomputable def run_machine_pop_9c77 (N : Nat) {R : Type} (x0 : Int) (x1 : List (Int)) (x2 : List (Int)) (x3 : Int) (x4 : Int) (x5 : Int) (x6 : List ((Int) × (Int))) (x7 : List (ByteArray)) (x8 : List (Int)) (x9 : Int) (x10 : List (Bool)) (x11 : List (List (Int))) (x12 : List ((Bool) × (Int))) (k0 : (Int) → (Int) → (List (Int)) → (List (Int)) → (Int) → (Int) → (Int) → (List ((Int) × (Int))) → (List (ByteArray)) → (Int) → (List (Bool)) → (List (List (Int))) → (List ((Bool) × (Int))) → (List (Int)) → Option R) : Option R := run_machine_pop_9c77_T N x0 x1 x2 x3 x4 x5 x6 x7 x8 x9 x10 x11 x12 k0
abbrev run_machine_pop_6326_Ty : Type 1 := {R : Type} → (Int) → (List (Int)) → (List (Int)) → (Int) → (Int) → (Int) → (List ((Int) × (Int))) → (List (ByteArray)) → (List (Int)) → (List (Int)) → (Int) → (List (((ByteArray) × (ByteArray)) × ((Int) × (Bool)))) → (List ((Int) × (List (Int)))) → (List ((Int) × (Int))) → (Int) → (List (Bool)) → (List (List (Int))) → (List ((Bool) × (Int))) → ((Int) → (Int) → (List (Int)) → (List (Int)) → (Int) → (Int) → (Int) → (List ((Int) × (Int))) → (List (ByteArray)) → (List (Int)) → (Int) → (List (((ByteArray) × (ByteArray)) × ((Int) × (Bool)))) → (List ((Int) × (List (Int)))) → (List ((Int) × (Int))) → (Int) → (List (Bool)) → (List (List (Int))) → (List ((Bool) × (Int))) → (List (Int)) → Option R) → Option R
noncomputable def run_machine_pop_6326_T (N : Nat) {R : Type} (x0 : Int) (x1 : List (Int)) (x2 : List (Int)) (x3 : Int) (x4 : Int) (x5 : Int) (x6 : List ((Int) × (Int))) (x7 : List (ByteArray)) (x8 : List (Int)) (x9 : List (Int)) (x10 : Int) (x11 : List (((ByteArray) × (ByteArray)) × ((Int) × (Bool)))) (x12 : List ((Int) × (List (Int)))) (x13 : List ((Int) × (Int))) (x14 : Int) (x15 : List (Bool)) (x16 : List (List (Int))) (x17 : List ((Bool) × (Int))) (k0 : (Int) → (Int) → (List (Int)) → (List (Int)) → (Int) → (Int) → (Int) → (List ((Int) × (Int))) → (List (ByteArray)) → (List (Int)) → (Int) → (List (((ByteArray) × (ByteArray)) × ((Int) × (Bool)))) → (List ((Int) × (List (Int)))) → (List ((Int) × (Int))) → (Int) → (List (Bool)) → (List (List (Int))) → (List ((Bool) × (Int))) → (List (Int)) → Option R) : Option R :=
  br (inB (IntKind.wrap .i64 ((Nat.cast (List.length x8) : Int) - (1 : Int))) (List.length x8))
  (br (decide ((Int.toNat (IntKind.wrap .i64 ((Nat.cast (List.length x8) : Int) - (1 : Int)))) < (List.length x8)))
   (br (leB (IntKind.wrap .i64 ((Nat.cast (List.length x8) : Int) - (1 : Int))) (List.length x8))
    (br (fits (0 : Nat) ((Int.toNat (IntKind.wrap .i64 ((Nat.cast (List.length x8) : Int) - (1 : Int)))) - (0 : Nat)) x8)
     (k0 (List.getD x8 (Int.toNat (IntKind.wrap .i64 ((Nat.cast (List.length x8) : Int) - (1 : Int)))) (0 : Int)) x0 x1 x2 x3 x4 x5 x6 x7 x9 x10 x11 x12 x13 x14 x15 x16 x17 (sub x8 (0 : Nat) ((Int.toNat (IntKind.wrap .i64 ((Nat.cast (List.length x8) : Int) - (1 : Int)))) - (0 : Nat))))
     (none))
    (none))
   (none))
  (none)
noncomputable def run_machine_pop_6326 (N : Nat) {R : Type} (x0 : Int) (x1 : List (Int)) (x2 : List (Int)) (x3 : Int) (x4 : Int) (x5 : Int) (x6 : List ((Int) × (Int))) (x7 : List (ByteArray)) (x8 : List (Int)) (x9 : List (Int)) (x10 : Int) (x11 : List (((ByteArray) × (ByteArray)) × ((Int) × (Bool)))) (x12 : List ((Int) × (List (Int)))) (x13 : List ((Int) × (Int))) (x14 : Int) (x15 : List (Bool)) (x16 : List (List (Int))) (x17 : List ((Bool) × (Int))) (k0 : (Int) → (Int) → (List (Int)) → (List (Int)) → (Int) → (Int) → (Int) → (List ((Int) × (Int))) → (List (ByteArray)) → (List (Int)) → (Int) → (List (((ByteArray) × (ByteArray)) × ((Int) × (Bool)))) → (List ((Int) × (List (Int)))) → (List ((Int) × (Int))) → (Int) → (List (Bool)) → (List (List (Int))) → (List ((Bool) × (Int))) → (List (Int)) → Option R) : Option R := run_machine_pop_6326_T N x0 x1 x2 x3 x4 x5 x6 x7 x8 x9 x10 x11 x12 x13 x14 x15 x16 x17 k0
abbrev run_operator_Ty : Type 1 := {R : Type} → (Int) → ((Int) → Option R) → Option R
noncomputable def run_operator_T (N : Nat) {R : Type} (x0 : Int) (k0 : (Int) → Option R) : Option R :=
  k0 (IntKind.wrap .i64 ((IntKind.wrap .i64 (x0 - (5 : Int))) + (7 : Int)))
noncomputable def run_operator (N : Nat) {R : Type} (x0 : Int) (k0 : (Int) → Option R) : Option R := run_operator_T N x0 k0
abbrev run_logic_Ty : Type 1 := {R : Type} → (Int) → ((Int) → Option R) → Option R
noncomputable def run_logic_T (N : Nat) (c0 : run_operator_Ty) {R : Type} (x0 : Int) (k0 : (Int) → Option R) : Option R :=
  br (decide (x0 = (10 : Int)))
  (k0 (4 : Int))
  (br (decide (x0 = (11 : Int)))
   (k0 (5 : Int))
   (br (decide (x0 = (12 : Int)))
    (k0 (6 : Int))
    (br (decide (x0 = (13 : Int)))
     (k0 (12 : Int))
     (br (decide (x0 = (14 : Int)))
      (k0 (13 : Int))
      (br (decide (x0 = (15 : Int)))
       (k0 (14 : Int))
       (br (decide (x0 = (16 : Int)))
        (k0 (15 : Int))
        (c0 x0
         (fun i254 => k0 i254))))))))
noncomputable def run_logic (N : Nat) {R : Type} (x0 : Int) (k0 : (Int) → Option R) : Option R := run_logic_T N (@run_operator N) x0 k0
abbrev wide_May_Ty : Type 1 := {R : Type} → (Int) → ((Bool) → Option R) → Option R
noncomputable def wide_May_T (N : Nat) {R : Type} (x0 : Int) (k0 : (Bool) → Option R) : Option R :=
  br (!(decide (x0 = (1 : Int))))
  (br (!(decide (x0 = (8 : Int))))
   (k0 (decide (x0 = (16 : Int))))
   (k0 true))
  (k0 true)
noncomputable def wide_May (N : Nat) {R : Type} (x0 : Int) (k0 : (Bool) → Option R) : Option R := wide_May_T N x0 k0
abbrev wide_Mask_Ty : Type 1 := {R : Type} → (Int) → ((Int) → Option R) → Option R
noncomputable def wide_Mask_T (N : Nat) (c0 : wide_May_Ty) {R : Type} (x0 : Int) (k0 : (Int) → Option R) : Option R :=
  c0 x0
  (fun b257 => br (!b257)
   (k0 (0 : Int))
   (br (decide ((IntKind.wrap .u64 x0) < (0 : Int)))
    (none)
    (k0 (IntKind.wrap .u16 ((shlI .u16 (1 : Int) (IntKind.wrap .u64 x0)) - (1 : Int))))))
noncomputable def wide_Mask (N : Nat) {R : Type} (x0 : Int) (k0 : (Int) → Option R) : Option R := wide_Mask_T N (@wide_May N) x0 k0
abbrev wide_divided_Ty : Type 1 := {R : Type} → (Int) → (Int) → (Int) → ((Int) → Option R) → Option R
noncomputable def wide_divided_T (N : Nat) (c0 : wide_Mask_Ty) {R : Type} (x0 : Int) (x1 : Int) (x2 : Int) (k0 : (Int) → Option R) : Option R :=
  br (decide (x2 = (0 : Int)))
  (c0 x0
   (fun i259 => k0 i259))
  (br (decide (x2 = (0 : Int)))
   (none)
   (k0 (IntKind.wrap .u16 (Int.tdiv x1 x2))))
noncomputable def wide_divided (N : Nat) {R : Type} (x0 : Int) (x1 : Int) (x2 : Int) (k0 : (Int) → Option R) : Option R := wide_divided_T N (@wide_Mask N) x0 x1 x2 k0
abbrev wide_rest_Ty : Type 1 := {R : Type} → (Int) → (Int) → ((Int) → Option R) → Option R
noncomputable def wide_rest_T (N : Nat) {R : Type} (x0 : Int) (x1 : Int) (k0 : (Int) → Option R) : Option R :=
  br (decide (x1 = (0 : Int)))
  (k0 x0)
  (br (decide (x1 = (0 : Int)))
   (none)
   (k0 (Int.tmod x0 x1)))
noncomputable def wide_rest (N : Nat) {R : Type} (x0 : Int) (x1 : Int) (k0 : (Int) → Option R) : Option R := wide_rest_T N x0 x1 k0
abbrev wide_truth_Ty : Type 1 := {R : Type} → (Bool) → ((Int) → Option R) → Option R
noncomputable def wide_truth_T (N : Nat) {R : Type} (x0 : Bool) (k0 : (Int) → Option R) : Option R :=
  br x0
  (k0 (1 : Int))
  (k0 (0 : Int))
noncomputable def wide_truth (N : Nat) {R : Type} (x0 : Bool) (k0 : (Int) → Option R) : Option R := wide_truth_T N x0 k0
abbrev wide_reckon_Ty : Type 1 := {R : Type} → (Int) → (Int) → (Int) → (Int) → ((Int) → (Bool) → Option R) → Option R
noncomputable def wide_reckon_T (N : Nat) (c0 : wide_truth_Ty) (c1 : wide_rest_Ty) (c2 : wide_divided_Ty) {R : Type} (x0 : Int) (x1 : Int) (x2 : Int) (x3 : Int) (k0 : (Int) → (Bool) → Option R) : Option R :=
  br (decide (x0 = (3 : Int)))
  (k0 (bxor .u16 (if ((IntKind.signed .u16) = true) then (-1 : Int) else (IntKind.max .u16)) x2) true)
  (br (decide (x0 = (4 : Int)))
   (k0 (band .u16 x2 x3) true)
   (br (decide (x0 = (5 : Int)))
    (k0 (bor .u16 x2 x3) true)
    (br (decide (x0 = (6 : Int)))
     (k0 (bxor .u16 x2 x3) true)
     (br (decide (x0 = (7 : Int)))
      (k0 (IntKind.wrap .u16 (x2 + x3)) true)
      (br (decide (x0 = (8 : Int)))
       (k0 (IntKind.wrap .u16 (x2 - x3)) true)
       (br (decide (x0 = (9 : Int)))
        (k0 (IntKind.wrap .u16 (x2 * x3)) true)
        (br (decide (x0 = (10 : Int)))
         (c2 x1 x2 x3
          (fun i260 => k0 i260 true))
         (br (decide (x0 = (11 : Int)))
          (c1 x2 x3
           (fun i261 => k0 i261 true))
          (br (decide (x0 = (12 : Int)))
           (br (decide (x3 < (0 : Int)))
            (none)
            (k0 (shlI .u16 x2 x3) true))
           (br (decide (x0 = (13 : Int)))
            (br (decide (x3 < (0 : Int)))
             (none)
             (k0 (shrI .u16 x2 x3) true))
            (br (decide (x0 = (14 : Int)))
             (c0 (decide (x2 = x3))
              (fun i262 => k0 i262 true))
             (br (decide (x0 = (15 : Int)))
              (c0 (decide (x2 < x3))
               (fun i263 => k0 i263 true))
              (k0 (0 : Int) false)))))))))))))
noncomputable def wide_reckon (N : Nat) {R : Type} (x0 : Int) (x1 : Int) (x2 : Int) (x3 : Int) (k0 : (Int) → (Bool) → Option R) : Option R := wide_reckon_T N (@wide_truth N) (@wide_rest N) (@wide_divided N) x0 x1 x2 x3 k0
abbrev wide_Do_Ty : Type 1 := {R : Type} → (Int) → (Int) → (Int) → (Int) → ((Int) → (Int) → Option R) → Option R
noncomputable def wide_Do_T (N : Nat) (c0 : wide_reckon_Ty) (c1 : wide_Mask_Ty) (c2 : wide_May_Ty) {R : Type} (x0 : Int) (x1 : Int) (x2 : Int) (x3 : Int) (k0 : (Int) → (Int) → Option R) : Option R :=
  c2 x1
  (fun b256 => br (!b256)
   (k0 (0 : Int) (2 : Int))
   (c1 x1
    (fun i258 => c0 x0 x1 (band .u16 x2 i258) (band .u16 x3 i258)
     (fun i264 b265 => br (!b265)
      (k0 (0 : Int) (5 : Int))
      (k0 (band .u16 i264 i258) (0 : Int))))))
noncomputable def wide_Do (N : Nat) {R : Type} (x0 : Int) (x1 : Int) (x2 : Int) (x3 : Int) (k0 : (Int) → (Int) → Option R) : Option R := wide_Do_T N (@wide_reckon N) (@wide_Mask N) (@wide_May N) x0 x1 x2 x3 k0
abbrev run_machine_reckon_3c75_Ty : Type 1 := {R : Type} → (Int) → (Int) → (List (Int)) → (List (Int)) → (Int) → (Int) → (Int) → (List ((Int) × (Int))) → (List (ByteArray)) → (List (Int)) → (Int) → (List (Bool)) → (List (List (Int))) → (List ((Bool) × (Int))) → ((Int) → (List (Int)) → (List (Int)) → (Int) → (Int) → (Int) → (List ((Int) × (Int))) → (List (ByteArray)) → (Int) → (List (Bool)) → (List (List (Int))) → (List ((Bool) × (Int))) → (List (Int)) → Option R) → Option R
noncomputable def run_machine_reckon_3c75_T (N : Nat) (c0 : run_machine_push_6121_Ty) (c1 : run_machine_push_9b59_Ty) (c2 : run_machine_push_c21d_Ty) (c3 : run_machine_push_684b_Ty) (c4 : wide_Do_Ty) (c5 : run_logic_Ty) (c6 : run_machine_end_5a2b_Ty) (c7 : run_machine_end_3f90_Ty) (c8 : run_machine_pop_9c77_Ty) (c9 : run_machine_pop_6326_Ty) {R : Type} (x0 : Int) (x1 : Int) (x2 : List (Int)) (x3 : List (Int)) (x4 : Int) (x5 : Int) (x6 : Int) (x7 : List ((Int) × (Int))) (x8 : List (ByteArray)) (x9 : List (Int)) (x10 : Int) (x11 : List (Bool)) (x12 : List (List (Int))) (x13 : List ((Bool) × (Int))) (k0 : (Int) → (List (Int)) → (List (Int)) → (Int) → (Int) → (Int) → (List ((Int) × (Int))) → (List (ByteArray)) → (Int) → (List (Bool)) → (List (List (Int))) → (List ((Bool) × (Int))) → (List (Int)) → Option R) : Option R :=
  c8 x1 x2 x3 x4 x5 x6 x7 x8 x9 x10 x11 x12 x13
  (fun i213 i214 l215 l216 i217 i218 i219 l220 l221 i222 l223 l224 l225 l226 => c8 i214 l215 l216 i217 i218 i219 l220 l221 l226 i222 l223 l224 l225
   (fun i227 i228 l229 l230 i231 i232 i233 l234 l235 i236 l237 l238 l239 l240 => br (decide (i213 = (0 : Int)))
    (br (!(decide (x0 = (8 : Int))))
     (br (decide (x0 = (9 : Int)))
      (c6 (2 : Int) (0 : Int) i228 l229 l230 i231 i232 i233 l234 l235 l240 i236 l237 l238 l239
       (fun i241 l242 l243 i244 i245 i246 l247 l248 l249 i250 l251 l252 l253 => k0 i241 l242 l243 i244 i245 i246 l247 l248 i250 l251 l252 l253 l249))
      (c5 x0
       (fun i255 => c4 i255 (16 : Int) i227 i213
        (fun i266 i267 => c1 i266 i228 l229 l230 i231 i232 i233 l234 l235 l240 i236 l237 l238 l239
         (fun i268 l269 l270 i271 i272 i273 l274 l275 i276 l277 l278 l279 l280 => k0 i268 l269 l270 i271 i272 i273 l274 l275 i276 l277 l278 l279 l280)))))
     (c6 (2 : Int) (0 : Int) i228 l229 l230 i231 i232 i233 l234 l235 l240 i236 l237 l238 l239
      (fun i281 l282 l283 i284 i285 i286 l287 l288 l289 i290 l291 l292 l293 => k0 i281 l282 l283 i284 i285 i286 l287 l288 i290 l291 l292 l293 l289)))
    (c5 x0
     (fun i294 => c4 i294 (16 : Int) i227 i213
      (fun i295 i296 => c1 i295 i228 l229 l230 i231 i232 i233 l234 l235 l240 i236 l237 l238 l239
       (fun i297 l298 l299 i300 i301 i302 l303 l304 i305 l306 l307 l308 l309 => k0 i297 l298 l299 i300 i301 i302 l303 l304 i305 l306 l307 l308 l309))))))
noncomputable def run_machine_reckon_3c75 (N : Nat) {R : Type} (x0 : Int) (x1 : Int) (x2 : List (Int)) (x3 : List (Int)) (x4 : Int) (x5 : Int) (x6 : Int) (x7 : List ((Int) × (Int))) (x8 : List (ByteArray)) (x9 : List (Int)) (x10 : Int) (x11 : List (Bool)) (x12 : List (List (Int))) (x13 : List ((Bool) × (Int))) (k0 : (Int) → (List (Int)) → (List (Int)) → (Int) → (Int) → (Int) → (List ((Int) × (Int))) → (List (ByteArray)) → (Int) → (List (Bool)) → (List (List (Int))) → (List ((Bool) × (Int))) → (List (Int)) → Option R) : Option R := run_machine_reckon_3c75_T N (@run_machine_push_6121 N) (@run_machine_push_9b59 N) (@run_machine_push_c21d N) (@run_machine_push_684b N) (@wide_Do N) (@run_logic N) (@run_machine_end_5a2b N) (@run_machine_end_3f90 N) (@run_machine_pop_9c77 N) (@run_machine_pop_6326 N) x0 x1 x2 x3 x4 x5 x6 x7 x8 x9 x10 x11 x12 x13 k0
abbrev run_machine_reckon_61a1_Ty : Type 1 := {R : Type} → (Int) → (Int) → (List (Int)) → (List (Int)) → (Int) → (Int) → (Int) → (List ((Int) × (Int))) → (List (ByteArray)) → (List (Int)) → (List (Int)) → (Int) → (List (((ByteArray) × (ByteArray)) × ((Int) × (Bool)))) → (List ((Int) × (List (Int)))) → (List ((Int) × (Int))) → (Int) → (List (Bool)) → (List (List (Int))) → (List ((Bool) × (Int))) → ((Int) → (List (Int)) → (List (Int)) → (Int) → (Int) → (Int) → (List ((Int) × (Int))) → (List (ByteArray)) → (List (Int)) → (Int) → (List (((ByteArray) × (ByteArray)) × ((Int) × (Bool)))) → (List ((Int) × (List (Int)))) → (List ((Int) × (Int))) → (Int) → (List (Bool)) → (List (List (Int))) → (List ((Bool) × (Int))) → (List (Int)) → Option R) → Option R
noncomputable def run_machine_reckon_61a1_T (N : Nat) (c0 : run_machine_push_6121_Ty) (c1 : run_machine_push_9b59_Ty) (c2 : run_machine_push_c21d_Ty) (c3 : run_machine_push_684b_Ty) (c4 : wide_Do_Ty) (c5 : run_logic_Ty) (c6 : run_machine_end_5a2b_Ty) (c7 : run_machine_end_3f90_Ty) (c8 : run_machine_pop_9c77_Ty) (c9 : run_machine_pop_6326_Ty) {R : Type} (x0 : Int) (x1 : Int) (x2 : List (Int)) (x3 : List (Int)) (x4 : Int) (x5 : Int) (x6 : Int) (x7 : List ((Int) × (Int))) (x8 : List (ByteArray)) (x9 : List (Int)) (x10 : List (Int)) (x11 : Int) (x12 : List (((ByteArray) × (ByteArray)) × ((Int) × (Bool)))) (x13 : List ((Int) × (List (Int)))) (x14 : List ((Int) × (Int))) (x15 : Int) (x16 : List (Bool)) (x17 : List (List (Int))) (x18 : List ((Bool) × (Int))) (k0 : (Int) → (List (Int)) → (List (Int)) → (Int) → (Int) → (Int) → (List ((Int) × (Int))) → (List (ByteArray)) → (List (Int)) → (Int) → (List (((ByteArray) × (ByteArray)) × ((Int) × (Bool)))) → (List ((Int) × (List (Int)))) → (List ((Int) × (Int))) → (Int) → (List (Bool)) → (List (List (Int))) → (List ((Bool) × (Int))) → (List (Int)) → Option R) : Option R :=
  c9 x1 x2 x3 x4 x5 x6 x7 x8 x9 x10 x11 x12 x13 x14 x15 x16 x17 x18
  (fun i2733 i2734 l2735 l2736 i2737 i2738 i2739 l2740 l2741 l2742 i2743 l2744 l2745 l2746 i2747 l2748 l2749 l2750 l2751 => c9 i2734 l2735 l2736 i2737 i2738 i2739 l2740 l2741 l2751 l2742 i2743 l2744 l2745 l2746 i2747 l2748 l2749 l2750
   (fun i2752 i2753 l2754 l2755 i2756 i2757 i2758 l2759 l2760 l2761 i2762 l2763 l2764 l2765 i2766 l2767 l2768 l2769 l2770 => br (decide (i2733 = (0 : Int)))
    (br (!(decide (x0 = (8 : Int))))
     (br (decide (x0 = (9 : Int)))
      (c7 (2 : Int) (0 : Int) i2753 l2754 l2755 i2756 i2757 i2758 l2759 l2760 l2770 l2761 i2762 l2763 l2764 l2765 i2766 l2767 l2768 l2769
       (fun i2771 l2772 l2773 i2774 i2775 i2776 l2777 l2778 l2779 l2780 i2781 l2782 l2783 l2784 i2785 l2786 l2787 l2788 => k0 i2771 l2772 l2773 i2774 i2775 i2776 l2777 l2778 l2780 i2781 l2782 l2783 l2784 i2785 l2786 l2787 l2788 l2779))
      (c5 x0
       (fun i2789 => c4 i2789 (16 : Int) i2752 i2733
        (fun i2790 i2791 => c3 i2790 i2753 l2754 l2755 i2756 i2757 i2758 l2759 l2760 l2770 l2761 i2762 l2763 l2764 l2765 i2766 l2767 l2768 l2769
         (fun i2792 l2793 l2794 i2795 i2796 i2797 l2798 l2799 l2800 i2801 l2802 l2803 l2804 i2805 l2806 l2807 l2808 l2809 => k0 i2792 l2793 l2794 i2795 i2796 i2797 l2798 l2799 l2800 i2801 l2802 l2803 l2804 i2805 l2806 l2807 l2808 l2809)))))
     (c7 (2 : Int) (0 : Int) i2753 l2754 l2755 i2756 i2757 i2758 l2759 l2760 l2770 l2761 i2762 l2763 l2764 l2765 i2766 l2767 l2768 l2769
      (fun i2810 l2811 l2812 i2813 i2814 i2815 l2816 l2817 l2818 l2819 i2820 l2821 l2822 l2823 i2824 l2825 l2826 l2827 => k0 i2810 l2811 l2812 i2813 i2814 i2815 l2816 l2817 l2819 i2820 l2821 l2822 l2823 i2824 l2825 l2826 l2827 l2818)))
    (c5 x0
     (fun i2828 => c4 i2828 (16 : Int) i2752 i2733
      (fun i2829 i2830 => c3 i2829 i2753 l2754 l2755 i2756 i2757 i2758 l2759 l2760 l2770 l2761 i2762 l2763 l2764 l2765 i2766 l2767 l2768 l2769
       (fun i2831 l2832 l2833 i2834 i2835 i2836 l2837 l2838 l2839 i2840 l2841 l2842 l2843 i2844 l2845 l2846 l2847 l2848 => k0 i2831 l2832 l2833 i2834 i2835 i2836 l2837 l2838 l2839 i2840 l2841 l2842 l2843 i2844 l2845 l2846 l2847 l2848))))))
noncomputable def run_machine_reckon_61a1 (N : Nat) {R : Type} (x0 : Int) (x1 : Int) (x2 : List (Int)) (x3 : List (Int)) (x4 : Int) (x5 : Int) (x6 : Int) (x7 : List ((Int) × (Int))) (x8 : List (ByteArray)) (x9 : List (Int)) (x10 : List (Int)) (x11 : Int) (x12 : List (((ByteArray) × (ByteArray)) × ((Int) × (Bool)))) (x13 : List ((Int) × (List (Int)))) (x14 : List ((Int) × (Int))) (x15 : Int) (x16 : List (Bool)) (x17 : List (List (Int))) (x18 : List ((Bool) × (Int))) (k0 : (Int) → (List (Int)) → (List (Int)) → (Int) → (Int) → (Int) → (List ((Int) × (Int))) → (List (ByteArray)) → (List (Int)) → (Int) → (List (((ByteArray) × (ByteArray)) × ((Int) × (Bool)))) → (List ((Int) × (List (Int)))) → (List ((Int) × (Int))) → (Int) → (List (Bool)) → (List (List (Int))) → (List ((Bool) × (Int))) → (List (Int)) → Option R) : Option R := run_machine_reckon_61a1_T N (@run_machine_push_6121 N) (@run_machine_push_9b59 N) (@run_machine_push_c21d N) (@run_machine_push_684b N) (@wide_Do N) (@run_logic N) (@run_machine_end_5a2b N) (@run_machine_end_3f90 N) (@run_machine_pop_9c77 N) (@run_machine_pop_6326 N) x0 x1 x2 x3 x4 x5 x6 x7 x8 x9 x10 x11 x12 x13 x14 x15 x16 x17 x18 k0
abbrev run_truth_Ty : Type 1 := {R : Type} → (Bool) → ((Int) → Option R) → Option R
noncomputable def run_truth_T (N : Nat) {R : Type} (x0 : Bool) (k0 : (Int) → Option R) : Option R :=
  br x0
  (k0 (1 : Int))
  (k0 (0 : Int))
noncomputable def run_truth (N : Nat) {R : Type} (x0 : Bool) (k0 : (Int) → Option R) : Option R := run_truth_T N x0 k0
abbrev run_machine_memory_3c75_Ty : Type 1 := {R : Type} → (Int) → (Int) → (List (Int)) → (List (Int)) → (Int) → (Int) → (Int) → (List ((Int) × (Int))) → (List (ByteArray)) → (List (Int)) → (Int) → (List (Bool)) → (List (List (Int))) → (List ((Bool) × (Int))) → ((Int) → (List (Int)) → (List (Int)) → (Int) → (Int) → (Int) → (List ((Int) × (Int))) → (List (ByteArray)) → (Int) → (List (Bool)) → (List (List (Int))) → (List ((Bool) × (Int))) → (List (Int)) → Option R) → Option R
noncomputable def run_machine_memory_3c75_T (N : Nat) (c0 : run_machine_push_6121_Ty) (c1 : run_machine_push_9b59_Ty) (c2 : run_machine_push_c21d_Ty) (c3 : run_machine_push_684b_Ty) (c4 : run_machine_end_5a2b_Ty) (c5 : run_machine_end_3f90_Ty) (c6 : run_machine_pop_9c77_Ty) (c7 : run_machine_pop_6326_Ty) {R : Type} (x0 : Int) (x1 : Int) (x2 : List (Int)) (x3 : List (Int)) (x4 : Int) (x5 : Int) (x6 : Int) (x7 : List ((Int) × (Int))) (x8 : List (ByteArray)) (x9 : List (Int)) (x10 : Int) (x11 : List (Bool)) (x12 : List (List (Int))) (x13 : List ((Bool) × (Int))) (k0 : (Int) → (List (Int)) → (List (Int)) → (Int) → (Int) → (Int) → (List ((Int) × (Int))) → (List (ByteArray)) → (Int) → (List (Bool)) → (List (List (Int))) → (List ((Bool) × (Int))) → (List (Int)) → Option R) : Option R :=
  br (decide (x0 = (21 : Int)))
  (c6 x1 x2 x3 x4 x5 x6 x7 x8 x9 x10 x11 x12 x13
   (fun i503 i504 l505 l506 i507 i508 i509 l510 l511 i512 l513 l514 l515 l516 => c6 i504 l505 l506 i507 i508 i509 l510 l511 l516 i512 l513 l514 l515
    (fun i517 i518 l519 l520 i521 i522 i523 l524 l525 i526 l527 l528 l529 l530 => br (decide ((32 : Int) ≤ i517))
     (c4 (3 : Int) (0 : Int) i518 l519 l520 i521 i522 i523 l524 l525 l530 i526 l527 l528 l529
      (fun i531 l532 l533 i534 i535 i536 l537 l538 l539 i540 l541 l542 l543 => k0 i531 l532 l533 i534 i535 i536 l537 l538 i540 l541 l542 l543 l539))
     (br (decide (x0 = (21 : Int)))
      (br (inB i517 (32 : Nat))
       (br (decide ((Int.toNat i517) < (32 : Nat)))
        (k0 i518 l519 (List.set l520 (Int.toNat i517) (IntKind.wrap .u8 i503)) i521 i522 i523 l524 l525 i526 l527 l528 l529 l530)
        (none))
       (none))
      (br (inB i517 (32 : Nat))
       (br (decide ((Int.toNat i517) < (32 : Nat)))
        (c1 (IntKind.wrap .u16 (List.getD l520 (Int.toNat i517) (0 : Int))) i518 l519 l520 i521 i522 i523 l524 l525 l530 i526 l527 l528 l529
         (fun i544 l545 l546 i547 i548 i549 l550 l551 i552 l553 l554 l555 l556 => k0 i544 l545 l546 i547 i548 i549 l550 l551 i552 l553 l554 l555 l556))
        (none))
       (none))))))
  (c6 x1 x2 x3 x4 x5 x6 x7 x8 x9 x10 x11 x12 x13
   (fun i557 i558 l559 l560 i561 i562 i563 l564 l565 i566 l567 l568 l569 l570 => br (decide ((32 : Int) ≤ i557))
    (c4 (3 : Int) (0 : Int) i558 l559 l560 i561 i562 i563 l564 l565 l570 i566 l567 l568 l569
     (fun i571 l572 l573 i574 i575 i576 l577 l578 l579 i580 l581 l582 l583 => k0 i571 l572 l573 i574 i575 i576 l577 l578 i580 l581 l582 l583 l579))
    (br (decide (x0 = (21 : Int)))
     (br (inB i557 (32 : Nat))
      (br (decide ((Int.toNat i557) < (32 : Nat)))
       (k0 i558 l559 (List.set l560 (Int.toNat i557) (IntKind.wrap .u8 (0 : Int))) i561 i562 i563 l564 l565 i566 l567 l568 l569 l570)
       (none))
      (none))
     (br (inB i557 (32 : Nat))
      (br (decide ((Int.toNat i557) < (32 : Nat)))
       (c1 (IntKind.wrap .u16 (List.getD l560 (Int.toNat i557) (0 : Int))) i558 l559 l560 i561 i562 i563 l564 l565 l570 i566 l567 l568 l569
        (fun i584 l585 l586 i587 i588 i589 l590 l591 i592 l593 l594 l595 l596 => k0 i584 l585 l586 i587 i588 i589 l590 l591 i592 l593 l594 l595 l596))
       (none))
      (none)))))
noncomputable def run_machine_memory_3c75 (N : Nat) {R : Type} (x0 : Int) (x1 : Int) (x2 : List (Int)) (x3 : List (Int)) (x4 : Int) (x5 : Int) (x6 : Int) (x7 : List ((Int) × (Int))) (x8 : List (ByteArray)) (x9 : List (Int)) (x10 : Int) (x11 : List (Bool)) (x12 : List (List (Int))) (x13 : List ((Bool) × (Int))) (k0 : (Int) → (List (Int)) → (List (Int)) → (Int) → (Int) → (Int) → (List ((Int) × (Int))) → (List (ByteArray)) → (Int) → (List (Bool)) → (List (List (Int))) → (List ((Bool) × (Int))) → (List (Int)) → Option R) : Option R := run_machine_memory_3c75_T N (@run_machine_push_6121 N) (@run_machine_push_9b59 N) (@run_machine_push_c21d N) (@run_machine_push_684b N) (@run_machine_end_5a2b N) (@run_machine_end_3f90 N) (@run_machine_pop_9c77 N) (@run_machine_pop_6326 N) x0 x1 x2 x3 x4 x5 x6 x7 x8 x9 x10 x11 x12 x13 k0
abbrev run_machine_memory_61a1_Ty : Type 1 := {R : Type} → (Int) → (Int) → (List (Int)) → (List (Int)) → (Int) → (Int) → (Int) → (List ((Int) × (Int))) → (List (ByteArray)) → (List (Int)) → (List (Int)) → (Int) → (List (((ByteArray) × (ByteArray)) × ((Int) × (Bool)))) → (List ((Int) × (List (Int)))) → (List ((Int) × (Int))) → (Int) → (List (Bool)) → (List (List (Int))) → (List ((Bool) × (Int))) → ((Int) → (List (Int)) → (List (Int)) → (Int) → (Int) → (Int) → (List ((Int) × (Int))) → (List (ByteArray)) → (List (Int)) → (Int) → (List (((ByteArray) × (ByteArray)) × ((Int) × (Bool)))) → (List ((Int) × (List (Int)))) → (List ((Int) × (Int))) → (Int) → (List (Bool)) → (List (List (Int))) → (List ((Bool) × (Int))) → (List (Int)) → Option R) → Option R
noncomputable def run_machine_memory_61a1_T (N : Nat) (c0 : run_machine_push_6121_Ty) (c1 : run_machine_push_9b59_Ty) (c2 : run_machine_push_c21d_Ty) (c3 : run_machine_push_684b_Ty) (c4 : run_machine_end_5a2b_Ty) (c5 : run_machine_end_3f90_Ty) (c6 : run_machine_pop_9c77_Ty) (c7 : run_machine_pop_6326_Ty) {R : Type} (x0 : Int) (x1 : Int) (x2 : List (Int)) (x3 : List (Int)) (x4 : Int) (x5 : Int) (x6 : Int) (x7 : List ((Int) × (Int))) (x8 : List (ByteArray)) (x9 : List (Int)) (x10 : List (Int)) (x11 : Int) (x12 : List (((ByteArray) × (ByteArray)) × ((Int) × (Bool)))) (x13 : List ((Int) × (List (Int)))) (x14 : List ((Int) × (Int))) (x15 : Int) (x16 : List (Bool)) (x17 : List (List (Int))) (x18 : List ((Bool) × (Int))) (k0 : (Int) → (List (Int)) → (List (Int)) → (Int) → (Int) → (Int) → (List ((Int) × (Int))) → (List (ByteArray)) → (List (Int)) → (Int) → (List (((ByteArray) × (ByteArray)) × ((Int) × (Bool)))) → (List ((Int) × (List (Int)))) → (List ((Int) × (Int))) → (Int) → (List (Bool)) → (List (List (Int))) → (List ((Bool) × (Int))) → (List (Int)) → Option R) : Option R :=
  br (decide (x0 = (21 : Int)))
  (c7 x1 x2 x3 x4 x5 x6 x7 x8 x9 x10 x11 x12 x13 x14 x15 x16 x17 x18
   (fun i3112 i3113 l3114 l3115 i3116 i3117 i3118 l3119 l3120 l3121 i3122 l3123 l3124 l3125 i3126 l3127 l3128 l3129 l3130 => c7 i3113 l3114 l3115 i3116 i3117 i3118 l3119 l3120 l3130 l3121 i3122 l3123 l3124 l3125 i3126 l3127 l3128 l3129
    (fun i3131 i3132 l3133 l3134 i3135 i3136 i3137 l3138 l3139 l3140 i3141 l3142 l3143 l3144 i3145 l3146 l3147 l3148 l3149 => br (decide ((32 : Int) ≤ i3131))
     (c5 (3 : Int) (0 : Int) i3132 l3133 l3134 i3135 i3136 i3137 l3138 l3139 l3149 l3140 i3141 l3142 l3143 l3144 i3145 l3146 l3147 l3148
      (fun i3150 l3151 l3152 i3153 i3154 i3155 l3156 l3157 l3158 l3159 i3160 l3161 l3162 l3163 i3164 l3165 l3166 l3167 => k0 i3150 l3151 l3152 i3153 i3154 i3155 l3156 l3157 l3159 i3160 l3161 l3162 l3163 i3164 l3165 l3166 l3167 l3158))
     (br (decide (x0 = (21 : Int)))
      (br (inB i3131 (32 : Nat))
       (br (decide ((Int.toNat i3131) < (32 : Nat)))
        (k0 i3132 l3133 (List.set l3134 (Int.toNat i3131) (IntKind.wrap .u8 i3112)) i3135 i3136 i3137 l3138 l3139 l3140 i3141 l3142 l3143 l3144 i3145 l3146 l3147 l3148 l3149)
        (none))
       (none))
      (br (inB i3131 (32 : Nat))
       (br (decide ((Int.toNat i3131) < (32 : Nat)))
        (c3 (IntKind.wrap .u16 (List.getD l3134 (Int.toNat i3131) (0 : Int))) i3132 l3133 l3134 i3135 i3136 i3137 l3138 l3139 l3149 l3140 i3141 l3142 l3143 l3144 i3145 l3146 l3147 l3148
         (fun i3168 l3169 l3170 i3171 i3172 i3173 l3174 l3175 l3176 i3177 l3178 l3179 l3180 i3181 l3182 l3183 l3184 l3185 => k0 i3168 l3169 l3170 i3171 i3172 i3173 l3174 l3175 l3176 i3177 l3178 l3179 l3180 i3181 l3182 l3183 l3184 l3185))
        (none))
       (none))))))
  (c7 x1 x2 x3 x4 x5 x6 x7 x8 x9 x10 x11 x12 x13 x14 x15 x16 x17 x18
   (fun i3186 i3187 l3188 l3189 i3190 i3191 i3192 l3193 l3194 l3195 i3196 l3197 l3198 l3199 i3200 l3201 l3202 l3203 l3204 => br (decide ((32 : Int) ≤ i3186))
    (c5 (3 : Int) (0 : Int) i3187 l3188 l3189 i3190 i3191 i3192 l3193 l3194 l3204 l3195 i3196 l3197 l3198 l3199 i3200 l3201 l3202 l3203
     (fun i3205 l3206 l3207 i3208 i3209 i3210 l3211 l3212 l3213 l3214 i3215 l3216 l3217 l3218 i3219 l3220 l3221 l3222 => k0 i3205 l3206 l3207 i3208 i3209 i3210 l3211 l3212 l3214 i3215 l3216 l3217 l3218 i3219 l3220 l3221 l3222 l3213))
    (br (decide (x0 = (21 : Int)))
     (br (inB i3186 (32 : Nat))
      (br (decide ((Int.toNat i3186) < (32 : Nat)))
       (k0 i3187 l3188 (List.set l3189 (Int.toNat i3186) (IntKind.wrap .u8 (0 : Int))) i3190 i3191 i3192 l3193 l3194 l3195 i3196 l3197 l3198 l3199 i3200 l3201 l3202 l3203 l3204)
       (none))
      (none))
     (br (inB i3186 (32 : Nat))
      (br (decide ((Int.toNat i3186) < (32 : Nat)))
       (c3 (IntKind.wrap .u16 (List.getD l3189 (Int.toNat i3186) (0 : Int))) i3187 l3188 l3189 i3190 i3191 i3192 l3193 l3194 l3204 l3195 i3196 l3197 l3198 l3199 i3200 l3201 l3202 l3203
        (fun i3223 l3224 l3225 i3226 i3227 i3228 l3229 l3230 l3231 i3232 l3233 l3234 l3235 i3236 l3237 l3238 l3239 l3240 => k0 i3223 l3224 l3225 i3226 i3227 i3228 l3229 l3230 l3231 i3232 l3233 l3234 l3235 i3236 l3237 l3238 l3239 l3240))
       (none))
      (none)))))
noncomputable def run_machine_memory_61a1 (N : Nat) {R : Type} (x0 : Int) (x1 : Int) (x2 : List (Int)) (x3 : List (Int)) (x4 : Int) (x5 : Int) (x6 : Int) (x7 : List ((Int) × (Int))) (x8 : List (ByteArray)) (x9 : List (Int)) (x10 : List (Int)) (x11 : Int) (x12 : List (((ByteArray) × (ByteArray)) × ((Int) × (Bool)))) (x13 : List ((Int) × (List (Int)))) (x14 : List ((Int) × (Int))) (x15 : Int) (x16 : List (Bool)) (x17 : List (List (Int))) (x18 : List ((Bool) × (Int))) (k0 : (Int) → (List (Int)) → (List (Int)) → (Int) → (Int) → (Int) → (List ((Int) × (Int))) → (List (ByteArray)) → (List (Int)) → (Int) → (List (((ByteArray) × (ByteArray)) × ((Int) × (Bool)))) → (List ((Int) × (List (Int)))) → (List ((Int) × (Int))) → (Int) → (List (Bool)) → (List (List (Int))) → (List ((Bool) × (Int))) → (List (Int)) → Option R) : Option R := run_machine_memory_61a1_T N (@run_machine_push_6121 N) (@run_machine_push_9b59 N) (@run_machine_push_c21d N) (@run_machine_push_684b N) (@run_machine_end_5a2b N) (@run_machine_end_3f90 N) (@run_machine_pop_9c77 N) (@run_machine_pop_6326 N) x0 x1 x2 x3 x4 x5 x6 x7 x8 x9 x10 x11 x12 x13 x14 x15 x16 x17 x18 k0
abbrev run_machine_plain_ffdd_Ty : Type 1 := {R : Type} → (Int) → (Int) → (Int) → (List (Int)) → (List (Int)) → (Int) → (Int) → (Int) → (List ((Int) × (Int))) → (List (ByteArray)) → (List (Int)) → (Int) → (List (Bool)) → (List (List (Int))) → (List ((Bool) × (Int))) → ((Bool) → (Int) → (List (Int)) → (List (Int)) → (Int) → (Int) → (Int) → (List ((Int) × (Int))) → (List (ByteArray)) → (Int) → (List (Bool)) → (List (List (Int))) → (List (Int)) → (List ((Bool) × (Int))) → Option R) → Option R
noncomputable def run_machine_plain_ffdd_T (N : Nat) (c0 : run_machine_end_5a2b_Ty) (c1 : run_machine_end_3f90_Ty) (c2 : wide_Mask_Ty) (c3 : run_machine_memory_3c75_Ty) (c4 : run_machine_memory_61a1_Ty) (c5 : run_truth_Ty) (c6 : run_machine_pop_9c77_Ty) (c7 : run_machine_pop_6326_Ty) (c8 : run_machine_push_6121_Ty) (c9 : run_machine_push_9b59_Ty) (c10 : run_machine_push_c21d_Ty) (c11 : run_machine_push_684b_Ty) {R : Type} (x0 : Int) (x1 : Int) (x2 : Int) (x3 : List (Int)) (x4 : List (Int)) (x5 : Int) (x6 : Int) (x7 : Int) (x8 : List ((Int) × (Int))) (x9 : List (ByteArray)) (x10 : List (Int)) (x11 : Int) (x12 : List (Bool)) (x13 : List (List (Int))) (x14 : List ((Bool) × (Int))) (k0 : (Bool) → (Int) → (List (Int)) → (List (Int)) → (Int) → (Int) → (Int) → (List ((Int) × (Int))) → (List (ByteArray)) → (Int) → (List (Bool)) → (List (List (Int))) → (List (Int)) → (List ((Bool) × (Int))) → Option R) : Option R :=
  br (decide (x0 = (1 : Int)))
  (c9 (IntKind.wrap .u16 x1) x2 x3 x4 x5 x6 x7 x8 x9 x10 x11 x12 x13 x14
   (fun i827 l828 l829 i830 i831 i832 l833 l834 i835 l836 l837 l838 l839 => k0 true i827 l828 l829 i830 i831 i832 l833 l834 i835 l836 l837 l839 l838))
  (br (decide (x0 = (2 : Int)))
   (c6 x2 x3 x4 x5 x6 x7 x8 x9 x10 x11 x12 x13 x14
    (fun i840 i841 l842 l843 i844 i845 i846 l847 l848 i849 l850 l851 l852 l853 => k0 true i841 l842 l843 i844 i845 i846 l847 l848 i849 l850 l851 l853 l852))
   (br (decide (x0 = (3 : Int)))
    (br (inB (IntKind.wrap .i64 ((Nat.cast (List.length x10) : Int) - (1 : Int))) (List.length x10))
     (br (decide ((Int.toNat (IntKind.wrap .i64 ((Nat.cast (List.length x10) : Int) - (1 : Int)))) < (List.length x10)))
      (c9 (List.getD x10 (Int.toNat (IntKind.wrap .i64 ((Nat.cast (List.length x10) : Int) - (1 : Int)))) (0 : Int)) x2 x3 x4 x5 x6 x7 x8 x9 x10 x11 x12 x13 x14
       (fun i854 l855 l856 i857 i858 i859 l860 l861 i862 l863 l864 l865 l866 => k0 true i854 l855 l856 i857 i858 i859 l860 l861 i862 l863 l864 l866 l865))
      (none))
     (none))
    (br (decide (x0 = (4 : Int)))
     (c6 x2 x3 x4 x5 x6 x7 x8 x9 x10 x11 x12 x13 x14
      (fun i867 i868 l869 l870 i871 i872 i873 l874 l875 i876 l877 l878 l879 l880 => c6 i868 l869 l870 i871 i872 i873 l874 l875 l880 i876 l877 l878 l879
       (fun i881 i882 l883 l884 i885 i886 i887 l888 l889 i890 l891 l892 l893 l894 => c9 i867 i882 l883 l884 i885 i886 i887 l888 l889 l894 i890 l891 l892 l893
        (fun i895 l896 l897 i898 i899 i900 l901 l902 i903 l904 l905 l906 l907 => c9 i881 i895 l896 l897 i898 i899 i900 l901 l902 l907 i903 l904 l905 l906
         (fun i908 l909 l910 i911 i912 i913 l914 l915 i916 l917 l918 l919 l920 => k0 true i908 l909 l910 i911 i912 i913 l914 l915 i916 l917 l918 l920 l919)))))
     (br (decide (x0 = (17 : Int)))
      (c6 x2 x3 x4 x5 x6 x7 x8 x9 x10 x11 x12 x13 x14
       (fun i921 i922 l923 l924 i925 i926 i927 l928 l929 i930 l931 l932 l933 l934 => c5 (decide (i921 = (0 : Int)))
        (fun i935 => c9 i935 i922 l923 l924 i925 i926 i927 l928 l929 l934 i930 l931 l932 l933
         (fun i936 l937 l938 i939 i940 i941 l942 l943 i944 l945 l946 l947 l948 => k0 true i936 l937 l938 i939 i940 i941 l942 l943 i944 l945 l946 l948 l947))))
      (br (decide (x0 = (18 : Int)))
       (br (inB x1 (8 : Nat))
        (br (decide ((Int.toNat x1) < (8 : Nat)))
         (c9 (List.getD x3 (Int.toNat x1) (0 : Int)) x2 x3 x4 x5 x6 x7 x8 x9 x10 x11 x12 x13 x14
          (fun i949 l950 l951 i952 i953 i954 l955 l956 i957 l958 l959 l960 l961 => k0 true i949 l950 l951 i952 i953 i954 l955 l956 i957 l958 l959 l961 l960))
         (none))
        (none))
       (br (decide (x0 = (19 : Int)))
        (c6 x2 x3 x4 x5 x6 x7 x8 x9 x10 x11 x12 x13 x14
         (fun i962 i963 l964 l965 i966 i967 i968 l969 l970 i971 l972 l973 l974 l975 => br (decide (x1 = x1))
          (br (inB x1 (8 : Nat))
           (br (decide ((Int.toNat x1) < (8 : Nat)))
            (k0 true i963 (List.set l964 (Int.toNat x1) i962) l965 i966 i967 i968 l969 l970 i971 l972 l973 l975 l974)
            (none))
           (none))
          (none)))
        (br (decide (x0 = (20 : Int)))
         (c3 x0 x2 x3 x4 x5 x6 x7 x8 x9 x10 x11 x12 x13 x14
          (fun i976 l977 l978 i979 i980 i981 l982 l983 i984 l985 l986 l987 l988 => k0 true i976 l977 l978 i979 i980 i981 l982 l983 i984 l985 l986 l988 l987))
         (br (decide (x0 = (21 : Int)))
          (c3 x0 x2 x3 x4 x5 x6 x7 x8 x9 x10 x11 x12 x13 x14
           (fun i989 l990 l991 i992 i993 i994 l995 l996 i997 l998 l999 l1000 l1001 => k0 true i989 l990 l991 i992 i993 i994 l995 l996 i997 l998 l999 l1001 l1000))
          (br (decide (x0 = (22 : Int)))
           (k0 true x1 x3 x4 x5 x6 x7 x8 x9 x11 x12 x13 x10 x14)
           (br (decide (x0 = (23 : Int)))
            (c6 x2 x3 x4 x5 x6 x7 x8 x9 x10 x11 x12 x13 x14
             (fun i1002 i1003 l1004 l1005 i1006 i1007 i1008 l1009 l1010 i1011 l1012 l1013 l1014 l1015 => br (decide (i1002 = (0 : Int)))
              (k0 true x1 l1004 l1005 i1006 i1007 i1008 l1009 l1010 i1011 l1012 l1013 l1015 l1014)
              (k0 true i1003 l1004 l1005 i1006 i1007 i1008 l1009 l1010 i1011 l1012 l1013 l1015 l1014)))
            (br (decide (x0 = (24 : Int)))
             (c6 x2 x3 x4 x5 x6 x7 x8 x9 x10 x11 x12 x13 x14
              (fun i1016 i1017 l1018 l1019 i1020 i1021 i1022 l1023 l1024 i1025 l1026 l1027 l1028 l1029 => c2 (8 : Int)
               (fun i1030 => br (((fits (0 : Nat) (List.length l1028) l1028) && (decide ((((List.length l1028) + (1 : Nat)) * (4 : Nat)) ≤ (70368744177664 : Nat)))) && true)
                (k0 true i1017 l1018 l1019 i1020 i1021 i1022 l1023 l1024 i1025 l1026 l1027 l1029 ((sub l1028 (0 : Nat) (List.length l1028)) ++ ((true , (band .u16 i1016 i1030)) :: ([] : List ((Sh.bool.pair (Sh.int IntKind.u16)).T)))))
                (none))))
             (br (decide (x0 = (25 : Int)))
              (c6 x2 x3 x4 x5 x6 x7 x8 x9 x10 x11 x12 x13 x14
               (fun i1031 i1032 l1033 l1034 i1035 i1036 i1037 l1038 l1039 i1040 l1041 l1042 l1043 l1044 => br (decide (i1031 = (0 : Int)))
                (c0 (4 : Int) (0 : Int) i1032 l1033 l1034 i1035 i1036 i1037 l1038 l1039 l1044 i1040 l1041 l1042 l1043
                 (fun i1045 l1046 l1047 i1048 i1049 i1050 l1051 l1052 l1053 i1054 l1055 l1056 l1057 => k0 true i1045 l1046 l1047 i1048 i1049 i1050 l1051 l1052 i1054 l1055 l1056 l1053 l1057))
                (k0 true i1032 l1033 l1034 i1035 i1036 i1037 l1038 l1039 i1040 l1041 l1042 l1044 l1043)))
              (br (decide (x0 = (26 : Int)))
               (c6 x2 x3 x4 x5 x6 x7 x8 x9 x10 x11 x12 x13 x14
                (fun i1058 i1059 l1060 l1061 i1062 i1063 i1064 l1065 l1066 i1067 l1068 l1069 l1070 l1071 => c2 (8 : Int)
                 (fun i1072 => c0 (1 : Int) (band .u16 i1058 i1072) i1059 l1060 l1061 i1062 i1063 i1064 l1065 l1066 l1071 i1067 l1068 l1069 l1070
                  (fun i1073 l1074 l1075 i1076 i1077 i1078 l1079 l1080 l1081 i1082 l1083 l1084 l1085 => k0 true i1073 l1074 l1075 i1076 i1077 i1078 l1079 l1080 i1082 l1083 l1084 l1081 l1085))))
               (k0 false x2 x3 x4 x5 x6 x7 x8 x9 x11 x12 x13 x10 x14))))))))))))))
noncomputable def run_machine_plain_ffdd (N : Nat) {R : Type} (x0 : Int) (x1 : Int) (x2 : Int) (x3 : List (Int)) (x4 : List (Int)) (x5 : Int) (x6 : Int) (x7 : Int) (x8 : List ((Int) × (Int))) (x9 : List (ByteArray)) (x10 : List (Int)) (x11 : Int) (x12 : List (Bool)) (x13 : List (List (Int))) (x14 : List ((Bool) × (Int))) (k0 : (Bool) → (Int) → (List (Int)) → (List (Int)) → (Int) → (Int) → (Int) → (List ((Int) × (Int))) → (List (ByteArray)) → (Int) → (List (Bool)) → (List (List (Int))) → (List (Int)) → (List ((Bool) × (Int))) → Option R) : Option R := run_machine_plain_ffdd_T N (@run_machine_end_5a2b N) (@run_machine_end_3f90 N) (@wide_Mask N) (@run_machine_memory_3c75 N) (@run_machine_memory_61a1 N) (@run_truth N) (@run_machine_pop_9c77 N) (@run_machine_pop_6326 N) (@run_machine_push_6121 N) (@run_machine_push_9b59 N) (@run_machine_push_c21d N) (@run_machine_push_684b N) x0 x1 x2 x3 x4 x5 x6 x7 x8 x9 x10 x11 x12 x13 x14 k0
abbrev run_machine_plain_e571_Ty : Type 1 := {R : Type} → (Int) → (Int) → (Int) → (List (Int)) → (List (Int)) → (Int) → (Int) → (Int) → (List ((Int) × (Int))) → (List (ByteArray)) → (List (Int)) → (List (Int)) → (Int) → (List (((ByteArray) × (ByteArray)) × ((Int) × (Bool)))) → (List ((Int) × (List (Int)))) → (List ((Int) × (Int))) → (Int) → (List (Bool)) → (List (List (Int))) → (List ((Bool) × (Int))) → ((Bool) → (Int) → (List (Int)) → (List (Int)) → (Int) → (Int) → (Int) → (List ((Int) × (Int))) → (List (ByteArray)) → (List (Int)) → (Int) → (List (((ByteArray) × (ByteArray)) × ((Int) × (Bool)))) → (List ((Int) × (List (Int)))) → (List ((Int) × (Int))) → (Int) → (List (Bool)) → (List (List (Int))) → (List (Int)) → (List ((Bool) × (Int))) → Option R) → Option R
noncomputable def run_machine_plain_e571_T (N : Nat) (c0 : run_machine_end_5a2b_Ty) (c1 : run_machine_end_3f90_Ty) (c2 : wide_Mask_Ty) (c3 : run_machine_memory_3c75_Ty) (c4 : run_machine_memory_61a1_Ty) (c5 : run_truth_Ty) (c6 : run_machine_pop_9c77_Ty) (c7 : run_machine_pop_6326_Ty) (c8 : run_machine_push_6121_Ty) (c9 : run_machine_push_9b59_Ty) (c10 : run_machine_push_c21d_Ty) (c11 : run_machine_push_684b_Ty) {R : Type} (x0 : Int) (x1 : Int) (x2 : Int) (x3 : List (Int)) (x4 : List (Int)) (x5 : Int) (x6 : Int) (x7 : Int) (x8 : List ((Int) × (Int))) (x9 : List (ByteArray)) (x10 : List (Int)) (x11 : List (Int)) (x12 : Int) (x13 : List (((ByteArray) × (ByteArray)) × ((Int) × (Bool)))) (x14 : List ((Int) × (List (Int)))) (x15 : List ((Int) × (Int))) (x16 : Int) (x17 : List (Bool)) (x18 : List (List (Int))) (x19 : List ((Bool) × (Int))) (k0 : (Bool) → (Int) → (List (Int)) → (List (Int)) → (Int) → (Int) → (Int) → (List ((Int) × (Int))) → (List (ByteArray)) → (List (Int)) → (Int) → (List (((ByteArray) × (ByteArray)) × ((Int) × (Bool)))) → (List ((Int) × (List (Int)))) → (List ((Int) × (Int))) → (Int) → (List (Bool)) → (List (List (Int))) → (List (Int)) → (List ((Bool) × (Int))) → Option R) : Option R :=
  br (decide (x0 = (1 : Int)))
  (c11 (IntKind.wrap .u16 x1) x2 x3 x4 x5 x6 x7 x8 x9 x10 x11 x12 x13 x14 x15 x16 x17 x18 x19
   (fun i3556 l3557 l3558 i3559 i3560 i3561 l3562 l3563 l3564 i3565 l3566 l3567 l3568 i3569 l3570 l3571 l3572 l3573 => k0 true i3556 l3557 l3558 i3559 i3560 i3561 l3562 l3563 l3564 i3565 l3566 l3567 l3568 i3569 l3570 l3571 l3573 l3572))
  (br (decide (x0 = (2 : Int)))
   (c7 x2 x3 x4 x5 x6 x7 x8 x9 x10 x11 x12 x13 x14 x15 x16 x17 x18 x19
    (fun i3574 i3575 l3576 l3577 i3578 i3579 i3580 l3581 l3582 l3583 i3584 l3585 l3586 l3587 i3588 l3589 l3590 l3591 l3592 => k0 true i3575 l3576 l3577 i3578 i3579 i3580 l3581 l3582 l3583 i3584 l3585 l3586 l3587 i3588 l3589 l3590 l3592 l3591))
   (br (decide (x0 = (3 : Int)))
    (br (inB (IntKind.wrap .i64 ((Nat.cast (List.length x10) : Int) - (1 : Int))) (List.length x10))
     (br (decide ((Int.toNat (IntKind.wrap .i64 ((Nat.cast (List.length x10) : Int) - (1 : Int)))) < (List.length x10)))
      (c11 (List.getD x10 (Int.toNat (IntKind.wrap .i64 ((Nat.cast (List.length x10) : Int) - (1 : Int)))) (0 : Int)) x2 x3 x4 x5 x6 x7 x8 x9 x10 x11 x12 x13 x14 x15 x16 x17 x18 x19
       (fun i3593 l3594 l3595 i3596 i3597 i3598 l3599 l3600 l3601 i3602 l3603 l3604 l3605 i3606 l3607 l3608 l3609 l3610 => k0 true i3593 l3594 l3595 i3596 i3597 i3598 l3599 l3600 l3601 i3602 l3603 l3604 l3605 i3606 l3607 l3608 l3610 l3609))
      (none))
     (none))
    (br (decide (x0 = (4 : Int)))
     (c7 x2 x3 x4 x5 x6 x7 x8 x9 x10 x11 x12 x13 x14 x15 x16 x17 x18 x19
      (fun i3611 i3612 l3613 l3614 i3615 i3616 i3617 l3618 l3619 l3620 i3621 l3622 l3623 l3624 i3625 l3626 l3627 l3628 l3629 => c7 i3612 l3613 l3614 i3615 i3616 i3617 l3618 l3619 l3629 l3620 i3621 l3622 l3623 l3624 i3625 l3626 l3627 l3628
       (fun i3630 i3631 l3632 l3633 i3634 i3635 i3636 l3637 l3638 l3639 i3640 l3641 l3642 l3643 i3644 l3645 l3646 l3647 l3648 => c11 i3611 i3631 l3632 l3633 i3634 i3635 i3636 l3637 l3638 l3648 l3639 i3640 l3641 l3642 l3643 i3644 l3645 l3646 l3647
        (fun i3649 l3650 l3651 i3652 i3653 i3654 l3655 l3656 l3657 i3658 l3659 l3660 l3661 i3662 l3663 l3664 l3665 l3666 => c11 i3630 i3649 l3650 l3651 i3652 i3653 i3654 l3655 l3656 l3666 l3657 i3658 l3659 l3660 l3661 i3662 l3663 l3664 l3665
         (fun i3667 l3668 l3669 i3670 i3671 i3672 l3673 l3674 l3675 i3676 l3677 l3678 l3679 i3680 l3681 l3682 l3683 l3684 => k0 true i3667 l3668 l3669 i3670 i3671 i3672 l3673 l3674 l3675 i3676 l3677 l3678 l3679 i3680 l3681 l3682 l3684 l3683)))))
     (br (decide (x0 = (17 : Int)))
      (c7 x2 x3 x4 x5 x6 x7 x8 x9 x10 x11 x12 x13 x14 x15 x16 x17 x18 x19
       (fun i3685 i3686 l3687 l3688 i3689 i3690 i3691 l3692 l3693 l3694 i3695 l3696 l3697 l3698 i3699 l3700 l3701 l3702 l3703 => c5 (decide (i3685 = (0 : Int)))
        (fun i3704 => c11 i3704 i3686 l3687 l3688 i3689 i3690 i3691 l3692 l3693 l3703 l3694 i3695 l3696 l3697 l3698 i3699 l3700 l3701 l3702
         (fun i3705 l3706 l3707 i3708 i3709 i3710 l3711 l3712 l3713 i3714 l3715 l3716 l3717 i3718 l3719 l3720 l3721 l3722 => k0 true i3705 l3706 l3707 i3708 i3709 i3710 l3711 l3712 l3713 i3714 l3715 l3716 l3717 i3718 l3719 l3720 l3722 l3721))))
      (br (decide (x0 = (18 : Int)))
       (br (inB x1 (8 : Nat))
        (br (decide ((Int.toNat x1) < (8 : Nat)))
         (c11 (List.getD x3 (Int.toNat x1) (0 : Int)) x2 x3 x4 x5 x6 x7 x8 x9 x10 x11 x12 x13 x14 x15 x16 x17 x18 x19
          (fun i3723 l3724 l3725 i3726 i3727 i3728 l3729 l3730 l3731 i3732 l3733 l3734 l3735 i3736 l3737 l3738 l3739 l3740 => k0 true i3723 l3724 l3725 i3726 i3727 i3728 l3729 l3730 l3731 i3732 l3733 l3734 l3735 i3736 l3737 l3738 l3740 l3739))
         (none))
        (none))
       (br (decide (x0 = (19 : Int)))
        (c7 x2 x3 x4 x5 x6 x7 x8 x9 x10 x11 x12 x13 x14 x15 x16 x17 x18 x19
         (fun i3741 i3742 l3743 l3744 i3745 i3746 i3747 l3748 l3749 l3750 i3751 l3752 l3753 l3754 i3755 l3756 l3757 l3758 l3759 => br (decide (x1 = x1))
          (br (inB x1 (8 : Nat))
           (br (decide ((Int.toNat x1) < (8 : Nat)))
            (k0 true i3742 (List.set l3743 (Int.toNat x1) i3741) l3744 i3745 i3746 i3747 l3748 l3749 l3750 i3751 l3752 l3753 l3754 i3755 l3756 l3757 l3759 l3758)
            (none))
           (none))
          (none)))
        (br (decide (x0 = (20 : Int)))
         (c4 x0 x2 x3 x4 x5 x6 x7 x8 x9 x10 x11 x12 x13 x14 x15 x16 x17 x18 x19
          (fun i3760 l3761 l3762 i3763 i3764 i3765 l3766 l3767 l3768 i3769 l3770 l3771 l3772 i3773 l3774 l3775 l3776 l3777 => k0 true i3760 l3761 l3762 i3763 i3764 i3765 l3766 l3767 l3768 i3769 l3770 l3771 l3772 i3773 l3774 l3775 l3777 l3776))
         (br (decide (x0 = (21 : Int)))
          (c4 x0 x2 x3 x4 x5 x6 x7 x8 x9 x10 x11 x12 x13 x14 x15 x16 x17 x18 x19
           (fun i3778 l3779 l3780 i3781 i3782 i3783 l3784 l3785 l3786 i3787 l3788 l3789 l3790 i3791 l3792 l3793 l3794 l3795 => k0 true i3778 l3779 l3780 i3781 i3782 i3783 l3784 l3785 l3786 i3787 l3788 l3789 l3790 i3791 l3792 l3793 l3795 l3794))
          (br (decide (x0 = (22 : Int)))
           (k0 true x1 x3 x4 x5 x6 x7 x8 x9 x11 x12 x13 x14 x15 x16 x17 x18 x10 x19)
           (br (decide (x0 = (23 : Int)))
            (c7 x2 x3 x4 x5 x6 x7 x8 x9 x10 x11 x12 x13 x14 x15 x16 x17 x18 x19
             (fun i3796 i3797 l3798 l3799 i3800 i3801 i3802 l3803 l3804 l3805 i3806 l3807 l3808 l3809 i3810 l3811 l3812 l3813 l3814 => br (decide (i3796 = (0 : Int)))
              (k0 true x1 l3798 l3799 i3800 i3801 i3802 l3803 l3804 l3805 i3806 l3807 l3808 l3809 i3810 l3811 l3812 l3814 l3813)
              (k0 true i3797 l3798 l3799 i3800 i3801 i3802 l3803 l3804 l3805 i3806 l3807 l3808 l3809 i3810 l3811 l3812 l3814 l3813)))
            (br (decide (x0 = (24 : Int)))
             (c7 x2 x3 x4 x5 x6 x7 x8 x9 x10 x11 x12 x13 x14 x15 x16 x17 x18 x19
              (fun i3815 i3816 l3817 l3818 i3819 i3820 i3821 l3822 l3823 l3824 i3825 l3826 l3827 l3828 i3829 l3830 l3831 l3832 l3833 => c2 (8 : Int)
               (fun i3834 => br (((fits (0 : Nat) (List.length l3832) l3832) && (decide ((((List.length l3832) + (1 : Nat)) * (4 : Nat)) ≤ (70368744177664 : Nat)))) && true)
                (k0 true i3816 l3817 l3818 i3819 i3820 i3821 l3822 l3823 l3824 i3825 l3826 l3827 l3828 i3829 l3830 l3831 l3833 ((sub l3832 (0 : Nat) (List.length l3832)) ++ ((true , (band .u16 i3815 i3834)) :: ([] : List ((Sh.bool.pair (Sh.int IntKind.u16)).T)))))
                (none))))
             (br (decide (x0 = (25 : Int)))
              (c7 x2 x3 x4 x5 x6 x7 x8 x9 x10 x11 x12 x13 x14 x15 x16 x17 x18 x19
               (fun i3835 i3836 l3837 l3838 i3839 i3840 i3841 l3842 l3843 l3844 i3845 l3846 l3847 l3848 i3849 l3850 l3851 l3852 l3853 => br (decide (i3835 = (0 : Int)))
                (c1 (4 : Int) (0 : Int) i3836 l3837 l3838 i3839 i3840 i3841 l3842 l3843 l3853 l3844 i3845 l3846 l3847 l3848 i3849 l3850 l3851 l3852
                 (fun i3854 l3855 l3856 i3857 i3858 i3859 l3860 l3861 l3862 l3863 i3864 l3865 l3866 l3867 i3868 l3869 l3870 l3871 => k0 true i3854 l3855 l3856 i3857 i3858 i3859 l3860 l3861 l3863 i3864 l3865 l3866 l3867 i3868 l3869 l3870 l3862 l3871))
                (k0 true i3836 l3837 l3838 i3839 i3840 i3841 l3842 l3843 l3844 i3845 l3846 l3847 l3848 i3849 l3850 l3851 l3853 l3852)))
              (br (decide (x0 = (26 : Int)))
               (c7 x2 x3 x4 x5 x6 x7 x8 x9 x10 x11 x12 x13 x14 x15 x16 x17 x18 x19
                (fun i3872 i3873 l3874 l3875 i3876 i3877 i3878 l3879 l3880 l3881 i3882 l3883 l3884 l3885 i3886 l3887 l3888 l3889 l3890 => c2 (8 : Int)
                 (fun i3891 => c1 (1 : Int) (band .u16 i3872 i3891) i3873 l3874 l3875 i3876 i3877 i3878 l3879 l3880 l3890 l3881 i3882 l3883 l3884 l3885 i3886 l3887 l3888 l3889
                  (fun i3892 l3893 l3894 i3895 i3896 i3897 l3898 l3899 l3900 l3901 i3902 l3903 l3904 l3905 i3906 l3907 l3908 l3909 => k0 true i3892 l3893 l3894 i3895 i3896 i3897 l3898 l3899 l3901 i3902 l3903 l3904 l3905 i3906 l3907 l3908 l3900 l3909))))
               (k0 false x2 x3 x4 x5 x6 x7 x8 x9 x11 x12 x13 x14 x15 x16 x17 x18 x10 x19))))))))))))))
noncomputable def run_machine_plain_e571 (N : Nat) {R : Type} (x0 : Int) (x1 : Int) (x2 : Int) (x3 : List (Int)) (x4 : List (Int)) (x5 : Int) (x6 : Int) (x7 : Int) (x8 : List ((Int) × (Int))) (x9 : List (ByteArray)) (x10 : List (Int)) (x11 : List (Int)) (x12 : Int) (x13 : List (((ByteArray) × (ByteArray)) × ((Int) × (Bool)))) (x14 : List ((Int) × (List (Int)))) (x15 : List ((Int) × (Int))) (x16 : Int) (x17 : List (Bool)) (x18 : List (List (Int))) (x19 : List ((Bool) × (Int))) (k0 : (Bool) → (Int) → (List (Int)) → (List (Int)) → (Int) → (Int) → (Int) → (List ((Int) × (Int))) → (List (ByteArray)) → (List (Int)) → (Int) → (List (((ByteArray) × (ByteArray)) × ((Int) × (Bool)))) → (List ((Int) × (List (Int)))) → (List ((Int) × (Int))) → (Int) → (List (Bool)) → (List (List (Int))) → (List (Int)) → (List ((Bool) × (Int))) → Option R) : Option R := run_machine_plain_e571_T N (@run_machine_end_5a2b N) (@run_machine_end_3f90 N) (@wide_Mask N) (@run_machine_memory_3c75 N) (@run_machine_memory_61a1 N) (@run_truth N) (@run_machine_pop_9c77 N) (@run_machine_pop_6326 N) (@run_machine_push_6121 N) (@run_machine_push_9b59 N) (@run_machine_push_c21d N) (@run_machine_push_684b N) x0 x1 x2 x3 x4 x5 x6 x7 x8 x9 x10 x11 x12 x13 x14 x15 x16 x17 x18 x19 k0
abbrev run_machine_name_3c75_Ty : Type 1 := {R : Type} → (Int) → (Int) → (List (Int)) → (List (Int)) → (Int) → (Int) → (Int) → (List ((Int) × (Int))) → (List (ByteArray)) → (List (Int)) → (Int) → (List (Bool)) → (List (List (Int))) → (List ((Bool) × (Int))) → ((ByteArray) → (Int) → (List (Int)) → (List (Int)) → (Int) → (Int) → (Int) → (List ((Int) × (Int))) → (List (ByteArray)) → (List (Int)) → (Int) → (List (Bool)) → (List (List (Int))) → (List ((Bool) × (Int))) → Option R) → Option R
noncomputable def run_machine_name_3c75_T (N : Nat) {R : Type} (x0 : Int) (x1 : Int) (x2 : List (Int)) (x3 : List (Int)) (x4 : Int) (x5 : Int) (x6 : Int) (x7 : List ((Int) × (Int))) (x8 : List (ByteArray)) (x9 : List (Int)) (x10 : Int) (x11 : List (Bool)) (x12 : List (List (Int))) (x13 : List ((Bool) × (Int))) (k0 : (ByteArray) → (Int) → (List (Int)) → (List (Int)) → (Int) → (Int) → (Int) → (List ((Int) × (Int))) → (List (ByteArray)) → (List (Int)) → (Int) → (List (Bool)) → (List (List (Int))) → (List ((Bool) × (Int))) → Option R) : Option R :=
  br (inB x0 (List.length x8))
  (br (decide ((Int.toNat x0) < (List.length x8)))
   (k0 (List.getD x8 (Int.toNat x0) (bs [])) x1 x2 x3 x4 x5 x6 x7 x8 x9 x10 x11 x12 x13)
   (none))
  (none)
noncomputable def run_machine_name_3c75 (N : Nat) {R : Type} (x0 : Int) (x1 : Int) (x2 : List (Int)) (x3 : List (Int)) (x4 : Int) (x5 : Int) (x6 : Int) (x7 : List ((Int) × (Int))) (x8 : List (ByteArray)) (x9 : List (Int)) (x10 : Int) (x11 : List (Bool)) (x12 : List (List (Int))) (x13 : List ((Bool) × (Int))) (k0 : (ByteArray) → (Int) → (List (Int)) → (List (Int)) → (Int) → (Int) → (Int) → (List ((Int) × (Int))) → (List (ByteArray)) → (List (Int)) → (Int) → (List (Bool)) → (List (List (Int))) → (List ((Bool) × (Int))) → Option R) : Option R := run_machine_name_3c75_T N x0 x1 x2 x3 x4 x5 x6 x7 x8 x9 x10 x11 x12 x13 k0
abbrev run_machine_name_61a1_Ty : Type 1 := {R : Type} → (Int) → (Int) → (List (Int)) → (List (Int)) → (Int) → (Int) → (Int) → (List ((Int) × (Int))) → (List (ByteArray)) → (List (Int)) → (List (Int)) → (Int) → (List (((ByteArray) × (ByteArray)) × ((Int) × (Bool)))) → (List ((Int) × (List (Int)))) → (List ((Int) × (Int))) → (Int) → (List (Bool)) → (List (List (Int))) → (List ((Bool) × (Int))) → ((ByteArray) → (Int) → (List (Int)) → (List (Int)) → (Int) → (Int) → (Int) → (List ((Int) × (Int))) → (List (ByteArray)) → (List (Int)) → (List (Int)) → (Int) → (List (((ByteArray) × (ByteArray)) × ((Int) × (Bool)))) → (List ((Int) × (List (Int)))) → (List ((Int) × (Int))) → (Int) → (List (Bool)) → (List (List (Int))) → (List ((Bool) × (Int))) → Option R) → Option R
noncomputable def run_machine_name_61a1_T (N : Nat) {R : Type} (x0 : Int) (x1 : Int) (x2 : List (Int)) (x3 : List (Int)) (x4 : Int) (x5 : Int) (x6 : Int) (x7 : List ((Int) × (Int))) (x8 : List (ByteArray)) (x9 : List (Int)) (x10 : List (Int)) (x11 : Int) (x12 : List (((ByteArray) × (ByteArray)) × ((Int) × (Bool)))) (x13 : List ((Int) × (List (Int)))) (x14 : List ((Int) × (Int))) (x15 : Int) (x16 : List (Bool)) (x17 : List (List (Int))) (x18 : List ((Bool) × (Int))) (k0 : (ByteArray) → (Int) → (List (Int)) → (List (Int)) → (Int) → (Int) → (Int) → (List ((Int) × (Int))) → (List (ByteArray)) → (List (Int)) → (List (Int)) → (Int) → (List (((ByteArray) × (ByteArray)) × ((Int) × (Bool)))) → (List ((Int) × (List (Int)))) → (List ((Int) × (Int))) → (Int) → (List (Bool)) → (List (List (Int))) → (List ((Bool) × (Int))) → Option R) : Option R :=
  br (inB x0 (List.length x8))
  (br (decide ((Int.toNat x0) < (List.length x8)))
   (k0 (List.getD x8 (Int.toNat x0) (bs [])) x1 x2 x3 x4 x5 x6 x7 x8 x9 x10 x11 x12 x13 x14 x15 x16 x17 x18)
   (none))
  (none)
noncomputable def run_machine_name_61a1 (N : Nat) {R : Type} (x0 : Int) (x1 : Int) (x2 : List (Int)) (x3 : List (Int)) (x4 : Int) (x5 : Int) (x6 : Int) (x7 : List ((Int) × (Int))) (x8 : List (ByteArray)) (x9 : List (Int)) (x10 : List (Int)) (x11 : Int) (x12 : List (((ByteArray) × (ByteArray)) × ((Int) × (Bool)))) (x13 : List ((Int) × (List (Int)))) (x14 : List ((Int) × (Int))) (x15 : Int) (x16 : List (Bool)) (x17 : List (List (Int))) (x18 : List ((Bool) × (Int))) (k0 : (ByteArray) → (Int) → (List (Int)) → (List (Int)) → (Int) → (Int) → (Int) → (List ((Int) × (Int))) → (List (ByteArray)) → (List (Int)) → (List (Int)) → (Int) → (List (((ByteArray) × (ByteArray)) × ((Int) × (Bool)))) → (List ((Int) × (List (Int)))) → (List ((Int) × (Int))) → (Int) → (List (Bool)) → (List (List (Int))) → (List ((Bool) × (Int))) → Option R) : Option R := run_machine_name_61a1_T N x0 x1 x2 x3 x4 x5 x6 x7 x8 x9 x10 x11 x12 x13 x14 x15 x16 x17 x18 k0
abbrev files_Files_file_Ty : Type 1 := {R : Type} → (Int) → (Option R) → Option R
noncomputable def files_Files_file_T (N : Nat) {R : Type} (x0 : Int) (k0 : Option R) : Option R :=
  k0
noncomputable def files_Files_file (N : Nat) {R : Type} (x0 : Int) (k0 : Option R) : Option R := files_Files_file_T N x0 k0
abbrev files_Files_file_b447_Ty : Type 1 := {R : Type} → (Int) → (List (Int)) → (Int) → (List (((ByteArray) × (ByteArray)) × ((Int) × (Bool)))) → (List ((Int) × (List (Int)))) → (List ((Int) × (Int))) → ((List (Int)) → (Int) → (List (((ByteArray) × (ByteArray)) × ((Int) × (Bool)))) → (List ((Int) × (List (Int)))) → (List ((Int) × (Int))) → Option R) → ((Int) → (List (Int)) → (Int) → (List (((ByteArray) × (ByteArray)) × ((Int) × (Bool)))) → (List ((Int) × (List (Int)))) → (List ((Int) × (Int))) → Option R) → Option R
noncomputable def files_Files_file_b447_T (N : Nat) {R : Type} (x0 : Int) (x1 : List (Int)) (x2 : Int) (x3 : List (((ByteArray) × (ByteArray)) × ((Int) × (Bool)))) (x4 : List ((Int) × (List (Int)))) (x5 : List ((Int) × (Int))) (k0 : (List (Int)) → (Int) → (List (((ByteArray) × (ByteArray)) × ((Int) × (Bool)))) → (List ((Int) × (List (Int)))) → (List ((Int) × (Int))) → Option R) (k1 : (Int) → (List (Int)) → (Int) → (List (((ByteArray) × (ByteArray)) × ((Int) × (Bool)))) → (List ((Int) × (List (Int)))) → (List ((Int) × (Int))) → Option R) : Option R :=
  br (!(decide ((4 : Int) ≤ x0)))
  (br (inB x0 (4 : Nat))
   (br (decide ((Int.toNat x0) < (4 : Nat)))
    (br (decide ((List.getD x1 (Int.toNat x0) (0 : Int)) = (0 : Int)))
     (k0 x1 x2 x3 x4 x5)
     (br (inB x0 (4 : Nat))
      (br (decide ((Int.toNat x0) < (4 : Nat)))
       (br (inB (IntKind.wrap .i64 ((List.getD x1 (Int.toNat x0) (0 : Int)) - (1 : Int))) (List.length x5))
        (k1 (IntKind.wrap .i64 ((List.getD x1 (Int.toNat x0) (0 : Int)) - (1 : Int))) x1 x2 x3 x4 x5)
        (none))
       (none))
      (none)))
    (none))
   (none))
  (k0 x1 x2 x3 x4 x5)
noncomputable def files_Files_file_b447 (N : Nat) {R : Type} (x0 : Int) (x1 : List (Int)) (x2 : Int) (x3 : List (((ByteArray) × (ByteArray)) × ((Int) × (Bool)))) (x4 : List ((Int) × (List (Int)))) (x5 : List ((Int) × (Int))) (k0 : (List (Int)) → (Int) → (List (((ByteArray) × (ByteArray)) × ((Int) × (Bool)))) → (List ((Int) × (List (Int)))) → (List ((Int) × (Int))) → Option R) (k1 : (Int) → (List (Int)) → (Int) → (List (((ByteArray) × (ByteArray)) × ((Int) × (Bool)))) → (List ((Int) × (List (Int)))) → (List ((Int) × (Int))) → Option R) : Option R := files_Files_file_b447_T N x0 x1 x2 x3 x4 x5 k0 k1
abbrev files_Files_Close_Ty : Type 1 := {R : Type} → (Int) → ((Int) → Option R) → Option R
noncomputable def files_Files_Close_T (N : Nat) (c0 : files_Files_file_Ty) (c1 : files_Files_file_b447_Ty) {R : Type} (x0 : Int) (k0 : (Int) → Option R) : Option R :=
  c0 x0
  (k0 (65289 : Int))
noncomputable def files_Files_Close (N : Nat) {R : Type} (x0 : Int) (k0 : (Int) → Option R) : Option R := files_Files_Close_T N (@files_Files_file N) (@files_Files_file_b447 N) x0 k0
abbrev files_Files_Close_b447_Ty : Type 1 := {R : Type} → (Int) → (List (Int)) → (Int) → (List (((ByteArray) × (ByteArray)) × ((Int) × (Bool)))) → (List ((Int) × (List (Int)))) → (List ((Int) × (Int))) → ((Int) → (List (Int)) → (Int) → (List (((ByteArray) × (ByteArray)) × ((Int) × (Bool)))) → (List ((Int) × (List (Int)))) → (List ((Int) × (Int))) → Option R) → Option R
noncomputable def files_Files_Close_b447_T (N : Nat) (c0 : files_Files_file_Ty) (c1 : files_Files_file_b447_Ty) {R : Type} (x0 : Int) (x1 : List (Int)) (x2 : Int) (x3 : List (((ByteArray) × (ByteArray)) × ((Int) × (Bool)))) (x4 : List ((Int) × (List (Int)))) (x5 : List ((Int) × (Int))) (k0 : (Int) → (List (Int)) → (Int) → (List (((ByteArray) × (ByteArray)) × ((Int) × (Bool)))) → (List ((Int) × (List (Int)))) → (List ((Int) × (Int))) → Option R) : Option R :=
  c1 x0 x1 x2 x3 x4 x5
  (fun l4803 i4804 l4805 l4806 l4807 => k0 (65289 : Int) l4803 i4804 l4805 l4806 l4807)
  (fun i4808 l4809 i4810 l4811 l4812 l4813 => br (inB x0 (4 : Nat))
   (br (decide ((Int.toNat x0) < (4 : Nat)))
    (k0 (0 : Int) (List.set l4809 (Int.toNat x0) (0 : Int)) i4810 l4811 l4812 l4813)
    (none))
   (none))
noncomputable def files_Files_Close_b447 (N : Nat) {R : Type} (x0 : Int) (x1 : List (Int)) (x2 : Int) (x3 : List (((ByteArray) × (ByteArray)) × ((Int) × (Bool)))) (x4 : List ((Int) × (List (Int)))) (x5 : List ((Int) × (Int))) (k0 : (Int) → (List (Int)) → (Int) → (List (((ByteArray) × (ByteArray)) × ((Int) × (Bool)))) → (List ((Int) × (List (Int)))) → (List ((Int) × (Int))) → Option R) : Option R := files_Files_Close_b447_T N (@files_Files_file N) (@files_Files_file_b447 N) x0 x1 x2 x3 x4 x5 k0
abbrev files_Files_Size_Ty : Type 1 := {R : Type} → (Int) → ((Int) → Option R) → Option R
noncomputable def files_Files_Size_T (N : Nat) (c0 : files_Files_file_Ty) (c1 : files_Files_file_b447_Ty) {R : Type} (x0 : Int) (k0 : (Int) → Option R) : Option R :=
  c0 x0
  (k0 (65289 : Int))
noncomputable def files_Files_Size (N : Nat) {R : Type} (x0 : Int) (k0 : (Int) → Option R) : Option R := files_Files_Size_T N (@files_Files_file N) (@files_Files_file_b447 N) x0 k0
abbrev files_Files_Size_b447_Ty : Type 1 := {R : Type} → (Int) → (List (Int)) → (Int) → (List (((ByteArray) × (ByteArray)) × ((Int) × (Bool)))) → (List ((Int) × (List (Int)))) → (List ((Int) × (Int))) → ((Int) → (List (Int)) → (Int) → (List (((ByteArray) × (ByteArray)) × ((Int) × (Bool)))) → (List ((Int) × (List (Int)))) → (List ((Int) × (Int))) → Option R) → Option R
noncomputable def files_Files_Size_b447_T (N : Nat) (c0 : files_Files_file_Ty) (c1 : files_Files_file_b447_Ty) {R : Type} (x0 : Int) (x1 : List (Int)) (x2 : Int) (x3 : List (((ByteArray) × (ByteArray)) × ((Int) × (Bool)))) (x4 : List ((Int) × (List (Int)))) (x5 : List ((Int) × (Int))) (k0 : (Int) → (List (Int)) → (Int) → (List (((ByteArray) × (ByteArray)) × ((Int) × (Bool)))) → (List ((Int) × (List (Int)))) → (List ((Int) × (Int))) → Option R) : Option R :=
  c1 x0 x1 x2 x3 x4 x5
  (fun l4857 i4858 l4859 l4860 l4861 => k0 (65289 : Int) l4857 i4858 l4859 l4860 l4861)
  (fun i4862 l4863 i4864 l4865 l4866 l4867 => br (decide ((Int.toNat i4862) < (List.length l4867)))
   (k0 (IntKind.wrap .u16 (Nat.cast (List.length (Option.getD (mfind (.int .i64) (.isl (.int .u8)) l4866 (List.getD l4867 (Int.toNat i4862) ((0 : Int) , (0 : Int))).1) (Sh.zero (.isl (.int .u8))))) : Int)) l4863 i4864 l4865 l4866 l4867)
   (none))
noncomputable def files_Files_Size_b447 (N : Nat) {R : Type} (x0 : Int) (x1 : List (Int)) (x2 : Int) (x3 : List (((ByteArray) × (ByteArray)) × ((Int) × (Bool)))) (x4 : List ((Int) × (List (Int)))) (x5 : List ((Int) × (Int))) (k0 : (Int) → (List (Int)) → (Int) → (List (((ByteArray) × (ByteArray)) × ((Int) × (Bool)))) → (List ((Int) × (List (Int)))) → (List ((Int) × (Int))) → Option R) : Option R := files_Files_Size_b447_T N (@files_Files_file N) (@files_Files_file_b447 N) x0 x1 x2 x3 x4 x5 k0
abbrev files_Files_Seek_Ty : Type 1 := {R : Type} → (Int) → (Int) → ((Int) → Option R) → Option R
noncomputable def files_Files_Seek_T (N : Nat) (c0 : files_Files_file_Ty) (c1 : files_Files_file_b447_Ty) {R : Type} (x0 : Int) (x1 : Int) (k0 : (Int) → Option R) : Option R :=
  c0 x0
  (k0 (65289 : Int))
noncomputable def files_Files_Seek (N : Nat) {R : Type} (x0 : Int) (x1 : Int) (k0 : (Int) → Option R) : Option R := files_Files_Seek_T N (@files_Files_file N) (@files_Files_file_b447 N) x0 x1 k0
abbrev files_Files_Seek_0442_Ty : Type 1 := {R : Type} → (Int) → (Int) → (List (Int)) → (Int) → (List (((ByteArray) × (ByteArray)) × ((Int) × (Bool)))) → (List ((Int) × (List (Int)))) → (List ((Int) × (Int))) → ((Int) → (List (Int)) → (Int) → (List (((ByteArray) × (ByteArray)) × ((Int) × (Bool)))) → (List ((Int) × (List (Int)))) → (List ((Int) × (Int))) → Option R) → Option R
noncomputable def files_Files_Seek_0442_T (N : Nat) (c0 : files_Files_file_Ty) (c1 : files_Files_file_b447_Ty) {R : Type} (x0 : Int) (x1 : Int) (x2 : List (Int)) (x3 : Int) (x4 : List (((ByteArray) × (ByteArray)) × ((Int) × (Bool)))) (x5 : List ((Int) × (List (Int)))) (x6 : List ((Int) × (Int))) (k0 : (Int) → (List (Int)) → (Int) → (List (((ByteArray) × (ByteArray)) × ((Int) × (Bool)))) → (List ((Int) × (List (Int)))) → (List ((Int) × (Int))) → Option R) : Option R :=
  c1 x0 x2 x3 x4 x5 x6
  (fun l4991 i4992 l4993 l4994 l4995 => k0 (65289 : Int) l4991 i4992 l4993 l4994 l4995)
  (fun i4996 l4997 i4998 l4999 l5000 l5001 => br (decide ((255 : Int) < x1))
   (k0 (65302 : Int) l4997 i4998 l4999 l5000 l5001)
   (br (decide ((Int.toNat i4996) < (List.length l5001)))
    (k0 x1 l4997 i4998 l4999 l5000 (List.set l5001 (Int.toNat i4996) ((List.getD l5001 (Int.toNat i4996) ((0 : Int) , (0 : Int))).1 , (IntKind.wrap .i64 x1))))
    (none)))
noncomputable def files_Files_Seek_0442 (N : Nat) {R : Type} (x0 : Int) (x1 : Int) (x2 : List (Int)) (x3 : Int) (x4 : List (((ByteArray) × (ByteArray)) × ((Int) × (Bool)))) (x5 : List ((Int) × (List (Int)))) (x6 : List ((Int) × (Int))) (k0 : (Int) → (List (Int)) → (Int) → (List (((ByteArray) × (ByteArray)) × ((Int) × (Bool)))) → (List ((Int) × (List (Int)))) → (List ((Int) × (Int))) → Option R) : Option R := files_Files_Seek_0442_T N (@files_Files_file N) (@files_Files_file_b447 N) x0 x1 x2 x3 x4 x5 x6 k0
abbrev run_machine_argument_9c77_Ty : Type 1 := {R : Type} → (Int) → (List (Int)) → (List (Int)) → (Int) → (Int) → (Int) → (List ((Int) × (Int))) → (List (ByteArray)) → (List (Int)) → (Int) → (List (Bool)) → (List (List (Int))) → (List ((Bool) × (Int))) → ((Int) → (List (Int)) → (List (Int)) → (Int) → (Int) → (Int) → (List ((Int) × (Int))) → (List (ByteArray)) → (Int) → (List (Bool)) → (List (List (Int))) → (List ((Bool) × (Int))) → (List (Int)) → Option R) → Option R
noncomputable def run_machine_argument_9c77_T (N : Nat) (c0 : run_machine_push_6121_Ty) (c1 : run_machine_push_9b59_Ty) (c2 : run_machine_push_c21d_Ty) (c3 : run_machine_push_684b_Ty) (c4 : run_machine_pop_9c77_Ty) (c5 : run_machine_pop_6326_Ty) {R : Type} (x0 : Int) (x1 : List (Int)) (x2 : List (Int)) (x3 : Int) (x4 : Int) (x5 : Int) (x6 : List ((Int) × (Int))) (x7 : List (ByteArray)) (x8 : List (Int)) (x9 : Int) (x10 : List (Bool)) (x11 : List (List (Int))) (x12 : List ((Bool) × (Int))) (k0 : (Int) → (List (Int)) → (List (Int)) → (Int) → (Int) → (Int) → (List ((Int) × (Int))) → (List (ByteArray)) → (Int) → (List (Bool)) → (List (List (Int))) → (List ((Bool) × (Int))) → (List (Int)) → Option R) : Option R :=
  c4 x0 x1 x2 x3 x4 x5 x6 x7 x8 x9 x10 x11 x12
  (fun i2179 i2180 l2181 l2182 i2183 i2184 i2185 l2186 l2187 i2188 l2189 l2190 l2191 l2192 => c4 i2180 l2181 l2182 i2183 i2184 i2185 l2186 l2187 l2192 i2188 l2189 l2190 l2191
   (fun i2193 i2194 l2195 l2196 i2197 i2198 i2199 l2200 l2201 i2202 l2203 l2204 l2205 l2206 => br (!(decide ((Nat.cast (List.length l2204) : Int) ≤ (IntKind.wrap .i64 i2193))))
    (br (inB i2193 (List.length l2204))
     (br (decide ((Int.toNat i2193) < (List.length l2204)))
      (br (decide ((Nat.cast (List.length (List.getD l2204 (Int.toNat i2193) (Sh.zero (.isl (.int .u8))))) : Int) ≤ (IntKind.wrap .i64 i2179)))
       (c1 (65535 : Int) i2194 l2195 l2196 i2197 i2198 i2199 l2200 l2201 l2206 i2202 l2203 l2204 l2205
        (fun i2207 l2208 l2209 i2210 i2211 i2212 l2213 l2214 i2215 l2216 l2217 l2218 l2219 => k0 i2207 l2208 l2209 i2210 i2211 i2212 l2213 l2214 i2215 l2216 l2217 l2218 l2219))
       (br (inB i2193 (List.length l2204))
        (br (decide ((Int.toNat i2193) < (List.length l2204)))
         (br (inB i2179 (List.length (List.getD l2204 (Int.toNat i2193) (Sh.zero (.isl (.int .u8))))))
          (c1 (IntKind.wrap .u16 (List.getD (List.getD l2204 (Int.toNat i2193) (Sh.zero (.isl (.int .u8)))) (Int.toNat i2179) (0 : Int))) i2194 l2195 l2196 i2197 i2198 i2199 l2200 l2201 l2206 i2202 l2203 l2204 l2205
           (fun i2220 l2221 l2222 i2223 i2224 i2225 l2226 l2227 i2228 l2229 l2230 l2231 l2232 => k0 i2220 l2221 l2222 i2223 i2224 i2225 l2226 l2227 i2228 l2229 l2230 l2231 l2232))
          (none))
         (none))
        (none)))
      (none))
     (none))
    (c1 (65535 : Int) i2194 l2195 l2196 i2197 i2198 i2199 l2200 l2201 l2206 i2202 l2203 l2204 l2205
     (fun i2233 l2234 l2235 i2236 i2237 i2238 l2239 l2240 i2241 l2242 l2243 l2244 l2245 => k0 i2233 l2234 l2235 i2236 i2237 i2238 l2239 l2240 i2241 l2242 l2243 l2244 l2245))))
noncomputable def run_machine_argument_9c77 (N : Nat) {R : Type} (x0 : Int) (x1 : List (Int)) (x2 : List (Int)) (x3 : Int) (x4 : Int) (x5 : Int) (x6 : List ((Int) × (Int))) (x7 : List (ByteArray)) (x8 : List (Int)) (x9 : Int) (x10 : List (Bool)) (x11 : List (List (Int))) (x12 : List ((Bool) × (Int))) (k0 : (Int) → (List (Int)) → (List (Int)) → (Int) → (Int) → (Int) → (List ((Int) × (Int))) → (List (ByteArray)) → (Int) → (List (Bool)) → (List (List (Int))) → (List ((Bool) × (Int))) → (List (Int)) → Option R) : Option R := run_machine_argument_9c77_T N (@run_machine_push_6121 N) (@run_machine_push_9b59 N) (@run_machine_push_c21d N) (@run_machine_push_684b N) (@run_machine_pop_9c77 N) (@run_machine_pop_6326 N) x0 x1 x2 x3 x4 x5 x6 x7 x8 x9 x10 x11 x12 k0
abbrev run_machine_argument_6326_Ty : Type 1 := {R : Type} → (Int) → (List (Int)) → (List (Int)) → (Int) → (Int) → (Int) → (List ((Int) × (Int))) → (List (ByteArray)) → (List (Int)) → (List (Int)) → (Int) → (List (((ByteArray) × (ByteArray)) × ((Int) × (Bool)))) → (List ((Int) × (List (Int)))) → (List ((Int) × (Int))) → (Int) → (List (Bool)) → (List (List (Int))) → (List ((Bool) × (Int))) → ((Int) → (List (Int)) → (List (Int)) → (Int) → (Int) → (Int) → (List ((Int) × (Int))) → (List (ByteArray)) → (List (Int)) → (Int) → (List (((ByteArray) × (ByteArray)) × ((Int) × (Bool)))) → (List ((Int) × (List (Int)))) → (List ((Int) × (Int))) → (Int) → (List (Bool)) → (List (List (Int))) → (List ((Bool) × (Int))) → (List (Int)) → Option R) → Option R
noncomputable def run_machine_argument_6326_T (N : Nat) (c0 : run_machine_push_6121_Ty) (c1 : run_machine_push_9b59_Ty) (c2 : run_machine_push_c21d_Ty) (c3 : run_machine_push_684b_Ty) (c4 : run_machine_pop_9c77_Ty) (c5 : run_machine_pop_6326_Ty) {R : Type} (x0 : Int) (x1 : List (Int)) (x2 : List (Int)) (x3 : Int) (x4 : Int) (x5 : Int) (x6 : List ((Int) × (Int))) (x7 : List (ByteArray)) (x8 : List (Int)) (x9 : List (Int)) (x10 : Int) (x11 : List (((ByteArray) × (ByteArray)) × ((Int) × (Bool)))) (x12 : List ((Int) × (List (Int)))) (x13 : List ((Int) × (Int))) (x14 : Int) (x15 : List (Bool)) (x16 : List (List (Int))) (x17 : List ((Bool) × (Int))) (k0 : (Int) → (List (Int)) → (List (Int)) → (Int) → (Int) → (Int) → (List ((Int) × (Int))) → (List (ByteArray)) → (List (Int)) → (Int) → (List (((ByteArray) × (ByteArray)) × ((Int) × (Bool)))) → (List ((Int) × (List (Int)))) → (List ((Int) × (Int))) → (Int) → (List (Bool)) → (List (List (Int))) → (List ((Bool) × (Int))) → (List (Int)) → Option R) : Option R :=
  c5 x0 x1 x2 x3 x4 x5 x6 x7 x8 x9 x10 x11 x12 x13 x14 x15 x16 x17
  (fun i6073 i6074 l6075 l6076 i6077 i6078 i6079 l6080 l6081 l6082 i6083 l6084 l6085 l6086 i6087 l6088 l6089 l6090 l6091 => c5 i6074 l6075 l6076 i6077 i6078 i6079 l6080 l6081 l6091 l6082 i6083 l6084 l6085 l6086 i6087 l6088 l6089 l6090
   (fun i6092 i6093 l6094 l6095 i6096 i6097 i6098 l6099 l6100 l6101 i6102 l6103 l6104 l6105 i6106 l6107 l6108 l6109 l6110 => br (!(decide ((Nat.cast (List.length l6108) : Int) ≤ (IntKind.wrap .i64 i6092))))
    (br (inB i6092 (List.length l6108))
     (br (decide ((Int.toNat i6092) < (List.length l6108)))
      (br (decide ((Nat.cast (List.length (List.getD l6108 (Int.toNat i6092) (Sh.zero (.isl (.int .u8))))) : Int) ≤ (IntKind.wrap .i64 i6073)))
       (c3 (65535 : Int) i6093 l6094 l6095 i6096 i6097 i6098 l6099 l6100 l6110 l6101 i6102 l6103 l6104 l6105 i6106 l6107 l6108 l6109
        (fun i6111 l6112 l6113 i6114 i6115 i6116 l6117 l6118 l6119 i6120 l6121 l6122 l6123 i6124 l6125 l6126 l6127 l6128 => k0 i6111 l6112 l6113 i6114 i6115 i6116 l6117 l6118 l6119 i6120 l6121 l6122 l6123 i6124 l6125 l6126 l6127 l6128))
       (br (inB i6092 (List.length l6108))
        (br (decide ((Int.toNat i6092) < (List.length l6108)))
         (br (inB i6073 (List.length (List.getD l6108 (Int.toNat i6092) (Sh.zero (.isl (.int .u8))))))
          (c3 (IntKind.wrap .u16 (List.getD (List.getD l6108 (Int.toNat i6092) (Sh.zero (.isl (.int .u8)))) (Int.toNat i6073) (0 : Int))) i6093 l6094 l6095 i6096 i6097 i6098 l6099 l6100 l6110 l6101 i6102 l6103 l6104 l6105 i6106 l6107 l6108 l6109
           (fun i6129 l6130 l6131 i6132 i6133 i6134 l6135 l6136 l6137 i6138 l6139 l6140 l6141 i6142 l6143 l6144 l6145 l6146 => k0 i6129 l6130 l6131 i6132 i6133 i6134 l6135 l6136 l6137 i6138 l6139 l6140 l6141 i6142 l6143 l6144 l6145 l6146))
          (none))
         (none))
        (none)))
      (none))
     (none))
    (c3 (65535 : Int) i6093 l6094 l6095 i6096 i6097 i6098 l6099 l6100 l6110 l6101 i6102 l6103 l6104 l6105 i6106 l6107 l6108 l6109
     (fun i6147 l6148 l6149 i6150 i6151 i6152 l6153 l6154 l6155 i6156 l6157 l6158 l6159 i6160 l6161 l6162 l6163 l6164 => k0 i6147 l6148 l6149 i6150 i6151 i6152 l6153 l6154 l6155 i6156 l6157 l6158 l6159 i6160 l6161 l6162 l6163 l6164))))
noncomputable def run_machine_argument_6326 (N : Nat) {R : Type} (x0 : Int) (x1 : List (Int)) (x2 : List (Int)) (x3 : Int) (x4 : Int) (x5 : Int) (x6 : List ((Int) × (Int))) (x7 : List (ByteArray)) (x8 : List (Int)) (x9 : List (Int)) (x10 : Int) (x11 : List (((ByteArray) × (ByteArray)) × ((Int) × (Bool)))) (x12 : List ((Int) × (List (Int)))) (x13 : List ((Int) × (Int))) (x14 : Int) (x15 : List (Bool)) (x16 : List (List (Int))) (x17 : List ((Bool) × (Int))) (k0 : (Int) → (List (Int)) → (List (Int)) → (Int) → (Int) → (Int) → (List ((Int) × (Int))) → (List (ByteArray)) → (List (Int)) → (Int) → (List (((ByteArray) × (ByteArray)) × ((Int) × (Bool)))) → (List ((Int) × (List (Int)))) → (List ((Int) × (Int))) → (Int) → (List (Bool)) → (List (List (Int))) → (List ((Bool) × (Int))) → (List (Int)) → Option R) : Option R := run_machine_argument_6326_T N (@run_machine_push_6121 N) (@run_machine_push_9b59 N) (@run_machine_push_c21d N) (@run_machine_push_684b N) (@run_machine_pop_9c77 N) (@run_machine_pop_6326 N) x0 x1 x2 x3 x4 x5 x6 x7 x8 x9 x10 x11 x12 x13 x14 x15 x16 x17 k0
abbrev names_May_Ty : Type 1 := {R : Type} → (ByteArray) → ((Bool) → Option R) → Option R
noncomputable def names_May_T (N : Nat) (c0 : check_Name_Ty) {R : Type} (x0 : ByteArray) (k0 : (Bool) → Option R) : Option R :=
  c0 x0
  (fun b3948 => k0 b3948)
noncomputable def names_May (N : Nat) {R : Type} (x0 : ByteArray) (k0 : (Bool) → Option R) : Option R := names_May_T N (@check_Name N) x0 k0
abbrev names_Split_Ty : Type 1 := {R : Type} → (ByteArray) → ((ByteArray) → (ByteArray) → Option R) → Option R
noncomputable def names_Split_T (N : Nat) (c0 : strings_Cut_Ty) (c1 : names_May_Ty) {R : Type} (x0 : ByteArray) (k0 : (ByteArray) → (ByteArray) → Option R) : Option R :=
  c1 x0
  (fun b3949 => br (!b3949)
   (k0 (bs []) (bs []))
   (c0 x0 (bs [47])
    (fun s3950 s3951 b3952 => br (!b3952)
     (k0 (bs []) s3950)
     (k0 s3950 s3951))))
noncomputable def names_Split (N : Nat) {R : Type} (x0 : ByteArray) (k0 : (ByteArray) → (ByteArray) → Option R) : Option R := names_Split_T N (@strings_Cut N) (@names_May N) x0 k0
abbrev tree_of_Ty : Type 1 := {R : Type} → (ByteArray) → ((ByteArray) → (ByteArray) → Option R) → Option R
noncomputable def tree_of_T (N : Nat) (c0 : names_Split_Ty) {R : Type} (x0 : ByteArray) (k0 : (ByteArray) → (ByteArray) → Option R) : Option R :=
  c0 x0
  (fun s3953 s3954 => k0 s3953 s3954)
noncomputable def tree_of (N : Nat) {R : Type} (x0 : ByteArray) (k0 : (ByteArray) → (ByteArray) → Option R) : Option R := tree_of_T N (@names_Split N) x0 k0
abbrev tree_Tree_above_2de7_Ty : Type 1 := {R : Type} → (ByteArray) → (ByteArray) → (Int) → (List (((ByteArray) × (ByteArray)) × ((Int) × (Bool)))) → ((Int) → (Int) → (List (((ByteArray) × (ByteArray)) × ((Int) × (Bool)))) → Option R) → Option R
noncomputable def tree_Tree_above_2de7_T (N : Nat) {R : Type} (x0 : ByteArray) (x1 : ByteArray) (x2 : Int) (x3 : List (((ByteArray) × (ByteArray)) × ((Int) × (Bool)))) (k0 : (Int) → (Int) → (List (((ByteArray) × (ByteArray)) × ((Int) × (Bool)))) → Option R) : Option R :=
  br (decide (x1 = (bs [])))
  (k0 (65282 : Int) x2 x3)
  (br (decide (x0 = (bs [])))
   (k0 (0 : Int) x2 x3)
   (br ((Option.isSome (mfind (.pair .str .str) (.pair (.int .i64) .bool) x3 ((bs []) , x0))) == (Option.isSome (mfind (.pair .str .str) (.pair (.int .i64) .bool) x3 ((bs []) , x0))))
    (br (!(Option.isSome (mfind (.pair .str .str) (.pair (.int .i64) .bool) x3 ((bs []) , x0))))
     (k0 (65282 : Int) x2 x3)
     (br (!(Option.getD (mfind (.pair .str .str) (.pair (.int .i64) .bool) x3 ((bs []) , x0)) ((0 : Int) , false)).2)
      (k0 (65300 : Int) x2 x3)
      (k0 (0 : Int) x2 x3)))
    (none)))
noncomputable def tree_Tree_above_2de7 (N : Nat) {R : Type} (x0 : ByteArray) (x1 : ByteArray) (x2 : Int) (x3 : List (((ByteArray) × (ByteArray)) × ((Int) × (Bool)))) (k0 : (Int) → (Int) → (List (((ByteArray) × (ByteArray)) × ((Int) × (Bool)))) → Option R) : Option R := tree_Tree_above_2de7_T N x0 x1 x2 x3 k0
abbrev tree_Tree_get_fb98_Ty : Type 1 := {R : Type} → (ByteArray) → (Int) → (List (((ByteArray) × (ByteArray)) × ((Int) × (Bool)))) → ((Int) → (Bool) → (Int) → (Int) → (List (((ByteArray) × (ByteArray)) × ((Int) × (Bool)))) → Option R) → Option R
noncomputable def tree_Tree_get_fb98_T (N : Nat) (c0 : tree_Tree_above_2de7_Ty) (c1 : tree_of_Ty) {R : Type} (x0 : ByteArray) (x1 : Int) (x2 : List (((ByteArray) × (ByteArray)) × ((Int) × (Bool)))) (k0 : (Int) → (Bool) → (Int) → (Int) → (List (((ByteArray) × (ByteArray)) × ((Int) × (Bool)))) → Option R) : Option R :=
  c1 x0
  (fun s3955 s3956 => c0 s3955 s3956 x1 x2
   (fun i3957 i3958 l3959 => br (!(decide (i3957 = (0 : Int))))
    (k0 (0 : Int) false i3957 i3958 l3959)
    (br ((Option.isSome (mfind (.pair .str .str) (.pair (.int .i64) .bool) l3959 (s3955 , s3956))) == (Option.isSome (mfind (.pair .str .str) (.pair (.int .i64) .bool) l3959 (s3955 , s3956))))
     (br (!(Option.isSome (mfind (.pair .str .str) (.pair (.int .i64) .bool) l3959 (s3955 , s3956))))
      (k0 (0 : Int) false (65282 : Int) i3958 l3959)
      (k0 (Option.getD (mfind (.pair .str .str) (.pair (.int .i64) .bool) l3959 (s3955 , s3956)) ((0 : Int) , false)).1 (Option.getD (mfind (.pair .str .str) (.pair (.int .i64) .bool) l3959 (s3955 , s3956)) ((0 : Int) , false)).2 (0 : Int) i3958 l3959))
     (none))))
noncomputable def tree_Tree_get_fb98 (N : Nat) {R : Type} (x0 : ByteArray) (x1 : Int) (x2 : List (((ByteArray) × (ByteArray)) × ((Int) × (Bool)))) (k0 : (Int) → (Bool) → (Int) → (Int) → (List (((ByteArray) × (ByteArray)) × ((Int) × (Bool)))) → Option R) : Option R := tree_Tree_get_fb98_T N (@tree_Tree_above_2de7 N) (@tree_of N) x0 x1 x2 k0
abbrev tree_Tree_Find_fb98_Ty : Type 1 := {R : Type} → (ByteArray) → (Int) → (List (((ByteArray) × (ByteArray)) × ((Int) × (Bool)))) → ((Int) → (Bool) → (Int) → (Int) → (List (((ByteArray) × (ByteArray)) × ((Int) × (Bool)))) → Option R) → Option R
noncomputable def tree_Tree_Find_fb98_T (N : Nat) (c0 : tree_Tree_get_fb98_Ty) {R : Type} (x0 : ByteArray) (x1 : Int) (x2 : List (((ByteArray) × (ByteArray)) × ((Int) × (Bool)))) (k0 : (Int) → (Bool) → (Int) → (Int) → (List (((ByteArray) × (ByteArray)) × ((Int) × (Bool)))) → Option R) : Option R :=
  c0 x0 x1 x2
  (fun i3960 b3961 i3962 i3963 l3964 => br (!(decide (i3962 = (0 : Int))))
   (k0 (-1 : Int) false i3962 i3963 l3964)
   (k0 i3960 b3961 (0 : Int) i3963 l3964))
noncomputable def tree_Tree_Find_fb98 (N : Nat) {R : Type} (x0 : ByteArray) (x1 : Int) (x2 : List (((ByteArray) × (ByteArray)) × ((Int) × (Bool)))) (k0 : (Int) → (Bool) → (Int) → (Int) → (List (((ByteArray) × (ByteArray)) × ((Int) × (Bool)))) → Option R) : Option R := tree_Tree_Find_fb98_T N (@tree_Tree_get_fb98 N) x0 x1 x2 k0
abbrev slices_Index__int_int_9a75_l0_Ty : Type 1 := {R : Type} → ((Int) → (List (Int)) → (Int) → (List (((ByteArray) × (ByteArray)) × ((Int) × (Bool)))) → (List ((Int) × (List (Int)))) → (List ((Int) × (Int))) → Option R) → ((List (Int)) → (Int) → (List (((ByteArray) × (ByteArray)) × ((Int) × (Bool)))) → (List ((Int) × (List (Int)))) → (List ((Int) × (Int))) → Option R) → Nat → (Nat) → (Nat) → (Int) → (Int) → (Int) → (List (Int)) → (Int) → (List (((ByteArray) × (ByteArray)) × ((Int) × (Bool)))) → (List ((Int) × (List (Int)))) → (List ((Int) × (Int))) → Option R
abbrev slices_Index__int_int_9a75_Ty : Type 1 := {R : Type} → (Nat) → (Nat) → (Int) → (List (Int)) → (Int) → (List (((ByteArray) × (ByteArray)) × ((Int) × (Bool)))) → (List ((Int) × (List (Int)))) → (List ((Int) × (Int))) → ((Int) → (List (Int)) → (Int) → (List (((ByteArray) × (ByteArray)) × ((Int) × (Bool)))) → (List ((Int) × (List (Int)))) → (List ((Int) × (Int))) → Option R) → Option R
noncomputable def slices_Index__int_int_9a75_l0_T0 (N : Nat) {R : Type} (nx : (Nat) → (Nat) → (Int) → (Int) → (Int) → (List (Int)) → (Int) → (List (((ByteArray) × (ByteArray)) × ((Int) × (Bool)))) → (List ((Int) × (List (Int)))) → (List ((Int) × (Int))) → Option R) (k0 : (Int) → (List (Int)) → (Int) → (List (((ByteArray) × (ByteArray)) × ((Int) × (Bool)))) → (List ((Int) × (List (Int)))) → (List ((Int) × (Int))) → Option R) (k1 : (List (Int)) → (Int) → (List (((ByteArray) × (ByteArray)) × ((Int) × (Bool)))) → (List ((Int) × (List (Int)))) → (List ((Int) × (Int))) → Option R) (x0 : Nat) (x1 : Nat) (x2 : Int) (x3 : Int) (x4 : Int) (x5 : List (Int)) (x6 : Int) (x7 : List (((ByteArray) × (ByteArray)) × ((Int) × (Bool)))) (x8 : List ((Int) × (List (Int)))) (x9 : List ((Int) × (Int))) : Option R :=
  br (decide (x4 < x3))
  (br (inB x4 x0)
   (br (decide ((Int.toNat x4) < (4 : Nat)))
    (br (decide (x2 = (List.getD x5 (Int.toNat x4) (0 : Int))))
     (k0 x4 x5 x6 x7 x8 x9)
     (nx x0 x1 x2 x3 (IntKind.wrap .i64 (x4 + (1 : Int))) x5 x6 x7 x8 x9))
    (none))
   (none))
  (k1 x5 x6 x7 x8 x9)
noncomputable def slices_Index__int_int_9a75_l0 (N : Nat) {R : Type} (k0 : (Int) → (List (Int)) → (Int) → (List (((ByteArray) × (ByteArray)) × ((Int) × (Bool)))) → (List ((Int) × (List (Int)))) → (List ((Int) × (Int))) → Option R) (k1 : (List (Int)) → (Int) → (List (((ByteArray) × (ByteArray)) × ((Int) × (Bool)))) → (List ((Int) × (List (Int)))) → (List ((Int) × (Int))) → Option R) : Nat → (Nat) → (Nat) → (Int) → (Int) → (Int) → (List (Int)) → (Int) → (List (((ByteArray) × (ByteArray)) × ((Int) × (Bool)))) → (List ((Int) × (List (Int)))) → (List ((Int) × (Int))) → Option R
  | 0, _, _, _, _, _, _, _, _, _, _ => none
  | n + 1, x0, x1, x2, x3, x4, x5, x6, x7, x8, x9 => slices_Index__int_int_9a75_l0_T0 N (fun x0 x1 x2 x3 x4 x5 x6 x7 x8 x9 => slices_Index__int_int_9a75_l0 N k0 k1 n x0 x1 x2 x3 x4 x5 x6 x7 x8 x9) k0 k1 x0 x1 x2 x3 x4 x5 x6 x7 x8 x9
noncomputable def slices_Index__int_int_9a75_T (N : Nat) (w0 : slices_Index__int_int_9a75_l0_Ty) {R : Type} (x0 : Nat) (x1 : Nat) (x2 : Int) (x3 : List (Int)) (x4 : Int) (x5 : List (((ByteArray) × (ByteArray)) × ((Int) × (Bool)))) (x6 : List ((Int) × (List (Int)))) (x7 : List ((Int) × (Int))) (k0 : (Int) → (List (Int)) → (Int) → (List (((ByteArray) × (ByteArray)) × ((Int) × (Bool)))) → (List ((Int) × (List (Int)))) → (List ((Int) × (Int))) → Option R) : Option R :=
  w0
  (fun i3970 l3971 i3972 l3973 l3974 l3975 => k0 i3970 l3971 i3972 l3973 l3974 l3975)
  (fun l3976 i3977 l3978 l3979 l3980 => k0 (-1 : Int) l3976 i3977 l3978 l3979 l3980)
  N x0 x1 x2 (Nat.cast x0 : Int) (0 : Int) x3 x4 x5 x6 x7
noncomputable def slices_Index__int_int_9a75 (N : Nat) {R : Type} (x0 : Nat) (x1 : Nat) (x2 : Int) (x3 : List (Int)) (x4 : Int) (x5 : List (((ByteArray) × (ByteArray)) × ((Int) × (Bool)))) (x6 : List ((Int) × (List (Int)))) (x7 : List ((Int) × (Int))) (k0 : (Int) → (List (Int)) → (Int) → (List (((ByteArray) × (ByteArray)) × ((Int) × (Bool)))) → (List ((Int) × (List (Int)))) → (List ((Int) × (Int))) → Option R) : Option R := slices_Index__int_int_9a75_T N (@slices_Index__int_int_9a75_l0 N) x0 x1 x2 x3 x4 x5 x6 x7 k0
abbrev files_Files_free_18fa_Ty : Type 1 := {R : Type} → (List (Int)) → (Int) → (List (((ByteArray) × (ByteArray)) × ((Int) × (Bool)))) → (List ((Int) × (List (Int)))) → (List ((Int) × (Int))) → ((Int) → (Bool) → (List (Int)) → (Int) → (List (((ByteArray) × (ByteArray)) × ((Int) × (Bool)))) → (List ((Int) × (List (Int)))) → (List ((Int) × (Int))) → Option R) → Option R
noncomputable def files_Files_free_18fa_T (N : Nat) (c0 : slices_Index__int_int_9a75_Ty) {R : Type} (x0 : List (Int)) (x1 : Int) (x2 : List (((ByteArray) × (ByteArray)) × ((Int) × (Bool)))) (x3 : List ((Int) × (List (Int)))) (x4 : List ((Int) × (Int))) (k0 : (Int) → (Bool) → (List (Int)) → (Int) → (List (((ByteArray) × (ByteArray)) × ((Int) × (Bool)))) → (List ((Int) × (List (Int)))) → (List ((Int) × (Int))) → Option R) : Option R :=
  c0 (4 : Nat) (4 : Nat) (0 : Int) x0 x1 x2 x3 x4
  (fun i3981 l3982 i3983 l3984 l3985 l3986 => k0 i3981 (decide ((0 : Int) ≤ i3981)) l3982 i3983 l3984 l3985 l3986)
noncomputable def files_Files_free_18fa (N : Nat) {R : Type} (x0 : List (Int)) (x1 : Int) (x2 : List (((ByteArray) × (ByteArray)) × ((Int) × (Bool)))) (x3 : List ((Int) × (List (Int)))) (x4 : List ((Int) × (Int))) (k0 : (Int) → (Bool) → (List (Int)) → (Int) → (List (((ByteArray) × (ByteArray)) × ((Int) × (Bool)))) → (List ((Int) × (List (Int)))) → (List ((Int) × (Int))) → Option R) : Option R := files_Files_free_18fa_T N (@slices_Index__int_int_9a75 N) x0 x1 x2 x3 x4 k0
abbrev files_Files_Twin_Ty : Type 1 := {R : Type} → (Int) → ((Int) → Option R) → Option R
noncomputable def files_Files_Twin_T (N : Nat) (c0 : files_Files_file_Ty) (c1 : files_Files_file_b447_Ty) (c2 : files_Files_free_18fa_Ty) {R : Type} (x0 : Int) (k0 : (Int) → Option R) : Option R :=
  c0 x0
  (k0 (65289 : Int))
noncomputable def files_Files_Twin (N : Nat) {R : Type} (x0 : Int) (k0 : (Int) → Option R) : Option R := files_Files_Twin_T N (@files_Files_file N) (@files_Files_file_b447 N) (@files_Files_free_18fa N) x0 k0
abbrev files_Files_Twin_b447_Ty : Type 1 := {R : Type} → (Int) → (List (Int)) → (Int) → (List (((ByteArray) × (ByteArray)) × ((Int) × (Bool)))) → (List ((Int) × (List (Int)))) → (List ((Int) × (Int))) → ((Int) → (List (Int)) → (Int) → (List (((ByteArray) × (ByteArray)) × ((Int) × (Bool)))) → (List ((Int) × (List (Int)))) → (List ((Int) × (Int))) → Option R) → Option R
noncomputable def files_Files_Twin_b447_T (N : Nat) (c0 : files_Files_file_Ty) (c1 : files_Files_file_b447_Ty) (c2 : files_Files_free_18fa_Ty) {R : Type} (x0 : Int) (x1 : List (Int)) (x2 : Int) (x3 : List (((ByteArray) × (ByteArray)) × ((Int) × (Bool)))) (x4 : List ((Int) × (List (Int)))) (x5 : List ((Int) × (Int))) (k0 : (Int) → (List (Int)) → (Int) → (List (((ByteArray) × (ByteArray)) × ((Int) × (Bool)))) → (List ((Int) × (List (Int)))) → (List ((Int) × (Int))) → Option R) : Option R :=
  c1 x0 x1 x2 x3 x4 x5
  (fun l4911 i4912 l4913 l4914 l4915 => k0 (65289 : Int) l4911 i4912 l4913 l4914 l4915)
  (fun i4916 l4917 i4918 l4919 l4920 l4921 => c2 l4917 i4918 l4919 l4920 l4921
   (fun i4922 b4923 l4924 i4925 l4926 l4927 l4928 => br (!b4923)
    (k0 (65304 : Int) l4924 i4925 l4926 l4927 l4928)
    (br (inB x0 (4 : Nat))
     (br (decide ((Int.toNat x0) < (4 : Nat)))
      (br (inB i4922 (4 : Nat))
       (br (decide ((Int.toNat i4922) < (4 : Nat)))
        (k0 (IntKind.wrap .u16 i4922) (List.set l4924 (Int.toNat i4922) (List.getD l4924 (Int.toNat x0) (0 : Int))) i4925 l4926 l4927 l4928)
        (none))
       (none))
      (none))
     (none))))
noncomputable def files_Files_Twin_b447 (N : Nat) {R : Type} (x0 : Int) (x1 : List (Int)) (x2 : Int) (x3 : List (((ByteArray) × (ByteArray)) × ((Int) × (Bool)))) (x4 : List ((Int) × (List (Int)))) (x5 : List ((Int) × (Int))) (k0 : (Int) → (List (Int)) → (Int) → (List (((ByteArray) × (ByteArray)) × ((Int) × (Bool)))) → (List ((Int) × (List (Int)))) → (List ((Int) × (Int))) → Option R) : Option R := files_Files_Twin_b447_T N (@files_Files_file N) (@files_Files_file_b447 N) (@files_Files_free_18fa N) x0 x1 x2 x3 x4 x5 k0
abbrev maps_Clone_map_tree_keytree_entry_tree_key_tree_entry_df6b_Ty : Type 1 := {R : Type} → (List (((ByteArray) × (ByteArray)) × ((Int) × (Bool)))) → ((List (((ByteArray) × (ByteArray)) × ((Int) × (Bool)))) → (List (((ByteArray) × (ByteArray)) × ((Int) × (Bool)))) → Option R) → Option R
noncomputable def maps_Clone_map_tree_keytree_entry_tree_key_tree_entry_df6b {R : Type} (x0 : List (((ByteArray) × (ByteArray)) × ((Int) × (Bool)))) (k0 : (List (((ByteArray) × (ByteArray)) × ((Int) × (Bool)))) → (List (((ByteArray) × (ByteArray)) × ((Int) × (Bool)))) → Option R) : Option R := k0 x0 x0
abbrev tree_Tree_Copy_a28d_Ty : Type 1 := {R : Type} → (Int) → (List (((ByteArray) × (ByteArray)) × ((Int) × (Bool)))) → ((Int) → (List (((ByteArray) × (ByteArray)) × ((Int) × (Bool)))) → (Int) → (List (((ByteArray) × (ByteArray)) × ((Int) × (Bool)))) → Option R) → Option R
noncomputable def tree_Tree_Copy_a28d_T (N : Nat) (c0 : maps_Clone_map_tree_keytree_entry_tree_key_tree_entry_df6b_Ty) {R : Type} (x0 : Int) (x1 : List (((ByteArray) × (ByteArray)) × ((Int) × (Bool)))) (k0 : (Int) → (List (((ByteArray) × (ByteArray)) × ((Int) × (Bool)))) → (Int) → (List (((ByteArray) × (ByteArray)) × ((Int) × (Bool)))) → Option R) : Option R :=
  c0 x1
  (fun l3994 l3995 => br (decide (x0 = x0))
   (k0 x0 l3994 x0 l3995)
   (none))
noncomputable def tree_Tree_Copy_a28d (N : Nat) {R : Type} (x0 : Int) (x1 : List (((ByteArray) × (ByteArray)) × ((Int) × (Bool)))) (k0 : (Int) → (List (((ByteArray) × (ByteArray)) × ((Int) × (Bool)))) → (Int) → (List (((ByteArray) × (ByteArray)) × ((Int) × (Bool)))) → Option R) : Option R := tree_Tree_Copy_a28d_T N @maps_Clone_map_tree_keytree_entry_tree_key_tree_entry_df6b x0 x1 k0
abbrev tree_Tree_Make_c502_Ty : Type 1 := {R : Type} → (ByteArray) → (Bool) → (Int) → (List (((ByteArray) × (ByteArray)) × ((Int) × (Bool)))) → ((Int) → (Int) → (Int) → (List (((ByteArray) × (ByteArray)) × ((Int) × (Bool)))) → Option R) → Option R
noncomputable def tree_Tree_Make_c502_T (N : Nat) (c0 : tree_Tree_above_2de7_Ty) (c1 : tree_of_Ty) {R : Type} (x0 : ByteArray) (x1 : Bool) (x2 : Int) (x3 : List (((ByteArray) × (ByteArray)) × ((Int) × (Bool)))) (k0 : (Int) → (Int) → (Int) → (List (((ByteArray) × (ByteArray)) × ((Int) × (Bool)))) → Option R) : Option R :=
  c1 x0
  (fun s4000 s4001 => c0 s4000 s4001 x2 x3
   (fun i4002 i4003 l4004 => br (!(decide (i4002 = (0 : Int))))
    (k0 (-1 : Int) i4002 i4003 l4004)
    (br ((Option.isSome (mfind (.pair .str .str) (.pair (.int .i64) .bool) l4004 (s4000 , s4001))) == (Option.isSome (mfind (.pair .str .str) (.pair (.int .i64) .bool) l4004 (s4000 , s4001))))
     (br (Option.isSome (mfind (.pair .str .str) (.pair (.int .i64) .bool) l4004 (s4000 , s4001)))
      (k0 (-1 : Int) (65297 : Int) i4003 l4004)
      (br x1
       (br (!(decide (s4000 = (bs []))))
        (k0 (-1 : Int) (65302 : Int) i4003 l4004)
        (br (decide ((8 : Int) ≤ (Nat.cast (List.length l4004) : Int)))
         (k0 (-1 : Int) (65308 : Int) i4003 l4004)
         (k0 (IntKind.wrap .i64 ((IntKind.wrap .i64 (i4003 + (1 : Int))) - (1 : Int))) (0 : Int) (IntKind.wrap .i64 (i4003 + (1 : Int))) (mput (.pair .str .str) (.pair (.int .i64) .bool) l4004 (s4000 , s4001) (i4003 , x1)))))
       (br (decide ((8 : Int) ≤ (Nat.cast (List.length l4004) : Int)))
        (k0 (-1 : Int) (65308 : Int) i4003 l4004)
        (k0 (IntKind.wrap .i64 ((IntKind.wrap .i64 (i4003 + (1 : Int))) - (1 : Int))) (0 : Int) (IntKind.wrap .i64 (i4003 + (1 : Int))) (mput (.pair .str .str) (.pair (.int .i64) .bool) l4004 (s4000 , s4001) (i4003 , x1))))))
     (none))))
noncomputable def tree_Tree_Make_c502 (N : Nat) {R : Type} (x0 : ByteArray) (x1 : Bool) (x2 : Int) (x3 : List (((ByteArray) × (ByteArray)) × ((Int) × (Bool)))) (k0 : (Int) → (Int) → (Int) → (List (((ByteArray) × (ByteArray)) × ((Int) × (Bool)))) → Option R) : Option R := tree_Tree_Make_c502_T N (@tree_Tree_above_2de7 N) (@tree_of N) x0 x1 x2 x3 k0
abbrev files_Files_Mkdir_Ty : Type 1 := {R : Type} → (ByteArray) → ((Int) → Option R) → Option R
noncomputable def files_Files_Mkdir_T (N : Nat) (c0 : tree_Tree_Make_c502_Ty) {R : Type} (x0 : ByteArray) (k0 : (Int) → Option R) : Option R :=
  k0 (0 : Int)
noncomputable def files_Files_Mkdir (N : Nat) {R : Type} (x0 : ByteArray) (k0 : (Int) → Option R) : Option R := files_Files_Mkdir_T N (@tree_Tree_Make_c502 N) x0 k0
abbrev files_Files_Mkdir_f601_Ty : Type 1 := {R : Type} → (ByteArray) → (List (Int)) → (Int) → (List (((ByteArray) × (ByteArray)) × ((Int) × (Bool)))) → (List ((Int) × (List (Int)))) → (List ((Int) × (Int))) → ((Int) → (List (Int)) → (Int) → (List (((ByteArray) × (ByteArray)) × ((Int) × (Bool)))) → (List ((Int) × (List (Int)))) → (List ((Int) × (Int))) → Option R) → Option R
noncomputable def files_Files_Mkdir_f601_T (N : Nat) (c0 : tree_Tree_Make_c502_Ty) {R : Type} (x0 : ByteArray) (x1 : List (Int)) (x2 : Int) (x3 : List (((ByteArray) × (ByteArray)) × ((Int) × (Bool)))) (x4 : List ((Int) × (List (Int)))) (x5 : List ((Int) × (Int))) (k0 : (Int) → (List (Int)) → (Int) → (List (((ByteArray) × (ByteArray)) × ((Int) × (Bool)))) → (List ((Int) × (List (Int)))) → (List ((Int) × (Int))) → Option R) : Option R :=
  c0 x0 true x2 x3
  (fun i4364 i4365 i4366 l4367 => k0 i4365 x1 i4366 l4367 x4 x5)
noncomputable def files_Files_Mkdir_f601 (N : Nat) {R : Type} (x0 : ByteArray) (x1 : List (Int)) (x2 : Int) (x3 : List (((ByteArray) × (ByteArray)) × ((Int) × (Bool)))) (x4 : List ((Int) × (List (Int)))) (x5 : List ((Int) × (Int))) (k0 : (Int) → (List (Int)) → (Int) → (List (((ByteArray) × (ByteArray)) × ((Int) × (Bool)))) → (List ((Int) × (List (Int)))) → (List ((Int) × (Int))) → Option R) : Option R := files_Files_Mkdir_f601_T N (@tree_Tree_Make_c502 N) x0 x1 x2 x3 x4 x5 k0
abbrev files_Files_may_f601_Ty : Type 1 := {R : Type} → (ByteArray) → (List (Int)) → (Int) → (List (((ByteArray) × (ByteArray)) × ((Int) × (Bool)))) → (List ((Int) × (List (Int)))) → (List ((Int) × (Int))) → ((Bool) → (List (Int)) → (Int) → (List (((ByteArray) × (ByteArray)) × ((Int) × (Bool)))) → (List ((Int) × (List (Int)))) → (List ((Int) × (Int))) → Option R) → Option R
noncomputable def files_Files_may_f601_T (N : Nat) (c0 : tree_Tree_Make_c502_Ty) (c1 : tree_Tree_Copy_a28d_Ty) {R : Type} (x0 : ByteArray) (x1 : List (Int)) (x2 : Int) (x3 : List (((ByteArray) × (ByteArray)) × ((Int) × (Bool)))) (x4 : List ((Int) × (List (Int)))) (x5 : List ((Int) × (Int))) (k0 : (Bool) → (List (Int)) → (Int) → (List (((ByteArray) × (ByteArray)) × ((Int) × (Bool)))) → (List ((Int) × (List (Int)))) → (List ((Int) × (Int))) → Option R) : Option R :=
  c1 x2 x3
  (fun i3996 l3997 i3998 l3999 => c0 x0 false i3998 l3999
   (fun i4005 i4006 i4007 l4008 => k0 (!(decide (i4006 = (65282 : Int)))) x1 i3996 l3997 x4 x5))
noncomputable def files_Files_may_f601 (N : Nat) {R : Type} (x0 : ByteArray) (x1 : List (Int)) (x2 : Int) (x3 : List (((ByteArray) × (ByteArray)) × ((Int) × (Bool)))) (x4 : List ((Int) × (List (Int)))) (x5 : List ((Int) × (Int))) (k0 : (Bool) → (List (Int)) → (Int) → (List (((ByteArray) × (ByteArray)) × ((Int) × (Bool)))) → (List ((Int) × (List (Int)))) → (List ((Int) × (Int))) → Option R) : Option R := files_Files_may_f601_T N (@tree_Tree_Make_c502 N) (@tree_Tree_Copy_a28d N) x0 x1 x2 x3 x4 x5 k0
abbrev files_Files_Open_Ty : Type 1 := {R : Type} → (ByteArray) → ((Int) → Option R) → Option R
noncomputable def files_Files_Open_T (N : Nat) (c0 : tree_Tree_Make_c502_Ty) (c1 : files_Files_may_f601_Ty) (c2 : files_Files_free_18fa_Ty) (c3 : tree_Tree_Find_fb98_Ty) {R : Type} (x0 : ByteArray) (k0 : (Int) → Option R) : Option R :=
  k0 (0 : Int)
noncomputable def files_Files_Open (N : Nat) {R : Type} (x0 : ByteArray) (k0 : (Int) → Option R) : Option R := files_Files_Open_T N (@tree_Tree_Make_c502 N) (@files_Files_may_f601 N) (@files_Files_free_18fa N) (@tree_Tree_Find_fb98 N) x0 k0
abbrev files_Files_Open_f601_Ty : Type 1 := {R : Type} → (ByteArray) → (List (Int)) → (Int) → (List (((ByteArray) × (ByteArray)) × ((Int) × (Bool)))) → (List ((Int) × (List (Int)))) → (List ((Int) × (Int))) → ((Int) → (List (Int)) → (Int) → (List (((ByteArray) × (ByteArray)) × ((Int) × (Bool)))) → (List ((Int) × (List (Int)))) → (List ((Int) × (Int))) → Option R) → Option R
noncomputable def files_Files_Open_f601_T (N : Nat) (c0 : tree_Tree_Make_c502_Ty) (c1 : files_Files_may_f601_Ty) (c2 : files_Files_free_18fa_Ty) (c3 : tree_Tree_Find_fb98_Ty) {R : Type} (x0 : ByteArray) (x1 : List (Int)) (x2 : Int) (x3 : List (((ByteArray) × (ByteArray)) × ((Int) × (Bool)))) (x4 : List ((Int) × (List (Int)))) (x5 : List ((Int) × (Int))) (k0 : (Int) → (List (Int)) → (Int) → (List (((ByteArray) × (ByteArray)) × ((Int) × (Bool)))) → (List ((Int) × (List (Int)))) → (List ((Int) × (Int))) → Option R) : Option R :=
  c3 x0 x2 x3
  (fun i4019 b4020 i4021 i4022 l4023 => c2 x1 i4022 l4023 x4 x5
   (fun i4024 b4025 l4026 i4027 l4028 l4029 l4030 => br (decide (i4021 = (0 : Int)))
    (br b4020
     (k0 (65301 : Int) l4026 i4027 l4028 l4029 l4030)
     (br (decide (i4021 = (65300 : Int)))
      (k0 i4021 l4026 i4027 l4028 l4029 l4030)
      (br (!(decide (i4021 = (0 : Int))))
       (c1 x0 l4026 i4027 l4028 l4029 l4030
        (fun b4031 l4032 i4033 l4034 l4035 l4036 => br (!b4031)
         (k0 (65282 : Int) l4032 i4033 l4034 l4035 l4036)
         (br (!b4025)
          (k0 (65304 : Int) l4032 i4033 l4034 l4035 l4036)
          (br (!(decide (i4021 = (0 : Int))))
           (c0 x0 false i4033 l4034
            (fun i4037 i4038 i4039 l4040 => br (!(decide (i4038 = (0 : Int))))
             (k0 i4038 l4032 i4039 l4040 l4035 l4036)
             (br (((fits (0 : Nat) (List.length l4036) l4036) && (decide ((((List.length l4036) + (1 : Nat)) * (16 : Nat)) ≤ (70368744177664 : Nat)))) && true)
              (br (inB i4024 (4 : Nat))
               (br (decide ((Int.toNat i4024) < (4 : Nat)))
                (k0 (IntKind.wrap .u16 i4024) (List.set l4032 (Int.toNat i4024) (Nat.cast ((List.length l4036) + (1 : Nat)) : Int)) i4039 l4040 l4035 ((sub l4036 (0 : Nat) (List.length l4036)) ++ ((i4037 , (0 : Int)) :: ([] : List (((Sh.int IntKind.i64).pair (Sh.int IntKind.i64)).T)))))
                (none))
               (none))
              (none))))
           (br (((fits (0 : Nat) (List.length l4036) l4036) && (decide ((((List.length l4036) + (1 : Nat)) * (16 : Nat)) ≤ (70368744177664 : Nat)))) && true)
            (br (inB i4024 (4 : Nat))
             (br (decide ((Int.toNat i4024) < (4 : Nat)))
              (k0 (IntKind.wrap .u16 i4024) (List.set l4032 (Int.toNat i4024) (Nat.cast ((List.length l4036) + (1 : Nat)) : Int)) i4033 l4034 l4035 ((sub l4036 (0 : Nat) (List.length l4036)) ++ ((i4019 , (0 : Int)) :: ([] : List (((Sh.int IntKind.i64).pair (Sh.int IntKind.i64)).T)))))
              (none))
             (none))
            (none))))))
       (br (!b4025)
        (k0 (65304 : Int) l4026 i4027 l4028 l4029 l4030)
        (br (!(decide (i4021 = (0 : Int))))
         (c0 x0 false i4027 l4028
          (fun i4041 i4042 i4043 l4044 => br (!(decide (i4042 = (0 : Int))))
           (k0 i4042 l4026 i4043 l4044 l4029 l4030)
           (br (((fits (0 : Nat) (List.length l4030) l4030) && (decide ((((List.length l4030) + (1 : Nat)) * (16 : Nat)) ≤ (70368744177664 : Nat)))) && true)
            (br (inB i4024 (4 : Nat))
             (br (decide ((Int.toNat i4024) < (4 : Nat)))
              (k0 (IntKind.wrap .u16 i4024) (List.set l4026 (Int.toNat i4024) (Nat.cast ((List.length l4030) + (1 : Nat)) : Int)) i4043 l4044 l4029 ((sub l4030 (0 : Nat) (List.length l4030)) ++ ((i4041 , (0 : Int)) :: ([] : List (((Sh.int IntKind.i64).pair (Sh.int IntKind.i64)).T)))))
              (none))
             (none))
            (none))))
         (br (((fits (0 : Nat) (List.length l4030) l4030) && (decide ((((List.length l4030) + (1 : Nat)) * (16 : Nat)) ≤ (70368744177664 : Nat)))) && true)
          (br (inB i4024 (4 : Nat))
           (br (decide ((Int.toNat i4024) < (4 : Nat)))
            (k0 (IntKind.wrap .u16 i4024) (List.set l4026 (Int.toNat i4024) (Nat.cast ((List.length l4030) + (1 : Nat)) : Int)) i4027 l4028 l4029 ((sub l4030 (0 : Nat) (List.length l4030)) ++ ((i4019 , (0 : Int)) :: ([] : List (((Sh.int IntKind.i64).pair (Sh.int IntKind.i64)).T)))))
            (none))
           (none))
          (none)))))))
    (br (decide (i4021 = (65300 : Int)))
     (k0 i4021 l4026 i4027 l4028 l4029 l4030)
     (br (!(decide (i4021 = (0 : Int))))
      (c1 x0 l4026 i4027 l4028 l4029 l4030
       (fun b4045 l4046 i4047 l4048 l4049 l4050 => br (!b4045)
        (k0 (65282 : Int) l4046 i4047 l4048 l4049 l4050)
        (br (!b4025)
         (k0 (65304 : Int) l4046 i4047 l4048 l4049 l4050)
         (br (!(decide (i4021 = (0 : Int))))
          (c0 x0 false i4047 l4048
           (fun i4051 i4052 i4053 l4054 => br (!(decide (i4052 = (0 : Int))))
            (k0 i4052 l4046 i4053 l4054 l4049 l4050)
            (br (((fits (0 : Nat) (List.length l4050) l4050) && (decide ((((List.length l4050) + (1 : Nat)) * (16 : Nat)) ≤ (70368744177664 : Nat)))) && true)
             (br (inB i4024 (4 : Nat))
              (br (decide ((Int.toNat i4024) < (4 : Nat)))
               (k0 (IntKind.wrap .u16 i4024) (List.set l4046 (Int.toNat i4024) (Nat.cast ((List.length l4050) + (1 : Nat)) : Int)) i4053 l4054 l4049 ((sub l4050 (0 : Nat) (List.length l4050)) ++ ((i4051 , (0 : Int)) :: ([] : List (((Sh.int IntKind.i64).pair (Sh.int IntKind.i64)).T)))))
               (none))
              (none))
             (none))))
          (br (((fits (0 : Nat) (List.length l4050) l4050) && (decide ((((List.length l4050) + (1 : Nat)) * (16 : Nat)) ≤ (70368744177664 : Nat)))) && true)
           (br (inB i4024 (4 : Nat))
            (br (decide ((Int.toNat i4024) < (4 : Nat)))
             (k0 (IntKind.wrap .u16 i4024) (List.set l4046 (Int.toNat i4024) (Nat.cast ((List.length l4050) + (1 : Nat)) : Int)) i4047 l4048 l4049 ((sub l4050 (0 : Nat) (List.length l4050)) ++ ((i4019 , (0 : Int)) :: ([] : List (((Sh.int IntKind.i64).pair (Sh.int IntKind.i64)).T)))))
             (none))
            (none))
           (none))))))
      (br (!b4025)
       (k0 (65304 : Int) l4026 i4027 l4028 l4029 l4030)
       (br (!(decide (i4021 = (0 : Int))))
        (c0 x0 false i4027 l4028
         (fun i4055 i4056 i4057 l4058 => br (!(decide (i4056 = (0 : Int))))
          (k0 i4056 l4026 i4057 l4058 l4029 l4030)
          (br (((fits (0 : Nat) (List.length l4030) l4030) && (decide ((((List.length l4030) + (1 : Nat)) * (16 : Nat)) ≤ (70368744177664 : Nat)))) && true)
           (br (inB i4024 (4 : Nat))
            (br (decide ((Int.toNat i4024) < (4 : Nat)))
             (k0 (IntKind.wrap .u16 i4024) (List.set l4026 (Int.toNat i4024) (Nat.cast ((List.length l4030) + (1 : Nat)) : Int)) i4057 l4058 l4029 ((sub l4030 (0 : Nat) (List.length l4030)) ++ ((i4055 , (0 : Int)) :: ([] : List (((Sh.int IntKind.i64).pair (Sh.int IntKind.i64)).T)))))
             (none))
            (none))
           (none))))
        (br (((fits (0 : Nat) (List.length l4030) l4030) && (decide ((((List.length l4030) + (1 : Nat)) * (16 : Nat)) ≤ (70368744177664 : Nat)))) && true)
         (br (inB i4024 (4 : Nat))
          (br (decide ((Int.toNat i4024) < (4 : Nat)))
           (k0 (IntKind.wrap .u16 i4024) (List.set l4026 (Int.toNat i4024) (Nat.cast ((List.length l4030) + (1 : Nat)) : Int)) i4027 l4028 l4029 ((sub l4030 (0 : Nat) (List.length l4030)) ++ ((i4019 , (0 : Int)) :: ([] : List (((Sh.int IntKind.i64).pair (Sh.int IntKind.i64)).T)))))
           (none))
          (none))
         (none))))))))
noncomputable def files_Files_Open_f601 (N : Nat) {R : Type} (x0 : ByteArray) (x1 : List (Int)) (x2 : Int) (x3 : List (((ByteArray) × (ByteArray)) × ((Int) × (Bool)))) (x4 : List ((Int) × (List (Int)))) (x5 : List ((Int) × (Int))) (k0 : (Int) → (List (Int)) → (Int) → (List (((ByteArray) × (ByteArray)) × ((Int) × (Bool)))) → (List ((Int) × (List (Int)))) → (List ((Int) × (Int))) → Option R) : Option R := files_Files_Open_f601_T N (@tree_Tree_Make_c502 N) (@files_Files_may_f601 N) (@files_Files_free_18fa N) (@tree_Tree_Find_fb98 N) x0 x1 x2 x3 x4 x5 k0
abbrev tree_Tree_many_fb98_Ty : Type 1 := {R : Type} → (ByteArray) → (Int) → (List (((ByteArray) × (ByteArray)) × ((Int) × (Bool)))) → Option R
noncomputable def tree_Tree_many_fb98_T (N : Nat) {R : Type} (x0 : ByteArray) (x1 : Int) (x2 : List (((ByteArray) × (ByteArray)) × ((Int) × (Bool)))) : Option R :=
  none
noncomputable def tree_Tree_many_fb98 (N : Nat) {R : Type} (x0 : ByteArray) (x1 : Int) (x2 : List (((ByteArray) × (ByteArray)) × ((Int) × (Bool)))) : Option R := tree_Tree_many_fb98_T N x0 x1 x2
abbrev tree_Tree_Drop_c502_Ty : Type 1 := {R : Type} → (ByteArray) → (Bool) → (Int) → (List (((ByteArray) × (ByteArray)) × ((Int) × (Bool)))) → ((Int) → (Int) → (List (((ByteArray) × (ByteArray)) × ((Int) × (Bool)))) → Option R) → Option R
noncomputable def tree_Tree_Drop_c502_T (N : Nat) (c0 : tree_of_Ty) (c1 : tree_Tree_many_fb98_Ty) (c2 : tree_Tree_get_fb98_Ty) {R : Type} (x0 : ByteArray) (x1 : Bool) (x2 : Int) (x3 : List (((ByteArray) × (ByteArray)) × ((Int) × (Bool)))) (k0 : (Int) → (Int) → (List (((ByteArray) × (ByteArray)) × ((Int) × (Bool)))) → Option R) : Option R :=
  c2 x0 x2 x3
  (fun i4120 b4121 i4122 i4123 l4124 => br (!(decide (i4122 = (0 : Int))))
   (k0 i4122 i4123 l4124)
   (br (!x1)
    (br b4121
     (k0 (65301 : Int) i4123 l4124)
     (br x1
      (br (!b4121)
       (k0 (65300 : Int) i4123 l4124)
       (br x1
        (c1 x0 i4123 l4124)
        (c0 x0
         (fun s4125 s4126 => k0 (0 : Int) i4123 (mdel (.pair .str .str) (.pair (.int .i64) .bool) l4124 (s4125 , s4126))))))
      (br x1
       (c1 x0 i4123 l4124)
       (c0 x0
        (fun s4127 s4128 => k0 (0 : Int) i4123 (mdel (.pair .str .str) (.pair (.int .i64) .bool) l4124 (s4127 , s4128)))))))
    (br x1
     (br (!b4121)
      (k0 (65300 : Int) i4123 l4124)
      (br x1
       (c1 x0 i4123 l4124)
       (c0 x0
        (fun s4129 s4130 => k0 (0 : Int) i4123 (mdel (.pair .str .str) (.pair (.int .i64) .bool) l4124 (s4129 , s4130))))))
     (br x1
      (c1 x0 i4123 l4124)
      (c0 x0
       (fun s4131 s4132 => k0 (0 : Int) i4123 (mdel (.pair .str .str) (.pair (.int .i64) .bool) l4124 (s4131 , s4132))))))))
noncomputable def tree_Tree_Drop_c502 (N : Nat) {R : Type} (x0 : ByteArray) (x1 : Bool) (x2 : Int) (x3 : List (((ByteArray) × (ByteArray)) × ((Int) × (Bool)))) (k0 : (Int) → (Int) → (List (((ByteArray) × (ByteArray)) × ((Int) × (Bool)))) → Option R) : Option R := tree_Tree_Drop_c502_T N (@tree_of N) (@tree_Tree_many_fb98 N) (@tree_Tree_get_fb98 N) x0 x1 x2 x3 k0
abbrev files_Files_Unlink_Ty : Type 1 := {R : Type} → (ByteArray) → ((Int) → Option R) → Option R
noncomputable def files_Files_Unlink_T (N : Nat) (c0 : tree_Tree_Drop_c502_Ty) {R : Type} (x0 : ByteArray) (k0 : (Int) → Option R) : Option R :=
  k0 (0 : Int)
noncomputable def files_Files_Unlink (N : Nat) {R : Type} (x0 : ByteArray) (k0 : (Int) → Option R) : Option R := files_Files_Unlink_T N (@tree_Tree_Drop_c502 N) x0 k0
abbrev files_Files_Unlink_f601_Ty : Type 1 := {R : Type} → (ByteArray) → (List (Int)) → (Int) → (List (((ByteArray) × (ByteArray)) × ((Int) × (Bool)))) → (List ((Int) × (List (Int)))) → (List ((Int) × (Int))) → ((Int) → (List (Int)) → (Int) → (List (((ByteArray) × (ByteArray)) × ((Int) × (Bool)))) → (List ((Int) × (List (Int)))) → (List ((Int) × (Int))) → Option R) → Option R
noncomputable def files_Files_Unlink_f601_T (N : Nat) (c0 : tree_Tree_Drop_c502_Ty) {R : Type} (x0 : ByteArray) (x1 : List (Int)) (x2 : Int) (x3 : List (((ByteArray) × (ByteArray)) × ((Int) × (Bool)))) (x4 : List ((Int) × (List (Int)))) (x5 : List ((Int) × (Int))) (k0 : (Int) → (List (Int)) → (Int) → (List (((ByteArray) × (ByteArray)) × ((Int) × (Bool)))) → (List ((Int) × (List (Int)))) → (List ((Int) × (Int))) → Option R) : Option R :=
  c0 x0 false x2 x3
  (fun i4133 i4134 l4135 => k0 i4133 x1 i4134 l4135 x4 x5)
noncomputable def files_Files_Unlink_f601 (N : Nat) {R : Type} (x0 : ByteArray) (x1 : List (Int)) (x2 : Int) (x3 : List (((ByteArray) × (ByteArray)) × ((Int) × (Bool)))) (x4 : List ((Int) × (List (Int)))) (x5 : List ((Int) × (Int))) (k0 : (Int) → (List (Int)) → (Int) → (List (((ByteArray) × (ByteArray)) × ((Int) × (Bool)))) → (List ((Int) × (List (Int)))) → (List ((Int) × (Int))) → Option R) : Option R := files_Files_Unlink_f601_T N (@tree_Tree_Drop_c502 N) x0 x1 x2 x3 x4 x5 k0
abbrev files_Files_Rmdir_Ty : Type 1 := {R : Type} → (ByteArray) → ((Int) → Option R) → Option R
noncomputable def files_Files_Rmdir_T (N : Nat) (c0 : tree_Tree_Drop_c502_Ty) {R : Type} (x0 : ByteArray) (k0 : (Int) → Option R) : Option R :=
  k0 (0 : Int)
noncomputable def files_Files_Rmdir (N : Nat) {R : Type} (x0 : ByteArray) (k0 : (Int) → Option R) : Option R := files_Files_Rmdir_T N (@tree_Tree_Drop_c502 N) x0 k0
abbrev files_Files_Rmdir_f601_Ty : Type 1 := {R : Type} → (ByteArray) → (List (Int)) → (Int) → (List (((ByteArray) × (ByteArray)) × ((Int) × (Bool)))) → (List ((Int) × (List (Int)))) → (List ((Int) × (Int))) → ((Int) → (List (Int)) → (Int) → (List (((ByteArray) × (ByteArray)) × ((Int) × (Bool)))) → (List ((Int) × (List (Int)))) → (List ((Int) × (Int))) → Option R) → Option R
noncomputable def files_Files_Rmdir_f601_T (N : Nat) (c0 : tree_Tree_Drop_c502_Ty) {R : Type} (x0 : ByteArray) (x1 : List (Int)) (x2 : Int) (x3 : List (((ByteArray) × (ByteArray)) × ((Int) × (Bool)))) (x4 : List ((Int) × (List (Int)))) (x5 : List ((Int) × (Int))) (k0 : (Int) → (List (Int)) → (Int) → (List (((ByteArray) × (ByteArray)) × ((Int) × (Bool)))) → (List ((Int) × (List (Int)))) → (List ((Int) × (Int))) → Option R) : Option R :=
  c0 x0 true x2 x3
  (fun i4411 i4412 l4413 => k0 i4411 x1 i4412 l4413 x4 x5)
noncomputable def files_Files_Rmdir_f601 (N : Nat) {R : Type} (x0 : ByteArray) (x1 : List (Int)) (x2 : Int) (x3 : List (((ByteArray) × (ByteArray)) × ((Int) × (Bool)))) (x4 : List ((Int) × (List (Int)))) (x5 : List ((Int) × (Int))) (k0 : (Int) → (List (Int)) → (Int) → (List (((ByteArray) × (ByteArray)) × ((Int) × (Bool)))) → (List ((Int) × (List (Int)))) → (List ((Int) × (Int))) → Option R) : Option R := files_Files_Rmdir_f601_T N (@tree_Tree_Drop_c502 N) x0 x1 x2 x3 x4 x5 k0
abbrev tree_Tree_Move_f9be_Ty : Type 1 := {R : Type} → (ByteArray) → (ByteArray) → (Int) → (List (((ByteArray) × (ByteArray)) × ((Int) × (Bool)))) → ((Int) → (Int) → (Int) → (List (((ByteArray) × (ByteArray)) × ((Int) × (Bool)))) → Option R) → Option R
noncomputable def tree_Tree_Move_f9be_T (N : Nat) (c0 : tree_Tree_above_2de7_Ty) (c1 : tree_of_Ty) (c2 : tree_Tree_get_fb98_Ty) {R : Type} (x0 : ByteArray) (x1 : ByteArray) (x2 : Int) (x3 : List (((ByteArray) × (ByteArray)) × ((Int) × (Bool)))) (k0 : (Int) → (Int) → (Int) → (List (((ByteArray) × (ByteArray)) × ((Int) × (Bool)))) → Option R) : Option R :=
  c2 x0 x2 x3
  (fun i4284 b4285 i4286 i4287 l4288 => br (decide (i4286 = (0 : Int)))
   (br b4285
    (c1 x1
     (fun s4289 s4290 => k0 (-1 : Int) (65301 : Int) i4287 l4288))
    (c1 x1
     (fun s4291 s4292 => br (decide (i4286 = (0 : Int)))
      (c0 s4291 s4292 i4287 l4288
       (fun i4293 i4294 l4295 => br (!(!(decide (i4293 = (0 : Int)))))
        (br (decide (x0 = x1))
         (k0 (-1 : Int) i4293 i4294 l4295)
         (br ((Option.isSome (mfind (.pair .str .str) (.pair (.int .i64) .bool) l4295 (s4291 , s4292))) == (Option.isSome (mfind (.pair .str .str) (.pair (.int .i64) .bool) l4295 (s4291 , s4292))))
          (br (Option.isSome (mfind (.pair .str .str) (.pair (.int .i64) .bool) l4295 (s4291 , s4292)))
           (br (Option.getD (mfind (.pair .str .str) (.pair (.int .i64) .bool) l4295 (s4291 , s4292)) ((0 : Int) , false)).2
            (k0 (-1 : Int) (65301 : Int) i4294 l4295)
            (c1 x0
             (fun s4296 s4297 => br (!(Option.isSome (mfind (.pair .str .str) (.pair (.int .i64) .bool) l4295 (s4291 , s4292))))
              (k0 (-1 : Int) (0 : Int) i4294 (mput (.pair .str .str) (.pair (.int .i64) .bool) (mdel (.pair .str .str) (.pair (.int .i64) .bool) l4295 (s4296 , s4297)) (s4291 , s4292) (i4284 , b4285)))
              (k0 (Option.getD (mfind (.pair .str .str) (.pair (.int .i64) .bool) l4295 (s4291 , s4292)) ((0 : Int) , false)).1 (0 : Int) i4294 (mput (.pair .str .str) (.pair (.int .i64) .bool) (mdel (.pair .str .str) (.pair (.int .i64) .bool) l4295 (s4296 , s4297)) (s4291 , s4292) (i4284 , b4285))))))
           (c1 x0
            (fun s4298 s4299 => br (!(Option.isSome (mfind (.pair .str .str) (.pair (.int .i64) .bool) l4295 (s4291 , s4292))))
             (k0 (-1 : Int) (0 : Int) i4294 (mput (.pair .str .str) (.pair (.int .i64) .bool) (mdel (.pair .str .str) (.pair (.int .i64) .bool) l4295 (s4298 , s4299)) (s4291 , s4292) (i4284 , b4285)))
             (k0 (Option.getD (mfind (.pair .str .str) (.pair (.int .i64) .bool) l4295 (s4291 , s4292)) ((0 : Int) , false)).1 (0 : Int) i4294 (mput (.pair .str .str) (.pair (.int .i64) .bool) (mdel (.pair .str .str) (.pair (.int .i64) .bool) l4295 (s4298 , s4299)) (s4291 , s4292) (i4284 , b4285))))))
          (none)))
        (k0 (-1 : Int) i4293 i4294 l4295)))
      (br (!(!(decide (i4286 = (0 : Int)))))
       (br (decide (x0 = x1))
        (k0 (-1 : Int) i4286 i4287 l4288)
        (br ((Option.isSome (mfind (.pair .str .str) (.pair (.int .i64) .bool) l4288 (s4291 , s4292))) == (Option.isSome (mfind (.pair .str .str) (.pair (.int .i64) .bool) l4288 (s4291 , s4292))))
         (br (Option.isSome (mfind (.pair .str .str) (.pair (.int .i64) .bool) l4288 (s4291 , s4292)))
          (br (Option.getD (mfind (.pair .str .str) (.pair (.int .i64) .bool) l4288 (s4291 , s4292)) ((0 : Int) , false)).2
           (k0 (-1 : Int) (65301 : Int) i4287 l4288)
           (c1 x0
            (fun s4300 s4301 => br (!(Option.isSome (mfind (.pair .str .str) (.pair (.int .i64) .bool) l4288 (s4291 , s4292))))
             (k0 (-1 : Int) (0 : Int) i4287 (mput (.pair .str .str) (.pair (.int .i64) .bool) (mdel (.pair .str .str) (.pair (.int .i64) .bool) l4288 (s4300 , s4301)) (s4291 , s4292) (i4284 , b4285)))
             (k0 (Option.getD (mfind (.pair .str .str) (.pair (.int .i64) .bool) l4288 (s4291 , s4292)) ((0 : Int) , false)).1 (0 : Int) i4287 (mput (.pair .str .str) (.pair (.int .i64) .bool) (mdel (.pair .str .str) (.pair (.int .i64) .bool) l4288 (s4300 , s4301)) (s4291 , s4292) (i4284 , b4285))))))
          (c1 x0
           (fun s4302 s4303 => br (!(Option.isSome (mfind (.pair .str .str) (.pair (.int .i64) .bool) l4288 (s4291 , s4292))))
            (k0 (-1 : Int) (0 : Int) i4287 (mput (.pair .str .str) (.pair (.int .i64) .bool) (mdel (.pair .str .str) (.pair (.int .i64) .bool) l4288 (s4302 , s4303)) (s4291 , s4292) (i4284 , b4285)))
            (k0 (Option.getD (mfind (.pair .str .str) (.pair (.int .i64) .bool) l4288 (s4291 , s4292)) ((0 : Int) , false)).1 (0 : Int) i4287 (mput (.pair .str .str) (.pair (.int .i64) .bool) (mdel (.pair .str .str) (.pair (.int .i64) .bool) l4288 (s4302 , s4303)) (s4291 , s4292) (i4284 , b4285))))))
         (none)))
       (k0 (-1 : Int) i4286 i4287 l4288)))))
   (c1 x1
    (fun s4304 s4305 => br (decide (i4286 = (0 : Int)))
     (c0 s4304 s4305 i4287 l4288
      (fun i4306 i4307 l4308 => br (!(!(decide (i4306 = (0 : Int)))))
       (br (decide (x0 = x1))
        (k0 (-1 : Int) i4306 i4307 l4308)
        (br ((Option.isSome (mfind (.pair .str .str) (.pair (.int .i64) .bool) l4308 (s4304 , s4305))) == (Option.isSome (mfind (.pair .str .str) (.pair (.int .i64) .bool) l4308 (s4304 , s4305))))
         (br (Option.isSome (mfind (.pair .str .str) (.pair (.int .i64) .bool) l4308 (s4304 , s4305)))
          (br (Option.getD (mfind (.pair .str .str) (.pair (.int .i64) .bool) l4308 (s4304 , s4305)) ((0 : Int) , false)).2
           (k0 (-1 : Int) (65301 : Int) i4307 l4308)
           (c1 x0
            (fun s4309 s4310 => br (!(Option.isSome (mfind (.pair .str .str) (.pair (.int .i64) .bool) l4308 (s4304 , s4305))))
             (k0 (-1 : Int) (0 : Int) i4307 (mput (.pair .str .str) (.pair (.int .i64) .bool) (mdel (.pair .str .str) (.pair (.int .i64) .bool) l4308 (s4309 , s4310)) (s4304 , s4305) (i4284 , b4285)))
             (k0 (Option.getD (mfind (.pair .str .str) (.pair (.int .i64) .bool) l4308 (s4304 , s4305)) ((0 : Int) , false)).1 (0 : Int) i4307 (mput (.pair .str .str) (.pair (.int .i64) .bool) (mdel (.pair .str .str) (.pair (.int .i64) .bool) l4308 (s4309 , s4310)) (s4304 , s4305) (i4284 , b4285))))))
          (c1 x0
           (fun s4311 s4312 => br (!(Option.isSome (mfind (.pair .str .str) (.pair (.int .i64) .bool) l4308 (s4304 , s4305))))
            (k0 (-1 : Int) (0 : Int) i4307 (mput (.pair .str .str) (.pair (.int .i64) .bool) (mdel (.pair .str .str) (.pair (.int .i64) .bool) l4308 (s4311 , s4312)) (s4304 , s4305) (i4284 , b4285)))
            (k0 (Option.getD (mfind (.pair .str .str) (.pair (.int .i64) .bool) l4308 (s4304 , s4305)) ((0 : Int) , false)).1 (0 : Int) i4307 (mput (.pair .str .str) (.pair (.int .i64) .bool) (mdel (.pair .str .str) (.pair (.int .i64) .bool) l4308 (s4311 , s4312)) (s4304 , s4305) (i4284 , b4285))))))
         (none)))
       (k0 (-1 : Int) i4306 i4307 l4308)))
     (br (!(!(decide (i4286 = (0 : Int)))))
      (br (decide (x0 = x1))
       (k0 (-1 : Int) i4286 i4287 l4288)
       (br ((Option.isSome (mfind (.pair .str .str) (.pair (.int .i64) .bool) l4288 (s4304 , s4305))) == (Option.isSome (mfind (.pair .str .str) (.pair (.int .i64) .bool) l4288 (s4304 , s4305))))
        (br (Option.isSome (mfind (.pair .str .str) (.pair (.int .i64) .bool) l4288 (s4304 , s4305)))
         (br (Option.getD (mfind (.pair .str .str) (.pair (.int .i64) .bool) l4288 (s4304 , s4305)) ((0 : Int) , false)).2
          (k0 (-1 : Int) (65301 : Int) i4287 l4288)
          (c1 x0
           (fun s4313 s4314 => br (!(Option.isSome (mfind (.pair .str .str) (.pair (.int .i64) .bool) l4288 (s4304 , s4305))))
            (k0 (-1 : Int) (0 : Int) i4287 (mput (.pair .str .str) (.pair (.int .i64) .bool) (mdel (.pair .str .str) (.pair (.int .i64) .bool) l4288 (s4313 , s4314)) (s4304 , s4305) (i4284 , b4285)))
            (k0 (Option.getD (mfind (.pair .str .str) (.pair (.int .i64) .bool) l4288 (s4304 , s4305)) ((0 : Int) , false)).1 (0 : Int) i4287 (mput (.pair .str .str) (.pair (.int .i64) .bool) (mdel (.pair .str .str) (.pair (.int .i64) .bool) l4288 (s4313 , s4314)) (s4304 , s4305) (i4284 , b4285))))))
         (c1 x0
          (fun s4315 s4316 => br (!(Option.isSome (mfind (.pair .str .str) (.pair (.int .i64) .bool) l4288 (s4304 , s4305))))
           (k0 (-1 : Int) (0 : Int) i4287 (mput (.pair .str .str) (.pair (.int .i64) .bool) (mdel (.pair .str .str) (.pair (.int .i64) .bool) l4288 (s4315 , s4316)) (s4304 , s4305) (i4284 , b4285)))
           (k0 (Option.getD (mfind (.pair .str .str) (.pair (.int .i64) .bool) l4288 (s4304 , s4305)) ((0 : Int) , false)).1 (0 : Int) i4287 (mput (.pair .str .str) (.pair (.int .i64) .bool) (mdel (.pair .str .str) (.pair (.int .i64) .bool) l4288 (s4315 , s4316)) (s4304 , s4305) (i4284 , b4285))))))
        (none)))
      (k0 (-1 : Int) i4286 i4287 l4288)))))
noncomputable def tree_Tree_Move_f9be (N : Nat) {R : Type} (x0 : ByteArray) (x1 : ByteArray) (x2 : Int) (x3 : List (((ByteArray) × (ByteArray)) × ((Int) × (Bool)))) (k0 : (Int) → (Int) → (Int) → (List (((ByteArray) × (ByteArray)) × ((Int) × (Bool)))) → Option R) : Option R := tree_Tree_Move_f9be_T N (@tree_Tree_above_2de7 N) (@tree_of N) (@tree_Tree_get_fb98 N) x0 x1 x2 x3 k0
abbrev files_Files_Rename_Ty : Type 1 := {R : Type} → (ByteArray) → (ByteArray) → ((Int) → Option R) → Option R
noncomputable def files_Files_Rename_T (N : Nat) (c0 : tree_Tree_Move_f9be_Ty) {R : Type} (x0 : ByteArray) (x1 : ByteArray) (k0 : (Int) → Option R) : Option R :=
  k0 (0 : Int)
noncomputable def files_Files_Rename (N : Nat) {R : Type} (x0 : ByteArray) (x1 : ByteArray) (k0 : (Int) → Option R) : Option R := files_Files_Rename_T N (@tree_Tree_Move_f9be N) x0 x1 k0
abbrev files_Files_Rename_94d5_Ty : Type 1 := {R : Type} → (ByteArray) → (ByteArray) → (List (Int)) → (Int) → (List (((ByteArray) × (ByteArray)) × ((Int) × (Bool)))) → (List ((Int) × (List (Int)))) → (List ((Int) × (Int))) → ((Int) → (List (Int)) → (Int) → (List (((ByteArray) × (ByteArray)) × ((Int) × (Bool)))) → (List ((Int) × (List (Int)))) → (List ((Int) × (Int))) → Option R) → Option R
noncomputable def files_Files_Rename_94d5_T (N : Nat) (c0 : tree_Tree_Move_f9be_Ty) {R : Type} (x0 : ByteArray) (x1 : ByteArray) (x2 : List (Int)) (x3 : Int) (x4 : List (((ByteArray) × (ByteArray)) × ((Int) × (Bool)))) (x5 : List ((Int) × (List (Int)))) (x6 : List ((Int) × (Int))) (k0 : (Int) → (List (Int)) → (Int) → (List (((ByteArray) × (ByteArray)) × ((Int) × (Bool)))) → (List ((Int) × (List (Int)))) → (List ((Int) × (Int))) → Option R) : Option R :=
  c0 x0 x1 x3 x4
  (fun i4317 i4318 i4319 l4320 => k0 i4318 x2 i4319 l4320 x5 x6)
noncomputable def files_Files_Rename_94d5 (N : Nat) {R : Type} (x0 : ByteArray) (x1 : ByteArray) (x2 : List (Int)) (x3 : Int) (x4 : List (((ByteArray) × (ByteArray)) × ((Int) × (Bool)))) (x5 : List ((Int) × (List (Int)))) (x6 : List ((Int) × (Int))) (k0 : (Int) → (List (Int)) → (Int) → (List (((ByteArray) × (ByteArray)) × ((Int) × (Bool)))) → (List ((Int) × (List (Int)))) → (List ((Int) × (Int))) → Option R) : Option R := files_Files_Rename_94d5_T N (@tree_Tree_Move_f9be N) x0 x1 x2 x3 x4 x5 x6 k0
abbrev tree_Tree_Many_fb98_Ty : Type 1 := {R : Type} → (ByteArray) → (Int) → (List (((ByteArray) × (ByteArray)) × ((Int) × (Bool)))) → ((Int) → (Int) → (List (((ByteArray) × (ByteArray)) × ((Int) × (Bool)))) → Option R) → Option R
noncomputable def tree_Tree_Many_fb98_T (N : Nat) (c0 : tree_Tree_many_fb98_Ty) (c1 : tree_Tree_get_fb98_Ty) {R : Type} (x0 : ByteArray) (x1 : Int) (x2 : List (((ByteArray) × (ByteArray)) × ((Int) × (Bool)))) (k0 : (Int) → (Int) → (List (((ByteArray) × (ByteArray)) × ((Int) × (Bool)))) → Option R) : Option R :=
  c1 x0 x1 x2
  (fun i4457 b4458 i4459 i4460 l4461 => br (!(decide (i4459 = (0 : Int))))
   (k0 i4459 i4460 l4461)
   (br (!b4458)
    (k0 (65300 : Int) i4460 l4461)
    (c0 x0 i4460 l4461)))
noncomputable def tree_Tree_Many_fb98 (N : Nat) {R : Type} (x0 : ByteArray) (x1 : Int) (x2 : List (((ByteArray) × (ByteArray)) × ((Int) × (Bool)))) (k0 : (Int) → (Int) → (List (((ByteArray) × (ByteArray)) × ((Int) × (Bool)))) → Option R) : Option R := tree_Tree_Many_fb98_T N (@tree_Tree_many_fb98 N) (@tree_Tree_get_fb98 N) x0 x1 x2 k0
abbrev files_Files_List_Ty : Type 1 := {R : Type} → (ByteArray) → ((Int) → Option R) → Option R
noncomputable def files_Files_List_T (N : Nat) (c0 : tree_Tree_Many_fb98_Ty) {R : Type} (x0 : ByteArray) (k0 : (Int) → Option R) : Option R :=
  k0 (0 : Int)
noncomputable def files_Files_List (N : Nat) {R : Type} (x0 : ByteArray) (k0 : (Int) → Option R) : Option R := files_Files_List_T N (@tree_Tree_Many_fb98 N) x0 k0
abbrev files_Files_List_f601_Ty : Type 1 := {R : Type} → (ByteArray) → (List (Int)) → (Int) → (List (((ByteArray) × (ByteArray)) × ((Int) × (Bool)))) → (List ((Int) × (List (Int)))) → (List ((Int) × (Int))) → ((Int) → (List (Int)) → (Int) → (List (((ByteArray) × (ByteArray)) × ((Int) × (Bool)))) → (List ((Int) × (List (Int)))) → (List ((Int) × (Int))) → Option R) → Option R
noncomputable def files_Files_List_f601_T (N : Nat) (c0 : tree_Tree_Many_fb98_Ty) {R : Type} (x0 : ByteArray) (x1 : List (Int)) (x2 : Int) (x3 : List (((ByteArray) × (ByteArray)) × ((Int) × (Bool)))) (x4 : List ((Int) × (List (Int)))) (x5 : List ((Int) × (Int))) (k0 : (Int) → (List (Int)) → (Int) → (List (((ByteArray) × (ByteArray)) × ((Int) × (Bool)))) → (List ((Int) × (List (Int)))) → (List ((Int) × (Int))) → Option R) : Option R :=
  c0 x0 x2 x3
  (fun i4462 i4463 l4464 => k0 i4462 x1 i4463 l4464 x4 x5)
noncomputable def files_Files_List_f601 (N : Nat) {R : Type} (x0 : ByteArray) (x1 : List (Int)) (x2 : Int) (x3 : List (((ByteArray) × (ByteArray)) × ((Int) × (Bool)))) (x4 : List ((Int) × (List (Int)))) (x5 : List ((Int) × (Int))) (k0 : (Int) → (List (Int)) → (Int) → (List (((ByteArray) × (ByteArray)) × ((Int) × (Bool)))) → (List ((Int) × (List (Int)))) → (List ((Int) × (Int))) → Option R) : Option R := files_Files_List_f601_T N (@tree_Tree_Many_fb98 N) x0 x1 x2 x3 x4 x5 k0
abbrev run_machine_named_ffdd_Ty : Type 1 := {R : Type} → (Int) → (Int) → (Int) → (List (Int)) → (List (Int)) → (Int) → (Int) → (Int) → (List ((Int) × (Int))) → (List (ByteArray)) → (List (Int)) → (Int) → (List (Bool)) → (List (List (Int))) → (List ((Bool) × (Int))) → ((Int) → (List (Int)) → (List (Int)) → (Int) → (Int) → (Int) → (List ((Int) × (Int))) → (List (ByteArray)) → (Int) → (List (Bool)) → (List (List (Int))) → (List (Int)) → (List ((Bool) × (Int))) → Option R) → Option R
noncomputable def run_machine_named_ffdd_T (N : Nat) (c0 : files_Files_List_Ty) (c1 : files_Files_List_f601_Ty) (c2 : files_Files_Rmdir_Ty) (c3 : files_Files_Rmdir_f601_Ty) (c4 : files_Files_Mkdir_Ty) (c5 : files_Files_Mkdir_f601_Ty) (c6 : files_Files_Rename_Ty) (c7 : files_Files_Rename_94d5_Ty) (c8 : files_Files_Unlink_Ty) (c9 : files_Files_Unlink_f601_Ty) (c10 : run_machine_answer_6121_Ty) (c11 : run_machine_answer_9b59_Ty) (c12 : run_machine_answer_c21d_Ty) (c13 : run_machine_answer_684b_Ty) (c14 : files_Files_Open_Ty) (c15 : files_Files_Open_f601_Ty) (c16 : run_machine_name_3c75_Ty) (c17 : run_machine_name_61a1_Ty) {R : Type} (x0 : Int) (x1 : Int) (x2 : Int) (x3 : List (Int)) (x4 : List (Int)) (x5 : Int) (x6 : Int) (x7 : Int) (x8 : List ((Int) × (Int))) (x9 : List (ByteArray)) (x10 : List (Int)) (x11 : Int) (x12 : List (Bool)) (x13 : List (List (Int))) (x14 : List ((Bool) × (Int))) (k0 : (Int) → (List (Int)) → (List (Int)) → (Int) → (Int) → (Int) → (List ((Int) × (Int))) → (List (ByteArray)) → (Int) → (List (Bool)) → (List (List (Int))) → (List (Int)) → (List ((Bool) × (Int))) → Option R) : Option R :=
  br (decide (x0 = (27 : Int)))
  (c16 x1 x2 x3 x4 x5 x6 x7 x8 x9 x10 x11 x12 x13 x14
   (fun s1295 i1296 l1297 l1298 i1299 i1300 i1301 l1302 l1303 l1304 i1305 l1306 l1307 l1308 => c14 s1295
    (fun i1309 => c11 i1309 i1296 l1297 l1298 i1299 i1300 i1301 l1302 l1303 l1304 i1305 l1306 l1307 l1308
     (fun i1310 l1311 l1312 i1313 i1314 i1315 l1316 l1317 i1318 l1319 l1320 l1321 l1322 => k0 i1310 l1311 l1312 i1313 i1314 i1315 l1316 l1317 i1318 l1319 l1320 l1321 l1322))))
  (br (decide (x0 = (33 : Int)))
   (c16 x1 x2 x3 x4 x5 x6 x7 x8 x9 x10 x11 x12 x13 x14
    (fun s1323 i1324 l1325 l1326 i1327 i1328 i1329 l1330 l1331 l1332 i1333 l1334 l1335 l1336 => c8 s1323
     (fun i1337 => c11 i1337 i1324 l1325 l1326 i1327 i1328 i1329 l1330 l1331 l1332 i1333 l1334 l1335 l1336
      (fun i1338 l1339 l1340 i1341 i1342 i1343 l1344 l1345 i1346 l1347 l1348 l1349 l1350 => k0 i1338 l1339 l1340 i1341 i1342 i1343 l1344 l1345 i1346 l1347 l1348 l1349 l1350))))
   (br (decide (x0 = (34 : Int)))
    (c16 (IntKind.wrap .i64 (Int.tdiv x1 (8 : Int))) x2 x3 x4 x5 x6 x7 x8 x9 x10 x11 x12 x13 x14
     (fun s1351 i1352 l1353 l1354 i1355 i1356 i1357 l1358 l1359 l1360 i1361 l1362 l1363 l1364 => br (decide (x1 = x1))
      (br (decide ((Int.tmod x1 (8 : Int)) = (Int.tmod x1 (8 : Int))))
       (c16 (Int.tmod x1 (8 : Int)) i1352 l1353 l1354 i1355 i1356 i1357 l1358 l1359 l1360 i1361 l1362 l1363 l1364
        (fun s1365 i1366 l1367 l1368 i1369 i1370 i1371 l1372 l1373 l1374 i1375 l1376 l1377 l1378 => c6 s1351 s1365
         (fun i1379 => c11 i1379 i1366 l1367 l1368 i1369 i1370 i1371 l1372 l1373 l1374 i1375 l1376 l1377 l1378
          (fun i1380 l1381 l1382 i1383 i1384 i1385 l1386 l1387 i1388 l1389 l1390 l1391 l1392 => k0 i1380 l1381 l1382 i1383 i1384 i1385 l1386 l1387 i1388 l1389 l1390 l1391 l1392))))
       (none))
      (none)))
    (br (decide (x0 = (35 : Int)))
     (c16 x1 x2 x3 x4 x5 x6 x7 x8 x9 x10 x11 x12 x13 x14
      (fun s1393 i1394 l1395 l1396 i1397 i1398 i1399 l1400 l1401 l1402 i1403 l1404 l1405 l1406 => c4 s1393
       (fun i1407 => c11 i1407 i1394 l1395 l1396 i1397 i1398 i1399 l1400 l1401 l1402 i1403 l1404 l1405 l1406
        (fun i1408 l1409 l1410 i1411 i1412 i1413 l1414 l1415 i1416 l1417 l1418 l1419 l1420 => k0 i1408 l1409 l1410 i1411 i1412 i1413 l1414 l1415 i1416 l1417 l1418 l1419 l1420))))
     (br (decide (x0 = (36 : Int)))
      (c16 x1 x2 x3 x4 x5 x6 x7 x8 x9 x10 x11 x12 x13 x14
       (fun s1421 i1422 l1423 l1424 i1425 i1426 i1427 l1428 l1429 l1430 i1431 l1432 l1433 l1434 => c2 s1421
        (fun i1435 => c11 i1435 i1422 l1423 l1424 i1425 i1426 i1427 l1428 l1429 l1430 i1431 l1432 l1433 l1434
         (fun i1436 l1437 l1438 i1439 i1440 i1441 l1442 l1443 i1444 l1445 l1446 l1447 l1448 => k0 i1436 l1437 l1438 i1439 i1440 i1441 l1442 l1443 i1444 l1445 l1446 l1447 l1448))))
      (br (decide (x0 = (37 : Int)))
       (c16 x1 x2 x3 x4 x5 x6 x7 x8 x9 x10 x11 x12 x13 x14
        (fun s1449 i1450 l1451 l1452 i1453 i1454 i1455 l1456 l1457 l1458 i1459 l1460 l1461 l1462 => c0 s1449
         (fun i1463 => c11 i1463 i1450 l1451 l1452 i1453 i1454 i1455 l1456 l1457 l1458 i1459 l1460 l1461 l1462
          (fun i1464 l1465 l1466 i1467 i1468 i1469 l1470 l1471 i1472 l1473 l1474 l1475 l1476 => k0 i1464 l1465 l1466 i1467 i1468 i1469 l1470 l1471 i1472 l1473 l1474 l1475 l1476))))
       (k0 x2 x3 x4 x5 x6 x7 x8 x9 x11 x12 x13 x10 x14))))))
noncomputable def run_machine_named_ffdd (N : Nat) {R : Type} (x0 : Int) (x1 : Int) (x2 : Int) (x3 : List (Int)) (x4 : List (Int)) (x5 : Int) (x6 : Int) (x7 : Int) (x8 : List ((Int) × (Int))) (x9 : List (ByteArray)) (x10 : List (Int)) (x11 : Int) (x12 : List (Bool)) (x13 : List (List (Int))) (x14 : List ((Bool) × (Int))) (k0 : (Int) → (List (Int)) → (List (Int)) → (Int) → (Int) → (Int) → (List ((Int) × (Int))) → (List (ByteArray)) → (Int) → (List (Bool)) → (List (List (Int))) → (List (Int)) → (List ((Bool) × (Int))) → Option R) : Option R := run_machine_named_ffdd_T N (@files_Files_List N) (@files_Files_List_f601 N) (@files_Files_Rmdir N) (@files_Files_Rmdir_f601 N) (@files_Files_Mkdir N) (@files_Files_Mkdir_f601 N) (@files_Files_Rename N) (@files_Files_Rename_94d5 N) (@files_Files_Unlink N) (@files_Files_Unlink_f601 N) (@run_machine_answer_6121 N) (@run_machine_answer_9b59 N) (@run_machine_answer_c21d N) (@run_machine_answer_684b N) (@files_Files_Open N) (@files_Files_Open_f601 N) (@run_machine_name_3c75 N) (@run_machine_name_61a1 N) x0 x1 x2 x3 x4 x5 x6 x7 x8 x9 x10 x11 x12 x13 x14 k0
abbrev run_machine_named_e571_Ty : Type 1 := {R : Type} → (Int) → (Int) → (Int) → (List (Int)) → (List (Int)) → (Int) → (Int) → (Int) → (List ((Int) × (Int))) → (List (ByteArray)) → (List (Int)) → (List (Int)) → (Int) → (List (((ByteArray) × (ByteArray)) × ((Int) × (Bool)))) → (List ((Int) × (List (Int)))) → (List ((Int) × (Int))) → (Int) → (List (Bool)) → (List (List (Int))) → (List ((Bool) × (Int))) → ((Int) → (List (Int)) → (List (Int)) → (Int) → (Int) → (Int) → (List ((Int) × (Int))) → (List (ByteArray)) → (List (Int)) → (Int) → (List (((ByteArray) × (ByteArray)) × ((Int) × (Bool)))) → (List ((Int) × (List (Int)))) → (Int) → (List (Bool)) → (List (List (Int))) → (List (Int)) → (List ((Bool) × (Int))) → (List ((Int) × (Int))) → Option R) → Option R
noncomputable def run_machine_named_e571_T (N : Nat) (c0 : files_Files_List_Ty) (c1 : files_Files_List_f601_Ty) (c2 : files_Files_Rmdir_Ty) (c3 : files_Files_Rmdir_f601_Ty) (c4 : files_Files_Mkdir_Ty) (c5 : files_Files_Mkdir_f601_Ty) (c6 : files_Files_Rename_Ty) (c7 : files_Files_Rename_94d5_Ty) (c8 : files_Files_Unlink_Ty) (c9 : files_Files_Unlink_f601_Ty) (c10 : run_machine_answer_6121_Ty) (c11 : run_machine_answer_9b59_Ty) (c12 : run_machine_answer_c21d_Ty) (c13 : run_machine_answer_684b_Ty) (c14 : files_Files_Open_Ty) (c15 : files_Files_Open_f601_Ty) (c16 : run_machine_name_3c75_Ty) (c17 : run_machine_name_61a1_Ty) {R : Type} (x0 : Int) (x1 : Int) (x2 : Int) (x3 : List (Int)) (x4 : List (Int)) (x5 : Int) (x6 : Int) (x7 : Int) (x8 : List ((Int) × (Int))) (x9 : List (ByteArray)) (x10 : List (Int)) (x11 : List (Int)) (x12 : Int) (x13 : List (((ByteArray) × (ByteArray)) × ((Int) × (Bool)))) (x14 : List ((Int) × (List (Int)))) (x15 : List ((Int) × (Int))) (x16 : Int) (x17 : List (Bool)) (x18 : List (List (Int))) (x19 : List ((Bool) × (Int))) (k0 : (Int) → (List (Int)) → (List (Int)) → (Int) → (Int) → (Int) → (List ((Int) × (Int))) → (List (ByteArray)) → (List (Int)) → (Int) → (List (((ByteArray) × (ByteArray)) × ((Int) × (Bool)))) → (List ((Int) × (List (Int)))) → (Int) → (List (Bool)) → (List (List (Int))) → (List (Int)) → (List ((Bool) × (Int))) → (List ((Int) × (Int))) → Option R) : Option R :=
  br (decide (x0 = (27 : Int)))
  (c17 x1 x2 x3 x4 x5 x6 x7 x8 x9 x10 x11 x12 x13 x14 x15 x16 x17 x18 x19
   (fun s4489 i4490 l4491 l4492 i4493 i4494 i4495 l4496 l4497 l4498 l4499 i4500 l4501 l4502 l4503 i4504 l4505 l4506 l4507 => c15 s4489 l4499 i4500 l4501 l4502 l4503
    (fun i4508 l4509 i4510 l4511 l4512 l4513 => c13 i4508 i4490 l4491 l4492 i4493 i4494 i4495 l4496 l4497 l4498 l4509 i4510 l4511 l4512 l4513 i4504 l4505 l4506 l4507
     (fun i4514 l4515 l4516 i4517 i4518 i4519 l4520 l4521 l4522 i4523 l4524 l4525 l4526 i4527 l4528 l4529 l4530 l4531 => k0 i4514 l4515 l4516 i4517 i4518 i4519 l4520 l4521 l4522 i4523 l4524 l4525 i4527 l4528 l4529 l4530 l4531 l4526))))
  (br (decide (x0 = (33 : Int)))
   (c17 x1 x2 x3 x4 x5 x6 x7 x8 x9 x10 x11 x12 x13 x14 x15 x16 x17 x18 x19
    (fun s4532 i4533 l4534 l4535 i4536 i4537 i4538 l4539 l4540 l4541 l4542 i4543 l4544 l4545 l4546 i4547 l4548 l4549 l4550 => c9 s4532 l4542 i4543 l4544 l4545 l4546
     (fun i4551 l4552 i4553 l4554 l4555 l4556 => c13 i4551 i4533 l4534 l4535 i4536 i4537 i4538 l4539 l4540 l4541 l4552 i4553 l4554 l4555 l4556 i4547 l4548 l4549 l4550
      (fun i4557 l4558 l4559 i4560 i4561 i4562 l4563 l4564 l4565 i4566 l4567 l4568 l4569 i4570 l4571 l4572 l4573 l4574 => k0 i4557 l4558 l4559 i4560 i4561 i4562 l4563 l4564 l4565 i4566 l4567 l4568 i4570 l4571 l4572 l4573 l4574 l4569))))
   (br (decide (x0 = (34 : Int)))
    (c17 (IntKind.wrap .i64 (Int.tdiv x1 (8 : Int))) x2 x3 x4 x5 x6 x7 x8 x9 x10 x11 x12 x13 x14 x15 x16 x17 x18 x19
     (fun s4575 i4576 l4577 l4578 i4579 i4580 i4581 l4582 l4583 l4584 l4585 i4586 l4587 l4588 l4589 i4590 l4591 l4592 l4593 => br (decide (x1 = x1))
      (br (decide ((Int.tmod x1 (8 : Int)) = (Int.tmod x1 (8 : Int))))
       (c17 (Int.tmod x1 (8 : Int)) i4576 l4577 l4578 i4579 i4580 i4581 l4582 l4583 l4584 l4585 i4586 l4587 l4588 l4589 i4590 l4591 l4592 l4593
        (fun s4594 i4595 l4596 l4597 i4598 i4599 i4600 l4601 l4602 l4603 l4604 i4605 l4606 l4607 l4608 i4609 l4610 l4611 l4612 => c7 s4575 s4594 l4604 i4605 l4606 l4607 l4608
         (fun i4613 l4614 i4615 l4616 l4617 l4618 => c13 i4613 i4595 l4596 l4597 i4598 i4599 i4600 l4601 l4602 l4603 l4614 i4615 l4616 l4617 l4618 i4609 l4610 l4611 l4612
          (fun i4619 l4620 l4621 i4622 i4623 i4624 l4625 l4626 l4627 i4628 l4629 l4630 l4631 i4632 l4633 l4634 l4635 l4636 => k0 i4619 l4620 l4621 i4622 i4623 i4624 l4625 l4626 l4627 i4628 l4629 l4630 i4632 l4633 l4634 l4635 l4636 l4631))))
       (none))
      (none)))
    (br (decide (x0 = (35 : Int)))
     (c17 x1 x2 x3 x4 x5 x6 x7 x8 x9 x10 x11 x12 x13 x14 x15 x16 x17 x18 x19
      (fun s4637 i4638 l4639 l4640 i4641 i4642 i4643 l4644 l4645 l4646 l4647 i4648 l4649 l4650 l4651 i4652 l4653 l4654 l4655 => c5 s4637 l4647 i4648 l4649 l4650 l4651
       (fun i4656 l4657 i4658 l4659 l4660 l4661 => c13 i4656 i4638 l4639 l4640 i4641 i4642 i4643 l4644 l4645 l4646 l4657 i4658 l4659 l4660 l4661 i4652 l4653 l4654 l4655
        (fun i4662 l4663 l4664 i4665 i4666 i4667 l4668 l4669 l4670 i4671 l4672 l4673 l4674 i4675 l4676 l4677 l4678 l4679 => k0 i4662 l4663 l4664 i4665 i4666 i4667 l4668 l4669 l4670 i4671 l4672 l4673 i4675 l4676 l4677 l4678 l4679 l4674))))
     (br (decide (x0 = (36 : Int)))
      (c17 x1 x2 x3 x4 x5 x6 x7 x8 x9 x10 x11 x12 x13 x14 x15 x16 x17 x18 x19
       (fun s4680 i4681 l4682 l4683 i4684 i4685 i4686 l4687 l4688 l4689 l4690 i4691 l4692 l4693 l4694 i4695 l4696 l4697 l4698 => c3 s4680 l4690 i4691 l4692 l4693 l4694
        (fun i4699 l4700 i4701 l4702 l4703 l4704 => c13 i4699 i4681 l4682 l4683 i4684 i4685 i4686 l4687 l4688 l4689 l4700 i4701 l4702 l4703 l4704 i4695 l4696 l4697 l4698
         (fun i4705 l4706 l4707 i4708 i4709 i4710 l4711 l4712 l4713 i4714 l4715 l4716 l4717 i4718 l4719 l4720 l4721 l4722 => k0 i4705 l4706 l4707 i4708 i4709 i4710 l4711 l4712 l4713 i4714 l4715 l4716 i4718 l4719 l4720 l4721 l4722 l4717))))
      (br (decide (x0 = (37 : Int)))
       (c17 x1 x2 x3 x4 x5 x6 x7 x8 x9 x10 x11 x12 x13 x14 x15 x16 x17 x18 x19
        (fun s4723 i4724 l4725 l4726 i4727 i4728 i4729 l4730 l4731 l4732 l4733 i4734 l4735 l4736 l4737 i4738 l4739 l4740 l4741 => c1 s4723 l4733 i4734 l4735 l4736 l4737
         (fun i4742 l4743 i4744 l4745 l4746 l4747 => c13 i4742 i4724 l4725 l4726 i4727 i4728 i4729 l4730 l4731 l4732 l4743 i4744 l4745 l4746 l4747 i4738 l4739 l4740 l4741
          (fun i4748 l4749 l4750 i4751 i4752 i4753 l4754 l4755 l4756 i4757 l4758 l4759 l4760 i4761 l4762 l4763 l4764 l4765 => k0 i4748 l4749 l4750 i4751 i4752 i4753 l4754 l4755 l4756 i4757 l4758 l4759 i4761 l4762 l4763 l4764 l4765 l4760))))
       (k0 x2 x3 x4 x5 x6 x7 x8 x9 x11 x12 x13 x14 x16 x17 x18 x10 x19 x15))))))
noncomputable def run_machine_named_e571 (N : Nat) {R : Type} (x0 : Int) (x1 : Int) (x2 : Int) (x3 : List (Int)) (x4 : List (Int)) (x5 : Int) (x6 : Int) (x7 : Int) (x8 : List ((Int) × (Int))) (x9 : List (ByteArray)) (x10 : List (Int)) (x11 : List (Int)) (x12 : Int) (x13 : List (((ByteArray) × (ByteArray)) × ((Int) × (Bool)))) (x14 : List ((Int) × (List (Int)))) (x15 : List ((Int) × (Int))) (x16 : Int) (x17 : List (Bool)) (x18 : List (List (Int))) (x19 : List ((Bool) × (Int))) (k0 : (Int) → (List (Int)) → (List (Int)) → (Int) → (Int) → (Int) → (List ((Int) × (Int))) → (List (ByteArray)) → (List (Int)) → (Int) → (List (((ByteArray) × (ByteArray)) × ((Int) × (Bool)))) → (List ((Int) × (List (Int)))) → (Int) → (List (Bool)) → (List (List (Int))) → (List (Int)) → (List ((Bool) × (Int))) → (List ((Int) × (Int))) → Option R) : Option R := run_machine_named_e571_T N (@files_Files_List N) (@files_Files_List_f601 N) (@files_Files_Rmdir N) (@files_Files_Rmdir_f601 N) (@files_Files_Mkdir N) (@files_Files_Mkdir_f601 N) (@files_Files_Rename N) (@files_Files_Rename_94d5 N) (@files_Files_Unlink N) (@files_Files_Unlink_f601 N) (@run_machine_answer_6121 N) (@run_machine_answer_9b59 N) (@run_machine_answer_c21d N) (@run_machine_answer_684b N) (@files_Files_Open N) (@files_Files_Open_f601 N) (@run_machine_name_3c75 N) (@run_machine_name_61a1 N) x0 x1 x2 x3 x4 x5 x6 x7 x8 x9 x10 x11 x12 x13 x14 x15 x16 x17 x18 x19 k0
abbrev slices_Clone__byte_byte_Ty : Type 1 := {R : Type} → (List (Int)) → ((List (Int)) → Option R) → Option R
noncomputable def slices_Clone__byte_byte {R : Type} (x0 : List (Int)) (k0 : (List (Int)) → Option R) : Option R := br ((decide (((0 : Nat) + (List.length x0)) * (1 : Nat) ≤ (70368744177664 : Nat))) && true) (k0 x0) (none)
abbrev files_Files_Read_Ty : Type 1 := {R : Type} → (Int) → (Int) → ((Int) → Option R) → Option R
noncomputable def files_Files_Read_T (N : Nat) (c0 : files_Files_file_Ty) (c1 : files_Files_file_b447_Ty) (c2 : slices_Clone__byte_byte_Ty) {R : Type} (x0 : Int) (x1 : Int) (k0 : (Int) → Option R) : Option R :=
  c0 x0
  (k0 (65289 : Int))
noncomputable def files_Files_Read (N : Nat) {R : Type} (x0 : Int) (x1 : Int) (k0 : (Int) → Option R) : Option R := files_Files_Read_T N (@files_Files_file N) (@files_Files_file_b447 N) @slices_Clone__byte_byte x0 x1 k0
abbrev files_Files_Read_0442_Ty : Type 1 := {R : Type} → (Int) → (Int) → (List (Int)) → (Int) → (List (((ByteArray) × (ByteArray)) × ((Int) × (Bool)))) → (List ((Int) × (List (Int)))) → (List ((Int) × (Int))) → ((Int) → (List (Int)) → (Int) → (List (((ByteArray) × (ByteArray)) × ((Int) × (Bool)))) → (List ((Int) × (List (Int)))) → (List ((Int) × (Int))) → (List (Int)) → Option R) → Option R
noncomputable def files_Files_Read_0442_T (N : Nat) (c0 : files_Files_file_Ty) (c1 : files_Files_file_b447_Ty) (c2 : slices_Clone__byte_byte_Ty) {R : Type} (x0 : Int) (x1 : Int) (x2 : List (Int)) (x3 : Int) (x4 : List (((ByteArray) × (ByteArray)) × ((Int) × (Bool)))) (x5 : List ((Int) × (List (Int)))) (x6 : List ((Int) × (Int))) (k0 : (Int) → (List (Int)) → (Int) → (List (((ByteArray) × (ByteArray)) × ((Int) × (Bool)))) → (List ((Int) × (List (Int)))) → (List ((Int) × (Int))) → (List (Int)) → Option R) : Option R :=
  c1 x0 x2 x3 x4 x5 x6
  (fun l5171 i5172 l5173 l5174 l5175 => k0 (65289 : Int) l5171 i5172 l5173 l5174 l5175 ([] : List ((Sh.int IntKind.u8).T)))
  (fun i5176 l5177 i5178 l5179 l5180 l5181 => br (decide ((Int.toNat i5176) < (List.length l5181)))
   (br (decide ((Int.toNat i5176) < (List.length l5181)))
    (br (leB (if ((Nat.cast (List.length (Option.getD (mfind (.int .i64) (.isl (.int .u8)) l5180 (List.getD l5181 (Int.toNat i5176) ((0 : Int) , (0 : Int))).1) (Sh.zero (.isl (.int .u8))))) : Int) < (List.getD l5181 (Int.toNat i5176) ((0 : Int) , (0 : Int))).2) then (Nat.cast (List.length (Option.getD (mfind (.int .i64) (.isl (.int .u8)) l5180 (List.getD l5181 (Int.toNat i5176) ((0 : Int) , (0 : Int))).1) (Sh.zero (.isl (.int .u8))))) : Int) else (List.getD l5181 (Int.toNat i5176) ((0 : Int) , (0 : Int))).2) (List.length (Option.getD (mfind (.int .i64) (.isl (.int .u8)) l5180 (List.getD l5181 (Int.toNat i5176) ((0 : Int) , (0 : Int))).1) (Sh.zero (.isl (.int .u8))))))
     (br (leB (if ((Nat.cast (List.length (sub (Option.getD (mfind (.int .i64) (.isl (.int .u8)) l5180 (List.getD l5181 (Int.toNat i5176) ((0 : Int) , (0 : Int))).1) (Sh.zero (.isl (.int .u8)))) (Int.toNat (if ((Nat.cast (List.length (Option.getD (mfind (.int .i64) (.isl (.int .u8)) l5180 (List.getD l5181 (Int.toNat i5176) ((0 : Int) , (0 : Int))).1) (Sh.zero (.isl (.int .u8))))) : Int) < (List.getD l5181 (Int.toNat i5176) ((0 : Int) , (0 : Int))).2) then (Nat.cast (List.length (Option.getD (mfind (.int .i64) (.isl (.int .u8)) l5180 (List.getD l5181 (Int.toNat i5176) ((0 : Int) , (0 : Int))).1) (Sh.zero (.isl (.int .u8))))) : Int) else (List.getD l5181 (Int.toNat i5176) ((0 : Int) , (0 : Int))).2)) ((List.length (Option.getD (mfind (.int .i64) (.isl (.int .u8)) l5180 (List.getD l5181 (Int.toNat i5176) ((0 : Int) , (0 : Int))).1) (Sh.zero (.isl (.int .u8))))) - (Int.toNat (if ((Nat.cast (List.length (Option.getD (mfind (.int .i64) (.isl (.int .u8)) l5180 (List.getD l5181 (Int.toNat i5176) ((0 : Int) , (0 : Int))).1) (Sh.zero (.isl (.int .u8))))) : Int) < (List.getD l5181 (Int.toNat i5176) ((0 : Int) , (0 : Int))).2) then (Nat.cast (List.length (Option.getD (mfind (.int .i64) (.isl (.int .u8)) l5180 (List.getD l5181 (Int.toNat i5176) ((0 : Int) , (0 : Int))).1) (Sh.zero (.isl (.int .u8))))) : Int) else (List.getD l5181 (Int.toNat i5176) ((0 : Int) , (0 : Int))).2))))) : Int) < (IntKind.wrap .i64 x1)) then (Nat.cast (List.length (sub (Option.getD (mfind (.int .i64) (.isl (.int .u8)) l5180 (List.getD l5181 (Int.toNat i5176) ((0 : Int) , (0 : Int))).1) (Sh.zero (.isl (.int .u8)))) (Int.toNat (if ((Nat.cast (List.length (Option.getD (mfind (.int .i64) (.isl (.int .u8)) l5180 (List.getD l5181 (Int.toNat i5176) ((0 : Int) , (0 : Int))).1) (Sh.zero (.isl (.int .u8))))) : Int) < (List.getD l5181 (Int.toNat i5176) ((0 : Int) , (0 : Int))).2) then (Nat.cast (List.length (Option.getD (mfind (.int .i64) (.isl (.int .u8)) l5180 (List.getD l5181 (Int.toNat i5176) ((0 : Int) , (0 : Int))).1) (Sh.zero (.isl (.int .u8))))) : Int) else (List.getD l5181 (Int.toNat i5176) ((0 : Int) , (0 : Int))).2)) ((List.length (Option.getD (mfind (.int .i64) (.isl (.int .u8)) l5180 (List.getD l5181 (Int.toNat i5176) ((0 : Int) , (0 : Int))).1) (Sh.zero (.isl (.int .u8))))) - (Int.toNat (if ((Nat.cast (List.length (Option.getD (mfind (.int .i64) (.isl (.int .u8)) l5180 (List.getD l5181 (Int.toNat i5176) ((0 : Int) , (0 : Int))).1) (Sh.zero (.isl (.int .u8))))) : Int) < (List.getD l5181 (Int.toNat i5176) ((0 : Int) , (0 : Int))).2) then (Nat.cast (List.length (Option.getD (mfind (.int .i64) (.isl (.int .u8)) l5180 (List.getD l5181 (Int.toNat i5176) ((0 : Int) , (0 : Int))).1) (Sh.zero (.isl (.int .u8))))) : Int) else (List.getD l5181 (Int.toNat i5176) ((0 : Int) , (0 : Int))).2))))) : Int) else (IntKind.wrap .i64 x1)) (List.length (sub (Option.getD (mfind (.int .i64) (.isl (.int .u8)) l5180 (List.getD l5181 (Int.toNat i5176) ((0 : Int) , (0 : Int))).1) (Sh.zero (.isl (.int .u8)))) (Int.toNat (if ((Nat.cast (List.length (Option.getD (mfind (.int .i64) (.isl (.int .u8)) l5180 (List.getD l5181 (Int.toNat i5176) ((0 : Int) , (0 : Int))).1) (Sh.zero (.isl (.int .u8))))) : Int) < (List.getD l5181 (Int.toNat i5176) ((0 : Int) , (0 : Int))).2) then (Nat.cast (List.length (Option.getD (mfind (.int .i64) (.isl (.int .u8)) l5180 (List.getD l5181 (Int.toNat i5176) ((0 : Int) , (0 : Int))).1) (Sh.zero (.isl (.int .u8))))) : Int) else (List.getD l5181 (Int.toNat i5176) ((0 : Int) , (0 : Int))).2)) ((List.length (Option.getD (mfind (.int .i64) (.isl (.int .u8)) l5180 (List.getD l5181 (Int.toNat i5176) ((0 : Int) , (0 : Int))).1) (Sh.zero (.isl (.int .u8))))) - (Int.toNat (if ((Nat.cast (List.length (Option.getD (mfind (.int .i64) (.isl (.int .u8)) l5180 (List.getD l5181 (Int.toNat i5176) ((0 : Int) , (0 : Int))).1) (Sh.zero (.isl (.int .u8))))) : Int) < (List.getD l5181 (Int.toNat i5176) ((0 : Int) , (0 : Int))).2) then (Nat.cast (List.length (Option.getD (mfind (.int .i64) (.isl (.int .u8)) l5180 (List.getD l5181 (Int.toNat i5176) ((0 : Int) , (0 : Int))).1) (Sh.zero (.isl (.int .u8))))) : Int) else (List.getD l5181 (Int.toNat i5176) ((0 : Int) , (0 : Int))).2))))))
      (c2 (sub (sub (Option.getD (mfind (.int .i64) (.isl (.int .u8)) l5180 (List.getD l5181 (Int.toNat i5176) ((0 : Int) , (0 : Int))).1) (Sh.zero (.isl (.int .u8)))) (Int.toNat (if ((Nat.cast (List.length (Option.getD (mfind (.int .i64) (.isl (.int .u8)) l5180 (List.getD l5181 (Int.toNat i5176) ((0 : Int) , (0 : Int))).1) (Sh.zero (.isl (.int .u8))))) : Int) < (List.getD l5181 (Int.toNat i5176) ((0 : Int) , (0 : Int))).2) then (Nat.cast (List.length (Option.getD (mfind (.int .i64) (.isl (.int .u8)) l5180 (List.getD l5181 (Int.toNat i5176) ((0 : Int) , (0 : Int))).1) (Sh.zero (.isl (.int .u8))))) : Int) else (List.getD l5181 (Int.toNat i5176) ((0 : Int) , (0 : Int))).2)) ((List.length (Option.getD (mfind (.int .i64) (.isl (.int .u8)) l5180 (List.getD l5181 (Int.toNat i5176) ((0 : Int) , (0 : Int))).1) (Sh.zero (.isl (.int .u8))))) - (Int.toNat (if ((Nat.cast (List.length (Option.getD (mfind (.int .i64) (.isl (.int .u8)) l5180 (List.getD l5181 (Int.toNat i5176) ((0 : Int) , (0 : Int))).1) (Sh.zero (.isl (.int .u8))))) : Int) < (List.getD l5181 (Int.toNat i5176) ((0 : Int) , (0 : Int))).2) then (Nat.cast (List.length (Option.getD (mfind (.int .i64) (.isl (.int .u8)) l5180 (List.getD l5181 (Int.toNat i5176) ((0 : Int) , (0 : Int))).1) (Sh.zero (.isl (.int .u8))))) : Int) else (List.getD l5181 (Int.toNat i5176) ((0 : Int) , (0 : Int))).2)))) (0 : Nat) ((Int.toNat (if ((Nat.cast (List.length (sub (Option.getD (mfind (.int .i64) (.isl (.int .u8)) l5180 (List.getD l5181 (Int.toNat i5176) ((0 : Int) , (0 : Int))).1) (Sh.zero (.isl (.int .u8)))) (Int.toNat (if ((Nat.cast (List.length (Option.getD (mfind (.int .i64) (.isl (.int .u8)) l5180 (List.getD l5181 (Int.toNat i5176) ((0 : Int) , (0 : Int))).1) (Sh.zero (.isl (.int .u8))))) : Int) < (List.getD l5181 (Int.toNat i5176) ((0 : Int) , (0 : Int))).2) then (Nat.cast (List.length (Option.getD (mfind (.int .i64) (.isl (.int .u8)) l5180 (List.getD l5181 (Int.toNat i5176) ((0 : Int) , (0 : Int))).1) (Sh.zero (.isl (.int .u8))))) : Int) else (List.getD l5181 (Int.toNat i5176) ((0 : Int) , (0 : Int))).2)) ((List.length (Option.getD (mfind (.int .i64) (.isl (.int .u8)) l5180 (List.getD l5181 (Int.toNat i5176) ((0 : Int) , (0 : Int))).1) (Sh.zero (.isl (.int .u8))))) - (Int.toNat (if ((Nat.cast (List.length (Option.getD (mfind (.int .i64) (.isl (.int .u8)) l5180 (List.getD l5181 (Int.toNat i5176) ((0 : Int) , (0 : Int))).1) (Sh.zero (.isl (.int .u8))))) : Int) < (List.getD l5181 (Int.toNat i5176) ((0 : Int) , (0 : Int))).2) then (Nat.cast (List.length (Option.getD (mfind (.int .i64) (.isl (.int .u8)) l5180 (List.getD l5181 (Int.toNat i5176) ((0 : Int) , (0 : Int))).1) (Sh.zero (.isl (.int .u8))))) : Int) else (List.getD l5181 (Int.toNat i5176) ((0 : Int) , (0 : Int))).2))))) : Int) < (IntKind.wrap .i64 x1)) then (Nat.cast (List.length (sub (Option.getD (mfind (.int .i64) (.isl (.int .u8)) l5180 (List.getD l5181 (Int.toNat i5176) ((0 : Int) , (0 : Int))).1) (Sh.zero (.isl (.int .u8)))) (Int.toNat (if ((Nat.cast (List.length (Option.getD (mfind (.int .i64) (.isl (.int .u8)) l5180 (List.getD l5181 (Int.toNat i5176) ((0 : Int) , (0 : Int))).1) (Sh.zero (.isl (.int .u8))))) : Int) < (List.getD l5181 (Int.toNat i5176) ((0 : Int) , (0 : Int))).2) then (Nat.cast (List.length (Option.getD (mfind (.int .i64) (.isl (.int .u8)) l5180 (List.getD l5181 (Int.toNat i5176) ((0 : Int) , (0 : Int))).1) (Sh.zero (.isl (.int .u8))))) : Int) else (List.getD l5181 (Int.toNat i5176) ((0 : Int) , (0 : Int))).2)) ((List.length (Option.getD (mfind (.int .i64) (.isl (.int .u8)) l5180 (List.getD l5181 (Int.toNat i5176) ((0 : Int) , (0 : Int))).1) (Sh.zero (.isl (.int .u8))))) - (Int.toNat (if ((Nat.cast (List.length (Option.getD (mfind (.int .i64) (.isl (.int .u8)) l5180 (List.getD l5181 (Int.toNat i5176) ((0 : Int) , (0 : Int))).1) (Sh.zero (.isl (.int .u8))))) : Int) < (List.getD l5181 (Int.toNat i5176) ((0 : Int) , (0 : Int))).2) then (Nat.cast (List.length (Option.getD (mfind (.int .i64) (.isl (.int .u8)) l5180 (List.getD l5181 (Int.toNat i5176) ((0 : Int) , (0 : Int))).1) (Sh.zero (.isl (.int .u8))))) : Int) else (List.getD l5181 (Int.toNat i5176) ((0 : Int) , (0 : Int))).2))))) : Int) else (IntKind.wrap .i64 x1))) - (0 : Nat)))
       (fun l5182 => br (decide ((Int.toNat i5176) < (List.length l5181)))
        (br (decide ((Int.toNat i5176) < (List.length l5181)))
         (k0 (IntKind.wrap .u16 (Nat.cast (List.length l5182) : Int)) l5177 i5178 l5179 l5180 (List.set l5181 (Int.toNat i5176) ((List.getD l5181 (Int.toNat i5176) ((0 : Int) , (0 : Int))).1 , (IntKind.wrap .i64 ((List.getD l5181 (Int.toNat i5176) ((0 : Int) , (0 : Int))).2 + (Nat.cast (List.length l5182) : Int))))) l5182)
         (none))
        (none)))
      (none))
     (none))
    (none))
   (none))
noncomputable def files_Files_Read_0442 (N : Nat) {R : Type} (x0 : Int) (x1 : Int) (x2 : List (Int)) (x3 : Int) (x4 : List (((ByteArray) × (ByteArray)) × ((Int) × (Bool)))) (x5 : List ((Int) × (List (Int)))) (x6 : List ((Int) × (Int))) (k0 : (Int) → (List (Int)) → (Int) → (List (((ByteArray) × (ByteArray)) × ((Int) × (Bool)))) → (List ((Int) × (List (Int)))) → (List ((Int) × (Int))) → (List (Int)) → Option R) : Option R := files_Files_Read_0442_T N (@files_Files_file N) (@files_Files_file_b447 N) @slices_Clone__byte_byte x0 x1 x2 x3 x4 x5 x6 k0
abbrev run_machine_read_9c77_Ty : Type 1 := {R : Type} → (Int) → (List (Int)) → (List (Int)) → (Int) → (Int) → (Int) → (List ((Int) × (Int))) → (List (ByteArray)) → (List (Int)) → (Int) → (List (Bool)) → (List (List (Int))) → (List ((Bool) × (Int))) → ((Int) → (List (Int)) → (List (Int)) → (Int) → (Int) → (Int) → (List ((Int) × (Int))) → (List (ByteArray)) → (Int) → (List (Bool)) → (List (List (Int))) → (List (Int)) → (List ((Bool) × (Int))) → Option R) → Option R
noncomputable def run_machine_read_9c77_T (N : Nat) (c0 : run_machine_answer_6121_Ty) (c1 : run_machine_answer_9b59_Ty) (c2 : run_machine_answer_c21d_Ty) (c3 : run_machine_answer_684b_Ty) (c4 : files_Files_Read_Ty) (c5 : files_Files_Read_0442_Ty) (c6 : run_machine_pop_9c77_Ty) (c7 : run_machine_pop_6326_Ty) (c8 : run_machine_end_5a2b_Ty) (c9 : run_machine_end_3f90_Ty) {R : Type} (x0 : Int) (x1 : List (Int)) (x2 : List (Int)) (x3 : Int) (x4 : Int) (x5 : Int) (x6 : List ((Int) × (Int))) (x7 : List (ByteArray)) (x8 : List (Int)) (x9 : Int) (x10 : List (Bool)) (x11 : List (List (Int))) (x12 : List ((Bool) × (Int))) (k0 : (Int) → (List (Int)) → (List (Int)) → (Int) → (Int) → (Int) → (List ((Int) × (Int))) → (List (ByteArray)) → (Int) → (List (Bool)) → (List (List (Int))) → (List (Int)) → (List ((Bool) × (Int))) → Option R) : Option R :=
  c6 x0 x1 x2 x3 x4 x5 x6 x7 x8 x9 x10 x11 x12
  (fun i1658 i1659 l1660 l1661 i1662 i1663 i1664 l1665 l1666 i1667 l1668 l1669 l1670 l1671 => c6 i1659 l1660 l1661 i1662 i1663 i1664 l1665 l1666 l1671 i1667 l1668 l1669 l1670
   (fun i1672 i1673 l1674 l1675 i1676 i1677 i1678 l1679 l1680 i1681 l1682 l1683 l1684 l1685 => c6 i1673 l1674 l1675 i1676 i1677 i1678 l1679 l1680 l1685 i1681 l1682 l1683 l1684
    (fun i1686 i1687 l1688 l1689 i1690 i1691 i1692 l1693 l1694 i1695 l1696 l1697 l1698 l1699 => c4 i1686 i1658
     (fun i1700 => c1 i1700 i1687 l1688 l1689 i1690 i1691 i1692 l1693 l1694 l1699 i1695 l1696 l1697 l1698
      (fun i1701 l1702 l1703 i1704 i1705 i1706 l1707 l1708 i1709 l1710 l1711 l1712 l1713 => k0 i1701 l1702 l1703 i1704 i1705 i1706 l1707 l1708 i1709 l1710 l1711 l1712 l1713)))))
noncomputable def run_machine_read_9c77 (N : Nat) {R : Type} (x0 : Int) (x1 : List (Int)) (x2 : List (Int)) (x3 : Int) (x4 : Int) (x5 : Int) (x6 : List ((Int) × (Int))) (x7 : List (ByteArray)) (x8 : List (Int)) (x9 : Int) (x10 : List (Bool)) (x11 : List (List (Int))) (x12 : List ((Bool) × (Int))) (k0 : (Int) → (List (Int)) → (List (Int)) → (Int) → (Int) → (Int) → (List ((Int) × (Int))) → (List (ByteArray)) → (Int) → (List (Bool)) → (List (List (Int))) → (List (Int)) → (List ((Bool) × (Int))) → Option R) : Option R := run_machine_read_9c77_T N (@run_machine_answer_6121 N) (@run_machine_answer_9b59 N) (@run_machine_answer_c21d N) (@run_machine_answer_684b N) (@files_Files_Read N) (@files_Files_Read_0442 N) (@run_machine_pop_9c77 N) (@run_machine_pop_6326 N) (@run_machine_end_5a2b N) (@run_machine_end_3f90 N) x0 x1 x2 x3 x4 x5 x6 x7 x8 x9 x10 x11 x12 k0
abbrev run_machine_read_6326_Ty : Type 1 := {R : Type} → (Int) → (List (Int)) → (List (Int)) → (Int) → (Int) → (Int) → (List ((Int) × (Int))) → (List (ByteArray)) → (List (Int)) → (List (Int)) → (Int) → (List (((ByteArray) × (ByteArray)) × ((Int) × (Bool)))) → (List ((Int) × (List (Int)))) → (List ((Int) × (Int))) → (Int) → (List (Bool)) → (List (List (Int))) → (List ((Bool) × (Int))) → ((Int) → (List (Int)) → (List (Int)) → (Int) → (Int) → (Int) → (List ((Int) × (Int))) → (List (ByteArray)) → (List (Int)) → (Int) → (List (((ByteArray) × (ByteArray)) × ((Int) × (Bool)))) → (List ((Int) × (List (Int)))) → (List ((Int) × (Int))) → (Int) → (List (Bool)) → (List (List (Int))) → (List (Int)) → (List ((Bool) × (Int))) → Option R) → Option R
noncomputable def run_machine_read_6326_T (N : Nat) (c0 : run_machine_answer_6121_Ty) (c1 : run_machine_answer_9b59_Ty) (c2 : run_machine_answer_c21d_Ty) (c3 : run_machine_answer_684b_Ty) (c4 : files_Files_Read_Ty) (c5 : files_Files_Read_0442_Ty) (c6 : run_machine_pop_9c77_Ty) (c7 : run_machine_pop_6326_Ty) (c8 : run_machine_end_5a2b_Ty) (c9 : run_machine_end_3f90_Ty) {R : Type} (x0 : Int) (x1 : List (Int)) (x2 : List (Int)) (x3 : Int) (x4 : Int) (x5 : Int) (x6 : List ((Int) × (Int))) (x7 : List (ByteArray)) (x8 : List (Int)) (x9 : List (Int)) (x10 : Int) (x11 : List (((ByteArray) × (ByteArray)) × ((Int) × (Bool)))) (x12 : List ((Int) × (List (Int)))) (x13 : List ((Int) × (Int))) (x14 : Int) (x15 : List (Bool)) (x16 : List (List (Int))) (x17 : List ((Bool) × (Int))) (k0 : (Int) → (List (Int)) → (List (Int)) → (Int) → (Int) → (Int) → (List ((Int) × (Int))) → (List (ByteArray)) → (List (Int)) → (Int) → (List (((ByteArray) × (ByteArray)) × ((Int) × (Bool)))) → (List ((Int) × (List (Int)))) → (List ((Int) × (Int))) → (Int) → (List (Bool)) → (List (List (Int))) → (List (Int)) → (List ((Bool) × (Int))) → Option R) : Option R :=
  c7 x0 x1 x2 x3 x4 x5 x6 x7 x8 x9 x10 x11 x12 x13 x14 x15 x16 x17
  (fun i5226 i5227 l5228 l5229 i5230 i5231 i5232 l5233 l5234 l5235 i5236 l5237 l5238 l5239 i5240 l5241 l5242 l5243 l5244 => c7 i5227 l5228 l5229 i5230 i5231 i5232 l5233 l5234 l5244 l5235 i5236 l5237 l5238 l5239 i5240 l5241 l5242 l5243
   (fun i5245 i5246 l5247 l5248 i5249 i5250 i5251 l5252 l5253 l5254 i5255 l5256 l5257 l5258 i5259 l5260 l5261 l5262 l5263 => c7 i5246 l5247 l5248 i5249 i5250 i5251 l5252 l5253 l5263 l5254 i5255 l5256 l5257 l5258 i5259 l5260 l5261 l5262
    (fun i5264 i5265 l5266 l5267 i5268 i5269 i5270 l5271 l5272 l5273 i5274 l5275 l5276 l5277 i5278 l5279 l5280 l5281 l5282 => c5 i5264 i5226 l5273 i5274 l5275 l5276 l5277
     (fun i5283 l5284 i5285 l5286 l5287 l5288 l5289 => br (decide ((0 : Int) < (Nat.cast (List.length l5289) : Int)))
      (br (decide ((32 : Int) < (IntKind.wrap .i64 ((IntKind.wrap .i64 i5245) + (Nat.cast (List.length l5289) : Int)))))
       (c9 (3 : Int) (0 : Int) i5265 l5266 l5267 i5268 i5269 i5270 l5271 l5272 l5282 l5284 i5285 l5286 l5287 l5288 i5278 l5279 l5280 l5281
        (fun i5290 l5291 l5292 i5293 i5294 i5295 l5296 l5297 l5298 l5299 i5300 l5301 l5302 l5303 i5304 l5305 l5306 l5307 => k0 i5290 l5291 l5292 i5293 i5294 i5295 l5296 l5297 l5299 i5300 l5301 l5302 l5303 i5304 l5305 l5306 l5298 l5307))
       (br (decide ((0 : Int) < (Nat.cast (List.length l5289) : Int)))
        (br (leB i5245 (32 : Nat))
         (br (fits (0 : Nat) (List.length l5289) l5289)
          (br (fits (Int.toNat i5245) ((32 : Nat) - (Int.toNat i5245)) l5267)
           (c3 i5283 i5265 l5266 ((List.take (Int.toNat i5245) l5267) ++ ((List.take (Min.min (List.length (sub l5289 (0 : Nat) (List.length l5289))) ((32 : Nat) - (Int.toNat i5245))) (sub l5289 (0 : Nat) (List.length l5289))) ++ (List.drop ((Int.toNat i5245) + (Min.min (List.length (sub l5289 (0 : Nat) (List.length l5289))) ((32 : Nat) - (Int.toNat i5245)))) l5267))) i5268 i5269 i5270 l5271 l5272 l5282 l5284 i5285 l5286 l5287 l5288 i5278 l5279 l5280 l5281
            (fun i5308 l5309 l5310 i5311 i5312 i5313 l5314 l5315 l5316 i5317 l5318 l5319 l5320 i5321 l5322 l5323 l5324 l5325 => k0 i5308 l5309 l5310 i5311 i5312 i5313 l5314 l5315 l5316 i5317 l5318 l5319 l5320 i5321 l5322 l5323 l5324 l5325))
           (none))
          (none))
         (none))
        (c3 i5283 i5265 l5266 l5267 i5268 i5269 i5270 l5271 l5272 l5282 l5284 i5285 l5286 l5287 l5288 i5278 l5279 l5280 l5281
         (fun i5326 l5327 l5328 i5329 i5330 i5331 l5332 l5333 l5334 i5335 l5336 l5337 l5338 i5339 l5340 l5341 l5342 l5343 => k0 i5326 l5327 l5328 i5329 i5330 i5331 l5332 l5333 l5334 i5335 l5336 l5337 l5338 i5339 l5340 l5341 l5342 l5343))))
      (br (decide ((0 : Int) < (Nat.cast (List.length l5289) : Int)))
       (br (leB i5245 (32 : Nat))
        (br (fits (0 : Nat) (List.length l5289) l5289)
         (br (fits (Int.toNat i5245) ((32 : Nat) - (Int.toNat i5245)) l5267)
          (c3 i5283 i5265 l5266 ((List.take (Int.toNat i5245) l5267) ++ ((List.take (Min.min (List.length (sub l5289 (0 : Nat) (List.length l5289))) ((32 : Nat) - (Int.toNat i5245))) (sub l5289 (0 : Nat) (List.length l5289))) ++ (List.drop ((Int.toNat i5245) + (Min.min (List.length (sub l5289 (0 : Nat) (List.length l5289))) ((32 : Nat) - (Int.toNat i5245)))) l5267))) i5268 i5269 i5270 l5271 l5272 l5282 l5284 i5285 l5286 l5287 l5288 i5278 l5279 l5280 l5281
           (fun i5344 l5345 l5346 i5347 i5348 i5349 l5350 l5351 l5352 i5353 l5354 l5355 l5356 i5357 l5358 l5359 l5360 l5361 => k0 i5344 l5345 l5346 i5347 i5348 i5349 l5350 l5351 l5352 i5353 l5354 l5355 l5356 i5357 l5358 l5359 l5360 l5361))
          (none))
         (none))
        (none))
       (c3 i5283 i5265 l5266 l5267 i5268 i5269 i5270 l5271 l5272 l5282 l5284 i5285 l5286 l5287 l5288 i5278 l5279 l5280 l5281
        (fun i5362 l5363 l5364 i5365 i5366 i5367 l5368 l5369 l5370 i5371 l5372 l5373 l5374 i5375 l5376 l5377 l5378 l5379 => k0 i5362 l5363 l5364 i5365 i5366 i5367 l5368 l5369 l5370 i5371 l5372 l5373 l5374 i5375 l5376 l5377 l5378 l5379)))))))
noncomputable def run_machine_read_6326 (N : Nat) {R : Type} (x0 : Int) (x1 : List (Int)) (x2 : List (Int)) (x3 : Int) (x4 : Int) (x5 : Int) (x6 : List ((Int) × (Int))) (x7 : List (ByteArray)) (x8 : List (Int)) (x9 : List (Int)) (x10 : Int) (x11 : List (((ByteArray) × (ByteArray)) × ((Int) × (Bool)))) (x12 : List ((Int) × (List (Int)))) (x13 : List ((Int) × (Int))) (x14 : Int) (x15 : List (Bool)) (x16 : List (List (Int))) (x17 : List ((Bool) × (Int))) (k0 : (Int) → (List (Int)) → (List (Int)) → (Int) → (Int) → (Int) → (List ((Int) × (Int))) → (List (ByteArray)) → (List (Int)) → (Int) → (List (((ByteArray) × (ByteArray)) × ((Int) × (Bool)))) → (List ((Int) × (List (Int)))) → (List ((Int) × (Int))) → (Int) → (List (Bool)) → (List (List (Int))) → (List (Int)) → (List ((Bool) × (Int))) → Option R) : Option R := run_machine_read_6326_T N (@run_machine_answer_6121 N) (@run_machine_answer_9b59 N) (@run_machine_answer_c21d N) (@run_machine_answer_684b N) (@files_Files_Read N) (@files_Files_Read_0442 N) (@run_machine_pop_9c77 N) (@run_machine_pop_6326 N) (@run_machine_end_5a2b N) (@run_machine_end_3f90 N) x0 x1 x2 x3 x4 x5 x6 x7 x8 x9 x10 x11 x12 x13 x14 x15 x16 x17 k0
abbrev files_sized_l0_Ty : Type 1 := {R : Type} → ((List (Int)) → Option R) → Nat → (Int) → (List (Int)) → Option R
abbrev files_sized_Ty : Type 1 := {R : Type} → (List (Int)) → (Int) → ((List (Int)) → Option R) → Option R
noncomputable def files_sized_l0_T0 (N : Nat) (c0 : slices_Clone__byte_byte_Ty) {R : Type} (nx : (Int) → (List (Int)) → Option R) (k0 : (List (Int)) → Option R) (x0 : Int) (x1 : List (Int)) : Option R :=
  br (decide ((Nat.cast (List.length x1) : Int) < x0))
  (br (((fits (0 : Nat) (List.length x1) x1) && (decide ((((List.length x1) + (1 : Nat)) * (1 : Nat)) ≤ (70368744177664 : Nat)))) && true)
   (nx x0 ((sub x1 (0 : Nat) (List.length x1)) ++ ((0 : Int) :: ([] : List ((Sh.int IntKind.u8).T)))))
   (none))
  (k0 x1)
noncomputable def files_sized_l0 (N : Nat) {R : Type} (k0 : (List (Int)) → Option R) : Nat → (Int) → (List (Int)) → Option R
  | 0, _, _ => none
  | n + 1, x0, x1 => files_sized_l0_T0 N @slices_Clone__byte_byte (fun x0 x1 => files_sized_l0 N k0 n x0 x1) k0 x0 x1
noncomputable def files_sized_T (N : Nat) (c0 : slices_Clone__byte_byte_Ty) (w0 : files_sized_l0_Ty) {R : Type} (x0 : List (Int)) (x1 : Int) (k0 : (List (Int)) → Option R) : Option R :=
  br (leB (if ((Nat.cast (List.length x0) : Int) < x1) then (Nat.cast (List.length x0) : Int) else x1) (List.length x0))
  (c0 (sub x0 (0 : Nat) ((Int.toNat (if ((Nat.cast (List.length x0) : Int) < x1) then (Nat.cast (List.length x0) : Int) else x1)) - (0 : Nat)))
   (fun l5075 => w0
    (fun l5076 => k0 l5076)
    N x1 l5075))
  (none)
noncomputable def files_sized (N : Nat) {R : Type} (x0 : List (Int)) (x1 : Int) (k0 : (List (Int)) → Option R) : Option R := files_sized_T N @slices_Clone__byte_byte (@files_sized_l0 N) x0 x1 k0
abbrev files_Files_Trunc_Ty : Type 1 := {R : Type} → (Int) → (Int) → ((Int) → Option R) → Option R
noncomputable def files_Files_Trunc_T (N : Nat) (c0 : files_Files_file_Ty) (c1 : files_Files_file_b447_Ty) (c2 : files_sized_Ty) {R : Type} (x0 : Int) (x1 : Int) (k0 : (Int) → Option R) : Option R :=
  c0 x0
  (k0 (65289 : Int))
noncomputable def files_Files_Trunc (N : Nat) {R : Type} (x0 : Int) (x1 : Int) (k0 : (Int) → Option R) : Option R := files_Files_Trunc_T N (@files_Files_file N) (@files_Files_file_b447 N) (@files_sized N) x0 x1 k0
abbrev files_Files_Trunc_0442_Ty : Type 1 := {R : Type} → (Int) → (Int) → (List (Int)) → (Int) → (List (((ByteArray) × (ByteArray)) × ((Int) × (Bool)))) → (List ((Int) × (List (Int)))) → (List ((Int) × (Int))) → ((Int) → (List (Int)) → (Int) → (List (((ByteArray) × (ByteArray)) × ((Int) × (Bool)))) → (List ((Int) × (List (Int)))) → (List ((Int) × (Int))) → Option R) → Option R
noncomputable def files_Files_Trunc_0442_T (N : Nat) (c0 : files_Files_file_Ty) (c1 : files_Files_file_b447_Ty) (c2 : files_sized_Ty) {R : Type} (x0 : Int) (x1 : Int) (x2 : List (Int)) (x3 : Int) (x4 : List (((ByteArray) × (ByteArray)) × ((Int) × (Bool)))) (x5 : List ((Int) × (List (Int)))) (x6 : List ((Int) × (Int))) (k0 : (Int) → (List (Int)) → (Int) → (List (((ByteArray) × (ByteArray)) × ((Int) × (Bool)))) → (List ((Int) × (List (Int)))) → (List ((Int) × (Int))) → Option R) : Option R :=
  c1 x0 x2 x3 x4 x5 x6
  (fun l5064 i5065 l5066 l5067 l5068 => k0 (65289 : Int) l5064 i5065 l5066 l5067 l5068)
  (fun i5069 l5070 i5071 l5072 l5073 l5074 => br (decide ((8 : Int) < x1))
   (k0 (65302 : Int) l5070 i5071 l5072 l5073 l5074)
   (br (decide ((Int.toNat i5069) < (List.length l5074)))
    (br (decide ((Int.toNat i5069) < (List.length l5074)))
     (c2 (Option.getD (mfind (.int .i64) (.isl (.int .u8)) l5073 (List.getD l5074 (Int.toNat i5069) ((0 : Int) , (0 : Int))).1) (Sh.zero (.isl (.int .u8)))) (IntKind.wrap .i64 x1)
      (fun l5077 => br (decide (i5069 = i5069))
       (br (decide (i5069 = i5069))
        (br (decide (i5069 = i5069))
         (br (decide ((Int.toNat i5069) < (List.length l5074)))
          (br (decide ((List.getD l5074 (Int.toNat i5069) ((0 : Int) , (0 : Int))).1 = (List.getD l5074 (Int.toNat i5069) ((0 : Int) , (0 : Int))).1))
           (br (fits (0 : Nat) (List.length l5077) l5077)
            (k0 (0 : Int) l5070 i5071 l5072 (mput (.int .i64) (.isl (.int .u8)) l5073 (List.getD l5074 (Int.toNat i5069) ((0 : Int) , (0 : Int))).1 (sub l5077 (0 : Nat) (List.length l5077))) l5074)
            (none))
           (none))
          (none))
         (none))
        (none))
       (none)))
     (none))
    (none)))
noncomputable def files_Files_Trunc_0442 (N : Nat) {R : Type} (x0 : Int) (x1 : Int) (x2 : List (Int)) (x3 : Int) (x4 : List (((ByteArray) × (ByteArray)) × ((Int) × (Bool)))) (x5 : List ((Int) × (List (Int)))) (x6 : List ((Int) × (Int))) (k0 : (Int) → (List (Int)) → (Int) → (List (((ByteArray) × (ByteArray)) × ((Int) × (Bool)))) → (List ((Int) × (List (Int)))) → (List ((Int) × (Int))) → Option R) : Option R := files_Files_Trunc_0442_T N (@files_Files_file N) (@files_Files_file_b447 N) (@files_sized N) x0 x1 x2 x3 x4 x5 x6 k0
abbrev files_Files_Write_c4b4_Ty : Type 1 := {R : Type} → (Int) → (Nat) → (Nat) → (Nat) → (Int) → (List (Int)) → (List (Int)) → (Int) → (Int) → (Int) → (List ((Int) × (Int))) → (List (ByteArray)) → (List (Int)) → (Int) → (List (Bool)) → (List (List (Int))) → (List ((Bool) × (Int))) → ((Int) → (Int) → (List (Int)) → (List (Int)) → (Int) → (Int) → (Int) → (List ((Int) × (Int))) → (List (ByteArray)) → (List (Int)) → (Int) → (List (Bool)) → (List (List (Int))) → (List ((Bool) × (Int))) → Option R) → Option R
noncomputable def files_Files_Write_c4b4_T (N : Nat) (c0 : files_Files_file_Ty) (c1 : files_Files_file_b447_Ty) (c2 : files_sized_Ty) {R : Type} (x0 : Int) (x1 : Nat) (x2 : Nat) (x3 : Nat) (x4 : Int) (x5 : List (Int)) (x6 : List (Int)) (x7 : Int) (x8 : Int) (x9 : Int) (x10 : List ((Int) × (Int))) (x11 : List (ByteArray)) (x12 : List (Int)) (x13 : Int) (x14 : List (Bool)) (x15 : List (List (Int))) (x16 : List ((Bool) × (Int))) (k0 : (Int) → (Int) → (List (Int)) → (List (Int)) → (Int) → (Int) → (Int) → (List ((Int) × (Int))) → (List (ByteArray)) → (List (Int)) → (Int) → (List (Bool)) → (List (List (Int))) → (List ((Bool) × (Int))) → Option R) : Option R :=
  c0 x0
  (k0 (65289 : Int) x4 x5 x6 x7 x8 x9 x10 x11 x12 x13 x14 x15 x16)
noncomputable def files_Files_Write_c4b4 (N : Nat) {R : Type} (x0 : Int) (x1 : Nat) (x2 : Nat) (x3 : Nat) (x4 : Int) (x5 : List (Int)) (x6 : List (Int)) (x7 : Int) (x8 : Int) (x9 : Int) (x10 : List ((Int) × (Int))) (x11 : List (ByteArray)) (x12 : List (Int)) (x13 : Int) (x14 : List (Bool)) (x15 : List (List (Int))) (x16 : List ((Bool) × (Int))) (k0 : (Int) → (Int) → (List (Int)) → (List (Int)) → (Int) → (Int) → (Int) → (List ((Int) × (Int))) → (List (ByteArray)) → (List (Int)) → (Int) → (List (Bool)) → (List (List (Int))) → (List ((Bool) × (Int))) → Option R) : Option R := files_Files_Write_c4b4_T N (@files_Files_file N) (@files_Files_file_b447 N) (@files_sized N) x0 x1 x2 x3 x4 x5 x6 x7 x8 x9 x10 x11 x12 x13 x14 x15 x16 k0
abbrev files_Files_Write_44ab_Ty : Type 1 := {R : Type} → (Int) → ((Int) → Option R) → Option R
noncomputable def files_Files_Write_44ab_T (N : Nat) (c0 : files_Files_file_Ty) (c1 : files_Files_file_b447_Ty) (c2 : files_sized_Ty) {R : Type} (x0 : Int) (k0 : (Int) → Option R) : Option R :=
  c0 x0
  (k0 (65289 : Int))
noncomputable def files_Files_Write_44ab (N : Nat) {R : Type} (x0 : Int) (k0 : (Int) → Option R) : Option R := files_Files_Write_44ab_T N (@files_Files_file N) (@files_Files_file_b447 N) (@files_sized N) x0 k0
abbrev files_Files_Write_56dc_Ty : Type 1 := {R : Type} → (Int) → (Nat) → (Nat) → (Nat) → (List (Int)) → (Int) → (List (((ByteArray) × (ByteArray)) × ((Int) × (Bool)))) → (List ((Int) × (List (Int)))) → (List ((Int) × (Int))) → (Int) → (List (Int)) → (List (Int)) → (Int) → (Int) → (Int) → (List ((Int) × (Int))) → (List (ByteArray)) → (List (Int)) → (Int) → (List (Bool)) → (List (List (Int))) → (List ((Bool) × (Int))) → ((Int) → (List (Int)) → (Int) → (List (((ByteArray) × (ByteArray)) × ((Int) × (Bool)))) → (List ((Int) × (List (Int)))) → (List ((Int) × (Int))) → (Int) → (List (Int)) → (List (Int)) → (Int) → (Int) → (Int) → (List ((Int) × (Int))) → (List (ByteArray)) → (List (Int)) → (Int) → (List (Bool)) → (List (List (Int))) → (List ((Bool) × (Int))) → Option R) → Option R
noncomputable def files_Files_Write_56dc_T (N : Nat) (c0 : files_Files_file_Ty) (c1 : files_Files_file_b447_Ty) (c2 : files_sized_Ty) {R : Type} (x0 : Int) (x1 : Nat) (x2 : Nat) (x3 : Nat) (x4 : List (Int)) (x5 : Int) (x6 : List (((ByteArray) × (ByteArray)) × ((Int) × (Bool)))) (x7 : List ((Int) × (List (Int)))) (x8 : List ((Int) × (Int))) (x9 : Int) (x10 : List (Int)) (x11 : List (Int)) (x12 : Int) (x13 : Int) (x14 : Int) (x15 : List ((Int) × (Int))) (x16 : List (ByteArray)) (x17 : List (Int)) (x18 : Int) (x19 : List (Bool)) (x20 : List (List (Int))) (x21 : List ((Bool) × (Int))) (k0 : (Int) → (List (Int)) → (Int) → (List (((ByteArray) × (ByteArray)) × ((Int) × (Bool)))) → (List ((Int) × (List (Int)))) → (List ((Int) × (Int))) → (Int) → (List (Int)) → (List (Int)) → (Int) → (Int) → (Int) → (List ((Int) × (Int))) → (List (ByteArray)) → (List (Int)) → (Int) → (List (Bool)) → (List (List (Int))) → (List ((Bool) × (Int))) → Option R) : Option R :=
  c1 x0 x4 x5 x6 x7 x8
  (fun l5473 i5474 l5475 l5476 l5477 => k0 (65289 : Int) l5473 i5474 l5475 l5476 l5477 x9 x10 x11 x12 x13 x14 x15 x16 x17 x18 x19 x20 x21)
  (fun i5478 l5479 i5480 l5481 l5482 l5483 => br (decide ((Nat.cast x2 : Int) = (0 : Int)))
   (k0 (0 : Int) l5479 i5480 l5481 l5482 l5483 x9 x10 x11 x12 x13 x14 x15 x16 x17 x18 x19 x20 x21)
   (br (decide ((Int.toNat i5478) < (List.length l5483)))
    (br (decide ((8 : Int) ≤ (List.getD l5483 (Int.toNat i5478) ((0 : Int) , (0 : Int))).2))
     (k0 (65308 : Int) l5479 i5480 l5481 l5482 l5483 x9 x10 x11 x12 x13 x14 x15 x16 x17 x18 x19 x20 x21)
     (br (decide ((Int.toNat i5478) < (List.length l5483)))
      (br (leB (if ((IntKind.wrap .i64 ((8 : Int) - (List.getD l5483 (Int.toNat i5478) ((0 : Int) , (0 : Int))).2)) < (Nat.cast x2 : Int)) then (IntKind.wrap .i64 ((8 : Int) - (List.getD l5483 (Int.toNat i5478) ((0 : Int) , (0 : Int))).2)) else (Nat.cast x2 : Int)) x3)
       (br (decide ((Int.toNat i5478) < (List.length l5483)))
        (br (decide ((Int.toNat i5478) < (List.length l5483)))
         (c2 (Option.getD (mfind (.int .i64) (.isl (.int .u8)) l5482 (List.getD l5483 (Int.toNat i5478) ((0 : Int) , (0 : Int))).1) (Sh.zero (.isl (.int .u8)))) (if ((Nat.cast (List.length (Option.getD (mfind (.int .i64) (.isl (.int .u8)) l5482 (List.getD l5483 (Int.toNat i5478) ((0 : Int) , (0 : Int))).1) (Sh.zero (.isl (.int .u8))))) : Int) < (IntKind.wrap .i64 ((List.getD l5483 (Int.toNat i5478) ((0 : Int) , (0 : Int))).2 + (Nat.cast ((Int.toNat (if ((IntKind.wrap .i64 ((8 : Int) - (List.getD l5483 (Int.toNat i5478) ((0 : Int) , (0 : Int))).2)) < (Nat.cast x2 : Int)) then (IntKind.wrap .i64 ((8 : Int) - (List.getD l5483 (Int.toNat i5478) ((0 : Int) , (0 : Int))).2)) else (Nat.cast x2 : Int))) - (0 : Nat)) : Int)))) then (IntKind.wrap .i64 ((List.getD l5483 (Int.toNat i5478) ((0 : Int) , (0 : Int))).2 + (Nat.cast ((Int.toNat (if ((IntKind.wrap .i64 ((8 : Int) - (List.getD l5483 (Int.toNat i5478) ((0 : Int) , (0 : Int))).2)) < (Nat.cast x2 : Int)) then (IntKind.wrap .i64 ((8 : Int) - (List.getD l5483 (Int.toNat i5478) ((0 : Int) , (0 : Int))).2)) else (Nat.cast x2 : Int))) - (0 : Nat)) : Int))) else (Nat.cast (List.length (Option.getD (mfind (.int .i64) (.isl (.int .u8)) l5482 (List.getD l5483 (Int.toNat i5478) ((0 : Int) , (0 : Int))).1) (Sh.zero (.isl (.int .u8))))) : Int))
          (fun l5484 => br (decide ((Int.toNat i5478) < (List.length l5483)))
           (br (leB (List.getD l5483 (Int.toNat i5478) ((0 : Int) , (0 : Int))).2 (List.length l5484))
            (br (fits (addN x1 (0 : Nat)) ((Int.toNat (if ((IntKind.wrap .i64 ((8 : Int) - (List.getD l5483 (Int.toNat i5478) ((0 : Int) , (0 : Int))).2)) < (Nat.cast x2 : Int)) then (IntKind.wrap .i64 ((8 : Int) - (List.getD l5483 (Int.toNat i5478) ((0 : Int) , (0 : Int))).2)) else (Nat.cast x2 : Int))) - (0 : Nat)) x11)
             (br (fits (Int.toNat (List.getD l5483 (Int.toNat i5478) ((0 : Int) , (0 : Int))).2) ((List.length l5484) - (Int.toNat (List.getD l5483 (Int.toNat i5478) ((0 : Int) , (0 : Int))).2)) l5484)
              (br (decide ((Int.toNat i5478) < (List.length l5483)))
               (br (fits (0 : Nat) (List.length l5484) ((List.take (Int.toNat (List.getD l5483 (Int.toNat i5478) ((0 : Int) , (0 : Int))).2) l5484) ++ ((List.take (Min.min (List.length (sub x11 (addN x1 (0 : Nat)) ((Int.toNat (if ((IntKind.wrap .i64 ((8 : Int) - (List.getD l5483 (Int.toNat i5478) ((0 : Int) , (0 : Int))).2)) < (Nat.cast x2 : Int)) then (IntKind.wrap .i64 ((8 : Int) - (List.getD l5483 (Int.toNat i5478) ((0 : Int) , (0 : Int))).2)) else (Nat.cast x2 : Int))) - (0 : Nat)))) ((List.length l5484) - (Int.toNat (List.getD l5483 (Int.toNat i5478) ((0 : Int) , (0 : Int))).2))) (sub x11 (addN x1 (0 : Nat)) ((Int.toNat (if ((IntKind.wrap .i64 ((8 : Int) - (List.getD l5483 (Int.toNat i5478) ((0 : Int) , (0 : Int))).2)) < (Nat.cast x2 : Int)) then (IntKind.wrap .i64 ((8 : Int) - (List.getD l5483 (Int.toNat i5478) ((0 : Int) , (0 : Int))).2)) else (Nat.cast x2 : Int))) - (0 : Nat)))) ++ (List.drop ((Int.toNat (List.getD l5483 (Int.toNat i5478) ((0 : Int) , (0 : Int))).2) + (Min.min (List.length (sub x11 (addN x1 (0 : Nat)) ((Int.toNat (if ((IntKind.wrap .i64 ((8 : Int) - (List.getD l5483 (Int.toNat i5478) ((0 : Int) , (0 : Int))).2)) < (Nat.cast x2 : Int)) then (IntKind.wrap .i64 ((8 : Int) - (List.getD l5483 (Int.toNat i5478) ((0 : Int) , (0 : Int))).2)) else (Nat.cast x2 : Int))) - (0 : Nat)))) ((List.length l5484) - (Int.toNat (List.getD l5483 (Int.toNat i5478) ((0 : Int) , (0 : Int))).2)))) l5484))))
                (br (decide ((Int.toNat i5478) < (List.length l5483)))
                 (br (decide ((Int.toNat i5478) < (List.length l5483)))
                  (k0 (IntKind.wrap .u16 (Nat.cast ((Int.toNat (if ((IntKind.wrap .i64 ((8 : Int) - (List.getD l5483 (Int.toNat i5478) ((0 : Int) , (0 : Int))).2)) < (Nat.cast x2 : Int)) then (IntKind.wrap .i64 ((8 : Int) - (List.getD l5483 (Int.toNat i5478) ((0 : Int) , (0 : Int))).2)) else (Nat.cast x2 : Int))) - (0 : Nat)) : Int)) l5479 i5480 l5481 (mput (.int .i64) (.isl (.int .u8)) l5482 (List.getD l5483 (Int.toNat i5478) ((0 : Int) , (0 : Int))).1 (sub ((List.take (Int.toNat (List.getD l5483 (Int.toNat i5478) ((0 : Int) , (0 : Int))).2) l5484) ++ ((List.take (Min.min (List.length (sub x11 (addN x1 (0 : Nat)) ((Int.toNat (if ((IntKind.wrap .i64 ((8 : Int) - (List.getD l5483 (Int.toNat i5478) ((0 : Int) , (0 : Int))).2)) < (Nat.cast x2 : Int)) then (IntKind.wrap .i64 ((8 : Int) - (List.getD l5483 (Int.toNat i5478) ((0 : Int) , (0 : Int))).2)) else (Nat.cast x2 : Int))) - (0 : Nat)))) ((List.length l5484) - (Int.toNat (List.getD l5483 (Int.toNat i5478) ((0 : Int) , (0 : Int))).2))) (sub x11 (addN x1 (0 : Nat)) ((Int.toNat (if ((IntKind.wrap .i64 ((8 : Int) - (List.getD l5483 (Int.toNat i5478) ((0 : Int) , (0 : Int))).2)) < (Nat.cast x2 : Int)) then (IntKind.wrap .i64 ((8 : Int) - (List.getD l5483 (Int.toNat i5478) ((0 : Int) , (0 : Int))).2)) else (Nat.cast x2 : Int))) - (0 : Nat)))) ++ (List.drop ((Int.toNat (List.getD l5483 (Int.toNat i5478) ((0 : Int) , (0 : Int))).2) + (Min.min (List.length (sub x11 (addN x1 (0 : Nat)) ((Int.toNat (if ((IntKind.wrap .i64 ((8 : Int) - (List.getD l5483 (Int.toNat i5478) ((0 : Int) , (0 : Int))).2)) < (Nat.cast x2 : Int)) then (IntKind.wrap .i64 ((8 : Int) - (List.getD l5483 (Int.toNat i5478) ((0 : Int) , (0 : Int))).2)) else (Nat.cast x2 : Int))) - (0 : Nat)))) ((List.length l5484) - (Int.toNat (List.getD l5483 (Int.toNat i5478) ((0 : Int) , (0 : Int))).2)))) l5484))) (0 : Nat) (List.length l5484))) (List.set l5483 (Int.toNat i5478) ((List.getD l5483 (Int.toNat i5478) ((0 : Int) , (0 : Int))).1 , (IntKind.wrap .i64 ((List.getD l5483 (Int.toNat i5478) ((0 : Int) , (0 : Int))).2 + (Nat.cast ((Int.toNat (if ((IntKind.wrap .i64 ((8 : Int) - (List.getD l5483 (Int.toNat i5478) ((0 : Int) , (0 : Int))).2)) < (Nat.cast x2 : Int)) then (IntKind.wrap .i64 ((8 : Int) - (List.getD l5483 (Int.toNat i5478) ((0 : Int) , (0 : Int))).2)) else (Nat.cast x2 : Int))) - (0 : Nat)) : Int))))) x9 x10 x11 x12 x13 x14 x15 x16 x17 x18 x19 x20 x21)
                  (none))
                 (none))
                (none))
               (none))
              (none))
             (none))
            (none))
           (none)))
         (none))
        (none))
       (none))
      (none)))
    (none)))
noncomputable def files_Files_Write_56dc (N : Nat) {R : Type} (x0 : Int) (x1 : Nat) (x2 : Nat) (x3 : Nat) (x4 : List (Int)) (x5 : Int) (x6 : List (((ByteArray) × (ByteArray)) × ((Int) × (Bool)))) (x7 : List ((Int) × (List (Int)))) (x8 : List ((Int) × (Int))) (x9 : Int) (x10 : List (Int)) (x11 : List (Int)) (x12 : Int) (x13 : Int) (x14 : Int) (x15 : List ((Int) × (Int))) (x16 : List (ByteArray)) (x17 : List (Int)) (x18 : Int) (x19 : List (Bool)) (x20 : List (List (Int))) (x21 : List ((Bool) × (Int))) (k0 : (Int) → (List (Int)) → (Int) → (List (((ByteArray) × (ByteArray)) × ((Int) × (Bool)))) → (List ((Int) × (List (Int)))) → (List ((Int) × (Int))) → (Int) → (List (Int)) → (List (Int)) → (Int) → (Int) → (Int) → (List ((Int) × (Int))) → (List (ByteArray)) → (List (Int)) → (Int) → (List (Bool)) → (List (List (Int))) → (List ((Bool) × (Int))) → Option R) : Option R := files_Files_Write_56dc_T N (@files_Files_file N) (@files_Files_file_b447 N) (@files_sized N) x0 x1 x2 x3 x4 x5 x6 x7 x8 x9 x10 x11 x12 x13 x14 x15 x16 x17 x18 x19 x20 x21 k0
abbrev files_Files_Write_b195_Ty : Type 1 := {R : Type} → (Int) → (List (Int)) → (Int) → (List (((ByteArray) × (ByteArray)) × ((Int) × (Bool)))) → (List ((Int) × (List (Int)))) → (List ((Int) × (Int))) → ((Int) → (List (Int)) → (Int) → (List (((ByteArray) × (ByteArray)) × ((Int) × (Bool)))) → (List ((Int) × (List (Int)))) → (List ((Int) × (Int))) → Option R) → Option R
noncomputable def files_Files_Write_b195_T (N : Nat) (c0 : files_Files_file_Ty) (c1 : files_Files_file_b447_Ty) (c2 : files_sized_Ty) {R : Type} (x0 : Int) (x1 : List (Int)) (x2 : Int) (x3 : List (((ByteArray) × (ByteArray)) × ((Int) × (Bool)))) (x4 : List ((Int) × (List (Int)))) (x5 : List ((Int) × (Int))) (k0 : (Int) → (List (Int)) → (Int) → (List (((ByteArray) × (ByteArray)) × ((Int) × (Bool)))) → (List ((Int) × (List (Int)))) → (List ((Int) × (Int))) → Option R) : Option R :=
  c1 x0 x1 x2 x3 x4 x5
  (fun l5634 i5635 l5636 l5637 l5638 => k0 (65289 : Int) l5634 i5635 l5636 l5637 l5638)
  (fun i5639 l5640 i5641 l5642 l5643 l5644 => k0 (0 : Int) l5640 i5641 l5642 l5643 l5644)
noncomputable def files_Files_Write_b195 (N : Nat) {R : Type} (x0 : Int) (x1 : List (Int)) (x2 : Int) (x3 : List (((ByteArray) × (ByteArray)) × ((Int) × (Bool)))) (x4 : List ((Int) × (List (Int)))) (x5 : List ((Int) × (Int))) (k0 : (Int) → (List (Int)) → (Int) → (List (((ByteArray) × (ByteArray)) × ((Int) × (Bool)))) → (List ((Int) × (List (Int)))) → (List ((Int) × (Int))) → Option R) : Option R := files_Files_Write_b195_T N (@files_Files_file N) (@files_Files_file_b447 N) (@files_sized N) x0 x1 x2 x3 x4 x5 k0
end Go.Proofs.YthdgncnbnallcaaGreat
