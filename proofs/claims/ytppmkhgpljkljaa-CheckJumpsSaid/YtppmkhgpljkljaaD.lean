/-
  The functions that the statement reaches, each as a function of Lean (printed by a program of this work).
-/
import Derived.Test.YtppmkhgpljkljaaGx5
set_option linter.unusedVariables false
set_option maxRecDepth 100000
namespace Go.Proofs.Ytppmkhgpljkljaa
open Go.Gx
abbrev stringslite_IndexByte_Ty : Type 1 := {R : Type} → (ByteArray) → (Int) → ((Int) → Option R) → Option R
abbrev stringslite_Index_Ty : Type 1 := {R : Type} → (ByteArray) → (ByteArray) → ((Int) → Option R) → Option R
noncomputable def stringslite_Index_T (N : Nat) (c0 : stringslite_IndexByte_Ty) {R : Type} (x0 : ByteArray) (x1 : ByteArray) (k0 : (Int) → Option R) : Option R :=
  br (!(decide ((Nat.cast (ByteArray.size x1) : Int) = (0 : Int))))
  (br (decide (x1 = x0))
   (k0 (0 : Int))
   (br (decide ((Nat.cast (ByteArray.size x1) : Int) = (1 : Int)))
    (br (inB (0 : Int) (ByteArray.size x1))
     (c0 x0 (bt x1 (0 : Int))
      (fun i0 => k0 i0))
     (none))
    (br (decide ((Nat.cast (ByteArray.size x0) : Int) ≤ (Nat.cast (ByteArray.size x1) : Int)))
     (k0 (-1 : Int))
     (none))))
  (k0 (0 : Int))
noncomputable def stringslite_Index (N : Nat) {R : Type} (x0 : ByteArray) (x1 : ByteArray) (k0 : (Int) → Option R) : Option R := stringslite_Index_T N @stringslite_IndexByte x0 x1 k0
abbrev stringslite_Cut_Ty : Type 1 := {R : Type} → (ByteArray) → (ByteArray) → ((ByteArray) → (ByteArray) → (Bool) → Option R) → Option R
noncomputable def stringslite_Cut_T (N : Nat) (c0 : stringslite_Index_Ty) {R : Type} (x0 : ByteArray) (x1 : ByteArray) (k0 : (ByteArray) → (ByteArray) → (Bool) → Option R) : Option R :=
  c0 x0 x1
  (fun i1 => br (decide ((0 : Int) ≤ i1))
   (br (leB i1 (ByteArray.size x0))
    (br (leB (IntKind.wrap .i64 (i1 + (Nat.cast (ByteArray.size x1) : Int))) (ByteArray.size x0))
     (k0 (ByteArray.extract x0 (0 : Nat) (Int.toNat i1)) (ByteArray.extract x0 (Int.toNat (IntKind.wrap .i64 (i1 + (Nat.cast (ByteArray.size x1) : Int)))) (ByteArray.size x0)) true)
     (none))
    (none))
   (k0 x0 (bs []) false))
noncomputable def stringslite_Cut (N : Nat) {R : Type} (x0 : ByteArray) (x1 : ByteArray) (k0 : (ByteArray) → (ByteArray) → (Bool) → Option R) : Option R := stringslite_Cut_T N (@stringslite_Index N) x0 x1 k0
abbrev strings_Cut_Ty : Type 1 := {R : Type} → (ByteArray) → (ByteArray) → ((ByteArray) → (ByteArray) → (Bool) → Option R) → Option R
noncomputable def strings_Cut_T (N : Nat) (c0 : stringslite_Cut_Ty) {R : Type} (x0 : ByteArray) (x1 : ByteArray) (k0 : (ByteArray) → (ByteArray) → (Bool) → Option R) : Option R :=
  c0 x0 x1
  (fun s2 s3 b4 => k0 s2 s3 b4)
noncomputable def strings_Cut (N : Nat) {R : Type} (x0 : ByteArray) (x1 : ByteArray) (k0 : (ByteArray) → (ByteArray) → (Bool) → Option R) : Option R := strings_Cut_T N (@stringslite_Cut N) x0 x1 k0
abbrev check_letter_Ty : Type 1 := {R : Type} → (Int) → ((Bool) → Option R) → Option R
noncomputable def check_letter_T (N : Nat) {R : Type} (x0 : Int) (k0 : (Bool) → Option R) : Option R :=
  br (decide ((97 : Int) ≤ x0))
  (br (!(decide (x0 ≤ (122 : Int))))
   (br (decide ((48 : Int) ≤ x0))
    (br (!(decide (x0 ≤ (57 : Int))))
     (br (!(decide (x0 = (46 : Int))))
      (k0 (decide (x0 = (95 : Int))))
      (k0 true))
     (k0 true))
    (br (!(decide (x0 = (46 : Int))))
     (k0 (decide (x0 = (95 : Int))))
     (k0 true)))
   (k0 true))
  (br (decide ((48 : Int) ≤ x0))
   (br (!(decide (x0 ≤ (57 : Int))))
    (br (!(decide (x0 = (46 : Int))))
     (k0 (decide (x0 = (95 : Int))))
     (k0 true))
    (k0 true))
   (br (!(decide (x0 = (46 : Int))))
    (k0 (decide (x0 = (95 : Int))))
    (k0 true)))
noncomputable def check_letter (N : Nat) {R : Type} (x0 : Int) (k0 : (Bool) → Option R) : Option R := check_letter_T N x0 k0
abbrev check_part_l0_Ty : Type 1 := {R : Type} → ((ByteArray) → (Bool) → Option R) → ((ByteArray) → Option R) → Nat → (ByteArray) → (Int) → (Int) → Option R
abbrev check_part_Ty : Type 1 := {R : Type} → (ByteArray) → ((Bool) → Option R) → Option R
noncomputable def check_part_l0_T0 (N : Nat) (c0 : check_letter_Ty) {R : Type} (nx : (ByteArray) → (Int) → (Int) → Option R) (k0 : (ByteArray) → (Bool) → Option R) (k1 : (ByteArray) → Option R) (x0 : ByteArray) (x1 : Int) (x2 : Int) : Option R :=
  br (decide (x2 < x1))
  (br (inB x2 (ByteArray.size x0))
   (c0 (bt x0 x2)
    (fun b8 => br (!b8)
     (k0 x0 false)
     (nx x0 x1 (IntKind.wrap .i64 (x2 + (1 : Int))))))
   (none))
  (k1 x0)
noncomputable def check_part_l0 (N : Nat) {R : Type} (k0 : (ByteArray) → (Bool) → Option R) (k1 : (ByteArray) → Option R) : Nat → (ByteArray) → (Int) → (Int) → Option R
  | 0, _, _, _ => none
  | n + 1, x0, x1, x2 => check_part_l0_T0 N (@check_letter N) (fun x0 x1 x2 => check_part_l0 N k0 k1 n x0 x1 x2) k0 k1 x0 x1 x2
noncomputable def check_part_T (N : Nat) (c0 : check_letter_Ty) (w0 : check_part_l0_Ty) {R : Type} (x0 : ByteArray) (k0 : (Bool) → Option R) : Option R :=
  w0
  (fun s9 b10 => k0 b10)
  (fun s11 => br (!(decide (s11 = (bs []))))
   (br (!(decide (s11 = (bs [46]))))
    (k0 (!(decide (s11 = (bs [46, 46])))))
    (k0 false))
   (k0 false))
  N x0 (Nat.cast (ByteArray.size x0) : Int) (0 : Int)
noncomputable def check_part (N : Nat) {R : Type} (x0 : ByteArray) (k0 : (Bool) → Option R) : Option R := check_part_T N (@check_letter N) (@check_part_l0 N) x0 k0
abbrev check_Name_Ty : Type 1 := {R : Type} → (ByteArray) → ((Bool) → Option R) → Option R
noncomputable def check_Name_T (N : Nat) (c0 : check_part_Ty) (c1 : strings_Cut_Ty) {R : Type} (x0 : ByteArray) (k0 : (Bool) → Option R) : Option R :=
  br (decide ((8 : Int) < (Nat.cast (ByteArray.size x0) : Int)))
  (k0 false)
  (c1 x0 (bs [47])
   (fun s5 s6 b7 => c0 s5
    (fun b12 => br b12
     (br (!(!b7))
      (c0 s6
       (fun b13 => k0 b13))
      (k0 true))
     (k0 false))))
noncomputable def check_Name (N : Nat) {R : Type} (x0 : ByteArray) (k0 : (Bool) → Option R) : Option R := check_Name_T N (@check_part N) (@strings_Cut N) x0 k0
abbrev inst_table_Ty : Type 1 := {R : Type} → (Int) → ((Int) → (Int) → (Int) → (Bool) → Option R) → Option R
noncomputable def inst_table_T (N : Nat) {R : Type} (x0 : Int) (k0 : (Int) → (Int) → (Int) → (Bool) → Option R) : Option R :=
  br (decide (x0 = (1 : Int)))
  (k0 (0 : Int) (1 : Int) (65536 : Int) true)
  (br (decide (x0 = (2 : Int)))
   (k0 (1 : Int) (0 : Int) (1 : Int) true)
   (br (decide (x0 = (24 : Int)))
    (k0 (1 : Int) (0 : Int) (1 : Int) true)
    (br (decide (x0 = (25 : Int)))
     (k0 (1 : Int) (0 : Int) (1 : Int) true)
     (br (decide (x0 = (26 : Int)))
      (k0 (1 : Int) (0 : Int) (1 : Int) true)
      (br (decide (x0 = (3 : Int)))
       (k0 (1 : Int) (2 : Int) (1 : Int) true)
       (br (decide (x0 = (4 : Int)))
        (k0 (2 : Int) (2 : Int) (1 : Int) true)
        (br (decide (x0 = (5 : Int)))
         (k0 (2 : Int) (1 : Int) (1 : Int) true)
         (br (decide (x0 = (6 : Int)))
          (k0 (2 : Int) (1 : Int) (1 : Int) true)
          (br (decide (x0 = (7 : Int)))
           (k0 (2 : Int) (1 : Int) (1 : Int) true)
           (br (decide (x0 = (8 : Int)))
            (k0 (2 : Int) (1 : Int) (1 : Int) true)
            (br (decide (x0 = (9 : Int)))
             (k0 (2 : Int) (1 : Int) (1 : Int) true)
             (br (decide (x0 = (10 : Int)))
              (k0 (2 : Int) (1 : Int) (1 : Int) true)
              (br (decide (x0 = (11 : Int)))
               (k0 (2 : Int) (1 : Int) (1 : Int) true)
               (br (decide (x0 = (12 : Int)))
                (k0 (2 : Int) (1 : Int) (1 : Int) true)
                (br (decide (x0 = (13 : Int)))
                 (k0 (2 : Int) (1 : Int) (1 : Int) true)
                 (br (decide (x0 = (14 : Int)))
                  (k0 (2 : Int) (1 : Int) (1 : Int) true)
                  (br (decide (x0 = (15 : Int)))
                   (k0 (2 : Int) (1 : Int) (1 : Int) true)
                   (br (decide (x0 = (16 : Int)))
                    (k0 (2 : Int) (1 : Int) (1 : Int) true)
                    (br (decide (x0 = (31 : Int)))
                     (k0 (2 : Int) (1 : Int) (1 : Int) true)
                     (br (decide (x0 = (38 : Int)))
                      (k0 (2 : Int) (1 : Int) (1 : Int) true)
                      (br (decide (x0 = (41 : Int)))
                       (k0 (2 : Int) (1 : Int) (1 : Int) true)
                       (br (decide (x0 = (17 : Int)))
                        (k0 (1 : Int) (1 : Int) (1 : Int) true)
                        (br (decide (x0 = (20 : Int)))
                         (k0 (1 : Int) (1 : Int) (1 : Int) true)
                         (br (decide (x0 = (28 : Int)))
                          (k0 (1 : Int) (1 : Int) (1 : Int) true)
                          (br (decide (x0 = (32 : Int)))
                           (k0 (1 : Int) (1 : Int) (1 : Int) true)
                           (br (decide (x0 = (39 : Int)))
                            (k0 (1 : Int) (1 : Int) (1 : Int) true)
                            (br (decide (x0 = (18 : Int)))
                             (k0 (0 : Int) (1 : Int) (8 : Int) true)
                             (br (decide (x0 = (19 : Int)))
                              (k0 (1 : Int) (0 : Int) (8 : Int) true)
                              (br (decide (x0 = (21 : Int)))
                               (k0 (2 : Int) (0 : Int) (1 : Int) true)
                               (br (decide (x0 = (22 : Int)))
                                (k0 (0 : Int) (0 : Int) (96 : Int) true)
                                (br (decide (x0 = (23 : Int)))
                                 (k0 (1 : Int) (0 : Int) (96 : Int) true)
                                 (br (decide (x0 = (29 : Int)))
                                  (k0 (3 : Int) (1 : Int) (1 : Int) true)
                                  (br (decide (x0 = (30 : Int)))
                                   (k0 (3 : Int) (1 : Int) (1 : Int) true)
                                   (br (decide (x0 = (27 : Int)))
                                    (k0 (0 : Int) (1 : Int) (8 : Int) true)
                                    (br (decide (x0 = (33 : Int)))
                                     (k0 (0 : Int) (1 : Int) (8 : Int) true)
                                     (br (decide (x0 = (35 : Int)))
                                      (k0 (0 : Int) (1 : Int) (8 : Int) true)
                                      (br (decide (x0 = (36 : Int)))
                                       (k0 (0 : Int) (1 : Int) (8 : Int) true)
                                       (br (decide (x0 = (37 : Int)))
                                        (k0 (0 : Int) (1 : Int) (8 : Int) true)
                                        (br (decide (x0 = (34 : Int)))
                                         (k0 (0 : Int) (1 : Int) (64 : Int) true)
                                         (br (decide (x0 = (40 : Int)))
                                          (k0 (0 : Int) (1 : Int) (1 : Int) true)
                                          (k0 (0 : Int) (0 : Int) (0 : Int) false)))))))))))))))))))))))))))))))))))))))))
noncomputable def inst_table (N : Nat) {R : Type} (x0 : Int) (k0 : (Int) → (Int) → (Int) → (Bool) → Option R) : Option R := inst_table_T N x0 k0
abbrev inst_May_Ty : Type 1 := {R : Type} → (Int) → (Int) → ((Bool) → Option R) → Option R
noncomputable def inst_May_T (N : Nat) (c0 : inst_table_Ty) {R : Type} (x0 : Int) (x1 : Int) (k0 : (Bool) → Option R) : Option R :=
  c0 x0
  (fun i21 i22 i23 b24 => br b24
   (br (decide ((0 : Int) ≤ x1))
    (k0 (decide (x1 < i23)))
    (k0 false))
   (k0 false))
noncomputable def inst_May (N : Nat) {R : Type} (x0 : Int) (x1 : Int) (k0 : (Bool) → Option R) : Option R := inst_May_T N (@inst_table N) x0 x1 k0
abbrev check_names_Ty : Type 1 := {R : Type} → (Int) → (Int) → (Int) → ((Bool) → Option R) → Option R
noncomputable def check_names_T (N : Nat) {R : Type} (x0 : Int) (x1 : Int) (x2 : Int) (k0 : (Bool) → Option R) : Option R :=
  br (decide (x0 = (27 : Int)))
  (k0 (decide (x1 < x2)))
  (br (decide (x0 = (33 : Int)))
   (k0 (decide (x1 < x2)))
   (br (decide (x0 = (35 : Int)))
    (k0 (decide (x1 < x2)))
    (br (decide (x0 = (36 : Int)))
     (k0 (decide (x1 < x2)))
     (br (decide (x0 = (37 : Int)))
      (k0 (decide (x1 < x2)))
      (br (decide (x0 = (34 : Int)))
       (br (decide ((IntKind.wrap .i64 (Int.tdiv x1 (8 : Int))) < x2))
        (k0 (decide ((Int.tmod x1 (8 : Int)) < x2)))
        (k0 false))
       (k0 true))))))
noncomputable def check_names (N : Nat) {R : Type} (x0 : Int) (x1 : Int) (x2 : Int) (k0 : (Bool) → Option R) : Option R := check_names_T N x0 x1 x2 k0
abbrev inst_Jumps_Ty : Type 1 := {R : Type} → (Int) → ((Bool) → Option R) → Option R
noncomputable def inst_Jumps_T (N : Nat) {R : Type} (x0 : Int) (k0 : (Bool) → Option R) : Option R :=
  br (!(decide (x0 = (22 : Int))))
  (k0 (decide (x0 = (23 : Int))))
  (k0 true)
noncomputable def inst_Jumps (N : Nat) {R : Type} (x0 : Int) (k0 : (Bool) → Option R) : Option R := inst_Jumps_T N x0 k0
abbrev inst_Ends_Ty : Type 1 := {R : Type} → (Int) → ((Bool) → Option R) → Option R
noncomputable def inst_Ends_T (N : Nat) {R : Type} (x0 : Int) (k0 : (Bool) → Option R) : Option R :=
  br (!(decide (x0 = (22 : Int))))
  (k0 (decide (x0 = (26 : Int))))
  (k0 true)
noncomputable def inst_Ends (N : Nat) {R : Type} (x0 : Int) (k0 : (Bool) → Option R) : Option R := inst_Ends_T N x0 k0
abbrev check_one_ebbf_Ty : Type 1 := {R : Type} → (Int) → (List ((Int) × (Int))) → (List (ByteArray)) → ((Int) → (List ((Int) × (Int))) → (List (ByteArray)) → Option R) → Option R
noncomputable def check_one_ebbf_T (N : Nat) (c0 : inst_Ends_Ty) (c1 : inst_Jumps_Ty) (c2 : check_names_Ty) (c3 : inst_May_Ty) {R : Type} (x0 : Int) (x1 : List ((Int) × (Int))) (x2 : List (ByteArray)) (k0 : (Int) → (List ((Int) × (Int))) → (List (ByteArray)) → Option R) : Option R :=
  br (inB x0 (List.length x1))
  (br (decide ((Int.toNat x0) < (List.length x1)))
   (c3 (List.getD x1 (Int.toNat x0) ((0 : Int) , (0 : Int))).1 (List.getD x1 (Int.toNat x0) ((0 : Int) , (0 : Int))).2
    (fun b25 => br (!b25)
     (k0 (5 : Int) x1 x2)
     (c2 (List.getD x1 (Int.toNat x0) ((0 : Int) , (0 : Int))).1 (List.getD x1 (Int.toNat x0) ((0 : Int) , (0 : Int))).2 (Nat.cast (List.length x2) : Int)
      (fun b26 => br (!b26)
       (k0 (10 : Int) x1 x2)
       (c1 (List.getD x1 (Int.toNat x0) ((0 : Int) , (0 : Int))).1
        (fun b27 => br b27
         (br (decide ((Nat.cast (List.length x1) : Int) ≤ (List.getD x1 (Int.toNat x0) ((0 : Int) , (0 : Int))).2))
          (k0 (6 : Int) x1 x2)
          (c0 (List.getD x1 (Int.toNat x0) ((0 : Int) , (0 : Int))).1
           (fun b28 => br (!b28)
            (br (decide ((IntKind.wrap .i64 (x0 + (1 : Int))) = (Nat.cast (List.length x1) : Int)))
             (k0 (8 : Int) x1 x2)
             (k0 (0 : Int) x1 x2))
            (k0 (0 : Int) x1 x2))))
         (c0 (List.getD x1 (Int.toNat x0) ((0 : Int) , (0 : Int))).1
          (fun b29 => br (!b29)
           (br (decide ((IntKind.wrap .i64 (x0 + (1 : Int))) = (Nat.cast (List.length x1) : Int)))
            (k0 (8 : Int) x1 x2)
            (k0 (0 : Int) x1 x2))
           (k0 (0 : Int) x1 x2)))))))))
   (none))
  (none)
noncomputable def check_one_ebbf (N : Nat) {R : Type} (x0 : Int) (x1 : List ((Int) × (Int))) (x2 : List (ByteArray)) (k0 : (Int) → (List ((Int) × (Int))) → (List (ByteArray)) → Option R) : Option R := check_one_ebbf_T N (@inst_Ends N) (@inst_Jumps N) (@check_names N) (@inst_May N) x0 x1 x2 k0
abbrev inst_Takes_Ty : Type 1 := {R : Type} → (Int) → ((Int) → Option R) → Option R
noncomputable def inst_Takes_T (N : Nat) (c0 : inst_table_Ty) {R : Type} (x0 : Int) (k0 : (Int) → Option R) : Option R :=
  c0 x0
  (fun i39 i40 i41 b42 => br (!b42)
   (k0 (-1 : Int))
   (k0 i39))
noncomputable def inst_Takes (N : Nat) {R : Type} (x0 : Int) (k0 : (Int) → Option R) : Option R := inst_Takes_T N (@inst_table N) x0 k0
abbrev inst_Gives_Ty : Type 1 := {R : Type} → (Int) → ((Int) → Option R) → Option R
noncomputable def inst_Gives_T (N : Nat) (c0 : inst_table_Ty) {R : Type} (x0 : Int) (k0 : (Int) → Option R) : Option R :=
  c0 x0
  (fun i44 i45 i46 b47 => br (!b47)
   (k0 (-1 : Int))
   (k0 i45))
noncomputable def inst_Gives (N : Nat) {R : Type} (x0 : Int) (k0 : (Int) → Option R) : Option R := inst_Gives_T N (@inst_table N) x0 k0
abbrev check_behind_Ty : Type 1 := {R : Type} → (Int) → (Int) → (Int) → ((Int) → (Bool) → Option R) → Option R
noncomputable def check_behind_T (N : Nat) (c0 : inst_Gives_Ty) (c1 : inst_Takes_Ty) {R : Type} (x0 : Int) (x1 : Int) (x2 : Int) (k0 : (Int) → (Bool) → Option R) : Option R :=
  c1 x0
  (fun i43 => c0 x0
   (fun i48 => br (decide ((0 : Int) ≤ (IntKind.wrap .i64 (x2 - i43))))
    (k0 (IntKind.wrap .i64 ((IntKind.wrap .i64 (x2 - i43)) + i48)) (decide ((IntKind.wrap .i64 ((IntKind.wrap .i64 (x2 - i43)) + i48)) ≤ (16 : Int))))
    (k0 (IntKind.wrap .i64 ((IntKind.wrap .i64 (x2 - i43)) + i48)) false)))
noncomputable def check_behind (N : Nat) {R : Type} (x0 : Int) (x1 : Int) (x2 : Int) (k0 : (Int) → (Bool) → Option R) : Option R := check_behind_T N (@inst_Gives N) (@inst_Takes N) x0 x1 x2 k0
abbrev check_next_ebbf_Ty : Type 1 := {R : Type} → (Int) → (List ((Int) × (Int))) → (List (ByteArray)) → ((List ((Int) × (Int))) → (List (ByteArray)) → (List (Int)) → Option R) → Option R
noncomputable def check_next_ebbf_T (N : Nat) (c0 : inst_Jumps_Ty) (c1 : inst_Ends_Ty) {R : Type} (x0 : Int) (x1 : List ((Int) × (Int))) (x2 : List (ByteArray)) (k0 : (List ((Int) × (Int))) → (List (ByteArray)) → (List (Int)) → Option R) : Option R :=
  br (inB x0 (List.length x1))
  (br (decide ((Int.toNat x0) < (List.length x1)))
   (c1 (List.getD x1 (Int.toNat x0) ((0 : Int) , (0 : Int))).1
    (fun b54 => br (!b54)
     (c0 (List.getD x1 (Int.toNat x0) ((0 : Int) , (0 : Int))).1
      (fun b55 => br b55
       (k0 x1 x2 ((IntKind.wrap .i64 (x0 + (1 : Int))) :: ((List.getD x1 (Int.toNat x0) ((0 : Int) , (0 : Int))).2 :: ([] : List ((Sh.int IntKind.i64).T)))))
       (k0 x1 x2 ((IntKind.wrap .i64 (x0 + (1 : Int))) :: ([] : List ((Sh.int IntKind.i64).T))))))
     (c0 (List.getD x1 (Int.toNat x0) ((0 : Int) , (0 : Int))).1
      (fun b56 => br b56
       (k0 x1 x2 ((List.getD x1 (Int.toNat x0) ((0 : Int) , (0 : Int))).2 :: ([] : List ((Sh.int IntKind.i64).T))))
       (k0 x1 x2 ([] : List ((Sh.int IntKind.i64).T)))))))
   (none))
  (none)
noncomputable def check_next_ebbf (N : Nat) {R : Type} (x0 : Int) (x1 : List ((Int) × (Int))) (x2 : List (ByteArray)) (k0 : (List ((Int) × (Int))) → (List (ByteArray)) → (List (Int)) → Option R) : Option R := check_next_ebbf_T N (@inst_Jumps N) (@inst_Ends N) x0 x1 x2 k0
abbrev check_reach_87f1_l0_Ty : Type 1 := {R : Type} → ((List ((Int) × (Int))) → (List (ByteArray)) → (List (Bool)) → Option R) → Nat → (Bool) → (List ((Int) × (Int))) → (List (ByteArray)) → (List (Bool)) → Option R
abbrev check_reach_87f1_l1_Ty : Type 1 := {R : Type} → ((Bool) → (List ((Int) × (Int))) → (List (ByteArray)) → (List (Bool)) → Option R) → Nat → (Bool) → (Int) → (Int) → (List ((Int) × (Int))) → (List (ByteArray)) → (List (Bool)) → Option R
abbrev check_reach_87f1_l2_Ty : Type 1 := {R : Type} → ((Bool) → (Int) → (Int) → (List ((Int) × (Int))) → (List (ByteArray)) → (List (Bool)) → Option R) → Nat → (Bool) → (Int) → (Int) → (Int) → (List (Bool)) → (Int) → (List ((Int) × (Int))) → (List (ByteArray)) → (List (Bool)) → (Int) → (Int) → Option R
abbrev check_reach_87f1_l3_Ty : Type 1 := {R : Type} → ((Bool) → (Int) → (Int) → (Int) → (List (Bool)) → (Int) → (List ((Int) × (Int))) → (List (ByteArray)) → (List (Bool)) → (Int) → (Int) → Option R) → Nat → (Bool) → (Int) → (Int) → (Int) → (Int) → (List (Bool)) → (Int) → (Int) → (Int) → (List ((Int) × (Int))) → (List (ByteArray)) → (List (Bool)) → (Int) → (Int) → (List (Int)) → Option R
abbrev check_reach_87f1_Ty : Type 1 := {R : Type} → (List ((Int) × (Int))) → (List (ByteArray)) → ((List ((Int) × (Int))) → (List (ByteArray)) → (List (Bool)) → Option R) → Option R
noncomputable def check_reach_87f1_l0_T0 (N : Nat) (c0 : check_next_ebbf_Ty) (c1 : check_behind_Ty) (w1 : check_reach_87f1_l1_Ty) (w2 : check_reach_87f1_l2_Ty) (w3 : check_reach_87f1_l3_Ty) {R : Type} (nx : (Bool) → (List ((Int) × (Int))) → (List (ByteArray)) → (List (Bool)) → Option R) (k0 : (List ((Int) × (Int))) → (List (ByteArray)) → (List (Bool)) → Option R) (x0 : Bool) (x1 : List ((Int) × (Int))) (x2 : List (ByteArray)) (x3 : List (Bool)) : Option R :=
  br x0
  (w1
   (fun b77 l78 l79 l80 => nx b77 l78 l79 l80)
   N false (Nat.cast (List.length x1) : Int) (0 : Int) x1 x2 x3)
  (k0 x1 x2 x3)
noncomputable def check_reach_87f1_l1_T0 (N : Nat) (c0 : check_next_ebbf_Ty) (c1 : check_behind_Ty) (w2 : check_reach_87f1_l2_Ty) (w3 : check_reach_87f1_l3_Ty) {R : Type} (nx : (Bool) → (Int) → (Int) → (List ((Int) × (Int))) → (List (ByteArray)) → (List (Bool)) → Option R) (k0 : (Bool) → (List ((Int) × (Int))) → (List (ByteArray)) → (List (Bool)) → Option R) (x0 : Bool) (x1 : Int) (x2 : Int) (x3 : List ((Int) × (Int))) (x4 : List (ByteArray)) (x5 : List (Bool)) : Option R :=
  br (decide (x2 < x1))
  (br (inB x2 (List.length x3))
   (br (decide ((Int.toNat x2) < (List.length x3)))
    (br (inB x2 (96 : Nat))
     (br (decide ((((Int.toNat x2) + (1 : Nat)) * (17 : Nat)) ≤ (1632 : Nat)))
      (w2
       (fun b71 i72 i73 l74 l75 l76 => nx b71 i72 (IntKind.wrap .i64 (i73 + (1 : Int))) l74 l75 l76)
       N x0 x2 x1 x2 (sub x5 ((Int.toNat x2) * (17 : Nat)) (17 : Nat)) (0 : Int) x3 x4 x5 (List.getD x3 (Int.toNat x2) ((0 : Int) , (0 : Int))).1 (List.getD x3 (Int.toNat x2) ((0 : Int) , (0 : Int))).2)
      (none))
     (none))
    (none))
   (none))
  (k0 x0 x3 x4 x5)
noncomputable def check_reach_87f1_l2_T0 (N : Nat) (c0 : check_next_ebbf_Ty) (c1 : check_behind_Ty) (w3 : check_reach_87f1_l3_Ty) {R : Type} (nx : (Bool) → (Int) → (Int) → (Int) → (List (Bool)) → (Int) → (List ((Int) × (Int))) → (List (ByteArray)) → (List (Bool)) → (Int) → (Int) → Option R) (k0 : (Bool) → (Int) → (Int) → (List ((Int) × (Int))) → (List (ByteArray)) → (List (Bool)) → Option R) (x0 : Bool) (x1 : Int) (x2 : Int) (x3 : Int) (x4 : List (Bool)) (x5 : Int) (x6 : List ((Int) × (Int))) (x7 : List (ByteArray)) (x8 : List (Bool)) (x9 : Int) (x10 : Int) : Option R :=
  br (decide (x5 < (17 : Int)))
  (br (inB x5 (17 : Nat))
   (c1 x9 x10 x5
    (fun i49 b50 => br (!(!(List.getD x4 (Int.toNat x5) false)))
     (br (!b50)
      (nx x0 x1 x2 x3 x4 (IntKind.wrap .i64 (x5 + (1 : Int))) x6 x7 x8 x9 x10)
      (c0 x1 x6 x7
       (fun l57 l58 l59 => w3
        (fun b60 i61 i62 i63 l64 i65 l66 l67 l68 i69 i70 => nx b60 i61 i62 i63 l64 (IntKind.wrap .i64 (i65 + (1 : Int))) l66 l67 l68 i69 i70)
        N x0 x1 i49 x2 x3 x4 x5 (Nat.cast (List.length l59) : Int) (0 : Int) l57 l58 x8 x9 x10 l59)))
     (nx x0 x1 x2 x3 x4 (IntKind.wrap .i64 (x5 + (1 : Int))) x6 x7 x8 x9 x10)))
   (none))
  (k0 x0 x2 x3 x6 x7 x8)
noncomputable def check_reach_87f1_l3_T0 (N : Nat) (c0 : check_next_ebbf_Ty) (c1 : check_behind_Ty) {R : Type} (nx : (Bool) → (Int) → (Int) → (Int) → (Int) → (List (Bool)) → (Int) → (Int) → (Int) → (List ((Int) × (Int))) → (List (ByteArray)) → (List (Bool)) → (Int) → (Int) → (List (Int)) → Option R) (k0 : (Bool) → (Int) → (Int) → (Int) → (List (Bool)) → (Int) → (List ((Int) × (Int))) → (List (ByteArray)) → (List (Bool)) → (Int) → (Int) → Option R) (x0 : Bool) (x1 : Int) (x2 : Int) (x3 : Int) (x4 : Int) (x5 : List (Bool)) (x6 : Int) (x7 : Int) (x8 : Int) (x9 : List ((Int) × (Int))) (x10 : List (ByteArray)) (x11 : List (Bool)) (x12 : Int) (x13 : Int) (x14 : List (Int)) : Option R :=
  br (decide (x8 < x7))
  (br (inB x8 (List.length x14))
   (br (decide ((Int.toNat x8) < (List.length x14)))
    (br (!x0)
     (br (inB (List.getD x14 (Int.toNat x8) (0 : Int)) (96 : Nat))
      (br ((inB x2 (17 : Nat)) && (decide ((0 : Int) ≤ (List.getD x14 (Int.toNat x8) (0 : Int)))))
       (br (decide ((Int.toNat (((List.getD x14 (Int.toNat x8) (0 : Int)) * (17 : Int)) + x2)) < (1632 : Nat)))
        (br (inB (List.getD x14 (Int.toNat x8) (0 : Int)) (96 : Nat))
         (br ((inB x2 (17 : Nat)) && (decide ((0 : Int) ≤ (List.getD x14 (Int.toNat x8) (0 : Int)))))
          (br (decide ((Int.toNat (((List.getD x14 (Int.toNat x8) (0 : Int)) * (17 : Int)) + x2)) < (1632 : Nat)))
           (nx (!(List.getD x11 (Int.toNat (((List.getD x14 (Int.toNat x8) (0 : Int)) * (17 : Int)) + x2)) false)) x1 x2 x3 x4 x5 x6 x7 (IntKind.wrap .i64 (x8 + (1 : Int))) x9 x10 (List.set x11 (Int.toNat (((List.getD x14 (Int.toNat x8) (0 : Int)) * (17 : Int)) + x2)) true) x12 x13 x14)
           (none))
          (none))
         (none))
        (none))
       (none))
      (none))
     (br (inB (List.getD x14 (Int.toNat x8) (0 : Int)) (96 : Nat))
      (br ((inB x2 (17 : Nat)) && (decide ((0 : Int) ≤ (List.getD x14 (Int.toNat x8) (0 : Int)))))
       (br (decide ((Int.toNat (((List.getD x14 (Int.toNat x8) (0 : Int)) * (17 : Int)) + x2)) < (1632 : Nat)))
        (nx true x1 x2 x3 x4 x5 x6 x7 (IntKind.wrap .i64 (x8 + (1 : Int))) x9 x10 (List.set x11 (Int.toNat (((List.getD x14 (Int.toNat x8) (0 : Int)) * (17 : Int)) + x2)) true) x12 x13 x14)
        (none))
       (none))
      (none)))
    (none))
   (none))
  (k0 x0 x1 x3 x4 x5 x6 x9 x10 x11 x12 x13)
noncomputable def check_reach_87f1_l3 (N : Nat) {R : Type} (k0 : (Bool) → (Int) → (Int) → (Int) → (List (Bool)) → (Int) → (List ((Int) × (Int))) → (List (ByteArray)) → (List (Bool)) → (Int) → (Int) → Option R) : Nat → (Bool) → (Int) → (Int) → (Int) → (Int) → (List (Bool)) → (Int) → (Int) → (Int) → (List ((Int) × (Int))) → (List (ByteArray)) → (List (Bool)) → (Int) → (Int) → (List (Int)) → Option R
  | 0, _, _, _, _, _, _, _, _, _, _, _, _, _, _, _ => none
  | n + 1, x0, x1, x2, x3, x4, x5, x6, x7, x8, x9, x10, x11, x12, x13, x14 => check_reach_87f1_l3_T0 N (@check_next_ebbf N) (@check_behind N) (fun x0 x1 x2 x3 x4 x5 x6 x7 x8 x9 x10 x11 x12 x13 x14 => check_reach_87f1_l3 N k0 n x0 x1 x2 x3 x4 x5 x6 x7 x8 x9 x10 x11 x12 x13 x14) k0 x0 x1 x2 x3 x4 x5 x6 x7 x8 x9 x10 x11 x12 x13 x14
noncomputable def check_reach_87f1_l2 (N : Nat) {R : Type} (k0 : (Bool) → (Int) → (Int) → (List ((Int) × (Int))) → (List (ByteArray)) → (List (Bool)) → Option R) : Nat → (Bool) → (Int) → (Int) → (Int) → (List (Bool)) → (Int) → (List ((Int) × (Int))) → (List (ByteArray)) → (List (Bool)) → (Int) → (Int) → Option R
  | 0, _, _, _, _, _, _, _, _, _, _, _ => none
  | n + 1, x0, x1, x2, x3, x4, x5, x6, x7, x8, x9, x10 => check_reach_87f1_l2_T0 N (@check_next_ebbf N) (@check_behind N) (@check_reach_87f1_l3 N) (fun x0 x1 x2 x3 x4 x5 x6 x7 x8 x9 x10 => check_reach_87f1_l2 N k0 n x0 x1 x2 x3 x4 x5 x6 x7 x8 x9 x10) k0 x0 x1 x2 x3 x4 x5 x6 x7 x8 x9 x10
noncomputable def check_reach_87f1_l1 (N : Nat) {R : Type} (k0 : (Bool) → (List ((Int) × (Int))) → (List (ByteArray)) → (List (Bool)) → Option R) : Nat → (Bool) → (Int) → (Int) → (List ((Int) × (Int))) → (List (ByteArray)) → (List (Bool)) → Option R
  | 0, _, _, _, _, _, _ => none
  | n + 1, x0, x1, x2, x3, x4, x5 => check_reach_87f1_l1_T0 N (@check_next_ebbf N) (@check_behind N) (@check_reach_87f1_l2 N) (@check_reach_87f1_l3 N) (fun x0 x1 x2 x3 x4 x5 => check_reach_87f1_l1 N k0 n x0 x1 x2 x3 x4 x5) k0 x0 x1 x2 x3 x4 x5
noncomputable def check_reach_87f1_l0 (N : Nat) {R : Type} (k0 : (List ((Int) × (Int))) → (List (ByteArray)) → (List (Bool)) → Option R) : Nat → (Bool) → (List ((Int) × (Int))) → (List (ByteArray)) → (List (Bool)) → Option R
  | 0, _, _, _, _ => none
  | n + 1, x0, x1, x2, x3 => check_reach_87f1_l0_T0 N (@check_next_ebbf N) (@check_behind N) (@check_reach_87f1_l1 N) (@check_reach_87f1_l2 N) (@check_reach_87f1_l3 N) (fun x0 x1 x2 x3 => check_reach_87f1_l0 N k0 n x0 x1 x2 x3) k0 x0 x1 x2 x3
noncomputable def check_reach_87f1_T (N : Nat) (c0 : check_next_ebbf_Ty) (c1 : check_behind_Ty) (w0 : check_reach_87f1_l0_Ty) (w1 : check_reach_87f1_l1_Ty) (w2 : check_reach_87f1_l2_Ty) (w3 : check_reach_87f1_l3_Ty) {R : Type} (x0 : List ((Int) × (Int))) (x1 : List (ByteArray)) (k0 : (List ((Int) × (Int))) → (List (ByteArray)) → (List (Bool)) → Option R) : Option R :=
  w0
  (fun l81 l82 l83 => k0 l81 l82 l83)
  N true x0 x1 (List.set (List.replicate (1632 : Nat) false) (Int.toNat (((0 : Int) * (17 : Int)) + (0 : Int))) true)
noncomputable def check_reach_87f1 (N : Nat) {R : Type} (x0 : List ((Int) × (Int))) (x1 : List (ByteArray)) (k0 : (List ((Int) × (Int))) → (List (ByteArray)) → (List (Bool)) → Option R) : Option R := check_reach_87f1_T N (@check_next_ebbf N) (@check_behind N) (@check_reach_87f1_l0 N) (@check_reach_87f1_l1 N) (@check_reach_87f1_l2 N) (@check_reach_87f1_l3 N) x0 x1 k0
abbrev check_height_866d_l0_Ty : Type 1 := {R : Type} → ((Int) → (Bool) → (List ((Int) × (Int))) → (List (ByteArray)) → (List (Bool)) → Option R) → Nat → (Int) → (Int) → (Bool) → (List (Bool)) → (Int) → (List ((Int) × (Int))) → (List (ByteArray)) → (List (Bool)) → Option R
abbrev check_height_866d_Ty : Type 1 := {R : Type} → (Int) → (List ((Int) × (Int))) → (List (ByteArray)) → (List (Bool)) → ((Int) → (Bool) → (List ((Int) × (Int))) → (List (ByteArray)) → (List (Bool)) → Option R) → Option R
noncomputable def check_height_866d_l0_T0 (N : Nat) (c0 : check_behind_Ty) {R : Type} (nx : (Int) → (Int) → (Bool) → (List (Bool)) → (Int) → (List ((Int) × (Int))) → (List (ByteArray)) → (List (Bool)) → Option R) (k0 : (Int) → (Bool) → (List ((Int) × (Int))) → (List (ByteArray)) → (List (Bool)) → Option R) (x0 : Int) (x1 : Int) (x2 : Bool) (x3 : List (Bool)) (x4 : Int) (x5 : List ((Int) × (Int))) (x6 : List (ByteArray)) (x7 : List (Bool)) : Option R :=
  br (decide (x4 < (17 : Int)))
  (br (inB x4 (17 : Nat))
   (br (!(List.getD x3 (Int.toNat x4) false))
    (nx x0 x1 x2 x3 (IntKind.wrap .i64 (x4 + (1 : Int))) x5 x6 x7)
    (br (inB x0 (List.length x5))
     (br (decide ((Int.toNat x0) < (List.length x5)))
      (c0 (List.getD x5 (Int.toNat x0) ((0 : Int) , (0 : Int))).1 (List.getD x5 (Int.toNat x0) ((0 : Int) , (0 : Int))).2 x4
       (fun i87 b88 => br x2
        (br b88
         (nx x0 x4 (decide (x1 = (-1 : Int))) x3 (IntKind.wrap .i64 (x4 + (1 : Int))) x5 x6 x7)
         (nx x0 x4 false x3 (IntKind.wrap .i64 (x4 + (1 : Int))) x5 x6 x7))
        (nx x0 x4 false x3 (IntKind.wrap .i64 (x4 + (1 : Int))) x5 x6 x7)))
      (none))
     (none)))
   (none))
  (k0 x1 x2 x5 x6 x7)
noncomputable def check_height_866d_l0 (N : Nat) {R : Type} (k0 : (Int) → (Bool) → (List ((Int) × (Int))) → (List (ByteArray)) → (List (Bool)) → Option R) : Nat → (Int) → (Int) → (Bool) → (List (Bool)) → (Int) → (List ((Int) × (Int))) → (List (ByteArray)) → (List (Bool)) → Option R
  | 0, _, _, _, _, _, _, _, _ => none
  | n + 1, x0, x1, x2, x3, x4, x5, x6, x7 => check_height_866d_l0_T0 N (@check_behind N) (fun x0 x1 x2 x3 x4 x5 x6 x7 => check_height_866d_l0 N k0 n x0 x1 x2 x3 x4 x5 x6 x7) k0 x0 x1 x2 x3 x4 x5 x6 x7
noncomputable def check_height_866d_T (N : Nat) (c0 : check_behind_Ty) (w0 : check_height_866d_l0_Ty) {R : Type} (x0 : Int) (x1 : List ((Int) × (Int))) (x2 : List (ByteArray)) (x3 : List (Bool)) (k0 : (Int) → (Bool) → (List ((Int) × (Int))) → (List (ByteArray)) → (List (Bool)) → Option R) : Option R :=
  br (inB x0 (96 : Nat))
  (br (decide ((((Int.toNat x0) + (1 : Nat)) * (17 : Nat)) ≤ (1632 : Nat)))
   (w0
    (fun i89 b90 l91 l92 l93 => k0 i89 b90 l91 l92 l93)
    N x0 (-1 : Int) true (sub x3 ((Int.toNat x0) * (17 : Nat)) (17 : Nat)) (0 : Int) x1 x2 x3)
   (none))
  (none)
noncomputable def check_height_866d (N : Nat) {R : Type} (x0 : Int) (x1 : List ((Int) × (Int))) (x2 : List (ByteArray)) (x3 : List (Bool)) (k0 : (Int) → (Bool) → (List ((Int) × (Int))) → (List (ByteArray)) → (List (Bool)) → Option R) : Option R := check_height_866d_T N (@check_behind N) (@check_height_866d_l0 N) x0 x1 x2 x3 k0
abbrev check_Run_0ce7_l0_Ty : Type 1 := {R : Type} → ((Int) → (Int) → (List ((Int) × (Int))) → (List (ByteArray)) → Option R) → ((List ((Int) × (Int))) → (List (ByteArray)) → Option R) → Nat → (Int) → (Int) → (List ((Int) × (Int))) → (List (ByteArray)) → Option R
abbrev check_Run_0ce7_l1_Ty : Type 1 := {R : Type} → ((Int) → (Int) → (List ((Int) × (Int))) → (List (ByteArray)) → Option R) → ((List ((Int) × (Int))) → (List (ByteArray)) → Option R) → Nat → (Int) → (Int) → (List ((Int) × (Int))) → (List (ByteArray)) → Option R
abbrev check_Run_0ce7_l2_Ty : Type 1 := {R : Type} → ((Int) → (Int) → (List ((Int) × (Int))) → Option R) → ((List ((Int) × (Int))) → Option R) → Nat → (Int) → (Int) → (List ((Int) × (Int))) → (List (ByteArray)) → (List (Bool)) → Option R
abbrev check_Run_0ce7_Ty : Type 1 := {R : Type} → (List ((Int) × (Int))) → ((Int) → (Int) → (List ((Int) × (Int))) → Option R) → Option R
noncomputable def check_Run_0ce7_l0_T0 (N : Nat) (c0 : check_height_866d_Ty) (c1 : check_reach_87f1_Ty) (c2 : check_one_ebbf_Ty) (c3 : check_Name_Ty) (w1 : check_Run_0ce7_l1_Ty) (w2 : check_Run_0ce7_l2_Ty) {R : Type} (nx : (Int) → (Int) → (List ((Int) × (Int))) → (List (ByteArray)) → Option R) (k0 : (Int) → (Int) → (List ((Int) × (Int))) → (List (ByteArray)) → Option R) (k1 : (List ((Int) × (Int))) → (List (ByteArray)) → Option R) (x0 : Int) (x1 : Int) (x2 : List ((Int) × (Int))) (x3 : List (ByteArray)) : Option R :=
  br (decide (x1 < x0))
  (br (inB x1 (List.length x3))
   (br (decide ((Int.toNat x1) < (List.length x3)))
    (c3 (List.getD x3 (Int.toNat x1) (bs []))
     (fun b14 => br (!b14)
      (k0 (0 : Int) (10 : Int) x2 x3)
      (nx x0 (IntKind.wrap .i64 (x1 + (1 : Int))) x2 x3)))
    (none))
   (none))
  (k1 x2 x3)
noncomputable def check_Run_0ce7_l1_T0 (N : Nat) (c0 : check_height_866d_Ty) (c1 : check_reach_87f1_Ty) (c2 : check_one_ebbf_Ty) (c3 : check_Name_Ty) (w2 : check_Run_0ce7_l2_Ty) {R : Type} (nx : (Int) → (Int) → (List ((Int) × (Int))) → (List (ByteArray)) → Option R) (k0 : (Int) → (Int) → (List ((Int) × (Int))) → (List (ByteArray)) → Option R) (k1 : (List ((Int) × (Int))) → (List (ByteArray)) → Option R) (x0 : Int) (x1 : Int) (x2 : List ((Int) × (Int))) (x3 : List (ByteArray)) : Option R :=
  br (decide (x1 < x0))
  (c2 x1 x2 x3
   (fun i30 l31 l32 => br (!(decide (i30 = (0 : Int))))
    (k0 x1 i30 l31 l32)
    (nx x0 (IntKind.wrap .i64 (x1 + (1 : Int))) l31 l32)))
  (k1 x2 x3)
noncomputable def check_Run_0ce7_l2_T0 (N : Nat) (c0 : check_height_866d_Ty) (c1 : check_reach_87f1_Ty) (c2 : check_one_ebbf_Ty) (c3 : check_Name_Ty) {R : Type} (nx : (Int) → (Int) → (List ((Int) × (Int))) → (List (ByteArray)) → (List (Bool)) → Option R) (k0 : (Int) → (Int) → (List ((Int) × (Int))) → Option R) (k1 : (List ((Int) × (Int))) → Option R) (x0 : Int) (x1 : Int) (x2 : List ((Int) × (Int))) (x3 : List (ByteArray)) (x4 : List (Bool)) : Option R :=
  br (decide (x1 < x0))
  (c0 x1 x2 x3 x4
   (fun i94 b95 l96 l97 l98 => br (!b95)
    (k0 x1 (7 : Int) l96)
    (nx x0 (IntKind.wrap .i64 (x1 + (1 : Int))) l96 l97 l98)))
  (k1 x2)
noncomputable def check_Run_0ce7_l2 (N : Nat) {R : Type} (k0 : (Int) → (Int) → (List ((Int) × (Int))) → Option R) (k1 : (List ((Int) × (Int))) → Option R) : Nat → (Int) → (Int) → (List ((Int) × (Int))) → (List (ByteArray)) → (List (Bool)) → Option R
  | 0, _, _, _, _, _ => none
  | n + 1, x0, x1, x2, x3, x4 => check_Run_0ce7_l2_T0 N (@check_height_866d N) (@check_reach_87f1 N) (@check_one_ebbf N) (@check_Name N) (fun x0 x1 x2 x3 x4 => check_Run_0ce7_l2 N k0 k1 n x0 x1 x2 x3 x4) k0 k1 x0 x1 x2 x3 x4
noncomputable def check_Run_0ce7_l1 (N : Nat) {R : Type} (k0 : (Int) → (Int) → (List ((Int) × (Int))) → (List (ByteArray)) → Option R) (k1 : (List ((Int) × (Int))) → (List (ByteArray)) → Option R) : Nat → (Int) → (Int) → (List ((Int) × (Int))) → (List (ByteArray)) → Option R
  | 0, _, _, _, _ => none
  | n + 1, x0, x1, x2, x3 => check_Run_0ce7_l1_T0 N (@check_height_866d N) (@check_reach_87f1 N) (@check_one_ebbf N) (@check_Name N) (@check_Run_0ce7_l2 N) (fun x0 x1 x2 x3 => check_Run_0ce7_l1 N k0 k1 n x0 x1 x2 x3) k0 k1 x0 x1 x2 x3
noncomputable def check_Run_0ce7_l0 (N : Nat) {R : Type} (k0 : (Int) → (Int) → (List ((Int) × (Int))) → (List (ByteArray)) → Option R) (k1 : (List ((Int) × (Int))) → (List (ByteArray)) → Option R) : Nat → (Int) → (Int) → (List ((Int) × (Int))) → (List (ByteArray)) → Option R
  | 0, _, _, _, _ => none
  | n + 1, x0, x1, x2, x3 => check_Run_0ce7_l0_T0 N (@check_height_866d N) (@check_reach_87f1 N) (@check_one_ebbf N) (@check_Name N) (@check_Run_0ce7_l1 N) (@check_Run_0ce7_l2 N) (fun x0 x1 x2 x3 => check_Run_0ce7_l0 N k0 k1 n x0 x1 x2 x3) k0 k1 x0 x1 x2 x3
noncomputable def check_Run_0ce7_T (N : Nat) (c0 : check_height_866d_Ty) (c1 : check_reach_87f1_Ty) (c2 : check_one_ebbf_Ty) (c3 : check_Name_Ty) (w0 : check_Run_0ce7_l0_Ty) (w1 : check_Run_0ce7_l1_Ty) (w2 : check_Run_0ce7_l2_Ty) {R : Type} (x0 : List ((Int) × (Int))) (k0 : (Int) → (Int) → (List ((Int) × (Int))) → Option R) : Option R :=
  br (!(decide ((Nat.cast (List.length x0) : Int) = (0 : Int))))
  (br (!(decide ((96 : Int) < (Nat.cast (List.length x0) : Int))))
   (w0
    (fun i15 i16 l17 l18 => k0 i15 i16 l17)
    (fun l19 l20 => w1
     (fun i33 i34 l35 l36 => k0 i33 i34 l35)
     (fun l37 l38 => c1 l37 l38
      (fun l84 l85 l86 => w2
       (fun i99 i100 l101 => k0 i99 i100 l101)
       (fun l102 => k0 (0 : Int) (0 : Int) l102)
       N (Nat.cast (List.length l84) : Int) (0 : Int) l84 l85 l86))
     N (Nat.cast (List.length l19) : Int) (0 : Int) l19 l20)
    N (0 : Int) (0 : Int) x0 ([] : List (Sh.str.T)))
   (k0 (0 : Int) (3 : Int) x0))
  (k0 (0 : Int) (3 : Int) x0)
noncomputable def check_Run_0ce7 (N : Nat) {R : Type} (x0 : List ((Int) × (Int))) (k0 : (Int) → (Int) → (List ((Int) × (Int))) → Option R) : Option R := check_Run_0ce7_T N (@check_height_866d N) (@check_reach_87f1 N) (@check_one_ebbf N) (@check_Name N) (@check_Run_0ce7_l0 N) (@check_Run_0ce7_l1 N) (@check_Run_0ce7_l2 N) x0 k0
abbrev check_Run_87f1_l0_Ty : Type 1 := {R : Type} → ((Int) → (Int) → (List ((Int) × (Int))) → (List (ByteArray)) → Option R) → ((List ((Int) × (Int))) → (List (ByteArray)) → Option R) → Nat → (Int) → (Int) → (List ((Int) × (Int))) → (List (ByteArray)) → Option R
abbrev check_Run_87f1_l1_Ty : Type 1 := {R : Type} → ((Int) → (Int) → (List ((Int) × (Int))) → (List (ByteArray)) → Option R) → ((List ((Int) × (Int))) → (List (ByteArray)) → Option R) → Nat → (Int) → (Int) → (List ((Int) × (Int))) → (List (ByteArray)) → Option R
abbrev check_Run_87f1_l2_Ty : Type 1 := {R : Type} → ((Int) → (Int) → (List ((Int) × (Int))) → (List (ByteArray)) → Option R) → ((List ((Int) × (Int))) → (List (ByteArray)) → Option R) → Nat → (Int) → (Int) → (List ((Int) × (Int))) → (List (ByteArray)) → (List (Bool)) → Option R
abbrev check_Run_87f1_Ty : Type 1 := {R : Type} → (List ((Int) × (Int))) → (List (ByteArray)) → ((Int) → (Int) → (List ((Int) × (Int))) → (List (ByteArray)) → Option R) → Option R
noncomputable def check_Run_87f1_l0_T0 (N : Nat) (c0 : check_height_866d_Ty) (c1 : check_reach_87f1_Ty) (c2 : check_one_ebbf_Ty) (c3 : check_Name_Ty) (w1 : check_Run_87f1_l1_Ty) (w2 : check_Run_87f1_l2_Ty) {R : Type} (nx : (Int) → (Int) → (List ((Int) × (Int))) → (List (ByteArray)) → Option R) (k0 : (Int) → (Int) → (List ((Int) × (Int))) → (List (ByteArray)) → Option R) (k1 : (List ((Int) × (Int))) → (List (ByteArray)) → Option R) (x0 : Int) (x1 : Int) (x2 : List ((Int) × (Int))) (x3 : List (ByteArray)) : Option R :=
  br (decide (x1 < x0))
  (br (inB x1 (List.length x3))
   (br (decide ((Int.toNat x1) < (List.length x3)))
    (c3 (List.getD x3 (Int.toNat x1) (bs []))
     (fun b109 => br (!b109)
      (k0 (0 : Int) (10 : Int) x2 x3)
      (nx x0 (IntKind.wrap .i64 (x1 + (1 : Int))) x2 x3)))
    (none))
   (none))
  (k1 x2 x3)
noncomputable def check_Run_87f1_l1_T0 (N : Nat) (c0 : check_height_866d_Ty) (c1 : check_reach_87f1_Ty) (c2 : check_one_ebbf_Ty) (c3 : check_Name_Ty) (w2 : check_Run_87f1_l2_Ty) {R : Type} (nx : (Int) → (Int) → (List ((Int) × (Int))) → (List (ByteArray)) → Option R) (k0 : (Int) → (Int) → (List ((Int) × (Int))) → (List (ByteArray)) → Option R) (k1 : (List ((Int) × (Int))) → (List (ByteArray)) → Option R) (x0 : Int) (x1 : Int) (x2 : List ((Int) × (Int))) (x3 : List (ByteArray)) : Option R :=
  br (decide (x1 < x0))
  (c2 x1 x2 x3
   (fun i116 l117 l118 => br (!(decide (i116 = (0 : Int))))
    (k0 x1 i116 l117 l118)
    (nx x0 (IntKind.wrap .i64 (x1 + (1 : Int))) l117 l118)))
  (k1 x2 x3)
noncomputable def check_Run_87f1_l2_T0 (N : Nat) (c0 : check_height_866d_Ty) (c1 : check_reach_87f1_Ty) (c2 : check_one_ebbf_Ty) (c3 : check_Name_Ty) {R : Type} (nx : (Int) → (Int) → (List ((Int) × (Int))) → (List (ByteArray)) → (List (Bool)) → Option R) (k0 : (Int) → (Int) → (List ((Int) × (Int))) → (List (ByteArray)) → Option R) (k1 : (List ((Int) × (Int))) → (List (ByteArray)) → Option R) (x0 : Int) (x1 : Int) (x2 : List ((Int) × (Int))) (x3 : List (ByteArray)) (x4 : List (Bool)) : Option R :=
  br (decide (x1 < x0))
  (c0 x1 x2 x3 x4
   (fun i128 b129 l130 l131 l132 => br (!b129)
    (k0 x1 (7 : Int) l130 l131)
    (nx x0 (IntKind.wrap .i64 (x1 + (1 : Int))) l130 l131 l132)))
  (k1 x2 x3)
noncomputable def check_Run_87f1_l2 (N : Nat) {R : Type} (k0 : (Int) → (Int) → (List ((Int) × (Int))) → (List (ByteArray)) → Option R) (k1 : (List ((Int) × (Int))) → (List (ByteArray)) → Option R) : Nat → (Int) → (Int) → (List ((Int) × (Int))) → (List (ByteArray)) → (List (Bool)) → Option R
  | 0, _, _, _, _, _ => none
  | n + 1, x0, x1, x2, x3, x4 => check_Run_87f1_l2_T0 N (@check_height_866d N) (@check_reach_87f1 N) (@check_one_ebbf N) (@check_Name N) (fun x0 x1 x2 x3 x4 => check_Run_87f1_l2 N k0 k1 n x0 x1 x2 x3 x4) k0 k1 x0 x1 x2 x3 x4
noncomputable def check_Run_87f1_l1 (N : Nat) {R : Type} (k0 : (Int) → (Int) → (List ((Int) × (Int))) → (List (ByteArray)) → Option R) (k1 : (List ((Int) × (Int))) → (List (ByteArray)) → Option R) : Nat → (Int) → (Int) → (List ((Int) × (Int))) → (List (ByteArray)) → Option R
  | 0, _, _, _, _ => none
  | n + 1, x0, x1, x2, x3 => check_Run_87f1_l1_T0 N (@check_height_866d N) (@check_reach_87f1 N) (@check_one_ebbf N) (@check_Name N) (@check_Run_87f1_l2 N) (fun x0 x1 x2 x3 => check_Run_87f1_l1 N k0 k1 n x0 x1 x2 x3) k0 k1 x0 x1 x2 x3
noncomputable def check_Run_87f1_l0 (N : Nat) {R : Type} (k0 : (Int) → (Int) → (List ((Int) × (Int))) → (List (ByteArray)) → Option R) (k1 : (List ((Int) × (Int))) → (List (ByteArray)) → Option R) : Nat → (Int) → (Int) → (List ((Int) × (Int))) → (List (ByteArray)) → Option R
  | 0, _, _, _, _ => none
  | n + 1, x0, x1, x2, x3 => check_Run_87f1_l0_T0 N (@check_height_866d N) (@check_reach_87f1 N) (@check_one_ebbf N) (@check_Name N) (@check_Run_87f1_l1 N) (@check_Run_87f1_l2 N) (fun x0 x1 x2 x3 => check_Run_87f1_l0 N k0 k1 n x0 x1 x2 x3) k0 k1 x0 x1 x2 x3
noncomputable def check_Run_87f1_T (N : Nat) (c0 : check_height_866d_Ty) (c1 : check_reach_87f1_Ty) (c2 : check_one_ebbf_Ty) (c3 : check_Name_Ty) (w0 : check_Run_87f1_l0_Ty) (w1 : check_Run_87f1_l1_Ty) (w2 : check_Run_87f1_l2_Ty) {R : Type} (x0 : List ((Int) × (Int))) (x1 : List (ByteArray)) (k0 : (Int) → (Int) → (List ((Int) × (Int))) → (List (ByteArray)) → Option R) : Option R :=
  br (!(decide ((Nat.cast (List.length x0) : Int) = (0 : Int))))
  (br (!(decide ((96 : Int) < (Nat.cast (List.length x0) : Int))))
   (br (decide ((8 : Int) < (Nat.cast (List.length x1) : Int)))
    (k0 (0 : Int) (3 : Int) x0 x1)
    (w0
     (fun i110 i111 l112 l113 => k0 i110 i111 l112 l113)
     (fun l114 l115 => w1
      (fun i119 i120 l121 l122 => k0 i119 i120 l121 l122)
      (fun l123 l124 => c1 l123 l124
       (fun l125 l126 l127 => w2
        (fun i133 i134 l135 l136 => k0 i133 i134 l135 l136)
        (fun l137 l138 => k0 (0 : Int) (0 : Int) l137 l138)
        N (Nat.cast (List.length l125) : Int) (0 : Int) l125 l126 l127))
      N (Nat.cast (List.length l114) : Int) (0 : Int) l114 l115)
     N (Nat.cast (List.length x1) : Int) (0 : Int) x0 x1))
   (k0 (0 : Int) (3 : Int) x0 x1))
  (k0 (0 : Int) (3 : Int) x0 x1)
noncomputable def check_Run_87f1 (N : Nat) {R : Type} (x0 : List ((Int) × (Int))) (x1 : List (ByteArray)) (k0 : (Int) → (Int) → (List ((Int) × (Int))) → (List (ByteArray)) → Option R) : Option R := check_Run_87f1_T N (@check_height_866d N) (@check_reach_87f1 N) (@check_one_ebbf N) (@check_Name N) (@check_Run_87f1_l0 N) (@check_Run_87f1_l1 N) (@check_Run_87f1_l2 N) x0 x1 k0
abbrev check_Heights_0ce7_l0_Ty : Type 1 := {R : Type} → ((List ((Int) × (Int))) → (List (Int)) → Option R) → Nat → (Int) → (Int) → (List ((Int) × (Int))) → (List (ByteArray)) → (List (Bool)) → (List (Int)) → Option R
abbrev check_Heights_0ce7_Ty : Type 1 := {R : Type} → (List ((Int) × (Int))) → ((List ((Int) × (Int))) → (List (Int)) → Option R) → Option R
noncomputable def check_Heights_0ce7_l0_T0 (N : Nat) (c0 : check_height_866d_Ty) (c1 : check_reach_87f1_Ty) (c2 : check_Run_0ce7_Ty) (c3 : check_Run_87f1_Ty) {R : Type} (nx : (Int) → (Int) → (List ((Int) × (Int))) → (List (ByteArray)) → (List (Bool)) → (List (Int)) → Option R) (k0 : (List ((Int) × (Int))) → (List (Int)) → Option R) (x0 : Int) (x1 : Int) (x2 : List ((Int) × (Int))) (x3 : List (ByteArray)) (x4 : List (Bool)) (x5 : List (Int)) : Option R :=
  br (decide (x1 < x0))
  (c0 x1 x2 x3 x4
   (fun i172 b173 l174 l175 l176 => br (((fits (0 : Nat) (List.length x5) x5) && (decide ((((List.length x5) + (1 : Nat)) * (8 : Nat)) ≤ (70368744177664 : Nat)))) && true)
    (nx x0 (IntKind.wrap .i64 (x1 + (1 : Int))) l174 l175 l176 ((sub x5 (0 : Nat) (List.length x5)) ++ (i172 :: ([] : List ((Sh.int IntKind.i64).T)))))
    (none)))
  (k0 x2 x5)
noncomputable def check_Heights_0ce7_l0 (N : Nat) {R : Type} (k0 : (List ((Int) × (Int))) → (List (Int)) → Option R) : Nat → (Int) → (Int) → (List ((Int) × (Int))) → (List (ByteArray)) → (List (Bool)) → (List (Int)) → Option R
  | 0, _, _, _, _, _, _ => none
  | n + 1, x0, x1, x2, x3, x4, x5 => check_Heights_0ce7_l0_T0 N (@check_height_866d N) (@check_reach_87f1 N) (@check_Run_0ce7 N) (@check_Run_87f1 N) (fun x0 x1 x2 x3 x4 x5 => check_Heights_0ce7_l0 N k0 n x0 x1 x2 x3 x4 x5) k0 x0 x1 x2 x3 x4 x5
noncomputable def check_Heights_0ce7_T (N : Nat) (c0 : check_height_866d_Ty) (c1 : check_reach_87f1_Ty) (c2 : check_Run_0ce7_Ty) (c3 : check_Run_87f1_Ty) (w0 : check_Heights_0ce7_l0_Ty) {R : Type} (x0 : List ((Int) × (Int))) (k0 : (List ((Int) × (Int))) → (List (Int)) → Option R) : Option R :=
  c3 x0 ([] : List (Sh.str.T))
  (fun i165 i166 l167 l168 => br (!(decide (i166 = (0 : Int))))
   (k0 l167 ([] : List ((Sh.int IntKind.i64).T)))
   (c1 l167 l168
    (fun l169 l170 l171 => w0
     (fun l177 l178 => k0 l177 l178)
     N (Nat.cast (List.length l169) : Int) (0 : Int) l169 l170 l171 ([] : List ((Sh.int IntKind.i64).T)))))
noncomputable def check_Heights_0ce7 (N : Nat) {R : Type} (x0 : List ((Int) × (Int))) (k0 : (List ((Int) × (Int))) → (List (Int)) → Option R) : Option R := check_Heights_0ce7_T N (@check_height_866d N) (@check_reach_87f1 N) (@check_Run_0ce7 N) (@check_Run_87f1 N) (@check_Heights_0ce7_l0 N) x0 k0
abbrev law11_same_9dd3_l0_Ty : Type 1 := {R : Type} → ((Bool) → (List (Int)) → (List (Int)) → Option R) → ((List (Int)) → (List (Int)) → Option R) → Nat → (Int) → (List (Int)) → (List (Int)) → Option R
abbrev law11_same_9dd3_Ty : Type 1 := {R : Type} → (List (Int)) → (List (Int)) → ((Bool) → (List (Int)) → (List (Int)) → Option R) → Option R
noncomputable def law11_same_9dd3_l0_T0 (N : Nat) {R : Type} (nx : (Int) → (List (Int)) → (List (Int)) → Option R) (k0 : (Bool) → (List (Int)) → (List (Int)) → Option R) (k1 : (List (Int)) → (List (Int)) → Option R) (x0 : Int) (x1 : List (Int)) (x2 : List (Int)) : Option R :=
  br (decide (x0 < (Nat.cast (List.length x1) : Int)))
  (br (inB x0 (List.length x1))
   (br (decide ((Int.toNat x0) < (List.length x1)))
    (br (inB x0 (List.length x2))
     (br (decide ((Int.toNat x0) < (List.length x2)))
      (br (!(decide ((List.getD x1 (Int.toNat x0) (0 : Int)) = (List.getD x2 (Int.toNat x0) (0 : Int)))))
       (k0 false x1 x2)
       (nx (IntKind.wrap .i64 (x0 + (1 : Int))) x1 x2))
      (none))
     (none))
    (none))
   (none))
  (k1 x1 x2)
noncomputable def law11_same_9dd3_l0 (N : Nat) {R : Type} (k0 : (Bool) → (List (Int)) → (List (Int)) → Option R) (k1 : (List (Int)) → (List (Int)) → Option R) : Nat → (Int) → (List (Int)) → (List (Int)) → Option R
  | 0, _, _, _ => none
  | n + 1, x0, x1, x2 => law11_same_9dd3_l0_T0 N (fun x0 x1 x2 => law11_same_9dd3_l0 N k0 k1 n x0 x1 x2) k0 k1 x0 x1 x2
noncomputable def law11_same_9dd3_T (N : Nat) (w0 : law11_same_9dd3_l0_Ty) {R : Type} (x0 : List (Int)) (x1 : List (Int)) (k0 : (Bool) → (List (Int)) → (List (Int)) → Option R) : Option R :=
  br (!(decide ((Nat.cast (List.length x0) : Int) = (Nat.cast (List.length x1) : Int))))
  (k0 false x0 x1)
  (w0
   (fun b181 l182 l183 => k0 b181 l182 l183)
   (fun l184 l185 => k0 true l184 l185)
   N (0 : Int) x0 x1)
noncomputable def law11_same_9dd3 (N : Nat) {R : Type} (x0 : List (Int)) (x1 : List (Int)) (k0 : (Bool) → (List (Int)) → (List (Int)) → Option R) : Option R := law11_same_9dd3_T N (@law11_same_9dd3_l0 N) x0 x1 k0
abbrev law11_awake_Ty : Type 1 := {R : Type} → ((Bool) → Option R) → Option R
noncomputable def law11_awake_T (N : Nat) (c0 : law11_same_9dd3_Ty) (c1 : check_Heights_0ce7_Ty) (c2 : check_Run_0ce7_Ty) (c3 : check_Run_87f1_Ty) {R : Type} (k0 : (Bool) → Option R) : Option R :=
  c2 (((1 : Int) , (0 : Int)) :: (((26 : Int) , (0 : Int)) :: ([] : List (((Sh.int IntKind.i64).pair (Sh.int IntKind.i64)).T))))
  (fun i103 i104 l105 => c2 (((1 : Int) , (0 : Int)) :: (((1 : Int) , (0 : Int)) :: ([] : List (((Sh.int IntKind.i64).pair (Sh.int IntKind.i64)).T))))
   (fun i106 i107 l108 => br (decide (i103 = (0 : Int)))
    (br (decide (i104 = (0 : Int)))
     (br (decide (i106 = (1 : Int)))
      (br (decide (i107 = (8 : Int)))
       (c1 (((1 : Int) , (0 : Int)) :: (((26 : Int) , (0 : Int)) :: ([] : List (((Sh.int IntKind.i64).pair (Sh.int IntKind.i64)).T))))
        (fun l179 l180 => c0 l180 ((0 : Int) :: ((1 : Int) :: ([] : List ((Sh.int IntKind.i64).T))))
         (fun b186 l187 l188 => k0 b186)))
       (k0 false))
      (k0 false))
     (k0 false))
    (k0 false)))
noncomputable def law11_awake (N : Nat) {R : Type} (k0 : (Bool) → Option R) : Option R := law11_awake_T N (@law11_same_9dd3 N) (@check_Heights_0ce7 N) (@check_Run_0ce7 N) (@check_Run_87f1 N) k0
abbrev law11_CheckJumps_l0_Ty : Type 1 := {R : Type} → ((List (Int)) → (Bool) → (List ((Int) × (Int))) → (List (ByteArray)) → Option R) → Nat → (List (Int)) → (Bool) → (Int) → (List ((Int) × (Int))) → (List (ByteArray)) → Option R
abbrev law11_CheckJumps_l1_Ty : Type 1 := {R : Type} → ((List (Int)) → (Bool) → (Int) → (Int) → (List ((Int) × (Int))) → (List (ByteArray)) → Option R) → Nat → (List (Int)) → (Bool) → (Int) → (Int) → (Int) → (List ((Int) × (Int))) → (List (ByteArray)) → Option R
abbrev law11_CheckJumps_l2_Ty : Type 1 := {R : Type} → ((List (Int)) → (Bool) → (Int) → (Int) → (Int) → (List ((Int) × (Int))) → (List (ByteArray)) → Option R) → Nat → (List (Int)) → (Bool) → (Int) → (Int) → (Int) → (List ((Int) × (Int))) → (List (ByteArray)) → (List (Bool)) → Option R
abbrev law11_CheckJumps_Ty : Type 1 := {R : Type} → (List (Int)) → (Bool) → ((Bool) → Option R) → Option R
noncomputable def law11_CheckJumps_l0_T0 (N : Nat) (c0 : check_Run_0ce7_Ty) (c1 : check_Run_87f1_Ty) (c2 : law11_awake_Ty) (w1 : law11_CheckJumps_l1_Ty) (w2 : law11_CheckJumps_l2_Ty) {R : Type} (nx : (List (Int)) → (Bool) → (Int) → (List ((Int) × (Int))) → (List (ByteArray)) → Option R) (k0 : (List (Int)) → (Bool) → (List ((Int) × (Int))) → (List (ByteArray)) → Option R) (x0 : List (Int)) (x1 : Bool) (x2 : Int) (x3 : List ((Int) × (Int))) (x4 : List (ByteArray)) : Option R :=
  br (decide (x2 < (Nat.cast (List.length x0) : Int)))
  (br (inB x2 (List.length x0))
   (br (((fits (0 : Nat) (List.length x3) x3) && (decide ((((List.length x3) + (1 : Nat)) * (16 : Nat)) ≤ (70368744177664 : Nat)))) && true)
    (nx x0 x1 (IntKind.wrap .i64 (x2 + (1 : Int))) ((sub x3 (0 : Nat) (List.length x3)) ++ (((22 : Int) , (Int.tmod (IntKind.wrap .i64 (List.getD x0 (Int.toNat x2) (0 : Int))) (96 : Int))) :: ([] : List (((Sh.int IntKind.i64).pair (Sh.int IntKind.i64)).T)))) x4)
    (none))
   (none))
  (k0 x0 x1 x3 x4)
noncomputable def law11_CheckJumps_l1_T0 (N : Nat) (c0 : check_Run_0ce7_Ty) (c1 : check_Run_87f1_Ty) (c2 : law11_awake_Ty) (w2 : law11_CheckJumps_l2_Ty) {R : Type} (nx : (List (Int)) → (Bool) → (Int) → (Int) → (Int) → (List ((Int) × (Int))) → (List (ByteArray)) → Option R) (k0 : (List (Int)) → (Bool) → (Int) → (Int) → (List ((Int) × (Int))) → (List (ByteArray)) → Option R) (x0 : List (Int)) (x1 : Bool) (x2 : Int) (x3 : Int) (x4 : Int) (x5 : List ((Int) × (Int))) (x6 : List (ByteArray)) : Option R :=
  br (decide (x4 < (Nat.cast (List.length x0) : Int)))
  (br (decide (x3 = (0 : Int)))
   (br (inB x4 (List.length x5))
    (br (decide ((Int.toNat x4) < (List.length x5)))
     (br (decide ((Nat.cast (List.length x5) : Int) ≤ (List.getD x5 (Int.toNat x4) ((0 : Int) , (0 : Int))).2))
      (nx x0 x1 x4 (6 : Int) (IntKind.wrap .i64 (x4 + (1 : Int))) x5 x6)
      (nx x0 x1 x2 x3 (IntKind.wrap .i64 (x4 + (1 : Int))) x5 x6))
     (none))
    (none))
   (k0 x0 x1 x2 x3 x5 x6))
  (k0 x0 x1 x2 x3 x5 x6)
noncomputable def law11_CheckJumps_l2_T0 (N : Nat) (c0 : check_Run_0ce7_Ty) (c1 : check_Run_87f1_Ty) (c2 : law11_awake_Ty) {R : Type} (nx : (List (Int)) → (Bool) → (Int) → (Int) → (Int) → (List ((Int) × (Int))) → (List (ByteArray)) → (List (Bool)) → Option R) (k0 : (List (Int)) → (Bool) → (Int) → (Int) → (Int) → (List ((Int) × (Int))) → (List (ByteArray)) → Option R) (x0 : List (Int)) (x1 : Bool) (x2 : Int) (x3 : Int) (x4 : Int) (x5 : List ((Int) × (Int))) (x6 : List (ByteArray)) (x7 : List (Bool)) : Option R :=
  br (decide (x3 = (0 : Int)))
  (br (decide (x4 < (Nat.cast (List.length x0) : Int)))
   (br (inB x4 (List.length x7))
    (br (decide ((Int.toNat x4) < (List.length x7)))
     (br (!(List.getD x7 (Int.toNat x4) false))
      (br (inB x4 (List.length x7))
       (br (decide ((Int.toNat x4) < (List.length x7)))
        (br (inB x4 (List.length x5))
         (br (decide ((Int.toNat x4) < (List.length x5)))
          (nx x0 x1 x2 x3 (List.getD x5 (Int.toNat x4) ((0 : Int) , (0 : Int))).2 x5 x6 (List.set x7 (Int.toNat x4) true))
          (none))
         (none))
        (none))
       (none))
      (k0 x0 x1 x2 x3 x4 x5 x6))
     (none))
    (none))
   (k0 x0 x1 x2 x3 x4 x5 x6))
  (k0 x0 x1 x2 x3 x4 x5 x6)
noncomputable def law11_CheckJumps_l2 (N : Nat) {R : Type} (k0 : (List (Int)) → (Bool) → (Int) → (Int) → (Int) → (List ((Int) × (Int))) → (List (ByteArray)) → Option R) : Nat → (List (Int)) → (Bool) → (Int) → (Int) → (Int) → (List ((Int) × (Int))) → (List (ByteArray)) → (List (Bool)) → Option R
  | 0, _, _, _, _, _, _, _, _ => none
  | n + 1, x0, x1, x2, x3, x4, x5, x6, x7 => law11_CheckJumps_l2_T0 N (@check_Run_0ce7 N) (@check_Run_87f1 N) (@law11_awake N) (fun x0 x1 x2 x3 x4 x5 x6 x7 => law11_CheckJumps_l2 N k0 n x0 x1 x2 x3 x4 x5 x6 x7) k0 x0 x1 x2 x3 x4 x5 x6 x7
noncomputable def law11_CheckJumps_l1 (N : Nat) {R : Type} (k0 : (List (Int)) → (Bool) → (Int) → (Int) → (List ((Int) × (Int))) → (List (ByteArray)) → Option R) : Nat → (List (Int)) → (Bool) → (Int) → (Int) → (Int) → (List ((Int) × (Int))) → (List (ByteArray)) → Option R
  | 0, _, _, _, _, _, _, _ => none
  | n + 1, x0, x1, x2, x3, x4, x5, x6 => law11_CheckJumps_l1_T0 N (@check_Run_0ce7 N) (@check_Run_87f1 N) (@law11_awake N) (@law11_CheckJumps_l2 N) (fun x0 x1 x2 x3 x4 x5 x6 => law11_CheckJumps_l1 N k0 n x0 x1 x2 x3 x4 x5 x6) k0 x0 x1 x2 x3 x4 x5 x6
noncomputable def law11_CheckJumps_l0 (N : Nat) {R : Type} (k0 : (List (Int)) → (Bool) → (List ((Int) × (Int))) → (List (ByteArray)) → Option R) : Nat → (List (Int)) → (Bool) → (Int) → (List ((Int) × (Int))) → (List (ByteArray)) → Option R
  | 0, _, _, _, _, _ => none
  | n + 1, x0, x1, x2, x3, x4 => law11_CheckJumps_l0_T0 N (@check_Run_0ce7 N) (@check_Run_87f1 N) (@law11_awake N) (@law11_CheckJumps_l1 N) (@law11_CheckJumps_l2 N) (fun x0 x1 x2 x3 x4 => law11_CheckJumps_l0 N k0 n x0 x1 x2 x3 x4) k0 x0 x1 x2 x3 x4
noncomputable def law11_CheckJumps_T (N : Nat) (c0 : check_Run_0ce7_Ty) (c1 : check_Run_87f1_Ty) (c2 : law11_awake_Ty) (w0 : law11_CheckJumps_l0_Ty) (w1 : law11_CheckJumps_l1_Ty) (w2 : law11_CheckJumps_l2_Ty) {R : Type} (x0 : List (Int)) (x1 : Bool) (k0 : (Bool) → Option R) : Option R :=
  c2
  (fun b189 => br (!b189)
   (k0 false)
   (br (decide ((60 : Int) < (Nat.cast (List.length x0) : Int)))
    (k0 true)
    (w0
     (fun l190 b191 l192 l193 => br b191
      (br (((fits (0 : Nat) (List.length l192) l192) && (decide ((((List.length l192) + (2 : Nat)) * (16 : Nat)) ≤ (70368744177664 : Nat)))) && true)
       (br (decide ((Nat.cast ((List.length l192) + (2 : Nat)) : Int) = (0 : Int)))
        (w1
         (fun l194 b195 i196 i197 l198 l199 => br ((((decide ((0 : Int) ≤ (IntKind.wrap .i64 ((Nat.cast (List.length l198) : Int) + (1 : Int))))) && (decide ((IntKind.wrap .i64 ((Nat.cast (List.length l198) : Int) + (1 : Int))) ≤ (IntKind.wrap .i64 ((Nat.cast (List.length l198) : Int) + (1 : Int)))))) && (decide (((IntKind.wrap .i64 ((Nat.cast (List.length l198) : Int) + (1 : Int))) * (1 : Int)) ≤ ((2 : Int) ^ (46 : Nat))))) && true)
          (w2
           (fun l200 b201 i202 i203 i204 l205 l206 => br (decide (i203 = (0 : Int)))
            (br b201
             (br (decide (i204 = (IntKind.wrap .i64 ((Nat.cast (List.length l200) : Int) + (1 : Int)))))
              (c1 l205 l206
               (fun i207 i208 l209 l210 => br (decide (i207 = i204))
                (k0 (decide (i208 = (7 : Int))))
                (k0 false)))
              (c1 l205 l206
               (fun i211 i212 l213 l214 => br (decide (i211 = i202))
                (k0 (decide (i212 = i203)))
                (k0 false))))
             (c1 l205 l206
              (fun i215 i216 l217 l218 => br (decide (i215 = i202))
               (k0 (decide (i216 = i203)))
               (k0 false))))
            (c1 l205 l206
             (fun i219 i220 l221 l222 => br (decide (i219 = i202))
              (k0 (decide (i220 = i203)))
              (k0 false))))
           N l194 b195 i196 i197 (0 : Int) l198 l199 (List.replicate (Int.toNat (IntKind.wrap .i64 ((Nat.cast (List.length l198) : Int) + (1 : Int)))) false))
          (none))
         N l190 b191 (0 : Int) (3 : Int) (0 : Int) ((sub l192 (0 : Nat) (List.length l192)) ++ (((1 : Int) , (0 : Int)) :: (((26 : Int) , (0 : Int)) :: ([] : List (((Sh.int IntKind.i64).pair (Sh.int IntKind.i64)).T))))) l193)
        (w1
         (fun l223 b224 i225 i226 l227 l228 => br ((((decide ((0 : Int) ≤ (IntKind.wrap .i64 ((Nat.cast (List.length l227) : Int) + (1 : Int))))) && (decide ((IntKind.wrap .i64 ((Nat.cast (List.length l227) : Int) + (1 : Int))) ≤ (IntKind.wrap .i64 ((Nat.cast (List.length l227) : Int) + (1 : Int)))))) && (decide (((IntKind.wrap .i64 ((Nat.cast (List.length l227) : Int) + (1 : Int))) * (1 : Int)) ≤ ((2 : Int) ^ (46 : Nat))))) && true)
          (w2
           (fun l229 b230 i231 i232 i233 l234 l235 => br (decide (i232 = (0 : Int)))
            (br b230
             (br (decide (i233 = (IntKind.wrap .i64 ((Nat.cast (List.length l229) : Int) + (1 : Int)))))
              (c1 l234 l235
               (fun i236 i237 l238 l239 => br (decide (i236 = i233))
                (k0 (decide (i237 = (7 : Int))))
                (k0 false)))
              (c1 l234 l235
               (fun i240 i241 l242 l243 => br (decide (i240 = i231))
                (k0 (decide (i241 = i232)))
                (k0 false))))
             (c1 l234 l235
              (fun i244 i245 l246 l247 => br (decide (i244 = i231))
               (k0 (decide (i245 = i232)))
               (k0 false))))
            (c1 l234 l235
             (fun i248 i249 l250 l251 => br (decide (i248 = i231))
              (k0 (decide (i249 = i232)))
              (k0 false))))
           N l223 b224 i225 i226 (0 : Int) l227 l228 (List.replicate (Int.toNat (IntKind.wrap .i64 ((Nat.cast (List.length l227) : Int) + (1 : Int)))) false))
          (none))
         N l190 b191 (0 : Int) (0 : Int) (0 : Int) ((sub l192 (0 : Nat) (List.length l192)) ++ (((1 : Int) , (0 : Int)) :: (((26 : Int) , (0 : Int)) :: ([] : List (((Sh.int IntKind.i64).pair (Sh.int IntKind.i64)).T))))) l193))
       (none))
      (br (decide ((Nat.cast (List.length l192) : Int) = (0 : Int)))
       (w1
        (fun l252 b253 i254 i255 l256 l257 => br ((((decide ((0 : Int) ≤ (IntKind.wrap .i64 ((Nat.cast (List.length l256) : Int) + (1 : Int))))) && (decide ((IntKind.wrap .i64 ((Nat.cast (List.length l256) : Int) + (1 : Int))) ≤ (IntKind.wrap .i64 ((Nat.cast (List.length l256) : Int) + (1 : Int)))))) && (decide (((IntKind.wrap .i64 ((Nat.cast (List.length l256) : Int) + (1 : Int))) * (1 : Int)) ≤ ((2 : Int) ^ (46 : Nat))))) && true)
         (w2
          (fun l258 b259 i260 i261 i262 l263 l264 => br (decide (i261 = (0 : Int)))
           (br b259
            (br (decide (i262 = (IntKind.wrap .i64 ((Nat.cast (List.length l258) : Int) + (1 : Int)))))
             (c1 l263 l264
              (fun i265 i266 l267 l268 => br (decide (i265 = i262))
               (k0 (decide (i266 = (7 : Int))))
               (k0 false)))
             (c1 l263 l264
              (fun i269 i270 l271 l272 => br (decide (i269 = i260))
               (k0 (decide (i270 = i261)))
               (k0 false))))
            (c1 l263 l264
             (fun i273 i274 l275 l276 => br (decide (i273 = i260))
              (k0 (decide (i274 = i261)))
              (k0 false))))
           (c1 l263 l264
            (fun i277 i278 l279 l280 => br (decide (i277 = i260))
             (k0 (decide (i278 = i261)))
             (k0 false))))
          N l252 b253 i254 i255 (0 : Int) l256 l257 (List.replicate (Int.toNat (IntKind.wrap .i64 ((Nat.cast (List.length l256) : Int) + (1 : Int)))) false))
         (none))
        N l190 b191 (0 : Int) (3 : Int) (0 : Int) l192 l193)
       (w1
        (fun l281 b282 i283 i284 l285 l286 => br ((((decide ((0 : Int) ≤ (IntKind.wrap .i64 ((Nat.cast (List.length l285) : Int) + (1 : Int))))) && (decide ((IntKind.wrap .i64 ((Nat.cast (List.length l285) : Int) + (1 : Int))) ≤ (IntKind.wrap .i64 ((Nat.cast (List.length l285) : Int) + (1 : Int)))))) && (decide (((IntKind.wrap .i64 ((Nat.cast (List.length l285) : Int) + (1 : Int))) * (1 : Int)) ≤ ((2 : Int) ^ (46 : Nat))))) && true)
         (w2
          (fun l287 b288 i289 i290 i291 l292 l293 => br (decide (i290 = (0 : Int)))
           (br b288
            (br (decide (i291 = (IntKind.wrap .i64 ((Nat.cast (List.length l287) : Int) + (1 : Int)))))
             (c1 l292 l293
              (fun i294 i295 l296 l297 => br (decide (i294 = i291))
               (k0 (decide (i295 = (7 : Int))))
               (k0 false)))
             (c1 l292 l293
              (fun i298 i299 l300 l301 => br (decide (i298 = i289))
               (k0 (decide (i299 = i290)))
               (k0 false))))
            (c1 l292 l293
             (fun i302 i303 l304 l305 => br (decide (i302 = i289))
              (k0 (decide (i303 = i290)))
              (k0 false))))
           (c1 l292 l293
            (fun i306 i307 l308 l309 => br (decide (i306 = i289))
             (k0 (decide (i307 = i290)))
             (k0 false))))
          N l281 b282 i283 i284 (0 : Int) l285 l286 (List.replicate (Int.toNat (IntKind.wrap .i64 ((Nat.cast (List.length l285) : Int) + (1 : Int)))) false))
         (none))
        N l190 b191 (0 : Int) (0 : Int) (0 : Int) l192 l193)))
     N x0 x1 (0 : Int) ([] : List (((Sh.int IntKind.i64).pair (Sh.int IntKind.i64)).T)) ([] : List (Sh.str.T)))))
noncomputable def law11_CheckJumps (N : Nat) {R : Type} (x0 : List (Int)) (x1 : Bool) (k0 : (Bool) → Option R) : Option R := law11_CheckJumps_T N (@check_Run_0ce7 N) (@check_Run_87f1 N) (@law11_awake N) (@law11_CheckJumps_l0 N) (@law11_CheckJumps_l1 N) (@law11_CheckJumps_l2 N) x0 x1 k0
end Go.Proofs.Ytppmkhgpljkljaa
