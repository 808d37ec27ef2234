/-
  The functions that the statement reaches, each as a function of Lean (printed by a program of this work).
-/
import Derived.Test.YtnbemmflnknddaaGx5
set_option linter.unusedVariables false
set_option maxRecDepth 100000
namespace Go.Proofs.Ytnbemmflnknddaa
open Go.Gx
abbrev stringslite_IndexByte_Ty : Type 1 := {R : Type} → (ByteArray) → (Int) → ((Int) → Option R) → Option R
abbrev stringslite_Index_Ty : Type 1 := {R : Type} → (ByteArray) → (ByteArray) → ((Int) → Option R) → Option R
noncomputable def stringslite_Index_T (N : Nat) (c0 : stringslite_IndexByte_Ty) {R : Type} (x0 : ByteArray) (x1 : ByteArray) (k0 : (Int) → Option R) : Option R :=
  br (!(decide ((Nat.cast (ByteArray.size x1) : Int) = (0 : Int))))
  (br (decide (x1 = x0))
   (k0 (0 : Int))
   (br (decide ((Nat.cast (ByteArray.size x1) : Int) = (1 : Int)))
    (br (inB (0 : Int) (ByteArray.size x1))
     (c0 x0 (bt x1 (0 : Int))
      (fun i0 => k0 i0))
     (none))
    (br (decide ((Nat.cast (ByteArray.size x0) : Int) ≤ (Nat.cast (ByteArray.size x1) : Int)))
     (k0 (-1 : Int))
     (none))))
  (k0 (0 : Int))
noncomputable def stringslite_Index (N : Nat) {R : Type} (x0 : ByteArray) (x1 : ByteArray) (k0 : (Int) → Option R) : Option R := stringslite_Index_T N @stringslite_IndexByte x0 x1 k0
abbrev stringslite_Cut_Ty : Type 1 := {R : Type} → (ByteArray) → (ByteArray) → ((ByteArray) → (ByteArray) → (Bool) → Option R) → Option R
noncomputable def stringslite_Cut_T (N : Nat) (c0 : stringslite_Index_Ty) {R : Type} (x0 : ByteArray) (x1 : ByteArray) (k0 : (ByteArray) → (ByteArray) → (Bool) → Option R) : Option R :=
  c0 x0 x1
  (fun i1 => br (decide ((0 : Int) ≤ i1))
   (br (leB i1 (ByteArray.size x0))
    (br (leB (IntKind.wrap .i64 (i1 + (Nat.cast (ByteArray.size x1) : Int))) (ByteArray.size x0))
     (k0 (ByteArray.extract x0 (0 : Nat) (Int.toNat i1)) (ByteArray.extract x0 (Int.toNat (IntKind.wrap .i64 (i1 + (Nat.cast (ByteArray.size x1) : Int)))) (ByteArray.size x0)) true)
     (none))
    (none))
   (k0 x0 (bs []) false))
noncomputable def stringslite_Cut (N : Nat) {R : Type} (x0 : ByteArray) (x1 : ByteArray) (k0 : (ByteArray) → (ByteArray) → (Bool) → Option R) : Option R := stringslite_Cut_T N (@stringslite_Index N) x0 x1 k0
abbrev strings_Cut_Ty : Type 1 := {R : Type} → (ByteArray) → (ByteArray) → ((ByteArray) → (ByteArray) → (Bool) → Option R) → Option R
noncomputable def strings_Cut_T (N : Nat) (c0 : stringslite_Cut_Ty) {R : Type} (x0 : ByteArray) (x1 : ByteArray) (k0 : (ByteArray) → (ByteArray) → (Bool) → Option R) : Option R :=
  c0 x0 x1
  (fun s2 s3 b4 => k0 s2 s3 b4)
noncomputable def strings_Cut (N : Nat) {R : Type} (x0 : ByteArray) (x1 : ByteArray) (k0 : (ByteArray) → (ByteArray) → (Bool) → Option R) : Option R := strings_Cut_T N (@stringslite_Cut N) x0 x1 k0
abbrev check_letter_Ty : Type 1 := {R : Type} → (Int) → ((Bool) → Option R) → Option R
noncomputable def check_letter_T (N : Nat) {R : Type} (x0 : Int) (k0 : (Bool) → Option R) : Option R :=
  br (decide ((97 : Int) ≤ x0))
  (br (!(decide (x0 ≤ (122 : Int))))
   (br (decide ((48 : Int) ≤ x0))
    (br (!(decide (x0 ≤ (57 : Int))))
     (br (!(decide (x0 = (46 : Int))))
      (k0 (decide (x0 = (95 : Int))))
      (k0 true))
     (k0 true))
    (br (!(decide (x0 = (46 : Int))))
     (k0 (decide (x0 = (95 : Int))))
     (k0 true)))
   (k0 true))
  (br (decide ((48 : Int) ≤ x0))
   (br (!(decide (x0 ≤ (57 : Int))))
    (br (!(decide (x0 = (46 : Int))))
     (k0 (decide (x0 = (95 : Int))))
     (k0 true))
    (k0 true))
   (br (!(decide (x0 = (46 : Int))))
    (k0 (decide (x0 = (95 : Int))))
    (k0 true)))
noncomputable def check_letter (N : Nat) {R : Type} (x0 : Int) (k0 : (Bool) → Option R) : Option R := check_letter_T N x0 k0
abbrev check_part_l0_Ty : Type 1 := {R : Type} → ((ByteArray) → (Bool) → Option R) → ((ByteArray) → Option R) → Nat → (ByteArray) → (Int) → (Int) → Option R
abbrev check_part_Ty : Type 1 := {R : Type} → (ByteArray) → ((Bool) → Option R) → Option R
noncomputable def check_part_l0_T0 (N : Nat) (c0 : check_letter_Ty) {R : Type} (nx : (ByteArray) → (Int) → (Int) → Option R) (k0 : (ByteArray) → (Bool) → Option R) (k1 : (ByteArray) → Option R) (x0 : ByteArray) (x1 : Int) (x2 : Int) : Option R :=
  br (decide (x2 < x1))
  (br (inB x2 (ByteArray.size x0))
   (c0 (bt x0 x2)
    (fun b8 => br (!b8)
     (k0 x0 false)
     (nx x0 x1 (IntKind.wrap .i64 (x2 + (1 : Int))))))
   (none))
  (k1 x0)
noncomputable def check_part_l0 (N : Nat) {R : Type} (k0 : (ByteArray) → (Bool) → Option R) (k1 : (ByteArray) → Option R) : Nat → (ByteArray) → (Int) → (Int) → Option R
  | 0, _, _, _ => none
  | n + 1, x0, x1, x2 => check_part_l0_T0 N (@check_letter N) (fun x0 x1 x2 => check_part_l0 N k0 k1 n x0 x1 x2) k0 k1 x0 x1 x2
noncomputable def check_part_T (N : Nat) (c0 : check_letter_Ty) (w0 : check_part_l0_Ty) {R : Type} (x0 : ByteArray) (k0 : (Bool) → Option R) : Option R :=
  w0
  (fun s9 b10 => k0 b10)
  (fun s11 => br (!(decide (s11 = (bs []))))
   (br (!(decide (s11 = (bs [46]))))
    (k0 (!(decide (s11 = (bs [46, 46])))))
    (k0 false))
   (k0 false))
  N x0 (Nat.cast (ByteArray.size x0) : Int) (0 : Int)
noncomputable def check_part (N : Nat) {R : Type} (x0 : ByteArray) (k0 : (Bool) → Option R) : Option R := check_part_T N (@check_letter N) (@check_part_l0 N) x0 k0
abbrev check_Name_Ty : Type 1 := {R : Type} → (ByteArray) → ((Bool) → Option R) → Option R
noncomputable def check_Name_T (N : Nat) (c0 : check_part_Ty) (c1 : strings_Cut_Ty) {R : Type} (x0 : ByteArray) (k0 : (Bool) → Option R) : Option R :=
  br (decide ((8 : Int) < (Nat.cast (ByteArray.size x0) : Int)))
  (k0 false)
  (c1 x0 (bs [47])
   (fun s5 s6 b7 => c0 s5
    (fun b12 => br b12
     (br (!(!b7))
      (c0 s6
       (fun b13 => k0 b13))
      (k0 true))
     (k0 false))))
noncomputable def check_Name (N : Nat) {R : Type} (x0 : ByteArray) (k0 : (Bool) → Option R) : Option R := check_Name_T N (@check_part N) (@strings_Cut N) x0 k0
abbrev inst_table_Ty : Type 1 := {R : Type} → (Int) → ((Int) → (Int) → (Int) → (Bool) → Option R) → Option R
noncomputable def inst_table_T (N : Nat) {R : Type} (x0 : Int) (k0 : (Int) → (Int) → (Int) → (Bool) → Option R) : Option R :=
  br (decide (x0 = (1 : Int)))
  (k0 (0 : Int) (1 : Int) (65536 : Int) true)
  (br (decide (x0 = (2 : Int)))
   (k0 (1 : Int) (0 : Int) (1 : Int) true)
   (br (decide (x0 = (24 : Int)))
    (k0 (1 : Int) (0 : Int) (1 : Int) true)
    (br (decide (x0 = (25 : Int)))
     (k0 (1 : Int) (0 : Int) (1 : Int) true)
     (br (decide (x0 = (26 : Int)))
      (k0 (1 : Int) (0 : Int) (1 : Int) true)
      (br (decide (x0 = (3 : Int)))
       (k0 (1 : Int) (2 : Int) (1 : Int) true)
       (br (decide (x0 = (4 : Int)))
        (k0 (2 : Int) (2 : Int) (1 : Int) true)
        (br (decide (x0 = (5 : Int)))
         (k0 (2 : Int) (1 : Int) (1 : Int) true)
         (br (decide (x0 = (6 : Int)))
          (k0 (2 : Int) (1 : Int) (1 : Int) true)
          (br (decide (x0 = (7 : Int)))
           (k0 (2 : Int) (1 : Int) (1 : Int) true)
           (br (decide (x0 = (8 : Int)))
            (k0 (2 : Int) (1 : Int) (1 : Int) true)
            (br (decide (x0 = (9 : Int)))
             (k0 (2 : Int) (1 : Int) (1 : Int) true)
             (br (decide (x0 = (10 : Int)))
              (k0 (2 : Int) (1 : Int) (1 : Int) true)
              (br (decide (x0 = (11 : Int)))
               (k0 (2 : Int) (1 : Int) (1 : Int) true)
               (br (decide (x0 = (12 : Int)))
                (k0 (2 : Int) (1 : Int) (1 : Int) true)
                (br (decide (x0 = (13 : Int)))
                 (k0 (2 : Int) (1 : Int) (1 : Int) true)
                 (br (decide (x0 = (14 : Int)))
                  (k0 (2 : Int) (1 : Int) (1 : Int) true)
                  (br (decide (x0 = (15 : Int)))
                   (k0 (2 : Int) (1 : Int) (1 : Int) true)
                   (br (decide (x0 = (16 : Int)))
                    (k0 (2 : Int) (1 : Int) (1 : Int) true)
                    (br (decide (x0 = (31 : Int)))
                     (k0 (2 : Int) (1 : Int) (1 : Int) true)
                     (br (decide (x0 = (38 : Int)))
                      (k0 (2 : Int) (1 : Int) (1 : Int) true)
                      (br (decide (x0 = (41 : Int)))
                       (k0 (2 : Int) (1 : Int) (1 : Int) true)
                       (br (decide (x0 = (17 : Int)))
                        (k0 (1 : Int) (1 : Int) (1 : Int) true)
                        (br (decide (x0 = (20 : Int)))
                         (k0 (1 : Int) (1 : Int) (1 : Int) true)
                         (br (decide (x0 = (28 : Int)))
                          (k0 (1 : Int) (1 : Int) (1 : Int) true)
                          (br (decide (x0 = (32 : Int)))
                           (k0 (1 : Int) (1 : Int) (1 : Int) true)
                           (br (decide (x0 = (39 : Int)))
                            (k0 (1 : Int) (1 : Int) (1 : Int) true)
                            (br (decide (x0 = (18 : Int)))
                             (k0 (0 : Int) (1 : Int) (8 : Int) true)
                             (br (decide (x0 = (19 : Int)))
                              (k0 (1 : Int) (0 : Int) (8 : Int) true)
                              (br (decide (x0 = (21 : Int)))
                               (k0 (2 : Int) (0 : Int) (1 : Int) true)
                               (br (decide (x0 = (22 : Int)))
                                (k0 (0 : Int) (0 : Int) (96 : Int) true)
                                (br (decide (x0 = (23 : Int)))
                                 (k0 (1 : Int) (0 : Int) (96 : Int) true)
                                 (br (decide (x0 = (29 : Int)))
                                  (k0 (3 : Int) (1 : Int) (1 : Int) true)
                                  (br (decide (x0 = (30 : Int)))
                                   (k0 (3 : Int) (1 : Int) (1 : Int) true)
                                   (br (decide (x0 = (27 : Int)))
                                    (k0 (0 : Int) (1 : Int) (8 : Int) true)
                                    (br (decide (x0 = (33 : Int)))
                                     (k0 (0 : Int) (1 : Int) (8 : Int) true)
                                     (br (decide (x0 = (35 : Int)))
                                      (k0 (0 : Int) (1 : Int) (8 : Int) true)
                                      (br (decide (x0 = (36 : Int)))
                                       (k0 (0 : Int) (1 : Int) (8 : Int) true)
                                       (br (decide (x0 = (37 : Int)))
                                        (k0 (0 : Int) (1 : Int) (8 : Int) true)
                                        (br (decide (x0 = (34 : Int)))
                                         (k0 (0 : Int) (1 : Int) (64 : Int) true)
                                         (br (decide (x0 = (40 : Int)))
                                          (k0 (0 : Int) (1 : Int) (1 : Int) true)
                                          (k0 (0 : Int) (0 : Int) (0 : Int) false)))))))))))))))))))))))))))))))))))))))))
noncomputable def inst_table (N : Nat) {R : Type} (x0 : Int) (k0 : (Int) → (Int) → (Int) → (Bool) → Option R) : Option R := inst_table_T N x0 k0
abbrev inst_May_Ty : Type 1 := {R : Type} → (Int) → (Int) → ((Bool) → Option R) → Option R
noncomputable def inst_May_T (N : Nat) (c0 : inst_table_Ty) {R : Type} (x0 : Int) (x1 : Int) (k0 : (Bool) → Option R) : Option R :=
  c0 x0
  (fun i21 i22 i23 b24 => br b24
   (br (decide ((0 : Int) ≤ x1))
    (k0 (decide (x1 < i23)))
    (k0 false))
   (k0 false))
noncomputable def inst_May (N : Nat) {R : Type} (x0 : Int) (x1 : Int) (k0 : (Bool) → Option R) : Option R := inst_May_T N (@inst_table N) x0 x1 k0
abbrev check_names_Ty : Type 1 := {R : Type} → (Int) → (Int) → (Int) → ((Bool) → Option R) → Option R
noncomputable def check_names_T (N : Nat) {R : Type} (x0 : Int) (x1 : Int) (x2 : Int) (k0 : (Bool) → Option R) : Option R :=
  br (decide (x0 = (27 : Int)))
  (k0 (decide (x1 < x2)))
  (br (decide (x0 = (33 : Int)))
   (k0 (decide (x1 < x2)))
   (br (decide (x0 = (35 : Int)))
    (k0 (decide (x1 < x2)))
    (br (decide (x0 = (36 : Int)))
     (k0 (decide (x1 < x2)))
     (br (decide (x0 = (37 : Int)))
      (k0 (decide (x1 < x2)))
      (br (decide (x0 = (34 : Int)))
       (br (decide ((IntKind.wrap .i64 (Int.tdiv x1 (8 : Int))) < x2))
        (k0 (decide ((Int.tmod x1 (8 : Int)) < x2)))
        (k0 false))
       (k0 true))))))
noncomputable def check_names (N : Nat) {R : Type} (x0 : Int) (x1 : Int) (x2 : Int) (k0 : (Bool) → Option R) : Option R := check_names_T N x0 x1 x2 k0
abbrev inst_Jumps_Ty : Type 1 := {R : Type} → (Int) → ((Bool) → Option R) → Option R
noncomputable def inst_Jumps_T (N : Nat) {R : Type} (x0 : Int) (k0 : (Bool) → Option R) : Option R :=
  br (!(decide (x0 = (22 : Int))))
  (k0 (decide (x0 = (23 : Int))))
  (k0 true)
noncomputable def inst_Jumps (N : Nat) {R : Type} (x0 : Int) (k0 : (Bool) → Option R) : Option R := inst_Jumps_T N x0 k0
abbrev inst_Ends_Ty : Type 1 := {R : Type} → (Int) → ((Bool) → Option R) → Option R
noncomputable def inst_Ends_T (N : Nat) {R : Type} (x0 : Int) (k0 : (Bool) → Option R) : Option R :=
  br (!(decide (x0 = (22 : Int))))
  (k0 (decide (x0 = (26 : Int))))
  (k0 true)
noncomputable def inst_Ends (N : Nat) {R : Type} (x0 : Int) (k0 : (Bool) → Option R) : Option R := inst_Ends_T N x0 k0
abbrev check_one_ebbf_Ty : Type 1 := {R : Type} → (Int) → (List ((Int) × (Int))) → (List (ByteArray)) → ((Int) → (List ((Int) × (Int))) → (List (ByteArray)) → Option R) → Option R
noncomputable def check_one_ebbf_T (N : Nat) (c0 : inst_Ends_Ty) (c1 : inst_Jumps_Ty) (c2 : check_names_Ty) (c3 : inst_May_Ty) {R : Type} (x0 : Int) (x1 : List ((Int) × (Int))) (x2 : List (ByteArray)) (k0 : (Int) → (List ((Int) × (Int))) → (List (ByteArray)) → Option R) : Option R :=
  br (inB x0 (List.length x1))
  (br (decide ((Int.toNat x0) < (List.length x1)))
   (c3 (List.getD x1 (Int.toNat x0) ((0 : Int) , (0 : Int))).1 (List.getD x1 (Int.toNat x0) ((0 : Int) , (0 : Int))).2
    (fun b25 => br (!b25)
     (k0 (5 : Int) x1 x2)
     (c2 (List.getD x1 (Int.toNat x0) ((0 : Int) , (0 : Int))).1 (List.getD x1 (Int.toNat x0) ((0 : Int) , (0 : Int))).2 (Nat.cast (List.length x2) : Int)
      (fun b26 => br (!b26)
       (k0 (10 : Int) x1 x2)
       (c1 (List.getD x1 (Int.toNat x0) ((0 : Int) , (0 : Int))).1
        (fun b27 => br b27
         (br (decide ((Nat.cast (List.length x1) : Int) ≤ (List.getD x1 (Int.toNat x0) ((0 : Int) , (0 : Int))).2))
          (k0 (6 : Int) x1 x2)
          (c0 (List.getD x1 (Int.toNat x0) ((0 : Int) , (0 : Int))).1
           (fun b28 => br (!b28)
            (br (decide ((IntKind.wrap .i64 (x0 + (1 : Int))) = (Nat.cast (List.length x1) : Int)))
             (k0 (8 : Int) x1 x2)
             (k0 (0 : Int) x1 x2))
            (k0 (0 : Int) x1 x2))))
         (c0 (List.getD x1 (Int.toNat x0) ((0 : Int) , (0 : Int))).1
          (fun b29 => br (!b29)
           (br (decide ((IntKind.wrap .i64 (x0 + (1 : Int))) = (Nat.cast (List.length x1) : Int)))
            (k0 (8 : Int) x1 x2)
            (k0 (0 : Int) x1 x2))
           (k0 (0 : Int) x1 x2)))))))))
   (none))
  (none)
noncomputable def check_one_ebbf (N : Nat) {R : Type} (x0 : Int) (x1 : List ((Int) × (Int))) (x2 : List (ByteArray)) (k0 : (Int) → (List ((Int) × (Int))) → (List (ByteArray)) → Option R) : Option R := check_one_ebbf_T N (@inst_Ends N) (@inst_Jumps N) (@check_names N) (@inst_May N) x0 x1 x2 k0
abbrev check_one_Ty : Type 1 := {R : Type} → (List ((Int) × (Int))) → (List (ByteArray)) → (Int) → ((Int) → Option R) → Option R
noncomputable def check_one_T (N : Nat) (c0 : inst_Ends_Ty) (c1 : inst_Jumps_Ty) (c2 : check_names_Ty) (c3 : inst_May_Ty) {R : Type} (x0 : List ((Int) × (Int))) (x1 : List (ByteArray)) (x2 : Int) (k0 : (Int) → Option R) : Option R :=
  br (inB x2 (List.length x0))
  (c3 (List.getD x0 (Int.toNat x2) ((0 : Int) , (0 : Int))).1 (List.getD x0 (Int.toNat x2) ((0 : Int) , (0 : Int))).2
   (fun b201 => br (!b201)
    (k0 (5 : Int))
    (c2 (List.getD x0 (Int.toNat x2) ((0 : Int) , (0 : Int))).1 (List.getD x0 (Int.toNat x2) ((0 : Int) , (0 : Int))).2 (Nat.cast (List.length x1) : Int)
     (fun b202 => br (!b202)
      (k0 (10 : Int))
      (c1 (List.getD x0 (Int.toNat x2) ((0 : Int) , (0 : Int))).1
       (fun b203 => br b203
        (br (decide ((Nat.cast (List.length x0) : Int) ≤ (List.getD x0 (Int.toNat x2) ((0 : Int) , (0 : Int))).2))
         (k0 (6 : Int))
         (c0 (List.getD x0 (Int.toNat x2) ((0 : Int) , (0 : Int))).1
          (fun b204 => br (!b204)
           (br (decide ((IntKind.wrap .i64 (x2 + (1 : Int))) = (Nat.cast (List.length x0) : Int)))
            (k0 (8 : Int))
            (k0 (0 : Int)))
           (k0 (0 : Int)))))
        (c0 (List.getD x0 (Int.toNat x2) ((0 : Int) , (0 : Int))).1
         (fun b205 => br (!b205)
          (br (decide ((IntKind.wrap .i64 (x2 + (1 : Int))) = (Nat.cast (List.length x0) : Int)))
           (k0 (8 : Int))
           (k0 (0 : Int)))
          (k0 (0 : Int))))))))))
  (none)
noncomputable def check_one (N : Nat) {R : Type} (x0 : List ((Int) × (Int))) (x1 : List (ByteArray)) (x2 : Int) (k0 : (Int) → Option R) : Option R := check_one_T N (@inst_Ends N) (@inst_Jumps N) (@check_names N) (@inst_May N) x0 x1 x2 k0
abbrev inst_Takes_Ty : Type 1 := {R : Type} → (Int) → ((Int) → Option R) → Option R
noncomputable def inst_Takes_T (N : Nat) (c0 : inst_table_Ty) {R : Type} (x0 : Int) (k0 : (Int) → Option R) : Option R :=
  c0 x0
  (fun i39 i40 i41 b42 => br (!b42)
   (k0 (-1 : Int))
   (k0 i39))
noncomputable def inst_Takes (N : Nat) {R : Type} (x0 : Int) (k0 : (Int) → Option R) : Option R := inst_Takes_T N (@inst_table N) x0 k0
abbrev inst_Gives_Ty : Type 1 := {R : Type} → (Int) → ((Int) → Option R) → Option R
noncomputable def inst_Gives_T (N : Nat) (c0 : inst_table_Ty) {R : Type} (x0 : Int) (k0 : (Int) → Option R) : Option R :=
  c0 x0
  (fun i44 i45 i46 b47 => br (!b47)
   (k0 (-1 : Int))
   (k0 i45))
noncomputable def inst_Gives (N : Nat) {R : Type} (x0 : Int) (k0 : (Int) → Option R) : Option R := inst_Gives_T N (@inst_table N) x0 k0
abbrev check_behind_Ty : Type 1 := {R : Type} → (Int) → (Int) → (Int) → ((Int) → (Bool) → Option R) → Option R
noncomputable def check_behind_T (N : Nat) (c0 : inst_Gives_Ty) (c1 : inst_Takes_Ty) {R : Type} (x0 : Int) (x1 : Int) (x2 : Int) (k0 : (Int) → (Bool) → Option R) : Option R :=
  c1 x0
  (fun i43 => c0 x0
   (fun i48 => br (decide ((0 : Int) ≤ (IntKind.wrap .i64 (x2 - i43))))
    (k0 (IntKind.wrap .i64 ((IntKind.wrap .i64 (x2 - i43)) + i48)) (decide ((IntKind.wrap .i64 ((IntKind.wrap .i64 (x2 - i43)) + i48)) ≤ (16 : Int))))
    (k0 (IntKind.wrap .i64 ((IntKind.wrap .i64 (x2 - i43)) + i48)) false)))
noncomputable def check_behind (N : Nat) {R : Type} (x0 : Int) (x1 : Int) (x2 : Int) (k0 : (Int) → (Bool) → Option R) : Option R := check_behind_T N (@inst_Gives N) (@inst_Takes N) x0 x1 x2 k0
abbrev check_next_ebbf_Ty : Type 1 := {R : Type} → (Int) → (List ((Int) × (Int))) → (List (ByteArray)) → ((List ((Int) × (Int))) → (List (ByteArray)) → (List (Int)) → Option R) → Option R
noncomputable def check_next_ebbf_T (N : Nat) (c0 : inst_Jumps_Ty) (c1 : inst_Ends_Ty) {R : Type} (x0 : Int) (x1 : List ((Int) × (Int))) (x2 : List (ByteArray)) (k0 : (List ((Int) × (Int))) → (List (ByteArray)) → (List (Int)) → Option R) : Option R :=
  br (inB x0 (List.length x1))
  (br (decide ((Int.toNat x0) < (List.length x1)))
   (c1 (List.getD x1 (Int.toNat x0) ((0 : Int) , (0 : Int))).1
    (fun b54 => br (!b54)
     (c0 (List.getD x1 (Int.toNat x0) ((0 : Int) , (0 : Int))).1
      (fun b55 => br b55
       (k0 x1 x2 ((IntKind.wrap .i64 (x0 + (1 : Int))) :: ((List.getD x1 (Int.toNat x0) ((0 : Int) , (0 : Int))).2 :: ([] : List (Int)))))
       (k0 x1 x2 ((IntKind.wrap .i64 (x0 + (1 : Int))) :: ([] : List (Int))))))
     (c0 (List.getD x1 (Int.toNat x0) ((0 : Int) , (0 : Int))).1
      (fun b56 => br b56
       (k0 x1 x2 ((List.getD x1 (Int.toNat x0) ((0 : Int) , (0 : Int))).2 :: ([] : List (Int))))
       (k0 x1 x2 ([] : List (Int)))))))
   (none))
  (none)
noncomputable def check_next_ebbf (N : Nat) {R : Type} (x0 : Int) (x1 : List ((Int) × (Int))) (x2 : List (ByteArray)) (k0 : (List ((Int) × (Int))) → (List (ByteArray)) → (List (Int)) → Option R) : Option R := check_next_ebbf_T N (@inst_Jumps N) (@inst_Ends N) x0 x1 x2 k0
abbrev check_next_Ty : Type 1 := {R : Type} → (List ((Int) × (Int))) → (List (ByteArray)) → (Int) → ((List (Int)) → Option R) → Option R
noncomputable def check_next_T (N : Nat) (c0 : inst_Jumps_Ty) (c1 : inst_Ends_Ty) {R : Type} (x0 : List ((Int) × (Int))) (x1 : List (ByteArray)) (x2 : Int) (k0 : (List (Int)) → Option R) : Option R :=
  br (inB x2 (List.length x0))
  (c1 (List.getD x0 (Int.toNat x2) ((0 : Int) , (0 : Int))).1
   (fun b218 => br (!b218)
    (c0 (List.getD x0 (Int.toNat x2) ((0 : Int) , (0 : Int))).1
     (fun b219 => br b219
      (k0 ((IntKind.wrap .i64 (x2 + (1 : Int))) :: ((List.getD x0 (Int.toNat x2) ((0 : Int) , (0 : Int))).2 :: ([] : List (Int)))))
      (k0 ((IntKind.wrap .i64 (x2 + (1 : Int))) :: ([] : List (Int))))))
    (c0 (List.getD x0 (Int.toNat x2) ((0 : Int) , (0 : Int))).1
     (fun b220 => br b220
      (k0 ((List.getD x0 (Int.toNat x2) ((0 : Int) , (0 : Int))).2 :: ([] : List (Int))))
      (k0 ([] : List (Int)))))))
  (none)
noncomputable def check_next (N : Nat) {R : Type} (x0 : List ((Int) × (Int))) (x1 : List (ByteArray)) (x2 : Int) (k0 : (List (Int)) → Option R) : Option R := check_next_T N (@inst_Jumps N) (@inst_Ends N) x0 x1 x2 k0
abbrev check_reach_87f1_l0_Ty : Type 1 := {R : Type} → ((List ((Int) × (Int))) → (List (ByteArray)) → (List (Bool)) → Option R) → Nat → (Bool) → (List ((Int) × (Int))) → (List (ByteArray)) → (List (Bool)) → Option R
abbrev check_reach_87f1_l1_Ty : Type 1 := {R : Type} → ((Bool) → (List ((Int) × (Int))) → (List (ByteArray)) → (List (Bool)) → Option R) → Nat → (Bool) → (Int) → (Int) → (List ((Int) × (Int))) → (List (ByteArray)) → (List (Bool)) → Option R
abbrev check_reach_87f1_l2_Ty : Type 1 := {R : Type} → ((Bool) → (Int) → (Int) → (List ((Int) × (Int))) → (List (ByteArray)) → (List (Bool)) → Option R) → Nat → (Bool) → (Int) → (Int) → (Int) → (List (Bool)) → (Int) → (List ((Int) × (Int))) → (List (ByteArray)) → (List (Bool)) → (Int) → (Int) → Option R
abbrev check_reach_87f1_l3_Ty : Type 1 := {R : Type} → ((Bool) → (Int) → (Int) → (Int) → (List (Bool)) → (Int) → (List ((Int) × (Int))) → (List (ByteArray)) → (List (Bool)) → (Int) → (Int) → Option R) → Nat → (Bool) → (Int) → (Int) → (Int) → (Int) → (List (Bool)) → (Int) → (Int) → (Int) → (List ((Int) × (Int))) → (List (ByteArray)) → (List (Bool)) → (Int) → (Int) → (List (Int)) → Option R
abbrev check_reach_87f1_Ty : Type 1 := {R : Type} → (List ((Int) × (Int))) → (List (ByteArray)) → ((List ((Int) × (Int))) → (List (ByteArray)) → (List (Bool)) → Option R) → Option R
noncomputable def check_reach_87f1_l0_T0 (N : Nat) (c0 : check_next_ebbf_Ty) (c1 : check_next_Ty) (c2 : check_behind_Ty) (w1 : check_reach_87f1_l1_Ty) (w2 : check_reach_87f1_l2_Ty) (w3 : check_reach_87f1_l3_Ty) {R : Type} (nx : (Bool) → (List ((Int) × (Int))) → (List (ByteArray)) → (List (Bool)) → Option R) (k0 : (List ((Int) × (Int))) → (List (ByteArray)) → (List (Bool)) → Option R) (x0 : Bool) (x1 : List ((Int) × (Int))) (x2 : List (ByteArray)) (x3 : List (Bool)) : Option R :=
  br x0
  (w1
   (fun b77 l78 l79 l80 => nx b77 l78 l79 l80)
   N false (Nat.cast (List.length x1) : Int) (0 : Int) x1 x2 x3)
  (k0 x1 x2 x3)
noncomputable def check_reach_87f1_l1_T0 (N : Nat) (c0 : check_next_ebbf_Ty) (c1 : check_next_Ty) (c2 : check_behind_Ty) (w2 : check_reach_87f1_l2_Ty) (w3 : check_reach_87f1_l3_Ty) {R : Type} (nx : (Bool) → (Int) → (Int) → (List ((Int) × (Int))) → (List (ByteArray)) → (List (Bool)) → Option R) (k0 : (Bool) → (List ((Int) × (Int))) → (List (ByteArray)) → (List (Bool)) → Option R) (x0 : Bool) (x1 : Int) (x2 : Int) (x3 : List ((Int) × (Int))) (x4 : List (ByteArray)) (x5 : List (Bool)) : Option R :=
  br (decide (x2 < x1))
  (br (inB x2 (List.length x3))
   (br (decide ((Int.toNat x2) < (List.length x3)))
    (br (inB x2 (96 : Nat))
     (br (decide ((((Int.toNat x2) + (1 : Nat)) * (17 : Nat)) ≤ (1632 : Nat)))
      (w2
       (fun b71 i72 i73 l74 l75 l76 => nx b71 i72 (IntKind.wrap .i64 (i73 + (1 : Int))) l74 l75 l76)
       N x0 x2 x1 x2 (sub x5 ((Int.toNat x2) * (17 : Nat)) (17 : Nat)) (0 : Int) x3 x4 x5 (List.getD x3 (Int.toNat x2) ((0 : Int) , (0 : Int))).1 (List.getD x3 (Int.toNat x2) ((0 : Int) , (0 : Int))).2)
      (none))
     (none))
    (none))
   (none))
  (k0 x0 x3 x4 x5)
noncomputable def check_reach_87f1_l2_T0 (N : Nat) (c0 : check_next_ebbf_Ty) (c1 : check_next_Ty) (c2 : check_behind_Ty) (w3 : check_reach_87f1_l3_Ty) {R : Type} (nx : (Bool) → (Int) → (Int) → (Int) → (List (Bool)) → (Int) → (List ((Int) × (Int))) → (List (ByteArray)) → (List (Bool)) → (Int) → (Int) → Option R) (k0 : (Bool) → (Int) → (Int) → (List ((Int) × (Int))) → (List (ByteArray)) → (List (Bool)) → Option R) (x0 : Bool) (x1 : Int) (x2 : Int) (x3 : Int) (x4 : List (Bool)) (x5 : Int) (x6 : List ((Int) × (Int))) (x7 : List (ByteArray)) (x8 : List (Bool)) (x9 : Int) (x10 : Int) : Option R :=
  br (decide (x5 < (17 : Int)))
  (br (inB x5 (17 : Nat))
   (c2 x9 x10 x5
    (fun i49 b50 => br (!(!(List.getD x4 (Int.toNat x5) false)))
     (br (!b50)
      (nx x0 x1 x2 x3 x4 (IntKind.wrap .i64 (x5 + (1 : Int))) x6 x7 x8 x9 x10)
      (c0 x1 x6 x7
       (fun l57 l58 l59 => w3
        (fun b60 i61 i62 i63 l64 i65 l66 l67 l68 i69 i70 => nx b60 i61 i62 i63 l64 (IntKind.wrap .i64 (i65 + (1 : Int))) l66 l67 l68 i69 i70)
        N x0 x1 i49 x2 x3 x4 x5 (Nat.cast (List.length l59) : Int) (0 : Int) l57 l58 x8 x9 x10 l59)))
     (nx x0 x1 x2 x3 x4 (IntKind.wrap .i64 (x5 + (1 : Int))) x6 x7 x8 x9 x10)))
   (none))
  (k0 x0 x2 x3 x6 x7 x8)
noncomputable def check_reach_87f1_l3_T0 (N : Nat) (c0 : check_next_ebbf_Ty) (c1 : check_next_Ty) (c2 : check_behind_Ty) {R : Type} (nx : (Bool) → (Int) → (Int) → (Int) → (Int) → (List (Bool)) → (Int) → (Int) → (Int) → (List ((Int) × (Int))) → (List (ByteArray)) → (List (Bool)) → (Int) → (Int) → (List (Int)) → Option R) (k0 : (Bool) → (Int) → (Int) → (Int) → (List (Bool)) → (Int) → (List ((Int) × (Int))) → (List (ByteArray)) → (List (Bool)) → (Int) → (Int) → Option R) (x0 : Bool) (x1 : Int) (x2 : Int) (x3 : Int) (x4 : Int) (x5 : List (Bool)) (x6 : Int) (x7 : Int) (x8 : Int) (x9 : List ((Int) × (Int))) (x10 : List (ByteArray)) (x11 : List (Bool)) (x12 : Int) (x13 : Int) (x14 : List (Int)) : Option R :=
  br (decide (x8 < x7))
  (br (inB x8 (List.length x14))
   (br (decide ((Int.toNat x8) < (List.length x14)))
    (br (!x0)
     (br (inB (List.getD x14 (Int.toNat x8) (0 : Int)) (96 : Nat))
      (br ((inB x2 (17 : Nat)) && (decide ((0 : Int) ≤ (List.getD x14 (Int.toNat x8) (0 : Int)))))
       (br (decide ((Int.toNat (((List.getD x14 (Int.toNat x8) (0 : Int)) * (17 : Int)) + x2)) < (1632 : Nat)))
        (br (inB (List.getD x14 (Int.toNat x8) (0 : Int)) (96 : Nat))
         (br ((inB x2 (17 : Nat)) && (decide ((0 : Int) ≤ (List.getD x14 (Int.toNat x8) (0 : Int)))))
          (br (decide ((Int.toNat (((List.getD x14 (Int.toNat x8) (0 : Int)) * (17 : Int)) + x2)) < (1632 : Nat)))
           (nx (!(List.getD x11 (Int.toNat (((List.getD x14 (Int.toNat x8) (0 : Int)) * (17 : Int)) + x2)) false)) x1 x2 x3 x4 x5 x6 x7 (IntKind.wrap .i64 (x8 + (1 : Int))) x9 x10 (List.set x11 (Int.toNat (((List.getD x14 (Int.toNat x8) (0 : Int)) * (17 : Int)) + x2)) true) x12 x13 x14)
           (none))
          (none))
         (none))
        (none))
       (none))
      (none))
     (br (inB (List.getD x14 (Int.toNat x8) (0 : Int)) (96 : Nat))
      (br ((inB x2 (17 : Nat)) && (decide ((0 : Int) ≤ (List.getD x14 (Int.toNat x8) (0 : Int)))))
       (br (decide ((Int.toNat (((List.getD x14 (Int.toNat x8) (0 : Int)) * (17 : Int)) + x2)) < (1632 : Nat)))
        (nx true x1 x2 x3 x4 x5 x6 x7 (IntKind.wrap .i64 (x8 + (1 : Int))) x9 x10 (List.set x11 (Int.toNat (((List.getD x14 (Int.toNat x8) (0 : Int)) * (17 : Int)) + x2)) true) x12 x13 x14)
        (none))
       (none))
      (none)))
    (none))
   (none))
  (k0 x0 x1 x3 x4 x5 x6 x9 x10 x11 x12 x13)
noncomputable def check_reach_87f1_l3 (N : Nat) {R : Type} (k0 : (Bool) → (Int) → (Int) → (Int) → (List (Bool)) → (Int) → (List ((Int) × (Int))) → (List (ByteArray)) → (List (Bool)) → (Int) → (Int) → Option R) : Nat → (Bool) → (Int) → (Int) → (Int) → (Int) → (List (Bool)) → (Int) → (Int) → (Int) → (List ((Int) × (Int))) → (List (ByteArray)) → (List (Bool)) → (Int) → (Int) → (List (Int)) → Option R
  | 0, _, _, _, _, _, _, _, _, _, _, _, _, _, _, _ => none
  | n + 1, x0, x1, x2, x3, x4, x5, x6, x7, x8, x9, x10, x11, x12, x13, x14 => check_reach_87f1_l3_T0 N (@check_next_ebbf N) (@check_next N) (@check_behind N) (fun x0 x1 x2 x3 x4 x5 x6 x7 x8 x9 x10 x11 x12 x13 x14 => check_reach_87f1_l3 N k0 n x0 x1 x2 x3 x4 x5 x6 x7 x8 x9 x10 x11 x12 x13 x14) k0 x0 x1 x2 x3 x4 x5 x6 x7 x8 x9 x10 x11 x12 x13 x14
noncomputable def check_reach_87f1_l2 (N : Nat) {R : Type} (k0 : (Bool) → (Int) → (Int) → (List ((Int) × (Int))) → (List (ByteArray)) → (List (Bool)) → Option R) : Nat → (Bool) → (Int) → (Int) → (Int) → (List (Bool)) → (Int) → (List ((Int) × (Int))) → (List (ByteArray)) → (List (Bool)) → (Int) → (Int) → Option R
  | 0, _, _, _, _, _, _, _, _, _, _, _ => none
  | n + 1, x0, x1, x2, x3, x4, x5, x6, x7, x8, x9, x10 => check_reach_87f1_l2_T0 N (@check_next_ebbf N) (@check_next N) (@check_behind N) (@check_reach_87f1_l3 N) (fun x0 x1 x2 x3 x4 x5 x6 x7 x8 x9 x10 => check_reach_87f1_l2 N k0 n x0 x1 x2 x3 x4 x5 x6 x7 x8 x9 x10) k0 x0 x1 x2 x3 x4 x5 x6 x7 x8 x9 x10
noncomputable def check_reach_87f1_l1 (N : Nat) {R : Type} (k0 : (Bool) → (List ((Int) × (Int))) → (List (ByteArray)) → (List (Bool)) → Option R) : Nat → (Bool) → (Int) → (Int) → (List ((Int) × (Int))) → (List (ByteArray)) → (List (Bool)) → Option R
  | 0, _, _, _, _, _, _ => none
  | n + 1, x0, x1, x2, x3, x4, x5 => check_reach_87f1_l1_T0 N (@check_next_ebbf N) (@check_next N) (@check_behind N) (@check_reach_87f1_l2 N) (@check_reach_87f1_l3 N) (fun x0 x1 x2 x3 x4 x5 => check_reach_87f1_l1 N k0 n x0 x1 x2 x3 x4 x5) k0 x0 x1 x2 x3 x4 x5
noncomputable def check_reach_87f1_l0 (N : Nat) {R : Type} (k0 : (List ((Int) × (Int))) → (List (ByteArray)) → (List (Bool)) → Option R) : Nat → (Bool) → (List ((Int) × (Int))) → (List (ByteArray)) → (List (Bool)) → Option R
  | 0, _, _, _, _ => none
  | n + 1, x0, x1, x2, x3 => check_reach_87f1_l0_T0 N (@check_next_ebbf N) (@check_next N) (@check_behind N) (@check_reach_87f1_l1 N) (@check_reach_87f1_l2 N) (@check_reach_87f1_l3 N) (fun x0 x1 x2 x3 => check_reach_87f1_l0 N k0 n x0 x1 x2 x3) k0 x0 x1 x2 x3
noncomputable def check_reach_87f1_T (N : Nat) (c0 : check_next_ebbf_Ty) (c1 : check_next_Ty) (c2 : check_behind_Ty) (w0 : check_reach_87f1_l0_Ty) (w1 : check_reach_87f1_l1_Ty) (w2 : check_reach_87f1_l2_Ty) (w3 : check_reach_87f1_l3_Ty) {R : Type} (x0 : List ((Int) × (Int))) (x1 : List (ByteArray)) (k0 : (List ((Int) × (Int))) → (List (ByteArray)) → (List (Bool)) → Option R) : Option R :=
  w0
  (fun l81 l82 l83 => k0 l81 l82 l83)
  N true x0 x1 (List.set (List.replicate (1632 : Nat) false) (Int.toNat (((0 : Int) * (17 : Int)) + (0 : Int))) true)
noncomputable def check_reach_87f1 (N : Nat) {R : Type} (x0 : List ((Int) × (Int))) (x1 : List (ByteArray)) (k0 : (List ((Int) × (Int))) → (List (ByteArray)) → (List (Bool)) → Option R) : Option R := check_reach_87f1_T N (@check_next_ebbf N) (@check_next N) (@check_behind N) (@check_reach_87f1_l0 N) (@check_reach_87f1_l1 N) (@check_reach_87f1_l2 N) (@check_reach_87f1_l3 N) x0 x1 k0
abbrev check_reach_l0_Ty : Type 1 := {R : Type} → ((List (Bool)) → Option R) → Nat → (Bool) → (List ((Int) × (Int))) → (List (ByteArray)) → (List (Bool)) → Option R
abbrev check_reach_l1_Ty : Type 1 := {R : Type} → ((Bool) → (List ((Int) × (Int))) → (List (ByteArray)) → (List (Bool)) → Option R) → Nat → (Bool) → (List ((Int) × (Int))) → (Int) → (Int) → (List ((Int) × (Int))) → (List (ByteArray)) → (List (Bool)) → Option R
abbrev check_reach_l2_Ty : Type 1 := {R : Type} → ((Bool) → (List ((Int) × (Int))) → (Int) → (Int) → (List ((Int) × (Int))) → (List (ByteArray)) → (List (Bool)) → Option R) → Nat → (Bool) → (Int) → (List ((Int) × (Int))) → (Int) → (Int) → (List (Bool)) → (Int) → (List ((Int) × (Int))) → (List (ByteArray)) → (List (Bool)) → (Int) → (Int) → Option R
abbrev check_reach_l3_Ty : Type 1 := {R : Type} → ((Bool) → (Int) → (List ((Int) × (Int))) → (Int) → (Int) → (List (Bool)) → (Int) → (List ((Int) × (Int))) → (List (ByteArray)) → (List (Bool)) → (Int) → (Int) → Option R) → Nat → (Bool) → (Int) → (Int) → (List ((Int) × (Int))) → (Int) → (Int) → (List (Bool)) → (Int) → (Int) → (Int) → (List ((Int) × (Int))) → (List (ByteArray)) → (List (Bool)) → (Int) → (Int) → (List (Int)) → Option R
abbrev check_reach_Ty : Type 1 := {R : Type} → (List ((Int) × (Int))) → (List (ByteArray)) → ((List (Bool)) → Option R) → Option R
noncomputable def check_reach_l0_T0 (N : Nat) (c0 : check_next_ebbf_Ty) (c1 : check_next_Ty) (c2 : check_behind_Ty) (w1 : check_reach_l1_Ty) (w2 : check_reach_l2_Ty) (w3 : check_reach_l3_Ty) {R : Type} (nx : (Bool) → (List ((Int) × (Int))) → (List (ByteArray)) → (List (Bool)) → Option R) (k0 : (List (Bool)) → Option R) (x0 : Bool) (x1 : List ((Int) × (Int))) (x2 : List (ByteArray)) (x3 : List (Bool)) : Option R :=
  br x0
  (w1
   (fun b241 l242 l243 l244 => nx b241 l242 l243 l244)
   N false x1 (Nat.cast (List.length x1) : Int) (0 : Int) x1 x2 x3)
  (k0 x3)
noncomputable def check_reach_l1_T0 (N : Nat) (c0 : check_next_ebbf_Ty) (c1 : check_next_Ty) (c2 : check_behind_Ty) (w2 : check_reach_l2_Ty) (w3 : check_reach_l3_Ty) {R : Type} (nx : (Bool) → (List ((Int) × (Int))) → (Int) → (Int) → (List ((Int) × (Int))) → (List (ByteArray)) → (List (Bool)) → Option R) (k0 : (Bool) → (List ((Int) × (Int))) → (List (ByteArray)) → (List (Bool)) → Option R) (x0 : Bool) (x1 : List ((Int) × (Int))) (x2 : Int) (x3 : Int) (x4 : List ((Int) × (Int))) (x5 : List (ByteArray)) (x6 : List (Bool)) : Option R :=
  br (decide (x3 < x2))
  (br (inB x3 (List.length x1))
   (br (inB x3 (96 : Nat))
    (br (decide ((((Int.toNat x3) + (1 : Nat)) * (17 : Nat)) ≤ (1632 : Nat)))
     (w2
      (fun b234 l235 i236 i237 l238 l239 l240 => nx b234 l235 i236 (IntKind.wrap .i64 (i237 + (1 : Int))) l238 l239 l240)
      N x0 x3 x1 x2 x3 (sub x6 ((Int.toNat x3) * (17 : Nat)) (17 : Nat)) (0 : Int) x4 x5 x6 (List.getD x1 (Int.toNat x3) ((0 : Int) , (0 : Int))).1 (List.getD x1 (Int.toNat x3) ((0 : Int) , (0 : Int))).2)
     (none))
    (none))
   (none))
  (k0 x0 x4 x5 x6)
noncomputable def check_reach_l2_T0 (N : Nat) (c0 : check_next_ebbf_Ty) (c1 : check_next_Ty) (c2 : check_behind_Ty) (w3 : check_reach_l3_Ty) {R : Type} (nx : (Bool) → (Int) → (List ((Int) × (Int))) → (Int) → (Int) → (List (Bool)) → (Int) → (List ((Int) × (Int))) → (List (ByteArray)) → (List (Bool)) → (Int) → (Int) → Option R) (k0 : (Bool) → (List ((Int) × (Int))) → (Int) → (Int) → (List ((Int) × (Int))) → (List (ByteArray)) → (List (Bool)) → Option R) (x0 : Bool) (x1 : Int) (x2 : List ((Int) × (Int))) (x3 : Int) (x4 : Int) (x5 : List (Bool)) (x6 : Int) (x7 : List ((Int) × (Int))) (x8 : List (ByteArray)) (x9 : List (Bool)) (x10 : Int) (x11 : Int) : Option R :=
  br (decide (x6 < (17 : Int)))
  (br (inB x6 (17 : Nat))
   (c2 x10 x11 x6
    (fun i213 b214 => br (!(!(List.getD x5 (Int.toNat x6) false)))
     (br (!b214)
      (nx x0 x1 x2 x3 x4 x5 (IntKind.wrap .i64 (x6 + (1 : Int))) x7 x8 x9 x10 x11)
      (c1 x7 x8 x1
       (fun l221 => w3
        (fun b222 i223 l224 i225 i226 l227 i228 l229 l230 l231 i232 i233 => nx b222 i223 l224 i225 i226 l227 (IntKind.wrap .i64 (i228 + (1 : Int))) l229 l230 l231 i232 i233)
        N x0 x1 i213 x2 x3 x4 x5 x6 (Nat.cast (List.length l221) : Int) (0 : Int) x7 x8 x9 x10 x11 l221)))
     (nx x0 x1 x2 x3 x4 x5 (IntKind.wrap .i64 (x6 + (1 : Int))) x7 x8 x9 x10 x11)))
   (none))
  (k0 x0 x2 x3 x4 x7 x8 x9)
noncomputable def check_reach_l3_T0 (N : Nat) (c0 : check_next_ebbf_Ty) (c1 : check_next_Ty) (c2 : check_behind_Ty) {R : Type} (nx : (Bool) → (Int) → (Int) → (List ((Int) × (Int))) → (Int) → (Int) → (List (Bool)) → (Int) → (Int) → (Int) → (List ((Int) × (Int))) → (List (ByteArray)) → (List (Bool)) → (Int) → (Int) → (List (Int)) → Option R) (k0 : (Bool) → (Int) → (List ((Int) × (Int))) → (Int) → (Int) → (List (Bool)) → (Int) → (List ((Int) × (Int))) → (List (ByteArray)) → (List (Bool)) → (Int) → (Int) → Option R) (x0 : Bool) (x1 : Int) (x2 : Int) (x3 : List ((Int) × (Int))) (x4 : Int) (x5 : Int) (x6 : List (Bool)) (x7 : Int) (x8 : Int) (x9 : Int) (x10 : List ((Int) × (Int))) (x11 : List (ByteArray)) (x12 : List (Bool)) (x13 : Int) (x14 : Int) (x15 : List (Int)) : Option R :=
  br (decide (x9 < x8))
  (br (inB x9 (List.length x15))
   (br (decide ((Int.toNat x9) < (List.length x15)))
    (br (!x0)
     (br (inB (List.getD x15 (Int.toNat x9) (0 : Int)) (96 : Nat))
      (br ((inB x2 (17 : Nat)) && (decide ((0 : Int) ≤ (List.getD x15 (Int.toNat x9) (0 : Int)))))
       (br (decide ((Int.toNat (((List.getD x15 (Int.toNat x9) (0 : Int)) * (17 : Int)) + x2)) < (1632 : Nat)))
        (br (inB (List.getD x15 (Int.toNat x9) (0 : Int)) (96 : Nat))
         (br ((inB x2 (17 : Nat)) && (decide ((0 : Int) ≤ (List.getD x15 (Int.toNat x9) (0 : Int)))))
          (br (decide ((Int.toNat (((List.getD x15 (Int.toNat x9) (0 : Int)) * (17 : Int)) + x2)) < (1632 : Nat)))
           (nx (!(List.getD x12 (Int.toNat (((List.getD x15 (Int.toNat x9) (0 : Int)) * (17 : Int)) + x2)) false)) x1 x2 x3 x4 x5 x6 x7 x8 (IntKind.wrap .i64 (x9 + (1 : Int))) x10 x11 (List.set x12 (Int.toNat (((List.getD x15 (Int.toNat x9) (0 : Int)) * (17 : Int)) + x2)) true) x13 x14 x15)
           (none))
          (none))
         (none))
        (none))
       (none))
      (none))
     (br (inB (List.getD x15 (Int.toNat x9) (0 : Int)) (96 : Nat))
      (br ((inB x2 (17 : Nat)) && (decide ((0 : Int) ≤ (List.getD x15 (Int.toNat x9) (0 : Int)))))
       (br (decide ((Int.toNat (((List.getD x15 (Int.toNat x9) (0 : Int)) * (17 : Int)) + x2)) < (1632 : Nat)))
        (nx true x1 x2 x3 x4 x5 x6 x7 x8 (IntKind.wrap .i64 (x9 + (1 : Int))) x10 x11 (List.set x12 (Int.toNat (((List.getD x15 (Int.toNat x9) (0 : Int)) * (17 : Int)) + x2)) true) x13 x14 x15)
        (none))
       (none))
      (none)))
    (none))
   (none))
  (k0 x0 x1 x3 x4 x5 x6 x7 x10 x11 x12 x13 x14)
noncomputable def check_reach_l3 (N : Nat) {R : Type} (k0 : (Bool) → (Int) → (List ((Int) × (Int))) → (Int) → (Int) → (List (Bool)) → (Int) → (List ((Int) × (Int))) → (List (ByteArray)) → (List (Bool)) → (Int) → (Int) → Option R) : Nat → (Bool) → (Int) → (Int) → (List ((Int) × (Int))) → (Int) → (Int) → (List (Bool)) → (Int) → (Int) → (Int) → (List ((Int) × (Int))) → (List (ByteArray)) → (List (Bool)) → (Int) → (Int) → (List (Int)) → Option R
  | 0, _, _, _, _, _, _, _, _, _, _, _, _, _, _, _, _ => none
  | n + 1, x0, x1, x2, x3, x4, x5, x6, x7, x8, x9, x10, x11, x12, x13, x14, x15 => check_reach_l3_T0 N (@check_next_ebbf N) (@check_next N) (@check_behind N) (fun x0 x1 x2 x3 x4 x5 x6 x7 x8 x9 x10 x11 x12 x13 x14 x15 => check_reach_l3 N k0 n x0 x1 x2 x3 x4 x5 x6 x7 x8 x9 x10 x11 x12 x13 x14 x15) k0 x0 x1 x2 x3 x4 x5 x6 x7 x8 x9 x10 x11 x12 x13 x14 x15
noncomputable def check_reach_l2 (N : Nat) {R : Type} (k0 : (Bool) → (List ((Int) × (Int))) → (Int) → (Int) → (List ((Int) × (Int))) → (List (ByteArray)) → (List (Bool)) → Option R) : Nat → (Bool) → (Int) → (List ((Int) × (Int))) → (Int) → (Int) → (List (Bool)) → (Int) → (List ((Int) × (Int))) → (List (ByteArray)) → (List (Bool)) → (Int) → (Int) → Option R
  | 0, _, _, _, _, _, _, _, _, _, _, _, _ => none
  | n + 1, x0, x1, x2, x3, x4, x5, x6, x7, x8, x9, x10, x11 => check_reach_l2_T0 N (@check_next_ebbf N) (@check_next N) (@check_behind N) (@check_reach_l3 N) (fun x0 x1 x2 x3 x4 x5 x6 x7 x8 x9 x10 x11 => check_reach_l2 N k0 n x0 x1 x2 x3 x4 x5 x6 x7 x8 x9 x10 x11) k0 x0 x1 x2 x3 x4 x5 x6 x7 x8 x9 x10 x11
noncomputable def check_reach_l1 (N : Nat) {R : Type} (k0 : (Bool) → (List ((Int) × (Int))) → (List (ByteArray)) → (List (Bool)) → Option R) : Nat → (Bool) → (List ((Int) × (Int))) → (Int) → (Int) → (List ((Int) × (Int))) → (List (ByteArray)) → (List (Bool)) → Option R
  | 0, _, _, _, _, _, _, _ => none
  | n + 1, x0, x1, x2, x3, x4, x5, x6 => check_reach_l1_T0 N (@check_next_ebbf N) (@check_next N) (@check_behind N) (@check_reach_l2 N) (@check_reach_l3 N) (fun x0 x1 x2 x3 x4 x5 x6 => check_reach_l1 N k0 n x0 x1 x2 x3 x4 x5 x6) k0 x0 x1 x2 x3 x4 x5 x6
noncomputable def check_reach_l0 (N : Nat) {R : Type} (k0 : (List (Bool)) → Option R) : Nat → (Bool) → (List ((Int) × (Int))) → (List (ByteArray)) → (List (Bool)) → Option R
  | 0, _, _, _, _ => none
  | n + 1, x0, x1, x2, x3 => check_reach_l0_T0 N (@check_next_ebbf N) (@check_next N) (@check_behind N) (@check_reach_l1 N) (@check_reach_l2 N) (@check_reach_l3 N) (fun x0 x1 x2 x3 => check_reach_l0 N k0 n x0 x1 x2 x3) k0 x0 x1 x2 x3
noncomputable def check_reach_T (N : Nat) (c0 : check_next_ebbf_Ty) (c1 : check_next_Ty) (c2 : check_behind_Ty) (w0 : check_reach_l0_Ty) (w1 : check_reach_l1_Ty) (w2 : check_reach_l2_Ty) (w3 : check_reach_l3_Ty) {R : Type} (x0 : List ((Int) × (Int))) (x1 : List (ByteArray)) (k0 : (List (Bool)) → Option R) : Option R :=
  w0
  (fun l245 => k0 l245)
  N true x0 x1 (List.set (List.replicate (1632 : Nat) false) (Int.toNat (((0 : Int) * (17 : Int)) + (0 : Int))) true)
noncomputable def check_reach (N : Nat) {R : Type} (x0 : List ((Int) × (Int))) (x1 : List (ByteArray)) (k0 : (List (Bool)) → Option R) : Option R := check_reach_T N (@check_next_ebbf N) (@check_next N) (@check_behind N) (@check_reach_l0 N) (@check_reach_l1 N) (@check_reach_l2 N) (@check_reach_l3 N) x0 x1 k0
abbrev check_height_866d_l0_Ty : Type 1 := {R : Type} → ((Int) → (Bool) → (List ((Int) × (Int))) → (List (ByteArray)) → (List (Bool)) → Option R) → Nat → (Int) → (Int) → (Bool) → (List (Bool)) → (Int) → (List ((Int) × (Int))) → (List (ByteArray)) → (List (Bool)) → Option R
abbrev check_height_866d_Ty : Type 1 := {R : Type} → (Int) → (List ((Int) × (Int))) → (List (ByteArray)) → (List (Bool)) → ((Int) → (Bool) → (List ((Int) × (Int))) → (List (ByteArray)) → (List (Bool)) → Option R) → Option R
noncomputable def check_height_866d_l0_T0 (N : Nat) (c0 : check_behind_Ty) {R : Type} (nx : (Int) → (Int) → (Bool) → (List (Bool)) → (Int) → (List ((Int) × (Int))) → (List (ByteArray)) → (List (Bool)) → Option R) (k0 : (Int) → (Bool) → (List ((Int) × (Int))) → (List (ByteArray)) → (List (Bool)) → Option R) (x0 : Int) (x1 : Int) (x2 : Bool) (x3 : List (Bool)) (x4 : Int) (x5 : List ((Int) × (Int))) (x6 : List (ByteArray)) (x7 : List (Bool)) : Option R :=
  br (decide (x4 < (17 : Int)))
  (br (inB x4 (17 : Nat))
   (br (!(List.getD x3 (Int.toNat x4) false))
    (nx x0 x1 x2 x3 (IntKind.wrap .i64 (x4 + (1 : Int))) x5 x6 x7)
    (br (inB x0 (List.length x5))
     (br (decide ((Int.toNat x0) < (List.length x5)))
      (c0 (List.getD x5 (Int.toNat x0) ((0 : Int) , (0 : Int))).1 (List.getD x5 (Int.toNat x0) ((0 : Int) , (0 : Int))).2 x4
       (fun i87 b88 => br x2
        (br b88
         (nx x0 x4 (decide (x1 = (-1 : Int))) x3 (IntKind.wrap .i64 (x4 + (1 : Int))) x5 x6 x7)
         (nx x0 x4 false x3 (IntKind.wrap .i64 (x4 + (1 : Int))) x5 x6 x7))
        (nx x0 x4 false x3 (IntKind.wrap .i64 (x4 + (1 : Int))) x5 x6 x7)))
      (none))
     (none)))
   (none))
  (k0 x1 x2 x5 x6 x7)
noncomputable def check_height_866d_l0 (N : Nat) {R : Type} (k0 : (Int) → (Bool) → (List ((Int) × (Int))) → (List (ByteArray)) → (List (Bool)) → Option R) : Nat → (Int) → (Int) → (Bool) → (List (Bool)) → (Int) → (List ((Int) × (Int))) → (List (ByteArray)) → (List (Bool)) → Option R
  | 0, _, _, _, _, _, _, _, _ => none
  | n + 1, x0, x1, x2, x3, x4, x5, x6, x7 => check_height_866d_l0_T0 N (@check_behind N) (fun x0 x1 x2 x3 x4 x5 x6 x7 => check_height_866d_l0 N k0 n x0 x1 x2 x3 x4 x5 x6 x7) k0 x0 x1 x2 x3 x4 x5 x6 x7
noncomputable def check_height_866d_T (N : Nat) (c0 : check_behind_Ty) (w0 : check_height_866d_l0_Ty) {R : Type} (x0 : Int) (x1 : List ((Int) × (Int))) (x2 : List (ByteArray)) (x3 : List (Bool)) (k0 : (Int) → (Bool) → (List ((Int) × (Int))) → (List (ByteArray)) → (List (Bool)) → Option R) : Option R :=
  br (inB x0 (96 : Nat))
  (br (decide ((((Int.toNat x0) + (1 : Nat)) * (17 : Nat)) ≤ (1632 : Nat)))
   (w0
    (fun i89 b90 l91 l92 l93 => k0 i89 b90 l91 l92 l93)
    N x0 (-1 : Int) true (sub x3 ((Int.toNat x0) * (17 : Nat)) (17 : Nat)) (0 : Int) x1 x2 x3)
   (none))
  (none)
noncomputable def check_height_866d (N : Nat) {R : Type} (x0 : Int) (x1 : List ((Int) × (Int))) (x2 : List (ByteArray)) (x3 : List (Bool)) (k0 : (Int) → (Bool) → (List ((Int) × (Int))) → (List (ByteArray)) → (List (Bool)) → Option R) : Option R := check_height_866d_T N (@check_behind N) (@check_height_866d_l0 N) x0 x1 x2 x3 k0
abbrev check_height_fe79_l0_Ty : Type 1 := {R : Type} → ((Int) → (Bool) → (List (Bool)) → Option R) → Nat → (Int) → (Int) → (Bool) → (List (Bool)) → (Int) → (List (Bool)) → (List ((Int) × (Int))) → (List (ByteArray)) → Option R
abbrev check_height_fe79_Ty : Type 1 := {R : Type} → (List ((Int) × (Int))) → (List (ByteArray)) → (Int) → (List (Bool)) → ((Int) → (Bool) → (List (Bool)) → Option R) → Option R
noncomputable def check_height_fe79_l0_T0 (N : Nat) (c0 : check_behind_Ty) {R : Type} (nx : (Int) → (Int) → (Bool) → (List (Bool)) → (Int) → (List (Bool)) → (List ((Int) × (Int))) → (List (ByteArray)) → Option R) (k0 : (Int) → (Bool) → (List (Bool)) → Option R) (x0 : Int) (x1 : Int) (x2 : Bool) (x3 : List (Bool)) (x4 : Int) (x5 : List (Bool)) (x6 : List ((Int) × (Int))) (x7 : List (ByteArray)) : Option R :=
  br (decide (x4 < (17 : Int)))
  (br (inB x4 (17 : Nat))
   (br (!(List.getD x3 (Int.toNat x4) false))
    (nx x0 x1 x2 x3 (IntKind.wrap .i64 (x4 + (1 : Int))) x5 x6 x7)
    (br (inB x0 (List.length x6))
     (c0 (List.getD x6 (Int.toNat x0) ((0 : Int) , (0 : Int))).1 (List.getD x6 (Int.toNat x0) ((0 : Int) , (0 : Int))).2 x4
      (fun i247 b248 => br x2
       (br b248
        (nx x0 x4 (decide (x1 = (-1 : Int))) x3 (IntKind.wrap .i64 (x4 + (1 : Int))) x5 x6 x7)
        (nx x0 x4 false x3 (IntKind.wrap .i64 (x4 + (1 : Int))) x5 x6 x7))
       (nx x0 x4 false x3 (IntKind.wrap .i64 (x4 + (1 : Int))) x5 x6 x7)))
     (none)))
   (none))
  (k0 x1 x2 x5)
noncomputable def check_height_fe79_l0 (N : Nat) {R : Type} (k0 : (Int) → (Bool) → (List (Bool)) → Option R) : Nat → (Int) → (Int) → (Bool) → (List (Bool)) → (Int) → (List (Bool)) → (List ((Int) × (Int))) → (List (ByteArray)) → Option R
  | 0, _, _, _, _, _, _, _, _ => none
  | n + 1, x0, x1, x2, x3, x4, x5, x6, x7 => check_height_fe79_l0_T0 N (@check_behind N) (fun x0 x1 x2 x3 x4 x5 x6 x7 => check_height_fe79_l0 N k0 n x0 x1 x2 x3 x4 x5 x6 x7) k0 x0 x1 x2 x3 x4 x5 x6 x7
noncomputable def check_height_fe79_T (N : Nat) (c0 : check_behind_Ty) (w0 : check_height_fe79_l0_Ty) {R : Type} (x0 : List ((Int) × (Int))) (x1 : List (ByteArray)) (x2 : Int) (x3 : List (Bool)) (k0 : (Int) → (Bool) → (List (Bool)) → Option R) : Option R :=
  br (inB x2 (96 : Nat))
  (br (decide ((((Int.toNat x2) + (1 : Nat)) * (17 : Nat)) ≤ (1632 : Nat)))
   (w0
    (fun i249 b250 l251 => k0 i249 b250 l251)
    N x2 (-1 : Int) true (sub x3 ((Int.toNat x2) * (17 : Nat)) (17 : Nat)) (0 : Int) x3 x0 x1)
   (none))
  (none)
noncomputable def check_height_fe79 (N : Nat) {R : Type} (x0 : List ((Int) × (Int))) (x1 : List (ByteArray)) (x2 : Int) (x3 : List (Bool)) (k0 : (Int) → (Bool) → (List (Bool)) → Option R) : Option R := check_height_fe79_T N (@check_behind N) (@check_height_fe79_l0 N) x0 x1 x2 x3 k0
abbrev check_Run_0ce7_l0_Ty : Type 1 := {R : Type} → ((Int) → (Int) → (List ((Int) × (Int))) → (List (ByteArray)) → Option R) → ((List ((Int) × (Int))) → (List (ByteArray)) → Option R) → Nat → (Int) → (Int) → (List ((Int) × (Int))) → (List (ByteArray)) → Option R
abbrev check_Run_0ce7_l1_Ty : Type 1 := {R : Type} → ((Int) → (Int) → (List ((Int) × (Int))) → (List (ByteArray)) → Option R) → ((List ((Int) × (Int))) → (List (ByteArray)) → Option R) → Nat → (Int) → (Int) → (List ((Int) × (Int))) → (List (ByteArray)) → Option R
abbrev check_Run_0ce7_l2_Ty : Type 1 := {R : Type} → ((Int) → (Int) → (List ((Int) × (Int))) → Option R) → ((List ((Int) × (Int))) → Option R) → Nat → (Int) → (Int) → (List ((Int) × (Int))) → (List (ByteArray)) → (List (Bool)) → Option R
abbrev check_Run_0ce7_Ty : Type 1 := {R : Type} → (List ((Int) × (Int))) → ((Int) → (Int) → (List ((Int) × (Int))) → Option R) → Option R
noncomputable def check_Run_0ce7_l0_T0 (N : Nat) (c0 : check_height_866d_Ty) (c1 : check_height_fe79_Ty) (c2 : check_reach_87f1_Ty) (c3 : check_reach_Ty) (c4 : check_one_ebbf_Ty) (c5 : check_one_Ty) (c6 : check_Name_Ty) (w1 : check_Run_0ce7_l1_Ty) (w2 : check_Run_0ce7_l2_Ty) {R : Type} (nx : (Int) → (Int) → (List ((Int) × (Int))) → (List (ByteArray)) → Option R) (k0 : (Int) → (Int) → (List ((Int) × (Int))) → (List (ByteArray)) → Option R) (k1 : (List ((Int) × (Int))) → (List (ByteArray)) → Option R) (x0 : Int) (x1 : Int) (x2 : List ((Int) × (Int))) (x3 : List (ByteArray)) : Option R :=
  br (decide (x1 < x0))
  (br (inB x1 (List.length x3))
   (br (decide ((Int.toNat x1) < (List.length x3)))
    (c6 (List.getD x3 (Int.toNat x1) (bs []))
     (fun b14 => br (!b14)
      (k0 (0 : Int) (10 : Int) x2 x3)
      (nx x0 (IntKind.wrap .i64 (x1 + (1 : Int))) x2 x3)))
    (none))
   (none))
  (k1 x2 x3)
noncomputable def check_Run_0ce7_l1_T0 (N : Nat) (c0 : check_height_866d_Ty) (c1 : check_height_fe79_Ty) (c2 : check_reach_87f1_Ty) (c3 : check_reach_Ty) (c4 : check_one_ebbf_Ty) (c5 : check_one_Ty) (c6 : check_Name_Ty) (w2 : check_Run_0ce7_l2_Ty) {R : Type} (nx : (Int) → (Int) → (List ((Int) × (Int))) → (List (ByteArray)) → Option R) (k0 : (Int) → (Int) → (List ((Int) × (Int))) → (List (ByteArray)) → Option R) (k1 : (List ((Int) × (Int))) → (List (ByteArray)) → Option R) (x0 : Int) (x1 : Int) (x2 : List ((Int) × (Int))) (x3 : List (ByteArray)) : Option R :=
  br (decide (x1 < x0))
  (c4 x1 x2 x3
   (fun i30 l31 l32 => br (!(decide (i30 = (0 : Int))))
    (k0 x1 i30 l31 l32)
    (nx x0 (IntKind.wrap .i64 (x1 + (1 : Int))) l31 l32)))
  (k1 x2 x3)
noncomputable def check_Run_0ce7_l2_T0 (N : Nat) (c0 : check_height_866d_Ty) (c1 : check_height_fe79_Ty) (c2 : check_reach_87f1_Ty) (c3 : check_reach_Ty) (c4 : check_one_ebbf_Ty) (c5 : check_one_Ty) (c6 : check_Name_Ty) {R : Type} (nx : (Int) → (Int) → (List ((Int) × (Int))) → (List (ByteArray)) → (List (Bool)) → Option R) (k0 : (Int) → (Int) → (List ((Int) × (Int))) → Option R) (k1 : (List ((Int) × (Int))) → Option R) (x0 : Int) (x1 : Int) (x2 : List ((Int) × (Int))) (x3 : List (ByteArray)) (x4 : List (Bool)) : Option R :=
  br (decide (x1 < x0))
  (c0 x1 x2 x3 x4
   (fun i94 b95 l96 l97 l98 => br (!b95)
    (k0 x1 (7 : Int) l96)
    (nx x0 (IntKind.wrap .i64 (x1 + (1 : Int))) l96 l97 l98)))
  (k1 x2)
noncomputable def check_Run_0ce7_l2 (N : Nat) {R : Type} (k0 : (Int) → (Int) → (List ((Int) × (Int))) → Option R) (k1 : (List ((Int) × (Int))) → Option R) : Nat → (Int) → (Int) → (List ((Int) × (Int))) → (List (ByteArray)) → (List (Bool)) → Option R
  | 0, _, _, _, _, _ => none
  | n + 1, x0, x1, x2, x3, x4 => check_Run_0ce7_l2_T0 N (@check_height_866d N) (@check_height_fe79 N) (@check_reach_87f1 N) (@check_reach N) (@check_one_ebbf N) (@check_one N) (@check_Name N) (fun x0 x1 x2 x3 x4 => check_Run_0ce7_l2 N k0 k1 n x0 x1 x2 x3 x4) k0 k1 x0 x1 x2 x3 x4
noncomputable def check_Run_0ce7_l1 (N : Nat) {R : Type} (k0 : (Int) → (Int) → (List ((Int) × (Int))) → (List (ByteArray)) → Option R) (k1 : (List ((Int) × (Int))) → (List (ByteArray)) → Option R) : Nat → (Int) → (Int) → (List ((Int) × (Int))) → (List (ByteArray)) → Option R
  | 0, _, _, _, _ => none
  | n + 1, x0, x1, x2, x3 => check_Run_0ce7_l1_T0 N (@check_height_866d N) (@check_height_fe79 N) (@check_reach_87f1 N) (@check_reach N) (@check_one_ebbf N) (@check_one N) (@check_Name N) (@check_Run_0ce7_l2 N) (fun x0 x1 x2 x3 => check_Run_0ce7_l1 N k0 k1 n x0 x1 x2 x3) k0 k1 x0 x1 x2 x3
noncomputable def check_Run_0ce7_l0 (N : Nat) {R : Type} (k0 : (Int) → (Int) → (List ((Int) × (Int))) → (List (ByteArray)) → Option R) (k1 : (List ((Int) × (Int))) → (List (ByteArray)) → Option R) : Nat → (Int) → (Int) → (List ((Int) × (Int))) → (List (ByteArray)) → Option R
  | 0, _, _, _, _ => none
  | n + 1, x0, x1, x2, x3 => check_Run_0ce7_l0_T0 N (@check_height_866d N) (@check_height_fe79 N) (@check_reach_87f1 N) (@check_reach N) (@check_one_ebbf N) (@check_one N) (@check_Name N) (@check_Run_0ce7_l1 N) (@check_Run_0ce7_l2 N) (fun x0 x1 x2 x3 => check_Run_0ce7_l0 N k0 k1 n x0 x1 x2 x3) k0 k1 x0 x1 x2 x3
noncomputable def check_Run_0ce7_T (N : Nat) (c0 : check_height_866d_Ty) (c1 : check_height_fe79_Ty) (c2 : check_reach_87f1_Ty) (c3 : check_reach_Ty) (c4 : check_one_ebbf_Ty) (c5 : check_one_Ty) (c6 : check_Name_Ty) (w0 : check_Run_0ce7_l0_Ty) (w1 : check_Run_0ce7_l1_Ty) (w2 : check_Run_0ce7_l2_Ty) {R : Type} (x0 : List ((Int) × (Int))) (k0 : (Int) → (Int) → (List ((Int) × (Int))) → Option R) : Option R :=
  br (!(decide ((Nat.cast (List.length x0) : Int) = (0 : Int))))
  (br (!(decide ((96 : Int) < (Nat.cast (List.length x0) : Int))))
   (w0
    (fun i15 i16 l17 l18 => k0 i15 i16 l17)
    (fun l19 l20 => w1
     (fun i33 i34 l35 l36 => k0 i33 i34 l35)
     (fun l37 l38 => c2 l37 l38
      (fun l84 l85 l86 => w2
       (fun i99 i100 l101 => k0 i99 i100 l101)
       (fun l102 => k0 (0 : Int) (0 : Int) l102)
       N (Nat.cast (List.length l84) : Int) (0 : Int) l84 l85 l86))
     N (Nat.cast (List.length l19) : Int) (0 : Int) l19 l20)
    N (0 : Int) (0 : Int) x0 ([] : List (ByteArray)))
   (k0 (0 : Int) (3 : Int) x0))
  (k0 (0 : Int) (3 : Int) x0)
noncomputable def check_Run_0ce7 (N : Nat) {R : Type} (x0 : List ((Int) × (Int))) (k0 : (Int) → (Int) → (List ((Int) × (Int))) → Option R) : Option R := check_Run_0ce7_T N (@check_height_866d N) (@check_height_fe79 N) (@check_reach_87f1 N) (@check_reach N) (@check_one_ebbf N) (@check_one N) (@check_Name N) (@check_Run_0ce7_l0 N) (@check_Run_0ce7_l1 N) (@check_Run_0ce7_l2 N) x0 k0
abbrev check_Run_87f1_l0_Ty : Type 1 := {R : Type} → ((Int) → (Int) → (List ((Int) × (Int))) → (List (ByteArray)) → Option R) → ((List ((Int) × (Int))) → (List (ByteArray)) → Option R) → Nat → (Int) → (Int) → (List ((Int) × (Int))) → (List (ByteArray)) → Option R
abbrev check_Run_87f1_l1_Ty : Type 1 := {R : Type} → ((Int) → (Int) → (List ((Int) × (Int))) → (List (ByteArray)) → Option R) → ((List ((Int) × (Int))) → (List (ByteArray)) → Option R) → Nat → (Int) → (Int) → (List ((Int) × (Int))) → (List (ByteArray)) → Option R
abbrev check_Run_87f1_l2_Ty : Type 1 := {R : Type} → ((Int) → (Int) → (List ((Int) × (Int))) → (List (ByteArray)) → Option R) → ((List ((Int) × (Int))) → (List (ByteArray)) → Option R) → Nat → (Int) → (Int) → (List ((Int) × (Int))) → (List (ByteArray)) → (List (Bool)) → Option R
abbrev check_Run_87f1_Ty : Type 1 := {R : Type} → (List ((Int) × (Int))) → (List (ByteArray)) → ((Int) → (Int) → (List ((Int) × (Int))) → (List (ByteArray)) → Option R) → Option R
noncomputable def check_Run_87f1_l0_T0 (N : Nat) (c0 : check_height_866d_Ty) (c1 : check_height_fe79_Ty) (c2 : check_reach_87f1_Ty) (c3 : check_reach_Ty) (c4 : check_one_ebbf_Ty) (c5 : check_one_Ty) (c6 : check_Name_Ty) (w1 : check_Run_87f1_l1_Ty) (w2 : check_Run_87f1_l2_Ty) {R : Type} (nx : (Int) → (Int) → (List ((Int) × (Int))) → (List (ByteArray)) → Option R) (k0 : (Int) → (Int) → (List ((Int) × (Int))) → (List (ByteArray)) → Option R) (k1 : (List ((Int) × (Int))) → (List (ByteArray)) → Option R) (x0 : Int) (x1 : Int) (x2 : List ((Int) × (Int))) (x3 : List (ByteArray)) : Option R :=
  br (decide (x1 < x0))
  (br (inB x1 (List.length x3))
   (br (decide ((Int.toNat x1) < (List.length x3)))
    (c6 (List.getD x3 (Int.toNat x1) (bs []))
     (fun b109 => br (!b109)
      (k0 (0 : Int) (10 : Int) x2 x3)
      (nx x0 (IntKind.wrap .i64 (x1 + (1 : Int))) x2 x3)))
    (none))
   (none))
  (k1 x2 x3)
noncomputable def check_Run_87f1_l1_T0 (N : Nat) (c0 : check_height_866d_Ty) (c1 : check_height_fe79_Ty) (c2 : check_reach_87f1_Ty) (c3 : check_reach_Ty) (c4 : check_one_ebbf_Ty) (c5 : check_one_Ty) (c6 : check_Name_Ty) (w2 : check_Run_87f1_l2_Ty) {R : Type} (nx : (Int) → (Int) → (List ((Int) × (Int))) → (List (ByteArray)) → Option R) (k0 : (Int) → (Int) → (List ((Int) × (Int))) → (List (ByteArray)) → Option R) (k1 : (List ((Int) × (Int))) → (List (ByteArray)) → Option R) (x0 : Int) (x1 : Int) (x2 : List ((Int) × (Int))) (x3 : List (ByteArray)) : Option R :=
  br (decide (x1 < x0))
  (c4 x1 x2 x3
   (fun i116 l117 l118 => br (!(decide (i116 = (0 : Int))))
    (k0 x1 i116 l117 l118)
    (nx x0 (IntKind.wrap .i64 (x1 + (1 : Int))) l117 l118)))
  (k1 x2 x3)
noncomputable def check_Run_87f1_l2_T0 (N : Nat) (c0 : check_height_866d_Ty) (c1 : check_height_fe79_Ty) (c2 : check_reach_87f1_Ty) (c3 : check_reach_Ty) (c4 : check_one_ebbf_Ty) (c5 : check_one_Ty) (c6 : check_Name_Ty) {R : Type} (nx : (Int) → (Int) → (List ((Int) × (Int))) → (List (ByteArray)) → (List (Bool)) → Option R) (k0 : (Int) → (Int) → (List ((Int) × (Int))) → (List (ByteArray)) → Option R) (k1 : (List ((Int) × (Int))) → (List (ByteArray)) → Option R) (x0 : Int) (x1 : Int) (x2 : List ((Int) × (Int))) (x3 : List (ByteArray)) (x4 : List (Bool)) : Option R :=
  br (decide (x1 < x0))
  (c0 x1 x2 x3 x4
   (fun i128 b129 l130 l131 l132 => br (!b129)
    (k0 x1 (7 : Int) l130 l131)
    (nx x0 (IntKind.wrap .i64 (x1 + (1 : Int))) l130 l131 l132)))
  (k1 x2 x3)
noncomputable def check_Run_87f1_l2 (N : Nat) {R : Type} (k0 : (Int) → (Int) → (List ((Int) × (Int))) → (List (ByteArray)) → Option R) (k1 : (List ((Int) × (Int))) → (List (ByteArray)) → Option R) : Nat → (Int) → (Int) → (List ((Int) × (Int))) → (List (ByteArray)) → (List (Bool)) → Option R
  | 0, _, _, _, _, _ => none
  | n + 1, x0, x1, x2, x3, x4 => check_Run_87f1_l2_T0 N (@check_height_866d N) (@check_height_fe79 N) (@check_reach_87f1 N) (@check_reach N) (@check_one_ebbf N) (@check_one N) (@check_Name N) (fun x0 x1 x2 x3 x4 => check_Run_87f1_l2 N k0 k1 n x0 x1 x2 x3 x4) k0 k1 x0 x1 x2 x3 x4
noncomputable def check_Run_87f1_l1 (N : Nat) {R : Type} (k0 : (Int) → (Int) → (List ((Int) × (Int))) → (List (ByteArray)) → Option R) (k1 : (List ((Int) × (Int))) → (List (ByteArray)) → Option R) : Nat → (Int) → (Int) → (List ((Int) × (Int))) → (List (ByteArray)) → Option R
  | 0, _, _, _, _ => none
  | n + 1, x0, x1, x2, x3 => check_Run_87f1_l1_T0 N (@check_height_866d N) (@check_height_fe79 N) (@check_reach_87f1 N) (@check_reach N) (@check_one_ebbf N) (@check_one N) (@check_Name N) (@check_Run_87f1_l2 N) (fun x0 x1 x2 x3 => check_Run_87f1_l1 N k0 k1 n x0 x1 x2 x3) k0 k1 x0 x1 x2 x3
noncomputable def check_Run_87f1_l0 (N : Nat) {R : Type} (k0 : (Int) → (Int) → (List ((Int) × (Int))) → (List (ByteArray)) → Option R) (k1 : (List ((Int) × (Int))) → (List (ByteArray)) → Option R) : Nat → (Int) → (Int) → (List ((Int) × (Int))) → (List (ByteArray)) → Option R
  | 0, _, _, _, _ => none
  | n + 1, x0, x1, x2, x3 => check_Run_87f1_l0_T0 N (@check_height_866d N) (@check_height_fe79 N) (@check_reach_87f1 N) (@check_reach N) (@check_one_ebbf N) (@check_one N) (@check_Name N) (@check_Run_87f1_l1 N) (@check_Run_87f1_l2 N) (fun x0 x1 x2 x3 => check_Run_87f1_l0 N k0 k1 n x0 x1 x2 x3) k0 k1 x0 x1 x2 x3
noncomputable def check_Run_87f1_T (N : Nat) (c0 : check_height_866d_Ty) (c1 : check_height_fe79_Ty) (c2 : check_reach_87f1_Ty) (c3 : check_reach_Ty) (c4 : check_one_ebbf_Ty) (c5 : check_one_Ty) (c6 : check_Name_Ty) (w0 : check_Run_87f1_l0_Ty) (w1 : check_Run_87f1_l1_Ty) (w2 : check_Run_87f1_l2_Ty) {R : Type} (x0 : List ((Int) × (Int))) (x1 : List (ByteArray)) (k0 : (Int) → (Int) → (List ((Int) × (Int))) → (List (ByteArray)) → Option R) : Option R :=
  br (!(decide ((Nat.cast (List.length x0) : Int) = (0 : Int))))
  (br (!(decide ((96 : Int) < (Nat.cast (List.length x0) : Int))))
   (br (decide ((8 : Int) < (Nat.cast (List.length x1) : Int)))
    (k0 (0 : Int) (3 : Int) x0 x1)
    (w0
     (fun i110 i111 l112 l113 => k0 i110 i111 l112 l113)
     (fun l114 l115 => w1
      (fun i119 i120 l121 l122 => k0 i119 i120 l121 l122)
      (fun l123 l124 => c2 l123 l124
       (fun l125 l126 l127 => w2
        (fun i133 i134 l135 l136 => k0 i133 i134 l135 l136)
        (fun l137 l138 => k0 (0 : Int) (0 : Int) l137 l138)
        N (Nat.cast (List.length l125) : Int) (0 : Int) l125 l126 l127))
      N (Nat.cast (List.length l114) : Int) (0 : Int) l114 l115)
     N (Nat.cast (List.length x1) : Int) (0 : Int) x0 x1))
   (k0 (0 : Int) (3 : Int) x0 x1))
  (k0 (0 : Int) (3 : Int) x0 x1)
noncomputable def check_Run_87f1 (N : Nat) {R : Type} (x0 : List ((Int) × (Int))) (x1 : List (ByteArray)) (k0 : (Int) → (Int) → (List ((Int) × (Int))) → (List (ByteArray)) → Option R) : Option R := check_Run_87f1_T N (@check_height_866d N) (@check_height_fe79 N) (@check_reach_87f1 N) (@check_reach N) (@check_one_ebbf N) (@check_one N) (@check_Name N) (@check_Run_87f1_l0 N) (@check_Run_87f1_l1 N) (@check_Run_87f1_l2 N) x0 x1 k0
abbrev check_Run_l0_Ty : Type 1 := {R : Type} → ((Int) → (Int) → (List ((Int) × (Int))) → (List (ByteArray)) → Option R) → ((List ((Int) × (Int))) → (List (ByteArray)) → Option R) → Nat → (List (ByteArray)) → (Int) → (Int) → (List ((Int) × (Int))) → (List (ByteArray)) → Option R
abbrev check_Run_l1_Ty : Type 1 := {R : Type} → ((Int) → (Int) → (List ((Int) × (Int))) → (List (ByteArray)) → Option R) → ((List ((Int) × (Int))) → (List (ByteArray)) → Option R) → Nat → (Int) → (Int) → (List ((Int) × (Int))) → (List (ByteArray)) → Option R
abbrev check_Run_l2_Ty : Type 1 := {R : Type} → ((Int) → (Int) → Option R) → (Option R) → Nat → (Int) → (Int) → (List ((Int) × (Int))) → (List (ByteArray)) → (List (Bool)) → Option R
abbrev check_Run_Ty : Type 1 := {R : Type} → (List ((Int) × (Int))) → (List (ByteArray)) → ((Int) → (Int) → Option R) → Option R
noncomputable def check_Run_l0_T0 (N : Nat) (c0 : check_height_866d_Ty) (c1 : check_height_fe79_Ty) (c2 : check_reach_87f1_Ty) (c3 : check_reach_Ty) (c4 : check_one_ebbf_Ty) (c5 : check_one_Ty) (c6 : check_Name_Ty) (w1 : check_Run_l1_Ty) (w2 : check_Run_l2_Ty) {R : Type} (nx : (List (ByteArray)) → (Int) → (Int) → (List ((Int) × (Int))) → (List (ByteArray)) → Option R) (k0 : (Int) → (Int) → (List ((Int) × (Int))) → (List (ByteArray)) → Option R) (k1 : (List ((Int) × (Int))) → (List (ByteArray)) → Option R) (x0 : List (ByteArray)) (x1 : Int) (x2 : Int) (x3 : List ((Int) × (Int))) (x4 : List (ByteArray)) : Option R :=
  br (decide (x2 < x1))
  (br (inB x2 (List.length x0))
   (c6 (List.getD x0 (Int.toNat x2) (bs []))
    (fun b194 => br (!b194)
     (k0 (0 : Int) (10 : Int) x3 x4)
     (nx x0 x1 (IntKind.wrap .i64 (x2 + (1 : Int))) x3 x4)))
   (none))
  (k1 x3 x4)
noncomputable def check_Run_l1_T0 (N : Nat) (c0 : check_height_866d_Ty) (c1 : check_height_fe79_Ty) (c2 : check_reach_87f1_Ty) (c3 : check_reach_Ty) (c4 : check_one_ebbf_Ty) (c5 : check_one_Ty) (c6 : check_Name_Ty) (w2 : check_Run_l2_Ty) {R : Type} (nx : (Int) → (Int) → (List ((Int) × (Int))) → (List (ByteArray)) → Option R) (k0 : (Int) → (Int) → (List ((Int) × (Int))) → (List (ByteArray)) → Option R) (k1 : (List ((Int) × (Int))) → (List (ByteArray)) → Option R) (x0 : Int) (x1 : Int) (x2 : List ((Int) × (Int))) (x3 : List (ByteArray)) : Option R :=
  br (decide (x1 < x0))
  (c5 x2 x3 x1
   (fun i206 => br (!(decide (i206 = (0 : Int))))
    (k0 x1 i206 x2 x3)
    (nx x0 (IntKind.wrap .i64 (x1 + (1 : Int))) x2 x3)))
  (k1 x2 x3)
noncomputable def check_Run_l2_T0 (N : Nat) (c0 : check_height_866d_Ty) (c1 : check_height_fe79_Ty) (c2 : check_reach_87f1_Ty) (c3 : check_reach_Ty) (c4 : check_one_ebbf_Ty) (c5 : check_one_Ty) (c6 : check_Name_Ty) {R : Type} (nx : (Int) → (Int) → (List ((Int) × (Int))) → (List (ByteArray)) → (List (Bool)) → Option R) (k0 : (Int) → (Int) → Option R) (k1 : Option R) (x0 : Int) (x1 : Int) (x2 : List ((Int) × (Int))) (x3 : List (ByteArray)) (x4 : List (Bool)) : Option R :=
  br (decide (x1 < x0))
  (c1 x2 x3 x1 x4
   (fun i252 b253 l254 => br (!b253)
    (k0 x1 (7 : Int))
    (nx x0 (IntKind.wrap .i64 (x1 + (1 : Int))) x2 x3 l254)))
  (k1)
noncomputable def check_Run_l2 (N : Nat) {R : Type} (k0 : (Int) → (Int) → Option R) (k1 : Option R) : Nat → (Int) → (Int) → (List ((Int) × (Int))) → (List (ByteArray)) → (List (Bool)) → Option R
  | 0, _, _, _, _, _ => none
  | n + 1, x0, x1, x2, x3, x4 => check_Run_l2_T0 N (@check_height_866d N) (@check_height_fe79 N) (@check_reach_87f1 N) (@check_reach N) (@check_one_ebbf N) (@check_one N) (@check_Name N) (fun x0 x1 x2 x3 x4 => check_Run_l2 N k0 k1 n x0 x1 x2 x3 x4) k0 k1 x0 x1 x2 x3 x4
noncomputable def check_Run_l1 (N : Nat) {R : Type} (k0 : (Int) → (Int) → (List ((Int) × (Int))) → (List (ByteArray)) → Option R) (k1 : (List ((Int) × (Int))) → (List (ByteArray)) → Option R) : Nat → (Int) → (Int) → (List ((Int) × (Int))) → (List (ByteArray)) → Option R
  | 0, _, _, _, _ => none
  | n + 1, x0, x1, x2, x3 => check_Run_l1_T0 N (@check_height_866d N) (@check_height_fe79 N) (@check_reach_87f1 N) (@check_reach N) (@check_one_ebbf N) (@check_one N) (@check_Name N) (@check_Run_l2 N) (fun x0 x1 x2 x3 => check_Run_l1 N k0 k1 n x0 x1 x2 x3) k0 k1 x0 x1 x2 x3
noncomputable def check_Run_l0 (N : Nat) {R : Type} (k0 : (Int) → (Int) → (List ((Int) × (Int))) → (List (ByteArray)) → Option R) (k1 : (List ((Int) × (Int))) → (List (ByteArray)) → Option R) : Nat → (List (ByteArray)) → (Int) → (Int) → (List ((Int) × (Int))) → (List (ByteArray)) → Option R
  | 0, _, _, _, _, _ => none
  | n + 1, x0, x1, x2, x3, x4 => check_Run_l0_T0 N (@check_height_866d N) (@check_height_fe79 N) (@check_reach_87f1 N) (@check_reach N) (@check_one_ebbf N) (@check_one N) (@check_Name N) (@check_Run_l1 N) (@check_Run_l2 N) (fun x0 x1 x2 x3 x4 => check_Run_l0 N k0 k1 n x0 x1 x2 x3 x4) k0 k1 x0 x1 x2 x3 x4
noncomputable def check_Run_T (N : Nat) (c0 : check_height_866d_Ty) (c1 : check_height_fe79_Ty) (c2 : check_reach_87f1_Ty) (c3 : check_reach_Ty) (c4 : check_one_ebbf_Ty) (c5 : check_one_Ty) (c6 : check_Name_Ty) (w0 : check_Run_l0_Ty) (w1 : check_Run_l1_Ty) (w2 : check_Run_l2_Ty) {R : Type} (x0 : List ((Int) × (Int))) (x1 : List (ByteArray)) (k0 : (Int) → (Int) → Option R) : Option R :=
  br (!(decide ((Nat.cast (List.length x0) : Int) = (0 : Int))))
  (br (!(decide ((96 : Int) < (Nat.cast (List.length x0) : Int))))
   (br (decide ((8 : Int) < (Nat.cast (List.length x1) : Int)))
    (k0 (0 : Int) (3 : Int))
    (w0
     (fun i195 i196 l197 l198 => k0 i195 i196)
     (fun l199 l200 => w1
      (fun i207 i208 l209 l210 => k0 i207 i208)
      (fun l211 l212 => c3 l211 l212
       (fun l246 => w2
        (fun i255 i256 => k0 i255 i256)
        (k0 (0 : Int) (0 : Int))
        N (Nat.cast (List.length l211) : Int) (0 : Int) l211 l212 l246))
      N (Nat.cast (List.length l199) : Int) (0 : Int) l199 l200)
     N x1 (Nat.cast (List.length x1) : Int) (0 : Int) x0 x1))
   (k0 (0 : Int) (3 : Int)))
  (k0 (0 : Int) (3 : Int))
noncomputable def check_Run (N : Nat) {R : Type} (x0 : List ((Int) × (Int))) (x1 : List (ByteArray)) (k0 : (Int) → (Int) → Option R) : Option R := check_Run_T N (@check_height_866d N) (@check_height_fe79 N) (@check_reach_87f1 N) (@check_reach N) (@check_one_ebbf N) (@check_one N) (@check_Name N) (@check_Run_l0 N) (@check_Run_l1 N) (@check_Run_l2 N) x0 x1 k0
abbrev check_Heights_0ce7_l0_Ty : Type 1 := {R : Type} → ((List ((Int) × (Int))) → (List (Int)) → Option R) → Nat → (Int) → (Int) → (List ((Int) × (Int))) → (List (ByteArray)) → (List (Bool)) → (List (Int)) → Option R
abbrev check_Heights_0ce7_Ty : Type 1 := {R : Type} → (List ((Int) × (Int))) → ((List ((Int) × (Int))) → (List (Int)) → Option R) → Option R
noncomputable def check_Heights_0ce7_l0_T0 (N : Nat) (c0 : check_height_866d_Ty) (c1 : check_height_fe79_Ty) (c2 : check_reach_87f1_Ty) (c3 : check_reach_Ty) (c4 : check_Run_0ce7_Ty) (c5 : check_Run_87f1_Ty) (c6 : check_Run_Ty) {R : Type} (nx : (Int) → (Int) → (List ((Int) × (Int))) → (List (ByteArray)) → (List (Bool)) → (List (Int)) → Option R) (k0 : (List ((Int) × (Int))) → (List (Int)) → Option R) (x0 : Int) (x1 : Int) (x2 : List ((Int) × (Int))) (x3 : List (ByteArray)) (x4 : List (Bool)) (x5 : List (Int)) : Option R :=
  br (decide (x1 < x0))
  (c0 x1 x2 x3 x4
   (fun i172 b173 l174 l175 l176 => br (((fits (0 : Nat) (List.length x5) x5) && (decide ((((List.length x5) + (1 : Nat)) * (8 : Nat)) ≤ (70368744177664 : Nat)))) && true)
    (nx x0 (IntKind.wrap .i64 (x1 + (1 : Int))) l174 l175 l176 ((sub x5 (0 : Nat) (List.length x5)) ++ (i172 :: ([] : List (Int)))))
    (none)))
  (k0 x2 x5)
noncomputable def check_Heights_0ce7_l0 (N : Nat) {R : Type} (k0 : (List ((Int) × (Int))) → (List (Int)) → Option R) : Nat → (Int) → (Int) → (List ((Int) × (Int))) → (List (ByteArray)) → (List (Bool)) → (List (Int)) → Option R
  | 0, _, _, _, _, _, _ => none
  | n + 1, x0, x1, x2, x3, x4, x5 => check_Heights_0ce7_l0_T0 N (@check_height_866d N) (@check_height_fe79 N) (@check_reach_87f1 N) (@check_reach N) (@check_Run_0ce7 N) (@check_Run_87f1 N) (@check_Run N) (fun x0 x1 x2 x3 x4 x5 => check_Heights_0ce7_l0 N k0 n x0 x1 x2 x3 x4 x5) k0 x0 x1 x2 x3 x4 x5
noncomputable def check_Heights_0ce7_T (N : Nat) (c0 : check_height_866d_Ty) (c1 : check_height_fe79_Ty) (c2 : check_reach_87f1_Ty) (c3 : check_reach_Ty) (c4 : check_Run_0ce7_Ty) (c5 : check_Run_87f1_Ty) (c6 : check_Run_Ty) (w0 : check_Heights_0ce7_l0_Ty) {R : Type} (x0 : List ((Int) × (Int))) (k0 : (List ((Int) × (Int))) → (List (Int)) → Option R) : Option R :=
  c5 x0 ([] : List (ByteArray))
  (fun i165 i166 l167 l168 => br (!(decide (i166 = (0 : Int))))
   (k0 l167 ([] : List (Int)))
   (c2 l167 l168
    (fun l169 l170 l171 => w0
     (fun l177 l178 => k0 l177 l178)
     N (Nat.cast (List.length l169) : Int) (0 : Int) l169 l170 l171 ([] : List (Int)))))
noncomputable def check_Heights_0ce7 (N : Nat) {R : Type} (x0 : List ((Int) × (Int))) (k0 : (List ((Int) × (Int))) → (List (Int)) → Option R) : Option R := check_Heights_0ce7_T N (@check_height_866d N) (@check_height_fe79 N) (@check_reach_87f1 N) (@check_reach N) (@check_Run_0ce7 N) (@check_Run_87f1 N) (@check_Run N) (@check_Heights_0ce7_l0 N) x0 k0
abbrev check_Heights_l0_Ty : Type 1 := {R : Type} → ((List (Int)) → Option R) → Nat → (Int) → (Int) → (List ((Int) × (Int))) → (List (ByteArray)) → (List (Bool)) → (List (Int)) → Option R
abbrev check_Heights_Ty : Type 1 := {R : Type} → (List ((Int) × (Int))) → (List (ByteArray)) → ((List (Int)) → Option R) → Option R
noncomputable def check_Heights_l0_T0 (N : Nat) (c0 : check_height_866d_Ty) (c1 : check_height_fe79_Ty) (c2 : check_reach_87f1_Ty) (c3 : check_reach_Ty) (c4 : check_Run_0ce7_Ty) (c5 : check_Run_87f1_Ty) (c6 : check_Run_Ty) {R : Type} (nx : (Int) → (Int) → (List ((Int) × (Int))) → (List (ByteArray)) → (List (Bool)) → (List (Int)) → Option R) (k0 : (List (Int)) → Option R) (x0 : Int) (x1 : Int) (x2 : List ((Int) × (Int))) (x3 : List (ByteArray)) (x4 : List (Bool)) (x5 : List (Int)) : Option R :=
  br (decide (x1 < x0))
  (c1 x2 x3 x1 x4
   (fun i462 b463 l464 => br (((fits (0 : Nat) (List.length x5) x5) && (decide ((((List.length x5) + (1 : Nat)) * (8 : Nat)) ≤ (70368744177664 : Nat)))) && true)
    (nx x0 (IntKind.wrap .i64 (x1 + (1 : Int))) x2 x3 l464 ((sub x5 (0 : Nat) (List.length x5)) ++ (i462 :: ([] : List (Int)))))
    (none)))
  (k0 x5)
noncomputable def check_Heights_l0 (N : Nat) {R : Type} (k0 : (List (Int)) → Option R) : Nat → (Int) → (Int) → (List ((Int) × (Int))) → (List (ByteArray)) → (List (Bool)) → (List (Int)) → Option R
  | 0, _, _, _, _, _, _ => none
  | n + 1, x0, x1, x2, x3, x4, x5 => check_Heights_l0_T0 N (@check_height_866d N) (@check_height_fe79 N) (@check_reach_87f1 N) (@check_reach N) (@check_Run_0ce7 N) (@check_Run_87f1 N) (@check_Run N) (fun x0 x1 x2 x3 x4 x5 => check_Heights_l0 N k0 n x0 x1 x2 x3 x4 x5) k0 x0 x1 x2 x3 x4 x5
noncomputable def check_Heights_T (N : Nat) (c0 : check_height_866d_Ty) (c1 : check_height_fe79_Ty) (c2 : check_reach_87f1_Ty) (c3 : check_reach_Ty) (c4 : check_Run_0ce7_Ty) (c5 : check_Run_87f1_Ty) (c6 : check_Run_Ty) (w0 : check_Heights_l0_Ty) {R : Type} (x0 : List ((Int) × (Int))) (x1 : List (ByteArray)) (k0 : (List (Int)) → Option R) : Option R :=
  c6 x0 x1
  (fun i459 i460 => br (!(decide (i460 = (0 : Int))))
   (k0 ([] : List (Int)))
   (c3 x0 x1
    (fun l461 => w0
     (fun l465 => k0 l465)
     N (Nat.cast (List.length x0) : Int) (0 : Int) x0 x1 l461 ([] : List (Int)))))
noncomputable def check_Heights (N : Nat) {R : Type} (x0 : List ((Int) × (Int))) (x1 : List (ByteArray)) (k0 : (List (Int)) → Option R) : Option R := check_Heights_T N (@check_height_866d N) (@check_height_fe79 N) (@check_reach_87f1 N) (@check_reach N) (@check_Run_0ce7 N) (@check_Run_87f1 N) (@check_Run N) (@check_Heights_l0 N) x0 x1 k0
abbrev law11_same_9dd3_l0_Ty : Type 1 := {R : Type} → ((Bool) → (List (Int)) → (List (Int)) → Option R) → ((List (Int)) → (List (Int)) → Option R) → Nat → (Int) → (List (Int)) → (List (Int)) → Option R
abbrev law11_same_9dd3_Ty : Type 1 := {R : Type} → (List (Int)) → (List (Int)) → ((Bool) → (List (Int)) → (List (Int)) → Option R) → Option R
noncomputable def law11_same_9dd3_l0_T0 (N : Nat) {R : Type} (nx : (Int) → (List (Int)) → (List (Int)) → Option R) (k0 : (Bool) → (List (Int)) → (List (Int)) → Option R) (k1 : (List (Int)) → (List (Int)) → Option R) (x0 : Int) (x1 : List (Int)) (x2 : List (Int)) : Option R :=
  br (decide (x0 < (Nat.cast (List.length x1) : Int)))
  (br (inB x0 (List.length x1))
   (br (decide ((Int.toNat x0) < (List.length x1)))
    (br (inB x0 (List.length x2))
     (br (decide ((Int.toNat x0) < (List.length x2)))
      (br (!(decide ((List.getD x1 (Int.toNat x0) (0 : Int)) = (List.getD x2 (Int.toNat x0) (0 : Int)))))
       (k0 false x1 x2)
       (nx (IntKind.wrap .i64 (x0 + (1 : Int))) x1 x2))
      (none))
     (none))
    (none))
   (none))
  (k1 x1 x2)
noncomputable def law11_same_9dd3_l0 (N : Nat) {R : Type} (k0 : (Bool) → (List (Int)) → (List (Int)) → Option R) (k1 : (List (Int)) → (List (Int)) → Option R) : Nat → (Int) → (List (Int)) → (List (Int)) → Option R
  | 0, _, _, _ => none
  | n + 1, x0, x1, x2 => law11_same_9dd3_l0_T0 N (fun x0 x1 x2 => law11_same_9dd3_l0 N k0 k1 n x0 x1 x2) k0 k1 x0 x1 x2
noncomputable def law11_same_9dd3_T (N : Nat) (w0 : law11_same_9dd3_l0_Ty) {R : Type} (x0 : List (Int)) (x1 : List (Int)) (k0 : (Bool) → (List (Int)) → (List (Int)) → Option R) : Option R :=
  br (!(decide ((Nat.cast (List.length x0) : Int) = (Nat.cast (List.length x1) : Int))))
  (k0 false x0 x1)
  (w0
   (fun b181 l182 l183 => k0 b181 l182 l183)
   (fun l184 l185 => k0 true l184 l185)
   N (0 : Int) x0 x1)
noncomputable def law11_same_9dd3 (N : Nat) {R : Type} (x0 : List (Int)) (x1 : List (Int)) (k0 : (Bool) → (List (Int)) → (List (Int)) → Option R) : Option R := law11_same_9dd3_T N (@law11_same_9dd3_l0 N) x0 x1 k0
abbrev law11_awake_Ty : Type 1 := {R : Type} → ((Bool) → Option R) → Option R
noncomputable def law11_awake_T (N : Nat) (c0 : law11_same_9dd3_Ty) (c1 : check_Heights_0ce7_Ty) (c2 : check_Heights_Ty) (c3 : check_Run_0ce7_Ty) (c4 : check_Run_87f1_Ty) (c5 : check_Run_Ty) {R : Type} (k0 : (Bool) → Option R) : Option R :=
  c3 (((1 : Int) , (0 : Int)) :: (((26 : Int) , (0 : Int)) :: ([] : List ((Int) × (Int)))))
  (fun i103 i104 l105 => c3 (((1 : Int) , (0 : Int)) :: (((1 : Int) , (0 : Int)) :: ([] : List ((Int) × (Int)))))
   (fun i106 i107 l108 => br (decide (i103 = (0 : Int)))
    (br (decide (i104 = (0 : Int)))
     (br (decide (i106 = (1 : Int)))
      (br (decide (i107 = (8 : Int)))
       (c1 (((1 : Int) , (0 : Int)) :: (((26 : Int) , (0 : Int)) :: ([] : List ((Int) × (Int)))))
        (fun l179 l180 => c0 l180 ((0 : Int) :: ((1 : Int) :: ([] : List (Int))))
         (fun b186 l187 l188 => k0 b186)))
       (k0 false))
      (k0 false))
     (k0 false))
    (k0 false)))
noncomputable def law11_awake (N : Nat) {R : Type} (k0 : (Bool) → Option R) : Option R := law11_awake_T N (@law11_same_9dd3 N) (@check_Heights_0ce7 N) (@check_Heights N) (@check_Run_0ce7 N) (@check_Run_87f1 N) (@check_Run N) k0
abbrev law10_Small_l0_Ty : Type 1 := {R : Type} → ((Int) → (List ((Int) × (Int))) → (List (ByteArray)) → Option R) → Nat → (Int) → (Int) → (List ((Int) × (Int))) → (List (ByteArray)) → Option R
abbrev law10_Small_Ty : Type 1 := {R : Type} → (List ((Int) × (Int))) → (List (ByteArray)) → ((Bool) → Option R) → Option R
noncomputable def law10_Small_l0_T0 (N : Nat) {R : Type} (nx : (Int) → (Int) → (List ((Int) × (Int))) → (List (ByteArray)) → Option R) (k0 : (Int) → (List ((Int) × (Int))) → (List (ByteArray)) → Option R) (x0 : Int) (x1 : Int) (x2 : List ((Int) × (Int))) (x3 : List (ByteArray)) : Option R :=
  br (decide (x1 < (Nat.cast (List.length x3) : Int)))
  (br (inB x1 (List.length x3))
   (nx (IntKind.wrap .i64 (x0 + (Nat.cast (ByteArray.size (List.getD x3 (Int.toNat x1) (bs []))) : Int))) (IntKind.wrap .i64 (x1 + (1 : Int))) x2 x3)
   (none))
  (k0 x0 x2 x3)
noncomputable def law10_Small_l0 (N : Nat) {R : Type} (k0 : (Int) → (List ((Int) × (Int))) → (List (ByteArray)) → Option R) : Nat → (Int) → (Int) → (List ((Int) × (Int))) → (List (ByteArray)) → Option R
  | 0, _, _, _, _ => none
  | n + 1, x0, x1, x2, x3 => law10_Small_l0_T0 N (fun x0 x1 x2 x3 => law10_Small_l0 N k0 n x0 x1 x2 x3) k0 x0 x1 x2 x3
noncomputable def law10_Small_T (N : Nat) (w0 : law10_Small_l0_Ty) {R : Type} (x0 : List ((Int) × (Int))) (x1 : List (ByteArray)) (k0 : (Bool) → Option R) : Option R :=
  w0
  (fun i190 l191 l192 => br (decide ((Nat.cast (List.length l191) : Int) ≤ (500 : Int)))
   (br (decide ((Nat.cast (List.length l192) : Int) ≤ (100 : Int)))
    (k0 (decide (i190 ≤ (5000 : Int))))
    (k0 false))
   (k0 false))
  N (0 : Int) (0 : Int) x0 x1
noncomputable def law10_Small (N : Nat) {R : Type} (x0 : List ((Int) × (Int))) (x1 : List (ByteArray)) (k0 : (Bool) → Option R) : Option R := law10_Small_T N (@law10_Small_l0 N) x0 x1 k0
abbrev ref12_NameMay_l0_Ty : Type 1 := {R : Type} → ((Bool) → (List (ByteArray)) → Option R) → ((List (ByteArray)) → Option R) → Nat → (ByteArray) → (Int) → (List (ByteArray)) → Option R
abbrev ref12_NameMay_l1_Ty : Type 1 := {R : Type} → ((Bool) → (List (ByteArray)) → Option R) → ((List (ByteArray)) → Option R) → Nat → (Int) → (List (ByteArray)) → Option R
abbrev ref12_NameMay_Ty : Type 1 := {R : Type} → (ByteArray) → ((Bool) → Option R) → Option R
noncomputable def ref12_NameMay_l0_T0 (N : Nat) (w1 : ref12_NameMay_l1_Ty) {R : Type} (nx : (ByteArray) → (Int) → (List (ByteArray)) → Option R) (k0 : (Bool) → (List (ByteArray)) → Option R) (k1 : (List (ByteArray)) → Option R) (x0 : ByteArray) (x1 : Int) (x2 : List (ByteArray)) : Option R :=
  br (decide (x1 < (Nat.cast (ByteArray.size x0) : Int)))
  (br (inB x1 (ByteArray.size x0))
   (br (decide ((bt x0 x1) = (47 : Int)))
    (br (((fits (0 : Nat) (List.length x2) x2) && (decide ((((List.length x2) + (1 : Nat)) * (16 : Nat)) ≤ (70368744177664 : Nat)))) && true)
     (nx x0 (IntKind.wrap .i64 (x1 + (1 : Int))) ((sub x2 (0 : Nat) (List.length x2)) ++ ((bs []) :: ([] : List (ByteArray)))))
     (none))
    (br (decide ((97 : Int) ≤ (bt x0 x1)))
     (br (decide ((bt x0 x1) ≤ (122 : Int)))
      (br (inB (IntKind.wrap .i64 ((Nat.cast (List.length x2) : Int) - (1 : Int))) (List.length x2))
       (br (decide ((Int.toNat (IntKind.wrap .i64 ((Nat.cast (List.length x2) : Int) - (1 : Int)))) < (List.length x2)))
        (br (decide (((ByteArray.size (List.getD x2 (Int.toNat (IntKind.wrap .i64 ((Nat.cast (List.length x2) : Int) - (1 : Int)))) (bs []))) + (ByteArray.size (mkStr ((bt x0 x1) :: ([] : List (Int)))))) < (1099511627776 : Nat)))
         (br (inB (IntKind.wrap .i64 ((Nat.cast (List.length x2) : Int) - (1 : Int))) (List.length x2))
          (br (decide ((Int.toNat (IntKind.wrap .i64 ((Nat.cast (List.length x2) : Int) - (1 : Int)))) < (List.length x2)))
           (nx x0 (IntKind.wrap .i64 (x1 + (1 : Int))) (List.set x2 (Int.toNat (IntKind.wrap .i64 ((Nat.cast (List.length x2) : Int) - (1 : Int)))) ((List.getD x2 (Int.toNat (IntKind.wrap .i64 ((Nat.cast (List.length x2) : Int) - (1 : Int)))) (bs [])) ++ (mkStr ((bt x0 x1) :: ([] : List (Int)))))))
           (none))
          (none))
         (none))
        (none))
       (none))
      (br (decide ((48 : Int) ≤ (bt x0 x1)))
       (br (decide ((bt x0 x1) ≤ (57 : Int)))
        (br (inB (IntKind.wrap .i64 ((Nat.cast (List.length x2) : Int) - (1 : Int))) (List.length x2))
         (br (decide ((Int.toNat (IntKind.wrap .i64 ((Nat.cast (List.length x2) : Int) - (1 : Int)))) < (List.length x2)))
          (br (decide (((ByteArray.size (List.getD x2 (Int.toNat (IntKind.wrap .i64 ((Nat.cast (List.length x2) : Int) - (1 : Int)))) (bs []))) + (ByteArray.size (mkStr ((bt x0 x1) :: ([] : List (Int)))))) < (1099511627776 : Nat)))
           (br (inB (IntKind.wrap .i64 ((Nat.cast (List.length x2) : Int) - (1 : Int))) (List.length x2))
            (br (decide ((Int.toNat (IntKind.wrap .i64 ((Nat.cast (List.length x2) : Int) - (1 : Int)))) < (List.length x2)))
             (nx x0 (IntKind.wrap .i64 (x1 + (1 : Int))) (List.set x2 (Int.toNat (IntKind.wrap .i64 ((Nat.cast (List.length x2) : Int) - (1 : Int)))) ((List.getD x2 (Int.toNat (IntKind.wrap .i64 ((Nat.cast (List.length x2) : Int) - (1 : Int)))) (bs [])) ++ (mkStr ((bt x0 x1) :: ([] : List (Int)))))))
             (none))
            (none))
           (none))
          (none))
         (none))
        (br (decide ((bt x0 x1) = (46 : Int)))
         (br (inB (IntKind.wrap .i64 ((Nat.cast (List.length x2) : Int) - (1 : Int))) (List.length x2))
          (br (decide ((Int.toNat (IntKind.wrap .i64 ((Nat.cast (List.length x2) : Int) - (1 : Int)))) < (List.length x2)))
           (br (decide (((ByteArray.size (List.getD x2 (Int.toNat (IntKind.wrap .i64 ((Nat.cast (List.length x2) : Int) - (1 : Int)))) (bs []))) + (ByteArray.size (mkStr ((bt x0 x1) :: ([] : List (Int)))))) < (1099511627776 : Nat)))
            (br (inB (IntKind.wrap .i64 ((Nat.cast (List.length x2) : Int) - (1 : Int))) (List.length x2))
             (br (decide ((Int.toNat (IntKind.wrap .i64 ((Nat.cast (List.length x2) : Int) - (1 : Int)))) < (List.length x2)))
              (nx x0 (IntKind.wrap .i64 (x1 + (1 : Int))) (List.set x2 (Int.toNat (IntKind.wrap .i64 ((Nat.cast (List.length x2) : Int) - (1 : Int)))) ((List.getD x2 (Int.toNat (IntKind.wrap .i64 ((Nat.cast (List.length x2) : Int) - (1 : Int)))) (bs [])) ++ (mkStr ((bt x0 x1) :: ([] : List (Int)))))))
              (none))
             (none))
            (none))
           (none))
          (none))
         (br (decide ((bt x0 x1) = (95 : Int)))
          (br (inB (IntKind.wrap .i64 ((Nat.cast (List.length x2) : Int) - (1 : Int))) (List.length x2))
           (br (decide ((Int.toNat (IntKind.wrap .i64 ((Nat.cast (List.length x2) : Int) - (1 : Int)))) < (List.length x2)))
            (br (decide (((ByteArray.size (List.getD x2 (Int.toNat (IntKind.wrap .i64 ((Nat.cast (List.length x2) : Int) - (1 : Int)))) (bs []))) + (ByteArray.size (mkStr ((bt x0 x1) :: ([] : List (Int)))))) < (1099511627776 : Nat)))
             (br (inB (IntKind.wrap .i64 ((Nat.cast (List.length x2) : Int) - (1 : Int))) (List.length x2))
              (br (decide ((Int.toNat (IntKind.wrap .i64 ((Nat.cast (List.length x2) : Int) - (1 : Int)))) < (List.length x2)))
               (nx x0 (IntKind.wrap .i64 (x1 + (1 : Int))) (List.set x2 (Int.toNat (IntKind.wrap .i64 ((Nat.cast (List.length x2) : Int) - (1 : Int)))) ((List.getD x2 (Int.toNat (IntKind.wrap .i64 ((Nat.cast (List.length x2) : Int) - (1 : Int)))) (bs [])) ++ (mkStr ((bt x0 x1) :: ([] : List (Int)))))))
               (none))
              (none))
             (none))
            (none))
           (none))
          (k0 false x2))))
       (br (decide ((bt x0 x1) = (46 : Int)))
        (br (inB (IntKind.wrap .i64 ((Nat.cast (List.length x2) : Int) - (1 : Int))) (List.length x2))
         (br (decide ((Int.toNat (IntKind.wrap .i64 ((Nat.cast (List.length x2) : Int) - (1 : Int)))) < (List.length x2)))
          (br (decide (((ByteArray.size (List.getD x2 (Int.toNat (IntKind.wrap .i64 ((Nat.cast (List.length x2) : Int) - (1 : Int)))) (bs []))) + (ByteArray.size (mkStr ((bt x0 x1) :: ([] : List (Int)))))) < (1099511627776 : Nat)))
           (br (inB (IntKind.wrap .i64 ((Nat.cast (List.length x2) : Int) - (1 : Int))) (List.length x2))
            (br (decide ((Int.toNat (IntKind.wrap .i64 ((Nat.cast (List.length x2) : Int) - (1 : Int)))) < (List.length x2)))
             (nx x0 (IntKind.wrap .i64 (x1 + (1 : Int))) (List.set x2 (Int.toNat (IntKind.wrap .i64 ((Nat.cast (List.length x2) : Int) - (1 : Int)))) ((List.getD x2 (Int.toNat (IntKind.wrap .i64 ((Nat.cast (List.length x2) : Int) - (1 : Int)))) (bs [])) ++ (mkStr ((bt x0 x1) :: ([] : List (Int)))))))
             (none))
            (none))
           (none))
          (none))
         (none))
        (br (decide ((bt x0 x1) = (95 : Int)))
         (br (inB (IntKind.wrap .i64 ((Nat.cast (List.length x2) : Int) - (1 : Int))) (List.length x2))
          (br (decide ((Int.toNat (IntKind.wrap .i64 ((Nat.cast (List.length x2) : Int) - (1 : Int)))) < (List.length x2)))
           (br (decide (((ByteArray.size (List.getD x2 (Int.toNat (IntKind.wrap .i64 ((Nat.cast (List.length x2) : Int) - (1 : Int)))) (bs []))) + (ByteArray.size (mkStr ((bt x0 x1) :: ([] : List (Int)))))) < (1099511627776 : Nat)))
            (br (inB (IntKind.wrap .i64 ((Nat.cast (List.length x2) : Int) - (1 : Int))) (List.length x2))
             (br (decide ((Int.toNat (IntKind.wrap .i64 ((Nat.cast (List.length x2) : Int) - (1 : Int)))) < (List.length x2)))
              (nx x0 (IntKind.wrap .i64 (x1 + (1 : Int))) (List.set x2 (Int.toNat (IntKind.wrap .i64 ((Nat.cast (List.length x2) : Int) - (1 : Int)))) ((List.getD x2 (Int.toNat (IntKind.wrap .i64 ((Nat.cast (List.length x2) : Int) - (1 : Int)))) (bs [])) ++ (mkStr ((bt x0 x1) :: ([] : List (Int)))))))
              (none))
             (none))
            (none))
           (none))
          (none))
         (k0 false x2)))))
     (br (decide ((48 : Int) ≤ (bt x0 x1)))
      (br (decide ((bt x0 x1) ≤ (57 : Int)))
       (br (inB (IntKind.wrap .i64 ((Nat.cast (List.length x2) : Int) - (1 : Int))) (List.length x2))
        (br (decide ((Int.toNat (IntKind.wrap .i64 ((Nat.cast (List.length x2) : Int) - (1 : Int)))) < (List.length x2)))
         (br (decide (((ByteArray.size (List.getD x2 (Int.toNat (IntKind.wrap .i64 ((Nat.cast (List.length x2) : Int) - (1 : Int)))) (bs []))) + (ByteArray.size (mkStr ((bt x0 x1) :: ([] : List (Int)))))) < (1099511627776 : Nat)))
          (br (inB (IntKind.wrap .i64 ((Nat.cast (List.length x2) : Int) - (1 : Int))) (List.length x2))
           (br (decide ((Int.toNat (IntKind.wrap .i64 ((Nat.cast (List.length x2) : Int) - (1 : Int)))) < (List.length x2)))
            (nx x0 (IntKind.wrap .i64 (x1 + (1 : Int))) (List.set x2 (Int.toNat (IntKind.wrap .i64 ((Nat.cast (List.length x2) : Int) - (1 : Int)))) ((List.getD x2 (Int.toNat (IntKind.wrap .i64 ((Nat.cast (List.length x2) : Int) - (1 : Int)))) (bs [])) ++ (mkStr ((bt x0 x1) :: ([] : List (Int)))))))
            (none))
           (none))
          (none))
         (none))
        (none))
       (br (decide ((bt x0 x1) = (46 : Int)))
        (br (inB (IntKind.wrap .i64 ((Nat.cast (List.length x2) : Int) - (1 : Int))) (List.length x2))
         (br (decide ((Int.toNat (IntKind.wrap .i64 ((Nat.cast (List.length x2) : Int) - (1 : Int)))) < (List.length x2)))
          (br (decide (((ByteArray.size (List.getD x2 (Int.toNat (IntKind.wrap .i64 ((Nat.cast (List.length x2) : Int) - (1 : Int)))) (bs []))) + (ByteArray.size (mkStr ((bt x0 x1) :: ([] : List (Int)))))) < (1099511627776 : Nat)))
           (br (inB (IntKind.wrap .i64 ((Nat.cast (List.length x2) : Int) - (1 : Int))) (List.length x2))
            (br (decide ((Int.toNat (IntKind.wrap .i64 ((Nat.cast (List.length x2) : Int) - (1 : Int)))) < (List.length x2)))
             (nx x0 (IntKind.wrap .i64 (x1 + (1 : Int))) (List.set x2 (Int.toNat (IntKind.wrap .i64 ((Nat.cast (List.length x2) : Int) - (1 : Int)))) ((List.getD x2 (Int.toNat (IntKind.wrap .i64 ((Nat.cast (List.length x2) : Int) - (1 : Int)))) (bs [])) ++ (mkStr ((bt x0 x1) :: ([] : List (Int)))))))
             (none))
            (none))
           (none))
          (none))
         (none))
        (br (decide ((bt x0 x1) = (95 : Int)))
         (br (inB (IntKind.wrap .i64 ((Nat.cast (List.length x2) : Int) - (1 : Int))) (List.length x2))
          (br (decide ((Int.toNat (IntKind.wrap .i64 ((Nat.cast (List.length x2) : Int) - (1 : Int)))) < (List.length x2)))
           (br (decide (((ByteArray.size (List.getD x2 (Int.toNat (IntKind.wrap .i64 ((Nat.cast (List.length x2) : Int) - (1 : Int)))) (bs []))) + (ByteArray.size (mkStr ((bt x0 x1) :: ([] : List (Int)))))) < (1099511627776 : Nat)))
            (br (inB (IntKind.wrap .i64 ((Nat.cast (List.length x2) : Int) - (1 : Int))) (List.length x2))
             (br (decide ((Int.toNat (IntKind.wrap .i64 ((Nat.cast (List.length x2) : Int) - (1 : Int)))) < (List.length x2)))
              (nx x0 (IntKind.wrap .i64 (x1 + (1 : Int))) (List.set x2 (Int.toNat (IntKind.wrap .i64 ((Nat.cast (List.length x2) : Int) - (1 : Int)))) ((List.getD x2 (Int.toNat (IntKind.wrap .i64 ((Nat.cast (List.length x2) : Int) - (1 : Int)))) (bs [])) ++ (mkStr ((bt x0 x1) :: ([] : List (Int)))))))
              (none))
             (none))
            (none))
           (none))
          (none))
         (k0 false x2))))
      (br (decide ((bt x0 x1) = (46 : Int)))
       (br (inB (IntKind.wrap .i64 ((Nat.cast (List.length x2) : Int) - (1 : Int))) (List.length x2))
        (br (decide ((Int.toNat (IntKind.wrap .i64 ((Nat.cast (List.length x2) : Int) - (1 : Int)))) < (List.length x2)))
         (br (decide (((ByteArray.size (List.getD x2 (Int.toNat (IntKind.wrap .i64 ((Nat.cast (List.length x2) : Int) - (1 : Int)))) (bs []))) + (ByteArray.size (mkStr ((bt x0 x1) :: ([] : List (Int)))))) < (1099511627776 : Nat)))
          (br (inB (IntKind.wrap .i64 ((Nat.cast (List.length x2) : Int) - (1 : Int))) (List.length x2))
           (br (decide ((Int.toNat (IntKind.wrap .i64 ((Nat.cast (List.length x2) : Int) - (1 : Int)))) < (List.length x2)))
            (nx x0 (IntKind.wrap .i64 (x1 + (1 : Int))) (List.set x2 (Int.toNat (IntKind.wrap .i64 ((Nat.cast (List.length x2) : Int) - (1 : Int)))) ((List.getD x2 (Int.toNat (IntKind.wrap .i64 ((Nat.cast (List.length x2) : Int) - (1 : Int)))) (bs [])) ++ (mkStr ((bt x0 x1) :: ([] : List (Int)))))))
            (none))
           (none))
          (none))
         (none))
        (none))
       (br (decide ((bt x0 x1) = (95 : Int)))
        (br (inB (IntKind.wrap .i64 ((Nat.cast (List.length x2) : Int) - (1 : Int))) (List.length x2))
         (br (decide ((Int.toNat (IntKind.wrap .i64 ((Nat.cast (List.length x2) : Int) - (1 : Int)))) < (List.length x2)))
          (br (decide (((ByteArray.size (List.getD x2 (Int.toNat (IntKind.wrap .i64 ((Nat.cast (List.length x2) : Int) - (1 : Int)))) (bs []))) + (ByteArray.size (mkStr ((bt x0 x1) :: ([] : List (Int)))))) < (1099511627776 : Nat)))
           (br (inB (IntKind.wrap .i64 ((Nat.cast (List.length x2) : Int) - (1 : Int))) (List.length x2))
            (br (decide ((Int.toNat (IntKind.wrap .i64 ((Nat.cast (List.length x2) : Int) - (1 : Int)))) < (List.length x2)))
             (nx x0 (IntKind.wrap .i64 (x1 + (1 : Int))) (List.set x2 (Int.toNat (IntKind.wrap .i64 ((Nat.cast (List.length x2) : Int) - (1 : Int)))) ((List.getD x2 (Int.toNat (IntKind.wrap .i64 ((Nat.cast (List.length x2) : Int) - (1 : Int)))) (bs [])) ++ (mkStr ((bt x0 x1) :: ([] : List (Int)))))))
             (none))
            (none))
           (none))
          (none))
         (none))
        (k0 false x2))))))
   (none))
  (k1 x2)
noncomputable def ref12_NameMay_l1_T0 (N : Nat) {R : Type} (nx : (Int) → (List (ByteArray)) → Option R) (k0 : (Bool) → (List (ByteArray)) → Option R) (k1 : (List (ByteArray)) → Option R) (x0 : Int) (x1 : List (ByteArray)) : Option R :=
  br (decide (x0 < (Nat.cast (List.length x1) : Int)))
  (br (inB x0 (List.length x1))
   (br (decide ((Int.toNat x0) < (List.length x1)))
    (br (!(decide ((List.getD x1 (Int.toNat x0) (bs [])) = (bs []))))
     (br (inB x0 (List.length x1))
      (br (decide ((Int.toNat x0) < (List.length x1)))
       (br (!(decide ((List.getD x1 (Int.toNat x0) (bs [])) = (bs [46]))))
        (br (inB x0 (List.length x1))
         (br (decide ((Int.toNat x0) < (List.length x1)))
          (br (decide ((List.getD x1 (Int.toNat x0) (bs [])) = (bs [46, 46])))
           (k0 false x1)
           (nx (IntKind.wrap .i64 (x0 + (1 : Int))) x1))
          (none))
         (none))
        (k0 false x1))
       (none))
      (none))
     (k0 false x1))
    (none))
   (none))
  (k1 x1)
noncomputable def ref12_NameMay_l1 (N : Nat) {R : Type} (k0 : (Bool) → (List (ByteArray)) → Option R) (k1 : (List (ByteArray)) → Option R) : Nat → (Int) → (List (ByteArray)) → Option R
  | 0, _, _ => none
  | n + 1, x0, x1 => ref12_NameMay_l1_T0 N (fun x0 x1 => ref12_NameMay_l1 N k0 k1 n x0 x1) k0 k1 x0 x1
noncomputable def ref12_NameMay_l0 (N : Nat) {R : Type} (k0 : (Bool) → (List (ByteArray)) → Option R) (k1 : (List (ByteArray)) → Option R) : Nat → (ByteArray) → (Int) → (List (ByteArray)) → Option R
  | 0, _, _, _ => none
  | n + 1, x0, x1, x2 => ref12_NameMay_l0_T0 N (@ref12_NameMay_l1 N) (fun x0 x1 x2 => ref12_NameMay_l0 N k0 k1 n x0 x1 x2) k0 k1 x0 x1 x2
noncomputable def ref12_NameMay_T (N : Nat) (w0 : ref12_NameMay_l0_Ty) (w1 : ref12_NameMay_l1_Ty) {R : Type} (x0 : ByteArray) (k0 : (Bool) → Option R) : Option R :=
  br (!(decide ((Nat.cast (ByteArray.size x0) : Int) < (1 : Int))))
  (br (decide ((8 : Int) < (Nat.cast (ByteArray.size x0) : Int)))
   (k0 false)
   (w0
    (fun b259 l260 => k0 b259)
    (fun l261 => w1
     (fun b262 l263 => k0 b262)
     (fun l264 => k0 (decide ((Nat.cast (List.length l264) : Int) ≤ (2 : Int))))
     N (0 : Int) l261)
    N x0 (0 : Int) ((bs []) :: ([] : List (ByteArray)))))
  (k0 false)
noncomputable def ref12_NameMay (N : Nat) {R : Type} (x0 : ByteArray) (k0 : (Bool) → Option R) : Option R := ref12_NameMay_T N (@ref12_NameMay_l0 N) (@ref12_NameMay_l1 N) x0 k0
abbrev ref12_table_Ty : Type 1 := {R : Type} → ((List ((ByteArray) × ((Int) × ((Int) × (Int))))) → Option R) → Option R
noncomputable def ref12_table_T (N : Nat) {R : Type} (k0 : (List ((ByteArray) × ((Int) × ((Int) × (Int))))) → Option R) : Option R :=
  k0 (((bs []) , ((0 : Int) , ((0 : Int) , (0 : Int)))) :: (((bs [112, 117, 115, 104]) , ((0 : Int) , ((1 : Int) , (65535 : Int)))) :: (((bs [112, 111, 112]) , ((1 : Int) , ((0 : Int) , (0 : Int)))) :: (((bs [100, 117, 112]) , ((1 : Int) , ((2 : Int) , (0 : Int)))) :: (((bs [115, 119, 97, 112]) , ((2 : Int) , ((2 : Int) , (0 : Int)))) :: (((bs [97, 100, 100]) , ((2 : Int) , ((1 : Int) , (0 : Int)))) :: (((bs [115, 117, 98]) , ((2 : Int) , ((1 : Int) , (0 : Int)))) :: (((bs [109, 117, 108]) , ((2 : Int) , ((1 : Int) , (0 : Int)))) :: (((bs [100, 105, 118]) , ((2 : Int) , ((1 : Int) , (0 : Int)))) :: (((bs [109, 111, 100]) , ((2 : Int) , ((1 : Int) , (0 : Int)))) :: (((bs [97, 110, 100]) , ((2 : Int) , ((1 : Int) , (0 : Int)))) :: (((bs [111, 114]) , ((2 : Int) , ((1 : Int) , (0 : Int)))) :: (((bs [120, 111, 114]) , ((2 : Int) , ((1 : Int) , (0 : Int)))) :: (((bs [115, 104, 108]) , ((2 : Int) , ((1 : Int) , (0 : Int)))) :: (((bs [115, 104, 114]) , ((2 : Int) , ((1 : Int) , (0 : Int)))) :: (((bs [101, 113]) , ((2 : Int) , ((1 : Int) , (0 : Int)))) :: (((bs [108, 116]) , ((2 : Int) , ((1 : Int) , (0 : Int)))) :: (((bs [110, 111, 116]) , ((1 : Int) , ((1 : Int) , (0 : Int)))) :: (((bs [103, 101, 116]) , ((0 : Int) , ((1 : Int) , (7 : Int)))) :: (((bs [115, 101, 116]) , ((1 : Int) , ((0 : Int) , (7 : Int)))) :: (((bs [108, 111, 97, 100]) , ((1 : Int) , ((1 : Int) , (0 : Int)))) :: (((bs [115, 116, 111, 114, 101]) , ((2 : Int) , ((0 : Int) , (0 : Int)))) :: (((bs [106, 117, 109, 112]) , ((0 : Int) , ((0 : Int) , (95 : Int)))) :: (((bs [122, 101, 114, 111]) , ((1 : Int) , ((0 : Int) , (95 : Int)))) :: (((bs [111, 117, 116]) , ((1 : Int) , ((0 : Int) , (0 : Int)))) :: (((bs [97, 115, 115, 101, 114, 116]) , ((1 : Int) , ((0 : Int) , (0 : Int)))) :: (((bs [101, 120, 105, 116]) , ((1 : Int) , ((0 : Int) , (0 : Int)))) :: (((bs [111, 112, 101, 110]) , ((0 : Int) , ((1 : Int) , (7 : Int)))) :: (((bs [99, 108, 111, 115, 101]) , ((1 : Int) , ((1 : Int) , (0 : Int)))) :: (((bs [114, 101, 97, 100]) , ((3 : Int) , ((1 : Int) , (0 : Int)))) :: (((bs [119, 114, 105, 116, 101]) , ((3 : Int) , ((1 : Int) , (0 : Int)))) :: (((bs [115, 101, 101, 107]) , ((2 : Int) , ((1 : Int) , (0 : Int)))) :: (((bs [115, 105, 122, 101]) , ((1 : Int) , ((1 : Int) , (0 : Int)))) :: (((bs [117, 110, 108, 105, 110, 107]) , ((0 : Int) , ((1 : Int) , (7 : Int)))) :: (((bs [114, 101, 110, 97, 109, 101]) , ((0 : Int) , ((1 : Int) , (63 : Int)))) :: (((bs [109, 107, 100, 105, 114]) , ((0 : Int) , ((1 : Int) , (7 : Int)))) :: (((bs [114, 109, 100, 105, 114]) , ((0 : Int) , ((1 : Int) , (7 : Int)))) :: (((bs [108, 105, 115, 116]) , ((0 : Int) , ((1 : Int) , (7 : Int)))) :: (((bs [116, 114, 117, 110, 99]) , ((2 : Int) , ((1 : Int) , (0 : Int)))) :: (((bs [116, 119, 105, 110]) , ((1 : Int) , ((1 : Int) , (0 : Int)))) :: (((bs [97, 114, 103, 99]) , ((0 : Int) , ((1 : Int) , (0 : Int)))) :: (((bs [97, 114, 103]) , ((2 : Int) , ((1 : Int) , (0 : Int)))) :: ([] : List ((ByteArray) × ((Int) × ((Int) × (Int)))))))))))))))))))))))))))))))))))))))))))))))
noncomputable def ref12_table (N : Nat) {R : Type} (k0 : (List ((ByteArray) × ((Int) × ((Int) × (Int))))) → Option R) : Option R := ref12_table_T N k0
abbrev ref12_Row_Ty : Type 1 := {R : Type} → (Int) → ((ByteArray) → (Int) → (Int) → (Int) → (Bool) → Option R) → Option R
noncomputable def ref12_Row_T (N : Nat) (c0 : ref12_table_Ty) {R : Type} (x0 : Int) (k0 : (ByteArray) → (Int) → (Int) → (Int) → (Bool) → Option R) : Option R :=
  c0
  (fun l274 => br (!(decide (x0 < (1 : Int))))
   (br (decide ((Nat.cast (List.length l274) : Int) ≤ x0))
    (k0 (bs []) (-1 : Int) (-1 : Int) (-1 : Int) false)
    (br (inB x0 (List.length l274))
     (br (decide ((Int.toNat x0) < (List.length l274)))
      (k0 (List.getD l274 (Int.toNat x0) ((bs []) , ((0 : Int) , ((0 : Int) , (0 : Int))))).1 (List.getD l274 (Int.toNat x0) ((bs []) , ((0 : Int) , ((0 : Int) , (0 : Int))))).2.1 (List.getD l274 (Int.toNat x0) ((bs []) , ((0 : Int) , ((0 : Int) , (0 : Int))))).2.2.1 (List.getD l274 (Int.toNat x0) ((bs []) , ((0 : Int) , ((0 : Int) , (0 : Int))))).2.2.2 true)
      (none))
     (none)))
   (k0 (bs []) (-1 : Int) (-1 : Int) (-1 : Int) false))
noncomputable def ref12_Row (N : Nat) {R : Type} (x0 : Int) (k0 : (ByteArray) → (Int) → (Int) → (Int) → (Bool) → Option R) : Option R := ref12_Row_T N (@ref12_table N) x0 k0
abbrev ref12_InstMay_Ty : Type 1 := {R : Type} → (Int) → (Int) → ((Bool) → Option R) → Option R
noncomputable def ref12_InstMay_T (N : Nat) (c0 : ref12_Row_Ty) {R : Type} (x0 : Int) (x1 : Int) (k0 : (Bool) → Option R) : Option R :=
  c0 x0
  (fun s275 i276 i277 i278 b279 => br b279
   (br (decide ((0 : Int) ≤ x1))
    (k0 (decide (x1 ≤ i278)))
    (k0 false))
   (k0 false))
noncomputable def ref12_InstMay (N : Nat) {R : Type} (x0 : Int) (x1 : Int) (k0 : (Bool) → Option R) : Option R := ref12_InstMay_T N (@ref12_Row N) x0 x1 k0
abbrev ref12_names_Ty : Type 1 := {R : Type} → (Int) → (Int) → ((List (Int)) → Option R) → Option R
noncomputable def ref12_names_T (N : Nat) {R : Type} (x0 : Int) (x1 : Int) (k0 : (List (Int)) → Option R) : Option R :=
  br (decide (x0 = (27 : Int)))
  (k0 (x1 :: ([] : List (Int))))
  (br (decide (x0 = (33 : Int)))
   (k0 (x1 :: ([] : List (Int))))
   (br (decide (x0 = (35 : Int)))
    (k0 (x1 :: ([] : List (Int))))
    (br (decide (x0 = (36 : Int)))
     (k0 (x1 :: ([] : List (Int))))
     (br (decide (x0 = (37 : Int)))
      (k0 (x1 :: ([] : List (Int))))
      (br (decide (x0 = (34 : Int)))
       (k0 ((IntKind.wrap .i64 (Int.tdiv x1 (8 : Int))) :: ((Int.tmod x1 (8 : Int)) :: ([] : List (Int)))))
       (k0 ([] : List (Int))))))))
noncomputable def ref12_names (N : Nat) {R : Type} (x0 : Int) (x1 : Int) (k0 : (List (Int)) → Option R) : Option R := ref12_names_T N x0 x1 k0
abbrev ref12_Check_l0_Ty : Type 1 := {R : Type} → ((Int) → (Int) → (Int) → (List ((Int) × (Int))) → (List (ByteArray)) → Option R) → ((Int) → (List ((Int) × (Int))) → (List (ByteArray)) → Option R) → Nat → (Int) → (Int) → (List ((Int) × (Int))) → (List (ByteArray)) → Option R
abbrev ref12_Check_l1_Ty : Type 1 := {R : Type} → ((Int) → (Int) → (Int) → (List ((Int) × (Int))) → (List (ByteArray)) → Option R) → ((Int) → (List ((Int) × (Int))) → (List (ByteArray)) → Option R) → Nat → (Int) → (Int) → (List ((Int) × (Int))) → (List (ByteArray)) → Option R
abbrev ref12_Check_l2_Ty : Type 1 := {R : Type} → ((Int) → (Int) → (Int) → (Int) → (List ((Int) × (Int))) → (List (ByteArray)) → (Int) → (Int) → Option R) → ((Int) → (Int) → (List ((Int) × (Int))) → (List (ByteArray)) → (Int) → (Int) → Option R) → Nat → (Int) → (Int) → (Int) → (List ((Int) × (Int))) → (List (ByteArray)) → (Int) → (Int) → (List (Int)) → Option R
abbrev ref12_Check_l3_Ty : Type 1 := {R : Type} → ((Int) → (List ((Int) × (Int))) → (List (ByteArray)) → (List (Int)) → (List (List (Bool))) → Option R) → Nat → (Int) → (Int) → (List ((Int) × (Int))) → (List (ByteArray)) → (List (Int)) → (List (List (Bool))) → Option R
abbrev ref12_Check_l4_Ty : Type 1 := {R : Type} → ((Int) → (List ((Int) × (Int))) → (List (ByteArray)) → (List (Int)) → (List (List (Bool))) → Option R) → Nat → (Int) → (Bool) → (List ((Int) × (Int))) → (List (ByteArray)) → (List (Int)) → (List (List (Bool))) → Option R
abbrev ref12_Check_l5_Ty : Type 1 := {R : Type} → ((Int) → (Bool) → (List ((Int) × (Int))) → (List (ByteArray)) → (List (Int)) → (List (List (Bool))) → Option R) → Nat → (Int) → (Bool) → (Int) → (List ((Int) × (Int))) → (List (ByteArray)) → (List (Int)) → (List (List (Bool))) → Option R
abbrev ref12_Check_l6_Ty : Type 1 := {R : Type} → ((Int) → (Bool) → (Int) → (List ((Int) × (Int))) → (List (ByteArray)) → (List (Int)) → (List (List (Bool))) → Option R) → Nat → (Int) → (Bool) → (Int) → (Int) → (List ((Int) × (Int))) → (List (ByteArray)) → (List (Int)) → (List (List (Bool))) → Option R
abbrev ref12_Check_l7_Ty : Type 1 := {R : Type} → ((Int) → (Int) → (List (Int)) → Option R) → ((List (Int)) → Option R) → Nat → (Int) → (Int) → (List ((Int) × (Int))) → (List (ByteArray)) → (List (Int)) → (List (List (Bool))) → (List (Int)) → Option R
abbrev ref12_Check_l8_Ty : Type 1 := {R : Type} → ((Int) → (Int) → (Int) → (Int) → (List ((Int) × (Int))) → (List (ByteArray)) → (List (Int)) → (List (List (Bool))) → (List (Int)) → Option R) → ((Int) → (Int) → (List ((Int) × (Int))) → (List (ByteArray)) → (List (Int)) → (List (List (Bool))) → (List (Int)) → Option R) → Nat → (Int) → (Int) → (Int) → (Int) → (Int) → (List ((Int) × (Int))) → (List (ByteArray)) → (List (Int)) → (List (List (Bool))) → (List (Int)) → Option R
abbrev ref12_Check_Ty : Type 1 := {R : Type} → (List ((Int) × (Int))) → (List (ByteArray)) → ((Int) → (Int) → (List (Int)) → Option R) → Option R
noncomputable def ref12_Check_l0_T0 (N : Nat) (c0 : ref12_Row_Ty) (c1 : ref12_names_Ty) (c2 : ref12_InstMay_Ty) (c3 : ref12_NameMay_Ty) (w1 : ref12_Check_l1_Ty) (w2 : ref12_Check_l2_Ty) (w3 : ref12_Check_l3_Ty) (w4 : ref12_Check_l4_Ty) (w5 : ref12_Check_l5_Ty) (w6 : ref12_Check_l6_Ty) (w7 : ref12_Check_l7_Ty) (w8 : ref12_Check_l8_Ty) {R : Type} (nx : (Int) → (Int) → (List ((Int) × (Int))) → (List (ByteArray)) → Option R) (k0 : (Int) → (Int) → (Int) → (List ((Int) × (Int))) → (List (ByteArray)) → Option R) (k1 : (Int) → (List ((Int) × (Int))) → (List (ByteArray)) → Option R) (x0 : Int) (x1 : Int) (x2 : List ((Int) × (Int))) (x3 : List (ByteArray)) : Option R :=
  br (decide (x1 < (Nat.cast (List.length x3) : Int)))
  (br (inB x1 (List.length x3))
   (c3 (List.getD x3 (Int.toNat x1) (bs []))
    (fun b357 => br (!b357)
     (k0 (0 : Int) (10 : Int) x0 x2 x3)
     (nx x0 (IntKind.wrap .i64 (x1 + (1 : Int))) x2 x3)))
   (none))
  (k1 x0 x2 x3)
noncomputable def ref12_Check_l1_T0 (N : Nat) (c0 : ref12_Row_Ty) (c1 : ref12_names_Ty) (c2 : ref12_InstMay_Ty) (c3 : ref12_NameMay_Ty) (w2 : ref12_Check_l2_Ty) (w3 : ref12_Check_l3_Ty) (w4 : ref12_Check_l4_Ty) (w5 : ref12_Check_l5_Ty) (w6 : ref12_Check_l6_Ty) (w7 : ref12_Check_l7_Ty) (w8 : ref12_Check_l8_Ty) {R : Type} (nx : (Int) → (Int) → (List ((Int) × (Int))) → (List (ByteArray)) → Option R) (k0 : (Int) → (Int) → (Int) → (List ((Int) × (Int))) → (List (ByteArray)) → Option R) (k1 : (Int) → (List ((Int) × (Int))) → (List (ByteArray)) → Option R) (x0 : Int) (x1 : Int) (x2 : List ((Int) × (Int))) (x3 : List (ByteArray)) : Option R :=
  br (decide (x1 < x0))
  (br (inB x1 (List.length x2))
   (c2 (List.getD x2 (Int.toNat x1) ((0 : Int) , (0 : Int))).1 (List.getD x2 (Int.toNat x1) ((0 : Int) , (0 : Int))).2
    (fun b366 => br (!b366)
     (k0 x1 (5 : Int) x0 x2 x3)
     (c1 (List.getD x2 (Int.toNat x1) ((0 : Int) , (0 : Int))).1 (List.getD x2 (Int.toNat x1) ((0 : Int) , (0 : Int))).2
      (fun l367 => w2
       (fun i368 i369 i370 i371 l372 l373 i374 i375 => k0 i368 i369 i370 l372 l373)
       (fun i376 i377 l378 l379 i380 i381 => br (!(decide (i380 = (22 : Int))))
        (br (decide (i380 = (23 : Int)))
         (br (decide (i376 ≤ i381))
          (k0 i377 (6 : Int) i376 l378 l379)
          (br (!(decide (i380 = (22 : Int))))
           (br (!(decide (i380 = (26 : Int))))
            (br (decide (i377 = (IntKind.wrap .i64 (i376 - (1 : Int)))))
             (k0 i377 (8 : Int) i376 l378 l379)
             (nx i376 (IntKind.wrap .i64 (i377 + (1 : Int))) l378 l379))
            (nx i376 (IntKind.wrap .i64 (i377 + (1 : Int))) l378 l379))
           (nx i376 (IntKind.wrap .i64 (i377 + (1 : Int))) l378 l379)))
         (br (!(decide (i380 = (22 : Int))))
          (br (!(decide (i380 = (26 : Int))))
           (br (decide (i377 = (IntKind.wrap .i64 (i376 - (1 : Int)))))
            (k0 i377 (8 : Int) i376 l378 l379)
            (nx i376 (IntKind.wrap .i64 (i377 + (1 : Int))) l378 l379))
           (nx i376 (IntKind.wrap .i64 (i377 + (1 : Int))) l378 l379))
          (nx i376 (IntKind.wrap .i64 (i377 + (1 : Int))) l378 l379)))
        (br (decide (i376 ≤ i381))
         (k0 i377 (6 : Int) i376 l378 l379)
         (br (!(decide (i380 = (22 : Int))))
          (br (!(decide (i380 = (26 : Int))))
           (br (decide (i377 = (IntKind.wrap .i64 (i376 - (1 : Int)))))
            (k0 i377 (8 : Int) i376 l378 l379)
            (nx i376 (IntKind.wrap .i64 (i377 + (1 : Int))) l378 l379))
           (nx i376 (IntKind.wrap .i64 (i377 + (1 : Int))) l378 l379))
          (nx i376 (IntKind.wrap .i64 (i377 + (1 : Int))) l378 l379))))
       N x0 x1 (0 : Int) x2 x3 (List.getD x2 (Int.toNat x1) ((0 : Int) , (0 : Int))).1 (List.getD x2 (Int.toNat x1) ((0 : Int) , (0 : Int))).2 l367))))
   (none))
  (k1 x0 x2 x3)
noncomputable def ref12_Check_l2_T0 (N : Nat) (c0 : ref12_Row_Ty) (c1 : ref12_names_Ty) (c2 : ref12_InstMay_Ty) (c3 : ref12_NameMay_Ty) (w3 : ref12_Check_l3_Ty) (w4 : ref12_Check_l4_Ty) (w5 : ref12_Check_l5_Ty) (w6 : ref12_Check_l6_Ty) (w7 : ref12_Check_l7_Ty) (w8 : ref12_Check_l8_Ty) {R : Type} (nx : (Int) → (Int) → (Int) → (List ((Int) × (Int))) → (List (ByteArray)) → (Int) → (Int) → (List (Int)) → Option R) (k0 : (Int) → (Int) → (Int) → (Int) → (List ((Int) × (Int))) → (List (ByteArray)) → (Int) → (Int) → Option R) (k1 : (Int) → (Int) → (List ((Int) × (Int))) → (List (ByteArray)) → (Int) → (Int) → Option R) (x0 : Int) (x1 : Int) (x2 : Int) (x3 : List ((Int) × (Int))) (x4 : List (ByteArray)) (x5 : Int) (x6 : Int) (x7 : List (Int)) : Option R :=
  br (decide (x2 < (Nat.cast (List.length x7) : Int)))
  (br (inB x2 (List.length x7))
   (br (decide ((Int.toNat x2) < (List.length x7)))
    (br (decide ((Nat.cast (List.length x4) : Int) ≤ (List.getD x7 (Int.toNat x2) (0 : Int))))
     (k0 x1 (10 : Int) x0 x1 x3 x4 x5 x6)
     (nx x0 x1 (IntKind.wrap .i64 (x2 + (1 : Int))) x3 x4 x5 x6 x7))
    (none))
   (none))
  (k1 x0 x1 x3 x4 x5 x6)
noncomputable def ref12_Check_l3_T0 (N : Nat) (c0 : ref12_Row_Ty) (c1 : ref12_names_Ty) (c2 : ref12_InstMay_Ty) (c3 : ref12_NameMay_Ty) (w4 : ref12_Check_l4_Ty) (w5 : ref12_Check_l5_Ty) (w6 : ref12_Check_l6_Ty) (w7 : ref12_Check_l7_Ty) (w8 : ref12_Check_l8_Ty) {R : Type} (nx : (Int) → (Int) → (List ((Int) × (Int))) → (List (ByteArray)) → (List (Int)) → (List (List (Bool))) → Option R) (k0 : (Int) → (List ((Int) × (Int))) → (List (ByteArray)) → (List (Int)) → (List (List (Bool))) → Option R) (x0 : Int) (x1 : Int) (x2 : List ((Int) × (Int))) (x3 : List (ByteArray)) (x4 : List (Int)) (x5 : List (List (Bool))) : Option R :=
  br (decide (x1 < x0))
  (br (inB x1 (List.length x4))
   (br (decide ((Int.toNat x1) < (List.length x4)))
    (nx x0 (IntKind.wrap .i64 (x1 + (1 : Int))) x2 x3 (List.set x4 (Int.toNat x1) (Nat.cast (List.length x5) : Int)) (x5 ++ ((List.replicate (17 : Nat) false) :: ([] : List (List (Bool))))))
    (none))
   (none))
  (k0 x0 x2 x3 x4 x5)
noncomputable def ref12_Check_l4_T0 (N : Nat) (c0 : ref12_Row_Ty) (c1 : ref12_names_Ty) (c2 : ref12_InstMay_Ty) (c3 : ref12_NameMay_Ty) (w5 : ref12_Check_l5_Ty) (w6 : ref12_Check_l6_Ty) (w7 : ref12_Check_l7_Ty) (w8 : ref12_Check_l8_Ty) {R : Type} (nx : (Int) → (Bool) → (List ((Int) × (Int))) → (List (ByteArray)) → (List (Int)) → (List (List (Bool))) → Option R) (k0 : (Int) → (List ((Int) × (Int))) → (List (ByteArray)) → (List (Int)) → (List (List (Bool))) → Option R) (x0 : Int) (x1 : Bool) (x2 : List ((Int) × (Int))) (x3 : List (ByteArray)) (x4 : List (Int)) (x5 : List (List (Bool))) : Option R :=
  br x1
  (w5
   (fun i407 b408 l409 l410 l411 l412 => nx i407 b408 l409 l410 l411 l412)
   N x0 false (0 : Int) x2 x3 x4 x5)
  (k0 x0 x2 x3 x4 x5)
noncomputable def ref12_Check_l5_T0 (N : Nat) (c0 : ref12_Row_Ty) (c1 : ref12_names_Ty) (c2 : ref12_InstMay_Ty) (c3 : ref12_NameMay_Ty) (w6 : ref12_Check_l6_Ty) (w7 : ref12_Check_l7_Ty) (w8 : ref12_Check_l8_Ty) {R : Type} (nx : (Int) → (Bool) → (Int) → (List ((Int) × (Int))) → (List (ByteArray)) → (List (Int)) → (List (List (Bool))) → Option R) (k0 : (Int) → (Bool) → (List ((Int) × (Int))) → (List (ByteArray)) → (List (Int)) → (List (List (Bool))) → Option R) (x0 : Int) (x1 : Bool) (x2 : Int) (x3 : List ((Int) × (Int))) (x4 : List (ByteArray)) (x5 : List (Int)) (x6 : List (List (Bool))) : Option R :=
  br (decide (x2 < x0))
  (w6
   (fun i400 b401 i402 l403 l404 l405 l406 => nx i400 b401 (IntKind.wrap .i64 (i402 + (1 : Int))) l403 l404 l405 l406)
   N x0 x1 x2 (0 : Int) x3 x4 x5 x6)
  (k0 x0 x1 x3 x4 x5 x6)
noncomputable def ref12_Check_l6_T0 (N : Nat) (c0 : ref12_Row_Ty) (c1 : ref12_names_Ty) (c2 : ref12_InstMay_Ty) (c3 : ref12_NameMay_Ty) (w7 : ref12_Check_l7_Ty) (w8 : ref12_Check_l8_Ty) {R : Type} (nx : (Int) → (Bool) → (Int) → (Int) → (List ((Int) × (Int))) → (List (ByteArray)) → (List (Int)) → (List (List (Bool))) → Option R) (k0 : (Int) → (Bool) → (Int) → (List ((Int) × (Int))) → (List (ByteArray)) → (List (Int)) → (List (List (Bool))) → Option R) (x0 : Int) (x1 : Bool) (x2 : Int) (x3 : Int) (x4 : List ((Int) × (Int))) (x5 : List (ByteArray)) (x6 : List (Int)) (x7 : List (List (Bool))) : Option R :=
  br (decide (x3 ≤ (16 : Int)))
  (br (inB x2 (List.length x6))
   (br (decide ((Int.toNat x2) < (List.length x6)))
    (br (inB x3 (if ((List.getD x6 (Int.toNat x2) (-1 : Int)) < (0 : Int)) then (0 : Nat) else (List.length (List.getD x7 (Int.toNat (List.getD x6 (Int.toNat x2) (-1 : Int))) ([] : List (Bool))))))
     (br (!(List.getD (List.getD x7 (Int.toNat (List.getD x6 (Int.toNat x2) (-1 : Int))) ([] : List (Bool))) (Int.toNat x3) false))
      (nx x0 x1 x2 (IntKind.wrap .i64 (x3 + (1 : Int))) x4 x5 x6 x7)
      (br (inB x2 (List.length x4))
       (c0 (List.getD x4 (Int.toNat x2) ((0 : Int) , (0 : Int))).1
        (fun s395 i396 i397 i398 b399 => br (!(decide (x3 < i396)))
         (br (decide ((16 : Int) < (IntKind.wrap .i64 ((IntKind.wrap .i64 (x3 - i396)) + i397))))
          (nx x0 x1 x2 (IntKind.wrap .i64 (x3 + (1 : Int))) x4 x5 x6 x7)
          (br (inB x2 (List.length x4))
           (br (!(decide ((List.getD x4 (Int.toNat x2) ((0 : Int) , (0 : Int))).1 = (22 : Int))))
            (br (inB x2 (List.length x4))
             (br (decide ((List.getD x4 (Int.toNat x2) ((0 : Int) , (0 : Int))).1 = (23 : Int)))
              (br (inB x2 (List.length x4))
               (br (inB (List.getD x4 (Int.toNat x2) ((0 : Int) , (0 : Int))).2 (List.length x6))
                (br (decide ((Int.toNat (List.getD x4 (Int.toNat x2) ((0 : Int) , (0 : Int))).2) < (List.length x6)))
                 (br (inB (IntKind.wrap .i64 ((IntKind.wrap .i64 (x3 - i396)) + i397)) (if ((List.getD x6 (Int.toNat (List.getD x4 (Int.toNat x2) ((0 : Int) , (0 : Int))).2) (-1 : Int)) < (0 : Int)) then (0 : Nat) else (List.length (List.getD x7 (Int.toNat (List.getD x6 (Int.toNat (List.getD x4 (Int.toNat x2) ((0 : Int) , (0 : Int))).2) (-1 : Int))) ([] : List (Bool))))))
                  (br (!(List.getD (List.getD x7 (Int.toNat (List.getD x6 (Int.toNat (List.getD x4 (Int.toNat x2) ((0 : Int) , (0 : Int))).2) (-1 : Int))) ([] : List (Bool))) (Int.toNat (IntKind.wrap .i64 ((IntKind.wrap .i64 (x3 - i396)) + i397))) false))
                   (br (inB x2 (List.length x4))
                    (br (inB (List.getD x4 (Int.toNat x2) ((0 : Int) , (0 : Int))).2 (List.length x6))
                     (br (decide ((Int.toNat (List.getD x4 (Int.toNat x2) ((0 : Int) , (0 : Int))).2) < (List.length x6)))
                      (br (inB (IntKind.wrap .i64 ((IntKind.wrap .i64 (x3 - i396)) + i397)) (if ((List.getD x6 (Int.toNat (List.getD x4 (Int.toNat x2) ((0 : Int) , (0 : Int))).2) (-1 : Int)) < (0 : Int)) then (0 : Nat) else (List.length (List.getD x7 (Int.toNat (List.getD x6 (Int.toNat (List.getD x4 (Int.toNat x2) ((0 : Int) , (0 : Int))).2) (-1 : Int))) ([] : List (Bool))))))
                       (br (inB x2 (List.length x4))
                        (br (!(decide ((List.getD x4 (Int.toNat x2) ((0 : Int) , (0 : Int))).1 = (22 : Int))))
                         (br (inB x2 (List.length x4))
                          (br (!(decide ((List.getD x4 (Int.toNat x2) ((0 : Int) , (0 : Int))).1 = (26 : Int))))
                           (br (inB (IntKind.wrap .i64 (x2 + (1 : Int))) (List.length x6))
                            (br (decide ((Int.toNat (IntKind.wrap .i64 (x2 + (1 : Int)))) < (List.length x6)))
                             (br (inB (IntKind.wrap .i64 ((IntKind.wrap .i64 (x3 - i396)) + i397)) (if ((List.getD x6 (Int.toNat (IntKind.wrap .i64 (x2 + (1 : Int)))) (-1 : Int)) < (0 : Int)) then (0 : Nat) else (List.length (List.getD (List.set x7 (Int.toNat (List.getD x6 (Int.toNat (List.getD x4 (Int.toNat x2) ((0 : Int) , (0 : Int))).2) (-1 : Int))) (List.set (List.getD x7 (Int.toNat (List.getD x6 (Int.toNat (List.getD x4 (Int.toNat x2) ((0 : Int) , (0 : Int))).2) (-1 : Int))) ([] : List (Bool))) (Int.toNat (IntKind.wrap .i64 ((IntKind.wrap .i64 (x3 - i396)) + i397))) true)) (Int.toNat (List.getD x6 (Int.toNat (IntKind.wrap .i64 (x2 + (1 : Int)))) (-1 : Int))) ([] : List (Bool))))))
                              (br (!(List.getD (List.getD (List.set x7 (Int.toNat (List.getD x6 (Int.toNat (List.getD x4 (Int.toNat x2) ((0 : Int) , (0 : Int))).2) (-1 : Int))) (List.set (List.getD x7 (Int.toNat (List.getD x6 (Int.toNat (List.getD x4 (Int.toNat x2) ((0 : Int) , (0 : Int))).2) (-1 : Int))) ([] : List (Bool))) (Int.toNat (IntKind.wrap .i64 ((IntKind.wrap .i64 (x3 - i396)) + i397))) true)) (Int.toNat (List.getD x6 (Int.toNat (IntKind.wrap .i64 (x2 + (1 : Int)))) (-1 : Int))) ([] : List (Bool))) (Int.toNat (IntKind.wrap .i64 ((IntKind.wrap .i64 (x3 - i396)) + i397))) false))
                               (br (inB (IntKind.wrap .i64 (x2 + (1 : Int))) (List.length x6))
                                (br (decide ((Int.toNat (IntKind.wrap .i64 (x2 + (1 : Int)))) < (List.length x6)))
                                 (br (inB (IntKind.wrap .i64 ((IntKind.wrap .i64 (x3 - i396)) + i397)) (if ((List.getD x6 (Int.toNat (IntKind.wrap .i64 (x2 + (1 : Int)))) (-1 : Int)) < (0 : Int)) then (0 : Nat) else (List.length (List.getD (List.set x7 (Int.toNat (List.getD x6 (Int.toNat (List.getD x4 (Int.toNat x2) ((0 : Int) , (0 : Int))).2) (-1 : Int))) (List.set (List.getD x7 (Int.toNat (List.getD x6 (Int.toNat (List.getD x4 (Int.toNat x2) ((0 : Int) , (0 : Int))).2) (-1 : Int))) ([] : List (Bool))) (Int.toNat (IntKind.wrap .i64 ((IntKind.wrap .i64 (x3 - i396)) + i397))) true)) (Int.toNat (List.getD x6 (Int.toNat (IntKind.wrap .i64 (x2 + (1 : Int)))) (-1 : Int))) ([] : List (Bool))))))
                                  (nx x0 true x2 (IntKind.wrap .i64 (x3 + (1 : Int))) x4 x5 x6 (List.set (List.set x7 (Int.toNat (List.getD x6 (Int.toNat (List.getD x4 (Int.toNat x2) ((0 : Int) , (0 : Int))).2) (-1 : Int))) (List.set (List.getD x7 (Int.toNat (List.getD x6 (Int.toNat (List.getD x4 (Int.toNat x2) ((0 : Int) , (0 : Int))).2) (-1 : Int))) ([] : List (Bool))) (Int.toNat (IntKind.wrap .i64 ((IntKind.wrap .i64 (x3 - i396)) + i397))) true)) (Int.toNat (List.getD x6 (Int.toNat (IntKind.wrap .i64 (x2 + (1 : Int)))) (-1 : Int))) (List.set (List.getD (List.set x7 (Int.toNat (List.getD x6 (Int.toNat (List.getD x4 (Int.toNat x2) ((0 : Int) , (0 : Int))).2) (-1 : Int))) (List.set (List.getD x7 (Int.toNat (List.getD x6 (Int.toNat (List.getD x4 (Int.toNat x2) ((0 : Int) , (0 : Int))).2) (-1 : Int))) ([] : List (Bool))) (Int.toNat (IntKind.wrap .i64 ((IntKind.wrap .i64 (x3 - i396)) + i397))) true)) (Int.toNat (List.getD x6 (Int.toNat (IntKind.wrap .i64 (x2 + (1 : Int)))) (-1 : Int))) ([] : List (Bool))) (Int.toNat (IntKind.wrap .i64 ((IntKind.wrap .i64 (x3 - i396)) + i397))) true)))
                                  (none))
                                 (none))
                                (none))
                               (nx x0 true x2 (IntKind.wrap .i64 (x3 + (1 : Int))) x4 x5 x6 (List.set x7 (Int.toNat (List.getD x6 (Int.toNat (List.getD x4 (Int.toNat x2) ((0 : Int) , (0 : Int))).2) (-1 : Int))) (List.set (List.getD x7 (Int.toNat (List.getD x6 (Int.toNat (List.getD x4 (Int.toNat x2) ((0 : Int) , (0 : Int))).2) (-1 : Int))) ([] : List (Bool))) (Int.toNat (IntKind.wrap .i64 ((IntKind.wrap .i64 (x3 - i396)) + i397))) true))))
                              (none))
                             (none))
                            (none))
                           (nx x0 true x2 (IntKind.wrap .i64 (x3 + (1 : Int))) x4 x5 x6 (List.set x7 (Int.toNat (List.getD x6 (Int.toNat (List.getD x4 (Int.toNat x2) ((0 : Int) , (0 : Int))).2) (-1 : Int))) (List.set (List.getD x7 (Int.toNat (List.getD x6 (Int.toNat (List.getD x4 (Int.toNat x2) ((0 : Int) , (0 : Int))).2) (-1 : Int))) ([] : List (Bool))) (Int.toNat (IntKind.wrap .i64 ((IntKind.wrap .i64 (x3 - i396)) + i397))) true))))
                          (none))
                         (nx x0 true x2 (IntKind.wrap .i64 (x3 + (1 : Int))) x4 x5 x6 (List.set x7 (Int.toNat (List.getD x6 (Int.toNat (List.getD x4 (Int.toNat x2) ((0 : Int) , (0 : Int))).2) (-1 : Int))) (List.set (List.getD x7 (Int.toNat (List.getD x6 (Int.toNat (List.getD x4 (Int.toNat x2) ((0 : Int) , (0 : Int))).2) (-1 : Int))) ([] : List (Bool))) (Int.toNat (IntKind.wrap .i64 ((IntKind.wrap .i64 (x3 - i396)) + i397))) true))))
                        (none))
                       (none))
                      (none))
                     (none))
                    (none))
                   (br (inB x2 (List.length x4))
                    (br (!(decide ((List.getD x4 (Int.toNat x2) ((0 : Int) , (0 : Int))).1 = (22 : Int))))
                     (br (inB x2 (List.length x4))
                      (br (!(decide ((List.getD x4 (Int.toNat x2) ((0 : Int) , (0 : Int))).1 = (26 : Int))))
                       (br (inB (IntKind.wrap .i64 (x2 + (1 : Int))) (List.length x6))
                        (br (decide ((Int.toNat (IntKind.wrap .i64 (x2 + (1 : Int)))) < (List.length x6)))
                         (br (inB (IntKind.wrap .i64 ((IntKind.wrap .i64 (x3 - i396)) + i397)) (if ((List.getD x6 (Int.toNat (IntKind.wrap .i64 (x2 + (1 : Int)))) (-1 : Int)) < (0 : Int)) then (0 : Nat) else (List.length (List.getD x7 (Int.toNat (List.getD x6 (Int.toNat (IntKind.wrap .i64 (x2 + (1 : Int)))) (-1 : Int))) ([] : List (Bool))))))
                          (br (!(List.getD (List.getD x7 (Int.toNat (List.getD x6 (Int.toNat (IntKind.wrap .i64 (x2 + (1 : Int)))) (-1 : Int))) ([] : List (Bool))) (Int.toNat (IntKind.wrap .i64 ((IntKind.wrap .i64 (x3 - i396)) + i397))) false))
                           (br (inB (IntKind.wrap .i64 (x2 + (1 : Int))) (List.length x6))
                            (br (decide ((Int.toNat (IntKind.wrap .i64 (x2 + (1 : Int)))) < (List.length x6)))
                             (br (inB (IntKind.wrap .i64 ((IntKind.wrap .i64 (x3 - i396)) + i397)) (if ((List.getD x6 (Int.toNat (IntKind.wrap .i64 (x2 + (1 : Int)))) (-1 : Int)) < (0 : Int)) then (0 : Nat) else (List.length (List.getD x7 (Int.toNat (List.getD x6 (Int.toNat (IntKind.wrap .i64 (x2 + (1 : Int)))) (-1 : Int))) ([] : List (Bool))))))
                              (nx x0 true x2 (IntKind.wrap .i64 (x3 + (1 : Int))) x4 x5 x6 (List.set x7 (Int.toNat (List.getD x6 (Int.toNat (IntKind.wrap .i64 (x2 + (1 : Int)))) (-1 : Int))) (List.set (List.getD x7 (Int.toNat (List.getD x6 (Int.toNat (IntKind.wrap .i64 (x2 + (1 : Int)))) (-1 : Int))) ([] : List (Bool))) (Int.toNat (IntKind.wrap .i64 ((IntKind.wrap .i64 (x3 - i396)) + i397))) true)))
                              (none))
                             (none))
                            (none))
                           (nx x0 x1 x2 (IntKind.wrap .i64 (x3 + (1 : Int))) x4 x5 x6 x7))
                          (none))
                         (none))
                        (none))
                       (nx x0 x1 x2 (IntKind.wrap .i64 (x3 + (1 : Int))) x4 x5 x6 x7))
                      (none))
                     (nx x0 x1 x2 (IntKind.wrap .i64 (x3 + (1 : Int))) x4 x5 x6 x7))
                    (none)))
                  (none))
                 (none))
                (none))
               (none))
              (br (inB x2 (List.length x4))
               (br (!(decide ((List.getD x4 (Int.toNat x2) ((0 : Int) , (0 : Int))).1 = (22 : Int))))
                (br (inB x2 (List.length x4))
                 (br (!(decide ((List.getD x4 (Int.toNat x2) ((0 : Int) , (0 : Int))).1 = (26 : Int))))
                  (br (inB (IntKind.wrap .i64 (x2 + (1 : Int))) (List.length x6))
                   (br (decide ((Int.toNat (IntKind.wrap .i64 (x2 + (1 : Int)))) < (List.length x6)))
                    (br (inB (IntKind.wrap .i64 ((IntKind.wrap .i64 (x3 - i396)) + i397)) (if ((List.getD x6 (Int.toNat (IntKind.wrap .i64 (x2 + (1 : Int)))) (-1 : Int)) < (0 : Int)) then (0 : Nat) else (List.length (List.getD x7 (Int.toNat (List.getD x6 (Int.toNat (IntKind.wrap .i64 (x2 + (1 : Int)))) (-1 : Int))) ([] : List (Bool))))))
                     (br (!(List.getD (List.getD x7 (Int.toNat (List.getD x6 (Int.toNat (IntKind.wrap .i64 (x2 + (1 : Int)))) (-1 : Int))) ([] : List (Bool))) (Int.toNat (IntKind.wrap .i64 ((IntKind.wrap .i64 (x3 - i396)) + i397))) false))
                      (br (inB (IntKind.wrap .i64 (x2 + (1 : Int))) (List.length x6))
                       (br (decide ((Int.toNat (IntKind.wrap .i64 (x2 + (1 : Int)))) < (List.length x6)))
                        (br (inB (IntKind.wrap .i64 ((IntKind.wrap .i64 (x3 - i396)) + i397)) (if ((List.getD x6 (Int.toNat (IntKind.wrap .i64 (x2 + (1 : Int)))) (-1 : Int)) < (0 : Int)) then (0 : Nat) else (List.length (List.getD x7 (Int.toNat (List.getD x6 (Int.toNat (IntKind.wrap .i64 (x2 + (1 : Int)))) (-1 : Int))) ([] : List (Bool))))))
                         (nx x0 true x2 (IntKind.wrap .i64 (x3 + (1 : Int))) x4 x5 x6 (List.set x7 (Int.toNat (List.getD x6 (Int.toNat (IntKind.wrap .i64 (x2 + (1 : Int)))) (-1 : Int))) (List.set (List.getD x7 (Int.toNat (List.getD x6 (Int.toNat (IntKind.wrap .i64 (x2 + (1 : Int)))) (-1 : Int))) ([] : List (Bool))) (Int.toNat (IntKind.wrap .i64 ((IntKind.wrap .i64 (x3 - i396)) + i397))) true)))
                         (none))
                        (none))
                       (none))
                      (nx x0 x1 x2 (IntKind.wrap .i64 (x3 + (1 : Int))) x4 x5 x6 x7))
                     (none))
                    (none))
                   (none))
                  (nx x0 x1 x2 (IntKind.wrap .i64 (x3 + (1 : Int))) x4 x5 x6 x7))
                 (none))
                (nx x0 x1 x2 (IntKind.wrap .i64 (x3 + (1 : Int))) x4 x5 x6 x7))
               (none)))
             (none))
            (br (inB x2 (List.length x4))
             (br (inB (List.getD x4 (Int.toNat x2) ((0 : Int) , (0 : Int))).2 (List.length x6))
              (br (decide ((Int.toNat (List.getD x4 (Int.toNat x2) ((0 : Int) , (0 : Int))).2) < (List.length x6)))
               (br (inB (IntKind.wrap .i64 ((IntKind.wrap .i64 (x3 - i396)) + i397)) (if ((List.getD x6 (Int.toNat (List.getD x4 (Int.toNat x2) ((0 : Int) , (0 : Int))).2) (-1 : Int)) < (0 : Int)) then (0 : Nat) else (List.length (List.getD x7 (Int.toNat (List.getD x6 (Int.toNat (List.getD x4 (Int.toNat x2) ((0 : Int) , (0 : Int))).2) (-1 : Int))) ([] : List (Bool))))))
                (br (!(List.getD (List.getD x7 (Int.toNat (List.getD x6 (Int.toNat (List.getD x4 (Int.toNat x2) ((0 : Int) , (0 : Int))).2) (-1 : Int))) ([] : List (Bool))) (Int.toNat (IntKind.wrap .i64 ((IntKind.wrap .i64 (x3 - i396)) + i397))) false))
                 (br (inB x2 (List.length x4))
                  (br (inB (List.getD x4 (Int.toNat x2) ((0 : Int) , (0 : Int))).2 (List.length x6))
                   (br (decide ((Int.toNat (List.getD x4 (Int.toNat x2) ((0 : Int) , (0 : Int))).2) < (List.length x6)))
                    (br (inB (IntKind.wrap .i64 ((IntKind.wrap .i64 (x3 - i396)) + i397)) (if ((List.getD x6 (Int.toNat (List.getD x4 (Int.toNat x2) ((0 : Int) , (0 : Int))).2) (-1 : Int)) < (0 : Int)) then (0 : Nat) else (List.length (List.getD x7 (Int.toNat (List.getD x6 (Int.toNat (List.getD x4 (Int.toNat x2) ((0 : Int) , (0 : Int))).2) (-1 : Int))) ([] : List (Bool))))))
                     (br (inB x2 (List.length x4))
                      (br (!(decide ((List.getD x4 (Int.toNat x2) ((0 : Int) , (0 : Int))).1 = (22 : Int))))
                       (br (inB x2 (List.length x4))
                        (br (!(decide ((List.getD x4 (Int.toNat x2) ((0 : Int) , (0 : Int))).1 = (26 : Int))))
                         (br (inB (IntKind.wrap .i64 (x2 + (1 : Int))) (List.length x6))
                          (br (decide ((Int.toNat (IntKind.wrap .i64 (x2 + (1 : Int)))) < (List.length x6)))
                           (br (inB (IntKind.wrap .i64 ((IntKind.wrap .i64 (x3 - i396)) + i397)) (if ((List.getD x6 (Int.toNat (IntKind.wrap .i64 (x2 + (1 : Int)))) (-1 : Int)) < (0 : Int)) then (0 : Nat) else (List.length (List.getD (List.set x7 (Int.toNat (List.getD x6 (Int.toNat (List.getD x4 (Int.toNat x2) ((0 : Int) , (0 : Int))).2) (-1 : Int))) (List.set (List.getD x7 (Int.toNat (List.getD x6 (Int.toNat (List.getD x4 (Int.toNat x2) ((0 : Int) , (0 : Int))).2) (-1 : Int))) ([] : List (Bool))) (Int.toNat (IntKind.wrap .i64 ((IntKind.wrap .i64 (x3 - i396)) + i397))) true)) (Int.toNat (List.getD x6 (Int.toNat (IntKind.wrap .i64 (x2 + (1 : Int)))) (-1 : Int))) ([] : List (Bool))))))
                            (br (!(List.getD (List.getD (List.set x7 (Int.toNat (List.getD x6 (Int.toNat (List.getD x4 (Int.toNat x2) ((0 : Int) , (0 : Int))).2) (-1 : Int))) (List.set (List.getD x7 (Int.toNat (List.getD x6 (Int.toNat (List.getD x4 (Int.toNat x2) ((0 : Int) , (0 : Int))).2) (-1 : Int))) ([] : List (Bool))) (Int.toNat (IntKind.wrap .i64 ((IntKind.wrap .i64 (x3 - i396)) + i397))) true)) (Int.toNat (List.getD x6 (Int.toNat (IntKind.wrap .i64 (x2 + (1 : Int)))) (-1 : Int))) ([] : List (Bool))) (Int.toNat (IntKind.wrap .i64 ((IntKind.wrap .i64 (x3 - i396)) + i397))) false))
                             (br (inB (IntKind.wrap .i64 (x2 + (1 : Int))) (List.length x6))
                              (br (decide ((Int.toNat (IntKind.wrap .i64 (x2 + (1 : Int)))) < (List.length x6)))
                               (br (inB (IntKind.wrap .i64 ((IntKind.wrap .i64 (x3 - i396)) + i397)) (if ((List.getD x6 (Int.toNat (IntKind.wrap .i64 (x2 + (1 : Int)))) (-1 : Int)) < (0 : Int)) then (0 : Nat) else (List.length (List.getD (List.set x7 (Int.toNat (List.getD x6 (Int.toNat (List.getD x4 (Int.toNat x2) ((0 : Int) , (0 : Int))).2) (-1 : Int))) (List.set (List.getD x7 (Int.toNat (List.getD x6 (Int.toNat (List.getD x4 (Int.toNat x2) ((0 : Int) , (0 : Int))).2) (-1 : Int))) ([] : List (Bool))) (Int.toNat (IntKind.wrap .i64 ((IntKind.wrap .i64 (x3 - i396)) + i397))) true)) (Int.toNat (List.getD x6 (Int.toNat (IntKind.wrap .i64 (x2 + (1 : Int)))) (-1 : Int))) ([] : List (Bool))))))
                                (nx x0 true x2 (IntKind.wrap .i64 (x3 + (1 : Int))) x4 x5 x6 (List.set (List.set x7 (Int.toNat (List.getD x6 (Int.toNat (List.getD x4 (Int.toNat x2) ((0 : Int) , (0 : Int))).2) (-1 : Int))) (List.set (List.getD x7 (Int.toNat (List.getD x6 (Int.toNat (List.getD x4 (Int.toNat x2) ((0 : Int) , (0 : Int))).2) (-1 : Int))) ([] : List (Bool))) (Int.toNat (IntKind.wrap .i64 ((IntKind.wrap .i64 (x3 - i396)) + i397))) true)) (Int.toNat (List.getD x6 (Int.toNat (IntKind.wrap .i64 (x2 + (1 : Int)))) (-1 : Int))) (List.set (List.getD (List.set x7 (Int.toNat (List.getD x6 (Int.toNat (List.getD x4 (Int.toNat x2) ((0 : Int) , (0 : Int))).2) (-1 : Int))) (List.set (List.getD x7 (Int.toNat (List.getD x6 (Int.toNat (List.getD x4 (Int.toNat x2) ((0 : Int) , (0 : Int))).2) (-1 : Int))) ([] : List (Bool))) (Int.toNat (IntKind.wrap .i64 ((IntKind.wrap .i64 (x3 - i396)) + i397))) true)) (Int.toNat (List.getD x6 (Int.toNat (IntKind.wrap .i64 (x2 + (1 : Int)))) (-1 : Int))) ([] : List (Bool))) (Int.toNat (IntKind.wrap .i64 ((IntKind.wrap .i64 (x3 - i396)) + i397))) true)))
                                (none))
                               (none))
                              (none))
                             (nx x0 true x2 (IntKind.wrap .i64 (x3 + (1 : Int))) x4 x5 x6 (List.set x7 (Int.toNat (List.getD x6 (Int.toNat (List.getD x4 (Int.toNat x2) ((0 : Int) , (0 : Int))).2) (-1 : Int))) (List.set (List.getD x7 (Int.toNat (List.getD x6 (Int.toNat (List.getD x4 (Int.toNat x2) ((0 : Int) , (0 : Int))).2) (-1 : Int))) ([] : List (Bool))) (Int.toNat (IntKind.wrap .i64 ((IntKind.wrap .i64 (x3 - i396)) + i397))) true))))
                            (none))
                           (none))
                          (none))
                         (nx x0 true x2 (IntKind.wrap .i64 (x3 + (1 : Int))) x4 x5 x6 (List.set x7 (Int.toNat (List.getD x6 (Int.toNat (List.getD x4 (Int.toNat x2) ((0 : Int) , (0 : Int))).2) (-1 : Int))) (List.set (List.getD x7 (Int.toNat (List.getD x6 (Int.toNat (List.getD x4 (Int.toNat x2) ((0 : Int) , (0 : Int))).2) (-1 : Int))) ([] : List (Bool))) (Int.toNat (IntKind.wrap .i64 ((IntKind.wrap .i64 (x3 - i396)) + i397))) true))))
                        (none))
                       (nx x0 true x2 (IntKind.wrap .i64 (x3 + (1 : Int))) x4 x5 x6 (List.set x7 (Int.toNat (List.getD x6 (Int.toNat (List.getD x4 (Int.toNat x2) ((0 : Int) , (0 : Int))).2) (-1 : Int))) (List.set (List.getD x7 (Int.toNat (List.getD x6 (Int.toNat (List.getD x4 (Int.toNat x2) ((0 : Int) , (0 : Int))).2) (-1 : Int))) ([] : List (Bool))) (Int.toNat (IntKind.wrap .i64 ((IntKind.wrap .i64 (x3 - i396)) + i397))) true))))
                      (none))
                     (none))
                    (none))
                   (none))
                  (none))
                 (br (inB x2 (List.length x4))
                  (br (!(decide ((List.getD x4 (Int.toNat x2) ((0 : Int) , (0 : Int))).1 = (22 : Int))))
                   (br (inB x2 (List.length x4))
                    (br (!(decide ((List.getD x4 (Int.toNat x2) ((0 : Int) , (0 : Int))).1 = (26 : Int))))
                     (br (inB (IntKind.wrap .i64 (x2 + (1 : Int))) (List.length x6))
                      (br (decide ((Int.toNat (IntKind.wrap .i64 (x2 + (1 : Int)))) < (List.length x6)))
                       (br (inB (IntKind.wrap .i64 ((IntKind.wrap .i64 (x3 - i396)) + i397)) (if ((List.getD x6 (Int.toNat (IntKind.wrap .i64 (x2 + (1 : Int)))) (-1 : Int)) < (0 : Int)) then (0 : Nat) else (List.length (List.getD x7 (Int.toNat (List.getD x6 (Int.toNat (IntKind.wrap .i64 (x2 + (1 : Int)))) (-1 : Int))) ([] : List (Bool))))))
                        (br (!(List.getD (List.getD x7 (Int.toNat (List.getD x6 (Int.toNat (IntKind.wrap .i64 (x2 + (1 : Int)))) (-1 : Int))) ([] : List (Bool))) (Int.toNat (IntKind.wrap .i64 ((IntKind.wrap .i64 (x3 - i396)) + i397))) false))
                         (br (inB (IntKind.wrap .i64 (x2 + (1 : Int))) (List.length x6))
                          (br (decide ((Int.toNat (IntKind.wrap .i64 (x2 + (1 : Int)))) < (List.length x6)))
                           (br (inB (IntKind.wrap .i64 ((IntKind.wrap .i64 (x3 - i396)) + i397)) (if ((List.getD x6 (Int.toNat (IntKind.wrap .i64 (x2 + (1 : Int)))) (-1 : Int)) < (0 : Int)) then (0 : Nat) else (List.length (List.getD x7 (Int.toNat (List.getD x6 (Int.toNat (IntKind.wrap .i64 (x2 + (1 : Int)))) (-1 : Int))) ([] : List (Bool))))))
                            (nx x0 true x2 (IntKind.wrap .i64 (x3 + (1 : Int))) x4 x5 x6 (List.set x7 (Int.toNat (List.getD x6 (Int.toNat (IntKind.wrap .i64 (x2 + (1 : Int)))) (-1 : Int))) (List.set (List.getD x7 (Int.toNat (List.getD x6 (Int.toNat (IntKind.wrap .i64 (x2 + (1 : Int)))) (-1 : Int))) ([] : List (Bool))) (Int.toNat (IntKind.wrap .i64 ((IntKind.wrap .i64 (x3 - i396)) + i397))) true)))
                            (none))
                           (none))
                          (none))
                         (nx x0 x1 x2 (IntKind.wrap .i64 (x3 + (1 : Int))) x4 x5 x6 x7))
                        (none))
                       (none))
                      (none))
                     (nx x0 x1 x2 (IntKind.wrap .i64 (x3 + (1 : Int))) x4 x5 x6 x7))
                    (none))
                   (nx x0 x1 x2 (IntKind.wrap .i64 (x3 + (1 : Int))) x4 x5 x6 x7))
                  (none)))
                (none))
               (none))
              (none))
             (none)))
           (none)))
         (nx x0 x1 x2 (IntKind.wrap .i64 (x3 + (1 : Int))) x4 x5 x6 x7)))
       (none)))
     (none))
    (none))
   (none))
  (k0 x0 x1 x2 x4 x5 x6 x7)
noncomputable def ref12_Check_l7_T0 (N : Nat) (c0 : ref12_Row_Ty) (c1 : ref12_names_Ty) (c2 : ref12_InstMay_Ty) (c3 : ref12_NameMay_Ty) (w8 : ref12_Check_l8_Ty) {R : Type} (nx : (Int) → (Int) → (List ((Int) × (Int))) → (List (ByteArray)) → (List (Int)) → (List (List (Bool))) → (List (Int)) → Option R) (k0 : (Int) → (Int) → (List (Int)) → Option R) (k1 : (List (Int)) → Option R) (x0 : Int) (x1 : Int) (x2 : List ((Int) × (Int))) (x3 : List (ByteArray)) (x4 : List (Int)) (x5 : List (List (Bool))) (x6 : List (Int)) : Option R :=
  br (decide (x1 < x0))
  (br (inB x1 (List.length x6))
   (br (decide ((Int.toNat x1) < (List.length x6)))
    (br (inB x1 (List.length x2))
     (c0 (List.getD x2 (Int.toNat x1) ((0 : Int) , (0 : Int))).1
      (fun s418 i419 i420 i421 b422 => w8
       (fun i423 i424 i425 i426 l427 l428 l429 l430 l431 => k0 i423 i424 l431)
       (fun i432 i433 l434 l435 l436 l437 l438 => nx i432 (IntKind.wrap .i64 (i433 + (1 : Int))) l434 l435 l436 l437 l438)
       N x0 x1 i419 i420 (0 : Int) x2 x3 x4 x5 (List.set x6 (Int.toNat x1) (-1 : Int))))
     (none))
    (none))
   (none))
  (k1 x6)
noncomputable def ref12_Check_l8_T0 (N : Nat) (c0 : ref12_Row_Ty) (c1 : ref12_names_Ty) (c2 : ref12_InstMay_Ty) (c3 : ref12_NameMay_Ty) {R : Type} (nx : (Int) → (Int) → (Int) → (Int) → (Int) → (List ((Int) × (Int))) → (List (ByteArray)) → (List (Int)) → (List (List (Bool))) → (List (Int)) → Option R) (k0 : (Int) → (Int) → (Int) → (Int) → (List ((Int) × (Int))) → (List (ByteArray)) → (List (Int)) → (List (List (Bool))) → (List (Int)) → Option R) (k1 : (Int) → (Int) → (List ((Int) × (Int))) → (List (ByteArray)) → (List (Int)) → (List (List (Bool))) → (List (Int)) → Option R) (x0 : Int) (x1 : Int) (x2 : Int) (x3 : Int) (x4 : Int) (x5 : List ((Int) × (Int))) (x6 : List (ByteArray)) (x7 : List (Int)) (x8 : List (List (Bool))) (x9 : List (Int)) : Option R :=
  br (decide (x4 ≤ (16 : Int)))
  (br (inB x1 (List.length x7))
   (br (decide ((Int.toNat x1) < (List.length x7)))
    (br (inB x4 (if ((List.getD x7 (Int.toNat x1) (-1 : Int)) < (0 : Int)) then (0 : Nat) else (List.length (List.getD x8 (Int.toNat (List.getD x7 (Int.toNat x1) (-1 : Int))) ([] : List (Bool))))))
     (br (!(List.getD (List.getD x8 (Int.toNat (List.getD x7 (Int.toNat x1) (-1 : Int))) ([] : List (Bool))) (Int.toNat x4) false))
      (nx x0 x1 x2 x3 (IntKind.wrap .i64 (x4 + (1 : Int))) x5 x6 x7 x8 x9)
      (br (inB x1 (List.length x9))
       (br (decide ((Int.toNat x1) < (List.length x9)))
        (br (!(decide ((0 : Int) ≤ (List.getD x9 (Int.toNat x1) (0 : Int)))))
         (br (!(decide (x4 < x2)))
          (br (decide ((16 : Int) < (IntKind.wrap .i64 ((IntKind.wrap .i64 (x4 - x2)) + x3))))
           (k0 x1 (7 : Int) x0 x1 x5 x6 x7 x8 x9)
           (br (inB x1 (List.length x9))
            (br (decide ((Int.toNat x1) < (List.length x9)))
             (nx x0 x1 x2 x3 (IntKind.wrap .i64 (x4 + (1 : Int))) x5 x6 x7 x8 (List.set x9 (Int.toNat x1) x4))
             (none))
            (none)))
          (k0 x1 (7 : Int) x0 x1 x5 x6 x7 x8 x9))
         (k0 x1 (7 : Int) x0 x1 x5 x6 x7 x8 x9))
        (none))
       (none)))
     (none))
    (none))
   (none))
  (k1 x0 x1 x5 x6 x7 x8 x9)
noncomputable def ref12_Check_l8 (N : Nat) {R : Type} (k0 : (Int) → (Int) → (Int) → (Int) → (List ((Int) × (Int))) → (List (ByteArray)) → (List (Int)) → (List (List (Bool))) → (List (Int)) → Option R) (k1 : (Int) → (Int) → (List ((Int) × (Int))) → (List (ByteArray)) → (List (Int)) → (List (List (Bool))) → (List (Int)) → Option R) : Nat → (Int) → (Int) → (Int) → (Int) → (Int) → (List ((Int) × (Int))) → (List (ByteArray)) → (List (Int)) → (List (List (Bool))) → (List (Int)) → Option R
  | 0, _, _, _, _, _, _, _, _, _, _ => none
  | n + 1, x0, x1, x2, x3, x4, x5, x6, x7, x8, x9 => ref12_Check_l8_T0 N (@ref12_Row N) (@ref12_names N) (@ref12_InstMay N) (@ref12_NameMay N) (fun x0 x1 x2 x3 x4 x5 x6 x7 x8 x9 => ref12_Check_l8 N k0 k1 n x0 x1 x2 x3 x4 x5 x6 x7 x8 x9) k0 k1 x0 x1 x2 x3 x4 x5 x6 x7 x8 x9
noncomputable def ref12_Check_l7 (N : Nat) {R : Type} (k0 : (Int) → (Int) → (List (Int)) → Option R) (k1 : (List (Int)) → Option R) : Nat → (Int) → (Int) → (List ((Int) × (Int))) → (List (ByteArray)) → (List (Int)) → (List (List (Bool))) → (List (Int)) → Option R
  | 0, _, _, _, _, _, _, _ => none
  | n + 1, x0, x1, x2, x3, x4, x5, x6 => ref12_Check_l7_T0 N (@ref12_Row N) (@ref12_names N) (@ref12_InstMay N) (@ref12_NameMay N) (@ref12_Check_l8 N) (fun x0 x1 x2 x3 x4 x5 x6 => ref12_Check_l7 N k0 k1 n x0 x1 x2 x3 x4 x5 x6) k0 k1 x0 x1 x2 x3 x4 x5 x6
noncomputable def ref12_Check_l6 (N : Nat) {R : Type} (k0 : (Int) → (Bool) → (Int) → (List ((Int) × (Int))) → (List (ByteArray)) → (List (Int)) → (List (List (Bool))) → Option R) : Nat → (Int) → (Bool) → (Int) → (Int) → (List ((Int) × (Int))) → (List (ByteArray)) → (List (Int)) → (List (List (Bool))) → Option R
  | 0, _, _, _, _, _, _, _, _ => none
  | n + 1, x0, x1, x2, x3, x4, x5, x6, x7 => ref12_Check_l6_T0 N (@ref12_Row N) (@ref12_names N) (@ref12_InstMay N) (@ref12_NameMay N) (@ref12_Check_l7 N) (@ref12_Check_l8 N) (fun x0 x1 x2 x3 x4 x5 x6 x7 => ref12_Check_l6 N k0 n x0 x1 x2 x3 x4 x5 x6 x7) k0 x0 x1 x2 x3 x4 x5 x6 x7
noncomputable def ref12_Check_l5 (N : Nat) {R : Type} (k0 : (Int) → (Bool) → (List ((Int) × (Int))) → (List (ByteArray)) → (List (Int)) → (List (List (Bool))) → Option R) : Nat → (Int) → (Bool) → (Int) → (List ((Int) × (Int))) → (List (ByteArray)) → (List (Int)) → (List (List (Bool))) → Option R
  | 0, _, _, _, _, _, _, _ => none
  | n + 1, x0, x1, x2, x3, x4, x5, x6 => ref12_Check_l5_T0 N (@ref12_Row N) (@ref12_names N) (@ref12_InstMay N) (@ref12_NameMay N) (@ref12_Check_l6 N) (@ref12_Check_l7 N) (@ref12_Check_l8 N) (fun x0 x1 x2 x3 x4 x5 x6 => ref12_Check_l5 N k0 n x0 x1 x2 x3 x4 x5 x6) k0 x0 x1 x2 x3 x4 x5 x6
noncomputable def ref12_Check_l4 (N : Nat) {R : Type} (k0 : (Int) → (List ((Int) × (Int))) → (List (ByteArray)) → (List (Int)) → (List (List (Bool))) → Option R) : Nat → (Int) → (Bool) → (List ((Int) × (Int))) → (List (ByteArray)) → (List (Int)) → (List (List (Bool))) → Option R
  | 0, _, _, _, _, _, _ => none
  | n + 1, x0, x1, x2, x3, x4, x5 => ref12_Check_l4_T0 N (@ref12_Row N) (@ref12_names N) (@ref12_InstMay N) (@ref12_NameMay N) (@ref12_Check_l5 N) (@ref12_Check_l6 N) (@ref12_Check_l7 N) (@ref12_Check_l8 N) (fun x0 x1 x2 x3 x4 x5 => ref12_Check_l4 N k0 n x0 x1 x2 x3 x4 x5) k0 x0 x1 x2 x3 x4 x5
noncomputable def ref12_Check_l3 (N : Nat) {R : Type} (k0 : (Int) → (List ((Int) × (Int))) → (List (ByteArray)) → (List (Int)) → (List (List (Bool))) → Option R) : Nat → (Int) → (Int) → (List ((Int) × (Int))) → (List (ByteArray)) → (List (Int)) → (List (List (Bool))) → Option R
  | 0, _, _, _, _, _, _ => none
  | n + 1, x0, x1, x2, x3, x4, x5 => ref12_Check_l3_T0 N (@ref12_Row N) (@ref12_names N) (@ref12_InstMay N) (@ref12_NameMay N) (@ref12_Check_l4 N) (@ref12_Check_l5 N) (@ref12_Check_l6 N) (@ref12_Check_l7 N) (@ref12_Check_l8 N) (fun x0 x1 x2 x3 x4 x5 => ref12_Check_l3 N k0 n x0 x1 x2 x3 x4 x5) k0 x0 x1 x2 x3 x4 x5
noncomputable def ref12_Check_l2 (N : Nat) {R : Type} (k0 : (Int) → (Int) → (Int) → (Int) → (List ((Int) × (Int))) → (List (ByteArray)) → (Int) → (Int) → Option R) (k1 : (Int) → (Int) → (List ((Int) × (Int))) → (List (ByteArray)) → (Int) → (Int) → Option R) : Nat → (Int) → (Int) → (Int) → (List ((Int) × (Int))) → (List (ByteArray)) → (Int) → (Int) → (List (Int)) → Option R
  | 0, _, _, _, _, _, _, _, _ => none
  | n + 1, x0, x1, x2, x3, x4, x5, x6, x7 => ref12_Check_l2_T0 N (@ref12_Row N) (@ref12_names N) (@ref12_InstMay N) (@ref12_NameMay N) (@ref12_Check_l3 N) (@ref12_Check_l4 N) (@ref12_Check_l5 N) (@ref12_Check_l6 N) (@ref12_Check_l7 N) (@ref12_Check_l8 N) (fun x0 x1 x2 x3 x4 x5 x6 x7 => ref12_Check_l2 N k0 k1 n x0 x1 x2 x3 x4 x5 x6 x7) k0 k1 x0 x1 x2 x3 x4 x5 x6 x7
noncomputable def ref12_Check_l1 (N : Nat) {R : Type} (k0 : (Int) → (Int) → (Int) → (List ((Int) × (Int))) → (List (ByteArray)) → Option R) (k1 : (Int) → (List ((Int) × (Int))) → (List (ByteArray)) → Option R) : Nat → (Int) → (Int) → (List ((Int) × (Int))) → (List (ByteArray)) → Option R
  | 0, _, _, _, _ => none
  | n + 1, x0, x1, x2, x3 => ref12_Check_l1_T0 N (@ref12_Row N) (@ref12_names N) (@ref12_InstMay N) (@ref12_NameMay N) (@ref12_Check_l2 N) (@ref12_Check_l3 N) (@ref12_Check_l4 N) (@ref12_Check_l5 N) (@ref12_Check_l6 N) (@ref12_Check_l7 N) (@ref12_Check_l8 N) (fun x0 x1 x2 x3 => ref12_Check_l1 N k0 k1 n x0 x1 x2 x3) k0 k1 x0 x1 x2 x3
noncomputable def ref12_Check_l0 (N : Nat) {R : Type} (k0 : (Int) → (Int) → (Int) → (List ((Int) × (Int))) → (List (ByteArray)) → Option R) (k1 : (Int) → (List ((Int) × (Int))) → (List (ByteArray)) → Option R) : Nat → (Int) → (Int) → (List ((Int) × (Int))) → (List (ByteArray)) → Option R
  | 0, _, _, _, _ => none
  | n + 1, x0, x1, x2, x3 => ref12_Check_l0_T0 N (@ref12_Row N) (@ref12_names N) (@ref12_InstMay N) (@ref12_NameMay N) (@ref12_Check_l1 N) (@ref12_Check_l2 N) (@ref12_Check_l3 N) (@ref12_Check_l4 N) (@ref12_Check_l5 N) (@ref12_Check_l6 N) (@ref12_Check_l7 N) (@ref12_Check_l8 N) (fun x0 x1 x2 x3 => ref12_Check_l0 N k0 k1 n x0 x1 x2 x3) k0 k1 x0 x1 x2 x3
noncomputable def ref12_Check_T (N : Nat) (c0 : ref12_Row_Ty) (c1 : ref12_names_Ty) (c2 : ref12_InstMay_Ty) (c3 : ref12_NameMay_Ty) (w0 : ref12_Check_l0_Ty) (w1 : ref12_Check_l1_Ty) (w2 : ref12_Check_l2_Ty) (w3 : ref12_Check_l3_Ty) (w4 : ref12_Check_l4_Ty) (w5 : ref12_Check_l5_Ty) (w6 : ref12_Check_l6_Ty) (w7 : ref12_Check_l7_Ty) (w8 : ref12_Check_l8_Ty) {R : Type} (x0 : List ((Int) × (Int))) (x1 : List (ByteArray)) (k0 : (Int) → (Int) → (List (Int)) → Option R) : Option R :=
  br (!(decide ((Nat.cast (List.length x0) : Int) = (0 : Int))))
  (br (!(decide ((96 : Int) < (Nat.cast (List.length x0) : Int))))
   (br (decide ((8 : Int) < (Nat.cast (List.length x1) : Int)))
    (k0 (0 : Int) (3 : Int) ([] : List (Int)))
    (w0
     (fun i358 i359 i360 l361 l362 => k0 i358 i359 ([] : List (Int)))
     (fun i363 l364 l365 => w1
      (fun i382 i383 i384 l385 l386 => k0 i382 i383 ([] : List (Int)))
      (fun i387 l388 l389 => br ((((decide ((0 : Int) ≤ i387)) && (decide (i387 ≤ i387))) && (decide ((i387 * (24 : Int)) ≤ ((2 : Int) ^ (46 : Nat))))) && true)
       (w3
        (fun i390 l391 l392 l393 l394 => br (inB (0 : Int) (List.length l393))
         (br (decide ((0 : Nat) < (List.length l393)))
          (br (inB (0 : Int) (if ((List.getD l393 (0 : Nat) (-1 : Int)) < (0 : Int)) then (0 : Nat) else (List.length (List.getD l394 (Int.toNat (List.getD l393 (0 : Nat) (-1 : Int))) ([] : List (Bool))))))
           (w4
            (fun i413 l414 l415 l416 l417 => br ((((decide ((0 : Int) ≤ i413)) && (decide (i413 ≤ i413))) && (decide ((i413 * (8 : Int)) ≤ ((2 : Int) ^ (46 : Nat))))) && true)
             (w7
              (fun i439 i440 l441 => k0 i439 i440 ([] : List (Int)))
              (fun l442 => k0 (0 : Int) (0 : Int) l442)
              N i413 (0 : Int) l414 l415 l416 l417 (List.replicate (Int.toNat i413) (0 : Int)))
             (none))
            N i390 true l391 l392 l393 (List.set l394 (Int.toNat (List.getD l393 (0 : Nat) (-1 : Int))) (List.set (List.getD l394 (Int.toNat (List.getD l393 (0 : Nat) (-1 : Int))) ([] : List (Bool))) (0 : Nat) true)))
           (none))
          (none))
         (none))
        N i387 (0 : Int) l388 l389 (List.replicate (Int.toNat i387) (-1 : Int)) ([] : List (List (Bool))))
       (none))
      N i363 (0 : Int) l364 l365)
     N (Nat.cast (List.length x0) : Int) (0 : Int) x0 x1))
   (k0 (0 : Int) (3 : Int) ([] : List (Int))))
  (k0 (0 : Int) (3 : Int) ([] : List (Int)))
noncomputable def ref12_Check (N : Nat) {R : Type} (x0 : List ((Int) × (Int))) (x1 : List (ByteArray)) (k0 : (Int) → (Int) → (List (Int)) → Option R) : Option R := ref12_Check_T N (@ref12_Row N) (@ref12_names N) (@ref12_InstMay N) (@ref12_NameMay N) (@ref12_Check_l0 N) (@ref12_Check_l1 N) (@ref12_Check_l2 N) (@ref12_Check_l3 N) (@ref12_Check_l4 N) (@ref12_Check_l5 N) (@ref12_Check_l6 N) (@ref12_Check_l7 N) (@ref12_Check_l8 N) x0 x1 k0
abbrev law11_CheckRuns_Ty : Type 1 := {R : Type} → (List ((Int) × (Int))) → (List (ByteArray)) → ((Bool) → Option R) → Option R
noncomputable def law11_CheckRuns_T (N : Nat) (c0 : law11_same_9dd3_Ty) (c1 : check_Heights_0ce7_Ty) (c2 : check_Heights_Ty) (c3 : ref12_Check_Ty) (c4 : check_Run_0ce7_Ty) (c5 : check_Run_87f1_Ty) (c6 : check_Run_Ty) (c7 : law10_Small_Ty) (c8 : law11_awake_Ty) {R : Type} (x0 : List ((Int) × (Int))) (x1 : List (ByteArray)) (k0 : (Bool) → Option R) : Option R :=
  c8
  (fun b189 => br (!b189)
   (k0 false)
   (c7 x0 x1
    (fun b193 => br (!b193)
     (k0 true)
     (c6 x0 x1
      (fun i257 i258 => c3 x0 x1
       (fun i443 i444 l445 => br (decide (i257 = i443))
        (br (decide (i258 = i444))
         (c2 x0 x1
          (fun l466 => c0 l466 l445
           (fun b467 l468 l469 => k0 b467)))
         (k0 false))
        (k0 false)))))))
noncomputable def law11_CheckRuns (N : Nat) {R : Type} (x0 : List ((Int) × (Int))) (x1 : List (ByteArray)) (k0 : (Bool) → Option R) : Option R := law11_CheckRuns_T N (@law11_same_9dd3 N) (@check_Heights_0ce7 N) (@check_Heights N) (@ref12_Check N) (@check_Run_0ce7 N) (@check_Run_87f1 N) (@check_Run N) (@law10_Small N) (@law11_awake N) x0 x1 k0
end Go.Proofs.Ytnbemmflnknddaa
