/-
  the law GhostFds of chapter 19, as a printed function: it comes to true (its end reckoned at each of 81 pairs).
-/
import Derived.Test.YtfeacgamgdpojaaD
import Derived.Test.YtfeacgamgdpojaaGx5
import Derived.KernelRfl
set_option linter.unusedVariables false
namespace Go.Proofs.Ytfeacgamgdpojaa
open Go.Gx

/-- the law's end: a, b: its numbers modulo nine (printed by a program of this work) -/
noncomputable def fdsTail (N : Nat) (a b i660 : Int) (l661 : List Int) {R : Type} (k0 : Bool → Option R) : Option R :=
  br (fits (0 : Nat) (List.length l661) l661)
       (br (fits (0 : Nat) (List.length l661) l661)
        ((@ghost_New_669c N) i660 (((bs [97]) , (false , (0 : Int))) :: ([] : List ((Sh.str.pair (Sh.bool.pair (Sh.int IntKind.i64))).T))) ((sub l661 (0 : Nat) (List.length l661)) :: ([] : List ((Sh.int IntKind.i64).isl.T)))
         (fun i662 l663 l664 => br (!(!(decide (i662 = (0 : Int)))))
          (k0 false)
          (k0 false))
         (fun i665 l666 l667 l668 i669 l670 l671 => br (!(!(decide (i665 = (0 : Int)))))
          ((@ghost_Ghost_Open_9183 N) (bs [97]) l668 i669 l670 l671
           (fun i672 l673 i674 l675 l676 => br (!(!(decide (i672 = (0 : Int)))))
            ((@ghost_Ghost_Twin_4cb0 N) (0 : Int) l673 i674 l675 l676
             (fun i692 l693 i694 l695 l696 => br (!(decide (i692 = (1 : Int))))
              (k0 false)
              ((@ghost_Ghost_Read_ab5b N) (0 : Int) (IntKind.wrap .u16 a) l693 i694 l695 l696
               (fun i697 l698 i699 l700 l701 l702 => (@ghost_Ghost_Copy_109a N) l698 i699 l700 l701
                (fun l707 i708 l709 l710 l711 i712 l713 l714 => (@ghost_Ghost_Read_ab5b N) (0 : Int) (IntKind.wrap .u16 b) l711 i712 l713 l714
                 (fun i715 l716 i717 l718 l719 l720 => (@ghost_Ghost_Read_ab5b N) (1 : Int) (1 : Int) l716 i717 l718 l719
                  (fun i721 l722 i723 l724 l725 l726 => (@ghost_Ghost_Read_ab5b N) (1 : Int) (1 : Int) l707 i708 l709 l710
                   (fun i727 l728 i729 l730 l731 l732 => br (decide ((if ((8 : Int) < (IntKind.wrap .i64 (a + b))) then (8 : Int) else (IntKind.wrap .i64 (a + b))) < (8 : Int)))
                    (br (!(!(decide ((Nat.cast (List.length l726) : Int) = (1 : Int)))))
                     (br (inB (0 : Int) (List.length l726))
                      (br (decide ((0 : Nat) < (List.length l726)))
                       (br (inB (if ((8 : Int) < (IntKind.wrap .i64 (a + b))) then (8 : Int) else (IntKind.wrap .i64 (a + b))) (List.length (sub l661 (0 : Nat) (List.length l661))))
                        (br (!(!(decide ((List.getD l726 (0 : Nat) (0 : Int)) = (List.getD (sub l661 (0 : Nat) (List.length l661)) (Int.toNat (if ((8 : Int) < (IntKind.wrap .i64 (a + b))) then (8 : Int) else (IntKind.wrap .i64 (a + b)))) (0 : Int))))))
                         (br (decide ((8 : Int) ≤ (if ((8 : Int) < (IntKind.wrap .i64 (a + b))) then (8 : Int) else (IntKind.wrap .i64 (a + b)))))
                          (br (!(decide ((Nat.cast (List.length l726) : Int) = (0 : Int))))
                           (k0 false)
                           (br (decide (a < (8 : Int)))
                            (br (decide ((Nat.cast (List.length l732) : Int) = (1 : Int)))
                             (br (inB (0 : Int) (List.length l732))
                              (br (decide ((0 : Nat) < (List.length l732)))
                               (br (inB a (List.length (sub l661 (0 : Nat) (List.length l661))))
                                (br (!(decide ((List.getD l732 (0 : Nat) (0 : Int)) = (List.getD (sub l661 (0 : Nat) (List.length l661)) (Int.toNat a) (0 : Int)))))
                                 (br (decide ((8 : Int) ≤ a))
                                  (k0 (decide ((Nat.cast (List.length l732) : Int) = (0 : Int))))
                                  (k0 false))
                                 (k0 true))
                                (none))
                               (none))
                              (none))
                             (br (decide ((8 : Int) ≤ a))
                              (k0 (decide ((Nat.cast (List.length l732) : Int) = (0 : Int))))
                              (k0 false)))
                            (br (decide ((8 : Int) ≤ a))
                             (k0 (decide ((Nat.cast (List.length l732) : Int) = (0 : Int))))
                             (k0 false))))
                          (br (decide (a < (8 : Int)))
                           (br (decide ((Nat.cast (List.length l732) : Int) = (1 : Int)))
                            (br (inB (0 : Int) (List.length l732))
                             (br (decide ((0 : Nat) < (List.length l732)))
                              (br (inB a (List.length (sub l661 (0 : Nat) (List.length l661))))
                               (br (!(decide ((List.getD l732 (0 : Nat) (0 : Int)) = (List.getD (sub l661 (0 : Nat) (List.length l661)) (Int.toNat a) (0 : Int)))))
                                (br (decide ((8 : Int) ≤ a))
                                 (k0 (decide ((Nat.cast (List.length l732) : Int) = (0 : Int))))
                                 (k0 false))
                                (k0 true))
                               (none))
                              (none))
                             (none))
                            (br (decide ((8 : Int) ≤ a))
                             (k0 (decide ((Nat.cast (List.length l732) : Int) = (0 : Int))))
                             (k0 false)))
                           (br (decide ((8 : Int) ≤ a))
                            (k0 (decide ((Nat.cast (List.length l732) : Int) = (0 : Int))))
                            (k0 false))))
                         (k0 false))
                        (none))
                       (none))
                      (none))
                     (k0 false))
                    (br (decide ((8 : Int) ≤ (if ((8 : Int) < (IntKind.wrap .i64 (a + b))) then (8 : Int) else (IntKind.wrap .i64 (a + b)))))
                     (br (!(decide ((Nat.cast (List.length l726) : Int) = (0 : Int))))
                      (k0 false)
                      (br (decide (a < (8 : Int)))
                       (br (decide ((Nat.cast (List.length l732) : Int) = (1 : Int)))
                        (br (inB (0 : Int) (List.length l732))
                         (br (decide ((0 : Nat) < (List.length l732)))
                          (br (inB a (List.length (sub l661 (0 : Nat) (List.length l661))))
                           (br (!(decide ((List.getD l732 (0 : Nat) (0 : Int)) = (List.getD (sub l661 (0 : Nat) (List.length l661)) (Int.toNat a) (0 : Int)))))
                            (br (decide ((8 : Int) ≤ a))
                             (k0 (decide ((Nat.cast (List.length l732) : Int) = (0 : Int))))
                             (k0 false))
                            (k0 true))
                           (none))
                          (none))
                         (none))
                        (br (decide ((8 : Int) ≤ a))
                         (k0 (decide ((Nat.cast (List.length l732) : Int) = (0 : Int))))
                         (k0 false)))
                       (br (decide ((8 : Int) ≤ a))
                        (k0 (decide ((Nat.cast (List.length l732) : Int) = (0 : Int))))
                        (k0 false))))
                     (br (decide (a < (8 : Int)))
                      (br (decide ((Nat.cast (List.length l732) : Int) = (1 : Int)))
                       (br (inB (0 : Int) (List.length l732))
                        (br (decide ((0 : Nat) < (List.length l732)))
                         (br (inB a (List.length (sub l661 (0 : Nat) (List.length l661))))
                          (br (!(decide ((List.getD l732 (0 : Nat) (0 : Int)) = (List.getD (sub l661 (0 : Nat) (List.length l661)) (Int.toNat a) (0 : Int)))))
                           (br (decide ((8 : Int) ≤ a))
                            (k0 (decide ((Nat.cast (List.length l732) : Int) = (0 : Int))))
                            (k0 false))
                           (k0 true))
                          (none))
                         (none))
                        (none))
                       (br (decide ((8 : Int) ≤ a))
                        (k0 (decide ((Nat.cast (List.length l732) : Int) = (0 : Int))))
                        (k0 false)))
                      (br (decide ((8 : Int) ≤ a))
                       (k0 (decide ((Nat.cast (List.length l732) : Int) = (0 : Int))))
                       (k0 false))))))))))))
            (k0 false)))
          (k0 false))
         (fun i733 l734 l735 l736 i737 i738 l739 l740 l741 => br (!(!(decide (i733 = (0 : Int)))))
          ((@ghost_Ghost_Open_e876 N) (bs [97]) l736 i737 i738 l739 l740 l741
           (fun i742 l743 i744 i745 l746 l747 l748 => br (!(!(decide (i742 = (0 : Int)))))
            ((@ghost_Ghost_Twin_7504 N) (0 : Int) l743 i744 i745 l746 l747 l748
             (fun i770 l771 i772 i773 l774 l775 l776 => br (!(decide (i770 = (1 : Int))))
              (k0 false)
              ((@ghost_Ghost_Read_5658 N) (0 : Int) (IntKind.wrap .u16 a) l771 i772 i773 l774 l775 l776
               (fun i777 l778 i779 i780 l781 l782 l783 l784 => (@ghost_Ghost_Copy_f1e4 N) l778 i779 i780 l781 l782 l783
                (fun l793 i794 i795 l796 l797 l798 l799 i800 i801 l802 l803 l804 => (@ghost_Ghost_Read_5658 N) (0 : Int) (IntKind.wrap .u16 b) l799 i800 i801 l802 l803 l804
                 (fun i805 l806 i807 i808 l809 l810 l811 l812 => (@ghost_Ghost_Read_5658 N) (1 : Int) (1 : Int) l806 i807 i808 l809 l810 l811
                  (fun i813 l814 i815 i816 l817 l818 l819 l820 => (@ghost_Ghost_Read_5658 N) (1 : Int) (1 : Int) l793 i794 i795 l796 l797 l798
                   (fun i821 l822 i823 i824 l825 l826 l827 l828 => br (decide ((if ((8 : Int) < (IntKind.wrap .i64 (a + b))) then (8 : Int) else (IntKind.wrap .i64 (a + b))) < (8 : Int)))
                    (br (!(!(decide ((Nat.cast (List.length l820) : Int) = (1 : Int)))))
                     (br (inB (0 : Int) (List.length l820))
                      (br (decide ((0 : Nat) < (List.length l820)))
                       (br (inB (if ((8 : Int) < (IntKind.wrap .i64 (a + b))) then (8 : Int) else (IntKind.wrap .i64 (a + b))) (List.length (sub l661 (0 : Nat) (List.length l661))))
                        (br (!(!(decide ((List.getD l820 (0 : Nat) (0 : Int)) = (List.getD (sub l661 (0 : Nat) (List.length l661)) (Int.toNat (if ((8 : Int) < (IntKind.wrap .i64 (a + b))) then (8 : Int) else (IntKind.wrap .i64 (a + b)))) (0 : Int))))))
                         (br (decide ((8 : Int) ≤ (if ((8 : Int) < (IntKind.wrap .i64 (a + b))) then (8 : Int) else (IntKind.wrap .i64 (a + b)))))
                          (br (!(decide ((Nat.cast (List.length l820) : Int) = (0 : Int))))
                           (k0 false)
                           (br (decide (a < (8 : Int)))
                            (br (decide ((Nat.cast (List.length l828) : Int) = (1 : Int)))
                             (br (inB (0 : Int) (List.length l828))
                              (br (decide ((0 : Nat) < (List.length l828)))
                               (br (inB a (List.length (sub l661 (0 : Nat) (List.length l661))))
                                (br (!(decide ((List.getD l828 (0 : Nat) (0 : Int)) = (List.getD (sub l661 (0 : Nat) (List.length l661)) (Int.toNat a) (0 : Int)))))
                                 (br (decide ((8 : Int) ≤ a))
                                  (k0 (decide ((Nat.cast (List.length l828) : Int) = (0 : Int))))
                                  (k0 false))
                                 (k0 true))
                                (none))
                               (none))
                              (none))
                             (br (decide ((8 : Int) ≤ a))
                              (k0 (decide ((Nat.cast (List.length l828) : Int) = (0 : Int))))
                              (k0 false)))
                            (br (decide ((8 : Int) ≤ a))
                             (k0 (decide ((Nat.cast (List.length l828) : Int) = (0 : Int))))
                             (k0 false))))
                          (br (decide (a < (8 : Int)))
                           (br (decide ((Nat.cast (List.length l828) : Int) = (1 : Int)))
                            (br (inB (0 : Int) (List.length l828))
                             (br (decide ((0 : Nat) < (List.length l828)))
                              (br (inB a (List.length (sub l661 (0 : Nat) (List.length l661))))
                               (br (!(decide ((List.getD l828 (0 : Nat) (0 : Int)) = (List.getD (sub l661 (0 : Nat) (List.length l661)) (Int.toNat a) (0 : Int)))))
                                (br (decide ((8 : Int) ≤ a))
                                 (k0 (decide ((Nat.cast (List.length l828) : Int) = (0 : Int))))
                                 (k0 false))
                                (k0 true))
                               (none))
                              (none))
                             (none))
                            (br (decide ((8 : Int) ≤ a))
                             (k0 (decide ((Nat.cast (List.length l828) : Int) = (0 : Int))))
                             (k0 false)))
                           (br (decide ((8 : Int) ≤ a))
                            (k0 (decide ((Nat.cast (List.length l828) : Int) = (0 : Int))))
                            (k0 false))))
                         (k0 false))
                        (none))
                       (none))
                      (none))
                     (k0 false))
                    (br (decide ((8 : Int) ≤ (if ((8 : Int) < (IntKind.wrap .i64 (a + b))) then (8 : Int) else (IntKind.wrap .i64 (a + b)))))
                     (br (!(decide ((Nat.cast (List.length l820) : Int) = (0 : Int))))
                      (k0 false)
                      (br (decide (a < (8 : Int)))
                       (br (decide ((Nat.cast (List.length l828) : Int) = (1 : Int)))
                        (br (inB (0 : Int) (List.length l828))
                         (br (decide ((0 : Nat) < (List.length l828)))
                          (br (inB a (List.length (sub l661 (0 : Nat) (List.length l661))))
                           (br (!(decide ((List.getD l828 (0 : Nat) (0 : Int)) = (List.getD (sub l661 (0 : Nat) (List.length l661)) (Int.toNat a) (0 : Int)))))
                            (br (decide ((8 : Int) ≤ a))
                             (k0 (decide ((Nat.cast (List.length l828) : Int) = (0 : Int))))
                             (k0 false))
                            (k0 true))
                           (none))
                          (none))
                         (none))
                        (br (decide ((8 : Int) ≤ a))
                         (k0 (decide ((Nat.cast (List.length l828) : Int) = (0 : Int))))
                         (k0 false)))
                       (br (decide ((8 : Int) ≤ a))
                        (k0 (decide ((Nat.cast (List.length l828) : Int) = (0 : Int))))
                        (k0 false))))
                     (br (decide (a < (8 : Int)))
                      (br (decide ((Nat.cast (List.length l828) : Int) = (1 : Int)))
                       (br (inB (0 : Int) (List.length l828))
                        (br (decide ((0 : Nat) < (List.length l828)))
                         (br (inB a (List.length (sub l661 (0 : Nat) (List.length l661))))
                          (br (!(decide ((List.getD l828 (0 : Nat) (0 : Int)) = (List.getD (sub l661 (0 : Nat) (List.length l661)) (Int.toNat a) (0 : Int)))))
                           (br (decide ((8 : Int) ≤ a))
                            (k0 (decide ((Nat.cast (List.length l828) : Int) = (0 : Int))))
                            (k0 false))
                           (k0 true))
                          (none))
                         (none))
                        (none))
                       (br (decide ((8 : Int) ≤ a))
                        (k0 (decide ((Nat.cast (List.length l828) : Int) = (0 : Int))))
                        (k0 false)))
                      (br (decide ((8 : Int) ≤ a))
                       (k0 (decide ((Nat.cast (List.length l828) : Int) = (0 : Int))))
                       (k0 false))))))))))))
            (k0 false)))
          (k0 false)))
        (none))
       (none)

/-- the law's beginning -/
noncomputable def fdsHead (N : Nat) (x0 x1 : Int) {R : Type} (k0 : Bool → Option R) (kk : Int → Int → Int → List Int → Option R) : Option R :=
  (@law19_awake N)
  (fun b644 => br (!b644)
   (k0 false)
   ((@term_New N)
    (fun l645 l646 l647 => (@term_Arena_Const_2c81 N) (8 : Int) (0 : Int) l645 l646 l647
     (fun i648 i649 l650 l651 l652 => law19_GhostFds_l0 N
      kk
      N x0 x1 i648 (0 : Int) l652 l650 l651 ([] : List ((Sh.int IntKind.i64).T))))))


theorem fds_parts {R : Type} (N : Nat) (n k : Int) (k0 : Bool → Option R) : law19_GhostFds N n k k0 = fdsHead N n k k0 (fun n k z r => fdsTail N (Int.tmod (IntKind.wrap .i64 n) 9) (Int.tmod (IntKind.wrap .i64 k) 9) z r k0) := rfl

set_option maxRecDepth 1000000 in
theorem fds_first {R : Type} (n k : Int) (k0 : Bool → Option R) (kk : Int → Int → Int → List Int → Option R) : fdsHead 3000 n k k0 kk = kk n k (1 : Int) ([2, 3, 4, 5, 6, 7, 8, 9] : List Int) := by kernel_rfl

theorem fds_head {R : Type} (n k : Int) (k0 : Bool → Option R) : law19_GhostFds 3000 n k k0 = fdsTail 3000 (Int.tmod (IntKind.wrap .i64 n) 9) (Int.tmod (IntKind.wrap .i64 k) 9) (1 : Int) ([2, 3, 4, 5, 6, 7, 8, 9] : List Int) k0 :=
  (fds_parts 3000 n k k0).trans (fds_first n k k0 _)

set_option maxRecDepth 1000000 in
theorem fds_0_0 {R : Type} (k0 : Bool → Option R) : fdsTail 3000 0 0 (1 : Int) ([2, 3, 4, 5, 6, 7, 8, 9] : List Int) k0 = k0 true := by kernel_rfl
set_option maxRecDepth 1000000 in
theorem fds_0_1 {R : Type} (k0 : Bool → Option R) : fdsTail 3000 0 1 (1 : Int) ([2, 3, 4, 5, 6, 7, 8, 9] : List Int) k0 = k0 true := by kernel_rfl
set_option maxRecDepth 1000000 in
theorem fds_0_2 {R : Type} (k0 : Bool → Option R) : fdsTail 3000 0 2 (1 : Int) ([2, 3, 4, 5, 6, 7, 8, 9] : List Int) k0 = k0 true := by kernel_rfl
set_option maxRecDepth 1000000 in
theorem fds_0_3 {R : Type} (k0 : Bool → Option R) : fdsTail 3000 0 3 (1 : Int) ([2, 3, 4, 5, 6, 7, 8, 9] : List Int) k0 = k0 true := by kernel_rfl
set_option maxRecDepth 1000000 in
theorem fds_0_4 {R : Type} (k0 : Bool → Option R) : fdsTail 3000 0 4 (1 : Int) ([2, 3, 4, 5, 6, 7, 8, 9] : List Int) k0 = k0 true := by kernel_rfl
set_option maxRecDepth 1000000 in
theorem fds_0_5 {R : Type} (k0 : Bool → Option R) : fdsTail 3000 0 5 (1 : Int) ([2, 3, 4, 5, 6, 7, 8, 9] : List Int) k0 = k0 true := by kernel_rfl
set_option maxRecDepth 1000000 in
theorem fds_0_6 {R : Type} (k0 : Bool → Option R) : fdsTail 3000 0 6 (1 : Int) ([2, 3, 4, 5, 6, 7, 8, 9] : List Int) k0 = k0 true := by kernel_rfl
set_option maxRecDepth 1000000 in
theorem fds_0_7 {R : Type} (k0 : Bool → Option R) : fdsTail 3000 0 7 (1 : Int) ([2, 3, 4, 5, 6, 7, 8, 9] : List Int) k0 = k0 true := by kernel_rfl
set_option maxRecDepth 1000000 in
theorem fds_0_8 {R : Type} (k0 : Bool → Option R) : fdsTail 3000 0 8 (1 : Int) ([2, 3, 4, 5, 6, 7, 8, 9] : List Int) k0 = k0 true := by kernel_rfl
set_option maxRecDepth 1000000 in
theorem fds_1_0 {R : Type} (k0 : Bool → Option R) : fdsTail 3000 1 0 (1 : Int) ([2, 3, 4, 5, 6, 7, 8, 9] : List Int) k0 = k0 true := by kernel_rfl
set_option maxRecDepth 1000000 in
theorem fds_1_1 {R : Type} (k0 : Bool → Option R) : fdsTail 3000 1 1 (1 : Int) ([2, 3, 4, 5, 6, 7, 8, 9] : List Int) k0 = k0 true := by kernel_rfl
set_option maxRecDepth 1000000 in
theorem fds_1_2 {R : Type} (k0 : Bool → Option R) : fdsTail 3000 1 2 (1 : Int) ([2, 3, 4, 5, 6, 7, 8, 9] : List Int) k0 = k0 true := by kernel_rfl
set_option maxRecDepth 1000000 in
theorem fds_1_3 {R : Type} (k0 : Bool → Option R) : fdsTail 3000 1 3 (1 : Int) ([2, 3, 4, 5, 6, 7, 8, 9] : List Int) k0 = k0 true := by kernel_rfl
set_option maxRecDepth 1000000 in
theorem fds_1_4 {R : Type} (k0 : Bool → Option R) : fdsTail 3000 1 4 (1 : Int) ([2, 3, 4, 5, 6, 7, 8, 9] : List Int) k0 = k0 true := by kernel_rfl
set_option maxRecDepth 1000000 in
theorem fds_1_5 {R : Type} (k0 : Bool → Option R) : fdsTail 3000 1 5 (1 : Int) ([2, 3, 4, 5, 6, 7, 8, 9] : List Int) k0 = k0 true := by kernel_rfl
set_option maxRecDepth 1000000 in
theorem fds_1_6 {R : Type} (k0 : Bool → Option R) : fdsTail 3000 1 6 (1 : Int) ([2, 3, 4, 5, 6, 7, 8, 9] : List Int) k0 = k0 true := by kernel_rfl
set_option maxRecDepth 1000000 in
theorem fds_1_7 {R : Type} (k0 : Bool → Option R) : fdsTail 3000 1 7 (1 : Int) ([2, 3, 4, 5, 6, 7, 8, 9] : List Int) k0 = k0 true := by kernel_rfl
set_option maxRecDepth 1000000 in
theorem fds_1_8 {R : Type} (k0 : Bool → Option R) : fdsTail 3000 1 8 (1 : Int) ([2, 3, 4, 5, 6, 7, 8, 9] : List Int) k0 = k0 true := by kernel_rfl
set_option maxRecDepth 1000000 in
theorem fds_2_0 {R : Type} (k0 : Bool → Option R) : fdsTail 3000 2 0 (1 : Int) ([2, 3, 4, 5, 6, 7, 8, 9] : List Int) k0 = k0 true := by kernel_rfl
set_option maxRecDepth 1000000 in
theorem fds_2_1 {R : Type} (k0 : Bool → Option R) : fdsTail 3000 2 1 (1 : Int) ([2, 3, 4, 5, 6, 7, 8, 9] : List Int) k0 = k0 true := by kernel_rfl
set_option maxRecDepth 1000000 in
theorem fds_2_2 {R : Type} (k0 : Bool → Option R) : fdsTail 3000 2 2 (1 : Int) ([2, 3, 4, 5, 6, 7, 8, 9] : List Int) k0 = k0 true := by kernel_rfl
set_option maxRecDepth 1000000 in
theorem fds_2_3 {R : Type} (k0 : Bool → Option R) : fdsTail 3000 2 3 (1 : Int) ([2, 3, 4, 5, 6, 7, 8, 9] : List Int) k0 = k0 true := by kernel_rfl
set_option maxRecDepth 1000000 in
theorem fds_2_4 {R : Type} (k0 : Bool → Option R) : fdsTail 3000 2 4 (1 : Int) ([2, 3, 4, 5, 6, 7, 8, 9] : List Int) k0 = k0 true := by kernel_rfl
set_option maxRecDepth 1000000 in
theorem fds_2_5 {R : Type} (k0 : Bool → Option R) : fdsTail 3000 2 5 (1 : Int) ([2, 3, 4, 5, 6, 7, 8, 9] : List Int) k0 = k0 true := by kernel_rfl
set_option maxRecDepth 1000000 in
theorem fds_2_6 {R : Type} (k0 : Bool → Option R) : fdsTail 3000 2 6 (1 : Int) ([2, 3, 4, 5, 6, 7, 8, 9] : List Int) k0 = k0 true := by kernel_rfl
set_option maxRecDepth 1000000 in
theorem fds_2_7 {R : Type} (k0 : Bool → Option R) : fdsTail 3000 2 7 (1 : Int) ([2, 3, 4, 5, 6, 7, 8, 9] : List Int) k0 = k0 true := by kernel_rfl
set_option maxRecDepth 1000000 in
theorem fds_2_8 {R : Type} (k0 : Bool → Option R) : fdsTail 3000 2 8 (1 : Int) ([2, 3, 4, 5, 6, 7, 8, 9] : List Int) k0 = k0 true := by kernel_rfl
set_option maxRecDepth 1000000 in
theorem fds_3_0 {R : Type} (k0 : Bool → Option R) : fdsTail 3000 3 0 (1 : Int) ([2, 3, 4, 5, 6, 7, 8, 9] : List Int) k0 = k0 true := by kernel_rfl
set_option maxRecDepth 1000000 in
theorem fds_3_1 {R : Type} (k0 : Bool → Option R) : fdsTail 3000 3 1 (1 : Int) ([2, 3, 4, 5, 6, 7, 8, 9] : List Int) k0 = k0 true := by kernel_rfl
set_option maxRecDepth 1000000 in
theorem fds_3_2 {R : Type} (k0 : Bool → Option R) : fdsTail 3000 3 2 (1 : Int) ([2, 3, 4, 5, 6, 7, 8, 9] : List Int) k0 = k0 true := by kernel_rfl
set_option maxRecDepth 1000000 in
theorem fds_3_3 {R : Type} (k0 : Bool → Option R) : fdsTail 3000 3 3 (1 : Int) ([2, 3, 4, 5, 6, 7, 8, 9] : List Int) k0 = k0 true := by kernel_rfl
set_option maxRecDepth 1000000 in
theorem fds_3_4 {R : Type} (k0 : Bool → Option R) : fdsTail 3000 3 4 (1 : Int) ([2, 3, 4, 5, 6, 7, 8, 9] : List Int) k0 = k0 true := by kernel_rfl
set_option maxRecDepth 1000000 in
theorem fds_3_5 {R : Type} (k0 : Bool → Option R) : fdsTail 3000 3 5 (1 : Int) ([2, 3, 4, 5, 6, 7, 8, 9] : List Int) k0 = k0 true := by kernel_rfl
set_option maxRecDepth 1000000 in
theorem fds_3_6 {R : Type} (k0 : Bool → Option R) : fdsTail 3000 3 6 (1 : Int) ([2, 3, 4, 5, 6, 7, 8, 9] : List Int) k0 = k0 true := by kernel_rfl
set_option maxRecDepth 1000000 in
theorem fds_3_7 {R : Type} (k0 : Bool → Option R) : fdsTail 3000 3 7 (1 : Int) ([2, 3, 4, 5, 6, 7, 8, 9] : List Int) k0 = k0 true := by kernel_rfl
set_option maxRecDepth 1000000 in
theorem fds_3_8 {R : Type} (k0 : Bool → Option R) : fdsTail 3000 3 8 (1 : Int) ([2, 3, 4, 5, 6, 7, 8, 9] : List Int) k0 = k0 true := by kernel_rfl
set_option maxRecDepth 1000000 in
theorem fds_4_0 {R : Type} (k0 : Bool → Option R) : fdsTail 3000 4 0 (1 : Int) ([2, 3, 4, 5, 6, 7, 8, 9] : List Int) k0 = k0 true := by kernel_rfl
set_option maxRecDepth 1000000 in
theorem fds_4_1 {R : Type} (k0 : Bool → Option R) : fdsTail 3000 4 1 (1 : Int) ([2, 3, 4, 5, 6, 7, 8, 9] : List Int) k0 = k0 true := by kernel_rfl
set_option maxRecDepth 1000000 in
theorem fds_4_2 {R : Type} (k0 : Bool → Option R) : fdsTail 3000 4 2 (1 : Int) ([2, 3, 4, 5, 6, 7, 8, 9] : List Int) k0 = k0 true := by kernel_rfl
set_option maxRecDepth 1000000 in
theorem fds_4_3 {R : Type} (k0 : Bool → Option R) : fdsTail 3000 4 3 (1 : Int) ([2, 3, 4, 5, 6, 7, 8, 9] : List Int) k0 = k0 true := by kernel_rfl
set_option maxRecDepth 1000000 in
theorem fds_4_4 {R : Type} (k0 : Bool → Option R) : fdsTail 3000 4 4 (1 : Int) ([2, 3, 4, 5, 6, 7, 8, 9] : List Int) k0 = k0 true := by kernel_rfl
set_option maxRecDepth 1000000 in
theorem fds_4_5 {R : Type} (k0 : Bool → Option R) : fdsTail 3000 4 5 (1 : Int) ([2, 3, 4, 5, 6, 7, 8, 9] : List Int) k0 = k0 true := by kernel_rfl
set_option maxRecDepth 1000000 in
theorem fds_4_6 {R : Type} (k0 : Bool → Option R) : fdsTail 3000 4 6 (1 : Int) ([2, 3, 4, 5, 6, 7, 8, 9] : List Int) k0 = k0 true := by kernel_rfl
set_option maxRecDepth 1000000 in
theorem fds_4_7 {R : Type} (k0 : Bool → Option R) : fdsTail 3000 4 7 (1 : Int) ([2, 3, 4, 5, 6, 7, 8, 9] : List Int) k0 = k0 true := by kernel_rfl
set_option maxRecDepth 1000000 in
theorem fds_4_8 {R : Type} (k0 : Bool → Option R) : fdsTail 3000 4 8 (1 : Int) ([2, 3, 4, 5, 6, 7, 8, 9] : List Int) k0 = k0 true := by kernel_rfl
set_option maxRecDepth 1000000 in
theorem fds_5_0 {R : Type} (k0 : Bool → Option R) : fdsTail 3000 5 0 (1 : Int) ([2, 3, 4, 5, 6, 7, 8, 9] : List Int) k0 = k0 true := by kernel_rfl
set_option maxRecDepth 1000000 in
theorem fds_5_1 {R : Type} (k0 : Bool → Option R) : fdsTail 3000 5 1 (1 : Int) ([2, 3, 4, 5, 6, 7, 8, 9] : List Int) k0 = k0 true := by kernel_rfl
set_option maxRecDepth 1000000 in
theorem fds_5_2 {R : Type} (k0 : Bool → Option R) : fdsTail 3000 5 2 (1 : Int) ([2, 3, 4, 5, 6, 7, 8, 9] : List Int) k0 = k0 true := by kernel_rfl
set_option maxRecDepth 1000000 in
theorem fds_5_3 {R : Type} (k0 : Bool → Option R) : fdsTail 3000 5 3 (1 : Int) ([2, 3, 4, 5, 6, 7, 8, 9] : List Int) k0 = k0 true := by kernel_rfl
set_option maxRecDepth 1000000 in
theorem fds_5_4 {R : Type} (k0 : Bool → Option R) : fdsTail 3000 5 4 (1 : Int) ([2, 3, 4, 5, 6, 7, 8, 9] : List Int) k0 = k0 true := by kernel_rfl
set_option maxRecDepth 1000000 in
theorem fds_5_5 {R : Type} (k0 : Bool → Option R) : fdsTail 3000 5 5 (1 : Int) ([2, 3, 4, 5, 6, 7, 8, 9] : List Int) k0 = k0 true := by kernel_rfl
set_option maxRecDepth 1000000 in
theorem fds_5_6 {R : Type} (k0 : Bool → Option R) : fdsTail 3000 5 6 (1 : Int) ([2, 3, 4, 5, 6, 7, 8, 9] : List Int) k0 = k0 true := by kernel_rfl
set_option maxRecDepth 1000000 in
theorem fds_5_7 {R : Type} (k0 : Bool → Option R) : fdsTail 3000 5 7 (1 : Int) ([2, 3, 4, 5, 6, 7, 8, 9] : List Int) k0 = k0 true := by kernel_rfl
set_option maxRecDepth 1000000 in
theorem fds_5_8 {R : Type} (k0 : Bool → Option R) : fdsTail 3000 5 8 (1 : Int) ([2, 3, 4, 5, 6, 7, 8, 9] : List Int) k0 = k0 true := by kernel_rfl
set_option maxRecDepth 1000000 in
theorem fds_6_0 {R : Type} (k0 : Bool → Option R) : fdsTail 3000 6 0 (1 : Int) ([2, 3, 4, 5, 6, 7, 8, 9] : List Int) k0 = k0 true := by kernel_rfl
set_option maxRecDepth 1000000 in
theorem fds_6_1 {R : Type} (k0 : Bool → Option R) : fdsTail 3000 6 1 (1 : Int) ([2, 3, 4, 5, 6, 7, 8, 9] : List Int) k0 = k0 true := by kernel_rfl
set_option maxRecDepth 1000000 in
theorem fds_6_2 {R : Type} (k0 : Bool → Option R) : fdsTail 3000 6 2 (1 : Int) ([2, 3, 4, 5, 6, 7, 8, 9] : List Int) k0 = k0 true := by kernel_rfl
set_option maxRecDepth 1000000 in
theorem fds_6_3 {R : Type} (k0 : Bool → Option R) : fdsTail 3000 6 3 (1 : Int) ([2, 3, 4, 5, 6, 7, 8, 9] : List Int) k0 = k0 true := by kernel_rfl
set_option maxRecDepth 1000000 in
theorem fds_6_4 {R : Type} (k0 : Bool → Option R) : fdsTail 3000 6 4 (1 : Int) ([2, 3, 4, 5, 6, 7, 8, 9] : List Int) k0 = k0 true := by kernel_rfl
set_option maxRecDepth 1000000 in
theorem fds_6_5 {R : Type} (k0 : Bool → Option R) : fdsTail 3000 6 5 (1 : Int) ([2, 3, 4, 5, 6, 7, 8, 9] : List Int) k0 = k0 true := by kernel_rfl
set_option maxRecDepth 1000000 in
theorem fds_6_6 {R : Type} (k0 : Bool → Option R) : fdsTail 3000 6 6 (1 : Int) ([2, 3, 4, 5, 6, 7, 8, 9] : List Int) k0 = k0 true := by kernel_rfl
set_option maxRecDepth 1000000 in
theorem fds_6_7 {R : Type} (k0 : Bool → Option R) : fdsTail 3000 6 7 (1 : Int) ([2, 3, 4, 5, 6, 7, 8, 9] : List Int) k0 = k0 true := by kernel_rfl
set_option maxRecDepth 1000000 in
theorem fds_6_8 {R : Type} (k0 : Bool → Option R) : fdsTail 3000 6 8 (1 : Int) ([2, 3, 4, 5, 6, 7, 8, 9] : List Int) k0 = k0 true := by kernel_rfl
set_option maxRecDepth 1000000 in
theorem fds_7_0 {R : Type} (k0 : Bool → Option R) : fdsTail 3000 7 0 (1 : Int) ([2, 3, 4, 5, 6, 7, 8, 9] : List Int) k0 = k0 true := by kernel_rfl
set_option maxRecDepth 1000000 in
theorem fds_7_1 {R : Type} (k0 : Bool → Option R) : fdsTail 3000 7 1 (1 : Int) ([2, 3, 4, 5, 6, 7, 8, 9] : List Int) k0 = k0 true := by kernel_rfl
set_option maxRecDepth 1000000 in
theorem fds_7_2 {R : Type} (k0 : Bool → Option R) : fdsTail 3000 7 2 (1 : Int) ([2, 3, 4, 5, 6, 7, 8, 9] : List Int) k0 = k0 true := by kernel_rfl
set_option maxRecDepth 1000000 in
theorem fds_7_3 {R : Type} (k0 : Bool → Option R) : fdsTail 3000 7 3 (1 : Int) ([2, 3, 4, 5, 6, 7, 8, 9] : List Int) k0 = k0 true := by kernel_rfl
set_option maxRecDepth 1000000 in
theorem fds_7_4 {R : Type} (k0 : Bool → Option R) : fdsTail 3000 7 4 (1 : Int) ([2, 3, 4, 5, 6, 7, 8, 9] : List Int) k0 = k0 true := by kernel_rfl
set_option maxRecDepth 1000000 in
theorem fds_7_5 {R : Type} (k0 : Bool → Option R) : fdsTail 3000 7 5 (1 : Int) ([2, 3, 4, 5, 6, 7, 8, 9] : List Int) k0 = k0 true := by kernel_rfl
set_option maxRecDepth 1000000 in
theorem fds_7_6 {R : Type} (k0 : Bool → Option R) : fdsTail 3000 7 6 (1 : Int) ([2, 3, 4, 5, 6, 7, 8, 9] : List Int) k0 = k0 true := by kernel_rfl
set_option maxRecDepth 1000000 in
theorem fds_7_7 {R : Type} (k0 : Bool → Option R) : fdsTail 3000 7 7 (1 : Int) ([2, 3, 4, 5, 6, 7, 8, 9] : List Int) k0 = k0 true := by kernel_rfl
set_option maxRecDepth 1000000 in
theorem fds_7_8 {R : Type} (k0 : Bool → Option R) : fdsTail 3000 7 8 (1 : Int) ([2, 3, 4, 5, 6, 7, 8, 9] : List Int) k0 = k0 true := by kernel_rfl
set_option maxRecDepth 1000000 in
theorem fds_8_0 {R : Type} (k0 : Bool → Option R) : fdsTail 3000 8 0 (1 : Int) ([2, 3, 4, 5, 6, 7, 8, 9] : List Int) k0 = k0 true := by kernel_rfl
set_option maxRecDepth 1000000 in
theorem fds_8_1 {R : Type} (k0 : Bool → Option R) : fdsTail 3000 8 1 (1 : Int) ([2, 3, 4, 5, 6, 7, 8, 9] : List Int) k0 = k0 true := by kernel_rfl
set_option maxRecDepth 1000000 in
theorem fds_8_2 {R : Type} (k0 : Bool → Option R) : fdsTail 3000 8 2 (1 : Int) ([2, 3, 4, 5, 6, 7, 8, 9] : List Int) k0 = k0 true := by kernel_rfl
set_option maxRecDepth 1000000 in
theorem fds_8_3 {R : Type} (k0 : Bool → Option R) : fdsTail 3000 8 3 (1 : Int) ([2, 3, 4, 5, 6, 7, 8, 9] : List Int) k0 = k0 true := by kernel_rfl
set_option maxRecDepth 1000000 in
theorem fds_8_4 {R : Type} (k0 : Bool → Option R) : fdsTail 3000 8 4 (1 : Int) ([2, 3, 4, 5, 6, 7, 8, 9] : List Int) k0 = k0 true := by kernel_rfl
set_option maxRecDepth 1000000 in
theorem fds_8_5 {R : Type} (k0 : Bool → Option R) : fdsTail 3000 8 5 (1 : Int) ([2, 3, 4, 5, 6, 7, 8, 9] : List Int) k0 = k0 true := by kernel_rfl
set_option maxRecDepth 1000000 in
theorem fds_8_6 {R : Type} (k0 : Bool → Option R) : fdsTail 3000 8 6 (1 : Int) ([2, 3, 4, 5, 6, 7, 8, 9] : List Int) k0 = k0 true := by kernel_rfl
set_option maxRecDepth 1000000 in
theorem fds_8_7 {R : Type} (k0 : Bool → Option R) : fdsTail 3000 8 7 (1 : Int) ([2, 3, 4, 5, 6, 7, 8, 9] : List Int) k0 = k0 true := by kernel_rfl
set_option maxRecDepth 1000000 in
theorem fds_8_8 {R : Type} (k0 : Bool → Option R) : fdsTail 3000 8 8 (1 : Int) ([2, 3, 4, 5, 6, 7, 8, 9] : List Int) k0 = k0 true := by kernel_rfl

theorem nine_cases (a : Int) (h : 0 ≤ a) (h9 : a < 9) : a = 0 ∨ a = 1 ∨ a = 2 ∨ a = 3 ∨ a = 4 ∨ a = 5 ∨ a = 6 ∨ a = 7 ∨ a = 8 := by omega

theorem fds_all {R : Type} (a b : Int) (ha : 0 ≤ a) (ha9 : a < 9) (hb : 0 ≤ b) (hb9 : b < 9) (k0 : Bool → Option R) : fdsTail 3000 a b (1 : Int) ([2, 3, 4, 5, 6, 7, 8, 9] : List Int) k0 = k0 true := by
  rcases nine_cases a ha ha9 with rfl | rfl | rfl | rfl | rfl | rfl | rfl | rfl | rfl <;>
  rcases nine_cases b hb hb9 with rfl | rfl | rfl | rfl | rfl | rfl | rfl | rfl | rfl
  · exact fds_0_0 k0
  · exact fds_0_1 k0
  · exact fds_0_2 k0
  · exact fds_0_3 k0
  · exact fds_0_4 k0
  · exact fds_0_5 k0
  · exact fds_0_6 k0
  · exact fds_0_7 k0
  · exact fds_0_8 k0
  · exact fds_1_0 k0
  · exact fds_1_1 k0
  · exact fds_1_2 k0
  · exact fds_1_3 k0
  · exact fds_1_4 k0
  · exact fds_1_5 k0
  · exact fds_1_6 k0
  · exact fds_1_7 k0
  · exact fds_1_8 k0
  · exact fds_2_0 k0
  · exact fds_2_1 k0
  · exact fds_2_2 k0
  · exact fds_2_3 k0
  · exact fds_2_4 k0
  · exact fds_2_5 k0
  · exact fds_2_6 k0
  · exact fds_2_7 k0
  · exact fds_2_8 k0
  · exact fds_3_0 k0
  · exact fds_3_1 k0
  · exact fds_3_2 k0
  · exact fds_3_3 k0
  · exact fds_3_4 k0
  · exact fds_3_5 k0
  · exact fds_3_6 k0
  · exact fds_3_7 k0
  · exact fds_3_8 k0
  · exact fds_4_0 k0
  · exact fds_4_1 k0
  · exact fds_4_2 k0
  · exact fds_4_3 k0
  · exact fds_4_4 k0
  · exact fds_4_5 k0
  · exact fds_4_6 k0
  · exact fds_4_7 k0
  · exact fds_4_8 k0
  · exact fds_5_0 k0
  · exact fds_5_1 k0
  · exact fds_5_2 k0
  · exact fds_5_3 k0
  · exact fds_5_4 k0
  · exact fds_5_5 k0
  · exact fds_5_6 k0
  · exact fds_5_7 k0
  · exact fds_5_8 k0
  · exact fds_6_0 k0
  · exact fds_6_1 k0
  · exact fds_6_2 k0
  · exact fds_6_3 k0
  · exact fds_6_4 k0
  · exact fds_6_5 k0
  · exact fds_6_6 k0
  · exact fds_6_7 k0
  · exact fds_6_8 k0
  · exact fds_7_0 k0
  · exact fds_7_1 k0
  · exact fds_7_2 k0
  · exact fds_7_3 k0
  · exact fds_7_4 k0
  · exact fds_7_5 k0
  · exact fds_7_6 k0
  · exact fds_7_7 k0
  · exact fds_7_8 k0
  · exact fds_8_0 k0
  · exact fds_8_1 k0
  · exact fds_8_2 k0
  · exact fds_8_3 k0
  · exact fds_8_4 k0
  · exact fds_8_5 k0
  · exact fds_8_6 k0
  · exact fds_8_7 k0
  · exact fds_8_8 k0

theorem ghostFds_true {R : Type} (n k : Int) (hn : 0 ≤ n ∧ n ≤ 255) (hk : 0 ≤ k ∧ k ≤ 255) (k0 : Bool → Option R) : law19_GhostFds 3000 n k k0 = k0 true := by
  rw [fds_head, w64 (x := n) (by omega), w64 (x := k) (by omega)]
  exact fds_all _ _ (Int.tmod_nonneg _ hn.1) (Int.tmod_lt_of_pos _ (by omega)) (Int.tmod_nonneg _ hk.1) (Int.tmod_lt_of_pos _ (by omega)) k0

end Go.Proofs.Ytfeacgamgdpojaa
