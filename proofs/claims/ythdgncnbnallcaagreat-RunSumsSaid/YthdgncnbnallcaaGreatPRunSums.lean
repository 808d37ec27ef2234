/-
  the law RunSums of chapter 16, as a printed function: it comes to true.
-/
import Derived.Test.YthdgncnbnallcaaGreatPWideRef
import Derived.KernelRfl
set_option linter.unusedSimpArgs false
set_option linter.unusedVariables false
namespace Go.Proofs.YthdgncnbnallcaaGreat
open Go.Gx

abbrev PL := List (Int × Int)
def prg (o a b : Int) : PL := [(1, a), (1, b), (o, 0), (3, 0), (24, 0), (1, 8), (14, 0), (26, 0)]
theorem twelve {o : Int} (h : 5 ≤ o ∧ o ≤ 16) : o = 5 ∨ o = 6 ∨ o = 7 ∨ o = 8 ∨ o = 9 ∨ o = 10 ∨ o = 11 ∨ o = 12 ∨ o = 13 ∨ o = 14 ∨ o = 15 ∨ o = 16 := by omega

/-! ### it may run -/
theorem may_push {R : Type} (N : Nat) {a : Int} (ha : 0 ≤ a ∧ a ≤ 65535) (k : Bool → Option R) : inst_May N 1 a k = k true := by
  have e : inst_May N 1 a k = br (decide (0 ≤ a)) (k (decide (a < 65536))) (k false) := rfl
  rw [e, br_of (decide_eq_true (by omega)), decide_eq_true (by omega)]
section
variable {R : Type} (N : Nat) {o a b : Int} (ho : 5 ≤ o ∧ o ≤ 16) (ha : 0 ≤ a ∧ a ≤ 65535) (hb : 0 ≤ b ∧ b ≤ 65535) (k : Int → PL → List ByteArray → Option R)
theorem one0 (ha : 0 ≤ a ∧ a ≤ 65535) : check_one_ebbf N 0 (prg o a b) [] k = k 0 (prg o a b) [] := by
  have e : check_one_ebbf N 0 (prg o a b) [] k = inst_May N 1 a (fun c => br (!c) (k 5 (prg o a b) []) (k 0 (prg o a b) [])) := rfl
  rw [e, may_push N ha]; rfl
theorem one1 (hb : 0 ≤ b ∧ b ≤ 65535) : check_one_ebbf N 1 (prg o a b) [] k = k 0 (prg o a b) [] := by
  have e : check_one_ebbf N 1 (prg o a b) [] k = inst_May N 1 b (fun c => br (!c) (k 5 (prg o a b) []) (k 0 (prg o a b) [])) := rfl
  rw [e, may_push N hb]; rfl
theorem one2 (ho : 5 ≤ o ∧ o ≤ 16) : check_one_ebbf N 2 (prg o a b) [] k = k 0 (prg o a b) [] := by
  rcases twelve ho with h | h | h | h | h | h | h | h | h | h | h | h <;> subst h <;> rfl
theorem one3 : check_one_ebbf N 3 (prg o a b) [] k = k 0 (prg o a b) [] := rfl
theorem one4 : check_one_ebbf N 4 (prg o a b) [] k = k 0 (prg o a b) [] := rfl
theorem one5 : check_one_ebbf N 5 (prg o a b) [] k = k 0 (prg o a b) [] := rfl
theorem one6 : check_one_ebbf N 6 (prg o a b) [] k = k 0 (prg o a b) [] := rfl
theorem one7 : check_one_ebbf N 7 (prg o a b) [] k = k 0 (prg o a b) [] := rfl
end

theorem chk_l1 {R : Type} (N n : Nat) {o a b : Int} (ho : 5 ≤ o ∧ o ≤ 16) (ha : 0 ≤ a ∧ a ≤ 65535) (hb : 0 ≤ b ∧ b ≤ 65535) (k0 : Int → Int → PL → List ByteArray → Option R) (k1 : PL → List ByteArray → Option R) :
    check_Run_87f1_l1 N k0 k1 (n + 9) 8 0 (prg o a b) [] = k1 (prg o a b) [] := by
  have st : ∀ (i j : Int) (m : Nat), i < 8 → IntKind.wrap .i64 (i + 1) = j → (∀ k : Int → PL → List ByteArray → Option R, check_one_ebbf N i (prg o a b) [] k = k 0 (prg o a b) []) →
      check_Run_87f1_l1 N k0 k1 (m + 1) 8 i (prg o a b) [] = check_Run_87f1_l1 N k0 k1 m 8 j (prg o a b) [] := by
    intro i j m hi hj h
    simp only [check_Run_87f1_l1, check_Run_87f1_l1_T0]
    rw [br_of (decide_eq_true hi), ← hj, h, br_not (by rfl)]
  have w : ∀ i : Int, -100 ≤ i ∧ i ≤ 100 → IntKind.wrap .i64 (i + 1) = i + 1 := fun i hi => w64 (by omega)
  refine (st 0 1 (n + 8) (by decide) (w 0 (by decide)) fun k => one0 N k ha).trans ?_
  refine (st 1 2 (n + 7) (by decide) (w 1 (by decide)) fun k => one1 N k hb).trans ?_
  refine (st 2 3 (n + 6) (by decide) (w 2 (by decide)) fun k => one2 N k ho).trans ?_
  refine (st 3 4 (n + 5) (by decide) (w 3 (by decide)) fun k => one3 N k).trans ?_
  refine (st 4 5 (n + 4) (by decide) (w 4 (by decide)) fun k => one4 N k).trans ?_
  refine (st 5 6 (n + 3) (by decide) (w 5 (by decide)) fun k => one5 N k).trans ?_
  refine (st 6 7 (n + 2) (by decide) (w 6 (by decide)) fun k => one6 N k).trans ?_
  refine (st 7 8 (n + 1) (by decide) (w 7 (by decide)) fun k => one7 N k).trans ?_
  simp only [check_Run_87f1_l1, check_Run_87f1_l1_T0]
  rw [br_not (by decide)]

set_option maxRecDepth 100000 in
theorem chk_tail5 {R : Type} (n : Nat) (a b : Int) (k : Int → Int → PL → List ByteArray → Option R) : check_reach_87f1 (n + 3000) (prg 5 a b) [] (fun l84 l85 l86 => check_Run_87f1_l2 (n + 3000) k (fun l103 l104 => k 0 0 l103 l104) (n + 3000) (l84.length : Int) 0 l84 l85 l86) = k 0 0 (prg 5 a b) [] := by kernel_rfl
set_option maxRecDepth 100000 in
theorem chk_tail6 {R : Type} (n : Nat) (a b : Int) (k : Int → Int → PL → List ByteArray → Option R) : check_reach_87f1 (n + 3000) (prg 6 a b) [] (fun l84 l85 l86 => check_Run_87f1_l2 (n + 3000) k (fun l103 l104 => k 0 0 l103 l104) (n + 3000) (l84.length : Int) 0 l84 l85 l86) = k 0 0 (prg 6 a b) [] := by kernel_rfl
set_option maxRecDepth 100000 in
theorem chk_tail7 {R : Type} (n : Nat) (a b : Int) (k : Int → Int → PL → List ByteArray → Option R) : check_reach_87f1 (n + 3000) (prg 7 a b) [] (fun l84 l85 l86 => check_Run_87f1_l2 (n + 3000) k (fun l103 l104 => k 0 0 l103 l104) (n + 3000) (l84.length : Int) 0 l84 l85 l86) = k 0 0 (prg 7 a b) [] := by kernel_rfl
set_option maxRecDepth 100000 in
theorem chk_tail8 {R : Type} (n : Nat) (a b : Int) (k : Int → Int → PL → List ByteArray → Option R) : check_reach_87f1 (n + 3000) (prg 8 a b) [] (fun l84 l85 l86 => check_Run_87f1_l2 (n + 3000) k (fun l103 l104 => k 0 0 l103 l104) (n + 3000) (l84.length : Int) 0 l84 l85 l86) = k 0 0 (prg 8 a b) [] := by kernel_rfl
set_option maxRecDepth 100000 in
theorem chk_tail9 {R : Type} (n : Nat) (a b : Int) (k : Int → Int → PL → List ByteArray → Option R) : check_reach_87f1 (n + 3000) (prg 9 a b) [] (fun l84 l85 l86 => check_Run_87f1_l2 (n + 3000) k (fun l103 l104 => k 0 0 l103 l104) (n + 3000) (l84.length : Int) 0 l84 l85 l86) = k 0 0 (prg 9 a b) [] := by kernel_rfl
set_option maxRecDepth 100000 in
theorem chk_tail10 {R : Type} (n : Nat) (a b : Int) (k : Int → Int → PL → List ByteArray → Option R) : check_reach_87f1 (n + 3000) (prg 10 a b) [] (fun l84 l85 l86 => check_Run_87f1_l2 (n + 3000) k (fun l103 l104 => k 0 0 l103 l104) (n + 3000) (l84.length : Int) 0 l84 l85 l86) = k 0 0 (prg 10 a b) [] := by kernel_rfl
set_option maxRecDepth 100000 in
theorem chk_tail11 {R : Type} (n : Nat) (a b : Int) (k : Int → Int → PL → List ByteArray → Option R) : check_reach_87f1 (n + 3000) (prg 11 a b) [] (fun l84 l85 l86 => check_Run_87f1_l2 (n + 3000) k (fun l103 l104 => k 0 0 l103 l104) (n + 3000) (l84.length : Int) 0 l84 l85 l86) = k 0 0 (prg 11 a b) [] := by kernel_rfl
set_option maxRecDepth 100000 in
theorem chk_tail12 {R : Type} (n : Nat) (a b : Int) (k : Int → Int → PL → List ByteArray → Option R) : check_reach_87f1 (n + 3000) (prg 12 a b) [] (fun l84 l85 l86 => check_Run_87f1_l2 (n + 3000) k (fun l103 l104 => k 0 0 l103 l104) (n + 3000) (l84.length : Int) 0 l84 l85 l86) = k 0 0 (prg 12 a b) [] := by kernel_rfl
set_option maxRecDepth 100000 in
theorem chk_tail13 {R : Type} (n : Nat) (a b : Int) (k : Int → Int → PL → List ByteArray → Option R) : check_reach_87f1 (n + 3000) (prg 13 a b) [] (fun l84 l85 l86 => check_Run_87f1_l2 (n + 3000) k (fun l103 l104 => k 0 0 l103 l104) (n + 3000) (l84.length : Int) 0 l84 l85 l86) = k 0 0 (prg 13 a b) [] := by kernel_rfl
set_option maxRecDepth 100000 in
theorem chk_tail14 {R : Type} (n : Nat) (a b : Int) (k : Int → Int → PL → List ByteArray → Option R) : check_reach_87f1 (n + 3000) (prg 14 a b) [] (fun l84 l85 l86 => check_Run_87f1_l2 (n + 3000) k (fun l103 l104 => k 0 0 l103 l104) (n + 3000) (l84.length : Int) 0 l84 l85 l86) = k 0 0 (prg 14 a b) [] := by kernel_rfl
set_option maxRecDepth 100000 in
theorem chk_tail15 {R : Type} (n : Nat) (a b : Int) (k : Int → Int → PL → List ByteArray → Option R) : check_reach_87f1 (n + 3000) (prg 15 a b) [] (fun l84 l85 l86 => check_Run_87f1_l2 (n + 3000) k (fun l103 l104 => k 0 0 l103 l104) (n + 3000) (l84.length : Int) 0 l84 l85 l86) = k 0 0 (prg 15 a b) [] := by kernel_rfl
set_option maxRecDepth 100000 in
theorem chk_tail16 {R : Type} (n : Nat) (a b : Int) (k : Int → Int → PL → List ByteArray → Option R) : check_reach_87f1 (n + 3000) (prg 16 a b) [] (fun l84 l85 l86 => check_Run_87f1_l2 (n + 3000) k (fun l103 l104 => k 0 0 l103 l104) (n + 3000) (l84.length : Int) 0 l84 l85 l86) = k 0 0 (prg 16 a b) [] := by kernel_rfl

theorem chk_tail {R : Type} (n : Nat) {o : Int} (ho : 5 ≤ o ∧ o ≤ 16) (a b : Int) (k : Int → Int → PL → List ByteArray → Option R) : check_reach_87f1 (n + 3000) (prg o a b) [] (fun l84 l85 l86 => check_Run_87f1_l2 (n + 3000) k (fun l103 l104 => k 0 0 l103 l104) (n + 3000) (l84.length : Int) 0 l84 l85 l86) = k 0 0 (prg o a b) [] := by
  rcases twelve ho with h | h | h | h | h | h | h | h | h | h | h | h <;> subst h
  · exact chk_tail5 n a b k
  · exact chk_tail6 n a b k
  · exact chk_tail7 n a b k
  · exact chk_tail8 n a b k
  · exact chk_tail9 n a b k
  · exact chk_tail10 n a b k
  · exact chk_tail11 n a b k
  · exact chk_tail12 n a b k
  · exact chk_tail13 n a b k
  · exact chk_tail14 n a b k
  · exact chk_tail15 n a b k
  · exact chk_tail16 n a b k

theorem chk {R : Type} (n : Nat) {o a b : Int} (ho : 5 ≤ o ∧ o ≤ 16) (ha : 0 ≤ a ∧ a ≤ 65535) (hb : 0 ≤ b ∧ b ≤ 65535) (k : Int → Int → PL → List ByteArray → Option R) : check_Run_87f1 (n + 3000) (prg o a b) [] k = k 0 0 (prg o a b) [] := by
  have e : ∀ N m, N = m + 1 → check_Run_87f1 N (prg o a b) [] k = check_Run_87f1_l1 N (fun i33 i34 l35 l36 => k i33 i34 l35 l36) (fun l37 l38 => check_reach_87f1 N l37 l38 (fun l84 l85 l86 => check_Run_87f1_l2 N (fun i99 i100 l101 l102 => k i99 i100 l101 l102) (fun l103 l104 => k 0 0 l103 l104) N (l84.length : Int) 0 l84 l85 l86)) N 8 0 (prg o a b) [] := by
    intro N m h
    subst h
    rfl
  rw [e (n + 3000) (n + 2999) rfl]
  exact (chk_l1 (n + 3000) (n + 2991) ho ha hb _ _).trans (chk_tail n ho a b k)

/-! ### the machine -/
def loc0 : List Int := List.replicate 8 0
def mem0 : List Int := List.replicate 32 0
def fds0 : List Int := [0, 0, 0, 0]
abbrev EV := List (Bool × Int)
def stS (fuel : Int) (P : PL) (at' e s : Int) (stack : List Int) (ev : EV) : run_all_32d2_S0 := .v2 fuel P [] [] [] [] at' loc0 mem0 e 0 s stack fds0 0 [] [] [] 0 [] ev

theorem made_eq {R : Type} (n : Nat) {P : PL} (hP : ∀ {R : Type} (k : Int → Int → PL → List ByteArray → Option R), check_Run_87f1 (n + 3000) P [] k = k 0 0 P []) (fuel : Int) (hf : 0 ≤ fuel ∧ fuel ≤ 400) (k0 k1 k2) :
    run_made_32d2 (R := R) (n + 3000) fuel P [] [] [] [] k0 k1 k2 = k2 0 P [] [] [] [] 0 loc0 mem0 0 0 0 [] fds0 0 [] [] [] 0 [] [] := by
  unfold run_made_32d2 run_made_32d2_T
  rw [hP]
  have e : ∀ X Y : Option R, br (!(decide (fuel < (0 : Int)))) (br (decide ((400 : Int) < fuel)) X (k2 0 P [] [] [] [] 0 loc0 mem0 0 0 0 [] fds0 0 [] [] [] 0 [] [])) Y = k2 0 P [] [] [] [] 0 loc0 mem0 0 0 0 [] fds0 0 [] [] [] 0 [] [] := fun X Y => by
    rw [br_of (by rw [decide_eq_false (by omega)]; rfl), br_not (decide_eq_false (by omega))]
  exact e _ _

/-! ### its steps -/
section
variable {R : Type} (N n m : Nat) (o a b : Int) (k0 : PL → List ByteArray → List (List Int) → List (List Int) → List Bool → Int → List Int → List Int → Int → Int → Int → List Int → Int → List Bool → EV → Option R)
  (k1 : PL → List ByteArray → List (List Int) → List (List Int) → List Bool → Int → List Int → List Int → Int → Int → Int → List Int → List Int → Int → List ((ByteArray × ByteArray) × (Int × Bool)) → List (Int × List Int) → List (Int × Int) → Int → List Bool → EV → Option R)
set_option maxRecDepth 100000

theorem s01 : run_all_32d2_l0 N k0 k1 (n + 2) (stS ((m + 8 : Nat) : Int) (prg o a b) 0 0 0 [] []) = run_all_32d2_l0 N k0 k1 n (stS ((m + 8 : Nat) : Int) (prg o a b) 2 0 2 [IntKind.wrap .u16 a, IntKind.wrap .u16 b] []) := by kernel_rfl
theorem s345 (v : Int) : run_all_32d2_l0 N k0 k1 (n + 3) (stS ((m + 8 : Nat) : Int) (prg o a b) 3 0 3 [v] []) = run_all_32d2_l0 N k0 k1 n (stS ((m + 8 : Nat) : Int) (prg o a b) 6 0 6 [v, 8] [(true, band .u16 v 255)]) := by kernel_rfl
theorem s2_5 (x y : Int) : run_all_32d2_l0 N k0 k1 (n + 1) (stS ((m + 8 : Nat) : Int) (prg 5 a b) 2 0 2 [x, y] []) = br (decide (y = 0)) (wide_Do N 7 16 x y fun v _ => run_all_32d2_l0 N k0 k1 n (stS ((m + 8 : Nat) : Int) (prg 5 a b) 3 0 3 [v] [])) (wide_Do N 7 16 x y fun v _ => run_all_32d2_l0 N k0 k1 n (stS ((m + 8 : Nat) : Int) (prg 5 a b) 3 0 3 [v] [])) := by kernel_rfl
theorem s2_6 (x y : Int) : run_all_32d2_l0 N k0 k1 (n + 1) (stS ((m + 8 : Nat) : Int) (prg 6 a b) 2 0 2 [x, y] []) = br (decide (y = 0)) (wide_Do N 8 16 x y fun v _ => run_all_32d2_l0 N k0 k1 n (stS ((m + 8 : Nat) : Int) (prg 6 a b) 3 0 3 [v] [])) (wide_Do N 8 16 x y fun v _ => run_all_32d2_l0 N k0 k1 n (stS ((m + 8 : Nat) : Int) (prg 6 a b) 3 0 3 [v] [])) := by kernel_rfl
theorem s2_7 (x y : Int) : run_all_32d2_l0 N k0 k1 (n + 1) (stS ((m + 8 : Nat) : Int) (prg 7 a b) 2 0 2 [x, y] []) = br (decide (y = 0)) (wide_Do N 9 16 x y fun v _ => run_all_32d2_l0 N k0 k1 n (stS ((m + 8 : Nat) : Int) (prg 7 a b) 3 0 3 [v] [])) (wide_Do N 9 16 x y fun v _ => run_all_32d2_l0 N k0 k1 n (stS ((m + 8 : Nat) : Int) (prg 7 a b) 3 0 3 [v] [])) := by kernel_rfl
theorem s2_8 (x y : Int) : run_all_32d2_l0 N k0 k1 (n + 1) (stS ((m + 8 : Nat) : Int) (prg 8 a b) 2 0 2 [x, y] []) = br (decide (y = 0)) (run_all_32d2_l0 N k0 k1 n (stS ((m + 8 : Nat) : Int) (prg 8 a b) 3 2 3 [] [])) (wide_Do N 10 16 x y fun v _ => run_all_32d2_l0 N k0 k1 n (stS ((m + 8 : Nat) : Int) (prg 8 a b) 3 0 3 [v] [])) := by kernel_rfl
theorem s2_9 (x y : Int) : run_all_32d2_l0 N k0 k1 (n + 1) (stS ((m + 8 : Nat) : Int) (prg 9 a b) 2 0 2 [x, y] []) = br (decide (y = 0)) (run_all_32d2_l0 N k0 k1 n (stS ((m + 8 : Nat) : Int) (prg 9 a b) 3 2 3 [] [])) (wide_Do N 11 16 x y fun v _ => run_all_32d2_l0 N k0 k1 n (stS ((m + 8 : Nat) : Int) (prg 9 a b) 3 0 3 [v] [])) := by kernel_rfl
theorem s2_10 (x y : Int) : run_all_32d2_l0 N k0 k1 (n + 1) (stS ((m + 8 : Nat) : Int) (prg 10 a b) 2 0 2 [x, y] []) = br (decide (y = 0)) (wide_Do N 4 16 x y fun v _ => run_all_32d2_l0 N k0 k1 n (stS ((m + 8 : Nat) : Int) (prg 10 a b) 3 0 3 [v] [])) (wide_Do N 4 16 x y fun v _ => run_all_32d2_l0 N k0 k1 n (stS ((m + 8 : Nat) : Int) (prg 10 a b) 3 0 3 [v] [])) := by kernel_rfl
theorem s2_11 (x y : Int) : run_all_32d2_l0 N k0 k1 (n + 1) (stS ((m + 8 : Nat) : Int) (prg 11 a b) 2 0 2 [x, y] []) = br (decide (y = 0)) (wide_Do N 5 16 x y fun v _ => run_all_32d2_l0 N k0 k1 n (stS ((m + 8 : Nat) : Int) (prg 11 a b) 3 0 3 [v] [])) (wide_Do N 5 16 x y fun v _ => run_all_32d2_l0 N k0 k1 n (stS ((m + 8 : Nat) : Int) (prg 11 a b) 3 0 3 [v] [])) := by kernel_rfl
theorem s2_12 (x y : Int) : run_all_32d2_l0 N k0 k1 (n + 1) (stS ((m + 8 : Nat) : Int) (prg 12 a b) 2 0 2 [x, y] []) = br (decide (y = 0)) (wide_Do N 6 16 x y fun v _ => run_all_32d2_l0 N k0 k1 n (stS ((m + 8 : Nat) : Int) (prg 12 a b) 3 0 3 [v] [])) (wide_Do N 6 16 x y fun v _ => run_all_32d2_l0 N k0 k1 n (stS ((m + 8 : Nat) : Int) (prg 12 a b) 3 0 3 [v] [])) := by kernel_rfl
theorem s2_13 (x y : Int) : run_all_32d2_l0 N k0 k1 (n + 1) (stS ((m + 8 : Nat) : Int) (prg 13 a b) 2 0 2 [x, y] []) = br (decide (y = 0)) (wide_Do N 12 16 x y fun v _ => run_all_32d2_l0 N k0 k1 n (stS ((m + 8 : Nat) : Int) (prg 13 a b) 3 0 3 [v] [])) (wide_Do N 12 16 x y fun v _ => run_all_32d2_l0 N k0 k1 n (stS ((m + 8 : Nat) : Int) (prg 13 a b) 3 0 3 [v] [])) := by kernel_rfl
theorem s2_14 (x y : Int) : run_all_32d2_l0 N k0 k1 (n + 1) (stS ((m + 8 : Nat) : Int) (prg 14 a b) 2 0 2 [x, y] []) = br (decide (y = 0)) (wide_Do N 13 16 x y fun v _ => run_all_32d2_l0 N k0 k1 n (stS ((m + 8 : Nat) : Int) (prg 14 a b) 3 0 3 [v] [])) (wide_Do N 13 16 x y fun v _ => run_all_32d2_l0 N k0 k1 n (stS ((m + 8 : Nat) : Int) (prg 14 a b) 3 0 3 [v] [])) := by kernel_rfl
theorem s2_15 (x y : Int) : run_all_32d2_l0 N k0 k1 (n + 1) (stS ((m + 8 : Nat) : Int) (prg 15 a b) 2 0 2 [x, y] []) = br (decide (y = 0)) (wide_Do N 14 16 x y fun v _ => run_all_32d2_l0 N k0 k1 n (stS ((m + 8 : Nat) : Int) (prg 15 a b) 3 0 3 [v] [])) (wide_Do N 14 16 x y fun v _ => run_all_32d2_l0 N k0 k1 n (stS ((m + 8 : Nat) : Int) (prg 15 a b) 3 0 3 [v] [])) := by kernel_rfl
theorem s2_16 (x y : Int) : run_all_32d2_l0 N k0 k1 (n + 1) (stS ((m + 8 : Nat) : Int) (prg 16 a b) 2 0 2 [x, y] []) = br (decide (y = 0)) (wide_Do N 15 16 x y fun v _ => run_all_32d2_l0 N k0 k1 n (stS ((m + 8 : Nat) : Int) (prg 16 a b) 3 0 3 [v] [])) (wide_Do N 15 16 x y fun v _ => run_all_32d2_l0 N k0 k1 n (stS ((m + 8 : Nat) : Int) (prg 16 a b) 3 0 3 [v] [])) := by kernel_rfl
theorem s6 (v : Int) (ev : EV) : run_all_32d2_l0 N k0 k1 (n + 1) (stS ((m + 8 : Nat) : Int) (prg o a b) 6 0 6 [v, 8] ev) = wide_Do N 13 16 v 8 fun u _ => run_all_32d2_l0 N k0 k1 n (stS ((m + 8 : Nat) : Int) (prg o a b) 7 0 7 [u] ev) := by kernel_rfl
theorem s7 (u : Int) (ev : EV) : run_all_32d2_l0 N k0 k1 (n + 2) (stS ((m + 8 : Nat) : Int) (prg o a b) 7 0 7 [u] ev) = k1 (prg o a b) [] [] [] [] 8 loc0 mem0 1 (band .u16 u 255) 8 [] fds0 0 [] [] [] 0 [] ev := by kernel_rfl
theorem s3d : run_all_32d2_l0 N k0 k1 (n + 1) (stS ((m + 8 : Nat) : Int) (prg o a b) 3 2 3 [] []) = k1 (prg o a b) [] [] [] [] 3 loc0 mem0 2 0 3 [] fds0 0 [] [] [] 0 [] [] := by kernel_rfl

def lgl : List Int := [7, 8, 9, 10, 11, 4, 5, 6, 12, 13, 14, 15]
def lg (o : Int) : Int := lgl.getD (o - 5).toNat 0
theorem lg_in {o : Int} (ho : 5 ≤ o ∧ o ≤ 16) : 3 ≤ lg o ∧ lg o ≤ 15 := by
  rcases twelve ho with h | h | h | h | h | h | h | h | h | h | h | h <;> subst h <;> decide
/-- a division by nought -/
def dz (o y : Int) : Prop := y = 0 ∧ (o = 8 ∨ o = 9)
instance (o y : Int) : Decidable (dz o y) := by unfold dz; infer_instance

theorem s2 (ho : 5 ≤ o ∧ o ≤ 16) (x y : Int) : run_all_32d2_l0 N k0 k1 (n + 1) (stS ((m + 8 : Nat) : Int) (prg o a b) 2 0 2 [x, y] []) =
    if dz o y then run_all_32d2_l0 N k0 k1 n (stS ((m + 8 : Nat) : Int) (prg o a b) 3 2 3 [] []) else wide_Do N (lg o) 16 x y fun v _ => run_all_32d2_l0 N k0 k1 n (stS ((m + 8 : Nat) : Int) (prg o a b) 3 0 3 [v] []) := by
  rcases twelve ho with h | h | h | h | h | h | h | h | h | h | h | h <;> subst h
  · rw [s2_5, br_dec, if_neg (c := dz 5 y) (fun h => by have := h.2; omega)]; split <;> rfl
  · rw [s2_6, br_dec, if_neg (c := dz 6 y) (fun h => by have := h.2; omega)]; split <;> rfl
  · rw [s2_7, br_dec, if_neg (c := dz 7 y) (fun h => by have := h.2; omega)]; split <;> rfl
  · rw [s2_8, br_dec]
    by_cases h : y = 0
    · rw [if_pos h, if_pos (c := dz 8 y) ⟨h, by omega⟩]
    · rw [if_neg h, if_neg (c := dz 8 y) (fun e => h e.1)]; rfl
  · rw [s2_9, br_dec]
    by_cases h : y = 0
    · rw [if_pos h, if_pos (c := dz 9 y) ⟨h, by omega⟩]
    · rw [if_neg h, if_neg (c := dz 9 y) (fun e => h e.1)]; rfl
  · rw [s2_10, br_dec, if_neg (c := dz 10 y) (fun h => by have := h.2; omega)]; split <;> rfl
  · rw [s2_11, br_dec, if_neg (c := dz 11 y) (fun h => by have := h.2; omega)]; split <;> rfl
  · rw [s2_12, br_dec, if_neg (c := dz 12 y) (fun h => by have := h.2; omega)]; split <;> rfl
  · rw [s2_13, br_dec, if_neg (c := dz 13 y) (fun h => by have := h.2; omega)]; split <;> rfl
  · rw [s2_14, br_dec, if_neg (c := dz 14 y) (fun h => by have := h.2; omega)]; split <;> rfl
  · rw [s2_15, br_dec, if_neg (c := dz 15 y) (fun h => by have := h.2; omega)]; split <;> rfl
  · rw [s2_16, br_dec, if_neg (c := dz 16 y) (fun h => by have := h.2; omega)]; split <;> rfl
end

/-- what it comes to -/
theorem sums_loop {R : Type} (N n m : Nat) {o : Int} (ho : 5 ≤ o ∧ o ≤ 16) {a b : Nat} (ha : a < 65536) (hb : b < 65536) (k0 k1) :
    run_all_32d2_l0 (R := R) N k0 k1 (n + 20) (stS ((m + 8 : Nat) : Int) (prg o (a : Int) (b : Int)) 0 0 0 [] []) =
      if dz o (b : Int) then k1 (prg o (a : Int) (b : Int)) [] [] [] [] 3 loc0 mem0 2 0 3 [] fds0 0 [] [] [] 0 [] []
      else k1 (prg o (a : Int) (b : Int)) [] [] [] [] 8 loc0 mem0 1 ((doN (lg o) 16 a b / 256 : Nat) : Int) 8 [] fds0 0 [] [] [] 0 [] [(true, band .u16 ((doN (lg o) 16 a b : Nat) : Int) 255)] := by
  have ea : a % 2 ^ 16 = a := Nat.mod_eq_of_lt ha
  have eb : b % 2 ^ 16 = b := Nat.mod_eq_of_lt hb
  have hv := doN_lt (op := lg o) (w := 16) (by omega) ha hb
  rw [s01 N (n + 18) m o _ _ k0 k1, wu16n ha, wu16n hb, s2 N (n + 17) m o _ _ k0 k1 ho]
  by_cases h : dz o (b : Int)
  · rw [if_pos h, if_pos h, s3d N (n + 16) m o _ _ k0 k1]
  · rw [if_neg h, if_neg h]
    have h1 := fun K => Do_eq (R := R) N (op := lg o) (w := 16) (a := a) (b := b) (by omega) ha hb (lg_in ho) K
    rw [ea, eb] at h1
    refine (h1 _).trans ?_
    rw [s345 N (n + 14) m o _ _ k0 k1, s6 N (n + 13) m o _ _ k0 k1]
    have h2 := fun K => Do_eq (R := R) N (op := 13) (w := 16) (a := doN (lg o) 16 a b) (b := 8) (by omega) hv (by omega) (by omega) K
    rw [Nat.mod_eq_of_lt hv, show 8 % 2 ^ 16 = 8 from rfl, show doN 13 16 (doN (lg o) 16 a b) 8 = doN (lg o) 16 a b / 256 from rfl] at h2
    refine (h2 _).trans ?_
    rw [s7 N (n + 11) m o _ _ k0 k1]
    have hq : doN (lg o) 16 a b / 256 < 256 := by omega
    have h3 : band .u16 ((doN (lg o) 16 a b / 256 : Nat) : Int) 255 = ((doN (lg o) 16 a b / 256 : Nat) : Int) := by
      have := mask_and (w := 8) (a := doN (lg o) 16 a b / 256) (by omega) (by omega)
      rw [show ((2 ^ 8 - 1 : Nat) : Int) = 255 from rfl, Nat.mod_eq_of_lt (by omega)] at this
      exact this
    rw [h3]

theorem sums_run {R : Type} (n m : Nat) (hm : m ≤ 300) {o : Int} (ho : 5 ≤ o ∧ o ≤ 16) {a b : Nat} (ha : a < 65536) (hb : b < 65536) (k : Int → Int → Int → PL → List ByteArray → EV → Option R) :
    run_Run_99d4 (n + 3000) ((m + 8 : Nat) : Int) (prg o (a : Int) (b : Int)) [] k =
      if dz o (b : Int) then k 2 0 0 (prg o (a : Int) (b : Int)) [] [] else k 1 ((doN (lg o) 16 a b / 256 : Nat) : Int) 0 (prg o (a : Int) (b : Int)) [] [(true, band .u16 ((doN (lg o) 16 a b : Nat) : Int) 255)] := by
  have hm' := fun k0 k1 k2 => made_eq (R := R) n (P := prg o (a : Int) (b : Int)) (fun {R} k => chk n ho (by omega) (by omega) k) ((m + 8 : Nat) : Int) (by omega) k0 k1 k2
  have gen : ∀ N q, N = q + 20 → (∀ k0 k1 k2, run_made_32d2 (R := R) N ((m + 8 : Nat) : Int) (prg o (a : Int) (b : Int)) [] [] [] [] k0 k1 k2 = k2 0 (prg o (a : Int) (b : Int)) [] [] [] [] 0 loc0 mem0 0 0 0 [] fds0 0 [] [] [] 0 [] []) →
      run_Run_99d4 N ((m + 8 : Nat) : Int) (prg o (a : Int) (b : Int)) [] k =
      if dz o (b : Int) then k 2 0 0 (prg o (a : Int) (b : Int)) [] [] else k 1 ((doN (lg o) 16 a b / 256 : Nat) : Int) 0 (prg o (a : Int) (b : Int)) [] [(true, band .u16 ((doN (lg o) 16 a b : Nat) : Int) 255)] := by
    intro N q hN hmade
    unfold run_Run_99d4 run_Run_99d4_T run_all_32d2 run_all_32d2_T
    rw [hmade, br_not (by rfl)]
    subst hN
    refine (sums_loop (q + 20) q m ho ha hb _ _).trans ?_
    by_cases h : dz o (b : Int)
    · rw [if_pos h, if_pos h]; rfl
    · rw [if_neg h, if_neg h]; rfl
  exact gen (n + 3000) (n + 2980) rfl hm'

set_option maxRecDepth 100000 in
theorem awake16 {R : Type} (n : Nat) (k : Bool → Option R) : law16_awake (n + 3000) k = k true := by kernel_rfl

theorem runSums_N {R : Type} (N : Nat) (hA : ∀ k : Bool → Option R, law16_awake N k = k true)
    (hR : ∀ (m : Nat), m ≤ 300 → ∀ {o : Int}, 5 ≤ o ∧ o ≤ 16 → ∀ {a b : Nat}, a < 65536 → b < 65536 → ∀ (k : Int → Int → Int → PL → List ByteArray → EV → Option R), run_Run_99d4 N ((m + 8 : Nat) : Int) (prg o (a : Int) (b : Int)) [] k =
      if dz o (b : Int) then k 2 0 0 (prg o (a : Int) (b : Int)) [] [] else k 1 ((doN (lg o) 16 a b / 256 : Nat) : Int) 0 (prg o (a : Int) (b : Int)) [] [(true, band .u16 ((doN (lg o) 16 a b : Nat) : Int) 255)])
    (x0 x1 x2 x3 : Int) (h0 : 0 ≤ x0 ∧ x0 ≤ 255) (h1 : 0 ≤ x1 ∧ x1 ≤ 65535) (h2 : 0 ≤ x2 ∧ x2 ≤ 65535) (h3 : 0 ≤ x3 ∧ x3 ≤ 255) (k : Bool → Option R) : law16_RunSums N x0 x1 x2 x3 k = k true := by
  unfold law16_RunSums law16_RunSums_T
  obtain ⟨o, ho⟩ : ∃ o, o = 5 + x0 % 12 := ⟨_, rfl⟩
  have eo : IntKind.wrap .i64 (5 + Int.tmod (IntKind.wrap .i64 x0) 12) = o := by
    rw [w64 (x := x0) (by omega), Int.tmod_eq_emod_of_nonneg h0.1, w64 (by omega), ho]
  have ho' : 5 ≤ o ∧ o ≤ 16 := by omega
  obtain ⟨a, rfl, ha⟩ : ∃ a : Nat, x1 = (a : Int) ∧ a < 65536 := ⟨x1.toNat, by omega, by omega⟩
  obtain ⟨b, rfl, hb⟩ : ∃ b : Nat, x2 = (b : Int) ∧ b < 65536 := ⟨x2.toNat, by omega, by omega⟩
  obtain ⟨m, rfl, hm⟩ : ∃ m : Nat, x3 = (m : Int) ∧ m < 256 := ⟨x3.toNat, by omega, by omega⟩
  have em : IntKind.wrap .i64 (IntKind.wrap .i64 (m : Int) + 8) = ((m + 8 : Nat) : Int) := by
    rw [w64 (x := (m : Int)) (by omega), w64 (by omega)]; rfl
  have e5 : IntKind.wrap .i64 (o - 5) = o - 5 := w64 (by omega)
  have ea : a % 2 ^ 16 = a := Nat.mod_eq_of_lt ha
  have eb : b % 2 ^ 16 = b := Nat.mod_eq_of_lt hb
  have hd := fun K => refDo_eq (R := R) N (op := lg o) (w := 16) (a := a) (b := b) (by omega) ha hb (lg_in ho') K
  rw [ea, eb] at hd
  have hd : ∀ K : Int → Int → Option R, ref1_Do N (lgl.getD (o - 5).toNat 0) 16 (a : Int) (b : Int) K = K ((doN (lg o) 16 a b : Nat) : Int) 0 := hd
  rw [hA, br_not (b := !true) rfl]
  simp only [eo, em, e5, w64 (show -9223372036854775808 ≤ (a : Int) ∧ (a : Int) ≤ 9223372036854775807 by omega), w64 (show -9223372036854775808 ≤ (b : Int) ∧ (b : Int) ≤ 9223372036854775807 by omega)]
  refine (hR m (by omega) ho' ha hb _).trans ?_
  have hv := doN_lt (op := lg o) (w := 16) (by omega) ha hb
  have hsh : shrI .u16 ((doN (lg o) 16 a b : Nat) : Int) 8 = ((doN (lg o) 16 a b / 256 : Nat) : Int) := shr16 (y := 8)
  have tail : br (inB (o - 5) 12) (br (decide ((o - 5).toNat < 12)) (ref1_Do N (lgl.getD (o - 5).toNat 0) 16 (a : Int) (b : Int) (fun i7216 i7217 => br (decide ((1 : Int) = (1 : Int)))
            (br (decide ((Nat.cast (List.length [(true, band .u16 ((doN (lg o) 16 a b : Nat) : Int) 255)]) : Int) = (1 : Int)))
             (br (inB (0 : Int) (List.length [(true, band .u16 ((doN (lg o) 16 a b : Nat) : Int) 255)]))
              (br (decide ((0 : Nat) < (List.length [(true, band .u16 ((doN (lg o) 16 a b : Nat) : Int) 255)])))
               (br ((decide ((List.getD [(true, band .u16 ((doN (lg o) 16 a b : Nat) : Int) 255)] (0 : Nat) (false , (0 : Int))).1 = true)) && (decide ((List.getD [(true, band .u16 ((doN (lg o) 16 a b : Nat) : Int) 255)] (0 : Nat) (false , (0 : Int))).2 = (band .u16 i7216 (255 : Int)))))
                (k (decide (((doN (lg o) 16 a b / 256 : Nat) : Int) = (shrI .u16 i7216 (8 : Int)))))
                (k false))
               (none))
              (none))
             (k false))
            (k false))) none) none = k true := by
    rw [br_of (inB_of (by omega)), br_of (decide_eq_true (by omega)), hd, br_of (by rfl), br_of (by rfl), br_of (by rfl), br_of (by rfl), br_of (by simp), hsh, decide_eq_true rfl]
  by_cases h : dz o (b : Int)
  · rw [if_pos h, br_not (by rfl), br_ndec, br_dec]
    rcases h.2 with e | e
    · rw [if_pos e, if_pos h.1, br_of (by rfl)]; rfl
    · rw [if_neg (by omega), br_of (decide_eq_true e), if_pos h.1, br_of (by rfl)]; rfl
  · rw [if_neg h, br_not (by rfl), br_ndec, br_dec]
    by_cases e8 : o = 8
    · rw [if_pos e8, if_neg (fun e => h ⟨e, .inl e8⟩)]
      exact tail
    · rw [if_neg e8]
      by_cases e9 : o = 9
      · rw [br_of (decide_eq_true e9), if_neg (fun e => h ⟨e, .inr e9⟩)]
        exact tail
      · rw [br_not (decide_eq_false e9)]
        exact tail

theorem runSums_true {R : Type} (n : Nat) (x0 x1 x2 x3 : Int) (h0 : 0 ≤ x0 ∧ x0 ≤ 255) (h1 : 0 ≤ x1 ∧ x1 ≤ 65535) (h2 : 0 ≤ x2 ∧ x2 ≤ 65535) (h3 : 0 ≤ x3 ∧ x3 ≤ 255) (k : Bool → Option R) : law16_RunSums (n + 3000) x0 x1 x2 x3 k = k true :=
  runSums_N (n + 3000) (fun k => awake16 n k) (fun m hm {o} ho {a b} ha hb k => sums_run n m hm ho ha hb k) x0 x1 x2 x3 h0 h1 h2 h3 k

end Go.Proofs.YthdgncnbnallcaaGreat
