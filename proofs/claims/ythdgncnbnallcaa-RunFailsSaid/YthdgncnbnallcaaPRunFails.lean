/-
  the law RunFails of chapter 16, as a printed function: it comes to true.
-/
import Derived.Test.YthdgncnbnallcaaPCheckSN
import Derived.KernelRfl
set_option linter.unusedSimpArgs false
set_option linter.unusedVariables false
set_option linter.unusedSectionVars false
namespace Go.Proofs.Ythdgncnbnallcaa
open Go.Gx

def loc0 : List Int := List.replicate 8 0
def mem0 : List Int := List.replicate 32 0
abbrev EV := List (Bool × Int)
def nmA : List ByteArray := [bs [97]]
def enA : List (ByteArray × (Bool × Int)) := [(bs [97], (false, 0))]
def trA : List ((ByteArray × ByteArray) × (Int × Bool)) := [((bs [], bs [97]), (0, false))]
def fdO : Bool → List Int
  | true => [1, 0, 0, 0]
  | false => [0, 0, 0, 0]
def opO : Bool → Nat → List (Int × Int)
  | true, s => [(0, (s : Int))]
  | false, _ => []
abbrev ST (P : List Ins) (l : List Bool) (o : Bool) (z : Nat) (fp p s : Nat) (stack : List Int) (ev : EV) : Z80_S0 :=
  .v3 100 P nmA enA [[]] [] (p : Int) loc0 mem0 0 0 (s : Int) stack (fdO o) 1 trA [(0, List.replicate z 0)] (opO o z) (fp : Int) l ev
theorem nine {z : Nat} (h : z < 9) : z = 0 ∨ z = 1 ∨ z = 2 ∨ z = 3 ∨ z = 4 ∨ z = 5 ∨ z = 6 ∨ z = 7 ∨ z = 8 := by omega
theorem mid_at {α : Type} {L pre m post : List α} (e : L = pre ++ (m ++ post)) {p j : Nat} (hp : p = pre.length + j) (h : j < m.length) (d : α) : p < L.length ∧ L.getD p d = m.getD j d := by
  subst e hp
  refine ⟨by simp; omega, ?_⟩
  rw [List.getD_eq_getElem?_getD, List.getElem?_append_right (by omega), Nat.add_sub_cancel_left, List.getElem?_append_left h, List.getD_eq_getElem?_getD]

/-- the next fate -/
theorem fate_eq {R : Type} (N : Nat) (l : List Bool) (hl : l.length ≤ 50) (j : Nat) (k : Bool → Int → List Bool → Option R) :
    Z10 N ((min j l.length : Nat) : Int) l k = k (l.getD j false) ((min (j + 1) l.length : Nat) : Int) l := by
  unfold Z10 Z10_T
  by_cases h : j < l.length
  · have e : min j l.length = j := by omega
    rw [e, show min (j + 1) l.length = j + 1 by omega]
    rw [br_not (decide_eq_false (by omega)), w64_succ (by omega), show ((j + 1 : Nat) : Int) - 1 = (j : Int) by omega, w64 (x := (j : Int)) (by omega), br_of (inB_of (by omega)), Int.toNat_natCast, br_of (decide_eq_true h)]
  · have e : min j l.length = l.length := by omega
    have g : l.getD j false = false := by simp [List.getD_eq_getElem?_getD, List.getElem?_eq_none (show l.length ≤ j by omega)]
    rw [e, show min (j + 1) l.length = l.length by omega, g]
    rw [br_of (decide_eq_true rfl)]

/-! ### a step for each instruction -/
section
variable {R : Type} (N n : Nat) {P : List Ins} (hl : P.length ≤ 96) {p s : Nat} (hp : p < P.length) (hs : s < 100) (l : List Bool) (hl5 : l.length ≤ 50) (ev : EV) (he : ev.length ≤ 90)
  (k0 : List Ins → List ByteArray → List (ByteArray × (Bool × Int)) → List (List Int) → List (List Int) → Int → List Int → List Int → Int → Int → Int → List Int → Int → List Bool → EV → Option R)
  (k1 : List Ins → List ByteArray → List (ByteArray × (Bool × Int)) → List (List Int) → List (List Int) → Int → List Int → List Int → Int → Int → Int → List Int → List Int → List (Int × List Int) → List (Int × Int) → Int → List Bool → EV → Option R)
  (k2 : List Ins → List ByteArray → List (ByteArray × (Bool × Int)) → List (List Int) → List (List Int) → Int → List Int → List Int → Int → Int → Int → List Int → List Int → Int → List ((ByteArray × ByteArray) × (Int × Bool)) → List (Int × List Int) → List (Int × Int) → Int → List Bool → EV → Option R)
include hl hp hs hl5 he

theorem do_push0 {o : Bool} {z fp : Nat} {A : Int} (hq : P.getD p (0, 0) = (1, A)) : Z80_l0 N k0 k1 k2 (n + 1) (ST P l o z fp p s [] ev) = Z80_l0 N k0 k1 k2 n (ST P l o z fp (p + 1) (s + 1) [IntKind.wrap .u16 A] ev) := by
  rw [Z80_l0, Z80_l0_T3]
  rw [br_of (by rfl), br_not (decide_eq_false (by omega))]
  unfold Z124 Z124_T
  rw [br_of (inB_of ⟨by omega, by omega⟩), br_of (decide_eq_true (by omega))]
  simp only [Int.toNat_natCast, hq, w64_succ (show p < 9223372036854775807 by omega), w64_succ (show s < 9223372036854775807 by omega)]
  kernel_rfl

theorem do_push1 {o : Bool} {z fp : Nat} {A x : Int} (hq : P.getD p (0, 0) = (1, A)) : Z80_l0 N k0 k1 k2 (n + 1) (ST P l o z fp p s [x] ev) = Z80_l0 N k0 k1 k2 n (ST P l o z fp (p + 1) (s + 1) [x, IntKind.wrap .u16 A] ev) := by
  rw [Z80_l0, Z80_l0_T3]
  rw [br_of (by rfl), br_not (decide_eq_false (by omega))]
  unfold Z124 Z124_T
  rw [br_of (inB_of ⟨by omega, by omega⟩), br_of (decide_eq_true (by omega))]
  simp only [Int.toNat_natCast, hq, w64_succ (show p < 9223372036854775807 by omega), w64_succ (show s < 9223372036854775807 by omega)]
  kernel_rfl

theorem do_push2 {o : Bool} {z fp : Nat} {A x y : Int} (hq : P.getD p (0, 0) = (1, A)) : Z80_l0 N k0 k1 k2 (n + 1) (ST P l o z fp p s [x, y] ev) = Z80_l0 N k0 k1 k2 n (ST P l o z fp (p + 1) (s + 1) [x, y, IntKind.wrap .u16 A] ev) := by
  rw [Z80_l0, Z80_l0_T3]
  rw [br_of (by rfl), br_not (decide_eq_false (by omega))]
  unfold Z124 Z124_T
  rw [br_of (inB_of ⟨by omega, by omega⟩), br_of (decide_eq_true (by omega))]
  simp only [Int.toNat_natCast, hq, w64_succ (show p < 9223372036854775807 by omega), w64_succ (show s < 9223372036854775807 by omega)]
  kernel_rfl

theorem do_pop {o : Bool} {z fp : Nat} {x : Int} (hq : P.getD p (0, 0) = (2, 0)) : Z80_l0 N k0 k1 k2 (n + 1) (ST P l o z fp p s [x] ev) = Z80_l0 N k0 k1 k2 n (ST P l o z fp (p + 1) (s + 1) [] ev) := by
  rw [Z80_l0, Z80_l0_T3]
  rw [br_of (by rfl), br_not (decide_eq_false (by omega))]
  unfold Z124 Z124_T
  rw [br_of (inB_of ⟨by omega, by omega⟩), br_of (decide_eq_true (by omega))]
  simp only [Int.toNat_natCast, hq, w64_succ (show p < 9223372036854775807 by omega), w64_succ (show s < 9223372036854775807 by omega)]
  kernel_rfl

theorem do_exit {o : Bool} {z fp : Nat} {x : Int} (hq : P.getD p (0, 0) = (26, 0)) : Z80_l0 N k0 k1 k2 (n + 1 + 1) (ST P l o z fp p s [x] ev) = k2 P nmA enA [[]] [] ((p + 1 : Nat) : Int) loc0 mem0 1 (band .u16 x 255) ((s + 1 : Nat) : Int) [] (fdO o) 1 trA [(0, List.replicate z 0)] (opO o z) (fp : Int) l ev := by
  rw [Z80_l0, Z80_l0_T3]
  rw [br_of (by rfl), br_not (decide_eq_false (by omega))]
  unfold Z124 Z124_T
  rw [br_of (inB_of ⟨by omega, by omega⟩), br_of (decide_eq_true (by omega))]
  simp only [Int.toNat_natCast, hq, w64_succ (show p < 9223372036854775807 by omega), w64_succ (show s < 9223372036854775807 by omega)]
  kernel_rfl

theorem open_fail {j : Nat} (hb : l.getD j false = true) (hq : P.getD p (0, 0) = (27, 0)) : Z80_l0 N k0 k1 k2 (n + 1) (ST P l false 0 (min j l.length) p s [] ev) = Z80_l0 N k0 k1 k2 n (ST P l false 0 (min (j + 1) l.length) (p + 1) (s + 1) [65285] (ev ++ [(false, 65285)])) := by
  rw [Z80_l0, Z80_l0_T3]
  rw [br_of (by rfl), br_not (decide_eq_false (by omega))]
  unfold Z124 Z124_T
  rw [br_of (inB_of ⟨by omega, by omega⟩), br_of (decide_eq_true (by omega))]
  simp only [Int.toNat_natCast, hq, w64_succ (show p < 9223372036854775807 by omega), w64_succ (show s < 9223372036854775807 by omega)]
  have hF : ∀ k : Bool → Option R, Z66 N 27 k = k true := fun k => by kernel_rfl
  rw [hF, br_true, fate_eq N l hl5, hb]
  have g : (((fits 0 ev.length ev) && (decide ((ev.length + 1) * 4 ≤ 70368744177664))) && true) = true := by rw [fits_of (by omega), decide_eq_true (by omega)]; rfl
  refine Eq.trans (b := br (((fits 0 ev.length ev) && (decide ((ev.length + 1) * 4 ≤ 70368744177664))) && true) (Z80_l0 N k0 k1 k2 n (ST P l false 0 (min (j + 1) l.length) (p + 1) (s + 1) [65285] (sub ev 0 ev.length ++ [(false, 65285)]))) none) (by kernel_rfl) ?_
  rw [g, sub_all]
  rfl

theorem open_ok {j : Nat} (hb : l.getD j false = false) (hq : P.getD p (0, 0) = (27, 0)) : Z80_l0 (N + 100) k0 k1 k2 (n + 1) (ST P l false 0 (min j l.length) p s [] ev) = Z80_l0 (N + 100) k0 k1 k2 n (ST P l true 0 (min (j + 1) l.length) (p + 1) (s + 1) [0] (ev ++ [(false, 0)])) := by
  rw [Z80_l0, Z80_l0_T3]
  rw [br_of (by rfl), br_not (decide_eq_false (by omega))]
  unfold Z124 Z124_T
  rw [br_of (inB_of ⟨by omega, by omega⟩), br_of (decide_eq_true (by omega))]
  simp only [Int.toNat_natCast, hq, w64_succ (show p < 9223372036854775807 by omega), w64_succ (show s < 9223372036854775807 by omega)]
  have hF : ∀ k : Bool → Option R, Z66 (N + 100) 27 k = k true := fun k => by kernel_rfl
  rw [hF, br_true, fate_eq (N + 100) l hl5, hb]
  have g : (((fits 0 ev.length ev) && (decide ((ev.length + 1) * 4 ≤ 70368744177664))) && true) = true := by rw [fits_of (by omega), decide_eq_true (by omega)]; rfl
  refine Eq.trans (b := br (((fits 0 ev.length ev) && (decide ((ev.length + 1) * 4 ≤ 70368744177664))) && true) (Z80_l0 (N + 100) k0 k1 k2 n (ST P l true 0 (min (j + 1) l.length) (p + 1) (s + 1) [0] (sub ev 0 ev.length ++ [(false, 0)]))) none) (by kernel_rfl) ?_
  rw [g, sub_all]
  rfl

theorem write_fail {o : Bool} {z j : Nat} (hb : l.getD j false = true) (hq : P.getD p (0, 0) = (30, 0)) : Z80_l0 N k0 k1 k2 (n + 1) (ST P l o z (min j l.length) p s [0, 0, 1] ev) = Z80_l0 N k0 k1 k2 n (ST P l o z (min (j + 1) l.length) (p + 1) (s + 1) [65285] (ev ++ [(false, 65285)])) := by
  rw [Z80_l0, Z80_l0_T3]
  rw [br_of (by rfl), br_not (decide_eq_false (by omega))]
  unfold Z124 Z124_T
  rw [br_of (inB_of ⟨by omega, by omega⟩), br_of (decide_eq_true (by omega))]
  simp only [Int.toNat_natCast, hq, w64_succ (show p < 9223372036854775807 by omega), w64_succ (show s < 9223372036854775807 by omega)]
  have hF : ∀ k : Bool → Option R, Z66 N 30 k = k true := fun k => by kernel_rfl
  rw [hF, br_true, fate_eq N l hl5, hb]
  have g : (((fits 0 ev.length ev) && (decide ((ev.length + 1) * 4 ≤ 70368744177664))) && true) = true := by rw [fits_of (by omega), decide_eq_true (by omega)]; rfl
  refine Eq.trans (b := br (((fits 0 ev.length ev) && (decide ((ev.length + 1) * 4 ≤ 70368744177664))) && true) (Z80_l0 N k0 k1 k2 n (ST P l o z (min (j + 1) l.length) (p + 1) (s + 1) [65285] (sub ev 0 ev.length ++ [(false, 65285)]))) none) (by kernel_rfl) ?_
  rw [g, sub_all]
  rfl

theorem write_bad {z j : Nat} (hb : l.getD j false = false) (hq : P.getD p (0, 0) = (30, 0)) : Z80_l0 N k0 k1 k2 (n + 1) (ST P l false z (min j l.length) p s [0, 0, 1] ev) = Z80_l0 N k0 k1 k2 n (ST P l false z (min (j + 1) l.length) (p + 1) (s + 1) [65289] (ev ++ [(false, 65289)])) := by
  rw [Z80_l0, Z80_l0_T3]
  rw [br_of (by rfl), br_not (decide_eq_false (by omega))]
  unfold Z124 Z124_T
  rw [br_of (inB_of ⟨by omega, by omega⟩), br_of (decide_eq_true (by omega))]
  simp only [Int.toNat_natCast, hq, w64_succ (show p < 9223372036854775807 by omega), w64_succ (show s < 9223372036854775807 by omega)]
  have hF : ∀ k : Bool → Option R, Z66 N 30 k = k true := fun k => by kernel_rfl
  rw [hF, br_true, fate_eq N l hl5, hb]
  have g : (((fits 0 ev.length ev) && (decide ((ev.length + 1) * 4 ≤ 70368744177664))) && true) = true := by rw [fits_of (by omega), decide_eq_true (by omega)]; rfl
  refine Eq.trans (b := br (((fits 0 ev.length ev) && (decide ((ev.length + 1) * 4 ≤ 70368744177664))) && true) (Z80_l0 N k0 k1 k2 n (ST P l false z (min (j + 1) l.length) (p + 1) (s + 1) [65289] (sub ev 0 ev.length ++ [(false, 65289)]))) none) (by kernel_rfl) ?_
  rw [g, sub_all]
  rfl

theorem write_ok {z j : Nat} (hz : z < 8) (hb : l.getD j false = false) (hq : P.getD p (0, 0) = (30, 0)) : Z80_l0 (N + 100) k0 k1 k2 (n + 1) (ST P l true z (min j l.length) p s [0, 0, 1] ev) = Z80_l0 (N + 100) k0 k1 k2 n (ST P l true (z + 1) (min (j + 1) l.length) (p + 1) (s + 1) [1] (ev ++ [(false, 1)])) := by
  rw [Z80_l0, Z80_l0_T3]
  rw [br_of (by rfl), br_not (decide_eq_false (by omega))]
  unfold Z124 Z124_T
  rw [br_of (inB_of ⟨by omega, by omega⟩), br_of (decide_eq_true (by omega))]
  simp only [Int.toNat_natCast, hq, w64_succ (show p < 9223372036854775807 by omega), w64_succ (show s < 9223372036854775807 by omega)]
  have hF : ∀ k : Bool → Option R, Z66 (N + 100) 30 k = k true := fun k => by kernel_rfl
  rw [hF, br_true, fate_eq (N + 100) l hl5, hb]
  have g : (((fits 0 ev.length ev) && (decide ((ev.length + 1) * 4 ≤ 70368744177664))) && true) = true := by rw [fits_of (by omega), decide_eq_true (by omega)]; rfl
  rcases (show z = 0 ∨ z = 1 ∨ z = 2 ∨ z = 3 ∨ z = 4 ∨ z = 5 ∨ z = 6 ∨ z = 7 by omega) with h | h | h | h | h | h | h | h <;> subst h
  · refine Eq.trans (b := br (((fits 0 ev.length ev) && (decide ((ev.length + 1) * 4 ≤ 70368744177664))) && true) (Z80_l0 (N + 100) k0 k1 k2 n (ST P l true (0 + 1) (min (j + 1) l.length) (p + 1) (s + 1) [1] (sub ev 0 ev.length ++ [(false, 1)]))) none) (by kernel_rfl) ?_
    rw [g, sub_all]
    rfl
  · refine Eq.trans (b := br (((fits 0 ev.length ev) && (decide ((ev.length + 1) * 4 ≤ 70368744177664))) && true) (Z80_l0 (N + 100) k0 k1 k2 n (ST P l true (1 + 1) (min (j + 1) l.length) (p + 1) (s + 1) [1] (sub ev 0 ev.length ++ [(false, 1)]))) none) (by kernel_rfl) ?_
    rw [g, sub_all]
    rfl
  · refine Eq.trans (b := br (((fits 0 ev.length ev) && (decide ((ev.length + 1) * 4 ≤ 70368744177664))) && true) (Z80_l0 (N + 100) k0 k1 k2 n (ST P l true (2 + 1) (min (j + 1) l.length) (p + 1) (s + 1) [1] (sub ev 0 ev.length ++ [(false, 1)]))) none) (by kernel_rfl) ?_
    rw [g, sub_all]
    rfl
  · refine Eq.trans (b := br (((fits 0 ev.length ev) && (decide ((ev.length + 1) * 4 ≤ 70368744177664))) && true) (Z80_l0 (N + 100) k0 k1 k2 n (ST P l true (3 + 1) (min (j + 1) l.length) (p + 1) (s + 1) [1] (sub ev 0 ev.length ++ [(false, 1)]))) none) (by kernel_rfl) ?_
    rw [g, sub_all]
    rfl
  · refine Eq.trans (b := br (((fits 0 ev.length ev) && (decide ((ev.length + 1) * 4 ≤ 70368744177664))) && true) (Z80_l0 (N + 100) k0 k1 k2 n (ST P l true (4 + 1) (min (j + 1) l.length) (p + 1) (s + 1) [1] (sub ev 0 ev.length ++ [(false, 1)]))) none) (by kernel_rfl) ?_
    rw [g, sub_all]
    rfl
  · refine Eq.trans (b := br (((fits 0 ev.length ev) && (decide ((ev.length + 1) * 4 ≤ 70368744177664))) && true) (Z80_l0 (N + 100) k0 k1 k2 n (ST P l true (5 + 1) (min (j + 1) l.length) (p + 1) (s + 1) [1] (sub ev 0 ev.length ++ [(false, 1)]))) none) (by kernel_rfl) ?_
    rw [g, sub_all]
    rfl
  · refine Eq.trans (b := br (((fits 0 ev.length ev) && (decide ((ev.length + 1) * 4 ≤ 70368744177664))) && true) (Z80_l0 (N + 100) k0 k1 k2 n (ST P l true (6 + 1) (min (j + 1) l.length) (p + 1) (s + 1) [1] (sub ev 0 ev.length ++ [(false, 1)]))) none) (by kernel_rfl) ?_
    rw [g, sub_all]
    rfl
  · refine Eq.trans (b := br (((fits 0 ev.length ev) && (decide ((ev.length + 1) * 4 ≤ 70368744177664))) && true) (Z80_l0 (N + 100) k0 k1 k2 n (ST P l true (7 + 1) (min (j + 1) l.length) (p + 1) (s + 1) [1] (sub ev 0 ev.length ++ [(false, 1)]))) none) (by kernel_rfl) ?_
    rw [g, sub_all]
    rfl

theorem size_bad {z fp : Nat} (hq : P.getD p (0, 0) = (32, 0)) : Z80_l0 N k0 k1 k2 (n + 1) (ST P l false z fp p s [0] ev) = Z80_l0 N k0 k1 k2 n (ST P l false z fp (p + 1) (s + 1) [65289] (ev ++ [(false, 65289)])) := by
  rw [Z80_l0, Z80_l0_T3]
  rw [br_of (by rfl), br_not (decide_eq_false (by omega))]
  unfold Z124 Z124_T
  rw [br_of (inB_of ⟨by omega, by omega⟩), br_of (decide_eq_true (by omega))]
  simp only [Int.toNat_natCast, hq, w64_succ (show p < 9223372036854775807 by omega), w64_succ (show s < 9223372036854775807 by omega)]
  have g : (((fits 0 ev.length ev) && (decide ((ev.length + 1) * 4 ≤ 70368744177664))) && true) = true := by rw [fits_of (by omega), decide_eq_true (by omega)]; rfl
  refine Eq.trans (b := br (((fits 0 ev.length ev) && (decide ((ev.length + 1) * 4 ≤ 70368744177664))) && true) (Z80_l0 N k0 k1 k2 n (ST P l false z fp (p + 1) (s + 1) [65289] (sub ev 0 ev.length ++ [(false, 65289)]))) none) (by kernel_rfl) ?_
  rw [g, sub_all]
  rfl

theorem size_ok {z fp : Nat} (hz : z < 9) (hq : P.getD p (0, 0) = (32, 0)) : Z80_l0 N k0 k1 k2 (n + 1) (ST P l true z fp p s [0] ev) = Z80_l0 N k0 k1 k2 n (ST P l true z fp (p + 1) (s + 1) [(z : Int)] (ev ++ [(false, (z : Int))])) := by
  rw [Z80_l0, Z80_l0_T3]
  rw [br_of (by rfl), br_not (decide_eq_false (by omega))]
  unfold Z124 Z124_T
  rw [br_of (inB_of ⟨by omega, by omega⟩), br_of (decide_eq_true (by omega))]
  simp only [Int.toNat_natCast, hq, w64_succ (show p < 9223372036854775807 by omega), w64_succ (show s < 9223372036854775807 by omega)]
  have g : (((fits 0 ev.length ev) && (decide ((ev.length + 1) * 4 ≤ 70368744177664))) && true) = true := by rw [fits_of (by omega), decide_eq_true (by omega)]; rfl
  rcases nine (show z < 9 by omega) with h | h | h | h | h | h | h | h | h <;> subst h
  · refine Eq.trans (b := br (((fits 0 ev.length ev) && (decide ((ev.length + 1) * 4 ≤ 70368744177664))) && true) (Z80_l0 N k0 k1 k2 n (ST P l true 0 fp (p + 1) (s + 1) [((0 : Nat) : Int)] (sub ev 0 ev.length ++ [(false, ((0 : Nat) : Int))]))) none) (by kernel_rfl) ?_
    rw [g, sub_all]
    rfl
  · refine Eq.trans (b := br (((fits 0 ev.length ev) && (decide ((ev.length + 1) * 4 ≤ 70368744177664))) && true) (Z80_l0 N k0 k1 k2 n (ST P l true 1 fp (p + 1) (s + 1) [((1 : Nat) : Int)] (sub ev 0 ev.length ++ [(false, ((1 : Nat) : Int))]))) none) (by kernel_rfl) ?_
    rw [g, sub_all]
    rfl
  · refine Eq.trans (b := br (((fits 0 ev.length ev) && (decide ((ev.length + 1) * 4 ≤ 70368744177664))) && true) (Z80_l0 N k0 k1 k2 n (ST P l true 2 fp (p + 1) (s + 1) [((2 : Nat) : Int)] (sub ev 0 ev.length ++ [(false, ((2 : Nat) : Int))]))) none) (by kernel_rfl) ?_
    rw [g, sub_all]
    rfl
  · refine Eq.trans (b := br (((fits 0 ev.length ev) && (decide ((ev.length + 1) * 4 ≤ 70368744177664))) && true) (Z80_l0 N k0 k1 k2 n (ST P l true 3 fp (p + 1) (s + 1) [((3 : Nat) : Int)] (sub ev 0 ev.length ++ [(false, ((3 : Nat) : Int))]))) none) (by kernel_rfl) ?_
    rw [g, sub_all]
    rfl
  · refine Eq.trans (b := br (((fits 0 ev.length ev) && (decide ((ev.length + 1) * 4 ≤ 70368744177664))) && true) (Z80_l0 N k0 k1 k2 n (ST P l true 4 fp (p + 1) (s + 1) [((4 : Nat) : Int)] (sub ev 0 ev.length ++ [(false, ((4 : Nat) : Int))]))) none) (by kernel_rfl) ?_
    rw [g, sub_all]
    rfl
  · refine Eq.trans (b := br (((fits 0 ev.length ev) && (decide ((ev.length + 1) * 4 ≤ 70368744177664))) && true) (Z80_l0 N k0 k1 k2 n (ST P l true 5 fp (p + 1) (s + 1) [((5 : Nat) : Int)] (sub ev 0 ev.length ++ [(false, ((5 : Nat) : Int))]))) none) (by kernel_rfl) ?_
    rw [g, sub_all]
    rfl
  · refine Eq.trans (b := br (((fits 0 ev.length ev) && (decide ((ev.length + 1) * 4 ≤ 70368744177664))) && true) (Z80_l0 N k0 k1 k2 n (ST P l true 6 fp (p + 1) (s + 1) [((6 : Nat) : Int)] (sub ev 0 ev.length ++ [(false, ((6 : Nat) : Int))]))) none) (by kernel_rfl) ?_
    rw [g, sub_all]
    rfl
  · refine Eq.trans (b := br (((fits 0 ev.length ev) && (decide ((ev.length + 1) * 4 ≤ 70368744177664))) && true) (Z80_l0 N k0 k1 k2 n (ST P l true 7 fp (p + 1) (s + 1) [((7 : Nat) : Int)] (sub ev 0 ev.length ++ [(false, ((7 : Nat) : Int))]))) none) (by kernel_rfl) ?_
    rw [g, sub_all]
    rfl
  · refine Eq.trans (b := br (((fits 0 ev.length ev) && (decide ((ev.length + 1) * 4 ≤ 70368744177664))) && true) (Z80_l0 N k0 k1 k2 n (ST P l true 8 fp (p + 1) (s + 1) [((8 : Nat) : Int)] (sub ev 0 ev.length ++ [(false, ((8 : Nat) : Int))]))) none) (by kernel_rfl) ?_
    rw [g, sub_all]
    rfl
end

/-! ### rows of instructions -/
def blk : List Ins := [(1, 0), (1, 0), (1, 1), (30, 0), (2, 0)]
def blks : Nat → List Ins
  | 0 => []
  | n + 1 => blk ++ blks n
theorem blks_len : ∀ n : Nat, (blks n).length = 5 * n
  | 0 => rfl
  | n + 1 => by rw [blks, List.length_append, blks_len n]; simp [blk]; omega
/-- what a write answers; how much a file grows -/
def val (l : List Bool) (o : Bool) (j : Nat) : Int := if l.getD j false = true then 65285 else if o = true then 1 else 65289
def grow (l : List Bool) (o : Bool) (j : Nat) : Nat := if l.getD j false = true then 0 else if o = true then 1 else 0
def szs (l : List Bool) (o : Bool) : Nat → Nat → Nat → Nat
  | _, 0, z => z
  | j, m + 1, z => szs l o (j + 1) m (z + grow l o j)
def evs (l : List Bool) (o : Bool) : Nat → Nat → EV
  | _, 0 => []
  | j, m + 1 => (false, val l o j) :: evs l o (j + 1) m
theorem grow_le (l : List Bool) (o : Bool) (j : Nat) : grow l o j ≤ 1 := by unfold grow; split <;> (try split) <;> omega
theorem szs_le (l : List Bool) (o : Bool) : ∀ (m j z : Nat), szs l o j m z ≤ z + m
  | 0, j, z => Nat.le_refl _
  | m + 1, j, z => by
    have h1 := szs_le l o m (j + 1) (z + grow l o j)
    have h2 := grow_le l o j
    rw [szs]; omega
theorem evs_len (l : List Bool) (o : Bool) : ∀ (m j : Nat), (evs l o j m).length = m
  | 0, _ => rfl
  | m + 1, j => by rw [evs, List.length_cons, evs_len l o m]
theorem u0 : IntKind.wrap .u16 (0 : Int) = 0 := by decide
theorem u1 : IntKind.wrap .u16 (1 : Int) = 1 := by decide

section
variable {R : Type} (N : Nat) {P : List Ins} (hl : P.length ≤ 96) (l : List Bool) (hl5 : l.length ≤ 50)
  (k0 : List Ins → List ByteArray → List (ByteArray × (Bool × Int)) → List (List Int) → List (List Int) → Int → List Int → List Int → Int → Int → Int → List Int → Int → List Bool → EV → Option R)
  (k1 : List Ins → List ByteArray → List (ByteArray × (Bool × Int)) → List (List Int) → List (List Int) → Int → List Int → List Int → Int → Int → Int → List Int → List Int → List (Int × List Int) → List (Int × Int) → Int → List Bool → EV → Option R)
  (k2 : List Ins → List ByteArray → List (ByteArray × (Bool × Int)) → List (List Int) → List (List Int) → Int → List Int → List Int → Int → Int → Int → List Int → List Int → Int → List ((ByteArray × ByteArray) × (Int × Bool)) → List (Int × List Int) → List (Int × Int) → Int → List Bool → EV → Option R)
include hl hl5

theorem run_blk (n : Nat) {pre post : List Ins} (e : P = pre ++ (blk ++ post)) {p s : Nat} (hp : p = pre.length) (hs : s + 5 ≤ 100) (o : Bool) (z j : Nat) (hz : z < 8) (ev : EV) (he : ev.length ≤ 80) :
    Z80_l0 (N + 100) k0 k1 k2 (n + 5) (ST P l o z (min j l.length) p s [] ev) = Z80_l0 (N + 100) k0 k1 k2 n (ST P l o (z + grow l o j) (min (j + 1) l.length) (p + 5) (s + 5) [] (ev ++ [(false, val l o j)])) := by
  have a0 := mid_at e (p := p) (j := 0) (by omega) (by simp [blk]) (0, 0)
  have a1 := mid_at e (p := p + 1) (j := 1) (by omega) (by simp [blk]) (0, 0)
  have a2 := mid_at e (p := p + 2) (j := 2) (by omega) (by simp [blk]) (0, 0)
  have a3 := mid_at e (p := p + 3) (j := 3) (by omega) (by simp [blk]) (0, 0)
  have a4 := mid_at e (p := p + 4) (j := 4) (by omega) (by simp [blk]) (0, 0)
  refine (do_push0 (N + 100) (n + 4) hl a0.1 (by omega) l hl5 ev (by omega) k0 k1 k2 a0.2).trans ?_
  rw [u0]
  refine (do_push1 (N + 100) (n + 3) hl a1.1 (by omega) l hl5 ev (by omega) k0 k1 k2 a1.2).trans ?_
  rw [u0]
  refine (do_push2 (N + 100) (n + 2) hl a2.1 (by omega) l hl5 ev (by omega) k0 k1 k2 a2.2).trans ?_
  rw [u1]
  unfold val grow
  cases hb : l.getD j false with
  | true =>
    refine (write_fail (N + 100) (n + 1) hl a3.1 (by omega) l hl5 ev (by omega) k0 k1 k2 hb a3.2).trans ?_
    exact do_pop (N + 100) n hl a4.1 (by omega) l hl5 _ (by simp; omega) k0 k1 k2 a4.2
  | false =>
    cases o with
    | true =>
      refine (write_ok N (n + 1) hl a3.1 (by omega) l hl5 ev (by omega) k0 k1 k2 hz hb a3.2).trans ?_
      exact do_pop (N + 100) n hl a4.1 (by omega) l hl5 _ (by simp; omega) k0 k1 k2 a4.2
    | false =>
      refine (write_bad (N + 100) (n + 1) hl a3.1 (by omega) l hl5 ev (by omega) k0 k1 k2 hb a3.2).trans ?_
      exact do_pop (N + 100) n hl a4.1 (by omega) l hl5 _ (by simp; omega) k0 k1 k2 a4.2

theorem run_blks : ∀ (m n : Nat) {pre post : List Ins}, P = pre ++ (blks m ++ post) → ∀ {p s : Nat}, p = pre.length → s + 5 * m ≤ 100 → ∀ (o : Bool) (z j : Nat), z + m ≤ 8 → ∀ (ev : EV), ev.length + m ≤ 80 →
    Z80_l0 (N + 100) k0 k1 k2 (n + 5 * m) (ST P l o z (min j l.length) p s [] ev) = Z80_l0 (N + 100) k0 k1 k2 n (ST P l o (szs l o j m z) (min (j + m) l.length) (p + 5 * m) (s + 5 * m) [] (ev ++ evs l o j m))
  | 0, n, pre, post, e, p, s, hp, hs, o, z, j, hz, ev, he => by
    rw [evs, List.append_nil]; rfl
  | m + 1, n, pre, post, e, p, s, hp, hs, o, z, j, hz, ev, he => by
    have hg := grow_le l o j
    rw [show n + 5 * (m + 1) = (n + 5 * m) + 5 by omega]
    refine (run_blk N hl l hl5 k0 k1 k2 (n + 5 * m) (post := blks m ++ post) (by rw [e, blks, List.append_assoc]) hp (by omega) o z j (by omega) ev (by omega)).trans ?_
    have := run_blks m n (pre := pre ++ blk) (post := post) (by rw [e, blks]; simp [List.append_assoc]) (p := p + 5) (s := s + 5) (by rw [List.length_append, hp]; rfl) (by omega) o (z + grow l o j) (j + 1) (by omega) (ev ++ [(false, val l o j)]) (by simp; omega)
    refine this.trans ?_
    rw [show p + 5 + 5 * m = p + 5 * (m + 1) by omega, show s + 5 + 5 * m = s + 5 * (m + 1) by omega, show j + 1 + m = j + (m + 1) by omega, List.append_assoc]
    rfl
end

/-- the program -/
def prg (n : Nat) : List Ins := [(27, 0), (2, 0)] ++ (blks n ++ [(1, 0), (32, 0)])
theorem prg_len (n : Nat) : (prg n).length = 5 * n + 4 := by unfold prg; rw [List.length_append, List.length_append, blks_len]; simp; omega
def open0 (l : List Bool) : Bool := !l.getD 0 false
def val0 (l : List Bool) : Int := if l.getD 0 false = true then 65285 else 0
/-- a file's size at the end; all answers -/
def sizeE (l : List Bool) (n : Nat) : Int := if open0 l = true then (szs l true 1 n 0 : Nat) else 65289
def evE (l : List Bool) (n : Nat) : EV := (false, val0 l) :: (evs l (open0 l) 1 n ++ [(false, sizeE l n)])

theorem fails_loop {R : Type} (N n m : Nat) (hm : m ≤ 8) (l : List Bool) (hl5 : l.length ≤ 50) (k0 k1 k2) :
    Z80_l0 (R := R) (N + 100) k0 k1 k2 (n + (5 * m + 6)) (ST (prg m ++ [(26, 0)]) l false 0 (min 0 l.length) 0 0 [] []) =
      k2 (prg m ++ [(26, 0)]) nmA enA [[]] [] ((5 * m + 5 : Nat) : Int) loc0 mem0 1 (band .u16 (sizeE l m) 255) ((5 * m + 5 : Nat) : Int) [] (fdO (open0 l)) 1 trA [(0, List.replicate (szs l (open0 l) 1 m 0) 0)] (opO (open0 l) (szs l (open0 l) 1 m 0)) ((min (1 + m) l.length : Nat) : Int) l (evE l m) := by
  obtain ⟨P, hP⟩ : ∃ P, P = prg m ++ [((26 : Int), (0 : Int))] := ⟨_, rfl⟩
  rw [← hP]
  have hlen : P.length ≤ 96 := by rw [hP, List.length_append, prg_len]; simp; omega
  have e1 : P = [] ++ ([(27, 0), (2, 0)] ++ (blks m ++ [(1, 0), (32, 0), (26, 0)])) := by rw [hP, prg]; simp [List.append_assoc]
  have e2 : P = [(27, 0), (2, 0)] ++ (blks m ++ [(1, 0), (32, 0), (26, 0)]) := e1
  have e3 : P = ([(27, 0), (2, 0)] ++ blks m) ++ ([(1, 0), (32, 0), (26, 0)] ++ []) := by rw [e2]; simp [List.append_assoc]
  have a0 := mid_at e1 (p := 0) (j := 0) rfl (by simp) (0, 0)
  have a1 := mid_at e1 (p := 0 + 1) (j := 1) (by simp) (by simp) (0, 0)
  have hl3 : ([((27 : Int), (0 : Int)), (2, 0)] ++ blks m).length = 5 * m + 2 := by rw [List.length_append, blks_len]; simp; omega
  have b0 := mid_at e3 (p := 0 + 1 + 1 + 5 * m) (j := 0) (by rw [hl3]; omega) (by simp) (0, 0)
  have b1 := mid_at e3 (p := 0 + 1 + 1 + 5 * m + 1) (j := 1) (by rw [hl3]; omega) (by simp) (0, 0)
  have b2 := mid_at e3 (p := 0 + 1 + 1 + 5 * m + 1 + 1) (j := 2) (by rw [hl3]; omega) (by simp) (0, 0)
  have hz := szs_le l (open0 l) m 1 0
  -- what comes behind the opening
  have rest : ∀ o : Bool, open0 l = o → ∀ x : Int, Z80_l0 (R := R) (N + 100) k0 k1 k2 (n + 4 + 5 * m) (ST P l o 0 (min (0 + 1) l.length) (0 + 1 + 1) (0 + 1 + 1) [] [(false, x)]) =
      k2 P nmA enA [[]] [] ((5 * m + 5 : Nat) : Int) loc0 mem0 1 (band .u16 (sizeE l m) 255) ((5 * m + 5 : Nat) : Int) [] (fdO o) 1 trA [(0, List.replicate (szs l o 1 m 0) 0)] (opO o (szs l o 1 m 0)) ((min (1 + m) l.length : Nat) : Int) l ((false, x) :: (evs l o 1 m ++ [(false, sizeE l m)])) := by
    intro o ho x
    rw [ho] at hz
    have hel := evs_len l o m 1
    refine (run_blks (N) hlen l hl5 k0 k1 k2 m (n + 4) e2 rfl (by omega) o 0 1 (by omega) [(false, x)] (by simp; omega)).trans ?_
    refine (do_push0 (N + 100) (n + 3) hlen b0.1 (by omega) l hl5 _ (by simp; omega) k0 k1 k2 b0.2).trans ?_
    rw [u0]
    unfold sizeE
    rw [ho]
    cases o with
    | true =>
      refine (size_ok (N + 100) (n + 2) hlen b1.1 (by omega) l hl5 _ (by simp; omega) k0 k1 k2 (by omega) b1.2).trans ?_
      refine (do_exit (N + 100) n hlen b2.1 (by omega) l hl5 _ (by simp; omega) k0 k1 k2 b2.2).trans ?_
      rw [show 0 + 1 + 1 + 5 * m + 1 + 1 + 1 = 5 * m + 5 by omega]
      simp [List.append_assoc]
    | false =>
      refine (size_bad (N + 100) (n + 2) hlen b1.1 (by omega) l hl5 _ (by simp; omega) k0 k1 k2 b1.2).trans ?_
      refine (do_exit (N + 100) n hlen b2.1 (by omega) l hl5 _ (by simp; omega) k0 k1 k2 b2.2).trans ?_
      rw [show 0 + 1 + 1 + 5 * m + 1 + 1 + 1 = 5 * m + 5 by omega]
      simp [List.append_assoc]
  rw [show n + (5 * m + 6) = n + 4 + 5 * m + 1 + 1 by omega]
  unfold evE val0
  cases hb : l.getD 0 false with
  | true =>
    have ho : open0 l = false := by unfold open0; rw [hb]; rfl
    refine (open_fail (N + 100) (n + 4 + 5 * m + 1) hlen a0.1 (by omega) l hl5 [] (by simp) k0 k1 k2 hb a0.2).trans ?_
    refine (do_pop (N + 100) (n + 4 + 5 * m) hlen a1.1 (by omega) l hl5 _ (by simp) k0 k1 k2 a1.2).trans ?_
    rw [ho]
    exact rest false ho 65285
  | false =>
    have ho : open0 l = true := by unfold open0; rw [hb]; rfl
    refine (open_ok N (n + 4 + 5 * m + 1) hlen a0.1 (by omega) l hl5 [] (by simp) k0 k1 k2 hb a0.2).trans ?_
    refine (do_pop (N + 100) (n + 4 + 5 * m) hlen a1.1 (by omega) l hl5 _ (by simp) k0 k1 k2 a1.2).trans ?_
    rw [ho]
    exact rest true ho 0

/-! ### it may run -/
theorem tbs : (tk 1 = 0 ∧ gv 1 = 1) ∧ (tk 2 = 1 ∧ gv 2 = 0) ∧ (tk 27 = 0 ∧ gv 27 = 1) ∧ (tk 30 = 3 ∧ gv 30 = 1) ∧ (tk 32 = 1 ∧ gv 32 = 1) := by decide +kernel
theorem iss : isI 1 0 = true ∧ isI 1 1 = true ∧ isI 2 0 = true ∧ isI 27 0 = true ∧ isI 30 0 = true ∧ isI 32 0 = true := by decide +kernel
theorem wayI {x : Ins} {t g : Int} {l : List Ins} {h h' h'' : Int} (ht : tk x.1 = t) (hg : gv x.1 = g) (hi : isI x.1 x.2 = true) (hn : namesI x.1 x.2 1 = true) (hj : jumpsI x.1 = false) (he : endsI x.1 = false) (h1 : t ≤ h) (h2 : h - t + g ≤ 16) (e : h' = h - t + g) (w : Way 1 l h' h'') : Way 1 (x :: l) h h'' :=
  .cons ⟨hi, hn, hj, he, by omega, by omega⟩ (by omega) w
theorem way_blk : Way 1 blk 0 0 := by
  unfold blk
  refine wayI (h' := 1) tbs.1.1 tbs.1.2 iss.1 rfl rfl rfl (by decide) (by decide) rfl ?_
  refine wayI (h' := 2) tbs.1.1 tbs.1.2 iss.1 rfl rfl rfl (by decide) (by decide) rfl ?_
  refine wayI (h' := 3) tbs.1.1 tbs.1.2 iss.2.1 rfl rfl rfl (by decide) (by decide) rfl ?_
  refine wayI (h' := 1) tbs.2.2.2.1.1 tbs.2.2.2.1.2 iss.2.2.2.2.1 rfl rfl rfl (by decide) (by decide) rfl ?_
  exact wayI (h' := 0) tbs.2.1.1 tbs.2.1.2 iss.2.2.1 rfl rfl rfl (by decide) (by decide) rfl .nil
theorem way_blks : ∀ n : Nat, Way 1 (blks n) 0 0
  | 0 => .nil
  | n + 1 => way_blk.append (way_blks n)
theorem way_prg (n : Nat) : Way 1 (prg n) 0 1 := by
  unfold prg
  refine wayI (h' := 1) tbs.2.2.1.1 tbs.2.2.1.2 iss.2.2.2.1 rfl rfl rfl (by decide) (by decide) rfl ?_
  refine wayI (h' := 0) tbs.2.1.1 tbs.2.1.2 iss.2.2.1 rfl rfl rfl (by decide) (by decide) rfl ?_
  refine (way_blks n).append ?_
  refine wayI (h' := 1) tbs.1.1 tbs.1.2 iss.1 rfl rfl rfl (by decide) (by decide) rfl ?_
  exact wayI (h' := 1) tbs.2.2.2.2.1 tbs.2.2.2.2.2 iss.2.2.2.2.2 rfl rfl rfl (by decide) (by decide) rfl .nil

theorem new_eq {R : Type} (N : Nat) (l : List Bool) (hl5 : l.length ≤ 50) (k : Int → List Bool → Option R) : Z11 N l k = k 0 l := by
  unfold Z11 Z11_T slices_Clone__bool_bool
  rw [br_of (by rw [decide_eq_true (by omega)]; rfl)]
set_option maxRecDepth 100000 in
theorem made_eq {R : Type} (n : Nat) {P : List Ins} (hP : ∀ {R : Type} (k : Int → Int → List Ins → List ByteArray → Option R), Z1 (n + 3000) P nmA k = k 0 0 P nmA) (l : List Bool) (hl5 : l.length ≤ 50) (k0 k1 k2 k3) :
    Z132 (R := R) (n + 3000) l 100 P nmA enA [[]] [] k0 k1 k2 k3 = k3 0 P nmA enA [[]] [] 0 loc0 mem0 0 0 0 [] (fdO false) 1 trA [(0, List.replicate 0 0)] (opO false 0) 0 l [] := by
  unfold Z132 Z132_T
  rw [hP]
  refine Eq.trans (b := Z11 (n + 3000) l fun i l' => k3 0 P nmA enA [[]] [] 0 loc0 mem0 0 0 0 [] (fdO false) 1 trA [(0, List.replicate 0 0)] (opO false 0) i l' []) (by kernel_rfl) ?_
  exact new_eq _ l hl5 _

theorem names_ok : nmA.length ≤ 8 ∧ nmA.all nameA = true := by decide +kernel

theorem fails_run {R : Type} (n m : Nat) (hm : m ≤ 8) (l : List Bool) (hl5 : l.length ≤ 50) (k : Int → Int → Int → List Ins → List ByteArray → List (ByteArray × (Bool × Int)) → List (List Int) → EV → Option R) :
    Z77 (n + 3000) l 100 (prg m ++ [(26, 0)]) nmA enA [[]] k = k 1 (band .u16 (sizeE l m) 255) 0 (prg m ++ [(26, 0)]) nmA enA [[]] (evE l m) := by
  have hm' := fun k0 k1 k2 k3 => made_eq (R := R) n (P := prg m ++ [(26, 0)]) (fun {R} k => straight_okN names_ok.1 names_ok.2 (way_prg m) (by rw [prg_len]; omega) (n + 3000) (by omega) k) l hl5 k0 k1 k2 k3
  have gen : ∀ N q q', N = q + (5 * m + 6) → N = q' + 100 → (∀ k0 k1 k2 k3, Z132 (R := R) N l 100 (prg m ++ [(26, 0)]) nmA enA [[]] [] k0 k1 k2 k3 = k3 0 (prg m ++ [(26, 0)]) nmA enA [[]] [] 0 loc0 mem0 0 0 0 [] (fdO false) 1 trA [(0, List.replicate 0 0)] (opO false 0) 0 l []) →
      Z77 N l 100 (prg m ++ [(26, 0)]) nmA enA [[]] k = k 1 (band .u16 (sizeE l m) 255) 0 (prg m ++ [(26, 0)]) nmA enA [[]] (evE l m) := by
    intro N q q' hN hN' hmade
    unfold Z77 Z77_T Z80 Z80_T
    rw [hmade, br_not (by rfl)]
    have h0 : min 0 l.length = 0 := by omega
    have key := fun k0 k1 k2 => fails_loop (R := R) q' q m hm l hl5 k0 k1 k2
    rw [← hN, ← hN', h0] at key
    refine (key _ _ _).trans ?_
    rfl
  exact gen (n + 3000) (n + 3000 - (5 * m + 6)) (n + 2900) (by omega) rfl hm'

/-! ### the law's own loops -/
theorem law_l0 {R : Type} (N : Nat) (k0 : List Bool → Int → List Ins → List ByteArray → Option R) (l : List Bool) (x1 : Nat) (hx : x1 ≤ 8) : ∀ (m fuel j : Nat) (P : List Ins), j + m = x1 → m < fuel → P.length + 5 * m ≤ 90 →
      Z72_l0 N k0 fuel l (x1 : Int) (j : Int) P nmA = k0 l (x1 : Int) (P ++ blks m) nmA
  | _, 0, _, _, _, h, _ => absurd h (by omega)
  | 0, n + 1, j, P, hj, _, _ => by
    rw [Z72_l0, Z72_l0_T0, br_not (decide_eq_false (by omega)), blks, List.append_nil]
  | m + 1, n + 1, j, P, hj, hf, hP => by
    have g3 : (((fits 0 P.length P) && (decide ((P.length + 5) * 16 ≤ 70368744177664))) && true) = true := by rw [fits_of (by omega), decide_eq_true (by omega)]; rfl
    rw [Z72_l0, Z72_l0_T0, br_of (decide_eq_true (by omega)), br_of g3, w64_succ (by omega), sub_all]
    refine (law_l0 N k0 l x1 hx m n (j + 1) _ (by omega) (by omega) (by simp; omega)).trans ?_
    rw [blks, List.append_assoc]
    rfl

theorem evs_at (l : List Bool) (o : Bool) : ∀ (m j i : Nat), i < m → (evs l o j m).getD i (false, 0) = (false, val l o (j + i))
  | 0, _, _, h => absurd h (by omega)
  | m + 1, j, 0, _ => rfl
  | m + 1, j, i + 1, h => by
    rw [evs]
    have := evs_at l o m (j + 1) i (by omega)
    rw [show j + (i + 1) = j + 1 + i by omega, ← this]
    rfl
theorem szs_snoc (l : List Bool) (o : Bool) : ∀ (m j z : Nat), szs l o j (m + 1) z = szs l o j m z + grow l o (j + m)
  | 0, j, z => rfl
  | m + 1, j, z => by
    rw [szs, szs_snoc l o m (j + 1) (z + grow l o j), szs, show j + (m + 1) = j + 1 + m by omega]

theorem ev_at (l : List Bool) (n : Nat) {i : Nat} (h : i < n) : (evE l n).getD (i + 1) (false, 0) = (false, val l (open0 l) (i + 1)) := by
  have e : (evE l n).getD (i + 1) (false, 0) = (evs l (open0 l) 1 n ++ [(false, sizeE l n)]).getD i (false, 0) := rfl
  rw [e, List.getD_eq_getElem?_getD, List.getElem?_append_left (by rw [evs_len]; exact h), ← List.getD_eq_getElem?_getD, evs_at l _ n 1 i h, Nat.add_comm]
theorem ev_last (l : List Bool) (n : Nat) : (evE l n).getD (n + 1) (false, 0) = (false, sizeE l n) := by
  have e : (evE l n).getD (n + 1) (false, 0) = (evs l (open0 l) 1 n ++ [(false, sizeE l n)]).getD n (false, 0) := rfl
  rw [e, List.getD_eq_getElem?_getD, List.getElem?_append_right (by rw [evs_len]; exact Nat.le_refl _), evs_len, Nat.sub_self]
  rfl
theorem ev_len (l : List Bool) (n : Nat) : (evE l n).length = n + 2 := by
  unfold evE
  rw [List.length_cons, List.length_append, evs_len]
  rfl

theorem law_l1 {R : Type} (N : Nat) (k0 : Bool → Int → Bool → Int → Int → Int → EV → Option R) (k1 : Int → Bool → Int → Int → Int → EV → Option R) (l : List Bool) (hl5 : l.length ≤ 50) (x1 : Nat) (hx : x1 ≤ 8) (a b : Int) : ∀ (m fuel j : Nat), j + m = x1 → m < fuel →
      Z72_l1 N k0 k1 fuel l (x1 : Int) (open0 l) ((szs l (open0 l) 1 j 0 : Nat) : Int) (j : Int) a b (evE l x1) = k1 (x1 : Int) (open0 l) ((szs l (open0 l) 1 x1 0 : Nat) : Int) a b (evE l x1)
  | _, 0, _, _, h => absurd h (by omega)
  | 0, n + 1, j, hj, _ => by
    obtain rfl : j = x1 := by omega
    rw [Z72_l1, Z72_l1_T0, br_not (decide_eq_false (by omega))]
  | m + 1, n + 1, j, hj, hf => by
    have ih := law_l1 N k0 k1 l hl5 x1 hx a b m n (j + 1) (by omega) (by omega)
    have hz := szs_le l (open0 l) j 1 0
    have hsn := szs_snoc l (open0 l) j 1 0
    rw [Nat.add_comm 1 j] at hsn
    have hev := ev_at l x1 (i := j) (by omega)
    have hlen := ev_len l x1
    have g1 : inB ((j + 1 : Nat) : Int) (evE l x1).length = true := inB_of (by omega)
    have g2 : decide (j + 1 < (evE l x1).length) = true := decide_eq_true (by omega)
    have hw : IntKind.wrap .u16 (((szs l (open0 l) 1 j 0 : Nat) : Int) + 1) = ((szs l (open0 l) 1 j 0 + 1 : Nat) : Int) := by rw [wu16 (by omega)]; rfl
    rw [Z72_l1, Z72_l1_T0, br_of (decide_eq_true (by omega)), w64_succ (by omega)]
    simp only [Int.toNat_natCast, g1, g2, br_true, hev, hw]
    by_cases hb : j + 1 < l.length
    · rw [br_of (decide_eq_true (by omega)), br_of (inB_of (by omega))]
      cases hbit : l.getD (j + 1) false with
      | true =>
        have hv : val l (open0 l) (j + 1) = 65285 := by unfold val; rw [if_pos hbit]
        have hg : grow l (open0 l) (j + 1) = 0 := by unfold grow; rw [if_pos hbit]
        rw [hg, Nat.add_zero] at hsn
        rw [hsn] at ih
        rw [br_true, hv, br_not (by rfl)]
        exact ih
      | false =>
        rw [br_false]
        cases ho : open0 l with
        | false =>
          have hv : val l false (j + 1) = 65289 := by unfold val; rw [if_neg (by rw [hbit]; decide), if_neg (by decide)]
          have hg : grow l false (j + 1) = 0 := by unfold grow; rw [if_neg (by rw [hbit]; decide), if_neg (by decide)]
          rw [ho] at ih hsn
          rw [hg, Nat.add_zero] at hsn
          rw [hsn] at ih
          rw [br_of (b := !false) rfl, hv, br_not (by rfl)]
          exact ih
        | true =>
          have hv : val l true (j + 1) = 1 := by unfold val; rw [if_neg (by rw [hbit]; decide), if_pos rfl]
          have hg : grow l true (j + 1) = 1 := by unfold grow; rw [if_neg (by rw [hbit]; decide), if_pos rfl]
          rw [ho] at ih hsn
          rw [hg] at hsn
          rw [hsn] at ih
          rw [br_not (b := !true) rfl, hv, br_not (by rfl)]
          exact ih
    · have hbit : l.getD (j + 1) false = false := by simp [List.getD_eq_getElem?_getD, List.getElem?_eq_none (show l.length ≤ j + 1 by omega)]
      rw [br_not (b := decide (((j + 1 : Nat) : Int) < (l.length : Int))) (decide_eq_false (by omega))]
      cases ho : open0 l with
      | false =>
        have hv : val l false (j + 1) = 65289 := by unfold val; rw [if_neg (by rw [hbit]; decide), if_neg (by decide)]
        have hg : grow l false (j + 1) = 0 := by unfold grow; rw [if_neg (by rw [hbit]; decide), if_neg (by decide)]
        rw [ho] at ih hsn
        rw [hg, Nat.add_zero] at hsn
        rw [hsn] at ih
        rw [br_of (b := !false) rfl, hv, br_not (by rfl)]
        exact ih
      | true =>
        have hv : val l true (j + 1) = 1 := by unfold val; rw [if_neg (by rw [hbit]; decide), if_pos rfl]
        have hg : grow l true (j + 1) = 1 := by unfold grow; rw [if_neg (by rw [hbit]; decide), if_pos rfl]
        rw [ho] at ih hsn
        rw [hg] at hsn
        rw [hsn] at ih
        rw [br_not (b := !true) rfl, hv, br_not (by rfl)]
        exact ih

set_option maxRecDepth 100000 in
theorem awake16 {R : Type} (n : Nat) (k : Bool → Option R) : Z73 (n + 3000) k = k true := by kernel_rfl

theorem runFails_N {R : Type} (N : Nat) (hN : 100 < N) (hA : ∀ k : Bool → Option R, Z73 N k = k true) (l : List Bool)
    (hR : l.length ≤ 50 → ∀ m, m ≤ 8 → ∀ k : Int → Int → Int → List Ins → List ByteArray → List (ByteArray × (Bool × Int)) → List (List Int) → EV → Option R, Z77 N l 100 (prg m ++ [(26, 0)]) nmA enA [[]] k = k 1 (band .u16 (sizeE l m) 255) 0 (prg m ++ [(26, 0)]) nmA enA [[]] (evE l m))
    (x1 : Int) (h1 : 0 ≤ x1 ∧ x1 ≤ 255) (k : Bool → Option R) : Z72 N l x1 k = k true := by
  unfold Z72 Z72_T
  rw [hA, br_not (b := !true) rfl]
  by_cases h50 : 50 < l.length
  · rw [br_of (decide_eq_true (by omega))]
  rw [br_not (decide_eq_false (by omega))]
  obtain ⟨n, hn, hn8, e⟩ : ∃ n : Nat, 1 ≤ n ∧ n ≤ 8 ∧ IntKind.wrap .i64 (1 + Int.tmod (IntKind.wrap .i64 x1) 8) = (n : Int) := by
    refine ⟨1 + x1.toNat % 8, by omega, by omega, ?_⟩
    rw [w64 (x := x1) (by omega), Int.tmod_eq_emod_of_nonneg h1.1, w64 (by omega)]
    omega
  rw [e]
  refine (law_l0 N _ l n hn8 n N 0 [(27, 0), (2, 0)] (by omega) (by omega) (by simp; omega)).trans ?_
  have hlen : ([((27 : Int), (0 : Int)), (2, 0)] ++ blks n).length = 5 * n + 2 := by rw [List.length_append, blks_len]; simp; omega
  rw [br_of (by rw [fits_of (by omega), hlen, decide_eq_true (by omega)]; rfl), sub_all]
  have hp : ([((27 : Int), (0 : Int)), (2, 0)] ++ blks n) ++ [((1 : Int), (0 : Int)), (32, 0), (26, 0)] = prg n ++ [(26, 0)] := by unfold prg; simp [List.append_assoc]
  refine (congrArg (fun p => Z77 N l 100 p nmA enA [[]] _) hp).trans ?_
  refine (hR (by omega) n hn8 _).trans ?_
  have hz := szs_le l (open0 l) n 1 0
  have hev := ev_last l n
  have hel := ev_len l n
  have hw : IntKind.wrap .i64 ((n : Int) + 2) = (n : Int) + 2 := w64 (by omega)
  have hw1 : IntKind.wrap .i64 ((n : Int) + 1) = ((n + 1 : Nat) : Int) := w64_succ (by omega)
  rw [br_of (by rfl), br_of (by rfl), br_not (by rw [hel, hw, decide_eq_true (by omega)]; rfl)]
  have fin : br (!open0 l)
      (br (inB (IntKind.wrap .i64 ((n : Int) + 1)) (evE l n).length)
        (br (decide ((IntKind.wrap .i64 ((n : Int) + 1)).toNat < (evE l n).length))
          (br (decide (((evE l n).getD (IntKind.wrap .i64 ((n : Int) + 1)).toNat (false, 0)).2 = 65289)) (k (decide (band .u16 (sizeE l n) 255 = band .u16 65289 255))) (k false)) none) none)
      (br (inB (IntKind.wrap .i64 ((n : Int) + 1)) (evE l n).length)
        (br (decide ((IntKind.wrap .i64 ((n : Int) + 1)).toNat < (evE l n).length))
          (br (decide (((evE l n).getD (IntKind.wrap .i64 ((n : Int) + 1)).toNat (false, 0)).2 = ((szs l (open0 l) 1 n 0 : Nat) : Int))) (k (decide (band .u16 (sizeE l n) 255 = band .u16 ((szs l (open0 l) 1 n 0 : Nat) : Int) 255))) (k false)) none) none) = k true := by
    rw [hw1, br_of (inB_of (by omega)), Int.toNat_natCast, br_of (b := decide (n + 1 < (evE l n).length)) (decide_eq_true (by omega)), hev]
    unfold sizeE
    cases ho : open0 l with
    | false =>
      rw [br_of (b := !false) rfl, if_neg (by decide), br_of (by rfl), decide_eq_true rfl]
    | true =>
      rw [br_not (b := !true) rfl, if_pos rfl, br_of (decide_eq_true rfl), decide_eq_true rfl, br_of (inB_of (by omega)), br_of (decide_eq_true (by omega))]
  by_cases hnil : l.length = 0
  · obtain rfl : l = [] := List.eq_nil_of_length_eq_zero hnil
    rw [br_not (by rfl)]
    refine (law_l1 N _ _ [] (by simp) n hn8 _ _ n N 0 (by omega) (by omega)).trans ?_
    exact fin
  · rw [br_of (by rw [decide_eq_false (by omega)]; rfl), br_of (inB_of (by omega))]
    refine (law_l1 N _ _ l (by omega) n hn8 _ _ n N 0 (by omega) (by omega)).trans ?_
    exact fin

theorem runFails_true {R : Type} (n : Nat) (l : List Bool) (x1 : Int) (h1 : 0 ≤ x1 ∧ x1 ≤ 255) (k : Bool → Option R) : Z72 (n + 3000) l x1 k = k true :=
  runFails_N (n + 3000) (by omega) (fun k => awake16 n k) l (fun hl5 m hm k => fails_run n m hm l hl5 k) x1 h1 k

end Go.Proofs.Ythdgncnbnallcaa
