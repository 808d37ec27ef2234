/-
  numbers of a width: what the document's own answer comes to.
-/
import Derived.Test.YthdgncnbnallcaaGreatPWideMask
set_option linter.unusedSimpArgs false
set_option linter.unusedVariables false
namespace Go.Proofs.YthdgncnbnallcaaGreat
open Go.Gx

theorem w64n {n : Nat} (h : n < 9223372036854775808) : IntKind.wrap .i64 (n : Int) = (n : Int) := w64 (by omega)

theorem refDo_eq {R : Type} (N : Nat) {op : Int} {w a b : Nat} (hw : w = 1 ∨ w = 8 ∨ w = 16) (ha : a < 65536) (hb : b < 65536) (ho : 3 ≤ op ∧ op ≤ 15) (k : Int → Int → Option R) :
    ref1_Do N op (w : Int) (a : Int) (b : Int) k = k ((doN op w (a % 2 ^ w) (b % 2 ^ w) : Nat) : Int) 0 := by
  have hwd : Wd (w : Int) := by unfold Wd; omega
  have hp : 2 ^ w ≤ 65536 := by rcases hw with rfl | rfl | rfl <;> decide
  have hpos : 0 < 2 ^ w := Nat.pow_pos (by omega)
  have hx : a % 2 ^ w < 2 ^ w := Nat.mod_lt _ hpos
  have hy : b % 2 ^ w < 2 ^ w := Nat.mod_lt _ hpos
  have hw16 : w ≤ 16 := by omega
  have mx := mask_and hw16 ha
  have my := mask_and hw16 hb
  have hlt := doN_lt (op := op) (w := w) (by omega) hx hy
  unfold ref1_Do ref1_Do_T
  rw [refMay_eq, decide_eq_true hwd, refMask_eq]
  simp only [Bool.not_true, br_false]
  unfold maskI
  rw [if_pos hwd, Int.toNat_natCast, mx, my]
  have wm : IntKind.wrap .i64 ((2 ^ w - 1 : Nat) : Int) = ((2 ^ w - 1 : Nat) : Int) := w64n (by omega)
  have wx : IntKind.wrap .i64 ((a % 2 ^ w : Nat) : Int) = ((a % 2 ^ w : Nat) : Int) := w64n (by omega)
  have wy : IntKind.wrap .i64 ((b % 2 ^ w : Nat) : Int) = ((b % 2 ^ w : Nat) : Int) := w64n (by omega)
  rw [wm, wx, wy]
  simp only [br_dec]
  have no : ∀ {P : Prop} [Decidable P] {α : Type} {x y : α}, P → (if P then x else y) = x := fun h => if_pos h
  by_cases c3 : op = 3
  · rw [if_pos c3, show (if (IntKind.signed .u16) = true then (-1 : Int) else (IntKind.max .u16)) = ((65535 : Nat) : Int) from rfl, bxor16 (by omega) ha, ones_xor ha, mask_and hw16 (by omega)]
    congr 2
    simp only [doN, c3, if_true]
    rcases hw with rfl | rfl | rfl <;> omega
  rw [if_neg c3]
  by_cases c4 : op = 4
  · have : a &&& b < 65536 := by have := Nat.and_lt_two_pow (n := 16) a (by omega : b < 2 ^ 16); omega
    rw [if_pos c4, band16 ha hb, mask_and hw16 this, Nat.and_mod_two_pow]
    simp [doN, c4]
  rw [if_neg c4]
  by_cases c5 : op = 5
  · have : a ||| b < 65536 := by have := Nat.or_lt_two_pow (n := 16) (by omega : a < 2 ^ 16) (by omega : b < 2 ^ 16); omega
    rw [if_pos c5, bor16 ha hb, mask_and hw16 this, Nat.or_mod_two_pow]
    simp [doN, c5]
  rw [if_neg c5]
  by_cases c6 : op = 6
  · have : a ^^^ b < 65536 := by have := Nat.xor_lt_two_pow (n := 16) (by omega : a < 2 ^ 16) (by omega : b < 2 ^ 16); omega
    rw [if_pos c6, bxor16 ha hb, mask_and hw16 this, Nat.xor_mod_two_pow]
    simp [doN, c6]
  rw [if_neg c6]
  generalize hX : a % 2 ^ w = x at *
  generalize hY : b % 2 ^ w = y at *
  have fin : ∀ (v : Int), v = ((doN op w x y : Nat) : Int) → IntKind.wrap .u16 v = ((doN op w x y : Nat) : Int) := fun v h => by rw [h]; exact wu16n (by omega)
  by_cases c7 : op = 7
  · rw [if_pos c7, w64 (by omega), band64_mask hw16]
    rw [fin _ (by simp [doN, c7])]
  rw [if_neg c7]
  by_cases c8 : op = 8
  · rw [if_pos c8, w64 (by omega), band64_mask hw16]
    rw [fin _ (by
      subst c8
      simp only [doN]
      simp only [show ¬ ((8 : Int) = 3) by decide, show ¬ ((8 : Int) = 4) by decide, show ¬ ((8 : Int) = 5) by decide, show ¬ ((8 : Int) = 6) by decide, show ¬ ((8 : Int) = 7) by decide, if_false, if_true]
      rw [Int.natCast_emod]
      have : ((x + (2 ^ w - y) : Nat) : Int) = ((x : Int) - (y : Int)) + ((2 ^ w : Nat) : Int) := by omega
      rw [this, Int.add_emod_right])]
  rw [if_neg c8]
  by_cases c9 : op = 9
  · have hxy : x * y < 65536 * 65536 := Nat.mul_lt_mul'' (by omega) (by omega)
    have e : (x : Int) * (y : Int) = ((x * y : Nat) : Int) := (Int.natCast_mul _ _).symm
    rw [if_pos c9, e, w64n (by omega), band64_mask hw16]
    rw [fin _ (by simp [doN, c9])]
  rw [if_neg c9]
  by_cases c10 : op = 10
  · rw [if_pos c10]
    by_cases hy0 : y = 0
    · rw [if_pos (by omega)]
      simp [doN, c10, hy0]
    · have hle : x / y ≤ x := Nat.div_le_self _ _
      rw [if_neg (by omega), if_neg (by omega), Int.tdiv_eq_ediv_of_nonneg (by omega), ← Int.natCast_ediv, w64n (by omega)]
      rw [fin _ (by simp [doN, c10, hy0])]
  rw [if_neg c10]
  by_cases c11 : op = 11
  · rw [if_pos c11]
    by_cases hy0 : y = 0
    · rw [if_pos (by omega)]
      rw [fin _ (by simp [doN, c11, hy0])]
    · rw [if_neg (by omega), if_neg (by omega), Int.tmod_eq_emod_of_nonneg (by omega), ← Int.natCast_emod]
      rw [fin _ (by simp [doN, c11, hy0])]
  rw [if_neg c11]
  have u64 : IntKind.wrap .u64 (y : Int) = (y : Int) := by
    have : IntKind.wrap .u64 (y : Int) = (y : Int) % 18446744073709551616 := by simp [IntKind.wrap, IntKind.bits, IntKind.signed]
    rw [this]
    omega
  by_cases c12 : op = 12
  · rw [if_pos c12]
    by_cases hyw : w ≤ y
    · rw [if_pos (by omega)]
      simp [doN, c12, hyw]
    · rw [if_neg (by omega), u64, if_neg (by omega)]
      have h2y : 2 ^ y ≤ 65536 := by
        have := Nat.pow_le_pow_right (n := 2) (by omega) (show y ≤ 16 by omega)
        simpa using this
      have hxy : x * 2 ^ y ≤ 65536 * 65536 := Nat.mul_le_mul (by omega) h2y
      have e : shlI .i64 (x : Int) (y : Int) = ((x * 2 ^ y : Nat) : Int) := by
        unfold shlI
        rw [Int.toNat_natCast, show IntKind.bits .i64 = 64 from rfl, show min y 64 = y by omega]
        have : (x : Int) * 2 ^ y = ((x * 2 ^ y : Nat) : Int) := by rw [Int.natCast_mul, Int.natCast_pow]; rfl
        rw [this, w64n (by omega)]
      rw [e, band64_mask hw16]
      rw [fin _ (by simp [doN, c12, hyw])]
  rw [if_neg c12]
  by_cases c13 : op = 13
  · rw [if_pos c13]
    by_cases hyw : w ≤ y
    · rw [if_pos (by omega)]
      simp [doN, c13, hyw]
    · rw [if_neg (by omega), u64, if_neg (by omega)]
      have e : shrI .i64 (x : Int) (y : Int) = ((x / 2 ^ y : Nat) : Int) := by
        unfold shrI
        rw [Int.toNat_natCast, show IntKind.bits .i64 = 64 from rfl, show min y 64 = y by omega, Int.fdiv_eq_ediv_of_nonneg _ (by exact Int.le_of_lt (Int.pow_pos (by decide))), Int.natCast_ediv, Int.natCast_pow]
        rfl
      rw [e]
      rw [fin _ (by simp [doN, c13, hyw])]
  rw [if_neg c13]
  have ht : ∀ (b : Bool) (k : Int → Option R), ref1_bit N b k = k (if b = true then ((1 : Nat) : Int) else ((0 : Nat) : Int)) := fun b k => by cases b <;> rfl
  by_cases c14 : op = 14
  · rw [if_pos c14, ht]
    have e : ((x : Int) = (y : Int)) = (x = y) := propext ⟨fun h => by omega, fun h => by omega⟩
    simp only [decide_eq_true_eq, e]
    congr 1
    simp only [doN, c14]
    simp
    split <;> rfl
  rw [if_neg c14, if_pos (by omega), ht]
  have c15 : op = 15 := by omega
  simp only [decide_eq_true_eq, Int.ofNat_lt]
  congr 1
  simp only [doN, c15]
  simp
  split <;> rfl

end Go.Proofs.YthdgncnbnallcaaGreat
