/-
 numbers of a width (chapter 1): what the printed functions come to.
-/
import Derived.Test.YtmgoeikbdikmdaaD
import Derived.Test.YtmgoeikbdikmdaaGx5
set_option linter.unusedSimpArgs false
set_option linter.unusedVariables false
namespace Go.Proofs.Ytmgoeikbdikmdaa
open Go.Gx

/-! ### bits as numbers -/
theorem ofInt_nat (n a : Nat) : BitVec.ofInt n (a : Int) = BitVec.ofNat n a := by simp
theorem band16 {a b : Nat} (ha : a < 65536) (hb : b < 65536) : band .u16 (a : Int) (b : Int) = ((a &&& b : Nat) : Int) := by
 unfold band
 rw [show IntKind.bits .u16 = 16 from rfl, ofInt_nat, ofInt_nat, BitVec.toNat_and, BitVec.toNat_ofNat, BitVec.toNat_ofNat, Nat.mod_eq_of_lt ha, Nat.mod_eq_of_lt hb]
 have := Nat.and_lt_two_pow (n := 16) a hb
 exact wu16 (by omega)
theorem bor16 {a b : Nat} (ha : a < 65536) (hb : b < 65536) : bor .u16 (a : Int) (b : Int) = ((a ||| b : Nat) : Int) := by
 unfold bor
 rw [show IntKind.bits .u16 = 16 from rfl, ofInt_nat, ofInt_nat, BitVec.toNat_or, BitVec.toNat_ofNat, BitVec.toNat_ofNat, Nat.mod_eq_of_lt ha, Nat.mod_eq_of_lt hb]
 have := Nat.or_lt_two_pow (n := 16) ha hb
 exact wu16 (by omega)
theorem bxor16 {a b : Nat} (ha : a < 65536) (hb : b < 65536) : bxor .u16 (a : Int) (b : Int) = ((a ^^^ b : Nat) : Int) := by
 unfold bxor
 rw [show IntKind.bits .u16 = 16 from rfl, ofInt_nat, ofInt_nat, BitVec.toNat_xor, BitVec.toNat_ofNat, BitVec.toNat_ofNat, Nat.mod_eq_of_lt ha, Nat.mod_eq_of_lt hb]
 have := Nat.xor_lt_two_pow (n := 16) ha hb
 exact wu16 (by omega)
theorem ones_xor {a : Nat} (ha : a < 65536) : 65535 ^^^ a = 65535 - a := by
 have h : (BitVec.allOnes 16 ^^^ BitVec.ofNat 16 a).toNat = (~~~ BitVec.ofNat 16 a).toNat := by rw [BitVec.allOnes_xor]
 rw [BitVec.toNat_xor, BitVec.toNat_not, BitVec.toNat_ofNat, BitVec.toNat_allOnes, Nat.mod_eq_of_lt ha] at h
 exact h
/-- the lowest bits of what may be less than nought -/
theorem band64_mask {a : Int} {w : Nat} (hw : w ≤ 16) : band .i64 a (((2 ^ w - 1 : Nat)) : Int) = a % ((2 ^ w : Nat) : Int) := by
 unfold band
 have hp : 2 ^ w ≤ 2 ^ 16 := Nat.pow_le_pow_right (by omega) hw
 have hpos : 0 < 2 ^ w := Nat.pow_pos (by omega)
 rw [show IntKind.bits .i64 = 64 from rfl, ofInt_nat, BitVec.toNat_and, BitVec.toNat_ofInt, BitVec.toNat_ofNat, Nat.mod_eq_of_lt (a := 2 ^ w - 1) (by omega), Nat.and_two_pow_sub_one_eq_mod]
 have h1 : ((a % ((2 ^ 64 : Nat) : Int)).toNat % 2 ^ w : Nat) < 2 ^ w := Nat.mod_lt _ hpos
 rw [w64 (by omega)]
 rw [Int.natCast_emod, Int.toNat_of_nonneg (Int.emod_nonneg _ (by decide))]
 exact Int.emod_emod_of_dvd a (Int.natCast_dvd_natCast.2 (Nat.pow_dvd_pow 2 (by omega)))

/-! ### widths -/
def Wd (w : Int) : Prop := w = 1 ∨ w = 8 ∨ w = 16
instance (w : Int) : Decidable (Wd w) := by unfold Wd; infer_instance
theorem Wd.nat {w : Int} (h : Wd w) : ∃ n : Nat, w = (n : Int) ∧ (n = 1 ∨ n = 8 ∨ n = 16) := by
 rcases h with rfl | rfl | rfl
 ·exact ⟨1, rfl, .inl rfl⟩
 ·exact ⟨8, rfl, .inr (.inl rfl)⟩
 ·exact ⟨16, rfl, .inr (.inr rfl)⟩

theorem May_eq' {R : Type} (N : Nat) (w : Int) (k : Bool → Option R) : Z38 N w k = k (decide (Wd w)) := by
 unfold Z38 Z38_T Wd
 simp only [br_ndec]
 by_cases h1 : w = 1
 ·simp [h1]
 ·by_cases h2 : w = 8
  ·simp [h2]
  ·simp [h1, h2]

/-- as many ones -/
def maskI (w : Int) : Int := if Wd w then ((2 ^ w.toNat - 1 : Nat) : Int) else 0

theorem shl1 (n : Nat) (h : n = 1 ∨ n = 8 ∨ n = 16) : IntKind.wrap .u16 (shlI .u16 1 (IntKind.wrap .u64 (n : Int)) - 1) = ((2 ^ n - 1 : Nat) : Int) := by
 rcases h with rfl | rfl | rfl <;> decide +kernel

theorem Mask_eq {R : Type} (N : Nat) (w : Int) (k : Int → Option R) : Z37 N w k = k (maskI w) := by
 unfold Z37 Z37_T maskI
 rw [May_eq', br_ndec]
 by_cases h : Wd w
 ·obtain ⟨n, rfl, hn⟩ := h.nat
  rw [if_pos h, if_pos h]
  have e : decide (IntKind.wrap .u64 (n : Int) < 0) = false := by rcases hn with rfl | rfl | rfl <;> decide +kernel
  rw [e, br_false, shl1 n hn]
  rfl
 ·rw [if_neg h, if_neg h]

/-! ### operators -/
/-- what an operator makes of two numbers of a width -/
def doN (op : Int) (w x y : Nat) : Nat :=
 if op = 3 then 2 ^ w - 1 - x else if op = 4 then x &&& y else if op = 5 then x ||| y else if op = 6 then x ^^^ y
 else if op = 7 then (x + y) % 2 ^ w else if op = 8 then (x + (2 ^ w - y)) % 2 ^ w else if op = 9 then (x * y) % 2 ^ w
 else if op = 10 then (if y = 0 then 2 ^ w - 1 else x / y) else if op = 11 then (if y = 0 then x else x % y)
 else if op = 12 then (if w ≤ y then 0 else x * 2 ^ y % 2 ^ w) else if op = 13 then (if w ≤ y then 0 else x / 2 ^ y)
 else if op = 14 then (if x = y then 1 else 0) else if x < y then 1 else 0

theorem doN_lt {op : Int} {w x y : Nat} (hw : 1 ≤ w) (hx : x < 2 ^ w) (hy : y < 2 ^ w) : doN op w x y < 2 ^ w := by
 have hp : 2 ≤ 2 ^ w := by
  have := Nat.pow_le_pow_right (n := 2) (by omega) hw
  simpa using this
 have hp0 : 0 < 2 ^ w := by omega
 unfold doN
 by_cases c : op = 3
 ·rw [if_pos c]; omega
 rw [if_neg c]
 by_cases c : op = 4
 ·rw [if_pos c]; exact Nat.and_lt_two_pow _ hy
 rw [if_neg c]
 by_cases c : op = 5
 ·rw [if_pos c]; exact Nat.or_lt_two_pow hx hy
 rw [if_neg c]
 by_cases c : op = 6
 ·rw [if_pos c]; exact Nat.xor_lt_two_pow hx hy
 rw [if_neg c]
 by_cases c : op = 7
 ·rw [if_pos c]; exact Nat.mod_lt _ hp0
 rw [if_neg c]
 by_cases c : op = 8
 ·rw [if_pos c]; exact Nat.mod_lt _ hp0
 rw [if_neg c]
 by_cases c : op = 9
 ·rw [if_pos c]; exact Nat.mod_lt _ hp0
 rw [if_neg c]
 by_cases c : op = 10
 ·rw [if_pos c]
  by_cases d : y = 0
  ·rw [if_pos d]; omega
  ·rw [if_neg d]; exact Nat.lt_of_le_of_lt (Nat.div_le_self _ _) hx
 rw [if_neg c]
 by_cases c : op = 11
 ·rw [if_pos c]
  by_cases d : y = 0
  ·rw [if_pos d]; exact hx
  ·rw [if_neg d]; exact Nat.lt_of_le_of_lt (Nat.mod_le _ _) hx
 rw [if_neg c]
 by_cases c : op = 12
 ·rw [if_pos c]
  by_cases d : w ≤ y
  ·rw [if_pos d]; omega
  ·rw [if_neg d]; exact Nat.mod_lt _ hp0
 rw [if_neg c]
 by_cases c : op = 13
 ·rw [if_pos c]
  by_cases d : w ≤ y
  ·rw [if_pos d]; omega
  ·rw [if_neg d]; exact Nat.lt_of_le_of_lt (Nat.div_le_self _ _) hx
 rw [if_neg c]
 by_cases c : op = 14
 ·rw [if_pos c]
  by_cases d : x = y
  ·rw [if_pos d]; omega
  ·rw [if_neg d]; omega
 rw [if_neg c]
 by_cases d : x < y
 ·rw [if_pos d]; omega
 ·rw [if_neg d]; omega

theorem mask_and {w a : Nat} (hw : w ≤ 16) (ha : a < 65536) : band .u16 (a : Int) ((2 ^ w - 1 : Nat) : Int) = ((a % 2 ^ w : Nat) : Int) := by
 have hp : 2 ^ w ≤ 2 ^ 16 := Nat.pow_le_pow_right (by omega) hw
 have hpos : 0 < 2 ^ w := Nat.pow_pos (by omega)
 rw [band16 ha (by omega), Nat.and_two_pow_sub_one_eq_mod]

theorem shl16 {x y : Nat} : shlI .u16 (x : Int) (y : Int) = ((x * 2 ^ (min y 16) % 65536 : Nat) : Int) := by
 unfold shlI
 rw [Int.toNat_natCast, show IntKind.bits .u16 = 16 from rfl, wu16_mod, Int.natCast_emod, Int.natCast_mul, Int.natCast_pow]
 rfl
theorem wu16n {n : Nat} (h : n < 65536) : IntKind.wrap .u16 (n : Int) = (n : Int) := wu16 (by omega)
theorem shr16 {x y : Nat} : shrI .u16 (x : Int) (y : Int) = ((x / 2 ^ (min y 16) : Nat) : Int) := by
 unfold shrI
 rw [Int.toNat_natCast, show IntKind.bits .u16 = 16 from rfl, Int.fdiv_eq_ediv_of_nonneg _ (by exact Int.le_of_lt (Int.pow_pos (by decide))), Int.natCast_ediv, Int.natCast_pow]
 rfl

/-- what an operator makes of two numbers; false: it is none -/
theorem reckon_eq {R : Type} (N : Nat) {op : Int} {w x y : Nat} (hw : w = 1 ∨ w = 8 ∨ w = 16) (hx : x < 2 ^ w) (hy : y < 2 ^ w) (ho : 3 ≤ op ∧ op ≤ 15) (k : Int → Bool → Option R) :
  ∃ v : Nat, v < 65536 ∧ v % 2 ^ w = doN op w x y ∧ Z41 N op (w : Int) (x : Int) (y : Int) k = k (v : Int) true := by
 have hp : 2 ^ w ≤ 2 ^ 16 := Nat.pow_le_pow_right (by omega) (by omega)
 have hx' : x < 65536 := by omega
 have hy' : y < 65536 := by omega
 have hself : ∀ {v : Nat}, v < 2 ^ w → v % 2 ^ w = v := fun h => Nat.mod_eq_of_lt h
 have hlt := doN_lt (op := op) (by omega) hx hy
 unfold Z41 Z41_T
 simp only [br_dec]
 by_cases c3 : op = 3
 ·refine ⟨65535 - x, by omega, ?_, ?_⟩
  ·simp only [doN, c3, if_true]
   rcases hw with rfl | rfl | rfl <;> omega
  ·rw [if_pos c3, show (if (IntKind.signed .u16) = true then (-1 : Int) else (IntKind.max .u16)) = ((65535 : Nat) : Int) from rfl, bxor16 (by omega) hx', ones_xor hx']
 rw [if_neg c3]
 by_cases c4 : op = 4
 ·exact ⟨x &&& y, by have := Nat.and_lt_two_pow (n := 16) x (by omega : y < 2 ^ 16); omega, by rw [hself (Nat.and_lt_two_pow _ hy)]; simp [doN, c4], by rw [if_pos c4, band16 hx' hy']⟩
 rw [if_neg c4]
 by_cases c5 : op = 5
 ·exact ⟨x ||| y, by have := Nat.or_lt_two_pow (n := 16) (by omega : x < 2 ^ 16) (by omega : y < 2 ^ 16); omega, by rw [hself (Nat.or_lt_two_pow hx hy)]; simp [doN, c5], by rw [if_pos c5, bor16 hx' hy']⟩
 rw [if_neg c5]
 by_cases c6 : op = 6
 ·exact ⟨x ^^^ y, by have := Nat.xor_lt_two_pow (n := 16) (by omega : x < 2 ^ 16) (by omega : y < 2 ^ 16); omega, by rw [hself (Nat.xor_lt_two_pow hx hy)]; simp [doN, c6], by rw [if_pos c6, bxor16 hx' hy']⟩
 rw [if_neg c6]
 have hdvd : 2 ^ w ∣ 65536 := by
  have := Nat.pow_dvd_pow 2 (show w ≤ 16 by omega)
  simpa using this
 have hmm : ∀ v : Nat, v % 65536 % 2 ^ w = v % 2 ^ w := fun v => Nat.mod_mod_of_dvd v hdvd
 by_cases c7 : op = 7
 ·refine ⟨(x + y) % 65536, Nat.mod_lt _ (by omega), by rw [hmm]; simp [doN, c7], ?_⟩
  rw [if_pos c7, wu16_mod]
  congr 1
 rw [if_neg c7]
 by_cases c8 : op = 8
 ·refine ⟨(x + (65536 - y)) % 65536, Nat.mod_lt _ (by omega), ?_, ?_⟩
  ·rw [hmm]
   simp only [doN, c8]
   simp only [show ¬ ((8 : Int) = 3) by decide, show ¬ ((8 : Int) = 4) by decide, show ¬ ((8 : Int) = 5) by decide, show ¬ ((8 : Int) = 6) by decide, show ¬ ((8 : Int) = 7) by decide, if_false, if_true]
   rcases hw with rfl | rfl | rfl <;> omega
  ·rw [if_pos c8, wu16_mod]
   congr 1
   omega
 rw [if_neg c8]
 by_cases c9 : op = 9
 ·refine ⟨(x * y) % 65536, Nat.mod_lt _ (by omega), by rw [hmm]; simp [doN, c9], ?_⟩
  rw [if_pos c9, wu16_mod, Int.natCast_emod, Int.natCast_mul]
  rfl
 rw [if_neg c9]
 by_cases c10 : op = 10
 ·rw [if_pos c10]
  unfold Z40 Z40_T
  rw [Mask_eq, br_dec, br_dec]
  by_cases hy0 : y = 0
  ·refine ⟨2 ^ w - 1, by omega, ?_, ?_⟩
   ·rw [hself (by have := Nat.pow_pos (n := w) (show 0 < 2 by omega); omega)]
    simp [doN, c10, hy0]
   ·rw [if_pos (by omega)]
    have hwd : Wd (w : Int) := by unfold Wd; omega
    unfold maskI
    rw [if_pos hwd, Int.toNat_natCast]
  ·have hle : x / y ≤ x := Nat.div_le_self _ _
   refine ⟨x / y, by omega, ?_, ?_⟩
   ·rw [hself (by omega)]
    simp [doN, c10, hy0]
   ·rw [if_neg (by omega), if_neg (by omega), Int.tdiv_eq_ediv_of_nonneg (by omega), ← Int.natCast_ediv, wu16n (by omega)]
 rw [if_neg c10]
 by_cases c11 : op = 11
 ·rw [if_pos c11]
  unfold Z42 Z42_T
  rw [br_dec, br_dec]
  by_cases hy0 : y = 0
  ·refine ⟨x, hx', ?_, ?_⟩
   ·rw [hself hx]
    simp [doN, c11, hy0]
   ·rw [if_pos (by omega)]
  ·have hle : x % y ≤ x := Nat.mod_le _ _
   refine ⟨x % y, by omega, ?_, ?_⟩
   ·rw [hself (by omega)]
    simp [doN, c11, hy0]
   ·rw [if_neg (by omega), if_neg (by omega), Int.tmod_eq_emod_of_nonneg (by omega), ← Int.natCast_emod]
 rw [if_neg c11]
 by_cases c12 : op = 12
 ·rw [if_pos c12, if_neg (by omega)]
  refine ⟨x * 2 ^ (min y 16) % 65536, Nat.mod_lt _ (by omega), ?_, by rw [shl16]⟩
  rw [hmm]
  simp only [doN, c12]
  simp only [show ¬ ((12 : Int) = 3) by decide, show ¬ ((12 : Int) = 4) by decide, show ¬ ((12 : Int) = 5) by decide, show ¬ ((12 : Int) = 6) by decide, show ¬ ((12 : Int) = 7) by decide, show ¬ ((12 : Int) = 8) by decide, show ¬ ((12 : Int) = 9) by decide, show ¬ ((12 : Int) = 10) by decide, show ¬ ((12 : Int) = 11) by decide, if_false, if_true]
  split
  ·have : 2 ^ w ∣ 2 ^ min y 16 := Nat.pow_dvd_pow 2 (by omega)
   exact Nat.mod_eq_zero_of_dvd (Nat.dvd_trans this (Nat.dvd_mul_left _ _))
  ·rw [show min y 16 = y by omega]
 rw [if_neg c12]
 by_cases c13 : op = 13
 ·rw [if_pos c13, if_neg (by omega)]
  have hle : x / 2 ^ (min y 16) ≤ x := Nat.div_le_self _ _
  refine ⟨x / 2 ^ (min y 16), by omega, ?_, by rw [shr16]⟩
  rw [hself (by omega)]
  simp only [doN, c13]
  simp only [show ¬ ((13 : Int) = 3) by decide, show ¬ ((13 : Int) = 4) by decide, show ¬ ((13 : Int) = 5) by decide, show ¬ ((13 : Int) = 6) by decide, show ¬ ((13 : Int) = 7) by decide, show ¬ ((13 : Int) = 8) by decide, show ¬ ((13 : Int) = 9) by decide, show ¬ ((13 : Int) = 10) by decide, show ¬ ((13 : Int) = 11) by decide, show ¬ ((13 : Int) = 12) by decide, if_false, if_true]
  split
  ·apply Nat.div_eq_of_lt
   exact Nat.lt_of_lt_of_le hx (Nat.pow_le_pow_right (by omega) (by omega))
  ·rw [show min y 16 = y by omega]
 rw [if_neg c13]
 have ht : ∀ (b : Bool) (k : Int → Option R), Z43 N b k = k (if b = true then ((1 : Nat) : Int) else ((0 : Nat) : Int)) := fun b k => by cases b <;> rfl
 have h1 : 1 < 2 ^ w := by rcases hw with rfl | rfl | rfl <;> decide
 by_cases c14 : op = 14
 ·refine ⟨if x = y then 1 else 0, by split <;> omega, ?_, ?_⟩
  ·rw [hself (by split <;> omega)]
   simp [doN, c14]
  ·rw [if_pos c14, ht]
   have : ((x : Int) = (y : Int)) = (x = y) := propext ⟨fun h => by omega, fun h => by omega⟩
   simp only [decide_eq_true_eq, this]
   congr 1
   split <;> rfl
 rw [if_neg c14]
 have c15 : op = 15 := by omega
 refine ⟨if x < y then 1 else 0, by split <;> omega, ?_, ?_⟩
 ·rw [hself (by split <;> omega)]
  simp [doN, c15]
 ·rw [if_pos c15, ht]
  simp only [decide_eq_true_eq, Int.ofNat_lt]
  congr 1
  split <;> rfl

theorem reckon_none {R : Type} (N : Nat) {op : Int} (w x y : Int) (ho : ¬ (3 ≤ op ∧ op ≤ 15)) (k : Int → Bool → Option R) : Z41 N op w x y k = k 0 false := by
 unfold Z41 Z41_T
 simp only [br_dec]
 repeat rw [if_neg (by omega)]

/-- what an operator makes of the lowest bits of two numbers -/
theorem Do_eq {R : Type} (N : Nat) {op : Int} {w a b : Nat} (hw : w = 1 ∨ w = 8 ∨ w = 16) (ha : a < 65536) (hb : b < 65536) (ho : 3 ≤ op ∧ op ≤ 15) (k : Int → Int → Option R) :
  Z36 N op (w : Int) (a : Int) (b : Int) k = k ((doN op w (a % 2 ^ w) (b % 2 ^ w) : Nat) : Int) 0 := by
 have hwd : Wd (w : Int) := by unfold Wd; omega
 have hpos : 0 < 2 ^ w := Nat.pow_pos (by omega)
 unfold Z36 Z36_T
 rw [May_eq', decide_eq_true hwd, Mask_eq]
 simp only [Bool.not_true, br_false]
 unfold maskI
 rw [if_pos hwd, Int.toNat_natCast, mask_and (by omega) ha, mask_and (by omega) hb]
 obtain ⟨v, h1, h2, h3⟩ := reckon_eq N hw (Nat.mod_lt a hpos) (Nat.mod_lt b hpos) ho (fun i102 b103 => br (!b103) (k (0 : Int) (5 : Int)) (k (band .u16 i102 ((2 ^ w - 1 : Nat) : Int)) (0 : Int)))
 refine h3.trans ?_
 simp only [Bool.not_true, br_false]
 rw [mask_and (by omega) h1, h2]

theorem Do_none {R : Type} (N : Nat) {op w : Int} (a b : Int) (h : ¬ (3 ≤ op ∧ op ≤ 15) ∨ ¬ Wd w) (k : Int → Int → Option R) : ∃ e : Int, e ≠ 0 ∧ Z36 N op w a b k = k 0 e := by
 unfold Z36 Z36_T
 by_cases hwd : Wd w
 ·have ho : ¬ (3 ≤ op ∧ op ≤ 15) := by
   rcases h with h | h
   ·exact h
   ·exact absurd hwd h
  refine ⟨5, by decide, ?_⟩
  rw [May_eq', decide_eq_true hwd, Mask_eq]
  simp only [Bool.not_true, br_false]
  rw [reckon_none N _ _ _ ho]
  rfl
 ·refine ⟨2, by decide, ?_⟩
  rw [May_eq', decide_eq_false hwd]
  rfl

end Go.Proofs.Ytmgoeikbdikmdaa
