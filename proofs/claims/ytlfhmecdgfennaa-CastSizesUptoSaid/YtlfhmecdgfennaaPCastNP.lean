/-
  the places of a cast's bytes and fates (chapter 18): what the printed functions come to.
-/
import Derived.Test.YtlfhmecdgfennaaPCastNS
set_option linter.unusedVariables false
set_option linter.unusedSimpArgs false
namespace Go.Proofs.Ytlfhmecdgfennaa
open Go.Gx

section
variable {R : Type} (N : Nat) (hN : 300 < N) (L : List EN) (S : List Int) (a b c : Int) (H : mayB L S a b c = true)
include hN H

theorem Byte_eq (i : Nat) (hi : i < (capsL L ++ S).length) (o : Nat) (ho : o ≤ 3) (k : Int → Bool → Option R) : cast_Byte N L S a b c (i : Int) (o : Int) k =
    if (o : Int) < (capsL L ++ S)[i] then k (offs ((capsL L ++ S).take i) + 1 + (o : Int)) true else k 0 false := by
  obtain ⟨hf, hL, hS, hC, ha⟩ := may_fit H
  have hb := offs_le (hf.sub i)
  have hlen : ((capsL L ++ S).take i).length ≤ 6 := by rw [List.length_take]; omega
  unfold cast_Byte cast_Byte_T
  rw [Size_eq N hN L S a b c H, if_neg (by omega), Int.toNat_natCast, Caps_eq N (by omega) L (by omega) S (by omega)]
  have hg0 : (capsL L ++ S).getD i 0 = (capsL L ++ S)[i] := by simp only [List.getD, List.getElem?_eq_getElem hi, Option.getD_some]
  simp only [Int.toNat_natCast, hg0]
  rw [br_of (by rw [decide_eq_false (by omega)]; rfl), br_of (by rw [decide_eq_false (by omega)]; rfl), br_of (inB_of (by omega)), br_of (decide_eq_true hi), br_dec]
  by_cases h : (o : Int) < (capsL L ++ S)[i]
  · rw [if_pos h, if_neg (by omega)]
    congr 1
    rw [w64 (x := offs ((capsL L ++ S).take i) + 1) (by omega), w64 (by omega)]
  · rw [if_neg h, if_pos (by omega)]

theorem Byte_out (o : Int) (k : Int → Bool → Option R) : cast_Byte N L S a b c ((capsL L ++ S).length : Int) o k = k 0 false := by
  unfold cast_Byte cast_Byte_T
  rw [Size_eq N hN L S a b c H, if_pos (by omega)]
  rfl

theorem Fail_eq (j : Int) (hj : 0 ≤ j ∧ j ≤ 100) (k : Int → Bool → Option R) : cast_Fail N L S a b c j k = if j < a then k (offs (capsL L ++ S) + j) true else k 0 false := by
  obtain ⟨hf, hL, hS, hC, ha⟩ := may_fit H
  have hb := offs_le hf
  unfold cast_Fail cast_Fail_T
  rw [May_eq17 N (by omega), H, Vars_eq N hN L S a b c H]
  rw [Bool.not_true, Bool.not_false, br_true, br_of (by rw [decide_eq_false (by omega)]; rfl), br_dec, br_of (decide_eq_true rfl), br_of (decide_eq_true rfl)]
  by_cases h : j < a
  · rw [if_pos h, if_neg (by omega)]
    congr 1
    rw [w64 (x := a + offs (capsL L ++ S) - a) (by omega), w64 (by omega)]
    omega
  · rw [if_neg h, if_pos (by omega)]

end

end Go.Proofs.Ytlfhmecdgfennaa
