/-
  the files (chapter 14): bytes upon bytes.
-/
import Derived.Test.YtfeacgamgdpojaaPFilesM
set_option linter.unusedSimpArgs false
set_option linter.unusedVariables false
namespace Go.Proofs.Ytfeacgamgdpojaa
open Go.Gx

/-- bytes, written upon others -/
def overV (was : List Int) (a : Nat) (c : List Int) : List Int :=
  (sizedV was (max was.length (a + c.length))).take a ++ (c ++ (sizedV was (max was.length (a + c.length))).drop (a + c.length))

theorem overV_len (was : List Int) (a : Nat) (c : List Int) : (overV was a c).length = max was.length (a + c.length) := by
  unfold overV
  simp [sizedV_len]
  omega

theorem sizedV_get (b : List Int) (n i : Nat) (h : b.length ≤ n) : (sizedV b n).getD i 0 = b.getD i 0 := by
  unfold sizedV
  rw [List.take_of_length_le h]
  simp only [List.getD_eq_getElem?_getD, List.getElem?_append, List.getElem?_replicate]
  split
  · rfl
  · rw [List.getElem?_eq_none (l := b) (by omega)]
    split <;> rfl

theorem overV_get (was : List Int) (a : Nat) (c : List Int) (i : Nat) :
    (overV was a c).getD i 0 = if a ≤ i ∧ i < a + c.length then c.getD (i - a) 0 else was.getD i 0 := by
  have hs := fun i => sizedV_get was (max was.length (a + c.length)) i (by omega)
  have hl := sizedV_len was (max was.length (a + c.length))
  unfold overV
  generalize sizedV was (max was.length (a + c.length)) = S at hs hl
  simp only [List.getD_eq_getElem?_getD, List.getElem?_append, List.getElem?_take, List.getElem?_drop, List.length_take] at hs ⊢
  by_cases h1 : i < a
  · rw [if_pos (show i < min a S.length by omega), if_pos h1, if_neg (show ¬ (a ≤ i ∧ i < a + c.length) by omega), hs]
  · rw [if_neg (by omega)]
    by_cases h2 : i < a + c.length
    · rw [if_pos (by omega), if_pos (by omega)]
      congr 2
      omega
    · rw [if_neg (by omega), if_neg (by omega), ← hs]
      congr 2
      omega

end Go.Proofs.Ytfeacgamgdpojaa
