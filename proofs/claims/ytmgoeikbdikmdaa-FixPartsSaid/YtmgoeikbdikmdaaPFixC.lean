/-
 numbers in the place of variables (chapter 3): plain facts for the laws.
-/
import Derived.Test.YtmgoeikbdikmdaaPFixB
import Derived.Test.YtmgoeikbdikmdaaPTermS
import Derived.Test.YtmgoeikbdikmdaaPTermBuild
set_option linter.unusedSimpArgs false
set_option linter.unusedVariables false
namespace Go.Proofs.Ytmgoeikbdikmdaa
open Go.Gx

def tri : Nat → Nat
 | 0 => 0
 | n + 1 => tri n + 9 * (n + 1)
theorem tri_mono : ∀ {a b : Nat}, a ≤ b → tri a ≤ tri b
 | a, 0, h => by rw [Nat.le_zero.1 h]; exact Nat.le_refl _
 | a, b + 1, h => by
  by_cases e : a = b + 1
  ·rw [e]; exact Nat.le_refl _
  ·have := tri_mono (a := a) (b := b) (by omega)
   show tri a ≤ tri b + 9 * (b + 1)
   omega
theorem tri_100 : tri 100 = 45450 := by decide
theorem tri_le {q : Nat} (h : q ≤ 100) : tri q ≤ 45450 := by
 have := tri_mono h
 rw [tri_100] at this
 exact this

/-- the arena behind some terms that were put in -/
structure Grown (l0 : List Nd) (q : Nat) (l : List Nd) (b : By) : Prop where
 le : Le l0 l
 ar : Ar l b
 few : l.length ≤ l0.length + tri q
theorem Grown.start {l0 : List Nd} {b0 : By} (A : Ar l0 b0) : Grown l0 0 l0 b0 := ⟨Le.refl l0, A, by show l0.length ≤ l0.length + 0; omega⟩

/-- the numbers up to some -/
def upto (n : Nat) : List Int := (List.range n).map (fun t : Nat => (t : Int))
theorem upto_succ (n : Nat) : upto (n + 1) = upto n ++ [(n : Int)] := by
 unfold upto
 rw [List.range_succ, List.map_append]
 rfl
theorem upto_len (n : Nat) : (upto n).length = n := by simp [upto]
theorem fIx_app {v : Int} : ∀ {l m : List Int}, fIx v (l ++ m) = (match fIx v l with | some j => some j | none => (fIx v m).map (· + l.length))
 | [], m => by simp [fIx]
 | x :: r, m => by
  simp only [List.cons_append, fIx]
  by_cases e : v = x
  ·rw [if_pos e, if_pos e]
  ·rw [if_neg e, if_neg e, fIx_app (l := r)]
   cases fIx v r with
   | some j => rfl
   | none =>
    cases fIx v m with
    | none => rfl
    | some j => simp only [Option.map_some, Option.map_none, List.length_cons]; congr 1
theorem fIx_upto {v : Nat} : ∀ {n : Nat}, fIx (v : Int) (upto n) = if v < n then some v else none
 | 0 => rfl
 | n + 1 => by
  rw [upto_succ, fIx_app, fIx_upto (n := n)]
  by_cases h : v < n
  ·rw [if_pos h, if_pos (by omega)]
  ·rw [if_neg h]
   show Option.map _ (fIx _ [(n : Int)]) = _
   unfold fIx
   by_cases e : v = n
   ·rw [if_pos (by omega), if_pos (by omega), upto_len]
    show some (0 + n) = some v
    congr 1
    omega
   ·rw [if_neg (by omega), if_neg (by omega)]
    rfl

end Go.Proofs.Ytmgoeikbdikmdaa
