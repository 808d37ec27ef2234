/-
  crossroadslaw2's values: each by those ahead.
-/
import Derived.Test.YteagdmkedffplaaPTermBuild
set_option linter.unusedSimpArgs false
set_option linter.unusedVariables false
namespace Go.Proofs.Yteagdmkedffplaa
open Go.Gx

theorem mv_congr {env : Nat → Nat} {L L' : List Md} {vs vs' : List Nat} {m : Md} (h : (m.row.op = 1 ∨ m.row.op = 2) ∨ (vs.getD m.i.toNat 0 = vs'.getD m.i.toNat 0 ∧ vs.getD m.j.toNat 0 = vs'.getD m.j.toNat 0 ∧ vs.getD m.k.toNat 0 = vs'.getD m.k.toNat 0 ∧ (L.getD m.i.toNat md0).w = (L'.getD m.i.toNat md0).w)) :
    mv env L vs m = mv env L' vs' m := by
  unfold mv
  rcases h with (h | h) | ⟨h1, h2, h3, h4⟩
  · rw [if_pos h, if_pos h]
  · have n1 : ¬ m.row.op = 1 := by rw [h]; decide
    rw [if_neg n1, if_neg n1, if_pos h, if_pos h]
  · rw [h1, h2, h3, h4]

/-- each value by those ahead -/
theorem mvals_at' (env : Nat → Nat) : ∀ (n : Nat) (L : List Md), L.length = n → ∀ q : Nat, q < L.length → POk L q (L.getD q md0).row.op (L.getD q md0).i (L.getD q md0).j (L.getD q md0).k →
    (mvals env L).getD q 0 = mv env L (mvals env L) (L.getD q md0) := by
  intro n
  induction n with
  | zero => intro L h0 q h; exact absurd h (by omega)
  | succ n ih' =>
    intro L0 hL0
    rcases List.eq_nil_or_concat L0 with rfl | ⟨L, m, rfl⟩
    · intro q h; exact absurd h (by simp)
    have ih := ih' L (by simp at hL0; omega)
    rw [List.concat_eq_append]
    intro q hq hok
    have hlen := mvals_len env L
    rw [mvals_snoc]
    by_cases h : q < L.length
    · rw [getD_app h] at hok ⊢
      have hok' : POk L q (L.getD q md0).row.op (L.getD q md0).i (L.getD q md0).j (L.getD q md0).k := by
        rcases hok with hok | ⟨h0, h1, h2, h3, h4⟩
        · exact .inl hok
        · refine .inr ⟨h0, h1, h2, h3, fun a b => ?_⟩
          have := h4 a b
          rw [getD_app (by omega), getD_app (by omega)] at this
          exact this
      rw [getD_app (by omega), ih q h hok']
      refine mv_congr ?_
      rcases hok' with hok | ⟨h0, h1, h2, h3, h4⟩
      · exact .inl hok
      · refine .inr ⟨?_, ?_, ?_, ?_⟩
        · rw [getD_app (by omega)]
        · rw [getD_app (by omega)]
        · rw [getD_app (by omega)]
        · rw [getD_app (by omega)]
    · have e : q = L.length := by simp at hq; omega
      subst e
      have e2 : (mvals env L ++ [mv env L (mvals env L) m]).getD L.length 0 = mv env L (mvals env L) m := by
        rw [← hlen]; exact getD_last _ _ _
      rw [e2]
      rw [getD_last] at hok ⊢
      refine mv_congr ?_
      rcases hok with hok | ⟨h0, h1, h2, h3, h4⟩
      · exact .inl hok
      · refine .inr ⟨?_, ?_, ?_, ?_⟩
        · rw [getD_app (by omega)]
        · rw [getD_app (by omega)]
        · rw [getD_app (by omega)]
        · rw [getD_app (by omega)]

theorem mvals_at (env : Nat → Nat) (L : List Md) (q : Nat) (hq : q < L.length) (h : POk L q (L.getD q md0).row.op (L.getD q md0).i (L.getD q md0).j (L.getD q md0).k) :
    (mvals env L).getD q 0 = mv env L (mvals env L) (L.getD q md0) := mvals_at' env L.length L rfl q hq h

/-- an environment out of a row of numbers -/
abbrev envA (e : List Int) : Nat → Nat := envOf e e.length

end Go.Proofs.Yteagdmkedffplaa
