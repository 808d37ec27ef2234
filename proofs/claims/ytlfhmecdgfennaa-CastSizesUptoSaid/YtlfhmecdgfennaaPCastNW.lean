/-
  the law's own guards (chapter 18).
-/
import Derived.Test.YtlfhmecdgfennaaPCastNth
import Derived.KernelRfl
set_option linter.unusedVariables false
set_option linter.unusedSimpArgs false
namespace Go.Proofs.Ytlfhmecdgfennaa
open Go.Gx
set_option maxRecDepth 100000 in
theorem awake18 {R : Type} (n : Nat) (k : Bool → Option R) : law18_awake (n + 3000) k = k true := by kernel_rfl

theorem small_l0 (N : Nat) (L : List EN) (S : List Int) (a b c : Int) (hl : L.length ≤ 9223372036854775807) : ∀ (n q : Nat), q ≤ L.length → L.length - q < n → ∀ (s : Int), ∃ s' : Int, ∀ {R : Type} (k : Int → List EN → List Int → Int → Int → Int → Option R),
    law17_Small_l0 N k n s (q : Int) L S a b c = k s' L S a b c
  | 0, q, _, hn, _ => by omega
  | n + 1, q, hq, hn, s => by
    by_cases hlt : q < L.length
    · obtain ⟨s', hc⟩ := small_l0 N L S a b c hl n (q + 1) (by omega) (by omega) (IntKind.wrap .i64 (s + (L[q].1.size : Int)))
      refine ⟨s', fun k => ?_⟩
      have hg0 : L.getD q (bs [], false, 0) = L[q] := by simp [List.getD, hlt]
      simp only [law17_Small_l0, law17_Small_l0_T0, Int.toNat_natCast, hg0]
      rw [br_of (decide_eq_true (by omega)), br_of (inB_of (by omega)), w64_succ (by omega)]
      exact hc k
    · refine ⟨s, fun k => ?_⟩
      simp only [law17_Small_l0, law17_Small_l0_T0]
      rw [br_not (decide_eq_false (by omega))]

theorem small_ex (N : Nat) (L : List EN) (S : List Int) (a b c : Int) (hl : L.length ≤ 9223372036854775807) (hN : L.length < N) : ∃ w : Bool, (w = true → L.length ≤ 60 ∧ S.length ≤ 60) ∧ ∀ {R : Type} (k : Bool → Option R), law17_Small N L S a b c k = k w := by
  obtain ⟨s, hs⟩ := small_l0 N L S a b c hl N 0 (by omega) (by omega) 0
  refine ⟨decide ((L.length : Int) ≤ 60) && (decide (s ≤ 2000) && decide ((S.length : Int) ≤ 60)), fun h => ?_, fun k => ?_⟩
  · simp only [Bool.and_eq_true, decide_eq_true_eq] at h
    omega
  · unfold law17_Small law17_Small_T
    refine (hs _).trans ?_
    cases decide ((L.length : Int) ≤ 60) <;> cases decide (s ≤ 2000) <;> rfl


end Go.Proofs.Ytlfhmecdgfennaa
