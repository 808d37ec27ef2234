/-
  TermValues: whatever terms are made: what is refused, the width, the value under each assignment.
-/
import Derived.Test.YteagdmkedffplaaPTermVals
import Derived.Test.YteagdmkedffplaaPTermV1318
import Derived.Test.YteagdmkedffplaaPTermWf
set_option linter.unusedSimpArgs false
set_option linter.unusedVariables false
namespace Go.Proofs.Yteagdmkedffplaa
open Go.Gx

theorem awake_tv (n : Nat) {R : Type} (k : Bool → Option R) : law2_awake (n + 3000) k = k true := by kernel_rfl

theorem tv_loop (N : Nat) (hN : 70000 ≤ N ∧ N ≤ 2 ^ 62) {L : List Md} {l : List Nd} {b : By} {ws : Ws} {vs : List Int} {n0 : Nat} (I : BInv L l b ws vs n0) (e : List Int) (he : ∀ x ∈ e, 0 ≤ x ∧ x < 65536) (hbig : L.length ≤ 100000)
    (ys : List Int) (y1 : ys.length = L.length) (y2 : ∀ i < L.length, ys.getD i 0 = ((mvals (envA e) L).getD i 0 : Int)) {R : Type} (k0 : Bool → Option R) (k1 : Option R) :
    ∀ (n q : Nat), q ≤ L.length → L.length - q < n → law2_TermValues_l0 N k0 k1 n e (q : Int) l b ws L ys = k1
  | 0, q, hq, h => by omega
  | n + 1, q, hq, h => by
    by_cases c : q < L.length
    · have M := I.made q c
      have ih := tv_loop N hN I e he hbig ys y1 y2 k0 k1 n (q + 1) (by omega) (by omega)
      have ht : Tm l (L.getD q ((0 : Int), (((0 : Int), ((0 : Int), ((0 : Int), ((0 : Int), ((0 : Int), (0 : Int)))))), ((0 : Int), ((0 : Int), ((0 : Int), (0 : Int))))))).1 := M.tm
      have hv : val (envA e) l (L.getD q ((0 : Int), (((0 : Int), ((0 : Int), ((0 : Int), ((0 : Int), ((0 : Int), (0 : Int)))))), ((0 : Int), ((0 : Int), ((0 : Int), (0 : Int))))))).1 = (mvals (envA e) L).getD q 0 := M.val (envA e)
      unfold law2_TermValues_l0 law2_TermValues_l0_T0
      rw [br_dec, if_pos (by omega), inB_of (by omega), br_true, Int.toNat_natCast, decide_eq_true c, br_true, inB_of (by omega), br_true, decide_eq_true (by omega), br_true]
      refine (Eval_1318 N hN I.ar ws e he ht _).trans ?_
      rw [show val (envOf e e.length) l _ = _ from hv, y2 q c]
      simp only [decide_true, br_true, Bool.not_true, br_false]
      refine (Known_eq N I.ar ws ht _).trans ?_
      have hk : isNum l (L.getD q ((0 : Int), (((0 : Int), ((0 : Int), ((0 : Int), ((0 : Int), ((0 : Int), (0 : Int)))))), ((0 : Int), ((0 : Int), ((0 : Int), (0 : Int))))))).1 = true → (nd l (L.getD q ((0 : Int), (((0 : Int), ((0 : Int), ((0 : Int), ((0 : Int), ((0 : Int), (0 : Int)))))), ((0 : Int), ((0 : Int), ((0 : Int), (0 : Int))))))).1).v = ((mvals (envA e) L).getD q 0 : Int) := fun h => by
        have hn := val_num I.ar (envA e) ht (by simpa [isNum] using h)
        rw [← hv]
        omega
      rw [w64_succ (by omega)]
      cases hb : isNum l (L.getD q ((0 : Int), (((0 : Int), ((0 : Int), ((0 : Int), ((0 : Int), ((0 : Int), (0 : Int)))))), ((0 : Int), ((0 : Int), ((0 : Int), (0 : Int))))))).1 with
      | false => rw [br_false]; exact ih
      | true =>
        rw [br_true, hk hb, decide_eq_true rfl, Bool.not_true, br_false]
        exact ih
    · have e1 : q = L.length := by omega
      subst e1
      unfold law2_TermValues_l0 law2_TermValues_l0_T0
      rw [decide_eq_false (by omega), br_false]

theorem termValues_true (M : Nat) (hM : 80000 ≤ M ∧ M ≤ 2 ^ 61) {R : Type} (rows : List Nd) (e : List Int) (hr : RowsOk rows) (he : ∀ x ∈ e, 0 ≤ x ∧ x < 65536) (k : Bool → Option R) : law2_TermValues (M + 3000) rows e k = k true := by
  unfold law2_TermValues law2_TermValues_T
  rw [awake_tv]
  have hN : 70000 ≤ M + 3000 ∧ M + 3000 ≤ 2 ^ 62 := by
    have e1 : (2 : Nat) ^ 61 = 2305843009213693952 := by decide
    have e2 : (2 : Nat) ^ 62 = 4611686018427387904 := by decide
    omega
  generalize M + 3000 = N at hN ⊢
  rw [Bool.not_true, br_false, br_ndec]
  by_cases c1 : (200 : Int) < (Nat.cast rows.length : Int)
  · rw [if_pos c1]
  rw [if_neg c1, br_dec]
  by_cases c2 : (100 : Int) < (Nat.cast e.length : Int)
  · rw [if_pos c2]
  rw [if_neg c2]
  obtain ⟨L, l, b, ws, vs, I, hc⟩ := Build_eq N hN rows hr (by omega)
  have hbig : L.length ≤ 100000 := by have := I.cnt; omega
  obtain ⟨ys, y1, y2, y3⟩ := Values_eq N I e he hbig (.inr (by have := I.cnt; omega))
  unfold term_New term_New_T
  refine (hc _).trans ?_
  rw [Bool.not_true, br_false]
  refine (y3 _).trans ?_
  exact tv_loop N hN I e he hbig ys y1 y2 (fun b => k b) (k true) N 0 (by omega) (by have := I.cnt; omega)

end Go.Proofs.Yteagdmkedffplaa
