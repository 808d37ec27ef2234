/-
  crossroadslaw2's Value and Values: what the reference makes of terms that were made (shape 3151; printed by termvals.py).
-/
import Derived.Test.YteagdmkedffplaaPTermValsA
import Derived.Test.YteagdmkedffplaaPWideRef
set_option linter.unusedSimpArgs false
set_option linter.unusedVariables false
namespace Go.Proofs.Yteagdmkedffplaa
open Go.Gx

theorem Value_eqW (N : Nat) {L : List Md} {l : List Nd} {b : By} {ws : Ws} {vs : List Int} {n : Nat} (I : BInv L l b ws vs n) (e : List Int) (he : ∀ x ∈ e, 0 ≤ x ∧ x < 65536) {q : Nat} (hq : q < L.length) (hbig : L.length ≤ 100000)
    (xs : List Int) (hx : xs.length = q) (hv : ∀ i < q, xs.getD i 0 = ((mvals (envA e) L).getD i 0 : Int)) {R : Type} (k : Int → List Md → List Int → List Int → Option R) :
    law2_Value_c2cb N (q : Int) L xs e k = k ((mvals (envA e) L).getD q 0 : Int) L xs e := by
  have M := I.made q hq
  have hlt : ∀ i < L.length, (mvals (envA e) L).getD i 0 < 2 ^ (L.getD i md0).w.toNat ∧ Wd (L.getD i md0).w := fun i hi => by
    have M := I.made i hi
    rw [← M.val (envA e), ← M.wd]
    exact ⟨I.ar.lt' _ M.tm, I.ar.kw M.tm⟩
  have hw := (hlt q hq).2
  have h16 : ∀ i < L.length, (mvals (envA e) L).getD i 0 < 65536 := fun i hi => by
    have h := hlt i hi
    have := pow_le16 h.2
    omega
  rw [mvals_at (envA e) L q hq M.ok]
  have hok := M.ok
  have hvv := M.v
  obtain ⟨m, hm⟩ : ∃ m, L.getD q md0 = m := ⟨_, rfl⟩
  rw [hm] at hok hvv hw ⊢
  have hm' : L.getD q ((0 : Int), (((0 : Int), ((0 : Int), ((0 : Int), ((0 : Int), ((0 : Int), (0 : Int)))))), ((0 : Int), ((0 : Int), ((0 : Int), (0 : Int)))))) = m := hm
  obtain ⟨T, ⟨op, w', v, a, c, d⟩, w, i, j, kk⟩ := m
  have hw : Wd w := hw
  have hvv : 0 ≤ v ∧ v < 65536 := hvv
  have hok : POk L q op i j kk := hok
  rw [mv_mk]
  unfold law2_Value_c2cb law2_Value_c2cb_T
  rw [inB_of (by omega), br_true, Int.toNat_natCast, decide_eq_true hq, br_true]
  simp only [hm']
  have hp := hw.pos.2.1
  rcases hok with hok | ⟨h0, h1, h2, h3, h4⟩
  · rcases hok with h1 | h2
    · subst h1
      rw [br_ndec, if_pos rfl, if_pos rfl, refMask_eq, br_dec, if_pos rfl, maskI_of hw]
      obtain ⟨v, rfl⟩ : ∃ v' : Nat, v = (v' : Int) := ⟨v.toNat, by omega⟩
      rw [mask_and hp (by omega), Int.toNat_natCast]
    · subst h2
      rw [br_ndec, if_neg (by decide), br_ndec, if_pos rfl, if_neg (show ¬ (2 : Int) = 1 by decide), if_pos rfl, refMask_eq, br_dec, if_neg (by decide), br_dec, if_pos rfl, maskI_of hw, w64 (by omega)]
      obtain ⟨v, rfl⟩ : ∃ v' : Nat, v = (v' : Int) := ⟨v.toNat, by omega⟩
      rw [br_dec, Int.toNat_natCast]
      unfold envA envOf
      by_cases c : v < e.length
      · have := he (e.getD v 0) (by
          rw [List.getD_eq_getElem?_getD, List.getElem?_eq_getElem c]
          exact List.getElem_mem c)
        obtain ⟨y, hy⟩ : ∃ y : Nat, e.getD v 0 = (y : Int) := ⟨(e.getD v 0).toNat, by omega⟩
        rw [if_pos (by omega), inB_of (by omega), br_true, decide_eq_true c, br_true, if_pos c, hy, mask_and hp (by omega), Int.toNat_natCast]
      · rw [if_neg (by omega), if_neg c, Nat.zero_mod]
        rfl
  · have g0 := hv i.toNat (by omega)
    have g1 := hv j.toNat (by omega)
    have g2 := hv kk.toNat (by omega)
    have l0 := h16 i.toNat (by omega)
    rw [br_ndec, if_neg (by omega), br_ndec, if_neg (by omega), inB_of (by omega), br_true, decide_eq_true (by omega), br_true, inB_of (by omega), br_true, decide_eq_true (by omega), br_true, inB_of (by omega), br_true, decide_eq_true (by omega), br_true, refMask_eq]
    rw [br_dec, if_neg (by omega), br_dec, if_neg (by omega), if_neg (by omega), if_neg (by omega), br_dec, g0, g1, g2]
    by_cases h16 : op = 16
    · rw [if_pos h16, if_pos h16, br_dec]
      by_cases hc : (mvals (envA e) L).getD i.toNat 0 = 1
      · rw [if_pos (by omega), if_pos hc]
      · rw [if_neg (by omega), if_neg hc]
    rw [if_neg h16, if_neg h16, br_dec]
    by_cases h17 : op = 17
    · rw [if_pos h17, if_pos (.inl h17), maskI_of hw, mask_and hp l0]
    rw [if_neg h17, br_dec]
    by_cases h18 : op = 18
    · rw [if_pos h18, if_pos (.inr h18), maskI_of hw, mask_and hp l0]
    rw [if_neg h18, if_neg (by omega), inB_of (by omega), br_true, decide_eq_true (by omega), br_true]
    have B0 := hlt i.toNat (by omega)
    obtain ⟨n0, hn, hn'⟩ := B0.2.nat
    have hn2 : (L.getD i.toNat ((0 : Int), (((0 : Int), ((0 : Int), ((0 : Int), ((0 : Int), ((0 : Int), (0 : Int)))))), ((0 : Int), ((0 : Int), ((0 : Int), (0 : Int))))))).2.2.1 = (n0 : Int) := hn
    have D := refDo_eq N (op := op) (w := n0) (a := (mvals (envA e) L).getD i.toNat 0) (b := (mvals (envA e) L).getD j.toNat 0) hn' l0 (by have := hlt j.toNat (by omega); have := pow_le16 this.2; omega) (by omega) (fun x _ => k x L xs e)
    rw [hn2, hn]
    refine D.trans ?_
    have a0 := B0.1
    rw [hn, Int.toNat_natCast] at a0
    rw [Nat.mod_eq_of_lt a0, Int.toNat_natCast]
    by_cases h3' : op = 3
    · subst h3'
      rfl
    · have a1 := (hlt j.toNat (by omega)).1
      rw [← h4 (by omega) (by omega), hn, Int.toNat_natCast] at a1
      rw [Nat.mod_eq_of_lt a1]

theorem values_loopW (N : Nat) {L : List Md} {l : List Nd} {b : By} {ws : Ws} {vs : List Int} {n0 : Nat} (I : BInv L l b ws vs n0) (e : List Int) (he : ∀ x ∈ e, 0 ≤ x ∧ x < 65536) (hbig : L.length ≤ 100000) :
    ∀ (n q : Nat) (xs : List Int), q ≤ L.length → L.length - q < n → xs.length = q → (∀ i < q, xs.getD i 0 = ((mvals (envA e) L).getD i 0 : Int)) →
      ∃ ys : List Int, ys.length = L.length ∧ (∀ i < L.length, ys.getD i 0 = ((mvals (envA e) L).getD i 0 : Int)) ∧ ∀ {R : Type} (k : List Md → List Int → List Int → Option R), law2_Values_3151_l0 N k n (q : Int) L e xs = k L e ys
  | 0, q, xs, hq, h, _, _ => by omega
  | n + 1, q, xs, hq, h, hx, hv => by
    by_cases c : q < L.length
    · obtain ⟨ys, y1, y2, y3⟩ := values_loopW N I e he hbig n (q + 1) (xs ++ [((mvals (envA e) L).getD q 0 : Int)]) (by omega) (by omega) (by simp; omega) (fun i hi => by
        by_cases hi' : i < q
        · rw [getD_app (by omega)]; exact hv i hi'
        · have : i = q := by omega
          subst this
          subst hx
          rw [getD_last])
      refine ⟨ys, y1, y2, fun k => ?_⟩
      unfold law2_Values_3151_l0 law2_Values_3151_l0_T0
      rw [br_dec, if_pos (by omega), Value_eqW N I e he c hbig xs hx hv, fits_of (by omega), decide_eq_true (by omega), sub_all, w64_succ (by omega)]
      exact y3 k
    · have e1 : q = L.length := by omega
      subst e1
      refine ⟨xs, hx, hv, fun k => ?_⟩
      unfold law2_Values_3151_l0 law2_Values_3151_l0_T0
      rw [decide_eq_false (by omega), br_false]

theorem Values_eqW (N : Nat) {L : List Md} {l : List Nd} {b : By} {ws : Ws} {vs : List Int} {n0 : Nat} (I : BInv L l b ws vs n0) (e : List Int) (he : ∀ x ∈ e, 0 ≤ x ∧ x < 65536) (hbig : L.length ≤ 100000) (hN : 200000 ≤ N ∨ L.length < N) :
    ∃ ys : List Int, ys.length = L.length ∧ (∀ i < L.length, ys.getD i 0 = ((mvals (envA e) L).getD i 0 : Int)) ∧ ∀ {R : Type} (k : List Md → List Int → List Int → Option R), law2_Values_3151 N L e k = k L e ys := by
  obtain ⟨ys, y1, y2, y3⟩ := values_loopW N I e he hbig N 0 [] (by omega) (by omega) rfl (fun i hi => absurd hi (by omega))
  refine ⟨ys, y1, y2, fun k => ?_⟩
  unfold law2_Values_3151 law2_Values_3151_T
  exact y3 _

end Go.Proofs.Yteagdmkedffplaa
