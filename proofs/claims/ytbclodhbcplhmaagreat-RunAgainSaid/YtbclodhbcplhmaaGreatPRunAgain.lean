/-
 the law RunAgain of chapter 16, as a printed function: it comes to true.
-/
import Derived.Test.YtbclodhbcplhmaaGreatPRunL
set_option linter.unusedSimpArgs false
set_option linter.unusedVariables false
set_option linter.unusedSectionVars false
namespace Go.Proofs.YtbclodhbcplhmaaGreat
open Go.Gx

/-! ### the run whose list is the law's own is a run -/
theorem again_l0 {R : Type} (N : Nat) (X : List Bool) (fuel : Int) (k0) : ∀ (n : Nat) (p : List Ins) (nm : List ByteArray) (at' : Int) (lo me : List Int) (ar : List (List Int)) (en co st : Int) (sk f : List Int) (nx : Int) (m : TM) (d : DM) (l : OL) (fi : Int) (fl : List Bool) (o : EV),
  Z61_l0 (R := R) N k0 n (.v1 fuel X p nm at' lo me ar en co st sk f nx m d l fi fl o) = Z59_l0 (R := R) N (fun p nm at' lo me ar en co st sk f nx m d l fi fl o => k0 X p nm at' lo me ar en co st sk f nx m d l fi fl o) n (.v1 fuel p nm at' lo me ar en co st sk f nx m d l fi fl o) := by
 intro n
 induction n with
 | zero => intros; rfl
 | succ n ih =>
  intro p nm at' lo me ar en co st sk f nx m d l fi fl o
  simp only [Z61_l0, Z61_l0_T1, Z59_l0, Z59_l0_T1, ih]
theorem again_all {R : Type} (N : Nat) (p : List Ins) (nm : List ByteArray) (L0 : List EN) (fs ar : List (List Int)) (fuel : Int) (X : List Bool) (hX : X.length ≤ 1000000) (k0 k1 k2 k3 k4) : Z61 (R := R) N p nm L0 fs ar fuel X k0 k1 k2 k3 k4 = Z59 (R := R) N p nm L0 fs ar X fuel (fun e => k0 e X) (k1 X) (k2 X) (k3 X) (fun p nm at' lo me ar en co st sk f nx m d l fi fl o => k4 X p nm at' lo me ar en co st sk f nx m d l fi fl o) := by
 have e0 : ∀ n k x X, Z61_l0 (R := R) N k n (.v0 x X) = none := fun n k x X => by cases n <;> rfl
 have e1 : ∀ n k x, Z59_l0 (R := R) N k n (.v0 x) = none := fun n k x => by cases n <;> rfl
 have c1 : ∀ K, Z17 (R := R) N X K = K X 0 X := fun K => by
  unfold Z17 Z17_T slices_Clone__bool_bool_a594
  rw [sub_all, br_of (fits_of (by omega)), br_of (by rw [decide_eq_true (by omega)]; rfl)]
 have c2 : ∀ K, Z16 (R := R) N X K = K 0 X := fun K => by
  unfold Z16 Z16_T slices_Clone__bool_bool
  rw [br_of (by rw [decide_eq_true (by omega)]; rfl)]
 unfold Z61 Z61_T Z59 Z59_T Z98 Z98_T Z95 Z95_T
 simp only [again_l0, e0, e1, c1, c2]
theorem again_run {R : Type} (N : Nat) (p : List Ins) (nm : List ByteArray) (L0 : List EN) (fs ar : List (List Int)) (fuel : Int) (X : List Bool) (hX : X.length ≤ 1000000) (k0 k1 k2 k3 k4) : Z56 (R := R) N p nm L0 fs ar fuel X k0 k1 k2 k3 k4 = Z55 (R := R) N p nm L0 fs ar X fuel (fun e o => k0 e X o) (fun o => k1 X o) (fun o => k2 X o) (fun o => k3 X o) (fun a b o => k4 a b X o) := by
 unfold Z56 Z56_T Z55 Z55_T
 rw [again_all (hX := hX)]

/-! ### more entries -/
theorem more_l0 {R : Type} (N : Nat) (k0) (L0 : List EN) (a1 a2 : Int) (p : List Ins) (nm : List ByteArray) (fs ar : List (List Int)) (fl : List Bool) (fuel b1 b2 : Int) (o1 : EV) (c1 c2 : Int) (o2 : EV) (fs' ar' : List (List Int)) : ∀ (e n : Nat) (M : List Bool), 400 - M.length = e → M.length ≤ 400 → e < n → Z49_l0 (R := R) N k0 n L0 a1 a2 p nm fs ar fl fuel b1 b2 o1 c1 c2 o2 fs' ar' M = k0 L0 a1 a2 p nm fs ar fl fuel b1 b2 o1 c1 c2 o2 fs' ar' (M ++ List.replicate (400 - M.length) false) := by
 intro e
 induction e with
 | zero =>
  intro n M he hM hn
  obtain ⟨n, rfl⟩ : ∃ n', n = n' + 1 := ⟨n - 1, by omega⟩
  simp only [Z49_l0, Z49_l0_T0]
  rw [br_not (decide_eq_false (by omega)), he]
  simp
 | succ e ih =>
  intro n M he hM hn
  obtain ⟨n, rfl⟩ : ∃ n', n = n' + 1 := ⟨n - 1, by omega⟩
  simp only [Z49_l0, Z49_l0_T0]
  rw [br_of (decide_eq_true (by omega)), br_of (by rw [fits_of (by omega), decide_eq_true (by omega)]; rfl), sub_all]
  have := ih n (M ++ [false]) (by simp; omega) (by simp; omega) (by omega)
  rw [show 400 - M.length = (400 - (M ++ [false]).length) + 1 by simp; omega, List.replicate_succ, List.append_cons M false (List.replicate (400 - (M ++ [false]).length) false)]
  exact this

theorem more_get (fl : List Bool) (h : fl.length ≤ 400) (x : Nat) (hx : x < 400) : (fl ++ List.replicate (400 - fl.length) false ++ [true]).getD x false = fl.getD x false := by
 rw [List.getD_eq_getElem?_getD, List.getD_eq_getElem?_getD, List.getElem?_append_left (by simp; omega)]
 by_cases hl : x < fl.length
 ·rw [List.getElem?_append_left hl]
 ·rw [List.getElem?_append_right (by omega), List.getElem?_replicate, List.getElem?_eq_none (by omega)]
  split <;> rfl

theorem runAgain_N {R : Type} (N : Nat) (hN : 2000 < N) (hA : ∀ k : Bool → Option R, Z51 N k = k true) (p : List Ins) (nm : List ByteArray) (hnl : nm.length ≤ 9223372036854775807) (hnN : nm.length < N) (L0 : List EN) (fs ar : List (List Int)) (fl : List Bool) (fuel : Int) (k : Bool → Option R) :
  Z49 N p nm L0 fs ar fl fuel k = k true := by
 unfold Z49 Z49_T
 rw [hA, Bool.not_true, br_false]
 obtain ⟨b, hb⟩ := Small_ex N p nm hnl hnN
 rw [hb]
 cases b with
 | false => rfl
 | true =>
 rw [Bool.not_true, Bool.not_false, br_true]
 rcases smallT N (by omega) L0 _ with h | h
 ·exact h.trans rfl
 refine h.trans ?_
 rw [Bool.not_true, Bool.not_false, br_true]
 rcases small16 N (by omega) fs ar fl _ with h | ⟨hfs, hfl, h⟩
 ·exact h.trans rfl
 refine h.trans ?_
 rw [Bool.not_true, Bool.not_false, br_true]
 by_cases h8 : (8 : Int) ≤ (L0.length : Int)
 ·rw [br_of (decide_eq_true h8)]
 rw [br_not (decide_eq_false h8)]
 have okf : OKf (fun x => fl.getD x false) fl := ⟨by omega, fun _ _ => rfl⟩
 have okm : OKf (fun x => fl.getD x false) ((fl ++ List.replicate (400 - fl.length) false) ++ [true]) := ⟨by simp; omega, fun x hx => more_get fl (by omega) x hx⟩
 have hm : (([] : List Bool) ++ fl) = fl := rfl
 have g0 : ((decide ((((0 : Nat) + (List.length fl)) * (1 : Nat)) ≤ (70368744177664 : Nat))) && true) = true := by rw [decide_eq_true (by omega)]; rfl
 have g1 : (((fits (0 : Nat) (List.length (fl ++ List.replicate (400 - fl.length) false)) (fl ++ List.replicate (400 - fl.length) false)) && (decide ((((List.length (fl ++ List.replicate (400 - fl.length) false)) + (1 : Nat)) * (1 : Nat)) ≤ (70368744177664 : Nat)))) && true) = true := by
  have hl : (fl ++ List.replicate (400 - fl.length) false).length = 400 := by simp; omega
  rw [fits_of (by omega), hl]; rfl
 have s0 : ∀ (a b : Int) (o : EV), o.length ≤ 400 → ∀ K, Z54 (R := R) N a b a b o o K = K true o o := fun a b o ho K => same_eq N o (by omega) (by omega) a b K
 rcases outc N hN p nm L0 fs ar (by omega) (fun x => fl.getD x false) with ⟨e, he, g⟩ | g | g | ⟨T, C, g3, g⟩
 ·have r : ∀ X, OKf (fun x => fl.getD x false) X → ∀ k0 k1 k2 k3 k4, Z55 (R := R) N p nm L0 fs ar X fuel k0 k1 k2 k3 k4 = k0 e [] := fun X hX k0 k1 k2 k3 k4 => Outc.err he (fun k0 k1 k2 k3 k4 => g X fuel k0 k1 k2 k3 k4 hX) k0 k1 k2 k3 k4
  refine (r fl okf _ _ _ _ _).trans ?_
  refine (r fl okf _ _ _ _ _).trans ?_
  refine (br_of g0 _ _).trans ?_
  refine (more_l0 N _ L0 _ _ p nm fs ar fl fuel _ _ _ _ _ _ fs ar (400 - fl.length) N fl rfl (by omega) (by omega)).trans ?_
  refine (br_of g1 _ _).trans ?_
  rw [sub_all]
  refine (again_run N p nm L0 fs ar fuel _ (by have := okm.1; omega) _ _ _ _ _).trans ?_
  refine (r _ okm _ _ _ _ _).trans ?_
  refine (br_of (decide_eq_true rfl) _ _).trans ?_
  refine (br_of (decide_eq_true rfl) _ _).trans ?_
  refine (s0 _ _ _ (by simp) _).trans ?_
  exact s0 _ _ _ (by simp) _
 ·have r : ∀ X, OKf (fun x => fl.getD x false) X → ∀ k0 k1 k2 k3 k4, Z55 (R := R) N p nm L0 fs ar X fuel k0 k1 k2 k3 k4 = k1 [] := fun X hX k0 k1 k2 k3 k4 => by unfold Z55 Z55_T; rw [g X fuel _ _ _ _ _ hX]
  refine (r fl okf _ _ _ _ _).trans ?_
  refine (r fl okf _ _ _ _ _).trans ?_
  refine (br_of g0 _ _).trans ?_
  refine (more_l0 N _ L0 _ _ p nm fs ar fl fuel _ _ _ _ _ _ fs ar (400 - fl.length) N fl rfl (by omega) (by omega)).trans ?_
  refine (br_of g1 _ _).trans ?_
  rw [sub_all]
  refine (again_run N p nm L0 fs ar fuel _ (by have := okm.1; omega) _ _ _ _ _).trans ?_
  refine (r _ okm _ _ _ _ _).trans ?_
  refine (br_of (decide_eq_true rfl) _ _).trans ?_
  refine (br_of (decide_eq_true rfl) _ _).trans ?_
  refine (s0 _ _ _ (by simp) _).trans ?_
  exact s0 _ _ _ (by simp) _
 ·have r : ∀ X, OKf (fun x => fl.getD x false) X → ∀ k0 k1 k2 k3 k4, Z55 (R := R) N p nm L0 fs ar X fuel k0 k1 k2 k3 k4 = k2 [] := fun X hX k0 k1 k2 k3 k4 => by unfold Z55 Z55_T; rw [g X fuel _ _ _ _ _ hX]
  refine (r fl okf _ _ _ _ _).trans ?_
  refine (r fl okf _ _ _ _ _).trans ?_
  refine (br_of g0 _ _).trans ?_
  refine (more_l0 N _ L0 _ _ p nm fs ar fl fuel _ _ _ _ _ _ fs ar (400 - fl.length) N fl rfl (by omega) (by omega)).trans ?_
  refine (br_of g1 _ _).trans ?_
  rw [sub_all]
  refine (again_run N p nm L0 fs ar fuel _ (by have := okm.1; omega) _ _ _ _ _).trans ?_
  refine (r _ okm _ _ _ _ _).trans ?_
  refine (br_of (decide_eq_true rfl) _ _).trans ?_
  refine (br_of (decide_eq_true rfl) _ _).trans ?_
  refine (s0 _ _ _ (by simp) _).trans ?_
  exact s0 _ _ _ (by simp) _
 by_cases hf : fuel < 0 ∨ 400 < fuel
 ·have r : ∀ X, OKf (fun x => fl.getD x false) X → ∀ k0 k1 k2 k3 k4, Z55 (R := R) N p nm L0 fs ar X fuel k0 k1 k2 k3 k4 = k3 [] := fun X hX k0 k1 k2 k3 k4 => by unfold Z55 Z55_T; rw [g3 X fuel _ _ _ _ _ hX hf]
  refine (r fl okf _ _ _ _ _).trans ?_
  refine (r fl okf _ _ _ _ _).trans ?_
  refine (br_of g0 _ _).trans ?_
  refine (more_l0 N _ L0 _ _ p nm fs ar fl fuel _ _ _ _ _ _ fs ar (400 - fl.length) N fl rfl (by omega) (by omega)).trans ?_
  refine (br_of g1 _ _).trans ?_
  rw [sub_all]
  refine (again_run N p nm L0 fs ar fuel _ (by have := okm.1; omega) _ _ _ _ _).trans ?_
  refine (r _ okm _ _ _ _ _).trans ?_
  refine (br_of (decide_eq_true rfl) _ _).trans ?_
  refine (br_of (decide_eq_true rfl) _ _).trans ?_
  refine (s0 _ _ _ (by simp) _).trans ?_
  exact s0 _ _ _ (by simp) _
 ·obtain ⟨q, rfl, hq⟩ : ∃ q : Nat, fuel = (q : Int) ∧ q ≤ 400 := ⟨fuel.toNat, by omega, by omega⟩
  obtain ⟨at2, lo2, me2, sk2, f2, nx2, m2, d2, l2, j2, g2⟩ := g q hq
  have ho := C.out q hq
  have ht := C.steps q q (by omega) hq
  have ho4 : (T q).2.2.1.length ≤ 400 := by omega
  have r : ∀ X, OKf (fun x => fl.getD x false) X → ∀ k0 k1 k2 k3 k4, Z55 (R := R) N p nm L0 fs ar X (q : Int) k0 k1 k2 k3 k4 = k4 (T q).1 (T q).2.1 (T q).2.2.1 := fun X hX k0 k1 k2 k3 k4 => by unfold Z55 Z55_T; rw [g2 X _ _ _ _ _ hX]
  refine (r fl okf _ _ _ _ _).trans ?_
  refine (r fl okf _ _ _ _ _).trans ?_
  refine (br_of g0 _ _).trans ?_
  refine (more_l0 N _ L0 _ _ p nm fs ar fl (q : Int) _ _ _ _ _ _ fs ar (400 - fl.length) N fl rfl (by omega) (by omega)).trans ?_
  refine (br_of g1 _ _).trans ?_
  rw [sub_all]
  refine (again_run N p nm L0 fs ar (q : Int) _ (by have := okm.1; omega) _ _ _ _ _).trans ?_
  refine (r _ okm _ _ _ _ _).trans ?_
  refine (br_of (decide_eq_true rfl) _ _).trans ?_
  refine (br_of (decide_eq_true rfl) _ _).trans ?_
  refine (s0 _ _ _ ho4 _).trans ?_
  exact s0 _ _ _ ho4 _

theorem runAgain_run {R : Type} (p : List Ins) (nm : List ByteArray) (hnl : nm.length ≤ 9223372036854775807) (L0 : List EN) (fs ar : List (List Int)) (fl : List Bool) (fuel : Int) (k : Bool → Option R) :
  Z49 (nm.length + 3000) p nm L0 fs ar fl fuel k = k true :=
 runAgain_N (nm.length + 3000) (by omega) (fun k => awake16 _ k) p nm hnl (by omega) L0 fs ar fl fuel k

end Go.Proofs.YtbclodhbcplhmaaGreat
