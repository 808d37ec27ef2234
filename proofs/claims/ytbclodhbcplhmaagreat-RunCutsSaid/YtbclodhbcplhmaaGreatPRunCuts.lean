/-
 the law RunCuts of chapter 16, as a printed function: it comes to true.
-/
import Derived.Test.YtbclodhbcplhmaaGreatPRunL
set_option linter.unusedSimpArgs false
set_option linter.unusedVariables false
set_option linter.unusedSectionVars false
namespace Go.Proofs.YtbclodhbcplhmaaGreat
open Go.Gx

theorem cuts_l0 {R : Type} (N : Nat) (k0 k1) (oT oU : EV) (hp : Pre oU oT) (hl : oT.length ≤ 1000000) (kk st a b c d : Int) : ∀ (e i n : Nat), oU.length - i = e → i ≤ oU.length → e < n → Z49_l0 (R := R) N k0 k1 n kk st (i : Int) a b oT c d oU = k1 kk st a b oT c d oU := by
 obtain ⟨w, rfl⟩ := hp
 have hlw : (oU ++ w).length = oU.length + w.length := List.length_append
 intro e
 induction e with
 | zero =>
  intro i n he hi hn
  obtain ⟨n, rfl⟩ : ∃ n', n = n' + 1 := ⟨n - 1, by omega⟩
  simp only [Z49_l0, Z49_l0_T0]
  rw [br_not (decide_eq_false (by omega))]
 | succ e ih =>
  intro i n he hi hn
  obtain ⟨n, rfl⟩ : ∃ n', n = n' + 1 := ⟨n - 1, by omega⟩
  have hin : inB (i : Int) oU.length = true := inB_of (by omega)
  have hin2 : inB (i : Int) (oU ++ w).length = true := inB_of (by omega)
  have hg : (oU ++ w).getD i (false, 0) = oU.getD i (false, 0) := by
   rw [List.getD_eq_getElem?_getD, List.getElem?_append_left (by omega), ← List.getD_eq_getElem?_getD]
  simp only [Z49_l0, Z49_l0_T0, Int.toNat_natCast, hin, hin2, br_true, hg]
  rw [br_of (decide_eq_true (by omega)), br_of (decide_eq_true (by omega)), br_of (decide_eq_true (by omega)), br_not (by simp), w64_succ (by omega)]
  exact ih (i + 1) n (by omega) (by omega) (by omega)

theorem runCuts_N {R : Type} (N : Nat) (hN : 2000 < N) (hA : ∀ k : Bool → Option R, Z51 N k = k true) (p : List Ins) (nm : List ByteArray) (hnl : nm.length ≤ 9223372036854775807) (hnN : nm.length < N) (L0 : List EN) (fs ar : List (List Int)) (fl : List Bool) (fuel : Int) (k : Bool → Option R) :
  Z49 N p nm L0 fs ar fl fuel k = k true := by
 unfold Z49 Z49_T
 rw [hA, Bool.not_true, br_false]
 obtain ⟨b, hb⟩ := Small_ex N p nm hnl hnN
 rw [hb]
 cases b with
 | false => rfl
 | true =>
 rw [Bool.not_true, Bool.not_false, br_true]
 rcases smallT N (by omega) L0 _ with h | h
 ·exact h.trans rfl
 refine h.trans ?_
 rw [Bool.not_true, Bool.not_false, br_true]
 rcases small16 N (by omega) fs ar fl _ with h | ⟨hfs, hfl, h⟩
 ·exact h.trans rfl
 refine h.trans ?_
 rw [Bool.not_true, br_false]
 have okf : OKf (fun x => fl.getD x false) fl := ⟨by omega, fun _ _ => rfl⟩
 obtain ⟨q, hq, hqe⟩ : ∃ q : Nat, q ≤ 400 ∧ (if ((400 : Int) < (if (fuel < (0 : Int)) then (0 : Int) else fuel)) then (400 : Int) else (if (fuel < (0 : Int)) then (0 : Int) else fuel)) = (q : Int) := by
  refine ⟨(if ((400 : Int) < (if (fuel < (0 : Int)) then (0 : Int) else fuel)) then (400 : Int) else (if (fuel < (0 : Int)) then (0 : Int) else fuel)).toNat, ?_, ?_⟩
  ·split <;> split at * <;> omega
  ·split <;> split at * <;> omega
 rw [hqe]
 rcases outc N hN p nm L0 fs ar (by omega) (fun x => fl.getD x false) with ⟨e, he, g⟩ | g | g | ⟨T, C, g3, g⟩
 ·have r : ∀ (fu : Int) k0 k1 k2 k3 k4, Z55 (R := R) N p nm L0 fs ar fl fu k0 k1 k2 k3 k4 = k0 e [] := fun fu k0 k1 k2 k3 k4 => Outc.err he (fun k0 k1 k2 k3 k4 => g fl fu k0 k1 k2 k3 k4 okf) k0 k1 k2 k3 k4
  rw [r]
  rw [r]
  rw [br_not (by rw [decide_eq_false he]; rfl), decide_eq_true rfl]
 ·unfold Z55 Z55_T
  rw [g fl 400 _ _ _ _ _ okf]
  dsimp only
  rw [g fl (q : Int) _ _ _ _ _ okf]
 ·unfold Z55 Z55_T
  rw [g fl 400 _ _ _ _ _ okf]
  dsimp only
  rw [g fl (q : Int) _ _ _ _ _ okf]
 ·obtain ⟨at1, lo1, me1, sk1, f1, nx1, m1, d1, l1, j1, g1⟩ := g 400 (by omega)
  obtain ⟨at2, lo2, me2, sk2, f2, nx2, m2, d2, l2, j2, g2⟩ := g q hq
  have hs := C.steps q 400 hq (by omega)
  have hpre := C.more q 400 hq (by omega)
  have hsp := C.spent q 400 hq (by omega)
  have hsa := C.same q 400 hq (by omega)
  have hfi := C.five q hq
  have ho := C.out 400 (by omega)
  have ht := C.steps 400 400 (by omega) (by omega)
  generalize T 400 = V at *
  generalize T q = U at *
  obtain ⟨en, co, o, n⟩ := V
  obtain ⟨en', co', o', n'⟩ := U
  dsimp only at hs hpre hsp hsa hfi ho ht
  have h4 : o.length ≤ 400 := by omega
  have hol : o'.length ≤ o.length := by obtain ⟨w, rfl⟩ := hpre; simp
  unfold Z55 Z55_T Z57 Z57_T
  refine (g1 fl _ _ _ _ _ okf).trans ?_
  refine (g2 fl _ _ _ _ _ okf).trans ?_
  refine (g1 fl _ _ _ _ _ okf).trans ?_
  refine (g2 fl _ _ _ _ _ okf).trans ?_
  have hm : (n' : Int) = (if (q : Int) < (n : Int) then (q : Int) else (n : Int)) := by split <;> omega
  refine (br_of (by rw [decide_eq_true hm]; rfl) _ _).trans ?_
  have c1 : ¬ ((o.length : Int) < (o'.length : Int)) := by omega
  refine (br_not (decide_eq_false c1) _ _).trans ?_
  refine (cuts_l0 N _ _ o o' hpre (by omega) _ _ _ _ _ _ o'.length 0 N (by omega) (by omega) (by omega)).trans ?_
  by_cases hqn : q < n
  ·obtain ⟨e1, e2⟩ := hsp (by omega)
   have c2 : (!decide ((q : Int) < (n : Int))) = false := by rw [decide_eq_true (by omega)]; rfl
   refine (br_not c2 _ _).trans ?_
   refine (br_of (decide_eq_true e1) _ _).trans ?_
   rw [decide_eq_true e2]
  ·have e := hsa (by omega)
   cases e
   have hsame : ∀ K, Z54 (R := R) N en co en co o o K = K true o o := fun K => same_eq N o (by omega) (by omega) en co K
   have c2 : (!decide ((q : Int) < (n : Int))) = true := by rw [decide_eq_false (by omega)]; rfl
   refine (br_of c2 _ _).trans ?_
   by_cases hnq : (n : Int) = (q : Int)
   ·refine (br_of (decide_eq_true hnq) _ _).trans ?_
    by_cases h5 : en = 5
    ·refine (br_of (decide_eq_true h5) _ _).trans ?_
     refine (br_of (decide_eq_true h5) _ _).trans ?_
     rw [decide_eq_true (hfi h5).1]
    ·refine (br_not (decide_eq_false h5) _ _).trans ?_
     exact hsame _
   ·refine (br_not (decide_eq_false hnq) _ _).trans ?_
    exact hsame _

theorem runCuts_run {R : Type} (p : List Ins) (nm : List ByteArray) (hnl : nm.length ≤ 9223372036854775807) (L0 : List EN) (fs ar : List (List Int)) (fl : List Bool) (fuel : Int) (k : Bool → Option R) :
  Z49 (nm.length + 3000) p nm L0 fs ar fl fuel k = k true :=
 runCuts_N (nm.length + 3000) (by omega) (fun k => awake16 _ k) p nm hnl (by omega) L0 fs ar fl fuel k

end Go.Proofs.YtbclodhbcplhmaaGreat
