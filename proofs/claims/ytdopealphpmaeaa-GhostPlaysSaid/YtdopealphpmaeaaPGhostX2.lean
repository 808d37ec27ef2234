/-
 the reference's files (chapters 12, 14), with what was opened: paths.
-/
import Derived.Test.YtdopealphpmaeaaPGhostX
set_option linter.unusedSimpArgs false
set_option linter.unusedVariables false
set_option linter.unusedSectionVars false
namespace Go.Proofs.Ytdopealphpmaeaa
open Go.Gx

theorem ropen_l0 {R : Type} (N : Nat) (k0 : Int → Int → List Int → Int → List Int → OL → List (List Int) → List EN → Option R) (n : Nat) (fd : Int) (F : List Int) (nx : Int) (o : List Int) (l : OL) (D : List (List Int)) (hD : D.length ≤ 1000000) (L : List EN) :
  Z57_l0 N k0 (n + 2) (D.length : Int) fd F nx o l D L = k0 (D.length : Int) fd F nx o l (D ++ [[]]) L := by
 simp only [Z57_l0, Z57_l0_T0]
 rw [br_of (decide_eq_true (by omega)), br_of (app24 (by omega)), sub_all, br_not (decide_eq_false (by simp; omega))]

theorem ropen_eq {R : Type} (N : Nat) (hN : 1000 < N) (p : List UInt8) (f : List Int) (hf : f.length = 4) (h0 : ∀ i, i < 4 → 0 ≤ f.getD i 0) (nx : Int) (hx : 0 ≤ nx ∧ nx < 1000000) (L : List EN) (hL : L.length < 1000) (D : List (List Int)) (hD : (D.length : Int) = nx) (l : OL) (hl : l.length ≤ 1000000)
  (K : Int → List Int → Int → OL → List (List Int) → List Int → List EN → Option R) :
  Z57 N (bs p) (fdR f) nx L D (opn l.length) l K =
   if nameB p = false then K 65282 (fdR f) nx l D (opn l.length) L
   else if (findR p L).2.2 = 0 ∧ (findR p L).2.1 = true then K 65301 (fdR f) nx l D (opn l.length) L
   else if aboveR (splitL p).1 L ≠ 0 then K (aboveR (splitL p).1 L) (fdR f) nx l D (opn l.length) L
   else if freeV f < 0 then K 65304 (fdR f) nx l D (opn l.length) L
   else if (findR p L).2.2 = 0 then K (freeV f) (fdR (f.set (freeV f).toNat ((l.length + 1 : Nat) : Int))) nx (l ++ [((findR p L).1, 0)]) D (opn (l.length + 1)) L
   else if makeR p false L = 0 then K (freeV f) (fdR (f.set (freeV f).toNat ((l.length + 1 : Nat) : Int))) (nx + 1) (l ++ [(nx, 0)]) (D ++ [[]]) (opn (l.length + 1)) (L ++ [(bs p, false, nx)])
   else K (makeR p false L) (fdR f) nx l D (opn l.length) L := by
 unfold Z57 Z57_T
 have hfv := freeV_lt f
 obtain ⟨n, rfl⟩ : ∃ n, N = n + 2 := ⟨N - 2, by omega⟩
 rw [NameMay_eq (n + 2) (by omega), br_neg]
 cases hnm : nameB p with
 | false => rfl
 | true =>
  simp only [br_true, Bool.true_eq_false, if_false]
  rw [refFind_eq (n + 2) (by omega) p nx L hL]
  have hab := fun k => refAbove_eq (R := R) (n + 2) (by omega) p nx L hL k
  have hfr := fun k => rfree_eq (R := R) (n + 2) (by omega) f hf h0 nx L D (opn l.length) l k
  have hmk := fun k => refMake_eq (R := R) (n + 2) (by omega) p false nx (by omega) L hL k
  have e0 : ((l.length + 1 : Nat) : Int) - 1 = (l.length : Int) := by omega
  have hset := fun k => fdR_set f k ((l.length + 1 : Nat) : Int)
  rw [e0] at hset
  have ha8 : (((fits 0 (opn l.length).length (opn l.length)) && (decide ((((opn l.length).length) + 1) * 8 ≤ 70368744177664))) && true) = true := app8 (by rw [opn_len]; exact hl)
  simp only [hab, hfr, hmk, sub_all, opn_len, hset, opn_app] at ha8 ⊢
  simp only [ha8, br_true]
  simp only [br_dec, br_ndec]
  by_cases hc : (findR p L).2.2 = 0
  ·simp only [hc, if_true, true_and]
   cases hd : (findR p L).2.1 with
   | true => simp
   | false =>
    simp only [br_false, Bool.false_eq_true, if_false]
    by_cases ha : aboveR (splitL p).1 L = 0
    ·simp only [ha, if_true, ne_eq, not_true, if_false]
     by_cases hv : freeV f < 0
     ·rw [if_pos hv, if_pos hv]
     ·rw [if_neg hv, if_neg hv, br_of (inB_of (by omega)), if_pos (by omega), wu16 (by omega)]
    ·simp [ha]
  ·simp only [hc, if_false, false_and]
   by_cases ha : aboveR (splitL p).1 L = 0
   ·simp only [ha, if_true, ne_eq, not_true, if_false]
    by_cases hv : freeV f < 0
    ·rw [if_pos hv, if_pos hv]
    ·rw [if_neg hv, if_neg hv]
     by_cases hm : makeR p false L = 0
     ·rw [if_pos hm, if_pos hm, ← hD, ropen_l0 (n + 2) _ n _ _ _ _ _ D (by omega)]
      simp only [opn_len, hset, sub_all, opn_app]
      rw [br_of (inB_of (by omega)), if_pos (by omega), br_of ha8, wu16 (by omega)]
     ·rw [if_neg hm, if_neg hm, if_neg hm]
   ·simp [ha]

theorem rbytes_eq {R : Type} (N : Nat) (hN : 1000 < N) (p : List UInt8) (F : List Int) (nx : Int) (L : List EN) (hL : L.length < 1000) (D : List (List Int)) (o : List Int) (l : OL) (hid : ∀ x ∈ L, 0 ≤ x.2.2 ∧ x.2.2 < (D.length : Int))
  (K : List Int → Int → List Int → Int → List EN → List (List Int) → List Int → OL → Option R) :
  Z48 N (bs p) F nx L D o l K = if (findR p L).2.2 = 0 then (if (findR p L).2.1 = true then K [] 65301 F nx L D o l else K (D.getD (findR p L).1.toNat []) 0 F nx L D o l) else K [] (findR p L).2.2 F nx L D o l := by
 unfold Z48 Z48_T
 rw [refFind_eq N hN p nx L hL, br_ndec]
 by_cases h : (findR p L).2.2 = 0
 ·rw [if_pos h, if_pos h]
  obtain ⟨_, x, hk, hf, _⟩ := findR_some h
  have hx := hid x (List.mem_of_find?_eq_some hk)
  rw [hf]
  cases hd : x.2.1 with
  | true => simp
  | false =>
   simp only [br_false, Bool.false_eq_true, if_false]
   rw [br_of (inB_of hx), br_of (decide_eq_true (by omega))]
   rfl
 ·rw [if_neg h, if_neg h]

theorem rname_l0 {R : Type} (N : Nat) (k0 : Int → List Int → Int → List Int → OL → List (List Int) → List EN → Option R) (n : Nat) (c : Int) (F : List Int) (nx : Int) (o : List Int) (l : OL) (D : List (List Int)) (hD : D.length ≤ 1000000) (L : List EN) :
  Z53_l0 N k0 (n + 2) (D.length : Int) 0 F nx o l D L = k0 0 F nx o l (D ++ [[]]) L := by
 simp only [Z53_l0, Z53_l0_T0, decide_true, br_true]
 rw [br_of (decide_eq_true (by omega)), br_of (app24 (by omega)), sub_all, br_not (decide_eq_false (by simp; omega))]
theorem rname_l0' {R : Type} (N : Nat) (k0 : Int → List Int → Int → List Int → OL → List (List Int) → List EN → Option R) (n : Nat) (i c : Int) (hc : c ≠ 0) (F : List Int) (nx : Int) (o : List Int) (l : OL) (D : List (List Int)) (L : List EN) :
  Z53_l0 N k0 (n + 1) i c F nx o l D L = k0 c F nx o l D L := by
 simp only [Z53_l0, Z53_l0_T0]
 rw [br_not (decide_eq_false hc)]

section
variable {R : Type} (N : Nat) (hN : 1000 < N) (p q : List UInt8) (F : List Int) (nx : Int) (L : List EN) (hL : L.length < 1000) (nd : (L.map (·.1)).Nodup) (D : List (List Int)) (o : List Int) (l : OL)
 (k0 : Int → List Int → Int → List Int → OL → List (List Int) → List EN → Option R) (k1 : Int → List Int → Int → List EN → List Int → OL → List (List Int) → List EN → Option R)
include hN hL nd
theorem runlink_eq : Z53 N 33 (bs p) (bs q) F nx L D o l k0 k1 = if dropR p false L = 0 then k1 0 F nx L o l D (del (bs p) L) else k0 (dropR p false L) F nx o l D L := by
 unfold Z53 Z53_T
 rw [br_of (decide_eq_true rfl), refDrop_eq N hN p false nx L hL nd]
theorem rrmdir_eq : Z53 N 36 (bs p) (bs q) F nx L D o l k0 k1 = if dropR p true L = 0 then k1 0 F nx L o l D (del (bs p) L) else k0 (dropR p true L) F nx o l D L := by
 unfold Z53 Z53_T
 rw [br_not (by decide), br_not (by decide), br_not (by decide), br_of (decide_eq_true rfl), refDrop_eq N hN p true nx L hL nd]
theorem rrename_eq : Z53 N 34 (bs p) (bs q) F nx L D o l k0 k1 = k0 (moveR p q L) F nx o l D (movedR p q L) ∨ ∃ L0, Z53 N 34 (bs p) (bs q) F nx L D o l k0 k1 = k1 (moveR p q L) F nx L0 o l D (movedR p q L) := by
 unfold Z53 Z53_T
 rw [br_not (by decide), br_of (decide_eq_true rfl)]
 exact refMove_eq N hN p q nx L hL nd _ _
omit nd in
theorem rmkdir_eq (hx : 0 ≤ nx ∧ nx < 1000000) (hD : (D.length : Int) = nx) : Z53 N 35 (bs p) (bs q) F nx L D o l k0 k1 = if makeR p true L = 0 then k0 0 F (nx + 1) o l (D ++ [[]]) (L ++ [(bs p, true, nx)]) else k0 (makeR p true L) F nx o l D L := by
 obtain ⟨n, rfl⟩ : ∃ n, N = n + 2 := ⟨N - 2, by omega⟩
 unfold Z53 Z53_T
 rw [br_not (by decide), br_not (by decide), br_of (decide_eq_true rfl), refMake_eq (n + 2) hN p true nx (by omega) L hL]
 by_cases h : makeR p true L = 0
 ·rw [if_pos h, if_pos h, ← hD]
  exact rname_l0 (n + 2) _ n 0 _ _ _ _ D (by omega) _
 ·rw [if_neg h, if_neg h]
  exact rname_l0' (n + 2) _ (n + 1) _ _ h _ _ _ _ _ _
omit nd in
theorem rlist_eq : Z53 N 37 (bs p) (bs q) F nx L D o l k0 k1 = k0 (if (findR p L).2.2 ≠ 0 then (findR p L).2.2 else if (findR p L).2.1 = false then 65300 else (manyR (bs p) L : Int)) F nx o l D L := by
 unfold Z53 Z53_T
 rw [br_not (by decide), br_not (by decide), br_not (by decide), br_not (by decide), br_of (decide_eq_true rfl), refMany_eq N hN p nx L hL]
end

end Go.Proofs.Ytdopealphpmaeaa
