/-
  FixWhole: with all variables put in a term is the number that it has under them.
-/
import Derived.Test.YteagdmkedffplaaPFixC
import Derived.Test.YteagdmkedffplaaPFixS390e
import Derived.Test.YteagdmkedffplaaPTermVals
import Derived.Test.YteagdmkedffplaaPTermWf
set_option linter.unusedSimpArgs false
set_option linter.unusedVariables false
namespace Go.Proofs.Yteagdmkedffplaa
open Go.Gx

theorem awake_fw (n : Nat) {R : Type} (k : Bool → Option R) : law3_awake (n + 3000) k = k true := by kernel_rfl

def firstN (e : List Int) (n : Nat) : List Int := (List.range n).map (fun i => e.getD i 0)
theorem firstN_succ (e : List Int) (n : Nat) : firstN e (n + 1) = firstN e n ++ [e.getD n 0] := by
  unfold firstN
  rw [List.range_succ, List.map_append]
  rfl
theorem firstN_len (e : List Int) (n : Nat) : (firstN e n).length = n := by simp [firstN]
theorem firstN_get (e : List Int) {n i : Nat} (h : i < n) : (firstN e n).getD i 0 = e.getD i 0 := by
  unfold firstN
  rw [List.getD_eq_getElem?_getD, List.getElem?_map, List.getElem?_range h]
  rfl

theorem fw_l0 (N : Nat) (e : List Int) (l : List Nd) (b : By) (ws : Ws) (L : List Md) {R : Type} (k : List Int → List Nd → By → Ws → List Md → List Int → List Int → Option R) :
    ∀ (n q : Nat), q ≤ 64 → 64 - q < n → law3_FixWhole_l0 N k n e (q : Int) l b ws L (upto q) (firstN e q) = k e l b ws L (upto 64) (firstN e 64)
  | 0, q, hq, h => by omega
  | n + 1, q, hq, h => by
    unfold law3_FixWhole_l0 law3_FixWhole_l0_T0
    by_cases c : q < 64
    · have ih := fw_l0 N e l b ws L k n (q + 1) (by omega) (by omega)
      rw [upto_succ, firstN_succ] at ih
      have u := upto_len q
      have f := firstN_len e q
      have f1 : fits 0 (upto q).length (upto q) = true := fits_of (by omega)
      have f2 : fits 0 (firstN e q).length (firstN e q) = true := fits_of (by omega)
      have d1 : decide (((upto q).length + 1) * 8 ≤ 70368744177664) = true := decide_eq_true (by omega)
      have d2 : decide (((firstN e q).length + 1) * 2 ≤ 70368744177664) = true := decide_eq_true (by omega)
      rw [br_dec, if_pos (by omega), br_dec, w64_succ (by omega)]
      simp only [f1, f2, d1, d2, sub_all, Bool.and_self, Bool.and_true, br_true]
      by_cases c2 : q < e.length
      · rw [if_pos (by omega), inB_of (by omega), br_true, Int.toNat_natCast]
        exact ih
      · rw [if_neg (by omega)]
        rw [show e.getD q 0 = 0 by rw [List.getD_eq_getElem?_getD, List.getElem?_eq_none (by omega)]; rfl] at ih
        exact ih
    · have e1 : q = 64 := by omega
      subst e1
      rw [decide_eq_false (by omega), br_false]

theorem fw_l1 (N : Nat) (hN : 70000 ≤ N ∧ N ≤ 2 ^ 62) {L : List Md} {l0 : List Nd} {b0 : By} {ws : Ws} {vs : List Int} {n0 : Nat} (I : BInv L l0 b0 ws vs n0) (e : List Int) (he : ∀ x ∈ e, 0 ≤ x ∧ x < 65536) (hL : L.length ≤ 80)
    (ys : List Int) (y1 : ys.length = L.length) (y2 : ∀ i < L.length, ys.getD i 0 = ((mvals (envA e) L).getD i 0 : Int)) {R : Type} (k0 : Bool → Option R) (k1 : Option R) :
    ∀ (n q : Nat) (l : List Nd) (b : By), q ≤ L.length → L.length - q < n → Grown l0 q l b → law3_FixWhole_l1 N k0 k1 n (q : Int) l b ws L (upto 64) (firstN e 64) ys = k1
  | 0, q, l, b, hq, h, _ => by omega
  | n + 1, q, l, b, hq, h, g => by
    by_cases c : q < L.length
    · have M := I.made q c
      have hfew := I.few
      have ht0 : Tm l0 (L.getD q md0).t := M.tm
      have ht := ht0.le g.le
      have hlen := g.few
      have htri := tri_le (q := q + 1) (by omega)
      have htq := M.tq
      have htri' : tri (q + 1) = tri q + 9 * (q + 1) := rfl
      have hget : ∀ j, 0 ≤ (firstN e 64).getD j 0 ∧ (firstN e 64).getD j 0 < 65536 := fun j => by
        by_cases hj : j < 64
        · rw [firstN_get e hj, List.getD_eq_getElem?_getD]
          by_cases hi : j < e.length
          · rw [List.getElem?_eq_getElem hi]
            exact he _ (List.getElem_mem hi)
          · rw [List.getElem?_eq_none (by omega)]
            exact ⟨by decide, by decide⟩
        · rw [List.getD_eq_getElem?_getD, List.getElem?_eq_none (by rw [firstN_len]; omega)]
          exact ⟨by decide, by decide⟩
      obtain ⟨t, l', b', G, hnum, hc⟩ := Some_390e N hN g.ar ws ht (ids := upto 64) (vals := firstN e 64) (by rw [upto_len, firstN_len]) (by rw [upto_len]; omega) hget (by omega)
      obtain ⟨zs, C, _⟩ := Under_eq N g.ar ws ht hN
      have hvar : ∀ u ∈ zs, (nd l u).op = 2 → 0 ≤ (nd l u).v ∧ (nd l u).v < 64 := fun u hu h2 => (g.ar.nodeOk (C.tm u hu).1).1.var h2
      have hop := hnum zs (fun u hu => ⟨C.pa u hu, C.pb u hu, C.pc u hu, fun h2 => by
        have hv := hvar u hu h2
        have := fIx_upto (v := (nd l u).v.toNat) (n := 64)
        rw [show (((nd l u).v.toNat : Nat) : Int) = (nd l u).v by omega, if_pos (by omega)] at this
        rw [this]
        rfl⟩) C.has
      have hval := val_num G.ar (fun _ => 0) G.tm hop
      have hsame : val (putE (upto 64) (firstN e 64) (fun _ => 0)) l (L.getD q md0).t = val (envA e) l (L.getD q md0).t := by
        refine Cl.same g.ar C (fun u hu h2 => ?_) (L.getD q md0).t.toNat _ (by have := ht.1; omega) C.has
        have hv := hvar u hu h2
        unfold putE
        rw [fIx_upto, if_pos (by omega)]
        show ((firstN e 64).getD (nd l u).v.toNat 0).toNat = _
        rw [firstN_get e (by omega)]
        unfold envA envOf
        by_cases hi : (nd l u).v.toNat < e.length
        · rw [if_pos hi]
        · rw [if_neg hi, List.getD_eq_getElem?_getD, List.getElem?_eq_none (by omega)]
          rfl
      have hw : (nd l' t).v = ys.getD q 0 := by
        rw [y2 q c, ← M.val (envA e), ← val_le M.tm.2 g.le, ← hsame, ← G.v]
        omega
      have hnum' : isNum l' t = true := by simp [isNum, hop]
      have ih := fw_l1 N hN I e he hL ys y1 y2 k0 k1 n (q + 1) l' b' (by omega) (by omega) ⟨g.le.trans G.le, G.ar, by have := G.few; omega⟩
      unfold law3_FixWhole_l1 law3_FixWhole_l1_T0
      rw [br_dec, if_pos (by omega), inB_of (by omega), br_true, Int.toNat_natCast, decide_eq_true c, br_true]
      refine (hc _).trans ?_
      refine (Known_eq N G.ar ws G.tm _).trans ?_
      rw [hnum', hw, decide_eq_true rfl]
      simp only [Bool.not_true, Bool.not_false, br_true, br_false, decide_true]
      rw [inB_of (by omega), br_true, decide_eq_true (by omega), br_true, w64_succ (by omega)]
      exact ih
    · have e1 : q = L.length := by omega
      subst e1
      unfold law3_FixWhole_l1 law3_FixWhole_l1_T0
      rw [decide_eq_false (by omega), br_false]

theorem fixWhole_true (M : Nat) (hM : 80000 ≤ M ∧ M ≤ 2 ^ 61) {R : Type} (rows : List Nd) (e : List Int) (hr : RowsOk rows) (he : ∀ x ∈ e, 0 ≤ x ∧ x < 65536) (k : Bool → Option R) : law3_FixWhole (M + 3000) rows e k = k true := by
  unfold law3_FixWhole law3_FixWhole_T
  rw [awake_fw]
  have hN : 70000 ≤ M + 3000 ∧ M + 3000 ≤ 2 ^ 62 := by
    have e1 : (2 : Nat) ^ 61 = 2305843009213693952 := by decide
    have e2 : (2 : Nat) ^ 62 = 4611686018427387904 := by decide
    omega
  generalize M + 3000 = N at hN ⊢
  rw [Bool.not_true, br_false, br_ndec]
  by_cases c1 : (80 : Int) < (Nat.cast rows.length : Int)
  · rw [if_pos c1]
  rw [if_neg c1, br_dec]
  by_cases c2 : (60 : Int) < (Nat.cast e.length : Int)
  · rw [if_pos c2]
  rw [if_neg c2]
  obtain ⟨L, l, b, ws, vs, I, hc⟩ := Build_eq N hN rows hr (by omega)
  have hbig : L.length ≤ 80 := by have := I.cnt; omega
  obtain ⟨ys, y1, y2, y3⟩ := Values_eq N I e he (by omega) (.inr (by omega))
  unfold term_New term_New_T
  refine (hc _).trans ?_
  rw [Bool.not_true, br_false]
  refine (fw_l0 N e l b ws L _ N 0 (by omega) (by omega)).trans ?_
  refine (y3 _).trans ?_
  exact fw_l1 N hN I e he hbig ys y1 y2 (fun b => k b) (k true) N 0 l b (by omega) (by omega) (Grown.start I.ar)

end Go.Proofs.Yteagdmkedffplaa
