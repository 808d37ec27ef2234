/-
  TermVars: a variable that does not stand in a term changes nothing of its value; those that are told rise.
-/
import Derived.Test.YteagdmkedffplaaPTermBuild
import Derived.Test.YteagdmkedffplaaPTermW
import Derived.Test.YteagdmkedffplaaPTermV0112
import Derived.Test.YteagdmkedffplaaPTermWf
set_option linter.unusedSimpArgs false
set_option linter.unusedVariables false
namespace Go.Proofs.Yteagdmkedffplaa
open Go.Gx

theorem awake_tw (n : Nat) {R : Type} (k : Bool → Option R) : law2_awake (n + 3000) k = k true := by kernel_rfl

theorem vars_l1 (N : Nat) (e : List Int) (o i : Int) (l : List Nd) (b : By) (ws : Ws) (L : List Md) (V : List Int) (hV : ∀ t ∈ V, 0 ≤ t ∧ t < 64) (up : V.Pairwise (· < ·)) (hlen : V.length ≤ 64) :
    ∀ (n q : Nat) (seen : List Bool), q ≤ V.length → V.length - q < n → seen.length = 64 → (∀ j < q, seen.getD (V.getD j 0).toNat false = true) →
      ∃ seen' : List Bool, seen'.length = 64 ∧ (∀ t ∈ V, seen'.getD t.toNat false = true) ∧
        ∀ {R : Type} (k0 : List Int → Int → Bool → Int → List Nd → By → Ws → List Md → List Bool → Option R) (k1 : List Int → Int → Int → List Nd → By → Ws → List Md → List Bool → Option R),
          law2_TermVars_l1 N k0 k1 n e o i (q : Int) l b ws L V seen = k1 e o i l b ws L seen'
  | 0, q, seen, hq, h, _, _ => by omega
  | n + 1, q, seen, hq, h, hs, inv => by
    by_cases c : q < V.length
    · have hg : V.getD q 0 = V[q] := by rw [List.getD_eq_getElem?_getD, List.getElem?_eq_getElem c]; rfl
      have hm := hV _ (List.getElem_mem c)
      rw [← hg] at hm
      have inv' : ∀ j < q + 1, (seen.set (V.getD q 0).toNat true).getD (V.getD j 0).toNat false = true := fun j hj => by
        rw [getD_set]
        split
        · rfl
        · rename_i hne
          by_cases hj' : j < q
          · exact inv j hj'
          · have : j = q := by omega
            subst this
            exact absurd ⟨rfl, by omega⟩ hne
      obtain ⟨seen', s1, s2, s3⟩ := vars_l1 N e o i l b ws L V hV up hlen n (q + 1) (seen.set (V.getD q 0).toNat true) (by omega) (by omega) (by rw [List.length_set]; exact hs) inv'
      refine ⟨seen', s1, s2, fun k0 k1 => ?_⟩
      unfold law2_TermVars_l1 law2_TermVars_l1_T0
      rw [br_dec, if_pos (by omega), inB_of (by omega), br_true, Int.toNat_natCast, decide_eq_true c, br_true]
      simp only [inB_of (show 0 ≤ (q : Int) ∧ (q : Int) < V.length by omega), br_true, Int.toNat_natCast, decide_eq_true c]
      rw [br_ndec, if_neg (by omega), br_ndec, if_neg (by omega), br_dec, w64_succ (by omega)]
      by_cases h0 : q = 0
      · rw [if_neg (by omega), inB_of (by omega), br_true, decide_eq_true (by omega), br_true]
        exact s3 k0 k1
      · have hp : q - 1 < V.length := by omega
        have hg' : V.getD (q - 1) 0 = V[q - 1] := by rw [List.getD_eq_getElem?_getD, List.getElem?_eq_getElem hp]; rfl
        have hlt := List.pairwise_iff_getElem.1 up (q - 1) q hp c (by omega)
        rw [← hg, ← hg'] at hlt
        have ew : IntKind.wrap .i64 ((q : Int) - 1) = ((q - 1 : Nat) : Int) := by rw [w64 (by omega)]; omega
        rw [if_pos (by omega), ew, inB_of (show 0 ≤ ((q - 1 : Nat) : Int) ∧ ((q - 1 : Nat) : Int) < V.length by omega), br_true, Int.toNat_natCast, decide_eq_true hp, br_true, br_dec, if_neg (by omega), inB_of (by omega), br_true, decide_eq_true (by omega), br_true]
        exact s3 k0 k1
    · have e1 : q = V.length := by omega
      subst e1
      refine ⟨seen, hs, fun t ht => ?_, fun k0 k1 => ?_⟩
      · obtain ⟨j, hj, rfl⟩ := List.getElem_of_mem ht
        have hj' : V.getD j 0 = V[j] := by rw [List.getD_eq_getElem?_getD, List.getElem?_eq_getElem hj]; rfl
        rw [← hj']
        exact inv j hj
      · unfold law2_TermVars_l1 law2_TermVars_l1_T0
        rw [decide_eq_false (by omega), br_false]

/-- numbers of sixteen bits -/
def U16s (l : List Int) : Prop := ∀ x ∈ l, 0 ≤ x ∧ x < 65536
theorem U16s.get {l : List Int} (h : U16s l) (i : Nat) : 0 ≤ l.getD i 0 ∧ l.getD i 0 < 65536 := by
  rw [List.getD_eq_getElem?_getD]
  by_cases c : i < l.length
  · rw [List.getElem?_eq_getElem c]
    exact h _ (List.getElem_mem c)
  · rw [List.getElem?_eq_none (by omega)]
    exact ⟨by decide, by decide⟩
theorem U16s.set {l : List Int} (h : U16s l) (i : Nat) {x : Int} (hx : 0 ≤ x ∧ x < 65536) : U16s (l.set i x) := fun y hy => by
  rcases List.mem_or_eq_of_mem_set hy with hy | rfl
  · exact h y hy
  · exact hx
theorem U16s.rep (n : Nat) : U16s (List.replicate n 0) := fun y hy => by
  rw [(List.mem_replicate.1 hy).2]
  exact ⟨by decide, by decide⟩

theorem bxor_u16 {a b : Int} (ha : 0 ≤ a ∧ a < 65536) (hb : 0 ≤ b ∧ b < 65536) : 0 ≤ bxor .u16 a b ∧ bxor .u16 a b < 65536 := by
  obtain ⟨a, rfl⟩ : ∃ a' : Nat, a = (a' : Int) := ⟨a.toNat, by omega⟩
  obtain ⟨b, rfl⟩ : ∃ b' : Nat, b = (b' : Int) := ⟨b.toNat, by omega⟩
  rw [bxor16 (by omega) (by omega)]
  have : a ^^^ b < 2 ^ 16 := Nat.xor_lt_two_pow (by omega) (by omega)
  omega

theorem vars_l2 (N : Nat) (e : List Int) (he : U16s e) (o i : Int) (ho : 0 ≤ o ∧ o < 65536) (l : List Nd) (b : By) (ws : Ws) (L : List Md) (seen : List Bool) (hs : seen.length = 64) :
    ∀ (n q : Nat) (xs ys : List Int), q ≤ 64 → 64 - q < n → xs.length = 64 → ys.length = 64 → U16s xs → U16s ys → (∀ j < q, seen.getD j false = true → xs.getD j 0 = ys.getD j 0) →
      ∃ xs' ys' : List Int, xs'.length = 64 ∧ ys'.length = 64 ∧ U16s xs' ∧ U16s ys' ∧ (∀ j < 64, seen.getD j false = true → xs'.getD j 0 = ys'.getD j 0) ∧
        ∀ {R : Type} (k : List Int → Int → Int → List Nd → By → Ws → List Md → List Int → List Int → Option R), law2_TermVars_l2 N k n e o i (q : Int) l b ws L seen xs ys = k e o i l b ws L xs' ys'
  | 0, q, xs, ys, hq, h, _, _, _, _, _ => by omega
  | n + 1, q, xs, ys, hq, h, hx, hy, ux, uy, inv => by
    by_cases c : q < 64
    · have step : ∀ (xs1 : List Int), xs1.length = 64 → U16s xs1 → (∀ j, j ≠ q → xs1.getD j 0 = xs.getD j 0) →
          ∃ xs' ys' : List Int, xs'.length = 64 ∧ ys'.length = 64 ∧ U16s xs' ∧ U16s ys' ∧ (∀ j < 64, seen.getD j false = true → xs'.getD j 0 = ys'.getD j 0) ∧
            ∀ {R : Type} (k : List Int → Int → Int → List Nd → By → Ws → List Md → List Int → List Int → Option R), br (!(seen.getD q false))
              (law2_TermVars_l2 N k n e o i ((q + 1 : Nat) : Int) l b ws L seen xs1 ((ys.set q (xs1.getD q 0)).set q (bxor .u16 (xs1.getD q 0) o)))
              (law2_TermVars_l2 N k n e o i ((q + 1 : Nat) : Int) l b ws L seen xs1 (ys.set q (xs1.getD q 0))) = k e o i l b ws L xs' ys' := fun xs1 h1 u1 same => by
        cases hb : seen.getD q false with
        | true =>
          obtain ⟨xs', ys', a1, a2, a3, a4, a5, a6⟩ := vars_l2 N e he o i ho l b ws L seen hs n (q + 1) xs1 (ys.set q (xs1.getD q 0)) (by omega) (by omega) h1 (by rw [List.length_set]; exact hy) u1 (uy.set q (u1.get q)) (fun j hj hsj => by
            by_cases e : j = q
            · subst e
              rw [getD_set_same (by omega)]
            · rw [getD_set_ne (Ne.symm e), same j e]
              exact inv j (by omega) hsj)
          exact ⟨xs', ys', a1, a2, a3, a4, a5, fun k => by rw [Bool.not_true, br_false]; exact a6 k⟩
        | false =>
          obtain ⟨xs', ys', a1, a2, a3, a4, a5, a6⟩ := vars_l2 N e he o i ho l b ws L seen hs n (q + 1) xs1 ((ys.set q (xs1.getD q 0)).set q (bxor .u16 (xs1.getD q 0) o)) (by omega) (by omega) h1 (by rw [List.length_set, List.length_set]; exact hy) u1 ((uy.set q (u1.get q)).set q (bxor_u16 (u1.get q) ho)) (fun j hj hsj => by
            by_cases e : j = q
            · subst e
              rw [hb] at hsj
              cases hsj
            · rw [getD_set_ne (Ne.symm e), getD_set_ne (Ne.symm e), same j e]
              exact inv j (by omega) hsj)
          exact ⟨xs', ys', a1, a2, a3, a4, a5, fun k => by rw [Bool.not_false, br_true]; exact a6 k⟩
      have b64 : inB (q : Int) 64 = true := inB_of (by omega)
      have bx : inB (q : Int) xs.length = true := inB_of (by omega)
      have bY : inB (q : Int) ys.length = true := inB_of (by omega)
      have dx : q < xs.length := by omega
      have dy : q < ys.length := by omega
      by_cases ce : q < e.length
      · obtain ⟨xs', ys', a1, a2, a3, a4, a5, a6⟩ := step (xs.set q (e.getD q 0)) (by rw [List.length_set]; exact hx) (ux.set q (he.get q)) (fun j hj => getD_set_ne (Ne.symm hj) _ _)
        refine ⟨xs', ys', a1, a2, a3, a4, a5, fun k => ?_⟩
        unfold law2_TermVars_l2 law2_TermVars_l2_T0
        rw [br_dec, if_pos (by omega), br_dec, if_pos (by omega), inB_of (by omega), br_true]
        simp only [b64, bx, bY, br_true, Int.toNat_natCast, decide_eq_true c, decide_eq_true dx, decide_eq_true dy]
        rw [w64_succ (by omega)]
        exact a6 k
      · obtain ⟨xs', ys', a1, a2, a3, a4, a5, a6⟩ := step xs hx ux (fun j hj => rfl)
        refine ⟨xs', ys', a1, a2, a3, a4, a5, fun k => ?_⟩
        unfold law2_TermVars_l2 law2_TermVars_l2_T0
        rw [br_dec, if_pos (by omega), br_dec, if_neg (by omega)]
        simp only [b64, bx, bY, br_true, Int.toNat_natCast, decide_eq_true c, decide_eq_true dx, decide_eq_true dy]
        rw [w64_succ (by omega)]
        exact a6 k
    · have e1 : q = 64 := by omega
      subst e1
      refine ⟨xs, ys, hx, hy, ux, uy, inv, fun k => ?_⟩
      unfold law2_TermVars_l2 law2_TermVars_l2_T0
      rw [decide_eq_false (by omega), br_false]

theorem vars_l0 (N : Nat) (hN : 70000 ≤ N ∧ N ≤ 2 ^ 62) {L : List Md} {l : List Nd} {b : By} {ws : Ws} {vs : List Int} {n0 : Nat} (I : BInv L l b ws vs n0) (e : List Int) (he : U16s e) (o : Int) (ho : 0 ≤ o ∧ o < 65536) (hbig : L.length ≤ 100000) {R : Type} (k0 : Bool → Option R) (k1 : Option R) :
    ∀ (n q : Nat), q ≤ L.length → L.length - q < n → law2_TermVars_l0 N k0 k1 n e o (q : Int) l b ws L = k1
  | 0, q, hq, h => by omega
  | n + 1, q, hq, h => by
    by_cases c : q < L.length
    · have M := I.made q c
      have ih := vars_l0 N hN I e he o ho hbig k0 k1 n (q + 1) (by omega) (by omega)
      have ht : Tm l (L.getD q ((0 : Int), (((0 : Int), ((0 : Int), ((0 : Int), ((0 : Int), ((0 : Int), (0 : Int)))))), ((0 : Int), ((0 : Int), ((0 : Int), (0 : Int))))))).1 := M.tm
      obtain ⟨ys, inn, C, _, hin, hc⟩ := Vars_eq N hN I.ar ws ht
      have hV : ∀ t ∈ pickV inn 64, 0 ≤ t ∧ t < 64 := fun t ht => by
        have := mem_pickV.1 ht
        exact ⟨this.1, by omega⟩
      obtain ⟨seen, s1, s2, s3⟩ := vars_l1 N e o (q : Int) l b ws L (pickV inn 64) hV (pickV_up inn 64) (pickV_len inn 64) N 0 (List.replicate 64 false) (by omega) (by have := pickV_len inn 64; omega) (by simp) (fun j hj => absurd hj (by omega))
      obtain ⟨xs, zs, a1, a2, a3, a4, a5, a6⟩ := vars_l2 N e he o (q : Int) ho l b ws L seen s1 N 0 (List.replicate 64 0) (List.replicate 64 0) (by omega) (by omega) (by simp) (by simp) (U16s.rep 64) (U16s.rep 64) (fun j hj => absurd hj (by omega))
      unfold law2_TermVars_l0 law2_TermVars_l0_T0
      rw [br_dec, if_pos (by omega), inB_of (by omega), br_true, Int.toNat_natCast, decide_eq_true c, br_true]
      refine (hc _).trans ?_
      refine (s3 _ _).trans ?_
      refine (a6 _).trans ?_
      simp only [inB_of (show 0 ≤ (q : Int) ∧ (q : Int) < L.length by omega), br_true, Int.toNat_natCast, decide_eq_true c]
      refine (Eval_0112 N hN I.ar ws xs a3 ht _).trans ?_
      simp only [decide_true, br_true]
      refine (Eval_0112 N hN I.ar ws zs a4 ht _).trans ?_
      have same := Cl.same I.ar C (e := envOf xs xs.length) (f := envOf zs zs.length) (fun t ht h2 => by
        have hvr := (I.ar.nodeOk (C.tm t ht).1).1.var h2
        have hm : ((nd l t).v) ∈ pickV inn 64 := mem_pickV.2 ⟨hvr.1, by omega, hin t ht h2⟩
        unfold envOf
        rw [a1, a2, if_pos (by omega), if_pos (by omega), a5 _ (by omega) (s2 _ hm)]) (L.getD q ((0 : Int), (((0 : Int), ((0 : Int), ((0 : Int), ((0 : Int), ((0 : Int), (0 : Int)))))), ((0 : Int), ((0 : Int), ((0 : Int), (0 : Int))))))).1.toNat _ (by omega) C.has
      rw [same, decide_eq_true rfl, Bool.not_true, br_false, w64_succ (by omega)]
      exact ih
    · have e1 : q = L.length := by omega
      subst e1
      unfold law2_TermVars_l0 law2_TermVars_l0_T0
      rw [decide_eq_false (by omega), br_false]

theorem termVars_true (M : Nat) (hM : 80000 ≤ M ∧ M ≤ 2 ^ 61) {R : Type} (rows : List Nd) (e : List Int) (o : Int) (hr : RowsOk rows) (he : U16s e) (ho : 0 ≤ o ∧ o ≤ 65535) (k : Bool → Option R) : law2_TermVars (M + 3000) rows e o k = k true := by
  unfold law2_TermVars law2_TermVars_T
  rw [awake_tw]
  have hN : 70000 ≤ M + 3000 ∧ M + 3000 ≤ 2 ^ 62 := by
    have e1 : (2 : Nat) ^ 61 = 2305843009213693952 := by decide
    have e2 : (2 : Nat) ^ 62 = 4611686018427387904 := by decide
    omega
  generalize M + 3000 = N at hN ⊢
  rw [Bool.not_true, br_false, br_ndec]
  by_cases c1 : (100 : Int) < (Nat.cast rows.length : Int)
  · rw [if_pos c1]
  rw [if_neg c1, br_dec]
  by_cases c2 : (100 : Int) < (Nat.cast e.length : Int)
  · rw [if_pos c2]
  rw [if_neg c2]
  obtain ⟨L, l, b, ws, vs, I, hc⟩ := Build_eq N hN rows hr (by omega)
  have hbig : L.length ≤ 100000 := by have := I.cnt; omega
  unfold term_New term_New_T
  refine (hc _).trans ?_
  rw [Bool.not_true, br_false]
  exact vars_l0 N hN I e he o (by omega) hbig (fun b => k b) (k true) N 0 (by omega) (by have := I.cnt; omega)

end Go.Proofs.Yteagdmkedffplaa
