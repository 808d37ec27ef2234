/-
  TermOps: each operator on two variables has the value that numbers have.
-/
import Derived.Test.YteagdmkedffplaaPTermVc5c9
import Derived.Test.YteagdmkedffplaaPWideRef
set_option linter.unusedSimpArgs false
set_option linter.unusedVariables false
namespace Go.Proofs.Yteagdmkedffplaa
open Go.Gx

theorem awake2 (n : Nat) {R : Type} (k : Bool → Option R) : law2_awake (n + 3000) k = k true := by kernel_rfl

theorem env2 (a b : Int) (i : Nat) (h : i < 2) : envOf [a, b] 2 i = ([a, b].getD i 0).toNat := by unfold envOf; rw [if_pos h]

theorem got_keep {l : List Nd} {w : Int} {f : (Nat → Nat) → Nat} {m : Nat} {t : Int} {l' : List Nd} {b' : By} (h : Got l w f m t l' b') {l2 : List Nd} (k : Le l' l2) : Tm l2 t ∧ wd l2 t = w ∧ ∀ env, val env l2 t = f env :=
  ⟨h.tm.le k, (wd_le h.tm k).trans h.wd, fun env => (val_le h.tm.2 k).trans (h.v env)⟩

theorem termOps_true (M : Nat) (hM : 80000 ≤ M ∧ M ≤ 2 ^ 61) {R : Type} (op w a b : Int) (ha : 0 ≤ a ∧ a ≤ 65535) (hb : 0 ≤ b ∧ b ≤ 65535) (k : Bool → Option R) : law2_TermOps (M + 3000) op w a b k = k true := by
  unfold law2_TermOps law2_TermOps_T
  rw [awake2]
  have hN : 70000 ≤ M + 3000 ∧ M + 3000 ≤ 2 ^ 62 := by
    have e1 : (2 : Nat) ^ 61 = 2305843009213693952 := by decide
    have e2 : (2 : Nat) ^ 62 = 4611686018427387904 := by decide
    omega
  generalize M + 3000 = N at hN ⊢
  rw [Bool.not_true, br_false, br_ndec]
  by_cases h4 : op < 4
  · rw [if_pos h4]
  rw [if_neg h4, br_ndec]
  by_cases h15 : 15 < op
  · rw [if_pos h15]
  rw [if_neg h15, refMay_eq]
  by_cases hnw : ¬ Wd w
  · rw [decide_eq_false hnw]; rfl
  have hw : Wd w := Classical.not_not.1 hnw
  rw [decide_eq_true hw, Bool.not_true, br_false]
  unfold term_New term_New_T
  obtain ⟨x, l1, b1, G1, _, h1⟩ := Var_eq N Ar.nil [] (w := w) (i := 0) hw (by omega) (.inl rfl) (by simp)
  have f1 := G1.few
  obtain ⟨y, l2, b2, G2, _, h2⟩ := Var_eq N G1.ar (mput (.int .i64) (.int .i64) [] 0 w) (w := w) (i := 1) hw (by omega) (.inl rfl) (by simp at f1; omega)
  have f2 := G2.few
  obtain ⟨tx, wx, vx⟩ := got_keep G1 G2.le
  simp only [List.length_nil] at f1
  obtain ⟨s, l3, b3, G3, h3⟩ := Two_eq N (by omega) G2.ar (mput (.int .i64) (.int .i64) (mput (.int .i64) (.int .i64) [] 0 w) 1 w) (op := op) tx G2.tm (by rw [wx, G2.wd]) (by omega) (by omega)
  have f3 := G3.few
  obtain ⟨tx', wx', vx'⟩ := got_keep G1 (G2.le.trans G3.le)
  obtain ⟨r, l4, b4, G4, h4'⟩ := Two_eq N (by omega) G3.ar (mput (.int .i64) (.int .i64) (mput (.int .i64) (.int .i64) [] 0 w) 1 w) (op := op) tx' tx' rfl (by omega) (by omega)
  refine (h1 _).trans ?_
  refine (h2 _).trans ?_
  refine (h3 _).trans ?_
  refine (h4' _).trans ?_
  obtain ⟨n, rfl, hn⟩ := hw.nat
  obtain ⟨a, rfl⟩ : ∃ a' : Nat, a = (a' : Int) := ⟨a.toNat, by omega⟩
  obtain ⟨b, rfl⟩ : ∃ b' : Nat, b = (b' : Int) := ⟨b.toNat, by omega⟩
  rw [refDo_eq N hn (by omega) (by omega) (by omega), refDo_eq N hn (by omega) (by omega) (by omega)]
  rw [decide_eq_true (rfl : (0 : Int) = 0), br_true, br_true]
  obtain ⟨ts, ws, vs⟩ := got_keep G3 G4.le
  have he : ∀ x ∈ ([(a : Int), (b : Int)] : List Int), 0 ≤ x ∧ x < 65536 := fun x hx => by
    simp at hx
    rcases hx with rfl | rfl <;> omega
  have E1 := fun (k : Int → List Nd → By → Ws → List Int → Option R) => Eval_c5c9 N hN G4.ar (mput (.int .i64) (.int .i64) (mput (.int .i64) (.int .i64) [] 0 (n : Int)) 1 (n : Int)) [(a : Int), (b : Int)] he (L := 2) (C := 2) (by omega) ts k
  have E2 := fun (k : Int → List Nd → By → Ws → List Int → Option R) => Eval_c5c9 N hN G4.ar (mput (.int .i64) (.int .i64) (mput (.int .i64) (.int .i64) [] 0 (n : Int)) 1 (n : Int)) [(a : Int), (b : Int)] he (L := 2) (C := 2) (by omega) G4.tm k
  refine (E1 _).trans ?_
  have e0 : val (envOf [(a : Int), (b : Int)] 2) l2 x = a % 2 ^ n := by
    rw [vx, env2 _ _ _ (by decide)]
    simp
  have e1 : val (envOf [(a : Int), (b : Int)] 2) l2 y = b % 2 ^ n := by
    rw [G2.v, env2 _ _ _ (by decide)]
    simp
  have e2 : val (envOf [(a : Int), (b : Int)] 2) l3 x = a % 2 ^ n := by
    rw [vx', env2 _ _ _ (by decide)]
    simp
  rw [vs, e0, e1, wx, Int.toNat_natCast, decide_eq_true rfl, br_true]
  refine (E2 _).trans ?_
  rw [G4.v, e2, wx', Int.toNat_natCast, decide_eq_true rfl]

end Go.Proofs.Yteagdmkedffplaa
