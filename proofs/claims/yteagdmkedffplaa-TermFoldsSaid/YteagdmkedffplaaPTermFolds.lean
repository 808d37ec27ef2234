/-
  TermFolds: each operator on two numbers is a number, that of the operator.
-/
import Derived.Test.YteagdmkedffplaaPTermE
import Derived.Test.YteagdmkedffplaaPWideRef
set_option linter.unusedSimpArgs false
set_option linter.unusedVariables false
namespace Go.Proofs.Yteagdmkedffplaa
open Go.Gx

theorem awake2 (n : Nat) {R : Type} (k : Bool → Option R) : law2_awake (n + 3000) k = k true := by kernel_rfl

theorem got_keep {l : List Nd} {w : Int} {f : (Nat → Nat) → Nat} {m : Nat} {t : Int} {l' : List Nd} {b' : By} (h : Got l w f m t l' b') {l2 : List Nd} (k : Le l' l2) : Tm l2 t ∧ wd l2 t = w ∧ (∀ env, val env l2 t = f env) ∧ nd l2 t = nd l' t :=
  ⟨h.tm.le k, (wd_le h.tm k).trans h.wd, fun env => (val_le h.tm.2 k).trans (h.v env), nd_le h.tm k⟩

theorem termFolds_true (M : Nat) (hM : 80000 ≤ M ∧ M ≤ 2 ^ 61) {R : Type} (op w a b : Int) (ha : 0 ≤ a ∧ a ≤ 65535) (hb : 0 ≤ b ∧ b ≤ 65535) (k : Bool → Option R) : law2_TermFolds (M + 3000) op w a b k = k true := by
  unfold law2_TermFolds law2_TermFolds_T
  rw [awake2]
  have hN : 70000 ≤ M + 3000 ∧ M + 3000 ≤ 2 ^ 62 := by
    have e1 : (2 : Nat) ^ 61 = 2305843009213693952 := by decide
    have e2 : (2 : Nat) ^ 62 = 4611686018427387904 := by decide
    omega
  generalize M + 3000 = N at hN ⊢
  rw [Bool.not_true, br_false, br_ndec]
  by_cases h4 : op < 4
  · rw [if_pos h4]
  rw [if_neg h4, br_ndec]
  by_cases h15 : 15 < op
  · rw [if_pos h15]
  rw [if_neg h15, refMay_eq]
  by_cases hnw : ¬ Wd w
  · rw [decide_eq_false hnw]; rfl
  have hw : Wd w := Classical.not_not.1 hnw
  rw [decide_eq_true hw, Bool.not_true, br_false]
  unfold term_New term_New_T
  obtain ⟨x, l1, b1, G1, n1, h1⟩ := Const_eq N Ar.nil [] (w := w) (v := a) hw (by omega) (by simp)
  have f1 := G1.few
  simp only [List.length_nil] at f1
  obtain ⟨y, l2, b2, G2, n2, h2⟩ := Const_eq N G1.ar [] (w := w) (v := b) hw (by omega) (by omega)
  have f2 := G2.few
  obtain ⟨tx, wx, vx, nx⟩ := got_keep G1 G2.le
  have ox : (nd l2 x).op = 1 := by rw [nx, n1]
  have oy : (nd l2 y).op = 1 := by rw [n2]
  obtain ⟨t, l3, b3, G3, n3, h3⟩ := Two_num N (by omega) G2.ar [] (op := op) tx G2.tm (by rw [wx, G2.wd]) (by omega) ox oy (by omega)
  have f3 := G3.few
  obtain ⟨tx', wx', vx', nx'⟩ := got_keep G1 (G2.le.trans G3.le)
  have ox' : (nd l3 x).op = 1 := by rw [nx', n1]
  obtain ⟨m, l4, b4, G4, n4, h4'⟩ := Not_num N G3.ar [] tx' ox' (by omega) (by omega)
  have f4 := G4.few
  obtain ⟨tt, wt, vt, nt⟩ := got_keep G3 G4.le
  refine (h1 _).trans ?_
  refine (h2 _).trans ?_
  refine (h3 _).trans ?_
  refine (h4' _).trans ?_
  have ot : isNum l4 t = true := by unfold isNum; rw [nt, n3]; rfl
  have om : isNum l4 m = true := by unfold isNum; rw [n4]; rfl
  have K1 := fun (k : Int → Bool → List Nd → By → Ws → Option R) => Known_eq N G4.ar [] tt k
  have K2 := fun (k : Int → Bool → List Nd → By → Ws → Option R) => Known_eq N G4.ar [] G4.tm k
  refine (K1 _).trans ?_
  refine (K2 _).trans ?_
  rw [ot, om]
  obtain ⟨n, rfl, hn⟩ := hw.nat
  obtain ⟨a, rfl⟩ : ∃ a' : Nat, a = (a' : Int) := ⟨a.toNat, by omega⟩
  obtain ⟨b, rfl⟩ : ∃ b' : Nat, b = (b' : Int) := ⟨b.toNat, by omega⟩
  have D0 := fun (k : Int → Int → Option R) => refDo_eq N (op := 3) (w := n) (a := a) (b := 0) hn (by omega) (by omega) (by omega) k
  rw [refDo_eq N hn (by omega) (by omega) (by omega)]
  refine (D0 _).trans ?_
  have hp : 0 < 2 ^ n := Nat.pow_pos (by omega)
  have hp16 : 2 ^ n ≤ 65536 := by rcases hn with rfl | rfl | rfl <;> decide
  have hva : a % 2 ^ n < 2 ^ n := Nat.mod_lt _ hp
  have hvb : b % 2 ^ n < 2 ^ n := Nat.mod_lt _ hp
  have hlt := doN_lt (op := op) (w := n) (by omega) hva hvb
  have ev : val (fun _ => 0) l2 x = a % 2 ^ n := by rw [vx, Int.toNat_natCast, Int.toNat_natCast]
  have ew : val (fun _ => 0) l2 y = b % 2 ^ n := by rw [G2.v, Int.toNat_natCast, Int.toNat_natCast]
  rw [ev, ew, wx, Int.toNat_natCast] at n3
  have nt' : nd l4 t = (1, outW op (n : Int), ((doN op n (a % 2 ^ n) (b % 2 ^ n) : Nat) : Int), 0, 0, 0) := nt.trans n3
  have nm : (nd l4 m).v = ((doN 3 n (a % 2 ^ n) (0 % 2 ^ n) : Nat) : Int) := by
    rw [n4]
    show ((2 ^ (wd l3 x).toNat - 1 - (nd l3 x).v.toNat : Nat) : Int) = _
    rw [wx', nx', n1]
    simp only [v_mk, Int.toNat_natCast]
    unfold doN
    rw [if_pos rfl]
  rw [nm, nt']
  simp only [v_mk]
  by_cases he : op = 14 ∨ op = 15
  · obtain ⟨c, l5, b5, G5, n5, h5⟩ := Const_eq N G4.ar [] (w := (n : Int)) (v := ((doN op n (a % 2 ^ n) (b % 2 ^ n) : Nat) : Int)) hw (by omega) (by omega)
    have tt5 := tt.le G5.le
    have nt5 : nd l5 t = (1, 1, (((((doN op n (a % 2 ^ n) (b % 2 ^ n) : Nat) : Int)).toNat % 2 ^ (1 : Int).toNat : Nat) : Int), 0, 0, 0) := by
      rw [nd_le tt G5.le, nt', Int.toNat_natCast]
      have : doN op n (a % 2 ^ n) (b % 2 ^ n) < 2 := by
        rcases he with rfl | rfl <;> unfold doN <;> simp <;> split <;> decide
      rw [show (1 : Int).toNat = 1 from rfl, Nat.mod_eq_of_lt (show doN op n (a % 2 ^ n) (b % 2 ^ n) < 2 ^ 1 from this)]
      unfold outW
      rw [if_pos he]
    have S := fun (k : Int → Int → By → Ws → List Nd → Option R) => Const_same N G5.ar [] (w := 1) (v := ((doN op n (a % 2 ^ n) (b % 2 ^ n) : Nat) : Int)) (.inl rfl) (by omega) tt5 nt5 k
    refine (h5 _).trans ?_
    by_cases h14 : op = 14
    · rw [br_ndec, if_pos h14]
      refine (S _).trans ?_
      simp only [decide_true, br_true]
    · rw [br_ndec, if_neg h14, br_dec, if_pos (by omega)]
      refine (S _).trans ?_
      simp only [decide_true, br_true]
  · have nt4 : nd l4 t = (1, (n : Int), (((((doN op n (a % 2 ^ n) (b % 2 ^ n) : Nat) : Int)).toNat % 2 ^ (n : Int).toNat : Nat) : Int), 0, 0, 0) := by
      rw [nt', Int.toNat_natCast, Int.toNat_natCast, Nat.mod_eq_of_lt hlt]
      unfold outW
      rw [if_neg he]
    have S := fun (k : Int → Int → By → Ws → List Nd → Option R) => Const_same N G4.ar [] (w := (n : Int)) (v := ((doN op n (a % 2 ^ n) (b % 2 ^ n) : Nat) : Int)) hw (by omega) tt nt4 k
    refine (S _).trans ?_
    rw [br_ndec, if_neg (by omega), br_dec, if_neg (by omega)]
    simp only [decide_true, br_true]

end Go.Proofs.Yteagdmkedffplaa
