/-
 the laws on runs (chapter 16): what they ask first, and what a run is to them.
-/
import Derived.Test.YtbclodhbcplhmaaGreatPRunR
import Derived.KernelRfl
set_option linter.unusedSimpArgs false
set_option linter.unusedVariables false
set_option linter.unusedSectionVars false
namespace Go.Proofs.YtbclodhbcplhmaaGreat
open Go.Gx

theorem awake16 {R : Type} (n : Nat) (k : Bool → Option R) : Z51 (n + 3000) k = k true := by kernel_rfl

/-! ### is it small? -/
theorem Small_l0 (N : Nat) (names : List ByteArray) (L : List Ins) (hl : names.length ≤ 9223372036854775807) : ∀ (n q : Nat), q ≤ names.length → names.length - q < n → ∀ (c : Int), ∃ c' : Int, ∀ {R : Type} (k : Int → List Ins → List ByteArray → Option R),
  Z46_l0 N k n c (q : Int) L names = k c' L names
 | 0, q, _, hn, _ => by omega
 | n + 1, q, hq, hn, c => by
  by_cases hlt : q < names.length
  ·obtain ⟨c', hc⟩ := Small_l0 N names L hl n (q + 1) (by omega) (by omega) (IntKind.wrap .i64 (c + (names[q].size : Int)))
   refine ⟨c', fun k => ?_⟩
   simp only [Z46_l0, Z46_l0_T0, Int.ofNat_lt, hlt, decide_true, br_true, inB_nat, Int.toNat_natCast, getD_lt hlt, w64_succ (show q < 9223372036854775807 by omega)]
   exact hc k
  ·refine ⟨c, fun k => ?_⟩
   simp only [Z46_l0, Z46_l0_T0, Int.ofNat_lt, hlt, decide_false, br_false]
theorem Small_ex (N : Nat) (L : List Ins) (names : List ByteArray) (hl : names.length ≤ 9223372036854775807) (hN : names.length < N) : ∃ b, ∀ {R : Type} (k : Bool → Option R), Z46 N L names k = k b := by
 obtain ⟨c, hc⟩ := Small_l0 N names L hl N 0 (by omega) (by omega) 0
 refine ⟨decide ((L.length : Int) ≤ 500) && decide ((names.length : Int) ≤ 100) && decide (c ≤ 5000), fun k => ?_⟩
 unfold Z46 Z46_T
 refine (hc _).trans ?_
 cases decide ((L.length : Int) ≤ 500) <;> cases decide ((names.length : Int) ≤ 100) <;> rfl

theorem tree_s2 {R : Type} (N : Nat) (k0 : Bool → Option R) (k1 : Option R) (L0 : List EN) : ∀ (e i n : Nat), L0.length - i = e → i ≤ L0.length → i ≤ 102 → 103 - i < n → Z47_l2 N k0 k1 n L0 (i : Int) = k0 false ∨ Z47_l2 N k0 k1 n L0 (i : Int) = k1 := by
 intro e
 induction e with
 | zero =>
  intro i n he hi h1 hn
  obtain ⟨n, rfl⟩ : ∃ n', n = n' + 1 := ⟨n - 1, by omega⟩
  right
  simp only [Z47_l2, Z47_l2_T0]
  rw [br_not (decide_eq_false (by omega))]
 | succ e ih =>
  intro i n he hi h1 hn
  obtain ⟨n, rfl⟩ : ∃ n', n = n' + 1 := ⟨n - 1, by omega⟩
  simp only [Z47_l2, Z47_l2_T0]
  rw [br_of (decide_eq_true (by omega)), br_ndec]
  by_cases h : 100 < i
  ·left; rw [if_pos (by omega)]
  ·rw [if_neg (by omega), br_of (inB_of (by omega)), br_dec, w64_succ (by omega)]
   split
   ·left; rfl
   ·exact ih (i + 1) n (by omega) (by omega) (by omega) (by omega)
theorem smallT {R : Type} (N : Nat) (hN : 1000 < N) (L0 : List EN) (k : Bool → Option R) : Z47 N L0 k = k false ∨ Z47 N L0 k = k true := by
 obtain ⟨n, rfl⟩ : ∃ n', N = n' + 1 := ⟨N - 1, by omega⟩
 unfold Z47 Z47_T
 exact tree_s2 (n + 1) k (k true) L0 L0.length 0 (n + 1) (by omega) (by omega) (by omega) (by omega)

theorem data_s1 {R : Type} (N : Nat) (k0 : Bool → Option R) (k1 : Option R) (dat : List (List Int)) : ∀ (e i n : Nat), dat.length - i = e → i ≤ dat.length → i ≤ 102 → 103 - i < n → Z48_l1 N k0 k1 n dat (i : Int) = k0 false ∨ (dat.length ≤ 102 ∧ Z48_l1 N k0 k1 n dat (i : Int) = k1) := by
 intro e
 induction e with
 | zero =>
  intro i n he hi h1 hn
  obtain ⟨n, rfl⟩ : ∃ n', n = n' + 1 := ⟨n - 1, by omega⟩
  right
  refine ⟨by omega, ?_⟩
  simp only [Z48_l1, Z48_l1_T0]
  rw [br_not (decide_eq_false (by omega))]
 | succ e ih =>
  intro i n he hi h1 hn
  obtain ⟨n, rfl⟩ : ∃ n', n = n' + 1 := ⟨n - 1, by omega⟩
  simp only [Z48_l1, Z48_l1_T0]
  rw [br_of (decide_eq_true (by omega)), br_ndec]
  by_cases h : 100 < i
  ·left; rw [if_pos (by omega)]
  ·rw [if_neg (by omega), br_of (inB_of (by omega)), br_dec, w64_succ (by omega)]
   split
   ·left; rfl
   ·exact ih (i + 1) n (by omega) (by omega) (by omega) (by omega)
theorem smallD {R : Type} (N : Nat) (hN : 1000 < N) (dat : List (List Int)) (k : Bool → Option R) : Z48 N dat k = k false ∨ (dat.length ≤ 102 ∧ Z48 N dat k = k true) := by
 obtain ⟨n, rfl⟩ : ∃ n', N = n' + 1 := ⟨N - 1, by omega⟩
 unfold Z48 Z48_T
 exact data_s1 (n + 1) k _ dat dat.length 0 (n + 1) (by omega) (by omega) (by omega) (by omega)
theorem args_s0 {R : Type} (N : Nat) (k0 : Bool → Option R) (k1 : Option R) (fs ar : List (List Int)) (fl : List Bool) (h50 : ar.length ≤ 50) : ∀ (e i n : Nat), ar.length - i = e → i ≤ ar.length → e < n → Z50_l0 N k0 k1 n (i : Int) fs ar fl = k0 false ∨ Z50_l0 N k0 k1 n (i : Int) fs ar fl = k1 := by
 intro e
 induction e with
 | zero =>
  intro i n he hi hn
  obtain ⟨n, rfl⟩ : ∃ n', n = n' + 1 := ⟨n - 1, by omega⟩
  right
  simp only [Z50_l0, Z50_l0_T0]
  rw [br_not (decide_eq_false (by omega))]
 | succ e ih =>
  intro i n he hi hn
  obtain ⟨n, rfl⟩ : ∃ n', n = n' + 1 := ⟨n - 1, by omega⟩
  simp only [Z50_l0, Z50_l0_T0]
  rw [br_of (decide_eq_true (by omega)), br_of (inB_of (by omega)), br_dec, w64_succ (by omega)]
  split
  ·left; rfl
  ·exact ih (i + 1) n (by omega) (by omega) (by omega)
theorem small16 {R : Type} (N : Nat) (hN : 1000 < N) (fs ar : List (List Int)) (fl : List Bool) (k : Bool → Option R) : Z50 N fs ar fl k = k false ∨ (fs.length ≤ 102 ∧ fl.length ≤ 200 ∧ Z50 N fs ar fl k = k true) := by
 unfold Z50 Z50_T
 by_cases h2 : fl.length ≤ 200
 ·rw [br_of (by rw [decide_eq_false (by omega)]; rfl)]
  by_cases h5 : ar.length ≤ 50
  ·rw [br_of (by rw [decide_eq_false (by omega)]; rfl)]
   rcases smallD N hN fs _ with h | ⟨h1, h⟩
   ·exact .inl (h.trans rfl)
   ·rcases args_s0 N (fun b => k b) (k true) fs ar fl h5 ar.length 0 N (by omega) (by omega) (by omega) with g | g
    ·exact .inl (h.trans g)
    ·exact .inr ⟨h1, h2, h.trans g⟩
  ·rw [br_not (by rw [decide_eq_true (by omega)]; rfl)]
   exact .inl rfl
 ·rw [br_not (by rw [decide_eq_true (by omega)]; rfl)]
  exact .inl rfl

/-! ### two that are one -/
theorem same_l0 {R : Type} (N : Nat) (k0 : Bool → EV → EV → Option R) (k1 : EV → EV → Option R) (o : EV) (h4 : o.length ≤ 1000000) (a b c d : Int) : ∀ (e i n : Nat), o.length - i = e → i ≤ o.length → e < n → Z54_l0 N k0 k1 n (i : Int) o o a b c d = k1 o o := by
 intro e
 induction e with
 | zero =>
  intro i n he hi hn
  obtain ⟨n, rfl⟩ : ∃ n', n = n' + 1 := ⟨n - 1, by omega⟩
  simp only [Z54_l0, Z54_l0_T0]
  rw [br_not (decide_eq_false (by omega))]
 | succ e ih =>
  intro i n he hi hn
  obtain ⟨n, rfl⟩ : ∃ n', n = n' + 1 := ⟨n - 1, by omega⟩
  have hin : inB (i : Int) o.length = true := inB_of (by omega)
  simp only [Z54_l0, Z54_l0_T0, Int.toNat_natCast, hin, br_true]
  rw [br_of (decide_eq_true (by omega)), br_of (decide_eq_true (by omega)), br_of (decide_eq_true (by omega)), br_not (by simp), w64_succ (by omega)]
  exact ih (i + 1) n (by omega) (by omega) (by omega)
theorem same_eq {R : Type} (N : Nat) (o : EV) (ho : o.length < N) (h4 : o.length ≤ 1000000) (a b : Int) (k : Bool → EV → EV → Option R) : Z54 N a b a b o o k = k true o o := by
 unfold Z54 Z54_T
 rw [br_of (by rw [decide_eq_true rfl]; rfl), br_of (by rw [decide_eq_true rfl]; rfl), br_not (by rw [decide_eq_true rfl]; rfl)]
 exact same_l0 N _ _ o h4 a b a b o.length 0 N (by omega) (by omega) (by omega)

/-! ### a run, to the laws -/
theorem Outc.err {N : Nat} {p : List Ins} {nm : List ByteArray} {L0 : List EN} {fs ar : List (List Int)} {fl : List Bool} {fuel e : Int} (he : e ≠ 0) (h : ∀ {R : Type} k0 k1 k2 k3 k4, Z59 (R := R) N p nm L0 fs ar fl fuel k0 k1 k2 k3 k4 = k0 e) {R : Type} (k0 k1 k2 k3 k4) : Z55 (R := R) N p nm L0 fs ar fl fuel k0 k1 k2 k3 k4 = k0 e [] := by
 unfold Z55 Z55_T
 rw [h, br_of (by rw [decide_eq_false he]; rfl)]

end Go.Proofs.YtbclodhbcplhmaaGreat
