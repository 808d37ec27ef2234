/-
 the machine (chapter 16): instructions one behind another, until it ends.
-/
import Derived.Test.YtbclodhbcplhmaaGreatPRunP
set_option linter.unusedSimpArgs false
set_option linter.unusedVariables false
set_option linter.unusedSectionVars false
namespace Go.Proofs.YtbclodhbcplhmaaGreat
open Go.Gx

/-- how it ends: how, with what code, what was shown, how many instructions -/
abbrev Res := Int × Int × EV × Nat
def Pre (a b : EV) : Prop := ∃ c, b = a ++ c
theorem Pre.refl (a : EV) : Pre a a := ⟨[], by simp⟩
theorem Pre.trans {a b c : EV} (h : Pre a b) (k : Pre b c) : Pre a c := by
 obtain ⟨x, rfl⟩ := h
 obtain ⟨y, rfl⟩ := k
 exact ⟨x ++ y, by simp⟩

/-- with less fuel it shows the beginning of what it shows with more -/
structure Cut (s : Nat) (o : EV) (r : Nat) (T : Nat → Res) : Prop where
 from_ : ∀ q, q ≤ r → Pre o (T q).2.2.1
 more : ∀ q q', q ≤ q' → q' ≤ r → Pre (T q).2.2.1 (T q').2.2.1
 steps : ∀ q q', q ≤ q' → q' ≤ r → (T q).2.2.2 = min (T q').2.2.2 (s + q)
 spent : ∀ q q', q ≤ q' → q' ≤ r → s + q < (T q').2.2.2 → (T q).1 = 5 ∧ (T q).2.1 = 0
 same : ∀ q q', q ≤ q' → q' ≤ r → (T q').2.2.2 ≤ s + q → T q = T q'
 five : ∀ q, q ≤ r → (T q).1 = 5 → (T q).2.1 = 0 ∧ (T q).2.2.2 = s + q
 lo : ∀ q, q ≤ r → s ≤ (T q).2.2.2
 out : ∀ q, q ≤ r → (T q).2.2.1.length ≤ (T q).2.2.2

structure Fit (p : List Ins) (nm : List ByteArray) (ar : List (List Int)) : Prop where
 well : Well p
 pos : 0 < p.length
 may : ∀ i, i < p.length → isI (opAt p i) (aAt p i) = true ∧ namesI (opAt p i) (aAt p i) (nm.length : Int) = true
 go : ∀ i h, RR p i h → i < p.length ∧ h ≤ 16 ∧ goes (opAt p i) h = true
 args : ar.length ≤ 1000
 arg : ∀ b ∈ ar, b.length ≤ 1000

section
variable (N : Nat) (hN : 500 < N) {p : List Ins} {nm : List ByteArray} {ar : List (List Int)} (W : Fit p nm ar) (φ : Nat → Bool)
include hN W

def Run1 (p : List Ins) (nm : List ByteArray) (ar : List (List Int)) (φ : Nat → Bool) (q i s j : Nat) (lo me sk f : List Int) (nx : Int) (m : TM) (d : DM) (l : OL) (o : EV) (t : Res) : Prop := ∃ at2 lo2 me2 sk2 f2 nx2 m2 d2 l2 j2, ∀ {R : Type} (fl : List Bool), fl.length ≤ 1000 → (∀ x, x < 400 → fl.getD x false = φ x) → ∀ (n : Nat), q + 1 < n → ∀ k0,
 Z59_l0 (R := R) N k0 n (.v1 ((s + q : Nat) : Int) p nm (i : Int) lo me ar 0 0 (s : Int) sk f nx m d l ((min j fl.length : Nat) : Int) fl o) = k0 p nm at2 lo2 me2 ar t.1 t.2.1 (t.2.2.2 : Int) sk2 f2 nx2 m2 d2 l2 ((min j2 fl.length : Nat) : Int) fl t.2.2.1

omit hN W in
theorem run_stop (i s j : Nat) (lo me sk f : List Int) (nx : Int) (m : TM) (d : DM) (l : OL) (o : EV) : Run1 N p nm ar φ 0 i s j lo me sk f nx m d l o (5, 0, o, s) := by
 refine ⟨(i : Int), lo, me, sk, f, nx, m, d, l, j, fun {R} fl hfl hφ n hn k0 => ?_⟩
 obtain ⟨n, rfl⟩ : ∃ n', n = n' + 1 := ⟨n - 1, by omega⟩
 simp only [Z59_l0, Z59_l0_T1]
 rw [br_of (by decide), br_of (decide_eq_true (by omega)), end_eq]

theorem loop_ex : ∀ (r i h s j : Nat) (lo me sk f : List Int) (nx : Int) (m : TM) (d : DM) (l : OL) (o : EV), RR p i h → sk.length = h → lo.length = 8 → (∀ x ∈ lo, U16 x) → me.length = 32 → (∀ x ∈ sk, U16 x) → FV s f nx d l → o.length ≤ s → j ≤ s → s + r ≤ 400 →
  ∃ T : Nat → Res, Cut s o r T ∧ ∀ q, q ≤ r → Run1 N p nm ar φ q i s j lo me sk f nx m d l o (T q) := by
 intro r
 induction r with
 | zero =>
  intro i h s j lo me sk f nx m d l o hr hh hlo hlu hme hsk S ho hj hs
  refine ⟨fun _ => (5, 0, o, s), ⟨fun q hq => Pre.refl _, fun q q' h1 h2 => Pre.refl _, fun q q' h1 h2 => by show s = min s (s + q); omega, fun q q' h1 h2 h3 => ⟨rfl, rfl⟩, fun q q' h1 h2 h3 => rfl, fun q hq h => ⟨rfl, by show s = s + q; omega⟩, fun q hq => Nat.le_refl _, fun q hq => ho⟩, fun q hq => ?_⟩
  obtain rfl : q = 0 := by omega
  exact run_stop N φ i s j lo me sk f nx m d l o
 | succ r ih =>
  intro i h s j lo me sk f nx m d l o hr hh hlo hlu hme hsk S ho hj hs
  obtain ⟨hi, h16, hg⟩ := W.go i h hr
  obtain ⟨hI, hn⟩ := W.may i hi
  obtain ⟨g1, g2, g3⟩ := goes_spec hg
  have h96 := W.well.len
  obtain ⟨at2, lo2, me2, en2, co2, sk2, f2, nx2, m2, d2, l2, o2, j2, hj2, ⟨a1, a2, a3, a5, a4, ⟨ev, hev, rfl⟩, a6⟩, S2, e⟩ := step_tot N hN p nm i hi h96 lo me ar s (by omega) sk f nx m d l o (aAt p i) s j (by omega) S hlo hlu hme hsk (by omega) (by omega) W.args W.arg (opAt p i) rfl hI hn (by omega) (φ j)
  have stp : ∀ {R : Type} (q : Nat) (fl : List Bool), fl.length ≤ 1000 → (∀ x, x < 400 → fl.getD x false = φ x) → ∀ (n : Nat) k0, Z59_l0 (R := R) N k0 (n + 1) (.v1 ((s + (q + 1) : Nat) : Int) p nm (i : Int) lo me ar 0 0 (s : Int) sk f nx m d l ((min j fl.length : Nat) : Int) fl o) = Z59_l0 (R := R) N k0 n (.v1 ((s + (q + 1) : Nat) : Int) p nm at2 lo2 me2 ar en2 co2 ((s + 1 : Nat) : Int) sk2 f2 nx2 m2 d2 l2 ((min j2 fl.length : Nat) : Int) fl (o ++ ev)) := fun {R} q fl hfl hφ n k0 => by
   conv => lhs; simp only [Z59_l0, Z59_l0_T1]
   rw [br_of (by decide), br_not (decide_eq_false (by omega)), e fl hfl (hφ j (by omega))]
  by_cases h0 : en2 = 0
  ·subst h0
   obtain ⟨rfl, b1, b2⟩ := a6 rfl
   -- it goes on
   have hnx : ∃ i2 : Nat, at2 = (i2 : Int) ∧ (i2 : Int) ∈ nexts p i := by
    rcases b1 with ⟨rfl, b3⟩ | ⟨rfl, b3⟩
    ·exact ⟨i + 1, rfl, by unfold nexts; rw [b3]; simp⟩
    ·have hm : aAt p i ∈ nexts p i := by unfold nexts; rw [b3]; simp
     obtain ⟨i2, e2, _⟩ := W.well.nx i hi _ hm
     exact ⟨i2, e2, by rw [← e2]; exact hm⟩
   obtain ⟨i2, rfl, hm⟩ := hnx
   have hb : sk2.length = behind (opAt p i) h := by omega
   obtain ⟨T, C, hT⟩ := ih i2 _ (s + 1) j2 lo2 me2 sk2 f2 nx2 m2 d2 l2 (o ++ ev) (RR.step hr hi h16 hg hm) hb a1 a2 a3 a4 S2 (by simp; omega) (by omega) (by omega)
   refine ⟨fun q => match q with | 0 => (5, 0, o, s) | q + 1 => T q, ⟨?_, ?_, ?_, ?_, ?_, ?_, ?_, ?_⟩, ?_⟩
   ·intro q hq
    cases q with
    | zero => exact Pre.refl _
    | succ q => exact Pre.trans ⟨ev, rfl⟩ (C.from_ q (by omega))
   ·intro q q' h1 h2
    cases q with
    | zero => cases q' with
     | zero => exact Pre.refl _
     | succ q' => exact Pre.trans ⟨ev, rfl⟩ (C.from_ q' (by omega))
    | succ q => cases q' with
     | zero => omega
     | succ q' => exact C.more q q' (by omega) (by omega)
   ·intro q q' h1 h2
    cases q with
    | zero => cases q' with
     | zero => show s = min s (s + 0); omega
     | succ q' => have := C.lo q' (by omega); show s = min (T q').2.2.2 (s + 0); omega
    | succ q => cases q' with
     | zero => omega
     | succ q' => have := C.steps q q' (by omega) (by omega); show (T q).2.2.2 = min (T q').2.2.2 (s + (q + 1)); omega
   ·intro q q' h1 h2 h3
    cases q with
    | zero => exact ⟨rfl, rfl⟩
    | succ q => cases q' with
     | zero => omega
     | succ q' => exact C.spent q q' (by omega) (by omega) (by have : s + (q + 1) < (T q').2.2.2 := h3; omega)
   ·intro q q' h1 h2 h3
    cases q with
    | zero => cases q' with
     | zero => rfl
     | succ q' => have := C.lo q' (by omega); have h3 : (T q').2.2.2 ≤ s + 0 := h3; omega
    | succ q => cases q' with
     | zero => omega
     | succ q' => exact C.same q q' (by omega) (by omega) (by have : (T q').2.2.2 ≤ s + (q + 1) := h3; omega)
   ·intro q hq h5
    cases q with
    | zero => exact ⟨rfl, rfl⟩
    | succ q => have := C.five q (by omega) h5; exact ⟨this.1, by have := this.2; show (T q).2.2.2 = s + (q + 1); omega⟩
   ·intro q hq
    cases q with
    | zero => exact Nat.le_refl _
    | succ q => have := C.lo q (by omega); show s ≤ (T q).2.2.2; omega
   ·intro q hq
    cases q with
    | zero => exact ho
    | succ q => exact C.out q (by omega)
   ·intro q hq
    cases q with
    | zero => exact run_stop N φ i s j lo me sk f nx m d l o
    | succ q =>
     obtain ⟨at3, lo3, me3, sk3, f3, nx3, m3, d3, l3, j3, hrun⟩ := hT q (by omega)
     refine ⟨at3, lo3, me3, sk3, f3, nx3, m3, d3, l3, j3, fun {R} fl hfl hφ n hn k0 => ?_⟩
     obtain ⟨n, rfl⟩ : ∃ n', n = n' + 1 := ⟨n - 1, by omega⟩
     rw [stp q fl hfl hφ n k0]
     have := hrun (R := R) fl hfl hφ n (by omega) k0
     rw [show s + 1 + q = s + (q + 1) by omega] at this
     exact this
  ·-- it ends here
   have hl : (o ++ ev).length ≤ s + 1 := by simp; omega
   refine ⟨fun q => match q with | 0 => (5, 0, o, s) | _ + 1 => (en2, co2, o ++ ev, s + 1), ⟨?_, ?_, ?_, ?_, ?_, ?_, ?_, ?_⟩, ?_⟩
   ·intro q hq
    cases q with
    | zero => exact Pre.refl _
    | succ q => exact ⟨ev, rfl⟩
   ·intro q q' h1 h2
    cases q with
    | zero => cases q' with
     | zero => exact Pre.refl _
     | succ q' => exact ⟨ev, rfl⟩
    | succ q => cases q' with
     | zero => omega
     | succ q' => exact Pre.refl _
   ·intro q q' h1 h2
    cases q with
    | zero => cases q' with
     | zero => show s = min s (s + 0); omega
     | succ q' => show s = min (s + 1) (s + 0); omega
    | succ q => cases q' with
     | zero => omega
     | succ q' => show s + 1 = min (s + 1) (s + (q + 1)); omega
   ·intro q q' h1 h2 h3
    cases q with
    | zero => exact ⟨rfl, rfl⟩
    | succ q => cases q' with
     | zero => omega
     | succ q' => have h3 : s + (q + 1) < s + 1 := h3; omega
   ·intro q q' h1 h2 h3
    cases q with
    | zero => cases q' with
     | zero => rfl
     | succ q' => have h3 : s + 1 ≤ s + 0 := h3; omega
    | succ q => cases q' with
     | zero => omega
     | succ q' => rfl
   ·intro q hq h5
    cases q with
    | zero => exact ⟨rfl, rfl⟩
    | succ q => exact absurd h5 a5
   ·intro q hq
    cases q with
    | zero => exact Nat.le_refl _
    | succ q => show s ≤ s + 1; omega
   ·intro q hq
    cases q with
    | zero => exact ho
    | succ q => exact hl
   ·intro q hq
    cases q with
    | zero => exact run_stop N φ i s j lo me sk f nx m d l o
    | succ q =>
     refine ⟨at2, lo2, me2, sk2, f2, nx2, m2, d2, l2, j2, fun {R} fl hfl hφ n hn k0 => ?_⟩
     obtain ⟨n, rfl⟩ : ∃ n', n = n' + 1 := ⟨n - 1, by omega⟩
     rw [stp q fl hfl hφ n k0]
     obtain ⟨n, rfl⟩ : ∃ n', n = n' + 1 := ⟨n - 1, by omega⟩
     simp only [Z59_l0, Z59_l0_T1]
     rw [br_not (decide_eq_false h0)]
end

end Go.Proofs.YtbclodhbcplhmaaGreat
