/-
 the machine (chapter 16): each instruction that is no call.
-/
import Derived.Test.YtbclodhbcplhmaaGreatPRunM
set_option linter.unusedSimpArgs false
set_option linter.unusedVariables false
set_option linter.unusedSectionVars false
namespace Go.Proofs.YtbclodhbcplhmaaGreat
open Go.Gx

/-- what stands behind an instruction -/
def Pl (op a at' : Int) (h : Nat) (o : EV) (at2 : Int) (lo2 me2 : List Int) (en2 co2 : Int) (sk2 : List Int) (o2 : EV) : Prop :=
 lo2.length = 8 ∧ (∀ x ∈ lo2, U16 x) ∧ me2.length = 32 ∧ en2 ≠ 5 ∧ (∀ x ∈ sk2, U16 x) ∧ (∃ ev : EV, ev.length ≤ 1 ∧ o2 = o ++ ev) ∧ (en2 = 0 → co2 = 0 ∧ (at2 = at' ∧ endsI op = false ∨ at2 = a ∧ jumpsI op = true) ∧ (sk2.length : Int) = (h : Int) - tk op + gv op)

section
variable (N : Nat) (p : List Ins) (nm : List ByteArray) (at' : Int) (lo me : List Int) (ar : List (List Int)) (st : Int) (sk f : List Int) (nx : Int) (m : TM) (d : DM) (l : OL) (o : EV) (a : Int)
 (hlo : lo.length = 8) (hlu : ∀ x ∈ lo, U16 x) (hme : me.length = 32) (hsk : ∀ x ∈ sk, U16 x) (hs : sk.length ≤ 900) (ho : o.length ≤ 900)

def PlT (op : Int) : Prop := ∃ at2 lo2 me2 en2 co2 sk2 o2, Pl op a at' sk.length o at2 lo2 me2 en2 co2 sk2 o2 ∧ ∀ {R : Type} (fi : Int) (fl : List Bool) k, Z78 (R := R) N op a p nm at' lo me ar 0 0 st sk f nx m d l fi fl o k = k true p nm at2 lo2 me2 ar en2 co2 st f nx m d l fi fl sk2 o2
include hlo hlu hme hsk hs ho

theorem pl_1 : PlT N p nm at' lo me ar st sk f nx m d l o a 1 := by
 have h0 : sk.length ≤ 1000 := by omega
 refine ⟨at', lo, me, 0, 0, sk ++ [IntKind.wrap .u16 a], o, ⟨hlo, hlu, hme, by decide, snoc_all hsk (u16_wrap _), ⟨[], by simp, by simp⟩, fun _ => ⟨rfl, .inl ⟨rfl, rfl⟩, by rw [show tk 1 = 0 by decide +kernel, show gv 1 = 1 by decide +kernel]; simp only [List.length_append, List.length_singleton]; omega⟩⟩, fun fi fl k => ?_⟩
 unfold Z78 Z78_T
 simp only [Int.reduceEq, decide_true, decide_false, br_true, br_false, Bool.not_true, Bool.not_false, push_eq (hs := h0)]

theorem pl_2 (hk : tk 2 ≤ sk.length) : PlT N p nm at' lo me ar st sk f nx m d l o a 2 := by
 rw [show tk 2 = 1 by decide +kernel] at hk
 obtain ⟨t, x, rfl, ht⟩ := snoc1 (s := sk) (by omega)
 obtain ⟨hst, hx⟩ := all_snoc hsk
 have h1 : t.length ≤ 1000 := by omega
 have h2 : (t ++ [x]).length ≤ 1000 := by omega
 refine ⟨at', lo, me, 0, 0, t, o, ⟨hlo, hlu, hme, by decide, hst, ⟨[], by simp, by simp⟩, fun _ => ⟨rfl, .inl ⟨rfl, rfl⟩, by rw [show tk 2 = 1 by decide +kernel, show gv 2 = 0 by decide +kernel]; simp only [List.length_append, List.length_singleton]; omega⟩⟩, fun fi fl k => ?_⟩
 unfold Z78 Z78_T
 simp only [Int.reduceEq, decide_true, decide_false, br_true, br_false, Bool.not_true, Bool.not_false, pop_eq (hs := h1)]

theorem pl_3 (hk : tk 3 ≤ sk.length) : PlT N p nm at' lo me ar st sk f nx m d l o a 3 := by
 rw [show tk 3 = 1 by decide +kernel] at hk
 obtain ⟨t, x, rfl, ht⟩ := snoc1 (s := sk) (by omega)
 obtain ⟨hst, hx⟩ := all_snoc hsk
 have h1 : t.length ≤ 1000 := by omega
 have h2 : (t ++ [x]).length ≤ 1000 := by omega
 refine ⟨at', lo, me, 0, 0, t ++ [x] ++ [x], o, ⟨hlo, hlu, hme, by decide, snoc_all hsk hx, ⟨[], by simp, by simp⟩, fun _ => ⟨rfl, .inl ⟨rfl, rfl⟩, by rw [show tk 3 = 1 by decide +kernel, show gv 3 = 2 by decide +kernel]; simp only [List.length_append, List.length_singleton]; omega⟩⟩, fun fi fl k => ?_⟩
 unfold Z78 Z78_T
 simp only [Int.reduceEq, decide_true, decide_false, br_true, br_false, Bool.not_true, Bool.not_false, top_of h1, Int.toNat_natCast, top_get, top_in, show t.length < (t ++ [x]).length from by simp, push_eq (hs := h2)]

theorem pl_4 (hk : tk 4 ≤ sk.length) : PlT N p nm at' lo me ar st sk f nx m d l o a 4 := by
 rw [show tk 4 = 2 by decide +kernel] at hk
 obtain ⟨t, x, y, rfl, ht⟩ := snoc2 (s := sk) (by omega)
 obtain ⟨hsx, hy⟩ := all_snoc hsk
 obtain ⟨hst, hx⟩ := all_snoc hsx
 have h1 : t.length ≤ 1000 := by omega
 have h2 : (t ++ [x]).length ≤ 1000 := by simp; omega
 have h3 : (t ++ [y]).length ≤ 1000 := by simp; omega
 refine ⟨at', lo, me, 0, 0, t ++ [y] ++ [x], o, ⟨hlo, hlu, hme, by decide, snoc_all (snoc_all hst hy) hx, ⟨[], by simp, by simp⟩, fun _ => ⟨rfl, .inl ⟨rfl, rfl⟩, by rw [show tk 4 = 2 by decide +kernel, show gv 4 = 2 by decide +kernel]; simp only [List.length_append, List.length_singleton]; omega⟩⟩, fun fi fl k => ?_⟩
 unfold Z78 Z78_T
 simp only [Int.reduceEq, decide_true, decide_false, br_true, br_false, Bool.not_true, Bool.not_false, pop_eq (hs := h2), pop_eq (hs := h1), push_eq (hs := h1), push_eq (hs := h3)]

theorem pl_17 (hk : tk 17 ≤ sk.length) : PlT N p nm at' lo me ar st sk f nx m d l o a 17 := by
 rw [show tk 17 = 1 by decide +kernel] at hk
 obtain ⟨t, x, rfl, ht⟩ := snoc1 (s := sk) (by omega)
 obtain ⟨hst, hx⟩ := all_snoc hsk
 have h1 : t.length ≤ 1000 := by omega
 have h2 : (t ++ [x]).length ≤ 1000 := by omega
 refine ⟨at', lo, me, 0, 0, t ++ [if x = 0 then 1 else 0], o, ⟨hlo, hlu, hme, by decide, snoc_all hst (by split <;> exact ⟨by omega, by omega⟩), ⟨[], by simp, by simp⟩, fun _ => ⟨rfl, .inl ⟨rfl, rfl⟩, by rw [show tk 17 = 1 by decide +kernel, show gv 17 = 1 by decide +kernel]; simp only [List.length_append, List.length_singleton]; omega⟩⟩, fun fi fl k => ?_⟩
 unfold Z78 Z78_T
 simp only [Int.reduceEq, decide_true, decide_false, br_true, br_false, Bool.not_true, Bool.not_false, pop_eq (hs := h1), Z98, Z98_T, push_eq (hs := h1), br_dec]
 split <;> rfl

theorem pl_18 (ha : 0 ≤ a ∧ a < 8) : PlT N p nm at' lo me ar st sk f nx m d l o a 18 := by
 obtain ⟨i, rfl, hi⟩ : ∃ i : Nat, a = (i : Int) ∧ i < 8 := ⟨a.toNat, by omega, by omega⟩
 have h0 : sk.length ≤ 1000 := by omega
 have e1 : inB (i : Int) 8 = true := inB_of (by omega)
 refine ⟨at', lo, me, 0, 0, sk ++ [lo.getD i 0], o, ⟨hlo, hlu, hme, by decide, snoc_all hsk (getD_u16 hlu i), ⟨[], by simp, by simp⟩, fun _ => ⟨rfl, .inl ⟨rfl, rfl⟩, by rw [show tk 18 = 0 by decide +kernel, show gv 18 = 1 by decide +kernel]; simp only [List.length_append, List.length_singleton]; omega⟩⟩, fun fi fl k => ?_⟩
 unfold Z78 Z78_T
 simp only [Int.reduceEq, decide_true, decide_false, br_true, br_false, Bool.not_true, Bool.not_false, e1, Int.toNat_natCast, hi, push_eq (hs := h0)]

theorem pl_19 (hk : tk 19 ≤ sk.length) (ha : 0 ≤ a ∧ a < 8) : PlT N p nm at' lo me ar st sk f nx m d l o a 19 := by
 obtain ⟨i, rfl, hi⟩ : ∃ i : Nat, a = (i : Int) ∧ i < 8 := ⟨a.toNat, by omega, by omega⟩
 rw [show tk 19 = 1 by decide +kernel] at hk
 obtain ⟨t, x, rfl, ht⟩ := snoc1 (s := sk) (by omega)
 obtain ⟨hst, hx⟩ := all_snoc hsk
 have h1 : t.length ≤ 1000 := by omega
 have h2 : (t ++ [x]).length ≤ 1000 := by omega
 have e1 : inB (i : Int) 8 = true := inB_of (by omega)
 refine ⟨at', lo.set i x, me, 0, 0, t, o, ⟨by rw [List.length_set]; exact hlo, set_u16 hlu hx i, hme, by decide, hst, ⟨[], by simp, by simp⟩, fun _ => ⟨rfl, .inl ⟨rfl, rfl⟩, by rw [show tk 19 = 1 by decide +kernel, show gv 19 = 0 by decide +kernel]; simp only [List.length_append, List.length_singleton]; omega⟩⟩, fun fi fl k => ?_⟩
 unfold Z78 Z78_T
 simp only [Int.reduceEq, decide_true, decide_false, br_true, br_false, Bool.not_true, Bool.not_false, pop_eq (hs := h1), e1, Int.toNat_natCast, hi]

theorem pl_20 (hk : tk 20 ≤ sk.length) : PlT N p nm at' lo me ar st sk f nx m d l o a 20 := by
 rw [show tk 20 = 1 by decide +kernel] at hk
 obtain ⟨t, x, rfl, ht⟩ := snoc1 (s := sk) (by omega)
 obtain ⟨hst, hx⟩ := all_snoc hsk
 have h1 : t.length ≤ 1000 := by omega
 have h2 : (t ++ [x]).length ≤ 1000 := by omega
 by_cases h32 : 32 ≤ x
 ·refine ⟨at', lo, me, 3, 0, t, o, ⟨hlo, hlu, hme, by decide, hst, ⟨[], by simp, by simp⟩, fun h => absurd h (by decide)⟩, fun fi fl k => ?_⟩
  unfold Z78 Z78_T
  simp only [Int.reduceEq, decide_true, decide_false, br_true, br_false, Bool.not_true, Bool.not_false, Z73, Z73_T, end_eq, pop_eq (hs := h1), h32]
 ·obtain ⟨i, rfl, hi⟩ : ∃ i : Nat, x = (i : Int) ∧ i < 32 := ⟨x.toNat, by have := hx.1; omega, by have := hx.1; omega⟩
  have e1 : inB (i : Int) 32 = true := inB_of (by omega)
  refine ⟨at', lo, me, 0, 0, t ++ [IntKind.wrap .u16 (me.getD i 0)], o, ⟨hlo, hlu, hme, by decide, snoc_all hst (u16_wrap _), ⟨[], by simp, by simp⟩, fun _ => ⟨rfl, .inl ⟨rfl, rfl⟩, by rw [show tk 20 = 1 by decide +kernel, show gv 20 = 1 by decide +kernel]; simp only [List.length_append, List.length_singleton]; omega⟩⟩, fun fi fl k => ?_⟩
  unfold Z78 Z78_T
  simp only [Int.reduceEq, decide_true, decide_false, br_true, br_false, Bool.not_true, Bool.not_false, Z73, Z73_T, end_eq, pop_eq (hs := h1), push_eq (hs := h1), h32, e1, Int.toNat_natCast, hi]

theorem pl_21 (hk : tk 21 ≤ sk.length) : PlT N p nm at' lo me ar st sk f nx m d l o a 21 := by
 rw [show tk 21 = 2 by decide +kernel] at hk
 obtain ⟨t, x, y, rfl, ht⟩ := snoc2 (s := sk) (by omega)
 obtain ⟨hsx, hy⟩ := all_snoc hsk
 obtain ⟨hst, hx⟩ := all_snoc hsx
 have h1 : t.length ≤ 1000 := by omega
 have h2 : (t ++ [x]).length ≤ 1000 := by simp; omega
 have h3 : (t ++ [y]).length ≤ 1000 := by simp; omega
 by_cases h32 : 32 ≤ x
 ·refine ⟨at', lo, me, 3, 0, t, o, ⟨hlo, hlu, hme, by decide, hst, ⟨[], by simp, by simp⟩, fun h => absurd h (by decide)⟩, fun fi fl k => ?_⟩
  unfold Z78 Z78_T
  simp only [Int.reduceEq, decide_true, decide_false, br_true, br_false, Bool.not_true, Bool.not_false, Z73, Z73_T, end_eq, pop_eq (hs := h2), pop_eq (hs := h1), h32]
 ·obtain ⟨i, rfl, hi⟩ : ∃ i : Nat, x = (i : Int) ∧ i < 32 := ⟨x.toNat, by have := hx.1; omega, by have := hx.1; omega⟩
  have e1 : inB (i : Int) 32 = true := inB_of (by omega)
  refine ⟨at', lo, me.set i (IntKind.wrap .u8 y), 0, 0, t, o, ⟨hlo, hlu, by rw [List.length_set]; exact hme, by decide, hst, ⟨[], by simp, by simp⟩, fun _ => ⟨rfl, .inl ⟨rfl, rfl⟩, by rw [show tk 21 = 2 by decide +kernel, show gv 21 = 0 by decide +kernel]; simp only [List.length_append, List.length_singleton]; omega⟩⟩, fun fi fl k => ?_⟩
  unfold Z78 Z78_T
  simp only [Int.reduceEq, decide_true, decide_false, br_true, br_false, Bool.not_true, Bool.not_false, Z73, Z73_T, end_eq, pop_eq (hs := h2), pop_eq (hs := h1), h32, e1, Int.toNat_natCast, hi]

theorem pl_22 : PlT N p nm at' lo me ar st sk f nx m d l o a 22 := by
 refine ⟨a, lo, me, 0, 0, sk, o, ⟨hlo, hlu, hme, by decide, hsk, ⟨[], by simp, by simp⟩, fun _ => ⟨rfl, .inr ⟨rfl, rfl⟩, by rw [show tk 22 = 0 by decide +kernel, show gv 22 = 0 by decide +kernel]; omega⟩⟩, fun fi fl k => ?_⟩
 unfold Z78 Z78_T
 simp only [Int.reduceEq, decide_true, decide_false, br_true, br_false, Bool.not_true, Bool.not_false]

theorem pl_23 (hk : tk 23 ≤ sk.length) : PlT N p nm at' lo me ar st sk f nx m d l o a 23 := by
 rw [show tk 23 = 1 by decide +kernel] at hk
 obtain ⟨t, x, rfl, ht⟩ := snoc1 (s := sk) (by omega)
 obtain ⟨hst, hx⟩ := all_snoc hsk
 have h1 : t.length ≤ 1000 := by omega
 have h2 : (t ++ [x]).length ≤ 1000 := by omega
 by_cases hz : x = 0
 ·refine ⟨a, lo, me, 0, 0, t, o, ⟨hlo, hlu, hme, by decide, hst, ⟨[], by simp, by simp⟩, fun _ => ⟨rfl, .inr ⟨rfl, rfl⟩, by rw [show tk 23 = 1 by decide +kernel, show gv 23 = 0 by decide +kernel]; simp only [List.length_append, List.length_singleton]; omega⟩⟩, fun fi fl k => ?_⟩
  unfold Z78 Z78_T
  simp only [Int.reduceEq, decide_true, decide_false, br_true, br_false, Bool.not_true, Bool.not_false, pop_eq (hs := h1), hz]
 ·refine ⟨at', lo, me, 0, 0, t, o, ⟨hlo, hlu, hme, by decide, hst, ⟨[], by simp, by simp⟩, fun _ => ⟨rfl, .inl ⟨rfl, rfl⟩, by rw [show tk 23 = 1 by decide +kernel, show gv 23 = 0 by decide +kernel]; simp only [List.length_append, List.length_singleton]; omega⟩⟩, fun fi fl k => ?_⟩
  unfold Z78 Z78_T
  simp only [Int.reduceEq, decide_true, decide_false, br_true, br_false, Bool.not_true, Bool.not_false, pop_eq (hs := h1), hz]

theorem pl_24 (hk : tk 24 ≤ sk.length) : PlT N p nm at' lo me ar st sk f nx m d l o a 24 := by
 rw [show tk 24 = 1 by decide +kernel] at hk
 obtain ⟨t, x, rfl, ht⟩ := snoc1 (s := sk) (by omega)
 obtain ⟨hst, hx⟩ := all_snoc hsk
 have h1 : t.length ≤ 1000 := by omega
 have h2 : (t ++ [x]).length ≤ 1000 := by omega
 have ho1 : o.length ≤ 1000 := by omega
 refine ⟨at', lo, me, 0, 0, t, o ++ [(true, band .u16 x 255)], ⟨hlo, hlu, hme, by decide, hst, ⟨_, by simp, rfl⟩, fun _ => ⟨rfl, .inl ⟨rfl, rfl⟩, by rw [show tk 24 = 1 by decide +kernel, show gv 24 = 0 by decide +kernel]; simp only [List.length_append, List.length_singleton]; omega⟩⟩, fun fi fl k => ?_⟩
 unfold Z78 Z78_T
 simp only [Int.reduceEq, decide_true, decide_false, br_true, br_false, Bool.not_true, Bool.not_false, pop_eq (hs := h1), mask8, app4 ho1, sub_all]

theorem pl_25 (hk : tk 25 ≤ sk.length) : PlT N p nm at' lo me ar st sk f nx m d l o a 25 := by
 rw [show tk 25 = 1 by decide +kernel] at hk
 obtain ⟨t, x, rfl, ht⟩ := snoc1 (s := sk) (by omega)
 obtain ⟨hst, hx⟩ := all_snoc hsk
 have h1 : t.length ≤ 1000 := by omega
 have h2 : (t ++ [x]).length ≤ 1000 := by omega
 by_cases hz : x = 0
 ·refine ⟨at', lo, me, 4, 0, t, o, ⟨hlo, hlu, hme, by decide, hst, ⟨[], by simp, by simp⟩, fun h => absurd h (by decide)⟩, fun fi fl k => ?_⟩
  unfold Z78 Z78_T
  simp only [Int.reduceEq, decide_true, decide_false, br_true, br_false, Bool.not_true, Bool.not_false, pop_eq (hs := h1), hz, end_eq]
 ·refine ⟨at', lo, me, 0, 0, t, o, ⟨hlo, hlu, hme, by decide, hst, ⟨[], by simp, by simp⟩, fun _ => ⟨rfl, .inl ⟨rfl, rfl⟩, by rw [show tk 25 = 1 by decide +kernel, show gv 25 = 0 by decide +kernel]; simp only [List.length_append, List.length_singleton]; omega⟩⟩, fun fi fl k => ?_⟩
  unfold Z78 Z78_T
  simp only [Int.reduceEq, decide_true, decide_false, br_true, br_false, Bool.not_true, Bool.not_false, pop_eq (hs := h1), hz, end_eq]

theorem pl_26 (hk : tk 26 ≤ sk.length) : PlT N p nm at' lo me ar st sk f nx m d l o a 26 := by
 rw [show tk 26 = 1 by decide +kernel] at hk
 obtain ⟨t, x, rfl, ht⟩ := snoc1 (s := sk) (by omega)
 obtain ⟨hst, hx⟩ := all_snoc hsk
 have h1 : t.length ≤ 1000 := by omega
 have h2 : (t ++ [x]).length ≤ 1000 := by omega
 refine ⟨at', lo, me, 1, band .u16 x 255, t, o, ⟨hlo, hlu, hme, by decide, hst, ⟨[], by simp, by simp⟩, fun h => absurd h (by decide)⟩, fun fi fl k => ?_⟩
 unfold Z78 Z78_T
 simp only [Int.reduceEq, decide_true, decide_false, br_true, br_false, Bool.not_true, Bool.not_false, pop_eq (hs := h1), mask8, end_eq]

theorem plain_tot (op : Int) (hop : 1 ≤ op ∧ op ≤ 4 ∨ 17 ≤ op ∧ op ≤ 26) (hk : tk op ≤ sk.length) (hi : isI op a = true) : PlT N p nm at' lo me ar st sk f nx m d l o a op := by
 have h8 : op = 18 ∨ op = 19 → 0 ≤ a ∧ a < 8 := fun h => by
  unfold isI at hi
  simp only [Bool.and_eq_true, decide_eq_true_eq] at hi
  rcases h with rfl | rfl
  ·rw [show (tb 18).2.2.1 = 8 by decide +kernel] at hi; omega
  ·rw [show (tb 19).2.2.1 = 8 by decide +kernel] at hi; omega
 have hc : op = 1 ∨ op = 2 ∨ op = 3 ∨ op = 4 ∨ op = 17 ∨ op = 18 ∨ op = 19 ∨ op = 20 ∨ op = 21 ∨ op = 22 ∨ op = 23 ∨ op = 24 ∨ op = 25 ∨ op = 26 := by omega
 rcases hc with rfl | rfl | rfl | rfl | rfl | rfl | rfl | rfl | rfl | rfl | rfl | rfl | rfl | rfl
 ·exact pl_1 N p nm at' lo me ar st sk f nx m d l o a hlo hlu hme hsk hs ho
 ·exact pl_2 N p nm at' lo me ar st sk f nx m d l o a hlo hlu hme hsk hs ho hk
 ·exact pl_3 N p nm at' lo me ar st sk f nx m d l o a hlo hlu hme hsk hs ho hk
 ·exact pl_4 N p nm at' lo me ar st sk f nx m d l o a hlo hlu hme hsk hs ho hk
 ·exact pl_17 N p nm at' lo me ar st sk f nx m d l o a hlo hlu hme hsk hs ho hk
 ·exact pl_18 N p nm at' lo me ar st sk f nx m d l o a hlo hlu hme hsk hs ho (h8 (by omega))
 ·exact pl_19 N p nm at' lo me ar st sk f nx m d l o a hlo hlu hme hsk hs ho hk (h8 (by omega))
 ·exact pl_20 N p nm at' lo me ar st sk f nx m d l o a hlo hlu hme hsk hs ho hk
 ·exact pl_21 N p nm at' lo me ar st sk f nx m d l o a hlo hlu hme hsk hs ho hk
 ·exact pl_22 N p nm at' lo me ar st sk f nx m d l o a hlo hlu hme hsk hs ho
 ·exact pl_23 N p nm at' lo me ar st sk f nx m d l o a hlo hlu hme hsk hs ho hk
 ·exact pl_24 N p nm at' lo me ar st sk f nx m d l o a hlo hlu hme hsk hs ho hk
 ·exact pl_25 N p nm at' lo me ar st sk f nx m d l o a hlo hlu hme hsk hs ho hk
 ·exact pl_26 N p nm at' lo me ar st sk f nx m d l o a hlo hlu hme hsk hs ho hk

/-- an instruction on two numbers -/
theorem reckon_tot (op : Int) (hop : 5 ≤ op ∧ op ≤ 16) (hk : tk op ≤ sk.length) : ∃ en2 co2 sk2, Pl op a at' sk.length o at' lo me en2 co2 sk2 o ∧ ∀ {R : Type} (fi : Int) (fl : List Bool) k, Z89 (R := R) N op p nm at' lo me ar 0 0 st sk f nx m d l fi fl o k = k p nm at' lo me ar en2 co2 st f nx m d l fi fl o sk2 := by
 have hc : op = 5 ∨ op = 6 ∨ op = 7 ∨ op = 8 ∨ op = 9 ∨ op = 10 ∨ op = 11 ∨ op = 12 ∨ op = 13 ∨ op = 14 ∨ op = 15 ∨ op = 16 := by omega
 have ht2 : tk op = 2 ∧ gv op = 1 ∧ endsI op = false := by
  rcases hc with rfl | rfl | rfl | rfl | rfl | rfl | rfl | rfl | rfl | rfl | rfl | rfl <;> decide +kernel
 obtain ⟨e1, e2, e3⟩ := ht2
 rw [e1] at hk
 obtain ⟨t, x, y, rfl, ht⟩ := snoc2 (s := sk) (by omega)
 obtain ⟨hsx, hy⟩ := all_snoc hsk
 obtain ⟨hst, hx⟩ := all_snoc hsx
 have h1 : t.length ≤ 1000 := by omega
 have h2 : (t ++ [x]).length ≤ 1000 := by simp; omega
 obtain ⟨q, hq⟩ := logic_ex N op
 obtain ⟨v, e, hv, hd⟩ := do_ex N q x y
 have good : Pl op a at' (t ++ [x] ++ [y]).length o at' lo me 0 0 (t ++ [v]) o := ⟨hlo, hlu, hme, by decide, snoc_all hst hv, ⟨[], by simp, by simp⟩, fun _ => ⟨rfl, .inl ⟨rfl, e3⟩, by rw [e1, e2]; simp only [List.length_append, List.length_singleton]; omega⟩⟩
 by_cases hz : y = 0
 ·by_cases h89 : op = 8 ∨ op = 9
  ·refine ⟨2, 0, t, ⟨hlo, hlu, hme, by decide, hst, ⟨[], by simp, by simp⟩, fun h => absurd h (by decide)⟩, fun fi fl k => ?_⟩
   unfold Z89 Z89_T
   rcases h89 with rfl | rfl <;> simp only [pop_eq (hs := h2), pop_eq (hs := h1), hz, Int.reduceEq, decide_true, decide_false, br_true, br_false, Bool.not_true, Bool.not_false, end_eq]
  ·refine ⟨0, 0, t ++ [v], good, fun fi fl k => ?_⟩
   have n8 : ¬ op = 8 := fun e => h89 (.inl e)
   have n9 : ¬ op = 9 := fun e => h89 (.inr e)
   unfold Z89 Z89_T
   simp only [pop_eq (hs := h2), pop_eq (hs := h1), hz, n8, n9, decide_true, decide_false, br_true, br_false, Bool.not_true, Bool.not_false, hq]
   rw [hz] at hd
   rw [hd, push_eq (hs := h1)]
 ·refine ⟨0, 0, t ++ [v], good, fun fi fl k => ?_⟩
  unfold Z89 Z89_T
  simp only [pop_eq (hs := h2), pop_eq (hs := h1), hz, decide_false, br_false, hq, hd, push_eq (hs := h1)]
end

end Go.Proofs.YtbclodhbcplhmaaGreat
