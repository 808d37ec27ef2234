/-
 the machine (chapter 16): what each of its functions comes to.
-/
import Derived.Test.YtbclodhbcplhmaaGreatPRunF
import Derived.Test.YtbclodhbcplhmaaGreatPCheck
set_option linter.unusedSimpArgs false
set_option linter.unusedVariables false
set_option linter.unusedSectionVars false
namespace Go.Proofs.YtbclodhbcplhmaaGreat
open Go.Gx

abbrev EV := List (Bool × Int)
theorem snoc1 {s : List Int} (h : 1 ≤ s.length) : ∃ t x, s = t ++ [x] ∧ t.length + 1 = s.length := by
 have hn : s ≠ [] := fun e => by rw [e] at h; simp at h
 exact ⟨s.dropLast, s.getLast hn, (List.dropLast_concat_getLast hn).symm, by simp; omega⟩
theorem snoc2 {s : List Int} (h : 2 ≤ s.length) : ∃ t x y, s = t ++ [x] ++ [y] ∧ t.length + 2 = s.length := by
 obtain ⟨t, y, rfl, h1⟩ := snoc1 (s := s) (by omega)
 obtain ⟨t', x, rfl, h2⟩ := snoc1 (s := t) (by omega)
 exact ⟨t', x, y, rfl, by omega⟩
theorem snoc3 {s : List Int} (h : 3 ≤ s.length) : ∃ t x y z, s = t ++ [x] ++ [y] ++ [z] ∧ t.length + 3 = s.length := by
 obtain ⟨t, z, rfl, h1⟩ := snoc1 (s := s) (by omega)
 obtain ⟨t', x, y, rfl, h2⟩ := snoc2 (s := t) (by omega)
 exact ⟨t', x, y, z, rfl, by omega⟩
theorem all_snoc {s : List Int} {x : Int} (h : ∀ z ∈ s ++ [x], U16 z) : (∀ z ∈ s, U16 z) ∧ U16 x :=
 ⟨fun z hz => h z (List.mem_append_left _ hz), h x (by simp)⟩
theorem snoc_all {s : List Int} {x : Int} (h : ∀ z ∈ s, U16 z) (k : U16 x) : ∀ z ∈ s ++ [x], U16 z := fun z hz => by
 rcases List.mem_append.1 hz with hz | hz
 ·exact h z hz
 ·rw [List.mem_singleton.1 hz]; exact k
theorem u16_wrap (x : Int) : U16 (IntKind.wrap .u16 x) := by
 unfold U16
 rw [wu16_mod]; omega
theorem U16.nat {x : Int} (h : U16 x) : ∃ n : Nat, x = (n : Int) ∧ n ≤ 65535 := ⟨x.toNat, by have := h.1; omega, by have := h.2; omega⟩
theorem getD_u16 {l : List Int} (h : ∀ x ∈ l, U16 x) (i : Nat) : U16 (l.getD i 0) := by
 rw [List.getD_eq_getElem?_getD]
 cases e : l[i]? with
 | none => exact ⟨by simp, by simp⟩
 | some x => exact h x (List.mem_of_getElem? e)
theorem set_u16 {l : List Int} (h : ∀ x ∈ l, U16 x) {v : Int} (hv : U16 v) (i : Nat) : ∀ x ∈ l.set i v, U16 x := fun x hx => by
 rcases List.mem_or_eq_of_mem_set hx with hx | rfl
 ·exact h x hx
 ·exact hv
theorem app2 {α : Type} {l : List α} (h : l.length ≤ 1000) : (((fits (0 : Nat) (List.length l) l) && (decide ((((List.length l) + (1 : Nat)) * (2 : Nat)) ≤ (70368744177664 : Nat)))) && true) = true := by
 rw [fits_of (by omega), decide_eq_true (by omega)]; rfl
theorem app4 {α : Type} {l : List α} (h : l.length ≤ 1000) : (((fits (0 : Nat) (List.length l) l) && (decide ((((List.length l) + (1 : Nat)) * (4 : Nat)) ≤ (70368744177664 : Nat)))) && true) = true := by
 rw [fits_of (by omega), decide_eq_true (by omega)]; rfl

section
variable {R : Type} (N : Nat) (p : List Ins) (nm : List ByteArray) (at' : Int) (lo me : List Int) (ar : List (List Int)) (en co st : Int) (sk f : List Int) (nx : Int) (m : TM) (d : DM) (l : OL) (fi : Int) (fl : List Bool) (o : EV)

theorem top_of {s : List Int} {x : Int} (hs : s.length ≤ 1000) : IntKind.wrap .i64 (((s ++ [x]).length : Int) - 1) = (s.length : Int) := by
 rw [List.length_append, List.length_singleton, w64 (by omega)]; omega
theorem top_get {s : List Int} {x : Int} : (s ++ [x]).getD s.length 0 = x := by
 rw [List.getD_eq_getElem?_getD, List.getElem?_append_right (Nat.le_refl _), Nat.sub_self]; rfl
theorem top_sub {s : List Int} {x : Int} : sub (s ++ [x]) 0 (s.length - 0) = s := by
 rw [sub_nat, List.drop_zero, Nat.sub_zero, List.take_left']
 rfl
theorem top_in {s : List Int} {x : Int} : inB (s.length : Int) (s ++ [x]).length = true := inB_of (by simp; omega)

theorem pop_eq (x : Int) {s : List Int} (hs : s.length ≤ 1000) (k) : Z81 (R := R) N p nm at' lo me ar en co st (s ++ [x]) f nx m d l fi fl o k = k x p nm at' lo me ar en co st f nx m d l fi fl o s := by
 unfold Z81 Z81_T
 rw [top_of hs]
 simp only [Int.toNat_natCast, top_get, top_sub, top_in, br_true]
 rw [br_of (decide_eq_true (by simp)), br_of (leB_of (by simp; omega)), br_of (fits_of (by simp))]
theorem push_eq (v : Int) (hs : sk.length ≤ 1000) (k) : Z83 (R := R) N v p nm at' lo me ar en co st sk f nx m d l fi fl o k = k p nm at' lo me ar en co st f nx m d l fi fl o (sk ++ [v]) := by
 unfold Z83 Z83_T
 rw [br_of (app2 hs), sub_all]
theorem answer_eq (v : Int) (hs : sk.length ≤ 1000) (ho : o.length ≤ 1000) (k) : Z63 (R := R) N v p nm at' lo me ar en co st sk f nx m d l fi fl o k = k p nm at' lo me ar en co st f nx m d l fi fl (sk ++ [v]) (o ++ [(false, v)]) := by
 unfold Z63 Z63_T
 rw [push_eq (hs := hs), br_of (app4 ho), sub_all]
theorem answer_cut (v : Int) {n : Nat} (h : n ≤ sk.length) (hs : sk.length ≤ 1000) (ho : o.length ≤ 1000) (x y : Nat) (k) : Z65 (R := R) N v p nm at' n x lo me ar en co st y sk f nx m d l fi fl o k = k p nm at' lo me ar en co st f nx m d l fi fl (sk.take n ++ [v]) (o ++ [(false, v)]) := by
 unfold Z65 Z65_T Z85 Z85_T
 rw [br_of (by rw [fits_of (by omega), decide_eq_true (by omega)]; rfl)]
 dsimp only
 rw [br_of (app4 ho), sub_all]
 rfl
theorem end_eq (how code : Int) (k) : Z71 (R := R) N how code p nm at' lo me ar en co st sk f nx m d l fi fl o k = k p nm at' lo me ar how code st sk f nx m d l fi fl o := rfl
theorem name_eq (a : Nat) (h : a < nm.length) (k) : Z75 (R := R) N (a : Int) p nm at' lo me ar en co st sk f nx m d l fi fl o k = k (nm.getD a (bs [])) p nm at' lo me ar en co st sk f nx m d l fi fl o := by
 unfold Z75 Z75_T
 rw [br_of (inB_of (by omega)), Int.toNat_natCast]
end

/-! ### what is reckoned -/
theorem band_u16 (a b : Int) : U16 (band .u16 a b) := u16_wrap _
theorem mask16 {R : Type} (N : Nat) (k : Int → Option R) : Z119 N 16 k = k 65535 := rfl
theorem mask8 {R : Type} (N : Nat) (k : Int → Option R) : Z119 N 8 k = k 255 := rfl
theorem do_ex (N : Nat) (op a b : Int) : ∃ v e, U16 v ∧ ∀ {R : Type} (k : Int → Int → Option R), Z118 N op 16 a b k = k v e := by
 have hx := band_u16 a 65535
 have hy := band_u16 b 65535
 have go : ∀ {R : Type} (k : Int → Int → Option R), Z118 N op 16 a b k = Z122 N op 16 (band .u16 a 65535) (band .u16 b 65535) (fun i300 b301 => br (!b301) (k (0 : Int) (5 : Int)) (k (band .u16 i300 65535) (0 : Int))) := fun k => rfl
 generalize band .u16 a 65535 = x at hx go
 generalize band .u16 b 65535 = y at hy go
 have h2 : ∃ v c, ∀ {R : Type} (k : Int → Bool → Option R), Z122 N op 16 x y k = k v c := by
  unfold Z122 Z122_T
  have ng : decide (y < 0) = false := decide_eq_false (by have := hy.1; omega)
  by_cases h3 : op = 3
  ·simp only [h3, Int.reduceEq, decide_true, decide_false, br_true, br_false]
   exact ⟨_, _, fun k => rfl⟩
  simp only [h3, decide_false, br_false]
  by_cases h4 : op = 4
  ·simp only [h4, Int.reduceEq, decide_true, decide_false, br_true, br_false]
   exact ⟨_, _, fun k => rfl⟩
  simp only [h4, decide_false, br_false]
  by_cases h5 : op = 5
  ·simp only [h5, Int.reduceEq, decide_true, decide_false, br_true, br_false]
   exact ⟨_, _, fun k => rfl⟩
  simp only [h5, decide_false, br_false]
  by_cases h6 : op = 6
  ·simp only [h6, Int.reduceEq, decide_true, decide_false, br_true, br_false]
   exact ⟨_, _, fun k => rfl⟩
  simp only [h6, decide_false, br_false]
  by_cases h7 : op = 7
  ·simp only [h7, Int.reduceEq, decide_true, decide_false, br_true, br_false]
   exact ⟨_, _, fun k => rfl⟩
  simp only [h7, decide_false, br_false]
  by_cases h8 : op = 8
  ·simp only [h8, Int.reduceEq, decide_true, decide_false, br_true, br_false]
   exact ⟨_, _, fun k => rfl⟩
  simp only [h8, decide_false, br_false]
  by_cases h9 : op = 9
  ·simp only [h9, Int.reduceEq, decide_true, decide_false, br_true, br_false]
   exact ⟨_, _, fun k => rfl⟩
  simp only [h9, decide_false, br_false]
  by_cases h10 : op = 10
  ·simp only [h10, Int.reduceEq, decide_true, decide_false, br_true, br_false]
   unfold Z121 Z121_T
   by_cases hz : y = 0
   ·simp only [hz, decide_true, br_true]
    exact ⟨_, _, fun k => rfl⟩
   ·simp only [hz, decide_false, br_false]
    exact ⟨_, _, fun k => rfl⟩
  simp only [h10, decide_false, br_false]
  by_cases h11 : op = 11
  ·simp only [h11, Int.reduceEq, decide_true, decide_false, br_true, br_false]
   unfold Z123 Z123_T
   by_cases hz : y = 0
   ·simp only [hz, decide_true, br_true]
    exact ⟨_, _, fun k => rfl⟩
   ·simp only [hz, decide_false, br_false]
    exact ⟨_, _, fun k => rfl⟩
  simp only [h11, decide_false, br_false]
  by_cases h12 : op = 12
  ·simp only [h12, Int.reduceEq, decide_true, decide_false, br_true, br_false, ng]
   exact ⟨_, _, fun k => rfl⟩
  simp only [h12, decide_false, br_false]
  by_cases h13 : op = 13
  ·simp only [h13, Int.reduceEq, decide_true, decide_false, br_true, br_false, ng]
   exact ⟨_, _, fun k => rfl⟩
  simp only [h13, decide_false, br_false]
  by_cases h14 : op = 14
  ·simp only [h14, Int.reduceEq, decide_true, decide_false, br_true, br_false]
   unfold Z124 Z124_T
   cases decide (x = y) <;> exact ⟨_, _, fun k => rfl⟩
  simp only [h14, decide_false, br_false]
  by_cases h15 : op = 15
  ·simp only [h15, Int.reduceEq, decide_true, decide_false, br_true, br_false]
   unfold Z124 Z124_T
   cases decide (x < y) <;> exact ⟨_, _, fun k => rfl⟩
  simp only [h15, decide_false, br_false]
  exact ⟨_, _, fun k => rfl⟩
 obtain ⟨v, c, h⟩ := h2
 cases c with
 | true => exact ⟨_, _, band_u16 v 65535, fun k => (go k).trans (h _)⟩
 | false => exact ⟨0, 5, ⟨by omega, by omega⟩, fun k => (go k).trans (h _)⟩
theorem logic_ex (N : Nat) (op : Int) : ∃ v, ∀ {R : Type} (k : Int → Option R), Z61 N op k = k v := by
 unfold Z61 Z61_T
 by_cases h10 : op = 10
 ·simp only [h10, Int.reduceEq, decide_true, decide_false, br_true, br_false]
  exact ⟨_, fun k => rfl⟩
 simp only [h10, decide_false, br_false]
 by_cases h11 : op = 11
 ·simp only [h11, Int.reduceEq, decide_true, decide_false, br_true, br_false]
  exact ⟨_, fun k => rfl⟩
 simp only [h11, decide_false, br_false]
 by_cases h12 : op = 12
 ·simp only [h12, Int.reduceEq, decide_true, decide_false, br_true, br_false]
  exact ⟨_, fun k => rfl⟩
 simp only [h12, decide_false, br_false]
 by_cases h13 : op = 13
 ·simp only [h13, Int.reduceEq, decide_true, decide_false, br_true, br_false]
  exact ⟨_, fun k => rfl⟩
 simp only [h13, decide_false, br_false]
 by_cases h14 : op = 14
 ·simp only [h14, Int.reduceEq, decide_true, decide_false, br_true, br_false]
  exact ⟨_, fun k => rfl⟩
 simp only [h14, decide_false, br_false]
 by_cases h15 : op = 15
 ·simp only [h15, Int.reduceEq, decide_true, decide_false, br_true, br_false]
  exact ⟨_, fun k => rfl⟩
 simp only [h15, decide_false, br_false]
 by_cases h16 : op = 16
 ·simp only [h16, Int.reduceEq, decide_true, decide_false, br_true, br_false]
  exact ⟨_, fun k => rfl⟩
 simp only [h16, decide_false, br_false]
 exact ⟨_, fun k => rfl⟩

end Go.Proofs.YtbclodhbcplhmaaGreat
