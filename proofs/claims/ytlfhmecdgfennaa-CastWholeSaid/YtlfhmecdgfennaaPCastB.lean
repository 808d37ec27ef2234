/-
  the places of a cast's numbers (chapter 18): what the printed functions come to.
-/
import Derived.Test.YtlfhmecdgfennaaPCastA
set_option linter.unusedVariables false
set_option linter.unusedSimpArgs false
namespace Go.Proofs.Ytlfhmecdgfennaa
open Go.Gx

def offs : List Int → Int
  | [] => 0
  | x :: r => (1 + x) + offs r
theorem offs_cons (x : Int) (r : List Int) : offs (x :: r) = (1 + x) + offs r := rfl
theorem offs_app : ∀ (A B : List Int), offs (A ++ B) = offs A + offs B
  | [], B => by simp [offs]
  | x :: r, B => by
    rw [List.cons_append, offs_cons, offs_cons, offs_app r B]
    omega
/-- small numbers -/
def Fit (C : List Int) : Prop := ∀ z ∈ C, 0 ≤ z ∧ z ≤ 3
theorem offs_le : ∀ {C : List Int}, Fit C → 0 ≤ offs C ∧ offs C ≤ 4 * (C.length : Int)
  | [], _ => by simp [offs]
  | x :: r, h => by
    have := offs_le (C := r) fun z hz => h z (List.mem_cons_of_mem _ hz)
    have hx := h x List.mem_cons_self
    unfold offs
    rw [List.length_cons]
    omega
theorem Fit.sub {C : List Int} (h : Fit C) (n : Nat) : Fit (C.take n) := fun z hz => h z (List.mem_of_mem_take hz)
theorem Fit.drop {C : List Int} (h : Fit C) (n : Nat) : Fit (C.drop n) := fun z hz => h z (List.mem_of_mem_drop hz)

theorem may_fit {L : List EN} {S : List Int} {a b c : Int} (h : mayB L S a b c = true) : Fit (capsL L ++ S) ∧ L.length ≤ 8 ∧ S.length ≤ 2 ∧ (capsL L ++ S).length ≤ 6 ∧ 0 ≤ a ∧ a ≤ 6 := by
  unfold mayB at h
  simp only [Bool.and_eq_true, decide_eq_true_eq] at h
  obtain ⟨⟨⟨⟨⟨⟨⟨h1, h2⟩, h3⟩, h4⟩, h5⟩, h6⟩, _⟩, _⟩ := h
  rw [← capsL_all, Bool.and_eq_true] at h4
  have h6 := fitB_iff.1 h6
  refine ⟨fun z hz => ?_, okT_len h1, h3, by rw [List.length_append]; omega, h6.1, h6.2⟩
  rcases List.mem_append.1 hz with hz | hz
  · exact fitB_iff.1 (List.all_eq_true.1 h4.2 z hz)
  · exact fitB_iff.1 (List.all_eq_true.1 h5 z hz)

theorem size_l0 {R : Type} (N : Nat) (k : Int → Option R) (C : List Int) (hC : Fit C) (hl : C.length ≤ 1000) :
    ∀ (m i n : Nat), C.length - i = m → i ≤ C.length → m < n → ∀ s : Int, 0 ≤ s → s ≤ 100000 + 4 * (i : Int) → Z9_l0 N k n s (C.length : Int) (i : Int) C = k (s + offs (C.drop i)) := by
  intro m
  induction m with
  | zero =>
    intro i n hm hi hn s hs0 hs1
    obtain ⟨n, rfl⟩ : ∃ n', n = n' + 1 := ⟨n - 1, by omega⟩
    have : i = C.length := by omega
    subst this
    simp only [Z9_l0, Z9_l0_T0, br_dec, List.drop_length, offs, Int.add_zero]
    rw [if_neg (by omega)]
  | succ m ih =>
    intro i n hm hi hn s hs0 hs1
    obtain ⟨n, rfl⟩ : ∃ n', n = n' + 1 := ⟨n - 1, by omega⟩
    have hlt : i < C.length := by omega
    have hg0 : C.getD i 0 = C[i] := by simp [List.getD, hlt]
    have hb := hC C[i] (List.getElem_mem hlt)
    have hw : IntKind.wrap .i64 (s + IntKind.wrap .i64 (1 + C[i])) = s + (1 + C[i]) := by
      rw [w64 (x := 1 + C[i]) (by omega), w64 (by omega)]
    simp only [Z9_l0, Z9_l0_T0, Int.toNat_natCast, hg0]
    rw [br_of (decide_eq_true (by omega)), br_of (inB_of (by omega)), br_of (decide_eq_true hlt), w64_succ (by omega), hw, ih (i + 1) n (by omega) (by omega) (by omega) _ (by omega) (by omega), List.drop_eq_getElem_cons hlt]
    rw [offs_cons]
    congr 1
    omega

theorem vars_l0 {R : Type} (N : Nat) (k : Int → Option R) (C : List Int) (hC : Fit C) (hl : C.length ≤ 1000) :
    ∀ (m i n : Nat), C.length - i = m → i ≤ C.length → m < n → ∀ s : Int, 0 ≤ s → s ≤ 100000 + 4 * (i : Int) → Z11_l0 N k n s (C.length : Int) (i : Int) C = k (s + offs (C.drop i)) := by
  intro m
  induction m with
  | zero =>
    intro i n hm hi hn s hs0 hs1
    obtain ⟨n, rfl⟩ : ∃ n', n = n' + 1 := ⟨n - 1, by omega⟩
    have : i = C.length := by omega
    subst this
    simp only [Z11_l0, Z11_l0_T0, br_dec, List.drop_length, offs, Int.add_zero]
    rw [if_neg (by omega)]
  | succ m ih =>
    intro i n hm hi hn s hs0 hs1
    obtain ⟨n, rfl⟩ : ∃ n', n = n' + 1 := ⟨n - 1, by omega⟩
    have hlt : i < C.length := by omega
    have hg0 : C.getD i 0 = C[i] := by simp [List.getD, hlt]
    have hb := hC C[i] (List.getElem_mem hlt)
    have hw : IntKind.wrap .i64 (s + IntKind.wrap .i64 (1 + C[i])) = s + (1 + C[i]) := by
      rw [w64 (x := 1 + C[i]) (by omega), w64 (by omega)]
    simp only [Z11_l0, Z11_l0_T0, Int.toNat_natCast, hg0]
    rw [br_of (decide_eq_true (by omega)), br_of (inB_of (by omega)), br_of (decide_eq_true hlt), w64_succ (by omega), hw, ih (i + 1) n (by omega) (by omega) (by omega) _ (by omega) (by omega), List.drop_eq_getElem_cons hlt]
    rw [offs_cons]
    congr 1
    omega

section
variable {R : Type} (N : Nat) (hN : 300 < N) (L : List EN) (S : List Int) (a b c : Int) (H : mayB L S a b c = true)
include hN H

theorem Size_eq (i : Int) (k : Int → Option R) : Z9 N L S a b c i k = k (if i < 0 ∨ ((capsL L ++ S).length : Int) ≤ i then -1 else offs ((capsL L ++ S).take i.toNat)) := by
  obtain ⟨hf, hL, hS, hC, ha⟩ := may_fit H
  unfold Z9 Z9_T
  rw [Caps_eq N (by omega) L (by omega) S (by omega), May_eq17 N (by omega), H]
  rw [Bool.not_true, Bool.not_false, br_true, br_ndec, br_dec]
  by_cases h1 : i < 0
  · rw [if_pos h1, if_pos (Or.inl h1)]
  · rw [if_neg h1]
    by_cases h2 : ((capsL L ++ S).length : Int) ≤ i
    · rw [if_pos h2, if_pos (Or.inr h2)]
    · rw [if_neg h2, if_neg (by omega), br_of (leB_of (by omega)), Nat.sub_zero, br_of (fits_of (by omega))]
      have hs : sub (capsL L ++ S) 0 i.toNat = (capsL L ++ S).take i.toNat := by simp [sub]
      have hlen : ((capsL L ++ S).take i.toNat).length = i.toNat := by rw [List.length_take]; omega
      have := size_l0 N (fun i492 => k i492) ((capsL L ++ S).take i.toNat) (hf.sub _) (by omega) _ 0 N rfl (by omega) (by omega) 0 (by omega) (by omega)
      rw [hlen, List.drop_zero, Int.zero_add] at this
      rw [hs]
      exact this

theorem Vars_eq (k : Int → Option R) : Z11 N L S a b c k = k (a + offs (capsL L ++ S)) := by
  obtain ⟨hf, hL, hS, hC, ha⟩ := may_fit H
  unfold Z11 Z11_T
  rw [May_eq17 N (by omega), H, Caps_eq N (by omega) L (by omega) S (by omega)]
  rw [Bool.not_true, br_false]
  have := vars_l0 N (fun i535 => k i535) (capsL L ++ S) hf (by omega) _ 0 N rfl (by omega) (by omega) a (by omega) (by omega)
  rw [List.drop_zero] at this
  exact this

end

end Go.Proofs.Ytlfhmecdgfennaa
