/-
  small classes (chapter 17): what is known of them.
-/
import Derived.Test.YtlfhmecdgfennaaPCastA
set_option linter.unusedVariables false
set_option linter.unusedSimpArgs false
namespace Go.Proofs.Ytlfhmecdgfennaa
open Go.Gx
def offs : List Int → Int
  | [] => 0
  | x :: r => (1 + x) + offs r
theorem offs_cons (x : Int) (r : List Int) : offs (x :: r) = (1 + x) + offs r := rfl
theorem offs_app : ∀ (A B : List Int), offs (A ++ B) = offs A + offs B
  | [], B => by simp [offs]
  | x :: r, B => by
    rw [List.cons_append, offs_cons, offs_cons, offs_app r B]
    omega
def Fit (C : List Int) : Prop := ∀ z ∈ C, 0 ≤ z ∧ z ≤ 3
theorem offs_le : ∀ {C : List Int}, Fit C → 0 ≤ offs C ∧ offs C ≤ 4 * (C.length : Int)
  | [], _ => by simp [offs]
  | x :: r, h => by
    have := offs_le (C := r) fun z hz => h z (List.mem_cons_of_mem _ hz)
    have hx := h x List.mem_cons_self
    unfold offs
    rw [List.length_cons]
    omega
theorem Fit.sub {C : List Int} (h : Fit C) (n : Nat) : Fit (C.take n) := fun z hz => h z (List.mem_of_mem_take hz)
theorem Fit.drop {C : List Int} (h : Fit C) (n : Nat) : Fit (C.drop n) := fun z hz => h z (List.mem_of_mem_drop hz)

theorem may_fit {L : List EN} {S : List Int} {a b c : Int} (h : mayB L S a b c = true) : Fit (capsL L ++ S) ∧ L.length ≤ 8 ∧ S.length ≤ 2 ∧ (capsL L ++ S).length ≤ 6 ∧ 0 ≤ a ∧ a ≤ 6 := by
  unfold mayB at h
  simp only [Bool.and_eq_true, decide_eq_true_eq] at h
  obtain ⟨⟨⟨⟨⟨⟨⟨h1, h2⟩, h3⟩, h4⟩, h5⟩, h6⟩, _⟩, _⟩ := h
  rw [← capsL_all, Bool.and_eq_true] at h4
  have h6 := fitB_iff.1 h6
  refine ⟨fun z hz => ?_, okT_len h1, h3, by rw [List.length_append]; omega, h6.1, h6.2⟩
  rcases List.mem_append.1 hz with hz | hz
  · exact fitB_iff.1 (List.all_eq_true.1 h4.2 z hz)
  · exact fitB_iff.1 (List.all_eq_true.1 h5 z hz)


end Go.Proofs.Ytlfhmecdgfennaa
