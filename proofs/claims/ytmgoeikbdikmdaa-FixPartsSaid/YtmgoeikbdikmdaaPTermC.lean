/-
 terms (chapter 2): operators on two terms.
-/
import Derived.Test.YtmgoeikbdikmdaaPTermB
set_option linter.unusedSimpArgs false
set_option linter.unusedVariables false
namespace Go.Proofs.Ytmgoeikbdikmdaa
open Go.Gx

/-! ### what is known of the numbers -/
theorem doN_comm {op : Int} (h : op = 4 ∨ op = 5 ∨ op = 6 ∨ op = 7 ∨ op = 9 ∨ op = 14) (w x y : Nat) : doN op w x y = doN op w y x := by
 rcases h with rfl | rfl | rfl | rfl | rfl | rfl <;> unfold doN <;> simp
 ·exact Nat.and_comm x y
 ·exact Nat.or_comm x y
 ·exact Nat.xor_comm x y
 ·rw [Nat.add_comm]
 ·rw [Nat.mul_comm]
 ·by_cases e : x = y
  ·simp [e]
  ·rw [if_neg e, if_neg (fun h => e h.symm)]
theorem doN_same {op : Int} (h : op = 4 ∨ op = 5) (w x : Nat) : doN op w x x = x := by
 rcases h with rfl | rfl <;> unfold doN <;> simp
theorem doN_none {op : Int} (h : op = 6 ∨ op = 8) {w x : Nat} (hx : x < 2 ^ w) : doN op w x x = 0 := by
 rcases h with rfl | rfl <;> unfold doN <;> simp
 rw [show x + (2 ^ w - x) = 2 ^ w by omega, Nat.mod_self]
theorem doN_self {op : Int} (h : op = 14 ∨ op = 15) (w x y : Nat) : doN op w x x = doN op w y y := by
 rcases h with rfl | rfl <;> unfold doN <;> simp
theorem doN_zero {op : Int} (h : op = 4 ∨ op = 9 ∨ op = 15) (w x : Nat) : doN op w x 0 = 0 := by
 rcases h with rfl | rfl | rfl <;> unfold doN <;> simp
theorem doN_keep {op : Int} (h : op = 5 ∨ op = 6 ∨ op = 7 ∨ op = 8 ∨ op = 12 ∨ op = 13 ∨ op = 11) {w x : Nat} (hw : 1 ≤ w) (hx : x < 2 ^ w) : doN op w x 0 = x := by
 rcases h with rfl | rfl | rfl | rfl | rfl | rfl | rfl <;> unfold doN <;> simp
 ·exact Nat.mod_eq_of_lt hx
 ·exact Nat.mod_eq_of_lt hx
 ·rw [if_neg (by omega)]; exact Nat.mod_eq_of_lt hx
 ·omega
theorem doN_ones {w x : Nat} (hx : x < 2 ^ w) : doN 4 w x (2 ^ w - 1) = x := by
 unfold doN
 simp
 exact Nat.mod_eq_of_lt hx
theorem doN_one {op : Int} (h : op = 9 ∨ op = 10) {w x : Nat} (hx : x < 2 ^ w) : doN op w x 1 = x := by
 rcases h with rfl | rfl <;> unfold doN <;> simp
 exact Nat.mod_eq_of_lt hx

theorem Wd_out {op w : Int} (h : Wd w) : Wd (outW op w) := by
 unfold outW
 split
 ·exact .inl rfl
 ·exact h

/-! ### the printed functions -/
theorem two_eq {R : Type} (N : Nat) (op : Int) (k : Bool → Option R) : Z35 N op k = k (decide (4 ≤ op ∧ op ≤ 15)) := by
 unfold Z35 Z35_T
 rw [br_dec]
 by_cases h : 4 ≤ op
 ·rw [if_pos h]; simp [h]
 ·rw [if_neg h]; simp [h]
def trn (op : Int) : Bool := decide (op = 4 ∨ op = 5 ∨ op = 6 ∨ op = 7 ∨ op = 9 ∨ op = 14)
theorem turns_eq {R : Type} (N : Nat) (op : Int) (k : Bool → Option R) : Z34 N op k = k (trn op) := by
 unfold Z34 Z34_T trn
 simp only [br_dec]
 by_cases h1 : op = 4
 ·simp [h1]
 by_cases h2 : op = 5
 ·simp [h2]
 by_cases h3 : op = 6
 ·simp [h3]
 by_cases h4 : op = 7
 ·simp [h4]
 by_cases h5 : op = 9
 ·simp [h5]
 by_cases h6 : op = 14
 ·simp [h6]
 simp [h1, h2, h3, h4, h5, h6]

/-- what may come to a term of the arena, or not -/
structure May? (l : List Nd) (b : By) (w : Int) (f : (Nat → Nat) → Nat) (many : Nat) (t : Int) (ok : Bool) (l' : List Nd) (b' : By) : Prop where
 yes : ok = true → Got l w f many t l' b'
 no : ok = false → l' = l ∧ b' = b

theorem alike_eq (N : Nat) {l : List Nd} {b : By} (A : Ar l b) (ws : Ws) {op x : Int} (h : Tm l x) (ho : 4 ≤ op ∧ op ≤ 15) (hl : l.length < 65536) :
  ∃ ok t l' b', May? l b (outW op (wd l x)) (fun env => doN op (wd l x).toNat (val env l x) (val env l x)) 1 t ok l' b' ∧
   ∀ {R : Type} (k : Int → Int → Bool → By → Ws → List Nd → Option R), Z25 N op x l b ws k = k t 0 ok b' ws l' := by
 have hw := A.kw h
 have zero : ∀ v : Int, Wd v → ∃ t l' b', Got l v (fun _ => 0) 1 t l' b' ∧ ∀ {R : Type} (k : Int → Int → By → Ws → List Nd → Option R), Z13 N v 0 l b ws k = k t 0 b' ws l' := fun v hv => by
  obtain ⟨t, l', b', G, _, hc⟩ := Const_eq N A ws (w := v) (v := 0) hv (by omega) hl
  exact ⟨t, l', b', G.more (fun _ => by simp) (Nat.le_refl _), hc⟩
 unfold Z25 Z25_T
 by_cases h1 : op = 4
 ·subst h1
  exact ⟨true, x, l, b, ⟨fun _ => (Got.self A h).more (fun env => (doN_same (.inl rfl) _ _).symm) (by omega), fun e => (by cases e)⟩, fun k => by rw [Width_eq N A.len]; rfl⟩
 by_cases h2 : op = 5
 ·subst h2
  exact ⟨true, x, l, b, ⟨fun _ => (Got.self A h).more (fun env => (doN_same (.inr rfl) _ _).symm) (by omega), fun e => (by cases e)⟩, fun k => by rw [Width_eq N A.len]; rfl⟩
 by_cases h3 : op = 6 ∨ op = 8
 ·obtain ⟨t, l', b', G, hc⟩ := zero _ hw
  have e : outW op (wd l x) = wd l x := by unfold outW; rw [if_neg (by omega)]
  refine ⟨true, t, l', b', ⟨fun _ => ?_, fun e => (by cases e)⟩, fun k => ?_⟩
  ·rw [e]
   exact G.more (fun env => (doN_none h3 (A.lt' env h)).symm) (Nat.le_refl _)
  ·rw [Width_eq N A.len]
   simp only [br_dec]
   rw [if_neg h1, if_neg h2]
   by_cases h4 : op = 6
   ·rw [if_pos h4]; exact hc _
   ·rw [if_neg h4, if_pos (by omega)]; exact hc _
 by_cases h4 : op = 14 ∨ op = 15
 ·have e : outW op (wd l x) = 1 := by unfold outW; rw [if_pos h4]
  have hlt : doN op (wd l x).toNat 0 0 < 2 := by rcases h4 with rfl | rfl <;> unfold doN <;> simp
  obtain ⟨t, l', b', G, _, hc⟩ := Const_eq N A ws (w := 1) (v := ((doN op (wd l x).toNat 0 0 : Nat) : Int)) (.inl rfl) (by omega) hl
  refine ⟨true, t, l', b', ⟨fun _ => ?_, fun e => (by cases e)⟩, fun k => ?_⟩
  ·rw [e]
   refine G.more (fun env => ?_) (Nat.le_refl _)
   rw [Int.toNat_natCast, show (1 : Int).toNat = 1 from rfl, Nat.mod_eq_of_lt (by omega)]
   exact doN_self h4 _ _ _
  ·rw [Width_eq N A.len]
   simp only [br_dec]
   rw [if_neg h1, if_neg h2, if_neg (by omega), if_neg (by omega)]
   obtain ⟨n, hn, hn'⟩ := hw.nat
   have D : ∀ {S : Type} (k : Int → Int → Option S), Z36 N op (wd l x) (0 : Int) (0 : Int) k = k ((doN op (wd l x).toNat 0 0 : Nat) : Int) 0 := fun k => by
    have := Do_eq N (op := op) (w := n) (a := 0) (b := 0) hn' (by omega) (by omega) (by omega) k
    rw [hn]
    refine this.trans ?_
    simp
   by_cases h5 : op = 14
   ·rw [if_pos h5, D]; exact hc _
   ·rw [if_neg h5, if_pos (by omega), D]; exact hc _
 ·refine ⟨false, 0, l, b, ⟨fun e => (by cases e), fun _ => ⟨rfl, rfl⟩⟩, fun k => ?_⟩
  rw [Width_eq N A.len]
  simp only [br_dec]
  repeat rw [if_neg (by omega)]

end Go.Proofs.Ytmgoeikbdikmdaa
