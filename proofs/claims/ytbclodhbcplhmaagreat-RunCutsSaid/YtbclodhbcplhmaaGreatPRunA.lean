/-
 the files (chapter 14): what the printed functions come to.
-/
import Derived.Test.YtbclodhbcplhmaaGreatPRunT
import Derived.KernelRfl
set_option linter.unusedSimpArgs false
set_option linter.unusedVariables false
namespace Go.Proofs.YtbclodhbcplhmaaGreat
open Go.Gx

abbrev DM := List (Int × List Int)
abbrev OL := List (Int × Int)

/-- the first free place -/
def freeV (f : List Int) : Int :=
 if 0 = f.getD 0 0 then 0 else if 0 = f.getD 1 0 then 1 else if 0 = f.getD 2 0 then 2 else if 0 = f.getD 3 0 then 3 else -1

theorem freeV_lt (f : List Int) : -1 ≤ freeV f ∧ freeV f ≤ 3 := by
 unfold freeV; split; · omega
 split; · omega
 split; · omega
 split <;> omega

theorem index_step {R : Type} (N : Nat) (k0 : Int → List Int → Int → TM → DM → OL → Option R) (k1 : List Int → Int → TM → DM → OL → Option R)
  (n i : Nat) (hi : i < 4) (f : List Int) (nx : Int) (m : TM) (d : DM) (l : OL) :
  Z103_l0 N k0 k1 (n + 1) 4 4 0 4 (i : Int) f nx m d l =
   if 0 = f.getD i 0 then k0 (i : Int) f nx m d l else Z103_l0 N k0 k1 n 4 4 0 4 ((i + 1 : Nat) : Int) f nx m d l := by
 simp only [Z103_l0, Z103_l0_T0]
 rw [br_of (decide_eq_true (by omega)), br_of (inB_of (by omega)), br_of (decide_eq_true (by omega)), br_dec, w64_succ (by omega)]
 rfl

theorem index_eq {R : Type} (N : Nat) (hN : 8 < N) (f : List Int) (nx : Int) (m : TM) (d : DM) (l : OL) (k : Int → List Int → Int → TM → DM → OL → Option R) :
  Z103 N 4 4 0 f nx m d l k = k (freeV f) f nx m d l := by
 obtain ⟨n, rfl⟩ : ∃ n, N = n + 1 + 1 + 1 + 1 + 1 := ⟨N - 5, by omega⟩
 unfold Z103 Z103_T
 have h0 := fun k0 k1 => index_step (R := R) (n + 1 + 1 + 1 + 1 + 1) k0 k1 (n + 1 + 1 + 1 + 1) 0 (by omega) f nx m d l
 have h1 := fun k0 k1 => index_step (R := R) (n + 1 + 1 + 1 + 1 + 1) k0 k1 (n + 1 + 1 + 1) 1 (by omega) f nx m d l
 have h2 := fun k0 k1 => index_step (R := R) (n + 1 + 1 + 1 + 1 + 1) k0 k1 (n + 1 + 1) 2 (by omega) f nx m d l
 have h3 := fun k0 k1 => index_step (R := R) (n + 1 + 1 + 1 + 1 + 1) k0 k1 (n + 1) 3 (by omega) f nx m d l
 refine (h0 _ _).trans ?_
 unfold freeV
 by_cases c0 : 0 = f.getD 0 0
 ·rw [if_pos c0, if_pos c0]; rfl
 rw [if_neg c0, if_neg c0]
 refine (h1 _ _).trans ?_
 by_cases c1 : 0 = f.getD 1 0
 ·rw [if_pos c1, if_pos c1]; rfl
 rw [if_neg c1, if_neg c1]
 refine (h2 _ _).trans ?_
 by_cases c2 : 0 = f.getD 2 0
 ·rw [if_pos c2, if_pos c2]; rfl
 rw [if_neg c2, if_neg c2]
 refine (h3 _ _).trans ?_
 by_cases c3 : 0 = f.getD 3 0
 ·rw [if_pos c3, if_pos c3]; rfl
 rw [if_neg c3, if_neg c3]
 rfl

theorem free_eq {R : Type} (N : Nat) (hN : 8 < N) (f : List Int) (nx : Int) (m : TM) (d : DM) (l : OL) (k : Int → Bool → List Int → Int → TM → DM → OL → Option R) :
  Z34 N f nx m d l k = k (freeV f) (decide (0 ≤ freeV f)) f nx m d l := by
 unfold Z34 Z34_T
 rw [index_eq N hN]

theorem may_eq {R : Type} (N : Nat) (hN : 8 < N) (s : List UInt8) (f : List Int) (nx : Int) (hx : 0 ≤ nx ∧ nx < 4611686018427387904) (m : TM) (d : DM) (l : OL)
  (k : Bool → List Int → Int → TM → DM → OL → Option R) :
  Z35 N (bs s) f nx m d l k = k (!(decide (makeC s false m = 65282))) f nx m d l := by
 unfold Z35 Z35_T Z109 Z109_T
 show br (decide (nx = nx)) (Z112 N (bs s) false nx m _) none = _
 rw [br_of (decide_eq_true rfl), make_eq N hN s false nx hx]
 by_cases h : makeC s false m = 0
 ·rw [if_pos h, h]
 ·rw [if_neg h]



def dgetV (d : DM) (i : Int) : List Int := Option.getD (mfind (.int .i64) (.isl (.int .u8)) d i) (Sh.zero (.isl (.int .u8)))

end Go.Proofs.YtbclodhbcplhmaaGreat
