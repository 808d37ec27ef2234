/-
 the tree of names (chapter 13): what the printed functions come to.
-/
import Derived.Test.YtbclodhbcplhmaaGreatPNames
namespace Go.Proofs.YtbclodhbcplhmaaGreat
open Go.Gx

abbrev KS : Sh := .pair .str .str
abbrev VS : Sh := .pair (.int .i64) .bool
abbrev TM := List ((ByteArray × ByteArray) × (Int × Bool))
theorem KS_key : KS.key = true := rfl

def tfind (m : TM) (k : ByteArray × ByteArray) : Option (Int × Bool) := mfind KS VS m k
def tput (m : TM) (k : ByteArray × ByteArray) (v : Int × Bool) : TM := mput KS VS m k v
def tdel (m : TM) (k : ByteArray × ByteArray) : TM := mdel KS VS m k

def aboveV (d n : List UInt8) (m : TM) : Int :=
 if n = [] then 65282 else if d = [] then 0 else match tfind m (bs [], bs d) with
 | none => 65282
 | some x => if x.2 then 0 else 65300

theorem above_eq {R : Type} (N : Nat) (d n : List UInt8) (nx : Int) (m : TM) (k : Int → Int → TM → Option R) : Z115 N (bs d) (bs n) nx m k = k (aboveV d n m) nx m := by
 unfold Z115 Z115_T aboveV
 simp only [br_self, br_dec, bs_inj]
 by_cases h1 : n = []
 ·simp [h1]
 ·rw [if_neg h1, if_neg h1]
  by_cases h2 : d = []
  ·simp [h2]
  ·rw [if_neg h2, if_neg h2]
   show br (!(tfind m (bs [], bs d)).isSome) _ (br (!((tfind m (bs [], bs d)).getD ((0 : Int), false)).2) _ _) = _
   cases tfind m (bs [], bs d) with
   | none => rfl
   | some x =>
    rcases x with ⟨i, b⟩
    cases b <;> rfl

/-- what stands at a path: number, is it a directory, code -/
def getV (l : List UInt8) (m : TM) : Int × Bool × Int :=
 if aboveV (splitL l).1 (splitL l).2 m = 0 then match tfind m (bs (splitL l).1, bs (splitL l).2) with
  | none => (0, false, 65282)
  | some x => (x.1, x.2, 0)
 else (0, false, aboveV (splitL l).1 (splitL l).2 m)

theorem get_eq {R : Type} (N : Nat) (hN : 8 < N) (l : List UInt8) (nx : Int) (m : TM) (k : Int → Bool → Int → Int → TM → Option R) :
  Z116 N (bs l) nx m k = k (getV l m).1 (getV l m).2.1 (getV l m).2.2 nx m := by
 unfold Z116 Z116_T getV
 rw [Z117_eq' N hN, above_eq]
 simp only [br_self, br_ndec]
 by_cases h : aboveV (splitL l).1 (splitL l).2 m = 0
 ·rw [if_pos h, if_pos h]
  show br (!(tfind m (bs (splitL l).1, bs (splitL l).2)).isSome) _ (k ((tfind m (bs (splitL l).1, bs (splitL l).2)).getD ((0 : Int), false)).1 ((tfind m (bs (splitL l).1, bs (splitL l).2)).getD ((0 : Int), false)).2 _ _ _) = _
  cases tfind m (bs (splitL l).1, bs (splitL l).2) with
  | none => rfl
  | some x => rfl
 ·rw [if_neg h, if_neg h]

def findV (l : List UInt8) (m : TM) : Int × Bool × Int := if (getV l m).2.2 = 0 then getV l m else (-1, false, (getV l m).2.2)

theorem find_eq {R : Type} (N : Nat) (hN : 8 < N) (l : List UInt8) (nx : Int) (m : TM) (k : Int → Bool → Int → Int → TM → Option R) :
  Z111 N (bs l) nx m k = k (findV l m).1 (findV l m).2.1 (findV l m).2.2 nx m := by
 unfold Z111 Z111_T findV
 rw [get_eq N hN, br_ndec]
 by_cases h : (getV l m).2.2 = 0
 ·rw [if_pos h, if_pos h, h]
 ·rw [if_neg h, if_neg h]

def makeC (l : List UInt8) (dir : Bool) (m : TM) : Int :=
 if aboveV (splitL l).1 (splitL l).2 m ≠ 0 then aboveV (splitL l).1 (splitL l).2 m
 else if (tfind m (bs (splitL l).1, bs (splitL l).2)).isSome then 65297
 else if dir ∧ (splitL l).1 ≠ [] then 65302
 else if 8 ≤ m.length then 65308 else 0

theorem make_eq {R : Type} (N : Nat) (hN : 8 < N) (l : List UInt8) (dir : Bool) (nx : Int) (hx : 0 ≤ nx ∧ nx < 4611686018427387904) (m : TM) (k : Int → Int → Int → TM → Option R) :
  Z112 N (bs l) dir nx m k = if makeC l dir m = 0 then k nx 0 (nx + 1) (tput m (bs (splitL l).1, bs (splitL l).2) (nx, dir)) else k (-1) (makeC l dir m) nx m := by
 unfold Z112 Z112_T makeC
 rw [Z117_eq' N hN, above_eq]
 simp only [br_self, br_ndec, br_dec, bs_inj]
 by_cases h : aboveV (splitL l).1 (splitL l).2 m = 0
 ·rw [if_pos h, if_neg (not_not_intro h)]
  show br (tfind m (bs (splitL l).1, bs (splitL l).2)).isSome _ _ = _
  have e0 : IntKind.wrap .i64 (nx + 1) = nx + 1 := w64 (by omega)
  have e1 : IntKind.wrap .i64 (nx + 1 - 1) = nx := by rw [w64 (by omega)]; omega
  have e8 : ((8 : Int) ≤ (m.length : Int)) = (8 ≤ m.length) := propext ⟨by omega, by omega⟩
  rw [e0, e1]
  simp only [e8]
  cases hs : (tfind m (bs (splitL l).1, bs (splitL l).2)).isSome with
  | true => simp
  | false =>
   simp only [Bool.false_eq_true, if_false, br_false]
   cases dir with
   | false =>
    simp only [br_false, Bool.false_eq_true, false_and, if_false]
    by_cases h8 : 8 ≤ m.length
    ·rw [if_pos h8, if_pos h8]; rfl
    ·rw [if_neg h8, if_neg h8]; rfl
   | true =>
    simp only [br_true, true_and]
    by_cases hd : (splitL l).1 = []
    ·rw [if_pos hd, if_neg (not_not_intro hd)]
     by_cases h8 : 8 ≤ m.length
     ·rw [if_pos h8, if_pos h8]; rfl
     ·rw [if_neg h8, if_neg h8]; rfl
    ·rw [if_neg hd, if_pos hd]; rfl
 ·rw [if_neg h, if_pos h, if_neg h]

/-- a name of one letter -/
theorem split_one {c : UInt8} (h : letter8 c = true) (h1 : c ≠ 46) : splitL [c] = ([], [c]) := by
 have h2 : c ≠ 47 := by rintro rfl; revert h; decide
 have hc : cutL [c] = ([c], [], false) := by simp [cutL, h2]
 have hp : partB [c] = true := by simp [partB, h, h1]
 simp [splitL, nameB, hc, hp]

end Go.Proofs.YtbclodhbcplhmaaGreat
