/-
  a tree is made (chapter 13): what the printed functions come to.
-/
import Derived.Test.YtlfhmecdgfennaaPNames
import Derived.Test.YtlfhmecdgfennaaPRefName
namespace Go.Proofs.Ytlfhmecdgfennaa
open Go.Gx

abbrev KS : Sh := .pair .str .str
abbrev VS : Sh := .pair (.int .i64) .bool
abbrev TM := List ((ByteArray × ByteArray) × (Int × Bool))
theorem KS_key : KS.key = true := rfl

def tfind (m : TM) (k : ByteArray × ByteArray) : Option (Int × Bool) := mfind KS VS m k
def tput (m : TM) (k : ByteArray × ByteArray) (v : Int × Bool) : TM := mput KS VS m k v
def tdel (m : TM) (k : ByteArray × ByteArray) : TM := mdel KS VS m k

def aboveV (d n : List UInt8) (m : TM) : Int :=
  if n = [] then 65282 else if d = [] then 0 else match tfind m (bs [], bs d) with
  | none => 65282
  | some x => if x.2 then 0 else 65300

theorem above_eq {R : Type} (N : Nat) (d n : List UInt8) (nx : Int) (m : TM) (k : Int → Int → TM → Option R) : Z81 N (bs d) (bs n) nx m k = k (aboveV d n m) nx m := by
  unfold Z81 Z81_T aboveV
  simp only [br_self, br_dec, bs_inj]
  by_cases h1 : n = []
  · simp [h1]
  · rw [if_neg h1, if_neg h1]
    by_cases h2 : d = []
    · simp [h2]
    · rw [if_neg h2, if_neg h2]
      show br (!(tfind m (bs [], bs d)).isSome) _ (br (!((tfind m (bs [], bs d)).getD ((0 : Int), false)).2) _ _) = _
      cases tfind m (bs [], bs d) with
      | none => rfl
      | some x =>
        rcases x with ⟨i, b⟩
        cases b <;> rfl

def makeC (l : List UInt8) (dir : Bool) (m : TM) : Int :=
  if aboveV (splitL l).1 (splitL l).2 m ≠ 0 then aboveV (splitL l).1 (splitL l).2 m
  else if (tfind m (bs (splitL l).1, bs (splitL l).2)).isSome then 65297
  else if dir ∧ (splitL l).1 ≠ [] then 65302
  else if 8 ≤ m.length then 65308 else 0

theorem make_eq {R : Type} (N : Nat) (hN : 8 < N) (l : List UInt8) (dir : Bool) (nx : Int) (hx : 0 ≤ nx ∧ nx < 4611686018427387904) (m : TM) (k : Int → Int → Int → TM → Option R) :
    Z80 N (bs l) dir nx m k = if makeC l dir m = 0 then k nx 0 (nx + 1) (tput m (bs (splitL l).1, bs (splitL l).2) (nx, dir)) else k (-1) (makeC l dir m) nx m := by
  unfold Z80 Z80_T makeC
  rw [Z82_eq' N hN, above_eq]
  simp only [br_self, br_ndec, br_dec, bs_inj]
  by_cases h : aboveV (splitL l).1 (splitL l).2 m = 0
  · rw [if_pos h, if_neg (not_not_intro h)]
    show br (tfind m (bs (splitL l).1, bs (splitL l).2)).isSome _ _ = _
    have e0 : IntKind.wrap .i64 (nx + 1) = nx + 1 := w64 (by omega)
    have e1 : IntKind.wrap .i64 (nx + 1 - 1) = nx := by rw [w64 (by omega)]; omega
    have e8 : ((8 : Int) ≤ (m.length : Int)) = (8 ≤ m.length) := propext ⟨by omega, by omega⟩
    rw [e0, e1]
    simp only [e8]
    cases hs : (tfind m (bs (splitL l).1, bs (splitL l).2)).isSome with
    | true => simp
    | false =>
      simp only [Bool.false_eq_true, if_false, br_false]
      cases dir with
      | false =>
        simp only [br_false, Bool.false_eq_true, false_and, if_false]
        by_cases h8 : 8 ≤ m.length
        · rw [if_pos h8, if_pos h8]; rfl
        · rw [if_neg h8, if_neg h8]; rfl
      | true =>
        simp only [br_true, true_and]
        by_cases hd : (splitL l).1 = []
        · rw [if_pos hd, if_neg (not_not_intro hd)]
          by_cases h8 : 8 ≤ m.length
          · rw [if_pos h8, if_pos h8]; rfl
          · rw [if_neg h8, if_neg h8]; rfl
        · rw [if_neg hd, if_pos hd]; rfl
  · rw [if_neg h, if_pos h, if_neg h]

/-- a name of one letter -/
theorem split_one {c : UInt8} (h : letter8 c = true) (h1 : c ≠ 46) : splitL [c] = ([], [c]) := by
  have h2 : c ≠ 47 := by rintro rfl; revert h; decide
  have hc : cutL [c] = ([c], [], false) := by simp [cutL, h2]
  have hp : partB [c] = true := by simp [partB, h, h1]
  simp [splitL, nameB, hc, hp]

end Go.Proofs.Ytlfhmecdgfennaa
