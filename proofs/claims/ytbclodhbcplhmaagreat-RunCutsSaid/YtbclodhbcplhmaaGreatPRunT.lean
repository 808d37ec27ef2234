/-
 the tree of names (chapter 13): what the program's functions come to.
-/
import Derived.Test.YtbclodhbcplhmaaGreatPNm
set_option linter.unusedSimpArgs false
set_option linter.unusedVariables false
namespace Go.Proofs.YtbclodhbcplhmaaGreat
open Go.Gx

abbrev EN := (ByteArray) × ((Bool) × (Int))
def pth (s : ByteArray) : List UInt8 := s.data.toList
theorem bs_pth (s : ByteArray) : bs (pth s) = s := bs_list s

/-! ### the program's functions -/
abbrev keyL (l : List UInt8) : ByteArray × ByteArray := (bs (splitL l).1, bs (splitL l).2)

def dropC (l : List UInt8) (dir : Bool) (m : TM) : Int :=
 if (getV l m).2.2 ≠ 0 then (getV l m).2.2 else if dir = false ∧ (getV l m).2.1 = true then 65301 else if dir = true ∧ (getV l m).2.1 = false then 65300
 else if dir = true ∧ 0 < mcount (bs l) m then 65319 else 0

theorem drop_eq {R : Type} (N : Nat) (hN : 8 < N) (l : List UInt8) (dir : Bool) (nx : Int) (m : TM) (k : Int → Int → TM → Option R) :
  Z110 N (bs l) dir nx m k = if dropC l dir m = 0 then k 0 nx (tdel m (keyL l)) else k (dropC l dir m) nx m := by
 unfold Z110 Z110_T dropC
 have hm : ∀ k : Int → Int → TM → Option R, tree_Tree_many_fb98 (bs l) nx m k = k (mcount (bs l) m) nx m := fun k => rfl
 have hd : mdel (.pair .str .str) (.pair (.int .i64) .bool) m (bs (splitL l).1, bs (splitL l).2) = tdel m (keyL l) := rfl
 rw [get_eq N hN]
 simp only [br_ndec, Z117_eq' N hN, hm, br_dec, hd]
 by_cases h : (getV l m).2.2 = 0
 ·rw [if_pos h, if_neg (not_not_intro h)]
  by_cases hc : 0 < mcount (bs l) m
  ·cases dir <;> cases (getV l m).2.1 <;> simp [hc]
  ·cases dir <;> cases (getV l m).2.1 <;> simp [hc]
 ·rw [if_neg h, if_pos h, if_neg h]

theorem Many_eq {R : Type} (N : Nat) (hN : 8 < N) (l : List UInt8) (nx : Int) (m : TM) (k : Int → Int → TM → Option R) :
  Z113 N (bs l) nx m k = k (if (getV l m).2.2 ≠ 0 then (getV l m).2.2 else if (getV l m).2.1 = false then 65300 else IntKind.wrap .u16 (mcount (bs l) m)) nx m := by
 unfold Z113 Z113_T
 have hm : ∀ k : Int → Int → TM → Option R, tree_Tree_many_fb98 (bs l) nx m k = k (mcount (bs l) m) nx m := fun k => rfl
 rw [get_eq N hN]
 simp only [br_ndec, hm]
 by_cases h : (getV l m).2.2 = 0
 ·rw [if_pos h, if_neg (not_not_intro h)]
  cases (getV l m).2.1 <;> simp
 ·rw [if_neg h, if_pos h]

def moveC (a b : List UInt8) (m : TM) : Int :=
 if (getV a m).2.2 ≠ 0 then (getV a m).2.2 else if (getV a m).2.1 = true then 65301
 else if aboveV (splitL b).1 (splitL b).2 m ≠ 0 then aboveV (splitL b).1 (splitL b).2 m else if a = b then 0 else match tfind m (keyL b) with
  | some y => if y.2 then 65301 else 0
  | none => 0
def movedC (a b : List UInt8) (m : TM) : TM := if moveC a b m = 0 ∧ a ≠ b then tput (tdel m (keyL a)) (keyL b) ((getV a m).1, (getV a m).2.1) else m
def goneC (a b : List UInt8) (m : TM) : Int := if moveC a b m = 0 ∧ a ≠ b then (match tfind m (keyL b) with
 | some y => y.1
 | none => -1) else -1

theorem move_eq {R : Type} (N : Nat) (hN : 8 < N) (a b : List UInt8) (nx : Int) (m : TM) (k : Int → Int → Int → TM → Option R) :
  Z114 N (bs a) (bs b) nx m k = k (goneC a b m) (moveC a b m) nx (movedC a b m) := by
 unfold Z114 Z114_T
 have hf : mfind (.pair .str .str) (.pair (.int .i64) .bool) m (bs (splitL b).1, bs (splitL b).2) = tfind m (keyL b) := rfl
 have hd : mdel (.pair .str .str) (.pair (.int .i64) .bool) m (bs (splitL a).1, bs (splitL a).2) = tdel m (keyL a) := rfl
 have hp : ∀ v, mput (.pair .str .str) (.pair (.int .i64) .bool) (tdel m (keyL a)) (bs (splitL b).1, bs (splitL b).2) v = tput (tdel m (keyL a)) (keyL b) v := fun v => rfl
 rw [get_eq N hN]
 simp only [Z117_eq' N hN, above_eq, hf, hd, hp, bs_inj, Bool.not_not, beq_self_eq_true, br_true]
 simp only [br_dec]
 unfold goneC movedC moveC
 by_cases h : (getV a m).2.2 = 0
 ·simp only [h, if_true, ne_eq, not_true, if_false]
  cases hdir : (getV a m).2.1 with
  | true => simp
  | false =>
   simp only [br_false, Bool.false_eq_true, if_false]
   by_cases h2 : aboveV (splitL b).1 (splitL b).2 m = 0
   ·simp only [h2, if_true, not_true, if_false]
    by_cases e : a = b
    ·simp [e]
    ·simp only [e, if_false, not_false_iff, and_true]
     cases tfind m (keyL b) with
     | none => simp
     | some y =>
      obtain ⟨yi, yd⟩ := y
      cases yd <;> simp
   ·simp [h2]
 ·simp [h]

theorem copy_eq {R : Type} (N : Nat) (nx : Int) (m : TM) (k : Int → TM → Int → TM → Option R) : Z109 N nx m k = k nx m nx m := by
 unfold Z109 Z109_T
 show br (decide (nx = nx)) _ _ = _
 rw [decide_eq_true rfl, br_true]

end Go.Proofs.YtbclodhbcplhmaaGreat
