/-
 names of one letter (chapters 13 and 14).
-/
import Derived.Test.YtbclodhbcplhmaaGreatPTreeA
set_option linter.unusedSimpArgs false
set_option linter.unusedVariables false
namespace Go.Proofs.YtbclodhbcplhmaaGreat
open Go.Gx

def nm (k : Nat) : List UInt8 := [UInt8.ofNat (97 + k)]

theorem nm_val {k : Nat} (h : k < 26) : (UInt8.ofNat (97 + k)).toNat = 97 + k := by simp; omega

theorem nm_inj {a b : Nat} (ha : a < 26) (hb : b < 26) (h : nm a = nm b) : a = b := by
 have h1 : UInt8.ofNat (97 + a) = UInt8.ofNat (97 + b) := by simpa [nm] using h
 have := congrArg UInt8.toNat h1
 rw [nm_val ha, nm_val hb] at this
 omega

theorem split_nm {k : Nat} (h : k < 26) : splitL (nm k) = ([], nm k) := by
 apply split_one
 ·have h1 := nm_val h
  have h2 := letterI_u8 (UInt8.ofNat (97 + k))
  rw [h1] at h2
  rw [← h2]
  have e1 : decide ((97 : Int) ≤ ((97 + k : Nat) : Int)) = true := decide_eq_true (by omega)
  have e2 : decide (((97 + k : Nat) : Int) ≤ 122) = true := decide_eq_true (by omega)
  unfold letterI
  rw [e1, e2]
  rfl
 ·intro e
  have := congrArg UInt8.toNat e
  rw [nm_val h] at this
  simp at this
  omega

def key (k : Nat) : ByteArray × ByteArray := (bs [], bs (nm k))
theorem key_ne {a b : Nat} (ha : a < 26) (hb : b < 26) (h : a ≠ b) : key a ≠ key b := fun e => h (nm_inj ha hb (bs_inj.1 (congrArg Prod.snd e)))

theorem above_nm {k : Nat} (m : TM) : aboveV [] (nm k) m = 0 := by simp [aboveV, nm]

theorem makeC_nm {k : Nat} (h : k < 26) (m : TM) : makeC (nm k) false m = if (tfind m (key k)).isSome then 65297 else if 8 ≤ m.length then 65308 else 0 := by
 unfold makeC
 rw [split_nm h]
 simp only [above_nm]
 rw [if_neg (by simp)]
 simp only [Bool.false_eq_true, false_and, if_false]
 rfl

theorem getV_nm {k : Nat} (h : k < 26) (m : TM) : getV (nm k) m = match tfind m (key k) with
  | none => (0, false, 65282)
  | some x => (x.1, x.2, 0) := by
 unfold getV
 rw [split_nm h]
 simp only [above_nm]
 rw [if_pos trivial]
 rfl

theorem str_nm {k : Nat} (h : k < 26) : mkStr [IntKind.wrap .u8 (97 + IntKind.wrap .u8 (k : Int))] = bs (nm k) := by
 rw [wu8 (x := (k : Int)) (by omega), wu8 (by omega)]
 have : (97 + (k : Int)).toNat = 97 + k := by omega
 show mkStr [97 + (k : Int)] = _
 unfold mkStr
 rw [List.map_cons, this]
 rfl

theorem getD_set {l : List Bool} {k j : Nat} {b : Bool} (h : k < l.length) : (l.set k b).getD j false = if k = j then b else l.getD j false := by
 simp only [List.getD_eq_getElem?_getD, List.getElem?_set]
 split
 ·rename_i e; subst e; simp [h]
 ·rfl

theorem getD_rep (n k : Nat) : (List.replicate n false).getD k false = false := by
 rw [List.getD_eq_getElem?_getD, List.getElem?_replicate]
 split <;> rfl

end Go.Proofs.YtbclodhbcplhmaaGreat
