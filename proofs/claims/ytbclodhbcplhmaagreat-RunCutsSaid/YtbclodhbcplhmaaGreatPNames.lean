/-
 names and their split (chapter 12): what the printed functions come to.
-/
import Derived.Test.YtbclodhbcplhmaaGreatPCName
namespace Go.Proofs.YtbclodhbcplhmaaGreat
open Go.Gx

theorem Z52_eq' {R : Type} (N : Nat) (hN : 8 < N) (l : List UInt8) (k : Bool → Option R) : Z52 N (bs l) k = k (nameB l) := Z0_eq' N hN l _

def splitL (l : List UInt8) : List UInt8 × List UInt8 := bif nameB l then (bif (cutL l).2.2 then ((cutL l).1, (cutL l).2.1) else ([], (cutL l).1)) else ([], [])

theorem Z53_eq' {R : Type} (N : Nat) (hN : 8 < N) (l : List UInt8) (k : ByteArray → ByteArray → Option R) : Z53 N (bs l) k = k (bs (splitL l).1) (bs (splitL l).2) := by
 unfold Z53 Z53_T splitL
 rw [Z52_eq' N hN, br_neg]
 cases h : nameB l with
 | false => rfl
 | true =>
  have hlen : l.length ≤ 8 := by
   unfold nameB at h
   simp only [Bool.and_eq_true, decide_eq_true_eq] at h
   exact h.1.1
  simp only [br_true, cond_true]
  rw [cut_stroke N l (by omega), br_neg]
  cases (cutL l).2.2 <;> rfl

theorem Z117_eq' {R : Type} (N : Nat) (hN : 8 < N) (l : List UInt8) (k : ByteArray → ByteArray → Option R) : Z117 N (bs l) k = k (bs (splitL l).1) (bs (splitL l).2) := Z53_eq' N hN l k

end Go.Proofs.YtbclodhbcplhmaaGreat
