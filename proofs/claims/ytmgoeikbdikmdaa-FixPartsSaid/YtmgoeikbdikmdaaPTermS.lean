/-
 terms (chapter 2): a value hangs on variables alone.
-/
import Derived.Test.YtmgoeikbdikmdaaPTermU
set_option linter.unusedSimpArgs false
set_option linter.unusedVariables false
namespace Go.Proofs.Ytmgoeikbdikmdaa
open Go.Gx

/-- a value hangs on the variables of what it is made of alone -/
theorem Cl.same {l : List Nd} {b : By} (A : Ar l b) {x : Int} {ys : List Int} (C : Cl l x ys) {e f : Nat → Nat} (h : ∀ t ∈ ys, (nd l t).op = 2 → e (nd l t).v.toNat = f (nd l t).v.toNat) :
  ∀ (n : Nat) (t : Int), t ≤ (n : Int) → t ∈ ys → val e l t = val f l t
 | 0, t, hn, ht => by have := (C.tm t ht).1.1; omega
 | n + 1, t, hn, ht => by
  obtain ⟨tm, _⟩ := C.tm t ht
  obtain ⟨K, ka, kb, kc⟩ := A.nodeOk tm
  have part : ∀ p : Int, p < t → (p = 0 ∨ p ∈ ys) → val e l p = val f l p := fun p h1 h2 => by
   rcases h2 with rfl | h2
   ·unfold val look
    rw [if_neg (by omega), if_neg (by omega)]
   ·exact Cl.same A C h n p (by omega) h2
  rw [A.val_eq e tm, A.val_eq f tm, part _ ka (C.pa t ht), part _ kb (C.pb t ht), part _ kc (C.pc t ht)]
  unfold nv
  by_cases h2 : (nd l t).op = 2
  ·rw [h t ht h2]
  ·rw [if_neg h2, if_neg h2]

end Go.Proofs.Ytmgoeikbdikmdaa
