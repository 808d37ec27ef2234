/-
  no function of Go's library is met here
-/
import Derived.Test.YteagdmkedffplaaE
