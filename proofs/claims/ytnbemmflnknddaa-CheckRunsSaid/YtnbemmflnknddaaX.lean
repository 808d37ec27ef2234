/-
  entries of Go's library at this dump
-/
import Derived.Test.YtnbemmflnknddaaE
namespace Go.Proofs
def Try.lays217_ren : Go.Shelf.Ren := ⟨fun | 217 => 33 | 266 => 37 | n => n, fun | 9 => 9 | 5 => 5 | 3 => 3 | n => n, fun | n => n⟩
theorem Try.lays217 : Go.Proofs.Lays.n217 Try.prog Try.lays217_ren := {
  mixed := by kernel_rfl
  f217 := Try.func33.trans (congrArg some (by kernel_rfl))
  f266 := Try.func37.trans (congrArg some (by kernel_rfl))
  t3 := Try.underlying3
  a3 := Try.isAgg3
  z3 := Try.sizeOf3
  v3 := Try.zeroValue3
  t5 := Try.underlying5
  a5 := Try.isAgg5
  z5 := Try.sizeOf5
  v5 := Try.zeroValue5
  t9 := Try.underlying9
  a9 := Try.isAgg9
  z9 := Try.sizeOf9
  v9 := Try.zeroValue9 }
end Go.Proofs
namespace Go.Proofs.Ytnbemmflnknddaa
open Go.Gx
theorem E_stringslite_IndexByte_ok : EntOK Try.prog 33 E_stringslite_IndexByte :=
  stringslite_IndexByte_ent Try.func33 (by kernel_rfl) (by kernel_rfl) (fun s c w => Any.stringslite_IndexByte Try.lays217 s c w)
end Go.Proofs.Ytnbemmflnknddaa
