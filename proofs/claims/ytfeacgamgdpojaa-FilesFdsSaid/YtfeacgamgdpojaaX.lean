/-
  entries of Go's library at this dump
-/
import Derived.Test.YtfeacgamgdpojaaE
import Derived.Test.YtfeacgamgdpojaaGxLib
namespace Go.Proofs
def Try.lays217_ren : Go.Shelf.Ren := ⟨fun | 217 => 130 | 266 => 134 | n => n, fun | 9 => 9 | 5 => 5 | 3 => 3 | n => n, fun | n => n⟩
theorem Try.lays217 : Go.Proofs.Lays.n217 Try.prog Try.lays217_ren := {
  mixed := by kernel_rfl
  f217 := Try.func130.trans (congrArg some (by kernel_rfl))
  f266 := Try.func134.trans (congrArg some (by kernel_rfl))
  t3 := Try.underlying3
  a3 := Try.isAgg3
  z3 := Try.sizeOf3
  v3 := Try.zeroValue3
  t5 := Try.underlying5
  a5 := Try.isAgg5
  z5 := Try.sizeOf5
  v5 := Try.zeroValue5
  t9 := Try.underlying9
  a9 := Try.isAgg9
  z9 := Try.sizeOf9
  v9 := Try.zeroValue9 }
end Go.Proofs
namespace Go.Proofs.Ytfeacgamgdpojaa
open Go.Gx
theorem E_stringslite_IndexByte_ok : EntOK Try.prog 130 E_stringslite_IndexByte :=
  stringslite_IndexByte_ent Try.func130 (by kernel_rfl) (by kernel_rfl) (fun s c w => Any.stringslite_IndexByte Try.lays217 s c w)
end Go.Proofs.Ytfeacgamgdpojaa
namespace Go.Proofs
def Try.laysClone98_ren : Go.Shelf.Ren := ⟨fun | 5 => 98 | 7 => 99 | n => n, fun | 4 => 4 | 20 => 20 | 23 => 144 | 25 => 153 | 3 => 148 | n => n, fun | n => n⟩
theorem Try.laysClone98 : Go.Proofs.SlLaysW.n5 Try.prog Try.laysClone98_ren := {
  mixed := by kernel_rfl
  f5 := ⟨"maps.Clone[map[crossroads/tree.key]crossroads/tree.entry,crossroads/tree.key,crossroads/tree.entry]", by decide, Try.func98.trans (congrArg some (by kernel_rfl))⟩
  f7 := Try.func99.trans (congrArg some (by kernel_rfl))
  t4 := Try.underlying4
  a4 := Try.isAgg4
  z4 := Try.sizeOf4
  v4 := Try.zeroValue4
  t20 := Try.underlying20
  a20 := Try.isAgg20
  z20 := Try.sizeOf20
  v20 := Try.zeroValue20
  t23 := Try.underlying144
  a23 := Try.isAgg144
  z23 := Try.sizeOf144
  v23 := Try.zeroValue144 }
end Go.Proofs
namespace Go.Proofs.Ytfeacgamgdpojaa
open Go.Gx
theorem E_maps_Clone_map_tree_keytree_entry_tree_key_tree_entry_ok : EntOK Try.prog 98 E_maps_Clone_map_tree_keytree_entry_tree_key_tree_entry :=
  maps_Clone_ent Try.func98 (by kernel_rfl) (by kernel_rfl) (fun b es clock w hb => AnyW.maps_Clone Try.laysClone98 b es clock w hb) _ _ _ _
end Go.Proofs.Ytfeacgamgdpojaa

namespace Go.Proofs.Ytfeacgamgdpojaa
open Go.Gx
theorem E_slices_Clone__byte_byte_ok : EntOK Try.prog 57 E_slices_Clone__byte_byte :=
  slices_Clone_isl (t := 22) (tb := 4) (e := 5) (tail := cloneTail Try.f57) (s := (.int .u8)) (m := fun l K => @slices_Clone__byte_byte _ l (fun y0 => K (.sv (.v (.wl 0 1))) [.cells [.row (.int .u8) (List.length y0) y0]]))
    Try.func57 (by kernel_rfl) (by kernel_rfl) (by kernel_rfl) (by kernel_rfl) Try.underlying22 (by kernel_rfl) (fun l K => by kernel_rfl) (fun K => by kernel_rfl)
end Go.Proofs.Ytfeacgamgdpojaa
