/-
  entries of Go's library at this dump
-/
import Derived.Test.YthdgncnbnallcaaGreatE
import Derived.Test.YthdgncnbnallcaaGreatGxLib
namespace Go.Proofs
def Tryz.lays217_ren : Go.Shelf.Ren := ⟨fun | 217 => 146 | 266 => 151 | n => n, fun | 9 => 9 | 5 => 5 | 3 => 3 | n => n, fun | n => n⟩
theorem Tryz.lays217 : Go.Proofs.Lays.n217 Tryz.prog Tryz.lays217_ren := {
  mixed := by kernel_rfl
  f217 := Tryz.func146.trans (congrArg some (by kernel_rfl))
  f266 := Tryz.func151.trans (congrArg some (by kernel_rfl))
  t3 := Tryz.underlying3
  a3 := Tryz.isAgg3
  z3 := Tryz.sizeOf3
  v3 := Tryz.zeroValue3
  t5 := Tryz.underlying5
  a5 := Tryz.isAgg5
  z5 := Tryz.sizeOf5
  v5 := Tryz.zeroValue5
  t9 := Tryz.underlying9
  a9 := Tryz.isAgg9
  z9 := Tryz.sizeOf9
  v9 := Tryz.zeroValue9 }
end Go.Proofs
namespace Go.Proofs.YthdgncnbnallcaaGreat
open Go.Gx
theorem E_stringslite_IndexByte_ok : EntOK Tryz.prog 146 E_stringslite_IndexByte :=
  stringslite_IndexByte_ent Tryz.func146 (by kernel_rfl) (by kernel_rfl) (fun s c w => Any.stringslite_IndexByte Tryz.lays217 s c w)
end Go.Proofs.YthdgncnbnallcaaGreat
namespace Go.Proofs
def Tryz.laysClone145_ren : Go.Shelf.Ren := ⟨fun | 5 => 145 | 7 => 150 | n => n, fun | 4 => 4 | 20 => 20 | 23 => 181 | 25 => 194 | 3 => 198 | n => n, fun | n => n⟩
theorem Tryz.laysClone145 : Go.Proofs.SlLaysW.n5 Tryz.prog Tryz.laysClone145_ren := {
  mixed := by kernel_rfl
  f5 := ⟨"maps.Clone[map[crossroads/tree.key]crossroads/tree.entry,crossroads/tree.key,crossroads/tree.entry]", by decide, Tryz.func145.trans (congrArg some (by kernel_rfl))⟩
  f7 := Tryz.func150.trans (congrArg some (by kernel_rfl))
  t4 := Tryz.underlying4
  a4 := Tryz.isAgg4
  z4 := Tryz.sizeOf4
  v4 := Tryz.zeroValue4
  t20 := Tryz.underlying20
  a20 := Tryz.isAgg20
  z20 := Tryz.sizeOf20
  v20 := Tryz.zeroValue20
  t23 := Tryz.underlying181
  a23 := Tryz.isAgg181
  z23 := Tryz.sizeOf181
  v23 := Tryz.zeroValue181 }
end Go.Proofs
namespace Go.Proofs.YthdgncnbnallcaaGreat
open Go.Gx
theorem E_maps_Clone_map_tree_keytree_entry_tree_key_tree_entry_ok : EntOK Tryz.prog 145 E_maps_Clone_map_tree_keytree_entry_tree_key_tree_entry :=
  maps_Clone_ent Tryz.func145 (by kernel_rfl) (by kernel_rfl) (fun b es clock w hb => AnyW.maps_Clone Tryz.laysClone145 b es clock w hb) _ _ _ _
end Go.Proofs.YthdgncnbnallcaaGreat
namespace Go.Proofs.YthdgncnbnallcaaGreat
open Go.Gx
theorem slices_Clone__byte_byte_Wok : EntOK Tryz.prog 72 (.of [slices_Clone__byte_byte_W @slices_Clone__byte_byte]) :=
  slices_Clone_isl (t := 57) (tb := 4) (e := 5) (tail := cloneTail Tryz.f72) (s := (.int .u8)) (m := fun l K => @slices_Clone__byte_byte _ l (fun y0 => K (.sv (.v (.wl 0 1))) [.cells [.row (.int .u8) (List.length y0) y0]]))
    Tryz.func72 (by kernel_rfl) (by kernel_rfl) (by kernel_rfl) (by kernel_rfl) Tryz.underlying57 (by kernel_rfl) (fun l K => by kernel_rfl) (fun K => by kernel_rfl)
end Go.Proofs.YthdgncnbnallcaaGreat
namespace Go.Proofs.YthdgncnbnallcaaGreat
open Go.Gx
theorem E_slices_Clone__byte_byte_ok : EntOK Tryz.prog 72 E_slices_Clone__byte_byte := EntOK.all slices_Clone__byte_byte_Wok (all_nil)
end Go.Proofs.YthdgncnbnallcaaGreat
namespace Go.Proofs.YthdgncnbnallcaaGreat
open Go.Gx
theorem slices_Clone__bool_bool_a594_Wok : EntOK Tryz.prog 74 (.of [slices_Clone__bool_bool_a594_W @slices_Clone__bool_bool_a594]) :=
  slices_Clone_wl (t := 28) (tb := 4) (e := 4) (tail := cloneTail Tryz.f74) (s := .bool) (m := fun l K => @slices_Clone__bool_bool_a594 _ l (fun y0 y1 => K (.sv (.v (.wl 1 1))) [.cells [.row .bool (List.length y0) y0], .cells [.row .bool (List.length y1) y1]]))
    Tryz.func74 (by kernel_rfl) (by kernel_rfl) (by kernel_rfl) (by kernel_rfl) Tryz.underlying28 (by kernel_rfl) (fun l K => by kernel_rfl) (fun K => by kernel_rfl)
end Go.Proofs.YthdgncnbnallcaaGreat
namespace Go.Proofs.YthdgncnbnallcaaGreat
open Go.Gx
theorem E_slices_Clone__bool_bool_ok : EntOK Tryz.prog 74 E_slices_Clone__bool_bool := EntOK.all slices_Clone__bool_bool_a594_Wok (all_nil)
end Go.Proofs.YthdgncnbnallcaaGreat
