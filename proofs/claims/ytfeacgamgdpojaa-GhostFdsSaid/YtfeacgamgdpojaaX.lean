/-
  entries of Go's library at this dump
-/
import Derived.Test.YtfeacgamgdpojaaE
import Derived.Test.YtfeacgamgdpojaaGxLib
namespace Go.Proofs
def Try.lays217_ren : Go.Shelf.Ren := ⟨fun | 217 => 130 | 266 => 134 | n => n, fun | 9 => 9 | 5 => 5 | 3 => 3 | n => n, fun | n => n⟩
theorem Try.lays217 : Go.Proofs.Lays.n217 Try.prog Try.lays217_ren := {
  mixed := by kernel_rfl
  f217 := Try.func130.trans (congrArg some (by kernel_rfl))
  f266 := Try.func134.trans (congrArg some (by kernel_rfl))
  t3 := Try.underlying3
  a3 := Try.isAgg3
  z3 := Try.sizeOf3
  v3 := Try.zeroValue3
  t5 := Try.underlying5
  a5 := Try.isAgg5
  z5 := Try.sizeOf5
  v5 := Try.zeroValue5
  t9 := Try.underlying9
  a9 := Try.isAgg9
  z9 := Try.sizeOf9
  v9 := Try.zeroValue9 }
end Go.Proofs
namespace Go.Proofs.Ytfeacgamgdpojaa
open Go.Gx
theorem E_stringslite_IndexByte_ok : EntOK Try.prog 130 E_stringslite_IndexByte :=
  stringslite_IndexByte_ent Try.func130 (by kernel_rfl) (by kernel_rfl) (fun s c w => Any.stringslite_IndexByte Try.lays217 s c w)
end Go.Proofs.Ytfeacgamgdpojaa
namespace Go.Proofs
def Try.laysClone72_ren : Go.Shelf.Ren := ⟨fun | 5 => 72 | 7 => 99 | n => n, fun | 4 => 4 | 20 => 20 | 23 => 115 | 25 => 3 | 3 => 51 | n => n, fun | n => n⟩
theorem Try.laysClone72 : Go.Proofs.SlLaysW.n5 Try.prog Try.laysClone72_ren := {
  mixed := by kernel_rfl
  f5 := ⟨"maps.Clone[map[int][]crossroads/term.T,int,[]crossroads/term.T]", by decide, Try.func72.trans (congrArg some (by kernel_rfl))⟩
  f7 := Try.func99.trans (congrArg some (by kernel_rfl))
  t4 := Try.underlying4
  a4 := Try.isAgg4
  z4 := Try.sizeOf4
  v4 := Try.zeroValue4
  t20 := Try.underlying20
  a20 := Try.isAgg20
  z20 := Try.sizeOf20
  v20 := Try.zeroValue20
  t23 := Try.underlying115
  a23 := Try.isAgg115
  z23 := Try.sizeOf115
  v23 := Try.zeroValue115 }
end Go.Proofs
namespace Go.Proofs.Ytfeacgamgdpojaa
open Go.Gx
theorem E_maps_Clone_map_int_term_T_int__term_T_ok : EntOK Try.prog 72 E_maps_Clone_map_int_term_T_int__term_T :=
  maps_Clone_ent Try.func72 (by kernel_rfl) (by kernel_rfl) (fun b es clock w hb => AnyW.maps_Clone Try.laysClone72 b es clock w hb) _ _ _ _
end Go.Proofs.Ytfeacgamgdpojaa
namespace Go.Proofs
def Try.laysClone98_ren : Go.Shelf.Ren := ⟨fun | 5 => 98 | 7 => 99 | n => n, fun | 4 => 4 | 20 => 20 | 23 => 144 | 25 => 153 | 3 => 148 | n => n, fun | n => n⟩
theorem Try.laysClone98 : Go.Proofs.SlLaysW.n5 Try.prog Try.laysClone98_ren := {
  mixed := by kernel_rfl
  f5 := ⟨"maps.Clone[map[crossroads/tree.key]crossroads/tree.entry,crossroads/tree.key,crossroads/tree.entry]", by decide, Try.func98.trans (congrArg some (by kernel_rfl))⟩
  f7 := Try.func99.trans (congrArg some (by kernel_rfl))
  t4 := Try.underlying4
  a4 := Try.isAgg4
  z4 := Try.sizeOf4
  v4 := Try.zeroValue4
  t20 := Try.underlying20
  a20 := Try.isAgg20
  z20 := Try.sizeOf20
  v20 := Try.zeroValue20
  t23 := Try.underlying144
  a23 := Try.isAgg144
  z23 := Try.sizeOf144
  v23 := Try.zeroValue144 }
end Go.Proofs
namespace Go.Proofs.Ytfeacgamgdpojaa
open Go.Gx
theorem E_maps_Clone_map_tree_keytree_entry_tree_key_tree_entry_ok : EntOK Try.prog 98 E_maps_Clone_map_tree_keytree_entry_tree_key_tree_entry :=
  maps_Clone_ent Try.func98 (by kernel_rfl) (by kernel_rfl) (fun b es clock w hb => AnyW.maps_Clone Try.laysClone98 b es clock w hb) _ _ _ _
end Go.Proofs.Ytfeacgamgdpojaa
namespace Go.Proofs.Ytfeacgamgdpojaa
open Go.Gx
theorem slices_Clone__term_T_term_T_Wok : EntOK Try.prog 67 (.of [slices_Clone__term_T_term_T_W @slices_Clone__term_T_term_T]) :=
  slices_Clone_isl (t := 51) (tb := 4) (e := 48) (tail := cloneTail Try.f67) (s := (.int .i64)) (m := fun l K => @slices_Clone__term_T_term_T _ l (fun y0 => K (.sv (.v (.wl 0 1))) [.cells [.row (.int .i64) (List.length y0) y0]]))
    Try.func67 (by kernel_rfl) (by kernel_rfl) (by kernel_rfl) (by kernel_rfl) Try.underlying51 (by kernel_rfl) (fun l K => by kernel_rfl) (fun K => by kernel_rfl)
end Go.Proofs.Ytfeacgamgdpojaa
namespace Go.Proofs.Ytfeacgamgdpojaa
open Go.Gx
theorem E_slices_Clone__term_T_term_T_ok : EntOK Try.prog 67 E_slices_Clone__term_T_term_T := EntOK.all slices_Clone__term_T_term_T_Wok (all_nil)
end Go.Proofs.Ytfeacgamgdpojaa
namespace Go.Proofs.Ytfeacgamgdpojaa
open Go.Gx
theorem slices_Clone__ghost_open_ghost_open_4ed5_Wok : EntOK Try.prog 73 (.of [slices_Clone__ghost_open_ghost_open_4ed5_W @slices_Clone__ghost_open_ghost_open_4ed5]) :=
  slices_Clone_wl (t := 116) (tb := 4) (e := 121) (tail := cloneTail Try.f73) (s := (.pair (.int .i64) (.int .i64))) (m := fun l K => @slices_Clone__ghost_open_ghost_open_4ed5 _ l (fun y0 y1 => K (.sv (.v (.wl 1 2))) [.cells [.row (.pair (.int .i64) (.int .i64)) (List.length y0) y0], .cells [.row (.pair (.int .i64) (.int .i64)) (List.length y1) y1]]))
    Try.func73 (by kernel_rfl) (by kernel_rfl) (by kernel_rfl) (by kernel_rfl) Try.underlying116 (by kernel_rfl) (fun l K => by kernel_rfl) (fun K => by kernel_rfl)
end Go.Proofs.Ytfeacgamgdpojaa
namespace Go.Proofs.Ytfeacgamgdpojaa
open Go.Gx
theorem E_slices_Clone__ghost_open_ghost_open_ok : EntOK Try.prog 73 E_slices_Clone__ghost_open_ghost_open := EntOK.all slices_Clone__ghost_open_ghost_open_4ed5_Wok (all_nil)
end Go.Proofs.Ytfeacgamgdpojaa
