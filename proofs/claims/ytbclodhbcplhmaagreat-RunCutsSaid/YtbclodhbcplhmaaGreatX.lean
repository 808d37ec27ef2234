/-
  entries of Go's library at this dump
-/
import Derived.Test.YtbclodhbcplhmaaGreatE
import Derived.WalkKit
import Derived.LoopTactic
import Derived.LoopN
import Derived.Test.YtbclodhbcplhmaaGreatGxLib
namespace Go.Proofs
def Tryz.lays217_ren : Go.Shelf.Ren := ⟨fun | 217 => 141 | 266 => 146 | n => n, fun | 9 => 9 | 5 => 5 | 3 => 3 | n => n, fun | n => n⟩
theorem Tryz.lays217 : Go.Proofs.Lays.n217 Tryz.prog Tryz.lays217_ren := {
  mixed := by kernel_rfl
  f217 := Tryz.func141.trans (congrArg some (by kernel_rfl))
  f266 := Tryz.func146.trans (congrArg some (by kernel_rfl))
  t3 := Tryz.underlying3
  a3 := Tryz.isAgg3
  z3 := Tryz.sizeOf3
  v3 := Tryz.zeroValue3
  t5 := Tryz.underlying5
  a5 := Tryz.isAgg5
  z5 := Tryz.sizeOf5
  v5 := Tryz.zeroValue5
  t9 := Tryz.underlying9
  a9 := Tryz.isAgg9
  z9 := Tryz.sizeOf9
  v9 := Tryz.zeroValue9 }
end Go.Proofs
namespace Go.Proofs.YtbclodhbcplhmaaGreat
open Go.Gx
theorem E_stringslite_IndexByte_ok : EntOK Tryz.prog 141 E_stringslite_IndexByte :=
  stringslite_IndexByte_ent Tryz.func141 (by kernel_rfl) (by kernel_rfl) (fun s c w => Any.stringslite_IndexByte Tryz.lays217 s c w)
end Go.Proofs.YtbclodhbcplhmaaGreat
namespace Go.Proofs
def Tryz.laysClone140_ren : Go.Shelf.Ren := ⟨fun | 5 => 140 | 7 => 145 | n => n, fun | 4 => 4 | 20 => 20 | 23 => 175 | 25 => 188 | 3 => 192 | n => n, fun | n => n⟩
theorem Tryz.laysClone140 : Go.Proofs.SlLaysW.n5 Tryz.prog Tryz.laysClone140_ren := {
  mixed := by kernel_rfl
  f5 := ⟨"maps.Clone[map[crossroads/tree.key]crossroads/tree.entry,crossroads/tree.key,crossroads/tree.entry]", by decide, Tryz.func140.trans (congrArg some (by kernel_rfl))⟩
  f7 := Tryz.func145.trans (congrArg some (by kernel_rfl))
  t4 := Tryz.underlying4
  a4 := Tryz.isAgg4
  z4 := Tryz.sizeOf4
  v4 := Tryz.zeroValue4
  t20 := Tryz.underlying20
  a20 := Tryz.isAgg20
  z20 := Tryz.sizeOf20
  v20 := Tryz.zeroValue20
  t23 := Tryz.underlying175
  a23 := Tryz.isAgg175
  z23 := Tryz.sizeOf175
  v23 := Tryz.zeroValue175 }
end Go.Proofs
namespace Go.Proofs.YtbclodhbcplhmaaGreat
open Go.Gx
theorem E_maps_Clone_map_tree_keytree_entry_tree_key_tree_entry_ok : EntOK Tryz.prog 140 E_maps_Clone_map_tree_keytree_entry_tree_key_tree_entry :=
  maps_Clone_ent Tryz.func140 (by kernel_rfl) (by kernel_rfl) (fun b es clock w hb => AnyW.maps_Clone Tryz.laysClone140 b es clock w hb) _ _ _ _
end Go.Proofs.YtbclodhbcplhmaaGreat
namespace Go.Proofs.YtbclodhbcplhmaaGreat
open Go.Gx
theorem slices_Clone__byte_byte_Wok : EntOK Tryz.prog 67 (.of [slices_Clone__byte_byte_W @slices_Clone__byte_byte]) :=
  slices_Clone_isl (t := 54) (tb := 4) (e := 5) (tail := cloneTail Tryz.f67) (s := (.int .u8)) (m := fun l K => @slices_Clone__byte_byte _ l (fun y0 => K (.sv (.v (.wl 0 1))) [.cells [.row (.int .u8) (List.length y0) y0]]))
    Tryz.func67 (by kernel_rfl) (by kernel_rfl) (by kernel_rfl) (by kernel_rfl) Tryz.underlying54 (by kernel_rfl) (fun l K => by kernel_rfl) (fun K => by kernel_rfl)
end Go.Proofs.YtbclodhbcplhmaaGreat
namespace Go.Proofs.YtbclodhbcplhmaaGreat
open Go.Gx
theorem E_slices_Clone__byte_byte_ok : EntOK Tryz.prog 67 E_slices_Clone__byte_byte := EntOK.all slices_Clone__byte_byte_Wok (all_nil)
end Go.Proofs.YtbclodhbcplhmaaGreat
namespace Go.Proofs.YtbclodhbcplhmaaGreat
open Go.Gx
theorem slices_Clone__bool_bool_a594_Wok : EntOK Tryz.prog 69 (.of [slices_Clone__bool_bool_a594_W @slices_Clone__bool_bool_a594]) :=
  slices_Clone_wl (t := 28) (tb := 4) (e := 4) (tail := cloneTail Tryz.f69) (s := .bool) (m := fun l K => @slices_Clone__bool_bool_a594 _ l (fun y0 y1 => K (.sv (.v (.wl 1 1))) [.cells [.row .bool (List.length y0) y0], .cells [.row .bool (List.length y1) y1]]))
    Tryz.func69 (by kernel_rfl) (by kernel_rfl) (by kernel_rfl) (by kernel_rfl) Tryz.underlying28 (by kernel_rfl) (fun l K => by kernel_rfl) (fun K => by kernel_rfl)
end Go.Proofs.YtbclodhbcplhmaaGreat
namespace Go.Proofs.YtbclodhbcplhmaaGreat
open Go.Gx
theorem slices_Clone__bool_bool_Wok : EntOK Tryz.prog 69 (.of [slices_Clone__bool_bool_W @slices_Clone__bool_bool]) :=
  slices_Clone_isl (t := 28) (tb := 4) (e := 4) (tail := cloneTail Tryz.f69) (s := .bool) (m := fun l K => @slices_Clone__bool_bool _ l (fun y0 => K (.sv (.v (.wl 0 1))) [.cells [.row .bool (List.length y0) y0]]))
    Tryz.func69 (by kernel_rfl) (by kernel_rfl) (by kernel_rfl) (by kernel_rfl) Tryz.underlying28 (by kernel_rfl) (fun l K => by kernel_rfl) (fun K => by kernel_rfl)
end Go.Proofs.YtbclodhbcplhmaaGreat
namespace Go.Proofs.YtbclodhbcplhmaaGreat
open Go.Gx
theorem E_slices_Clone__bool_bool_ok : EntOK Tryz.prog 69 E_slices_Clone__bool_bool := EntOK.all slices_Clone__bool_bool_a594_Wok (all_cons slices_Clone__bool_bool_Wok (all_nil))
end Go.Proofs.YtbclodhbcplhmaaGreat
namespace Go.Proofs.YtbclodhbcplhmaaGreat
open Go.Gx
open Go.ChangeMaps (setBlock)
set_option maxRecDepth 1000000 in
theorem many_walk (b0 o0 bm : Nat) (c0 : Array Value) (t0 : TypeId) (es : Array MapEntry) (clock : Nat) (path : ByteArray) (w : World) (hb0 : w.heap[b0]? = some (.cells c0 t0 (0, 0))) (hc0 : c0[o0]? = some (.map (some bm)))
    (hb : w.heap[bm]? = some (.map es clock)) (hst : (∀ x ∈ es.toList, x.born < clock) ∧ (es.toList.map (·.born)).Nodup) (hk : ∀ x ∈ es.toList, ∃ d n, x.key = .agg #[.string d, .string n]) :
    Calls Tryz.prog 137 #[.pointer (some ⟨b0, o0, none⟩), .string path] w fun e w' => e = .returned (.int .i64 (IntKind.wrap .i64 ((es.toList.filter (hit path)).length : Int))) ∧ Gw w w' := by
  have hcell : w.cell? ⟨b0, o0, none⟩ = some (.map (some bm)) := by simp [World.cell?, hb0, hc0]
  have hrg := run_range_map (P := Tryz.prog) w 175 188 192 bm es clock Tryz.underlying175 hb
  go_enter Tryz.func137, Tryz.ntmps137
  go_wp2
  go_loopw [5] (fun s w' => ∃ (seen : Array Nat), Gw w w' ∧ w'.heap[w.heap.size]? = some (.mapIter (some bm) clock seen clock) ∧ s = .int .i64 (IntKind.wrap .i64 (seenC path es.toList seen))) (fun _ w' => (leftOf es (w'.iterSeen w.heap.size)).size)
  case atStart => exact ⟨#[], Gw.iter _ (fun _ _ _ h => by cases h), Go.heap_alloc_new w _, by rw [seenC_none]; rfl⟩
  case round =>
    obtain ⟨seen, hg, hr, rfl⟩ := hrel
    have hlt : bm < w.heap.size := lt_of_heap hb
    have hb1 : wr.heap[bm]? = some (.map es clock) := by rw [hg.kept bm hlt]; exact hb
    rcases run_next_at (P := Tryz.prog) wr 0 w.heap.size bm clock clock seen es clock hr hb1 hst.1 (Nat.le_refl _) with ⟨h0, hrun⟩ | ⟨e, he, w1, hw1, hrun⟩
    · have hnx : ∀ ty, (Instr.next (.pointer (some ⟨w.heap.size, 0, none⟩)) false ty).run Tryz.prog wr = _ := fun _ => hrun
      go_wp2
      go_ret
      rw [seenC_all path es seen h0]
      exact ⟨rfl, hg⟩
    · obtain ⟨d, nm, hkey⟩ := hk e (mem_left he).1
      rw [hkey] at hrun
      have hnx : ∀ ty, (Instr.next (.pointer (some ⟨w.heap.size, 0, none⟩)) false ty).run Tryz.prog wr = _ := fun _ => hrun
      have hw1h : w1.heap = wr.heap := by rcases hw1 with rfl | rfl <;> rfl
      have hr2 : (setBlock w1 w.heap.size (.mapIter (some bm) clock (seen.push e.born) clock)).heap[w.heap.size]? = some (.mapIter (some bm) clock (seen.push e.born) clock) := set_at (by rw [hw1h]; exact lt_of_heap hr)
      have hb2 : (setBlock w1 w.heap.size (.mapIter (some bm) clock (seen.push e.born) clock)).heap[bm]? = some (.map es clock) := by rw [set_ne (by omega), hw1h]; exact hb1
      have hen := run_entry_at (P := Tryz.prog) (setBlock w1 w.heap.size (.mapIter (some bm) clock (seen.push e.born) clock)) w.heap.size bm clock seen es clock e hr2 hb2 (mem_left he).1 hst.2
      rw [hkey] at hen
      generalize hw2 : setBlock w1 w.heap.size (.mapIter (some bm) clock (seen.push e.born) clock) = w2 at hnx hen hr2 hb2 hrun
      go_wp2
      all_goals subst hw2
      all_goals refine ⟨⟨seen.push e.born, hg.step hw1 (lt_of_heap hr), ?_, ?_⟩, ?_⟩
      all_goals first | (rw [Go.heap_alloc_old _ _ (by rw [set_size, hw1h]; exact lt_of_heap hr)]; exact hr2) | skip
      all_goals have hit_e : hit path e = decide (d = path) := by unfold hit; rw [hkey]; rfl
      · rename_i hc
        rw [str_beq] at hc
        rw [seenC_push path seen e (mem_left he).2 es.toList hst.2 (mem_left he).1, hit_e, hc, if_pos rfl, wrap64_eq, wrap64_eq, wrap_succ]
      · unfold World.iterSeen
        rw [Go.heap_alloc_old _ _ (by rw [set_size, hw1h]; exact lt_of_heap hr), hr2, hr]
        exact left_shrinks es seen e he
      · rename_i hc
        rw [str_beq] at hc
        rw [seenC_push path seen e (mem_left he).2 es.toList hst.2 (mem_left he).1, hit_e, if_neg (by simpa using hc), Int.add_zero]
      · unfold World.iterSeen
        rw [Go.heap_alloc_old _ _ (by rw [set_size, hw1h]; exact lt_of_heap hr), hr2, hr]
        exact left_shrinks es seen e he

theorem E_tree_Tree_many_ok : EntOK Tryz.prog 137 E_tree_Tree_many :=
  many_ent Tryz.func137 (by kernel_rfl) (by kernel_rfl) many_walk
end Go.Proofs.YtbclodhbcplhmaaGreat
