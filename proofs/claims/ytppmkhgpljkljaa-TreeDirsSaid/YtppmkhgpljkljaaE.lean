/-
  Their entries (printed by a program of this work).
-/
import Derived.Test.YtppmkhgpljkljaaProg
import Derived.Test.YtppmkhgpljkljaaD
set_option linter.unusedVariables false
set_option maxRecDepth 100000
namespace Go.Proofs.Ytppmkhgpljkljaa
open Go.Gx
noncomputable def E_stringslite_Index_TG (c0 : stringslite_IndexByte_Ty) : Table := fun g => bif Nat.beq g 53 then .of [stringslite_IndexByte_W c0] else noEnt
noncomputable def E_stringslite_Index_T (N : Nat) : Table := E_stringslite_Index_TG @stringslite_IndexByte
noncomputable def stringslite_Index_W (f : stringslite_Index_Ty) : Var := ⟨[.v .str, .v .str], [], fun t u K => f t.1 t.2.1 (fun y0 => K (.sv (.v (.int .i64 y0))) [])⟩
noncomputable def stringslite_Index_F : Nat → Fam := fun _ => noFam
noncomputable def E_stringslite_Index (N : Nat) : Ent := .of [stringslite_Index_W (stringslite_Index N)]
noncomputable def E_stringslite_Cut_TG (c0 : stringslite_Index_Ty) : Table := fun g => bif Nat.beq g 52 then .of [stringslite_Index_W c0] else noEnt
noncomputable def E_stringslite_Cut_T (N : Nat) : Table := E_stringslite_Cut_TG (@stringslite_Index N)
noncomputable def stringslite_Cut_W (f : stringslite_Cut_Ty) : Var := ⟨[.v .str, .v .str], [], fun t u K => f t.1 t.2.1 (fun y0 y1 y2 => K (.tup [(.v (.str y0)), (.v (.str y1)), (.v (.bool y2))]) [])⟩
noncomputable def stringslite_Cut_F : Nat → Fam := fun _ => noFam
noncomputable def E_stringslite_Cut (N : Nat) : Ent := .of [stringslite_Cut_W (stringslite_Cut N)]
noncomputable def E_strings_Cut_TG (c0 : stringslite_Cut_Ty) : Table := fun g => bif Nat.beq g 47 then .of [stringslite_Cut_W c0] else noEnt
noncomputable def E_strings_Cut_T (N : Nat) : Table := E_strings_Cut_TG (@stringslite_Cut N)
noncomputable def strings_Cut_W (f : strings_Cut_Ty) : Var := ⟨[.v .str, .v .str], [], fun t u K => f t.1 t.2.1 (fun y0 y1 y2 => K (.tup [(.v (.str y0)), (.v (.str y1)), (.v (.bool y2))]) [])⟩
noncomputable def strings_Cut_F : Nat → Fam := fun _ => noFam
noncomputable def E_strings_Cut (N : Nat) : Ent := .of [strings_Cut_W (strings_Cut N)]
noncomputable def E_check_letter_TG : Table := fun _ => noEnt
noncomputable def E_check_letter_T (N : Nat) : Table := E_check_letter_TG
noncomputable def check_letter_W (f : check_letter_Ty) : Var := ⟨[.v (.int .u8)], [], fun t u K => f t.1 (fun y0 => K (.sv (.v (.bool y0))) [])⟩
noncomputable def check_letter_F : Nat → Fam := fun _ => noFam
noncomputable def E_check_letter (N : Nat) : Ent := .of [check_letter_W (check_letter N)]
noncomputable def E_check_part_TG (c0 : check_letter_Ty) : Table := fun g => bif Nat.beq g 48 then .of [check_letter_W c0] else noEnt
noncomputable def E_check_part_T (N : Nat) : Table := E_check_part_TG (@check_letter N)
noncomputable def check_part_W (f : check_part_Ty) : Var := ⟨[.v .str], [], fun t u K => f t.1 (fun y0 => K (.sv (.v (.bool y0))) [])⟩
noncomputable def check_part_v0_0 (w : check_part_l0_Ty) : LVar := ⟨[.sv (.v .str), .sv (.v (.int .i64)), .sv (.v (.int .i64))], [], fun n t u K => w (fun y0 y1 => K .ret [(.sv (.v (.str y0))), (.sv (.v (.bool y1)))] []) (fun y0 => K (.exit 0) [(.sv (.v (.str y0))), .undef] []) n t.1 t.2.1 t.2.2.1⟩
noncomputable def check_part_F0 (w : check_part_l0_Ty) : Fam := ⟨⟨false, [0, 5, 6], [0, 2], ⟨[], [], []⟩, ⟨[], [], []⟩⟩, [check_part_v0_0 w]⟩
noncomputable def check_part_F (w0 : check_part_l0_Ty) : Nat → Fam := fun i => bif Nat.beq i 3 then check_part_F0 w0 else noFam
noncomputable def E_check_part (N : Nat) : Ent := .of [check_part_W (check_part N)]
noncomputable def E_check_Name_TG (c0 : check_part_Ty) (c1 : strings_Cut_Ty) : Table := fun g => bif Nat.beq g 40 then .of [check_part_W c0] else bif Nat.beq g 39 then .of [strings_Cut_W c1] else noEnt
noncomputable def E_check_Name_T (N : Nat) : Table := E_check_Name_TG (@check_part N) (@strings_Cut N)
noncomputable def check_Name_W (f : check_Name_Ty) : Var := ⟨[.v .str], [], fun t u K => f t.1 (fun y0 => K (.sv (.v (.bool y0))) [])⟩
noncomputable def check_Name_F : Nat → Fam := fun _ => noFam
noncomputable def E_check_Name (N : Nat) : Ent := .of [check_Name_W (check_Name N)]
noncomputable def E_names_May_TG (c0 : check_Name_Ty) : Table := fun g => bif Nat.beq g 30 then .of [check_Name_W c0] else noEnt
noncomputable def E_names_May_T (N : Nat) : Table := E_names_May_TG (@check_Name N)
noncomputable def names_May_W (f : names_May_Ty) : Var := ⟨[.v .str], [], fun t u K => f t.1 (fun y0 => K (.sv (.v (.bool y0))) [])⟩
noncomputable def names_May_F : Nat → Fam := fun _ => noFam
noncomputable def E_names_May (N : Nat) : Ent := .of [names_May_W (names_May N)]
noncomputable def E_names_Split_TG (c0 : strings_Cut_Ty) (c1 : names_May_Ty) : Table := fun g => bif Nat.beq g 39 then .of [strings_Cut_W c0] else bif Nat.beq g 25 then .of [names_May_W c1] else noEnt
noncomputable def E_names_Split_T (N : Nat) : Table := E_names_Split_TG (@strings_Cut N) (@names_May N)
noncomputable def names_Split_W (f : names_Split_Ty) : Var := ⟨[.v .str], [], fun t u K => f t.1 (fun y0 y1 => K (.tup [(.v (.str y0)), (.v (.str y1))]) [])⟩
noncomputable def names_Split_F : Nat → Fam := fun _ => noFam
noncomputable def E_names_Split (N : Nat) : Ent := .of [names_Split_W (names_Split N)]
noncomputable def E_tree_of_TG (c0 : names_Split_Ty) : Table := fun g => bif Nat.beq g 38 then .of [names_Split_W c0] else noEnt
noncomputable def E_tree_of_T (N : Nat) : Table := E_tree_of_TG (@names_Split N)
noncomputable def tree_of_W (f : tree_of_Ty) : Var := ⟨[.v .str], [], fun t u K => f t.1 (fun y0 y1 => K (.sv (.agg [(.c (.str y0)), (.c (.str y1))])) [])⟩
noncomputable def tree_of_F : Nat → Fam := fun _ => noFam
noncomputable def E_tree_of (N : Nat) : Ent := .of [tree_of_W (tree_of N)]
noncomputable def E_tree_Tree_above_TG : Table := fun _ => noEnt
noncomputable def E_tree_Tree_above_T (N : Nat) : Table := E_tree_Tree_above_TG
noncomputable def tree_Tree_above_2de7_W (f : tree_Tree_above_2de7_Ty) : Var := ⟨[.v (.ptr 0 0), .agg [.c .str, .c .str]], [.cells [.c (.map 1), .c (.int .i64)], .map (.pair .str .str) (.pair (.int .i64) .bool) true true], fun t u K => f t.2.1.1 t.2.1.2.1 u.1.2.1 u.2.1 (fun y0 y1 y2 => K (.sv (.v (.int .u16 y0))) [(.cells [(.c (.map 1)), (.c (.int .i64 y1))]), (.map (.pair .str .str) (.pair (.int .i64) .bool) true true y2)])⟩
noncomputable def tree_Tree_above_2de7_F : Nat → Fam := fun _ => noFam
noncomputable def E_tree_Tree_above (N : Nat) : Ent := .of [tree_Tree_above_2de7_W (tree_Tree_above_2de7 N)]
noncomputable def E_tree_Tree_Make_TG (c0 : tree_Tree_above_2de7_Ty) (c1 : tree_of_Ty) : Table := fun g => bif Nat.beq g 27 then .of [tree_Tree_above_2de7_W c0] else bif Nat.beq g 26 then .of [tree_of_W c1] else noEnt
noncomputable def E_tree_Tree_Make_T (N : Nat) : Table := E_tree_Tree_Make_TG (@tree_Tree_above_2de7 N) (@tree_of N)
noncomputable def tree_Tree_Make_c502_W (f : tree_Tree_Make_c502_Ty) : Var := ⟨[.v (.ptr 0 0), .v .str, .v .bool], [.cells [.c (.map 1), .c (.int .i64)], .map (.pair .str .str) (.pair (.int .i64) .bool) true true], fun t u K => f t.2.1 t.2.2.1 u.1.2.1 u.2.1 (fun y0 y1 y2 y3 => K (.tup [(.v (.int .i64 y0)), (.v (.int .u16 y1))]) [(.cells [(.c (.map 1)), (.c (.int .i64 y2))]), (.map (.pair .str .str) (.pair (.int .i64) .bool) true true y3)])⟩
noncomputable def tree_Tree_Make_c502_F : Nat → Fam := fun _ => noFam
noncomputable def E_tree_Tree_Make (N : Nat) : Ent := .of [tree_Tree_Make_c502_W (tree_Tree_Make_c502 N)]
noncomputable def E_tree_New_TG (c0 : tree_Tree_Make_c502_Ty) (c1 : names_May_Ty) : Table := fun g => bif Nat.beq g 12 then .of [tree_Tree_Make_c502_W c0] else bif Nat.beq g 25 then .of [names_May_W c1] else noEnt
noncomputable def E_tree_New_T (N : Nat) : Table := E_tree_New_TG (@tree_Tree_Make_c502 N) (@names_May N)
noncomputable def tree_New_1c12_W (f : tree_New_1c12_Ty) : Var := ⟨[.v .nils], [], fun t u K => f (fun y0 y1 y2 => K (.tup [(.v (.ptr 0 0)), (.v (.int .i64 y0))]) [(.cells [(.c (.map 1)), (.c (.int .i64 y1))]), (.map (.pair .str .str) (.pair (.int .i64) .bool) true true y2)])⟩
noncomputable def tree_New_1c12_v0_0 (w : tree_New_1c12_l0_Ty) : LVar := ⟨[.sv (.v (.ptr 0 0)), .sv (.v .nils), .sv (.v (.int .i64)), .sv (.v (.int .i64))], [.cells [.c (.map 1), .c (.int .i64)], .map (.pair .str .str) (.pair (.int .i64) .bool) true true], fun n t u K => w (fun y0 y1 => K (.exit 0) [.undef, .undef, (.sv (.v (.ptr 0 0)))] [(.cells [(.c (.map 1)), (.c (.int .i64 y0))]), (.map (.pair .str .str) (.pair (.int .i64) .bool) true true y1)]) n t.2.2.1 t.2.2.2.1 u.1.2.1 u.2.1⟩
noncomputable def tree_New_1c12_F0 (w : tree_New_1c12_l0_Ty) : Fam := ⟨⟨false, [4, 15, 16, 17], [2, 3, 4], ⟨[], [], []⟩, ⟨[], [], []⟩⟩, [tree_New_1c12_v0_0 w]⟩
noncomputable def tree_New_1c12_F (w0 : tree_New_1c12_l0_Ty) : Nat → Fam := fun i => bif Nat.beq i 7 then tree_New_1c12_F0 w0 else noFam
noncomputable def tree_New_644a_W (f : tree_New_644a_Ty) : Var := ⟨[.v (.wl 0 3)], [.rows (.pair .str (.pair .bool (.int .i64)))], fun t u K => f u.1 (fun y0 y1 => K (.tup [(.v .nilp), (.v (.int .i64 y0))]) [(.cells [(.row (.pair .str (.pair .bool (.int .i64))) (List.length y1) y1)])]) (fun y0 y1 y2 y3 => K (.tup [(.v (.ptr 1 0)), (.v (.int .i64 y0))]) [(.cells [(.row (.pair .str (.pair .bool (.int .i64))) (List.length y1) y1)]), (.cells [(.c (.map 2)), (.c (.int .i64 y2))]), (.map (.pair .str .str) (.pair (.int .i64) .bool) true true y3)])⟩
noncomputable def tree_New_644a_v0_0 (w : tree_New_644a_l0_Ty) : LVar := ⟨[.sv (.v (.ptr 1 0)), .sv (.v (.wl 0 3)), .sv (.v (.int .i64)), .sv (.v (.int .i64))], [.rows (.pair .str (.pair .bool (.int .i64))), .cells [.c (.map 2), .c (.int .i64)], .map (.pair .str .str) (.pair (.int .i64) .bool) true true], fun n t u K => w (fun y0 y1 y2 y3 => K .ret [(.sv (.v .nilp)), (.sv (.v (.int .i64 y0))), (.sv (.v (.ptr 1 0)))] [(.cells [(.row (.pair .str (.pair .bool (.int .i64))) (List.length y1) y1)]), (.cells [(.c (.map 2)), (.c (.int .i64 y2))]), (.map (.pair .str .str) (.pair (.int .i64) .bool) true true y3)]) (fun y0 y1 y2 => K (.exit 0) [.undef, .undef, (.sv (.v (.ptr 1 0)))] [(.cells [(.row (.pair .str (.pair .bool (.int .i64))) (List.length y0) y0)]), (.cells [(.c (.map 2)), (.c (.int .i64 y1))]), (.map (.pair .str .str) (.pair (.int .i64) .bool) true true y2)]) n t.2.2.1 t.2.2.2.1 u.1 u.2.1.2.1 u.2.2.1⟩
noncomputable def tree_New_644a_F0 (w : tree_New_644a_l0_Ty) : Fam := ⟨⟨false, [4, 15, 16, 17], [2, 3, 4], ⟨[], [], []⟩, ⟨[], [], []⟩⟩, [tree_New_644a_v0_0 w]⟩
noncomputable def tree_New_644a_F (w0 : tree_New_644a_l0_Ty) : Nat → Fam := fun i => bif Nat.beq i 7 then tree_New_644a_F0 w0 else noFam
noncomputable def E_tree_New (N : Nat) : Ent := .of [tree_New_1c12_W (tree_New_1c12 N), tree_New_644a_W (tree_New_644a N)]
noncomputable def E_tree_Tree_get_TG (c0 : tree_Tree_above_2de7_Ty) (c1 : tree_of_Ty) : Table := fun g => bif Nat.beq g 27 then .of [tree_Tree_above_2de7_W c0] else bif Nat.beq g 26 then .of [tree_of_W c1] else noEnt
noncomputable def E_tree_Tree_get_T (N : Nat) : Table := E_tree_Tree_get_TG (@tree_Tree_above_2de7 N) (@tree_of N)
noncomputable def tree_Tree_get_fb98_W (f : tree_Tree_get_fb98_Ty) : Var := ⟨[.v (.ptr 0 0), .v .str], [.cells [.c (.map 1), .c (.int .i64)], .map (.pair .str .str) (.pair (.int .i64) .bool) true true], fun t u K => f t.2.1 u.1.2.1 u.2.1 (fun y0 y1 y2 y3 y4 => K (.tup [(.agg [(.c (.int .i64 y0)), (.c (.bool y1))]), (.v (.int .u16 y2))]) [(.cells [(.c (.map 1)), (.c (.int .i64 y3))]), (.map (.pair .str .str) (.pair (.int .i64) .bool) true true y4)])⟩
noncomputable def tree_Tree_get_fb98_F : Nat → Fam := fun _ => noFam
noncomputable def E_tree_Tree_get (N : Nat) : Ent := .of [tree_Tree_get_fb98_W (tree_Tree_get_fb98 N)]
noncomputable def E_tree_Tree_Find_TG (c0 : tree_Tree_get_fb98_Ty) : Table := fun g => bif Nat.beq g 28 then .of [tree_Tree_get_fb98_W c0] else noEnt
noncomputable def E_tree_Tree_Find_T (N : Nat) : Table := E_tree_Tree_Find_TG (@tree_Tree_get_fb98 N)
noncomputable def tree_Tree_Find_fb98_W (f : tree_Tree_Find_fb98_Ty) : Var := ⟨[.v (.ptr 0 0), .v .str], [.cells [.c (.map 1), .c (.int .i64)], .map (.pair .str .str) (.pair (.int .i64) .bool) true true], fun t u K => f t.2.1 u.1.2.1 u.2.1 (fun y0 y1 y2 y3 y4 => K (.tup [(.v (.int .i64 y0)), (.v (.bool y1)), (.v (.int .u16 y2))]) [(.cells [(.c (.map 1)), (.c (.int .i64 y3))]), (.map (.pair .str .str) (.pair (.int .i64) .bool) true true y4)])⟩
noncomputable def tree_Tree_Find_fb98_F : Nat → Fam := fun _ => noFam
noncomputable def E_tree_Tree_Find (N : Nat) : Ent := .of [tree_Tree_Find_fb98_W (tree_Tree_Find_fb98 N)]
noncomputable def E_tree_Tree_Len_TG : Table := fun _ => noEnt
noncomputable def E_tree_Tree_Len_T (N : Nat) : Table := E_tree_Tree_Len_TG
noncomputable def tree_Tree_Len_a28d_W (f : tree_Tree_Len_a28d_Ty) : Var := ⟨[.v (.ptr 0 0)], [.cells [.c (.map 1), .c (.int .i64)], .map (.pair .str .str) (.pair (.int .i64) .bool) true true], fun t u K => f u.1.2.1 u.2.1 (fun y0 y1 y2 => K (.sv (.v (.int .i64 y0))) [(.cells [(.c (.map 1)), (.c (.int .i64 y1))]), (.map (.pair .str .str) (.pair (.int .i64) .bool) true true y2)])⟩
noncomputable def tree_Tree_Len_a28d_F : Nat → Fam := fun _ => noFam
noncomputable def E_tree_Tree_Len (N : Nat) : Ent := .of [tree_Tree_Len_a28d_W (tree_Tree_Len_a28d N)]
noncomputable def E_law13_awake_TG (c0 : tree_Tree_Len_a28d_Ty) (c1 : tree_Tree_Find_fb98_Ty) (c2 : tree_Tree_Make_c502_Ty) (c3 : tree_New_1c12_Ty) (c4 : tree_New_644a_Ty) : Table := fun g => bif Nat.beq g 14 then .of [tree_Tree_Len_a28d_W c0] else bif Nat.beq g 24 then .of [tree_Tree_Find_fb98_W c1] else bif Nat.beq g 12 then .of [tree_Tree_Make_c502_W c2] else bif Nat.beq g 11 then .of [tree_New_1c12_W c3, tree_New_644a_W c4] else noEnt
noncomputable def E_law13_awake_T (N : Nat) : Table := E_law13_awake_TG (@tree_Tree_Len_a28d N) (@tree_Tree_Find_fb98 N) (@tree_Tree_Make_c502 N) (@tree_New_1c12 N) (@tree_New_644a N)
noncomputable def law13_awake_W (f : law13_awake_Ty) : Var := ⟨[], [], fun t u K => f (fun y0 => K (.sv (.v (.bool y0))) [])⟩
noncomputable def law13_awake_F : Nat → Fam := fun _ => noFam
noncomputable def E_law13_awake (N : Nat) : Ent := .of [law13_awake_W (law13_awake N)]
noncomputable def tree_Tree_many_fb98_W (f : tree_Tree_many_fb98_Ty) : Var := ⟨[.v (.ptr 0 0), .v .str], [.cells [.c (.map 1), .c (.int .i64)], .map (.pair .str .str) (.pair (.int .i64) .bool) true true], fun t u K => f t.2.1 u.1.2.1 u.2.1 (fun y0 y1 y2 => K (.sv (.v (.int .i64 y0))) [(.cells [(.c (.map 1)), (.c (.int .i64 y1))]), (.map (.pair .str .str) (.pair (.int .i64) .bool) true true y2)])⟩
noncomputable def E_tree_Tree_many : Ent := .of [tree_Tree_many_fb98_W @tree_Tree_many_fb98]
noncomputable def E_tree_Tree_Many_TG (c0 : tree_Tree_many_fb98_Ty) (c1 : tree_Tree_get_fb98_Ty) : Table := fun g => bif Nat.beq g 29 then .of [tree_Tree_many_fb98_W c0] else bif Nat.beq g 28 then .of [tree_Tree_get_fb98_W c1] else noEnt
noncomputable def E_tree_Tree_Many_T (N : Nat) : Table := E_tree_Tree_Many_TG @tree_Tree_many_fb98 (@tree_Tree_get_fb98 N)
noncomputable def tree_Tree_Many_fb98_W (f : tree_Tree_Many_fb98_Ty) : Var := ⟨[.v (.ptr 0 0), .v .str], [.cells [.c (.map 1), .c (.int .i64)], .map (.pair .str .str) (.pair (.int .i64) .bool) true true], fun t u K => f t.2.1 u.1.2.1 u.2.1 (fun y0 y1 y2 => K (.sv (.v (.int .u16 y0))) [(.cells [(.c (.map 1)), (.c (.int .i64 y1))]), (.map (.pair .str .str) (.pair (.int .i64) .bool) true true y2)])⟩
noncomputable def tree_Tree_Many_fb98_F : Nat → Fam := fun _ => noFam
noncomputable def E_tree_Tree_Many (N : Nat) : Ent := .of [tree_Tree_Many_fb98_W (tree_Tree_Many_fb98 N)]
noncomputable def E_tree_Tree_Drop_TG (c0 : tree_of_Ty) (c1 : tree_Tree_many_fb98_Ty) (c2 : tree_Tree_get_fb98_Ty) : Table := fun g => bif Nat.beq g 26 then .of [tree_of_W c0] else bif Nat.beq g 29 then .of [tree_Tree_many_fb98_W c1] else bif Nat.beq g 28 then .of [tree_Tree_get_fb98_W c2] else noEnt
noncomputable def E_tree_Tree_Drop_T (N : Nat) : Table := E_tree_Tree_Drop_TG (@tree_of N) @tree_Tree_many_fb98 (@tree_Tree_get_fb98 N)
noncomputable def tree_Tree_Drop_c502_W (f : tree_Tree_Drop_c502_Ty) : Var := ⟨[.v (.ptr 0 0), .v .str, .v .bool], [.cells [.c (.map 1), .c (.int .i64)], .map (.pair .str .str) (.pair (.int .i64) .bool) true true], fun t u K => f t.2.1 t.2.2.1 u.1.2.1 u.2.1 (fun y0 y1 y2 => K (.sv (.v (.int .u16 y0))) [(.cells [(.c (.map 1)), (.c (.int .i64 y1))]), (.map (.pair .str .str) (.pair (.int .i64) .bool) true true y2)])⟩
noncomputable def tree_Tree_Drop_c502_F : Nat → Fam := fun _ => noFam
noncomputable def E_tree_Tree_Drop (N : Nat) : Ent := .of [tree_Tree_Drop_c502_W (tree_Tree_Drop_c502 N)]
noncomputable def E_law13_TreeDirs_TG (c0 : tree_Tree_Drop_c502_Ty) (c1 : tree_Tree_Many_fb98_Ty) (c2 : tree_Tree_Make_c502_Ty) (c3 : tree_New_1c12_Ty) (c4 : tree_New_644a_Ty) (c5 : law13_awake_Ty) : Table := fun g => bif Nat.beq g 13 then .of [tree_Tree_Drop_c502_W c0] else bif Nat.beq g 15 then .of [tree_Tree_Many_fb98_W c1] else bif Nat.beq g 12 then .of [tree_Tree_Make_c502_W c2] else bif Nat.beq g 11 then .of [tree_New_1c12_W c3, tree_New_644a_W c4] else bif Nat.beq g 10 then .of [law13_awake_W c5] else noEnt
noncomputable def E_law13_TreeDirs_T (N : Nat) : Table := E_law13_TreeDirs_TG (@tree_Tree_Drop_c502 N) (@tree_Tree_Many_fb98 N) (@tree_Tree_Make_c502 N) (@tree_New_1c12 N) (@tree_New_644a N) (@law13_awake N)
noncomputable def law13_TreeDirs_W (f : law13_TreeDirs_Ty) : Var := ⟨[.v (.isl (.int .u8))], [], fun t u K => f t.1 (fun y0 => K (.sv (.v (.bool y0))) [])⟩
noncomputable def law13_TreeDirs_v0_0 (w : law13_TreeDirs_l0_Ty) : LVar := ⟨[.sv (.v (.isl (.int .u8))), .sv (.v (.ptr 0 0)), .sv (.v (.ptr 2 0)), .sv (.v (.int .i64))], [.cells [.c (.map 1), .c (.int .i64)], .map (.pair .str .str) (.pair (.int .i64) .bool) true true, .cells [.row .bool 8]], fun n t u K => w (fun y0 => K .ret [(.sv (.v (.bool y0)))] []) (K (.exit 0) [.undef] []) n t.1 t.2.2.2.1 u.1.2.1 u.2.1 u.2.2.1.1⟩
noncomputable def law13_TreeDirs_F0 (w : law13_TreeDirs_l0_Ty) : Fam := ⟨⟨false, [0, 3, 5, 6], [2], ⟨[], [], []⟩, ⟨[], [], []⟩⟩, [law13_TreeDirs_v0_0 w]⟩
noncomputable def law13_TreeDirs_v1_0 (w : law13_TreeDirs_l1_Ty) : LVar := ⟨[.sv (.v (.isl (.int .u8))), .sv (.v (.ptr 0 0)), .sv (.v (.ptr 2 0)), .sv (.v (.int .i64)), .sv (.v (.int .i64)), .sv (.v (.int .i64)), .sv (.v .str), .sv (.v (.int .i64)), .sv (.v (.int .i64))], [.cells [.c (.map 1), .c (.int .i64)], .map (.pair .str .str) (.pair (.int .i64) .bool) true true, .cells [.row .bool 8]], fun n t u K => w (fun y0 y1 y2 y3 y4 y5 y6 y7 y8 => K (.exit 2) [(.sv (.v (.isl (.int .u8) y0))), (.sv (.v (.ptr 0 0))), (.sv (.v (.ptr 2 0))), (.sv (.v (.int .i64 y1))), (.sv (.v (.int .i64 y2))), (.sv (.v (.int .i64 y3))), (.sv (.v (.str y4))), (.sv (.v (.int .i64 y5)))] [(.cells [(.c (.map 1)), (.c (.int .i64 y6))]), (.map (.pair .str .str) (.pair (.int .i64) .bool) true true y7), (.cells [(.row .bool 8 y8)])]) n t.1 t.2.2.2.1 t.2.2.2.2.1 t.2.2.2.2.2.1 t.2.2.2.2.2.2.1 t.2.2.2.2.2.2.2.1 t.2.2.2.2.2.2.2.2.1 u.1.2.1 u.2.1 u.2.2.1.1⟩
noncomputable def law13_TreeDirs_F1 (w : law13_TreeDirs_l1_Ty) : Fam := ⟨⟨false, [0, 3, 5, 6, 7, 8, 9, 10, 11], [0, 3, 5, 6, 7, 8, 9, 10], ⟨[], [], []⟩, ⟨[], [], []⟩⟩, [law13_TreeDirs_v1_0 w]⟩
noncomputable def law13_TreeDirs_v2_0 (w : law13_TreeDirs_l2_Ty) : LVar := ⟨[.sv (.v (.isl (.int .u8))), .sv (.v (.ptr 0 0)), .sv (.v (.ptr 2 0)), .sv (.v (.int .i64)), .sv (.v (.int .i64))], [.cells [.c (.map 1), .c (.int .i64)], .map (.pair .str .str) (.pair (.int .i64) .bool) true true, .cells [.row .bool 8]], fun n t u K => w (fun y0 y1 y2 y3 y4 y5 => K .ret [(.sv (.v (.isl (.int .u8) y0))), (.sv (.v (.bool y1))), (.sv (.v (.ptr 0 0))), (.sv (.v (.ptr 2 0))), (.sv (.v (.int .i64 y2)))] [(.cells [(.c (.map 1)), (.c (.int .i64 y3))]), (.map (.pair .str .str) (.pair (.int .i64) .bool) true true y4), (.cells [(.row .bool 8 y5)])]) (fun y0 y1 y2 y3 y4 => K (.exit 4) [(.sv (.v (.isl (.int .u8) y0))), .undef, (.sv (.v (.ptr 0 0))), (.sv (.v (.ptr 2 0))), (.sv (.v (.int .i64 y1)))] [(.cells [(.c (.map 1)), (.c (.int .i64 y2))]), (.map (.pair .str .str) (.pair (.int .i64) .bool) true true y3), (.cells [(.row .bool 8 y4)])]) n t.1 t.2.2.2.1 t.2.2.2.2.1 u.1.2.1 u.2.1 u.2.2.1.1⟩
noncomputable def law13_TreeDirs_F2 (w : law13_TreeDirs_l2_Ty) : Fam := ⟨⟨false, [0, 3, 5, 6, 15], [0, 2, 3, 5, 6], ⟨[], [], []⟩, ⟨[], [], []⟩⟩, [law13_TreeDirs_v2_0 w]⟩
noncomputable def law13_TreeDirs_v3_0 (w : law13_TreeDirs_l3_Ty) : LVar := ⟨[.sv (.v (.isl (.int .u8))), .sv (.v (.ptr 0 0)), .sv (.v (.ptr 2 0)), .sv (.v (.int .i64)), .sv (.v (.int .i64)), .sv (.v (.int .u16)), .sv (.v (.int .i64))], [.cells [.c (.map 1), .c (.int .i64)], .map (.pair .str .str) (.pair (.int .i64) .bool) true true, .cells [.row .bool 8]], fun n t u K => w (fun y0 y1 y2 y3 y4 y5 y6 => K (.exit 6) [(.sv (.v (.isl (.int .u8) y0))), (.sv (.v (.ptr 0 0))), (.sv (.v (.ptr 2 0))), (.sv (.v (.int .i64 y1))), (.sv (.v (.int .i64 y2))), (.sv (.v (.int .u16 y3)))] [(.cells [(.c (.map 1)), (.c (.int .i64 y4))]), (.map (.pair .str .str) (.pair (.int .i64) .bool) true true y5), (.cells [(.row .bool 8 y6)])]) n t.1 t.2.2.2.1 t.2.2.2.2.1 t.2.2.2.2.2.1 t.2.2.2.2.2.2.1 u.1.2.1 u.2.1 u.2.2.1.1⟩
noncomputable def law13_TreeDirs_F3 (w : law13_TreeDirs_l3_Ty) : Fam := ⟨⟨false, [0, 3, 5, 6, 15, 16, 17], [0, 3, 5, 6, 15, 16], ⟨[], [], []⟩, ⟨[], [], []⟩⟩, [law13_TreeDirs_v3_0 w]⟩
noncomputable def law13_TreeDirs_F (w0 : law13_TreeDirs_l0_Ty) (w1 : law13_TreeDirs_l1_Ty) (w2 : law13_TreeDirs_l2_Ty) (w3 : law13_TreeDirs_l3_Ty) : Nat → Fam := fun i => bif Nat.beq i 14 then law13_TreeDirs_F0 w0 else bif Nat.beq i 23 then law13_TreeDirs_F1 w1 else bif Nat.beq i 39 then law13_TreeDirs_F2 w2 else bif Nat.beq i 46 then law13_TreeDirs_F3 w3 else noFam
noncomputable def E_law13_TreeDirs (N : Nat) : Ent := .of [law13_TreeDirs_W (law13_TreeDirs N)]
end Go.Proofs.Ytppmkhgpljkljaa
