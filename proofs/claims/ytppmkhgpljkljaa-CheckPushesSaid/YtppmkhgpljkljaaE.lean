/-
  Their entries (printed by a program of this work).
-/
import Derived.Test.YtppmkhgpljkljaaProg
import Derived.Test.YtppmkhgpljkljaaD
set_option linter.unusedVariables false
set_option maxRecDepth 100000
namespace Go.Proofs.Ytppmkhgpljkljaa
open Go.Gx
noncomputable def E_stringslite_Index_TG (c0 : stringslite_IndexByte_Ty) : Table := fun g => bif Nat.beq g 53 then .of [stringslite_IndexByte_W c0] else noEnt
noncomputable def E_stringslite_Index_T (N : Nat) : Table := E_stringslite_Index_TG @stringslite_IndexByte
noncomputable def stringslite_Index_W (f : stringslite_Index_Ty) : Var := ⟨[.v .str, .v .str], [], fun t u K => f t.1 t.2.1 (fun y0 => K (.sv (.v (.int .i64 y0))) [])⟩
noncomputable def stringslite_Index_F : Nat → Fam := fun _ => noFam
noncomputable def E_stringslite_Index (N : Nat) : Ent := .of [stringslite_Index_W (stringslite_Index N)]
noncomputable def E_stringslite_Cut_TG (c0 : stringslite_Index_Ty) : Table := fun g => bif Nat.beq g 52 then .of [stringslite_Index_W c0] else noEnt
noncomputable def E_stringslite_Cut_T (N : Nat) : Table := E_stringslite_Cut_TG (@stringslite_Index N)
noncomputable def stringslite_Cut_W (f : stringslite_Cut_Ty) : Var := ⟨[.v .str, .v .str], [], fun t u K => f t.1 t.2.1 (fun y0 y1 y2 => K (.tup [(.v (.str y0)), (.v (.str y1)), (.v (.bool y2))]) [])⟩
noncomputable def stringslite_Cut_F : Nat → Fam := fun _ => noFam
noncomputable def E_stringslite_Cut (N : Nat) : Ent := .of [stringslite_Cut_W (stringslite_Cut N)]
noncomputable def E_strings_Cut_TG (c0 : stringslite_Cut_Ty) : Table := fun g => bif Nat.beq g 47 then .of [stringslite_Cut_W c0] else noEnt
noncomputable def E_strings_Cut_T (N : Nat) : Table := E_strings_Cut_TG (@stringslite_Cut N)
noncomputable def strings_Cut_W (f : strings_Cut_Ty) : Var := ⟨[.v .str, .v .str], [], fun t u K => f t.1 t.2.1 (fun y0 y1 y2 => K (.tup [(.v (.str y0)), (.v (.str y1)), (.v (.bool y2))]) [])⟩
noncomputable def strings_Cut_F : Nat → Fam := fun _ => noFam
noncomputable def E_strings_Cut (N : Nat) : Ent := .of [strings_Cut_W (strings_Cut N)]
noncomputable def E_check_letter_TG : Table := fun _ => noEnt
noncomputable def E_check_letter_T (N : Nat) : Table := E_check_letter_TG
noncomputable def check_letter_W (f : check_letter_Ty) : Var := ⟨[.v (.int .u8)], [], fun t u K => f t.1 (fun y0 => K (.sv (.v (.bool y0))) [])⟩
noncomputable def check_letter_F : Nat → Fam := fun _ => noFam
noncomputable def E_check_letter (N : Nat) : Ent := .of [check_letter_W (check_letter N)]
noncomputable def E_check_part_TG (c0 : check_letter_Ty) : Table := fun g => bif Nat.beq g 48 then .of [check_letter_W c0] else noEnt
noncomputable def E_check_part_T (N : Nat) : Table := E_check_part_TG (@check_letter N)
noncomputable def check_part_W (f : check_part_Ty) : Var := ⟨[.v .str], [], fun t u K => f t.1 (fun y0 => K (.sv (.v (.bool y0))) [])⟩
noncomputable def check_part_v0_0 (w : check_part_l0_Ty) : LVar := ⟨[.sv (.v .str), .sv (.v (.int .i64)), .sv (.v (.int .i64))], [], fun n t u K => w (fun y0 y1 => K .ret [(.sv (.v (.str y0))), (.sv (.v (.bool y1)))] []) (fun y0 => K (.exit 0) [(.sv (.v (.str y0))), .undef] []) n t.1 t.2.1 t.2.2.1⟩
noncomputable def check_part_F0 (w : check_part_l0_Ty) : Fam := ⟨⟨false, [0, 5, 6], [0, 2], ⟨[], [], []⟩, ⟨[], [], []⟩⟩, [check_part_v0_0 w]⟩
noncomputable def check_part_F (w0 : check_part_l0_Ty) : Nat → Fam := fun i => bif Nat.beq i 3 then check_part_F0 w0 else noFam
noncomputable def E_check_part (N : Nat) : Ent := .of [check_part_W (check_part N)]
noncomputable def E_check_Name_TG (c0 : check_part_Ty) (c1 : strings_Cut_Ty) : Table := fun g => bif Nat.beq g 40 then .of [check_part_W c0] else bif Nat.beq g 39 then .of [strings_Cut_W c1] else noEnt
noncomputable def E_check_Name_T (N : Nat) : Table := E_check_Name_TG (@check_part N) (@strings_Cut N)
noncomputable def check_Name_W (f : check_Name_Ty) : Var := ⟨[.v .str], [], fun t u K => f t.1 (fun y0 => K (.sv (.v (.bool y0))) [])⟩
noncomputable def check_Name_F : Nat → Fam := fun _ => noFam
noncomputable def E_check_Name (N : Nat) : Ent := .of [check_Name_W (check_Name N)]
noncomputable def E_inst_table_TG : Table := fun _ => noEnt
noncomputable def E_inst_table_T (N : Nat) : Table := E_inst_table_TG
noncomputable def inst_table_W (f : inst_table_Ty) : Var := ⟨[.v (.int .i64)], [], fun t u K => f t.1 (fun y0 y1 y2 y3 => K (.tup [(.agg [(.c (.int .i64 y0)), (.c (.int .i64 y1)), (.c (.int .i64 y2))]), (.v (.bool y3))]) [])⟩
noncomputable def inst_table_F : Nat → Fam := fun _ => noFam
noncomputable def E_inst_table (N : Nat) : Ent := .of [inst_table_W (inst_table N)]
noncomputable def E_inst_May_TG (c0 : inst_table_Ty) : Table := fun g => bif Nat.beq g 49 then .of [inst_table_W c0] else noEnt
noncomputable def E_inst_May_T (N : Nat) : Table := E_inst_May_TG (@inst_table N)
noncomputable def inst_May_W (f : inst_May_Ty) : Var := ⟨[.agg [.c (.int .i64), .c (.int .i64)]], [], fun t u K => f t.1.1 t.1.2.1 (fun y0 => K (.sv (.v (.bool y0))) [])⟩
noncomputable def inst_May_F : Nat → Fam := fun _ => noFam
noncomputable def E_inst_May (N : Nat) : Ent := .of [inst_May_W (inst_May N)]
noncomputable def E_check_names_TG : Table := fun _ => noEnt
noncomputable def E_check_names_T (N : Nat) : Table := E_check_names_TG
noncomputable def check_names_W (f : check_names_Ty) : Var := ⟨[.agg [.c (.int .i64), .c (.int .i64)], .v (.int .i64)], [], fun t u K => f t.1.1 t.1.2.1 t.2.1 (fun y0 => K (.sv (.v (.bool y0))) [])⟩
noncomputable def check_names_F : Nat → Fam := fun _ => noFam
noncomputable def E_check_names (N : Nat) : Ent := .of [check_names_W (check_names N)]
noncomputable def E_inst_Jumps_TG : Table := fun _ => noEnt
noncomputable def E_inst_Jumps_T (N : Nat) : Table := E_inst_Jumps_TG
noncomputable def inst_Jumps_W (f : inst_Jumps_Ty) : Var := ⟨[.v (.int .i64)], [], fun t u K => f t.1 (fun y0 => K (.sv (.v (.bool y0))) [])⟩
noncomputable def inst_Jumps_F : Nat → Fam := fun _ => noFam
noncomputable def E_inst_Jumps (N : Nat) : Ent := .of [inst_Jumps_W (inst_Jumps N)]
noncomputable def E_inst_Ends_TG : Table := fun _ => noEnt
noncomputable def E_inst_Ends_T (N : Nat) : Table := E_inst_Ends_TG
noncomputable def inst_Ends_W (f : inst_Ends_Ty) : Var := ⟨[.v (.int .i64)], [], fun t u K => f t.1 (fun y0 => K (.sv (.v (.bool y0))) [])⟩
noncomputable def inst_Ends_F : Nat → Fam := fun _ => noFam
noncomputable def E_inst_Ends (N : Nat) : Ent := .of [inst_Ends_W (inst_Ends N)]
noncomputable def E_check_one_TG (c0 : inst_Ends_Ty) (c1 : inst_Jumps_Ty) (c2 : check_names_Ty) (c3 : inst_May_Ty) : Table := fun g => bif Nat.beq g 44 then .of [inst_Ends_W c0] else bif Nat.beq g 43 then .of [inst_Jumps_W c1] else bif Nat.beq g 42 then .of [check_names_W c2] else bif Nat.beq g 41 then .of [inst_May_W c3] else noEnt
noncomputable def E_check_one_T (N : Nat) : Table := E_check_one_TG (@inst_Ends N) (@inst_Jumps N) (@check_names N) (@inst_May N)
noncomputable def check_one_ebbf_W (f : check_one_ebbf_Ty) : Var := ⟨[.agg [.c (.wl 0 2), .c (.wl 1 1)], .v (.int .i64)], [.rows (.pair (.int .i64) (.int .i64)), .rows .str], fun t u K => f t.2.1 u.1 u.2.1 (fun y0 y1 y2 => K (.sv (.v (.int .i64 y0))) [(.cells [(.row (.pair (.int .i64) (.int .i64)) (List.length y1) y1)]), (.cells [(.row .str (List.length y2) y2)])])⟩
noncomputable def check_one_ebbf_F : Nat → Fam := fun _ => noFam
noncomputable def E_check_one (N : Nat) : Ent := .of [check_one_ebbf_W (check_one_ebbf N)]
noncomputable def E_inst_Takes_TG (c0 : inst_table_Ty) : Table := fun g => bif Nat.beq g 49 then .of [inst_table_W c0] else noEnt
noncomputable def E_inst_Takes_T (N : Nat) : Table := E_inst_Takes_TG (@inst_table N)
noncomputable def inst_Takes_W (f : inst_Takes_Ty) : Var := ⟨[.v (.int .i64)], [], fun t u K => f t.1 (fun y0 => K (.sv (.v (.int .i64 y0))) [])⟩
noncomputable def inst_Takes_F : Nat → Fam := fun _ => noFam
noncomputable def E_inst_Takes (N : Nat) : Ent := .of [inst_Takes_W (inst_Takes N)]
noncomputable def E_inst_Gives_TG (c0 : inst_table_Ty) : Table := fun g => bif Nat.beq g 49 then .of [inst_table_W c0] else noEnt
noncomputable def E_inst_Gives_T (N : Nat) : Table := E_inst_Gives_TG (@inst_table N)
noncomputable def inst_Gives_W (f : inst_Gives_Ty) : Var := ⟨[.v (.int .i64)], [], fun t u K => f t.1 (fun y0 => K (.sv (.v (.int .i64 y0))) [])⟩
noncomputable def inst_Gives_F : Nat → Fam := fun _ => noFam
noncomputable def E_inst_Gives (N : Nat) : Ent := .of [inst_Gives_W (inst_Gives N)]
noncomputable def E_check_behind_TG (c0 : inst_Gives_Ty) (c1 : inst_Takes_Ty) : Table := fun g => bif Nat.beq g 51 then .of [inst_Gives_W c0] else bif Nat.beq g 50 then .of [inst_Takes_W c1] else noEnt
noncomputable def E_check_behind_T (N : Nat) : Table := E_check_behind_TG (@inst_Gives N) (@inst_Takes N)
noncomputable def check_behind_W (f : check_behind_Ty) : Var := ⟨[.agg [.c (.int .i64), .c (.int .i64)], .v (.int .i64)], [], fun t u K => f t.1.1 t.1.2.1 t.2.1 (fun y0 y1 => K (.tup [(.v (.int .i64 y0)), (.v (.bool y1))]) [])⟩
noncomputable def check_behind_F : Nat → Fam := fun _ => noFam
noncomputable def E_check_behind (N : Nat) : Ent := .of [check_behind_W (check_behind N)]
noncomputable def E_check_next_TG (c0 : inst_Jumps_Ty) (c1 : inst_Ends_Ty) : Table := fun g => bif Nat.beq g 43 then .of [inst_Jumps_W c0] else bif Nat.beq g 44 then .of [inst_Ends_W c1] else noEnt
noncomputable def E_check_next_T (N : Nat) : Table := E_check_next_TG (@inst_Jumps N) (@inst_Ends N)
noncomputable def check_next_ebbf_W (f : check_next_ebbf_Ty) : Var := ⟨[.agg [.c (.wl 0 2), .c (.wl 1 1)], .v (.int .i64)], [.rows (.pair (.int .i64) (.int .i64)), .rows .str], fun t u K => f t.2.1 u.1 u.2.1 (fun y0 y1 y2 => K (.sv (.v (.wl 2 1))) [(.cells [(.row (.pair (.int .i64) (.int .i64)) (List.length y0) y0)]), (.cells [(.row .str (List.length y1) y1)]), (.cells [(.row (.int .i64) (List.length y2) y2)])])⟩
noncomputable def check_next_ebbf_F : Nat → Fam := fun _ => noFam
noncomputable def E_check_next (N : Nat) : Ent := .of [check_next_ebbf_W (check_next_ebbf N)]
noncomputable def E_check_reach_TG (c0 : check_next_ebbf_Ty) (c1 : check_behind_Ty) : Table := fun g => bif Nat.beq g 46 then .of [check_next_ebbf_W c0] else bif Nat.beq g 45 then .of [check_behind_W c1] else noEnt
noncomputable def E_check_reach_T (N : Nat) : Table := E_check_reach_TG (@check_next_ebbf N) (@check_behind N)
noncomputable def check_reach_87f1_W (f : check_reach_87f1_Ty) : Var := ⟨[.agg [.c (.wl 0 2), .c (.wl 1 1)]], [.rows (.pair (.int .i64) (.int .i64)), .rows .str], fun t u K => f u.1 u.2.1 (fun y0 y1 y2 => K (.sv (.v (.ptr 2 0))) [(.cells [(.row (.pair (.int .i64) (.int .i64)) (List.length y0) y0)]), (.cells [(.row .str (List.length y1) y1)]), (.cells [(.row .bool 1632 y2)])])⟩
noncomputable def check_reach_87f1_v0_0 (w : check_reach_87f1_l0_Ty) : LVar := ⟨[.sv (.v (.ptr 2 0)), .sv (.v (.ptr 3 0)), .sv (.v .bool)], [.rows (.pair (.int .i64) (.int .i64)), .rows .str, .cells [.c (.wl 0 2), .c (.wl 1 1)], .cells [.row .bool 1632]], fun n t u K => w (fun y0 y1 y2 => K (.exit 0) [(.sv (.v (.ptr 2 0)))] [(.cells [(.row (.pair (.int .i64) (.int .i64)) (List.length y0) y0)]), (.cells [(.row .str (List.length y1) y1)]), (.cells [(.row .bool 1632 y2)])]) n t.2.2.1 u.1 u.2.1 u.2.2.2.1.1⟩
noncomputable def check_reach_87f1_F0 (w : check_reach_87f1_l0_Ty) : Fam := ⟨⟨false, [1, 3, 4], [3], ⟨[], [], []⟩, ⟨[], [], []⟩⟩, [check_reach_87f1_v0_0 w]⟩
noncomputable def check_reach_87f1_v1_0 (w : check_reach_87f1_l1_Ty) : LVar := ⟨[.sv (.v (.ptr 2 0)), .sv (.v (.ptr 3 0)), .sv (.v .bool), .sv (.v (.wl 0 2)), .sv (.v (.int .i64)), .sv (.v (.int .i64))], [.rows (.pair (.int .i64) (.int .i64)), .rows .str, .cells [.c (.wl 0 2), .c (.wl 1 1)], .cells [.row .bool 1632]], fun n t u K => w (fun y0 y1 y2 y3 => K (.exit 2) [(.sv (.v (.ptr 2 0))), (.sv (.v (.ptr 3 0))), (.sv (.v (.bool y0)))] [(.cells [(.row (.pair (.int .i64) (.int .i64)) (List.length y1) y1)]), (.cells [(.row .str (List.length y2) y2)]), (.cells [(.c (.wl 0 2)), (.c (.wl 1 1))]), (.cells [(.row .bool 1632 y3)])]) n t.2.2.1 t.2.2.2.2.1 t.2.2.2.2.2.1 u.1 u.2.1 u.2.2.2.1.1⟩
noncomputable def check_reach_87f1_F1 (w : check_reach_87f1_l1_Ty) : Fam := ⟨⟨false, [1, 3, 4, 21, 22, 23], [1, 3, 4], ⟨[], [], []⟩, ⟨[], [], []⟩⟩, [check_reach_87f1_v1_0 w]⟩
noncomputable def check_reach_87f1_v2_0 (w : check_reach_87f1_l2_Ty) : LVar := ⟨[.sv (.v (.ptr 2 0)), .sv (.v (.ptr 3 0)), .sv (.v .bool), .sv (.v (.int .i64)), .sv (.v (.ptr 4 0)), .sv (.v (.wl 0 2)), .sv (.v (.int .i64)), .sv (.v (.int .i64)), .sv (.agg [.row .bool 17]), .sv (.v (.int .i64))], [.rows (.pair (.int .i64) (.int .i64)), .rows .str, .cells [.c (.wl 0 2), .c (.wl 1 1)], .cells [.row .bool 1632], .cells [.c (.int .i64), .c (.int .i64)]], fun n t u K => w (fun y0 y1 y2 y3 y4 y5 => K (.exit 4) [(.sv (.v (.ptr 2 0))), (.sv (.v (.ptr 3 0))), (.sv (.v (.bool y0))), (.sv (.v (.wl 0 2))), (.sv (.v (.int .i64 y1))), (.sv (.v (.int .i64 y2)))] [(.cells [(.row (.pair (.int .i64) (.int .i64)) (List.length y3) y3)]), (.cells [(.row .str (List.length y4) y4)]), (.cells [(.c (.wl 0 2)), (.c (.wl 1 1))]), (.cells [(.row .bool 1632 y5)])]) n t.2.2.1 t.2.2.2.1 t.2.2.2.2.2.2.1 t.2.2.2.2.2.2.2.1 t.2.2.2.2.2.2.2.2.1.1 t.2.2.2.2.2.2.2.2.2.1 u.1 u.2.1 u.2.2.2.1.1 u.2.2.2.2.1.1 u.2.2.2.2.1.2.1⟩
noncomputable def check_reach_87f1_F2 (w : check_reach_87f1_l2_Ty) : Fam := ⟨⟨false, [1, 3, 4, 5, 6, 21, 22, 23, 32, 33], [1, 3, 4, 21, 22, 23], ⟨[], [], []⟩, ⟨[], [], []⟩⟩, [check_reach_87f1_v2_0 w]⟩
noncomputable def check_reach_87f1_v3_0 (w : check_reach_87f1_l3_Ty) : LVar := ⟨[.sv (.v (.ptr 2 0)), .sv (.v (.ptr 3 0)), .sv (.v .bool), .sv (.v (.int .i64)), .sv (.v (.ptr 4 0)), .sv (.v (.int .i64)), .sv (.v (.wl 0 2)), .sv (.v (.int .i64)), .sv (.v (.int .i64)), .sv (.agg [.row .bool 17]), .sv (.v (.int .i64)), .sv (.v (.wl 5 1)), .sv (.v (.int .i64)), .sv (.v (.int .i64))], [.rows (.pair (.int .i64) (.int .i64)), .rows .str, .cells [.c (.wl 0 2), .c (.wl 1 1)], .cells [.row .bool 1632], .cells [.c (.int .i64), .c (.int .i64)], .rows (.int .i64)], fun n t u K => w (fun y0 y1 y2 y3 y4 y5 y6 y7 y8 y9 y10 => K (.exit 6) [(.sv (.v (.ptr 2 0))), (.sv (.v (.ptr 3 0))), (.sv (.v (.bool y0))), (.sv (.v (.int .i64 y1))), (.sv (.v (.ptr 4 0))), (.sv (.v (.wl 0 2))), (.sv (.v (.int .i64 y2))), (.sv (.v (.int .i64 y3))), (.sv (.agg [(.row .bool 17 y4)])), (.sv (.v (.int .i64 y5)))] [(.cells [(.row (.pair (.int .i64) (.int .i64)) (List.length y6) y6)]), (.cells [(.row .str (List.length y7) y7)]), (.cells [(.c (.wl 0 2)), (.c (.wl 1 1))]), (.cells [(.row .bool 1632 y8)]), (.cells [(.c (.int .i64 y9)), (.c (.int .i64 y10))])]) n t.2.2.1 t.2.2.2.1 t.2.2.2.2.2.1 t.2.2.2.2.2.2.2.1 t.2.2.2.2.2.2.2.2.1 t.2.2.2.2.2.2.2.2.2.1.1 t.2.2.2.2.2.2.2.2.2.2.1 t.2.2.2.2.2.2.2.2.2.2.2.2.1 t.2.2.2.2.2.2.2.2.2.2.2.2.2.1 u.1 u.2.1 u.2.2.2.1.1 u.2.2.2.2.1.1 u.2.2.2.2.1.2.1 u.2.2.2.2.2.1⟩
noncomputable def check_reach_87f1_F3 (w : check_reach_87f1_l3_Ty) : Fam := ⟨⟨false, [1, 3, 4, 5, 6, 9, 21, 22, 23, 32, 33, 51, 52, 53], [1, 3, 4, 5, 6, 21, 22, 23, 32, 33], ⟨[], [], []⟩, ⟨[], [], []⟩⟩, [check_reach_87f1_v3_0 w]⟩
noncomputable def check_reach_87f1_F (w0 : check_reach_87f1_l0_Ty) (w1 : check_reach_87f1_l1_Ty) (w2 : check_reach_87f1_l2_Ty) (w3 : check_reach_87f1_l3_Ty) : Nat → Fam := fun i => bif Nat.beq i 5 then check_reach_87f1_F0 w0 else bif Nat.beq i 10 then check_reach_87f1_F1 w1 else bif Nat.beq i 16 then check_reach_87f1_F2 w2 else bif Nat.beq i 25 then check_reach_87f1_F3 w3 else noFam
noncomputable def E_check_reach (N : Nat) : Ent := .of [check_reach_87f1_W (check_reach_87f1 N)]
noncomputable def E_check_height_TG (c0 : check_behind_Ty) : Table := fun g => bif Nat.beq g 45 then .of [check_behind_W c0] else noEnt
noncomputable def E_check_height_T (N : Nat) : Table := E_check_height_TG (@check_behind N)
noncomputable def check_height_866d_W (f : check_height_866d_Ty) : Var := ⟨[.agg [.c (.wl 0 2), .c (.wl 1 1)], .v (.ptr 2 0), .v (.int .i64)], [.rows (.pair (.int .i64) (.int .i64)), .rows .str, .cells [.row .bool 1632]], fun t u K => f t.2.2.1 u.1 u.2.1 u.2.2.1.1 (fun y0 y1 y2 y3 y4 => K (.tup [(.v (.int .i64 y0)), (.v (.bool y1))]) [(.cells [(.row (.pair (.int .i64) (.int .i64)) (List.length y2) y2)]), (.cells [(.row .str (List.length y3) y3)]), (.cells [(.row .bool 1632 y4)])])⟩
noncomputable def check_height_866d_v0_0 (w : check_height_866d_l0_Ty) : LVar := ⟨[.sv (.v (.int .i64)), .sv (.v (.ptr 3 0)), .sv (.v (.int .i64)), .sv (.v .bool), .sv (.agg [.row .bool 17]), .sv (.v (.int .i64))], [.rows (.pair (.int .i64) (.int .i64)), .rows .str, .cells [.row .bool 1632], .cells [.c (.wl 0 2), .c (.wl 1 1)]], fun n t u K => w (fun y0 y1 y2 y3 y4 => K (.exit 0) [(.sv (.v (.int .i64 y0))), (.sv (.v (.bool y1)))] [(.cells [(.row (.pair (.int .i64) (.int .i64)) (List.length y2) y2)]), (.cells [(.row .str (List.length y3) y3)]), (.cells [(.row .bool 1632 y4)])]) n t.1 t.2.2.1 t.2.2.2.1 t.2.2.2.2.1.1 t.2.2.2.2.2.1 u.1 u.2.1 u.2.2.1.1⟩
noncomputable def check_height_866d_F0 (w : check_height_866d_l0_Ty) : Fam := ⟨⟨false, [2, 3, 8, 9, 18, 19], [8, 9], ⟨[], [], []⟩, ⟨[], [], []⟩⟩, [check_height_866d_v0_0 w]⟩
noncomputable def check_height_866d_F (w0 : check_height_866d_l0_Ty) : Nat → Fam := fun i => bif Nat.beq i 4 then check_height_866d_F0 w0 else noFam
noncomputable def E_check_height (N : Nat) : Ent := .of [check_height_866d_W (check_height_866d N)]
noncomputable def E_check_Run_TG (c0 : check_height_866d_Ty) (c1 : check_reach_87f1_Ty) (c2 : check_one_ebbf_Ty) (c3 : check_Name_Ty) : Table := fun g => bif Nat.beq g 33 then .of [check_height_866d_W c0] else bif Nat.beq g 32 then .of [check_reach_87f1_W c1] else bif Nat.beq g 31 then .of [check_one_ebbf_W c2] else bif Nat.beq g 30 then .of [check_Name_W c3] else noEnt
noncomputable def E_check_Run_T (N : Nat) : Table := E_check_Run_TG (@check_height_866d N) (@check_reach_87f1 N) (@check_one_ebbf N) (@check_Name N)
noncomputable def check_Run_0ce7_W (f : check_Run_0ce7_Ty) : Var := ⟨[.agg [.c (.wl 0 2), .c .nils]], [.rows (.pair (.int .i64) (.int .i64))], fun t u K => f u.1 (fun y0 y1 y2 => K (.tup [(.v (.int .i64 y0)), (.v (.int .i64 y1))]) [(.cells [(.row (.pair (.int .i64) (.int .i64)) (List.length y2) y2)])])⟩
noncomputable def check_Run_0ce7_v0_0 (w : check_Run_0ce7_l0_Ty) : LVar := ⟨[.sv (.v (.ptr 1 0)), .sv (.v (.wl 2 1)), .sv (.v (.int .i64)), .sv (.v (.int .i64))], [.rows (.pair (.int .i64) (.int .i64)), .cells [.c (.wl 0 2), .c (.wl 2 1)], .rows .str], fun n t u K => w (fun y0 y1 y2 y3 => K .ret [(.sv (.v (.ptr 1 0))), (.sv (.v (.int .i64 y0))), (.sv (.v (.int .i64 y1)))] [(.cells [(.row (.pair (.int .i64) (.int .i64)) (List.length y2) y2)]), (.cells [(.c (.wl 0 2)), (.c (.wl 2 1))]), (.cells [(.row .str (List.length y3) y3)])]) (fun y0 y1 => K (.exit 0) [(.sv (.v (.ptr 1 0))), .undef, .undef] [(.cells [(.row (.pair (.int .i64) (.int .i64)) (List.length y0) y0)]), (.cells [(.c (.wl 0 2)), (.c (.wl 2 1))]), (.cells [(.row .str (List.length y1) y1)])]) n t.2.2.1 t.2.2.2.1 u.1 u.2.2.1⟩
noncomputable def check_Run_0ce7_F0 (w : check_Run_0ce7_l0_Ty) : Fam := ⟨⟨false, [1, 29, 30, 31], [1, 2, 3], ⟨[], [], []⟩, ⟨[], [], []⟩⟩, [check_Run_0ce7_v0_0 w]⟩
noncomputable def check_Run_0ce7_v1_0 (w : check_Run_0ce7_l1_Ty) : LVar := ⟨[.sv (.v (.ptr 1 0)), .sv (.v (.int .i64)), .sv (.v (.int .i64))], [.rows (.pair (.int .i64) (.int .i64)), .cells [.c (.wl 0 2), .c (.wl 2 1)], .rows .str], fun n t u K => w (fun y0 y1 y2 y3 => K .ret [(.sv (.v (.ptr 1 0))), (.sv (.v (.int .i64 y0))), (.sv (.v (.int .i64 y1)))] [(.cells [(.row (.pair (.int .i64) (.int .i64)) (List.length y2) y2)]), (.cells [(.c (.wl 0 2)), (.c (.wl 2 1))]), (.cells [(.row .str (List.length y3) y3)])]) (fun y0 y1 => K (.exit 2) [(.sv (.v (.ptr 1 0))), .undef, .undef] [(.cells [(.row (.pair (.int .i64) (.int .i64)) (List.length y0) y0)]), (.cells [(.c (.wl 0 2)), (.c (.wl 2 1))]), (.cells [(.row .str (List.length y1) y1)])]) n t.2.1 t.2.2.1 u.1 u.2.2.1⟩
noncomputable def check_Run_0ce7_F1 (w : check_Run_0ce7_l1_Ty) : Fam := ⟨⟨false, [1, 41, 42], [1, 2, 3], ⟨[], [], []⟩, ⟨[], [], []⟩⟩, [check_Run_0ce7_v1_0 w]⟩
noncomputable def check_Run_0ce7_v2_0 (w : check_Run_0ce7_l2_Ty) : LVar := ⟨[.sv (.v (.ptr 1 0)), .sv (.v (.ptr 3 0)), .sv (.v (.int .i64)), .sv (.v (.int .i64))], [.rows (.pair (.int .i64) (.int .i64)), .cells [.c (.wl 0 2), .c (.wl 2 1)], .rows .str, .cells [.row .bool 1632]], fun n t u K => w (fun y0 y1 y2 => K .ret [(.sv (.v (.int .i64 y0))), (.sv (.v (.int .i64 y1)))] [(.cells [(.row (.pair (.int .i64) (.int .i64)) (List.length y2) y2)])]) (fun y0 => K (.exit 4) [.undef, .undef] [(.cells [(.row (.pair (.int .i64) (.int .i64)) (List.length y0) y0)])]) n t.2.2.1 t.2.2.2.1 u.1 u.2.2.1 u.2.2.2.1.1⟩
noncomputable def check_Run_0ce7_F2 (w : check_Run_0ce7_l2_Ty) : Fam := ⟨⟨false, [1, 8, 57, 58], [2, 3], ⟨[], [], []⟩, ⟨[], [], []⟩⟩, [check_Run_0ce7_v2_0 w]⟩
noncomputable def check_Run_0ce7_F (w0 : check_Run_0ce7_l0_Ty) (w1 : check_Run_0ce7_l1_Ty) (w2 : check_Run_0ce7_l2_Ty) : Nat → Fam := fun i => bif Nat.beq i 6 then check_Run_0ce7_F0 w0 else bif Nat.beq i 15 then check_Run_0ce7_F1 w1 else bif Nat.beq i 26 then check_Run_0ce7_F2 w2 else noFam
noncomputable def check_Run_87f1_W (f : check_Run_87f1_Ty) : Var := ⟨[.agg [.c (.wl 0 2), .c (.wl 1 1)]], [.rows (.pair (.int .i64) (.int .i64)), .rows .str], fun t u K => f u.1 u.2.1 (fun y0 y1 y2 y3 => K (.tup [(.v (.int .i64 y0)), (.v (.int .i64 y1))]) [(.cells [(.row (.pair (.int .i64) (.int .i64)) (List.length y2) y2)]), (.cells [(.row .str (List.length y3) y3)])])⟩
noncomputable def check_Run_87f1_v0_0 (w : check_Run_87f1_l0_Ty) : LVar := ⟨[.sv (.v (.ptr 2 0)), .sv (.v (.wl 1 1)), .sv (.v (.int .i64)), .sv (.v (.int .i64))], [.rows (.pair (.int .i64) (.int .i64)), .rows .str, .cells [.c (.wl 0 2), .c (.wl 1 1)]], fun n t u K => w (fun y0 y1 y2 y3 => K .ret [(.sv (.v (.ptr 2 0))), (.sv (.v (.int .i64 y0))), (.sv (.v (.int .i64 y1)))] [(.cells [(.row (.pair (.int .i64) (.int .i64)) (List.length y2) y2)]), (.cells [(.row .str (List.length y3) y3)]), (.cells [(.c (.wl 0 2)), (.c (.wl 1 1))])]) (fun y0 y1 => K (.exit 0) [(.sv (.v (.ptr 2 0))), .undef, .undef] [(.cells [(.row (.pair (.int .i64) (.int .i64)) (List.length y0) y0)]), (.cells [(.row .str (List.length y1) y1)]), (.cells [(.c (.wl 0 2)), (.c (.wl 1 1))])]) n t.2.2.1 t.2.2.2.1 u.1 u.2.1⟩
noncomputable def check_Run_87f1_F0 (w : check_Run_87f1_l0_Ty) : Fam := ⟨⟨false, [1, 29, 30, 31], [1, 2, 3], ⟨[], [], []⟩, ⟨[], [], []⟩⟩, [check_Run_87f1_v0_0 w]⟩
noncomputable def check_Run_87f1_v1_0 (w : check_Run_87f1_l1_Ty) : LVar := ⟨[.sv (.v (.ptr 2 0)), .sv (.v (.int .i64)), .sv (.v (.int .i64))], [.rows (.pair (.int .i64) (.int .i64)), .rows .str, .cells [.c (.wl 0 2), .c (.wl 1 1)]], fun n t u K => w (fun y0 y1 y2 y3 => K .ret [(.sv (.v (.ptr 2 0))), (.sv (.v (.int .i64 y0))), (.sv (.v (.int .i64 y1)))] [(.cells [(.row (.pair (.int .i64) (.int .i64)) (List.length y2) y2)]), (.cells [(.row .str (List.length y3) y3)]), (.cells [(.c (.wl 0 2)), (.c (.wl 1 1))])]) (fun y0 y1 => K (.exit 2) [(.sv (.v (.ptr 2 0))), .undef, .undef] [(.cells [(.row (.pair (.int .i64) (.int .i64)) (List.length y0) y0)]), (.cells [(.row .str (List.length y1) y1)]), (.cells [(.c (.wl 0 2)), (.c (.wl 1 1))])]) n t.2.1 t.2.2.1 u.1 u.2.1⟩
noncomputable def check_Run_87f1_F1 (w : check_Run_87f1_l1_Ty) : Fam := ⟨⟨false, [1, 41, 42], [1, 2, 3], ⟨[], [], []⟩, ⟨[], [], []⟩⟩, [check_Run_87f1_v1_0 w]⟩
noncomputable def check_Run_87f1_v2_0 (w : check_Run_87f1_l2_Ty) : LVar := ⟨[.sv (.v (.ptr 2 0)), .sv (.v (.ptr 3 0)), .sv (.v (.int .i64)), .sv (.v (.int .i64))], [.rows (.pair (.int .i64) (.int .i64)), .rows .str, .cells [.c (.wl 0 2), .c (.wl 1 1)], .cells [.row .bool 1632]], fun n t u K => w (fun y0 y1 y2 y3 => K .ret [(.sv (.v (.int .i64 y0))), (.sv (.v (.int .i64 y1)))] [(.cells [(.row (.pair (.int .i64) (.int .i64)) (List.length y2) y2)]), (.cells [(.row .str (List.length y3) y3)])]) (fun y0 y1 => K (.exit 4) [.undef, .undef] [(.cells [(.row (.pair (.int .i64) (.int .i64)) (List.length y0) y0)]), (.cells [(.row .str (List.length y1) y1)])]) n t.2.2.1 t.2.2.2.1 u.1 u.2.1 u.2.2.2.1.1⟩
noncomputable def check_Run_87f1_F2 (w : check_Run_87f1_l2_Ty) : Fam := ⟨⟨false, [1, 8, 57, 58], [2, 3], ⟨[], [], []⟩, ⟨[], [], []⟩⟩, [check_Run_87f1_v2_0 w]⟩
noncomputable def check_Run_87f1_F (w0 : check_Run_87f1_l0_Ty) (w1 : check_Run_87f1_l1_Ty) (w2 : check_Run_87f1_l2_Ty) : Nat → Fam := fun i => bif Nat.beq i 6 then check_Run_87f1_F0 w0 else bif Nat.beq i 15 then check_Run_87f1_F1 w1 else bif Nat.beq i 26 then check_Run_87f1_F2 w2 else noFam
noncomputable def E_check_Run (N : Nat) : Ent := .of [check_Run_0ce7_W (check_Run_0ce7 N), check_Run_87f1_W (check_Run_87f1 N)]
noncomputable def E_check_Heights_TG (c0 : check_height_866d_Ty) (c1 : check_reach_87f1_Ty) (c2 : check_Run_0ce7_Ty) (c3 : check_Run_87f1_Ty) : Table := fun g => bif Nat.beq g 33 then .of [check_height_866d_W c0] else bif Nat.beq g 32 then .of [check_reach_87f1_W c1] else bif Nat.beq g 18 then .of [check_Run_0ce7_W c2, check_Run_87f1_W c3] else noEnt
noncomputable def E_check_Heights_T (N : Nat) : Table := E_check_Heights_TG (@check_height_866d N) (@check_reach_87f1 N) (@check_Run_0ce7 N) (@check_Run_87f1 N)
noncomputable def check_Heights_0ce7_W (f : check_Heights_0ce7_Ty) : Var := ⟨[.agg [.c (.wl 0 2), .c .nils]], [.rows (.pair (.int .i64) (.int .i64))], fun t u K => f u.1 (fun y0 y1 => K (.sv (.v (.wl 1 1))) [(.cells [(.row (.pair (.int .i64) (.int .i64)) (List.length y0) y0)]), (.cells [(.row (.int .i64) (List.length y1) y1)])])⟩
noncomputable def check_Heights_0ce7_v0_0 (w : check_Heights_0ce7_l0_Ty) : LVar := ⟨[.sv (.v (.ptr 1 0)), .sv (.v (.ptr 3 0)), .sv (.v (.wl 4 1)), .sv (.v (.int .i64)), .sv (.v (.int .i64))], [.rows (.pair (.int .i64) (.int .i64)), .cells [.c (.wl 0 2), .c (.wl 2 1)], .rows .str, .cells [.row .bool 1632], .rows (.int .i64)], fun n t u K => w (fun y0 y1 => K (.exit 0) [(.sv (.v (.wl 1 1)))] [(.cells [(.row (.pair (.int .i64) (.int .i64)) (List.length y0) y0)]), (.cells [(.row (.int .i64) (List.length y1) y1)])]) n t.2.2.2.1 t.2.2.2.2.1 u.1 u.2.2.1 u.2.2.2.1.1 u.2.2.2.2.1⟩
noncomputable def check_Heights_0ce7_F0 (w : check_Heights_0ce7_l0_Ty) : Fam := ⟨⟨false, [1, 5, 6, 21, 22], [6], ⟨[], [(2, false, (.int .i64))], []⟩, ⟨[], [], []⟩⟩, [check_Heights_0ce7_v0_0 w]⟩
noncomputable def check_Heights_0ce7_F (w0 : check_Heights_0ce7_l0_Ty) : Nat → Fam := fun i => bif Nat.beq i 9 then check_Heights_0ce7_F0 w0 else noFam
noncomputable def E_check_Heights (N : Nat) : Ent := .of [check_Heights_0ce7_W (check_Heights_0ce7 N)]
noncomputable def E_law11_same_TG : Table := fun _ => noEnt
noncomputable def E_law11_same_T (N : Nat) : Table := E_law11_same_TG
noncomputable def law11_same_9dd3_W (f : law11_same_9dd3_Ty) : Var := ⟨[.v (.wl 0 1), .v (.wl 1 1)], [.rows (.int .i64), .rows (.int .i64)], fun t u K => f u.1 u.2.1 (fun y0 y1 y2 => K (.sv (.v (.bool y0))) [(.cells [(.row (.int .i64) (List.length y1) y1)]), (.cells [(.row (.int .i64) (List.length y2) y2)])])⟩
noncomputable def law11_same_9dd3_v0_0 (w : law11_same_9dd3_l0_Ty) : LVar := ⟨[.sv (.v (.wl 0 1)), .sv (.v (.wl 1 1)), .sv (.v (.int .i64))], [.rows (.int .i64), .rows (.int .i64)], fun n t u K => w (fun y0 y1 y2 => K .ret [(.sv (.v (.bool y0)))] [(.cells [(.row (.int .i64) (List.length y1) y1)]), (.cells [(.row (.int .i64) (List.length y2) y2)])]) (fun y0 y1 => K (.exit 0) [.undef] [(.cells [(.row (.int .i64) (List.length y0) y0)]), (.cells [(.row (.int .i64) (List.length y1) y1)])]) n t.2.2.1 u.1 u.2.1⟩
noncomputable def law11_same_9dd3_F0 (w : law11_same_9dd3_l0_Ty) : Fam := ⟨⟨false, [0, 1, 5], [4], ⟨[], [], []⟩, ⟨[], [], []⟩⟩, [law11_same_9dd3_v0_0 w]⟩
noncomputable def law11_same_9dd3_F (w0 : law11_same_9dd3_l0_Ty) : Nat → Fam := fun i => bif Nat.beq i 6 then law11_same_9dd3_F0 w0 else noFam
noncomputable def E_law11_same (N : Nat) : Ent := .of [law11_same_9dd3_W (law11_same_9dd3 N)]
noncomputable def E_law11_awake_TG (c0 : law11_same_9dd3_Ty) (c1 : check_Heights_0ce7_Ty) (c2 : check_Run_0ce7_Ty) (c3 : check_Run_87f1_Ty) : Table := fun g => bif Nat.beq g 20 then .of [law11_same_9dd3_W c0] else bif Nat.beq g 21 then .of [check_Heights_0ce7_W c1] else bif Nat.beq g 18 then .of [check_Run_0ce7_W c2, check_Run_87f1_W c3] else noEnt
noncomputable def E_law11_awake_T (N : Nat) : Table := E_law11_awake_TG (@law11_same_9dd3 N) (@check_Heights_0ce7 N) (@check_Run_0ce7 N) (@check_Run_87f1 N)
noncomputable def law11_awake_W (f : law11_awake_Ty) : Var := ⟨[], [], fun t u K => f (fun y0 => K (.sv (.v (.bool y0))) [])⟩
noncomputable def law11_awake_F : Nat → Fam := fun _ => noFam
noncomputable def E_law11_awake (N : Nat) : Ent := .of [law11_awake_W (law11_awake N)]
noncomputable def E_law11_CheckPushes_TG (c0 : check_Run_0ce7_Ty) (c1 : check_Run_87f1_Ty) (c2 : law11_awake_Ty) : Table := fun g => bif Nat.beq g 18 then .of [check_Run_0ce7_W c0, check_Run_87f1_W c1] else bif Nat.beq g 16 then .of [law11_awake_W c2] else noEnt
noncomputable def E_law11_CheckPushes_T (N : Nat) : Table := E_law11_CheckPushes_TG (@check_Run_0ce7 N) (@check_Run_87f1 N) (@law11_awake N)
noncomputable def law11_CheckPushes_W (f : law11_CheckPushes_Ty) : Var := ⟨[.v (.isl .bool)], [], fun t u K => f t.1 (fun y0 => K (.sv (.v (.bool y0))) [])⟩
noncomputable def law11_CheckPushes_v0_0 (w : law11_CheckPushes_l0_Ty) : LVar := ⟨[.sv (.v (.isl .bool)), .sv (.v (.ptr 0 0)), .sv (.v (.int .i64)), .sv (.v (.int .i64)), .sv (.v (.int .i64))], [.cells [.c (.wl 1 2), .c (.wl 2 1)], .rows (.pair (.int .i64) (.int .i64)), .rows .str], fun n t u K => w (fun y0 y1 y2 y3 y4 => K (.exit 0) [(.sv (.v (.isl .bool y0))), (.sv (.v (.ptr 0 0))), (.sv (.v (.int .i64 y1))), (.sv (.v (.int .i64 y2)))] [(.cells [(.c (.wl 1 2)), (.c (.wl 2 1))]), (.cells [(.row (.pair (.int .i64) (.int .i64)) (List.length y3) y3)]), (.cells [(.row .str (List.length y4) y4)])]) n t.1 t.2.2.1 t.2.2.2.1 t.2.2.2.2.1 u.2.1 u.2.2.1⟩
noncomputable def law11_CheckPushes_F0 (w : law11_CheckPushes_l0_Ty) : Fam := ⟨⟨false, [0, 3, 4, 5, 6], [0, 3, 4, 5], ⟨[], [], []⟩, ⟨[], [], []⟩⟩, [law11_CheckPushes_v0_0 w]⟩
noncomputable def law11_CheckPushes_F (w0 : law11_CheckPushes_l0_Ty) : Nat → Fam := fun i => bif Nat.beq i 11 then law11_CheckPushes_F0 w0 else noFam
noncomputable def E_law11_CheckPushes (N : Nat) : Ent := .of [law11_CheckPushes_W (law11_CheckPushes N)]
end Go.Proofs.Ytppmkhgpljkljaa
