/-
  Their entries (printed by a program of this work).
-/
import Derived.Test.YtppmkhgpljkljaaProg
import Derived.Test.YtppmkhgpljkljaaD
set_option linter.unusedVariables false
set_option maxRecDepth 100000
namespace Go.Proofs.Ytppmkhgpljkljaa
open Go.Gx
noncomputable def E_stringslite_Index_TG (c0 : stringslite_IndexByte_Ty) : Table := fun g => bif Nat.beq g 53 then .of [stringslite_IndexByte_W c0] else noEnt
noncomputable def E_stringslite_Index_T (N : Nat) : Table := E_stringslite_Index_TG @stringslite_IndexByte
noncomputable def stringslite_Index_W (f : stringslite_Index_Ty) : Var := ⟨[.v .str, .v .str], [], fun t u K => f t.1 t.2.1 (fun y0 => K (.sv (.v (.int .i64 y0))) [])⟩
noncomputable def stringslite_Index_F : Nat → Fam := fun _ => noFam
noncomputable def E_stringslite_Index (N : Nat) : Ent := .of [stringslite_Index_W (stringslite_Index N)]
noncomputable def E_stringslite_Cut_TG (c0 : stringslite_Index_Ty) : Table := fun g => bif Nat.beq g 52 then .of [stringslite_Index_W c0] else noEnt
noncomputable def E_stringslite_Cut_T (N : Nat) : Table := E_stringslite_Cut_TG (@stringslite_Index N)
noncomputable def stringslite_Cut_W (f : stringslite_Cut_Ty) : Var := ⟨[.v .str, .v .str], [], fun t u K => f t.1 t.2.1 (fun y0 y1 y2 => K (.tup [(.v (.str y0)), (.v (.str y1)), (.v (.bool y2))]) [])⟩
noncomputable def stringslite_Cut_F : Nat → Fam := fun _ => noFam
noncomputable def E_stringslite_Cut (N : Nat) : Ent := .of [stringslite_Cut_W (stringslite_Cut N)]
noncomputable def E_strings_Cut_TG (c0 : stringslite_Cut_Ty) : Table := fun g => bif Nat.beq g 47 then .of [stringslite_Cut_W c0] else noEnt
noncomputable def E_strings_Cut_T (N : Nat) : Table := E_strings_Cut_TG (@stringslite_Cut N)
noncomputable def strings_Cut_W (f : strings_Cut_Ty) : Var := ⟨[.v .str, .v .str], [], fun t u K => f t.1 t.2.1 (fun y0 y1 y2 => K (.tup [(.v (.str y0)), (.v (.str y1)), (.v (.bool y2))]) [])⟩
noncomputable def strings_Cut_F : Nat → Fam := fun _ => noFam
noncomputable def E_strings_Cut (N : Nat) : Ent := .of [strings_Cut_W (strings_Cut N)]
noncomputable def E_check_letter_TG : Table := fun _ => noEnt
noncomputable def E_check_letter_T (N : Nat) : Table := E_check_letter_TG
noncomputable def check_letter_W (f : check_letter_Ty) : Var := ⟨[.v (.int .u8)], [], fun t u K => f t.1 (fun y0 => K (.sv (.v (.bool y0))) [])⟩
noncomputable def check_letter_F : Nat → Fam := fun _ => noFam
noncomputable def E_check_letter (N : Nat) : Ent := .of [check_letter_W (check_letter N)]
noncomputable def E_check_part_TG (c0 : check_letter_Ty) : Table := fun g => bif Nat.beq g 48 then .of [check_letter_W c0] else noEnt
noncomputable def E_check_part_T (N : Nat) : Table := E_check_part_TG (@check_letter N)
noncomputable def check_part_W (f : check_part_Ty) : Var := ⟨[.v .str], [], fun t u K => f t.1 (fun y0 => K (.sv (.v (.bool y0))) [])⟩
noncomputable def check_part_v0_0 (w : check_part_l0_Ty) : LVar := ⟨[.sv (.v .str), .sv (.v (.int .i64)), .sv (.v (.int .i64))], [], fun n t u K => w (fun y0 y1 => K .ret [(.sv (.v (.str y0))), (.sv (.v (.bool y1)))] []) (fun y0 => K (.exit 0) [(.sv (.v (.str y0))), .undef] []) n t.1 t.2.1 t.2.2.1⟩
noncomputable def check_part_F0 (w : check_part_l0_Ty) : Fam := ⟨⟨[0, 5, 6], [0, 2], ⟨[], [], []⟩, ⟨[], [], []⟩⟩, [check_part_v0_0 w]⟩
noncomputable def check_part_F (w0 : check_part_l0_Ty) : Nat → Fam
  | 0 => check_part_F0 w0
  | _ => noFam
noncomputable def E_check_part (N : Nat) : Ent := .of [check_part_W (check_part N)]
noncomputable def E_check_Name_TG (c0 : check_part_Ty) (c1 : strings_Cut_Ty) : Table := fun g => bif Nat.beq g 40 then .of [check_part_W c0] else bif Nat.beq g 39 then .of [strings_Cut_W c1] else noEnt
noncomputable def E_check_Name_T (N : Nat) : Table := E_check_Name_TG (@check_part N) (@strings_Cut N)
noncomputable def check_Name_W (f : check_Name_Ty) : Var := ⟨[.v .str], [], fun t u K => f t.1 (fun y0 => K (.sv (.v (.bool y0))) [])⟩
noncomputable def check_Name_F : Nat → Fam := fun _ => noFam
noncomputable def E_check_Name (N : Nat) : Ent := .of [check_Name_W (check_Name N)]
noncomputable def E_inst_table_TG : Table := fun _ => noEnt
noncomputable def E_inst_table_T (N : Nat) : Table := E_inst_table_TG
noncomputable def inst_table_W (f : inst_table_Ty) : Var := ⟨[.v (.int .i64)], [], fun t u K => f t.1 (fun y0 y1 y2 y3 => K (.tup [(.agg [(.c (.int .i64 y0)), (.c (.int .i64 y1)), (.c (.int .i64 y2))]), (.v (.bool y3))]) [])⟩
noncomputable def inst_table_F : Nat → Fam := fun _ => noFam
noncomputable def E_inst_table (N : Nat) : Ent := .of [inst_table_W (inst_table N)]
noncomputable def E_inst_May_TG (c0 : inst_table_Ty) : Table := fun g => bif Nat.beq g 49 then .of [inst_table_W c0] else noEnt
noncomputable def E_inst_May_T (N : Nat) : Table := E_inst_May_TG (@inst_table N)
noncomputable def inst_May_W (f : inst_May_Ty) : Var := ⟨[.agg [.c (.int .i64), .c (.int .i64)]], [], fun t u K => f t.1.1 t.1.2.1 (fun y0 => K (.sv (.v (.bool y0))) [])⟩
noncomputable def inst_May_F : Nat → Fam := fun _ => noFam
noncomputable def E_inst_May (N : Nat) : Ent := .of [inst_May_W (inst_May N)]
noncomputable def E_check_names_TG : Table := fun _ => noEnt
noncomputable def E_check_names_T (N : Nat) : Table := E_check_names_TG
noncomputable def check_names_W (f : check_names_Ty) : Var := ⟨[.agg [.c (.int .i64), .c (.int .i64)], .v (.int .i64)], [], fun t u K => f t.1.1 t.1.2.1 t.2.1 (fun y0 => K (.sv (.v (.bool y0))) [])⟩
noncomputable def check_names_F : Nat → Fam := fun _ => noFam
noncomputable def E_check_names (N : Nat) : Ent := .of [check_names_W (check_names N)]
noncomputable def E_inst_Jumps_TG : Table := fun _ => noEnt
noncomputable def E_inst_Jumps_T (N : Nat) : Table := E_inst_Jumps_TG
noncomputable def inst_Jumps_W (f : inst_Jumps_Ty) : Var := ⟨[.v (.int .i64)], [], fun t u K => f t.1 (fun y0 => K (.sv (.v (.bool y0))) [])⟩
noncomputable def inst_Jumps_F : Nat → Fam := fun _ => noFam
noncomputable def E_inst_Jumps (N : Nat) : Ent := .of [inst_Jumps_W (inst_Jumps N)]
noncomputable def E_inst_Ends_TG : Table := fun _ => noEnt
noncomputable def E_inst_Ends_T (N : Nat) : Table := E_inst_Ends_TG
noncomputable def inst_Ends_W (f : inst_Ends_Ty) : Var := ⟨[.v (.int .i64)], [], fun t u K => f t.1 (fun y0 => K (.sv (.v (.bool y0))) [])⟩
noncomputable def inst_Ends_F : Nat → Fam := fun _ => noFam
noncomputable def E_inst_Ends (N : Nat) : Ent := .of [inst_Ends_W (inst_Ends N)]
noncomputable def E_check_one_TG (c0 : inst_Ends_Ty) (c1 : inst_Jumps_Ty) (c2 : check_names_Ty) (c3 : inst_May_Ty) : Table := fun g => bif Nat.beq g 44 then .of [inst_Ends_W c0] else bif Nat.beq g 43 then .of [inst_Jumps_W c1] else bif Nat.beq g 42 then .of [check_names_W c2] else bif Nat.beq g 41 then .of [inst_May_W c3] else noEnt
noncomputable def E_check_one_T (N : Nat) : Table := E_check_one_TG (@inst_Ends N) (@inst_Jumps N) (@check_names N) (@inst_May N)
noncomputable def check_one_ebbf_W (f : check_one_ebbf_Ty) : Var := ⟨[.agg [.c (.wl 0 2), .c (.wl 1 1)], .v (.int .i64)], [.rows (.pair (.int .i64) (.int .i64)), .rows .str], fun t u K => f t.2.1 u.1 u.2.1 (fun y0 y1 y2 => K (.sv (.v (.int .i64 y0))) [(.cells [(.row (.pair (.int .i64) (.int .i64)) (List.length y1) y1)]), (.cells [(.row .str (List.length y2) y2)])])⟩
noncomputable def check_one_ebbf_F : Nat → Fam := fun _ => noFam
noncomputable def check_one_W (f : check_one_Ty) : Var := ⟨[.agg [.c (.isl (.pair (.int .i64) (.int .i64))), .c (.isl .str)], .v (.int .i64)], [], fun t u K => f t.1.1 t.1.2.1 t.2.1 (fun y0 => K (.sv (.v (.int .i64 y0))) [])⟩
noncomputable def check_one_F : Nat → Fam := fun _ => noFam
noncomputable def E_check_one (N : Nat) : Ent := .of [check_one_ebbf_W (check_one_ebbf N), check_one_W (check_one N)]
noncomputable def E_inst_Takes_TG (c0 : inst_table_Ty) : Table := fun g => bif Nat.beq g 49 then .of [inst_table_W c0] else noEnt
noncomputable def E_inst_Takes_T (N : Nat) : Table := E_inst_Takes_TG (@inst_table N)
noncomputable def inst_Takes_W (f : inst_Takes_Ty) : Var := ⟨[.v (.int .i64)], [], fun t u K => f t.1 (fun y0 => K (.sv (.v (.int .i64 y0))) [])⟩
noncomputable def inst_Takes_F : Nat → Fam := fun _ => noFam
noncomputable def E_inst_Takes (N : Nat) : Ent := .of [inst_Takes_W (inst_Takes N)]
noncomputable def E_inst_Gives_TG (c0 : inst_table_Ty) : Table := fun g => bif Nat.beq g 49 then .of [inst_table_W c0] else noEnt
noncomputable def E_inst_Gives_T (N : Nat) : Table := E_inst_Gives_TG (@inst_table N)
noncomputable def inst_Gives_W (f : inst_Gives_Ty) : Var := ⟨[.v (.int .i64)], [], fun t u K => f t.1 (fun y0 => K (.sv (.v (.int .i64 y0))) [])⟩
noncomputable def inst_Gives_F : Nat → Fam := fun _ => noFam
noncomputable def E_inst_Gives (N : Nat) : Ent := .of [inst_Gives_W (inst_Gives N)]
noncomputable def E_check_behind_TG (c0 : inst_Gives_Ty) (c1 : inst_Takes_Ty) : Table := fun g => bif Nat.beq g 51 then .of [inst_Gives_W c0] else bif Nat.beq g 50 then .of [inst_Takes_W c1] else noEnt
noncomputable def E_check_behind_T (N : Nat) : Table := E_check_behind_TG (@inst_Gives N) (@inst_Takes N)
noncomputable def check_behind_W (f : check_behind_Ty) : Var := ⟨[.agg [.c (.int .i64), .c (.int .i64)], .v (.int .i64)], [], fun t u K => f t.1.1 t.1.2.1 t.2.1 (fun y0 y1 => K (.tup [(.v (.int .i64 y0)), (.v (.bool y1))]) [])⟩
noncomputable def check_behind_F : Nat → Fam := fun _ => noFam
noncomputable def E_check_behind (N : Nat) : Ent := .of [check_behind_W (check_behind N)]
noncomputable def E_check_next_TG (c0 : inst_Jumps_Ty) (c1 : inst_Ends_Ty) : Table := fun g => bif Nat.beq g 43 then .of [inst_Jumps_W c0] else bif Nat.beq g 44 then .of [inst_Ends_W c1] else noEnt
noncomputable def E_check_next_T (N : Nat) : Table := E_check_next_TG (@inst_Jumps N) (@inst_Ends N)
noncomputable def check_next_ebbf_W (f : check_next_ebbf_Ty) : Var := ⟨[.agg [.c (.wl 0 2), .c (.wl 1 1)], .v (.int .i64)], [.rows (.pair (.int .i64) (.int .i64)), .rows .str], fun t u K => f t.2.1 u.1 u.2.1 (fun y0 y1 y2 => K (.sv (.v (.wl 2 1))) [(.cells [(.row (.pair (.int .i64) (.int .i64)) (List.length y0) y0)]), (.cells [(.row .str (List.length y1) y1)]), (.cells [(.row (.int .i64) (List.length y2) y2)])])⟩
noncomputable def check_next_ebbf_F : Nat → Fam := fun _ => noFam
noncomputable def check_next_W (f : check_next_Ty) : Var := ⟨[.agg [.c (.isl (.pair (.int .i64) (.int .i64))), .c (.isl .str)], .v (.int .i64)], [], fun t u K => f t.1.1 t.1.2.1 t.2.1 (fun y0 => K (.sv (.v (.wl 0 1))) [(.cells [(.row (.int .i64) (List.length y0) y0)])])⟩
noncomputable def check_next_F : Nat → Fam := fun _ => noFam
noncomputable def E_check_next (N : Nat) : Ent := .of [check_next_ebbf_W (check_next_ebbf N), check_next_W (check_next N)]
noncomputable def E_check_reach_TG (c0 : check_next_ebbf_Ty) (c1 : check_next_Ty) (c2 : check_behind_Ty) : Table := fun g => bif Nat.beq g 46 then .of [check_next_ebbf_W c0, check_next_W c1] else bif Nat.beq g 45 then .of [check_behind_W c2] else noEnt
noncomputable def E_check_reach_T (N : Nat) : Table := E_check_reach_TG (@check_next_ebbf N) (@check_next N) (@check_behind N)
noncomputable def check_reach_87f1_W (f : check_reach_87f1_Ty) : Var := ⟨[.agg [.c (.wl 0 2), .c (.wl 1 1)]], [.rows (.pair (.int .i64) (.int .i64)), .rows .str], fun t u K => f u.1 u.2.1 (fun y0 y1 y2 => K (.sv (.v (.ptr 2 0))) [(.cells [(.row (.pair (.int .i64) (.int .i64)) (List.length y0) y0)]), (.cells [(.row .str (List.length y1) y1)]), (.cells [(.row .bool 1632 y2)])])⟩
noncomputable def check_reach_87f1_v0_0 (w : check_reach_87f1_l0_Ty) : LVar := ⟨[.sv (.v (.ptr 2 0)), .sv (.v (.ptr 3 0)), .sv (.v .bool)], [.rows (.pair (.int .i64) (.int .i64)), .rows .str, .cells [.c (.wl 0 2), .c (.wl 1 1)], .cells [.row .bool 1632]], fun n t u K => w (fun y0 y1 y2 => K (.exit 0) [(.sv (.v (.ptr 2 0)))] [(.cells [(.row (.pair (.int .i64) (.int .i64)) (List.length y0) y0)]), (.cells [(.row .str (List.length y1) y1)]), (.cells [(.row .bool 1632 y2)])]) n t.2.2.1 u.1 u.2.1 u.2.2.2.1.1⟩
noncomputable def check_reach_87f1_F0 (w : check_reach_87f1_l0_Ty) : Fam := ⟨⟨[1, 3, 4], [3], ⟨[], [], []⟩, ⟨[], [], []⟩⟩, [check_reach_87f1_v0_0 w]⟩
noncomputable def check_reach_87f1_v1_0 (w : check_reach_87f1_l1_Ty) : LVar := ⟨[.sv (.v (.ptr 2 0)), .sv (.v (.ptr 3 0)), .sv (.v .bool), .sv (.v (.wl 0 2)), .sv (.v (.int .i64)), .sv (.v (.int .i64))], [.rows (.pair (.int .i64) (.int .i64)), .rows .str, .cells [.c (.wl 0 2), .c (.wl 1 1)], .cells [.row .bool 1632]], fun n t u K => w (fun y0 y1 y2 y3 => K (.exit 2) [(.sv (.v (.ptr 2 0))), (.sv (.v (.ptr 3 0))), (.sv (.v (.bool y0)))] [(.cells [(.row (.pair (.int .i64) (.int .i64)) (List.length y1) y1)]), (.cells [(.row .str (List.length y2) y2)]), (.cells [(.c (.wl 0 2)), (.c (.wl 1 1))]), (.cells [(.row .bool 1632 y3)])]) n t.2.2.1 t.2.2.2.2.1 t.2.2.2.2.2.1 u.1 u.2.1 u.2.2.2.1.1⟩
noncomputable def check_reach_87f1_F1 (w : check_reach_87f1_l1_Ty) : Fam := ⟨⟨[1, 3, 4, 21, 22, 23], [1, 3, 4], ⟨[], [], []⟩, ⟨[], [], []⟩⟩, [check_reach_87f1_v1_0 w]⟩
noncomputable def check_reach_87f1_v2_0 (w : check_reach_87f1_l2_Ty) : LVar := ⟨[.sv (.v (.ptr 2 0)), .sv (.v (.ptr 3 0)), .sv (.v .bool), .sv (.v (.int .i64)), .sv (.v (.ptr 4 0)), .sv (.v (.wl 0 2)), .sv (.v (.int .i64)), .sv (.v (.int .i64)), .sv (.agg [.row .bool 17]), .sv (.v (.int .i64))], [.rows (.pair (.int .i64) (.int .i64)), .rows .str, .cells [.c (.wl 0 2), .c (.wl 1 1)], .cells [.row .bool 1632], .cells [.c (.int .i64), .c (.int .i64)]], fun n t u K => w (fun y0 y1 y2 y3 y4 y5 => K (.exit 4) [(.sv (.v (.ptr 2 0))), (.sv (.v (.ptr 3 0))), (.sv (.v (.bool y0))), (.sv (.v (.wl 0 2))), (.sv (.v (.int .i64 y1))), (.sv (.v (.int .i64 y2)))] [(.cells [(.row (.pair (.int .i64) (.int .i64)) (List.length y3) y3)]), (.cells [(.row .str (List.length y4) y4)]), (.cells [(.c (.wl 0 2)), (.c (.wl 1 1))]), (.cells [(.row .bool 1632 y5)])]) n t.2.2.1 t.2.2.2.1 t.2.2.2.2.2.2.1 t.2.2.2.2.2.2.2.1 t.2.2.2.2.2.2.2.2.1.1 t.2.2.2.2.2.2.2.2.2.1 u.1 u.2.1 u.2.2.2.1.1 u.2.2.2.2.1.1 u.2.2.2.2.1.2.1⟩
noncomputable def check_reach_87f1_F2 (w : check_reach_87f1_l2_Ty) : Fam := ⟨⟨[1, 3, 4, 5, 6, 21, 22, 23, 32, 33], [1, 3, 4, 21, 22, 23], ⟨[], [], []⟩, ⟨[], [], []⟩⟩, [check_reach_87f1_v2_0 w]⟩
noncomputable def check_reach_87f1_v3_0 (w : check_reach_87f1_l3_Ty) : LVar := ⟨[.sv (.v (.ptr 2 0)), .sv (.v (.ptr 3 0)), .sv (.v .bool), .sv (.v (.int .i64)), .sv (.v (.ptr 4 0)), .sv (.v (.int .i64)), .sv (.v (.wl 0 2)), .sv (.v (.int .i64)), .sv (.v (.int .i64)), .sv (.agg [.row .bool 17]), .sv (.v (.int .i64)), .sv (.v (.wl 5 1)), .sv (.v (.int .i64)), .sv (.v (.int .i64))], [.rows (.pair (.int .i64) (.int .i64)), .rows .str, .cells [.c (.wl 0 2), .c (.wl 1 1)], .cells [.row .bool 1632], .cells [.c (.int .i64), .c (.int .i64)], .rows (.int .i64)], fun n t u K => w (fun y0 y1 y2 y3 y4 y5 y6 y7 y8 y9 y10 => K (.exit 6) [(.sv (.v (.ptr 2 0))), (.sv (.v (.ptr 3 0))), (.sv (.v (.bool y0))), (.sv (.v (.int .i64 y1))), (.sv (.v (.ptr 4 0))), (.sv (.v (.wl 0 2))), (.sv (.v (.int .i64 y2))), (.sv (.v (.int .i64 y3))), (.sv (.agg [(.row .bool 17 y4)])), (.sv (.v (.int .i64 y5)))] [(.cells [(.row (.pair (.int .i64) (.int .i64)) (List.length y6) y6)]), (.cells [(.row .str (List.length y7) y7)]), (.cells [(.c (.wl 0 2)), (.c (.wl 1 1))]), (.cells [(.row .bool 1632 y8)]), (.cells [(.c (.int .i64 y9)), (.c (.int .i64 y10))])]) n t.2.2.1 t.2.2.2.1 t.2.2.2.2.2.1 t.2.2.2.2.2.2.2.1 t.2.2.2.2.2.2.2.2.1 t.2.2.2.2.2.2.2.2.2.1.1 t.2.2.2.2.2.2.2.2.2.2.1 t.2.2.2.2.2.2.2.2.2.2.2.2.1 t.2.2.2.2.2.2.2.2.2.2.2.2.2.1 u.1 u.2.1 u.2.2.2.1.1 u.2.2.2.2.1.1 u.2.2.2.2.1.2.1 u.2.2.2.2.2.1⟩
noncomputable def check_reach_87f1_F3 (w : check_reach_87f1_l3_Ty) : Fam := ⟨⟨[1, 3, 4, 5, 6, 9, 21, 22, 23, 32, 33, 51, 52, 53], [1, 3, 4, 5, 6, 21, 22, 23, 32, 33], ⟨[], [], []⟩, ⟨[], [], []⟩⟩, [check_reach_87f1_v3_0 w]⟩
noncomputable def check_reach_87f1_F (w0 : check_reach_87f1_l0_Ty) (w1 : check_reach_87f1_l1_Ty) (w2 : check_reach_87f1_l2_Ty) (w3 : check_reach_87f1_l3_Ty) : Nat → Fam
  | 0 => check_reach_87f1_F0 w0
  | 1 => check_reach_87f1_F1 w1
  | 2 => check_reach_87f1_F2 w2
  | 3 => check_reach_87f1_F3 w3
  | _ => noFam
noncomputable def check_reach_W (f : check_reach_Ty) : Var := ⟨[.agg [.c (.isl (.pair (.int .i64) (.int .i64))), .c (.isl .str)]], [], fun t u K => f t.1.1 t.1.2.1 (fun y0 => K (.sv (.v (.ptr 0 0))) [(.cells [(.row .bool 1632 y0)])])⟩
noncomputable def check_reach_v0_0 (w : check_reach_l0_Ty) : LVar := ⟨[.sv (.v (.ptr 0 0)), .sv (.v (.ptr 1 0)), .sv (.v .bool)], [.cells [.c (.isl (.pair (.int .i64) (.int .i64))), .c (.isl .str)], .cells [.row .bool 1632]], fun n t u K => w (fun y0 => K (.exit 0) [(.sv (.v (.ptr 0 0)))] [(.cells [(.row .bool 1632 y0)])]) n t.2.2.1 u.1.1 u.1.2.1 u.2.1.1⟩
noncomputable def check_reach_F0 (w : check_reach_l0_Ty) : Fam := ⟨⟨[1, 3, 4], [3], ⟨[], [], []⟩, ⟨[], [], []⟩⟩, [check_reach_v0_0 w]⟩
noncomputable def check_reach_v1_0 (w : check_reach_l1_Ty) : LVar := ⟨[.sv (.v (.ptr 0 0)), .sv (.v (.ptr 1 0)), .sv (.v .bool), .sv (.v (.isl (.pair (.int .i64) (.int .i64)))), .sv (.v (.int .i64)), .sv (.v (.int .i64))], [.cells [.c (.isl (.pair (.int .i64) (.int .i64))), .c (.isl .str)], .cells [.row .bool 1632]], fun n t u K => w (fun y0 y1 y2 y3 => K (.exit 2) [(.sv (.v (.ptr 0 0))), (.sv (.v (.ptr 1 0))), (.sv (.v (.bool y0)))] [(.cells [(.c (.isl (.pair (.int .i64) (.int .i64)) y1)), (.c (.isl .str y2))]), (.cells [(.row .bool 1632 y3)])]) n t.2.2.1 t.2.2.2.1 t.2.2.2.2.1 t.2.2.2.2.2.1 u.1.1 u.1.2.1 u.2.1.1⟩
noncomputable def check_reach_F1 (w : check_reach_l1_Ty) : Fam := ⟨⟨[1, 3, 4, 21, 22, 23], [1, 3, 4], ⟨[], [], []⟩, ⟨[], [], []⟩⟩, [check_reach_v1_0 w]⟩
noncomputable def check_reach_v2_0 (w : check_reach_l2_Ty) : LVar := ⟨[.sv (.v (.ptr 0 0)), .sv (.v (.ptr 1 0)), .sv (.v .bool), .sv (.v (.int .i64)), .sv (.v (.ptr 2 0)), .sv (.v (.isl (.pair (.int .i64) (.int .i64)))), .sv (.v (.int .i64)), .sv (.v (.int .i64)), .sv (.agg [.row .bool 17]), .sv (.v (.int .i64))], [.cells [.c (.isl (.pair (.int .i64) (.int .i64))), .c (.isl .str)], .cells [.row .bool 1632], .cells [.c (.int .i64), .c (.int .i64)]], fun n t u K => w (fun y0 y1 y2 y3 y4 y5 y6 => K (.exit 4) [(.sv (.v (.ptr 0 0))), (.sv (.v (.ptr 1 0))), (.sv (.v (.bool y0))), (.sv (.v (.isl (.pair (.int .i64) (.int .i64)) y1))), (.sv (.v (.int .i64 y2))), (.sv (.v (.int .i64 y3)))] [(.cells [(.c (.isl (.pair (.int .i64) (.int .i64)) y4)), (.c (.isl .str y5))]), (.cells [(.row .bool 1632 y6)])]) n t.2.2.1 t.2.2.2.1 t.2.2.2.2.2.1 t.2.2.2.2.2.2.1 t.2.2.2.2.2.2.2.1 t.2.2.2.2.2.2.2.2.1.1 t.2.2.2.2.2.2.2.2.2.1 u.1.1 u.1.2.1 u.2.1.1 u.2.2.1.1 u.2.2.1.2.1⟩
noncomputable def check_reach_F2 (w : check_reach_l2_Ty) : Fam := ⟨⟨[1, 3, 4, 5, 6, 21, 22, 23, 32, 33], [1, 3, 4, 21, 22, 23], ⟨[], [], []⟩, ⟨[], [], []⟩⟩, [check_reach_v2_0 w]⟩
noncomputable def check_reach_v3_0 (w : check_reach_l3_Ty) : LVar := ⟨[.sv (.v (.ptr 0 0)), .sv (.v (.ptr 1 0)), .sv (.v .bool), .sv (.v (.int .i64)), .sv (.v (.ptr 2 0)), .sv (.v (.int .i64)), .sv (.v (.isl (.pair (.int .i64) (.int .i64)))), .sv (.v (.int .i64)), .sv (.v (.int .i64)), .sv (.agg [.row .bool 17]), .sv (.v (.int .i64)), .sv (.v (.wl 3 1)), .sv (.v (.int .i64)), .sv (.v (.int .i64))], [.cells [.c (.isl (.pair (.int .i64) (.int .i64))), .c (.isl .str)], .cells [.row .bool 1632], .cells [.c (.int .i64), .c (.int .i64)], .rows (.int .i64)], fun n t u K => w (fun y0 y1 y2 y3 y4 y5 y6 y7 y8 y9 y10 y11 => K (.exit 6) [(.sv (.v (.ptr 0 0))), (.sv (.v (.ptr 1 0))), (.sv (.v (.bool y0))), (.sv (.v (.int .i64 y1))), (.sv (.v (.ptr 2 0))), (.sv (.v (.isl (.pair (.int .i64) (.int .i64)) y2))), (.sv (.v (.int .i64 y3))), (.sv (.v (.int .i64 y4))), (.sv (.agg [(.row .bool 17 y5)])), (.sv (.v (.int .i64 y6)))] [(.cells [(.c (.isl (.pair (.int .i64) (.int .i64)) y7)), (.c (.isl .str y8))]), (.cells [(.row .bool 1632 y9)]), (.cells [(.c (.int .i64 y10)), (.c (.int .i64 y11))])]) n t.2.2.1 t.2.2.2.1 t.2.2.2.2.2.1 t.2.2.2.2.2.2.1 t.2.2.2.2.2.2.2.1 t.2.2.2.2.2.2.2.2.1 t.2.2.2.2.2.2.2.2.2.1.1 t.2.2.2.2.2.2.2.2.2.2.1 t.2.2.2.2.2.2.2.2.2.2.2.2.1 t.2.2.2.2.2.2.2.2.2.2.2.2.2.1 u.1.1 u.1.2.1 u.2.1.1 u.2.2.1.1 u.2.2.1.2.1 u.2.2.2.1⟩
noncomputable def check_reach_F3 (w : check_reach_l3_Ty) : Fam := ⟨⟨[1, 3, 4, 5, 6, 9, 21, 22, 23, 32, 33, 51, 52, 53], [1, 3, 4, 5, 6, 21, 22, 23, 32, 33], ⟨[], [], []⟩, ⟨[], [], []⟩⟩, [check_reach_v3_0 w]⟩
noncomputable def check_reach_F (w0 : check_reach_l0_Ty) (w1 : check_reach_l1_Ty) (w2 : check_reach_l2_Ty) (w3 : check_reach_l3_Ty) : Nat → Fam
  | 0 => check_reach_F0 w0
  | 1 => check_reach_F1 w1
  | 2 => check_reach_F2 w2
  | 3 => check_reach_F3 w3
  | _ => noFam
noncomputable def E_check_reach (N : Nat) : Ent := .of [check_reach_87f1_W (check_reach_87f1 N), check_reach_W (check_reach N)]
noncomputable def E_check_height_TG (c0 : check_behind_Ty) : Table := fun g => bif Nat.beq g 45 then .of [check_behind_W c0] else noEnt
noncomputable def E_check_height_T (N : Nat) : Table := E_check_height_TG (@check_behind N)
noncomputable def check_height_866d_W (f : check_height_866d_Ty) : Var := ⟨[.agg [.c (.wl 0 2), .c (.wl 1 1)], .v (.ptr 2 0), .v (.int .i64)], [.rows (.pair (.int .i64) (.int .i64)), .rows .str, .cells [.row .bool 1632]], fun t u K => f t.2.2.1 u.1 u.2.1 u.2.2.1.1 (fun y0 y1 y2 y3 y4 => K (.tup [(.v (.int .i64 y0)), (.v (.bool y1))]) [(.cells [(.row (.pair (.int .i64) (.int .i64)) (List.length y2) y2)]), (.cells [(.row .str (List.length y3) y3)]), (.cells [(.row .bool 1632 y4)])])⟩
noncomputable def check_height_866d_v0_0 (w : check_height_866d_l0_Ty) : LVar := ⟨[.sv (.v (.int .i64)), .sv (.v (.ptr 3 0)), .sv (.v (.int .i64)), .sv (.v .bool), .sv (.agg [.row .bool 17]), .sv (.v (.int .i64))], [.rows (.pair (.int .i64) (.int .i64)), .rows .str, .cells [.row .bool 1632], .cells [.c (.wl 0 2), .c (.wl 1 1)]], fun n t u K => w (fun y0 y1 y2 y3 y4 => K (.exit 0) [(.sv (.v (.int .i64 y0))), (.sv (.v (.bool y1)))] [(.cells [(.row (.pair (.int .i64) (.int .i64)) (List.length y2) y2)]), (.cells [(.row .str (List.length y3) y3)]), (.cells [(.row .bool 1632 y4)])]) n t.1 t.2.2.1 t.2.2.2.1 t.2.2.2.2.1.1 t.2.2.2.2.2.1 u.1 u.2.1 u.2.2.1.1⟩
noncomputable def check_height_866d_F0 (w : check_height_866d_l0_Ty) : Fam := ⟨⟨[2, 3, 8, 9, 18, 19], [8, 9], ⟨[], [], []⟩, ⟨[], [], []⟩⟩, [check_height_866d_v0_0 w]⟩
noncomputable def check_height_866d_F (w0 : check_height_866d_l0_Ty) : Nat → Fam
  | 0 => check_height_866d_F0 w0
  | _ => noFam
noncomputable def check_height_fe79_W (f : check_height_fe79_Ty) : Var := ⟨[.agg [.c (.isl (.pair (.int .i64) (.int .i64))), .c (.isl .str)], .v (.ptr 0 0), .v (.int .i64)], [.cells [.row .bool 1632]], fun t u K => f t.1.1 t.1.2.1 t.2.2.1 u.1.1 (fun y0 y1 y2 => K (.tup [(.v (.int .i64 y0)), (.v (.bool y1))]) [(.cells [(.row .bool 1632 y2)])])⟩
noncomputable def check_height_fe79_v0_0 (w : check_height_fe79_l0_Ty) : LVar := ⟨[.sv (.v (.int .i64)), .sv (.v (.ptr 1 0)), .sv (.v (.int .i64)), .sv (.v .bool), .sv (.agg [.row .bool 17]), .sv (.v (.int .i64))], [.cells [.row .bool 1632], .cells [.c (.isl (.pair (.int .i64) (.int .i64))), .c (.isl .str)]], fun n t u K => w (fun y0 y1 y2 => K (.exit 0) [(.sv (.v (.int .i64 y0))), (.sv (.v (.bool y1)))] [(.cells [(.row .bool 1632 y2)])]) n t.1 t.2.2.1 t.2.2.2.1 t.2.2.2.2.1.1 t.2.2.2.2.2.1 u.1.1 u.2.1.1 u.2.1.2.1⟩
noncomputable def check_height_fe79_F0 (w : check_height_fe79_l0_Ty) : Fam := ⟨⟨[2, 3, 8, 9, 18, 19], [8, 9], ⟨[], [], []⟩, ⟨[], [], []⟩⟩, [check_height_fe79_v0_0 w]⟩
noncomputable def check_height_fe79_F (w0 : check_height_fe79_l0_Ty) : Nat → Fam
  | 0 => check_height_fe79_F0 w0
  | _ => noFam
noncomputable def E_check_height (N : Nat) : Ent := .of [check_height_866d_W (check_height_866d N), check_height_fe79_W (check_height_fe79 N)]
noncomputable def E_check_Run_TG (c0 : check_height_866d_Ty) (c1 : check_height_fe79_Ty) (c2 : check_reach_87f1_Ty) (c3 : check_reach_Ty) (c4 : check_one_ebbf_Ty) (c5 : check_one_Ty) (c6 : check_Name_Ty) : Table := fun g => bif Nat.beq g 33 then .of [check_height_866d_W c0, check_height_fe79_W c1] else bif Nat.beq g 32 then .of [check_reach_87f1_W c2, check_reach_W c3] else bif Nat.beq g 31 then .of [check_one_ebbf_W c4, check_one_W c5] else bif Nat.beq g 30 then .of [check_Name_W c6] else noEnt
noncomputable def E_check_Run_T (N : Nat) : Table := E_check_Run_TG (@check_height_866d N) (@check_height_fe79 N) (@check_reach_87f1 N) (@check_reach N) (@check_one_ebbf N) (@check_one N) (@check_Name N)
noncomputable def check_Run_0ce7_W (f : check_Run_0ce7_Ty) : Var := ⟨[.agg [.c (.wl 0 2), .c .nils]], [.rows (.pair (.int .i64) (.int .i64))], fun t u K => f u.1 (fun y0 y1 y2 => K (.tup [(.v (.int .i64 y0)), (.v (.int .i64 y1))]) [(.cells [(.row (.pair (.int .i64) (.int .i64)) (List.length y2) y2)])])⟩
noncomputable def check_Run_0ce7_v0_0 (w : check_Run_0ce7_l0_Ty) : LVar := ⟨[.sv (.v (.ptr 1 0)), .sv (.v (.wl 2 1)), .sv (.v (.int .i64)), .sv (.v (.int .i64))], [.rows (.pair (.int .i64) (.int .i64)), .cells [.c (.wl 0 2), .c (.wl 2 1)], .rows .str], fun n t u K => w (fun y0 y1 y2 y3 => K .ret [(.sv (.v (.ptr 1 0))), (.sv (.v (.int .i64 y0))), (.sv (.v (.int .i64 y1)))] [(.cells [(.row (.pair (.int .i64) (.int .i64)) (List.length y2) y2)]), (.cells [(.c (.wl 0 2)), (.c (.wl 2 1))]), (.cells [(.row .str (List.length y3) y3)])]) (fun y0 y1 => K (.exit 0) [(.sv (.v (.ptr 1 0))), .undef, .undef] [(.cells [(.row (.pair (.int .i64) (.int .i64)) (List.length y0) y0)]), (.cells [(.c (.wl 0 2)), (.c (.wl 2 1))]), (.cells [(.row .str (List.length y1) y1)])]) n t.2.2.1 t.2.2.2.1 u.1 u.2.2.1⟩
noncomputable def check_Run_0ce7_F0 (w : check_Run_0ce7_l0_Ty) : Fam := ⟨⟨[1, 29, 30, 31], [1, 2, 3], ⟨[], [], []⟩, ⟨[], [], []⟩⟩, [check_Run_0ce7_v0_0 w]⟩
noncomputable def check_Run_0ce7_v1_0 (w : check_Run_0ce7_l1_Ty) : LVar := ⟨[.sv (.v (.ptr 1 0)), .sv (.v (.int .i64)), .sv (.v (.int .i64))], [.rows (.pair (.int .i64) (.int .i64)), .cells [.c (.wl 0 2), .c (.wl 2 1)], .rows .str], fun n t u K => w (fun y0 y1 y2 y3 => K .ret [(.sv (.v (.ptr 1 0))), (.sv (.v (.int .i64 y0))), (.sv (.v (.int .i64 y1)))] [(.cells [(.row (.pair (.int .i64) (.int .i64)) (List.length y2) y2)]), (.cells [(.c (.wl 0 2)), (.c (.wl 2 1))]), (.cells [(.row .str (List.length y3) y3)])]) (fun y0 y1 => K (.exit 2) [(.sv (.v (.ptr 1 0))), .undef, .undef] [(.cells [(.row (.pair (.int .i64) (.int .i64)) (List.length y0) y0)]), (.cells [(.c (.wl 0 2)), (.c (.wl 2 1))]), (.cells [(.row .str (List.length y1) y1)])]) n t.2.1 t.2.2.1 u.1 u.2.2.1⟩
noncomputable def check_Run_0ce7_F1 (w : check_Run_0ce7_l1_Ty) : Fam := ⟨⟨[1, 41, 42], [1, 2, 3], ⟨[], [], []⟩, ⟨[], [], []⟩⟩, [check_Run_0ce7_v1_0 w]⟩
noncomputable def check_Run_0ce7_v2_0 (w : check_Run_0ce7_l2_Ty) : LVar := ⟨[.sv (.v (.ptr 1 0)), .sv (.v (.ptr 3 0)), .sv (.v (.int .i64)), .sv (.v (.int .i64))], [.rows (.pair (.int .i64) (.int .i64)), .cells [.c (.wl 0 2), .c (.wl 2 1)], .rows .str, .cells [.row .bool 1632]], fun n t u K => w (fun y0 y1 y2 => K .ret [(.sv (.v (.int .i64 y0))), (.sv (.v (.int .i64 y1)))] [(.cells [(.row (.pair (.int .i64) (.int .i64)) (List.length y2) y2)])]) (fun y0 => K (.exit 4) [.undef, .undef] [(.cells [(.row (.pair (.int .i64) (.int .i64)) (List.length y0) y0)])]) n t.2.2.1 t.2.2.2.1 u.1 u.2.2.1 u.2.2.2.1.1⟩
noncomputable def check_Run_0ce7_F2 (w : check_Run_0ce7_l2_Ty) : Fam := ⟨⟨[1, 8, 57, 58], [2, 3], ⟨[], [], []⟩, ⟨[], [], []⟩⟩, [check_Run_0ce7_v2_0 w]⟩
noncomputable def check_Run_0ce7_F (w0 : check_Run_0ce7_l0_Ty) (w1 : check_Run_0ce7_l1_Ty) (w2 : check_Run_0ce7_l2_Ty) : Nat → Fam
  | 0 => check_Run_0ce7_F0 w0
  | 1 => check_Run_0ce7_F1 w1
  | 2 => check_Run_0ce7_F2 w2
  | _ => noFam
noncomputable def check_Run_87f1_W (f : check_Run_87f1_Ty) : Var := ⟨[.agg [.c (.wl 0 2), .c (.wl 1 1)]], [.rows (.pair (.int .i64) (.int .i64)), .rows .str], fun t u K => f u.1 u.2.1 (fun y0 y1 y2 y3 => K (.tup [(.v (.int .i64 y0)), (.v (.int .i64 y1))]) [(.cells [(.row (.pair (.int .i64) (.int .i64)) (List.length y2) y2)]), (.cells [(.row .str (List.length y3) y3)])])⟩
noncomputable def check_Run_87f1_v0_0 (w : check_Run_87f1_l0_Ty) : LVar := ⟨[.sv (.v (.ptr 2 0)), .sv (.v (.wl 1 1)), .sv (.v (.int .i64)), .sv (.v (.int .i64))], [.rows (.pair (.int .i64) (.int .i64)), .rows .str, .cells [.c (.wl 0 2), .c (.wl 1 1)]], fun n t u K => w (fun y0 y1 y2 y3 => K .ret [(.sv (.v (.ptr 2 0))), (.sv (.v (.int .i64 y0))), (.sv (.v (.int .i64 y1)))] [(.cells [(.row (.pair (.int .i64) (.int .i64)) (List.length y2) y2)]), (.cells [(.row .str (List.length y3) y3)]), (.cells [(.c (.wl 0 2)), (.c (.wl 1 1))])]) (fun y0 y1 => K (.exit 0) [(.sv (.v (.ptr 2 0))), .undef, .undef] [(.cells [(.row (.pair (.int .i64) (.int .i64)) (List.length y0) y0)]), (.cells [(.row .str (List.length y1) y1)]), (.cells [(.c (.wl 0 2)), (.c (.wl 1 1))])]) n t.2.2.1 t.2.2.2.1 u.1 u.2.1⟩
noncomputable def check_Run_87f1_F0 (w : check_Run_87f1_l0_Ty) : Fam := ⟨⟨[1, 29, 30, 31], [1, 2, 3], ⟨[], [], []⟩, ⟨[], [], []⟩⟩, [check_Run_87f1_v0_0 w]⟩
noncomputable def check_Run_87f1_v1_0 (w : check_Run_87f1_l1_Ty) : LVar := ⟨[.sv (.v (.ptr 2 0)), .sv (.v (.int .i64)), .sv (.v (.int .i64))], [.rows (.pair (.int .i64) (.int .i64)), .rows .str, .cells [.c (.wl 0 2), .c (.wl 1 1)]], fun n t u K => w (fun y0 y1 y2 y3 => K .ret [(.sv (.v (.ptr 2 0))), (.sv (.v (.int .i64 y0))), (.sv (.v (.int .i64 y1)))] [(.cells [(.row (.pair (.int .i64) (.int .i64)) (List.length y2) y2)]), (.cells [(.row .str (List.length y3) y3)]), (.cells [(.c (.wl 0 2)), (.c (.wl 1 1))])]) (fun y0 y1 => K (.exit 2) [(.sv (.v (.ptr 2 0))), .undef, .undef] [(.cells [(.row (.pair (.int .i64) (.int .i64)) (List.length y0) y0)]), (.cells [(.row .str (List.length y1) y1)]), (.cells [(.c (.wl 0 2)), (.c (.wl 1 1))])]) n t.2.1 t.2.2.1 u.1 u.2.1⟩
noncomputable def check_Run_87f1_F1 (w : check_Run_87f1_l1_Ty) : Fam := ⟨⟨[1, 41, 42], [1, 2, 3], ⟨[], [], []⟩, ⟨[], [], []⟩⟩, [check_Run_87f1_v1_0 w]⟩
noncomputable def check_Run_87f1_v2_0 (w : check_Run_87f1_l2_Ty) : LVar := ⟨[.sv (.v (.ptr 2 0)), .sv (.v (.ptr 3 0)), .sv (.v (.int .i64)), .sv (.v (.int .i64))], [.rows (.pair (.int .i64) (.int .i64)), .rows .str, .cells [.c (.wl 0 2), .c (.wl 1 1)], .cells [.row .bool 1632]], fun n t u K => w (fun y0 y1 y2 y3 => K .ret [(.sv (.v (.int .i64 y0))), (.sv (.v (.int .i64 y1)))] [(.cells [(.row (.pair (.int .i64) (.int .i64)) (List.length y2) y2)]), (.cells [(.row .str (List.length y3) y3)])]) (fun y0 y1 => K (.exit 4) [.undef, .undef] [(.cells [(.row (.pair (.int .i64) (.int .i64)) (List.length y0) y0)]), (.cells [(.row .str (List.length y1) y1)])]) n t.2.2.1 t.2.2.2.1 u.1 u.2.1 u.2.2.2.1.1⟩
noncomputable def check_Run_87f1_F2 (w : check_Run_87f1_l2_Ty) : Fam := ⟨⟨[1, 8, 57, 58], [2, 3], ⟨[], [], []⟩, ⟨[], [], []⟩⟩, [check_Run_87f1_v2_0 w]⟩
noncomputable def check_Run_87f1_F (w0 : check_Run_87f1_l0_Ty) (w1 : check_Run_87f1_l1_Ty) (w2 : check_Run_87f1_l2_Ty) : Nat → Fam
  | 0 => check_Run_87f1_F0 w0
  | 1 => check_Run_87f1_F1 w1
  | 2 => check_Run_87f1_F2 w2
  | _ => noFam
noncomputable def check_Run_W (f : check_Run_Ty) : Var := ⟨[.agg [.c (.isl (.pair (.int .i64) (.int .i64))), .c (.isl .str)]], [], fun t u K => f t.1.1 t.1.2.1 (fun y0 y1 => K (.tup [(.v (.int .i64 y0)), (.v (.int .i64 y1))]) [])⟩
noncomputable def check_Run_v0_0 (w : check_Run_l0_Ty) : LVar := ⟨[.sv (.v (.ptr 0 0)), .sv (.v (.isl .str)), .sv (.v (.int .i64)), .sv (.v (.int .i64))], [.cells [.c (.isl (.pair (.int .i64) (.int .i64))), .c (.isl .str)]], fun n t u K => w (fun y0 y1 y2 y3 => K .ret [(.sv (.v (.ptr 0 0))), (.sv (.v (.int .i64 y0))), (.sv (.v (.int .i64 y1)))] [(.cells [(.c (.isl (.pair (.int .i64) (.int .i64)) y2)), (.c (.isl .str y3))])]) (fun y0 y1 => K (.exit 0) [(.sv (.v (.ptr 0 0))), .undef, .undef] [(.cells [(.c (.isl (.pair (.int .i64) (.int .i64)) y0)), (.c (.isl .str y1))])]) n t.2.1 t.2.2.1 t.2.2.2.1 u.1.1 u.1.2.1⟩
noncomputable def check_Run_F0 (w : check_Run_l0_Ty) : Fam := ⟨⟨[1, 29, 30, 31], [1, 2, 3], ⟨[], [], []⟩, ⟨[], [], []⟩⟩, [check_Run_v0_0 w]⟩
noncomputable def check_Run_v1_0 (w : check_Run_l1_Ty) : LVar := ⟨[.sv (.v (.ptr 0 0)), .sv (.v (.int .i64)), .sv (.v (.int .i64))], [.cells [.c (.isl (.pair (.int .i64) (.int .i64))), .c (.isl .str)]], fun n t u K => w (fun y0 y1 y2 y3 => K .ret [(.sv (.v (.ptr 0 0))), (.sv (.v (.int .i64 y0))), (.sv (.v (.int .i64 y1)))] [(.cells [(.c (.isl (.pair (.int .i64) (.int .i64)) y2)), (.c (.isl .str y3))])]) (fun y0 y1 => K (.exit 2) [(.sv (.v (.ptr 0 0))), .undef, .undef] [(.cells [(.c (.isl (.pair (.int .i64) (.int .i64)) y0)), (.c (.isl .str y1))])]) n t.2.1 t.2.2.1 u.1.1 u.1.2.1⟩
noncomputable def check_Run_F1 (w : check_Run_l1_Ty) : Fam := ⟨⟨[1, 41, 42], [1, 2, 3], ⟨[], [], []⟩, ⟨[], [], []⟩⟩, [check_Run_v1_0 w]⟩
noncomputable def check_Run_v2_0 (w : check_Run_l2_Ty) : LVar := ⟨[.sv (.v (.ptr 0 0)), .sv (.v (.ptr 1 0)), .sv (.v (.int .i64)), .sv (.v (.int .i64))], [.cells [.c (.isl (.pair (.int .i64) (.int .i64))), .c (.isl .str)], .cells [.row .bool 1632]], fun n t u K => w (fun y0 y1 => K .ret [(.sv (.v (.int .i64 y0))), (.sv (.v (.int .i64 y1)))] []) (K (.exit 4) [.undef, .undef] []) n t.2.2.1 t.2.2.2.1 u.1.1 u.1.2.1 u.2.1.1⟩
noncomputable def check_Run_F2 (w : check_Run_l2_Ty) : Fam := ⟨⟨[1, 8, 57, 58], [2, 3], ⟨[], [], []⟩, ⟨[], [], []⟩⟩, [check_Run_v2_0 w]⟩
noncomputable def check_Run_F (w0 : check_Run_l0_Ty) (w1 : check_Run_l1_Ty) (w2 : check_Run_l2_Ty) : Nat → Fam
  | 0 => check_Run_F0 w0
  | 1 => check_Run_F1 w1
  | 2 => check_Run_F2 w2
  | _ => noFam
noncomputable def E_check_Run (N : Nat) : Ent := .of [check_Run_0ce7_W (check_Run_0ce7 N), check_Run_87f1_W (check_Run_87f1 N), check_Run_W (check_Run N)]
noncomputable def E_check_Heights_TG (c0 : check_height_866d_Ty) (c1 : check_height_fe79_Ty) (c2 : check_reach_87f1_Ty) (c3 : check_reach_Ty) (c4 : check_Run_0ce7_Ty) (c5 : check_Run_87f1_Ty) (c6 : check_Run_Ty) : Table := fun g => bif Nat.beq g 33 then .of [check_height_866d_W c0, check_height_fe79_W c1] else bif Nat.beq g 32 then .of [check_reach_87f1_W c2, check_reach_W c3] else bif Nat.beq g 18 then .of [check_Run_0ce7_W c4, check_Run_87f1_W c5, check_Run_W c6] else noEnt
noncomputable def E_check_Heights_T (N : Nat) : Table := E_check_Heights_TG (@check_height_866d N) (@check_height_fe79 N) (@check_reach_87f1 N) (@check_reach N) (@check_Run_0ce7 N) (@check_Run_87f1 N) (@check_Run N)
noncomputable def check_Heights_0ce7_W (f : check_Heights_0ce7_Ty) : Var := ⟨[.agg [.c (.wl 0 2), .c .nils]], [.rows (.pair (.int .i64) (.int .i64))], fun t u K => f u.1 (fun y0 y1 => K (.sv (.v (.wl 1 1))) [(.cells [(.row (.pair (.int .i64) (.int .i64)) (List.length y0) y0)]), (.cells [(.row (.int .i64) (List.length y1) y1)])])⟩
noncomputable def check_Heights_0ce7_v0_0 (w : check_Heights_0ce7_l0_Ty) : LVar := ⟨[.sv (.v (.ptr 1 0)), .sv (.v (.ptr 3 0)), .sv (.v (.wl 4 1)), .sv (.v (.int .i64)), .sv (.v (.int .i64))], [.rows (.pair (.int .i64) (.int .i64)), .cells [.c (.wl 0 2), .c (.wl 2 1)], .rows .str, .cells [.row .bool 1632], .rows (.int .i64)], fun n t u K => w (fun y0 y1 => K (.exit 0) [(.sv (.v (.wl 1 1)))] [(.cells [(.row (.pair (.int .i64) (.int .i64)) (List.length y0) y0)]), (.cells [(.row (.int .i64) (List.length y1) y1)])]) n t.2.2.2.1 t.2.2.2.2.1 u.1 u.2.2.1 u.2.2.2.1.1 u.2.2.2.2.1⟩
noncomputable def check_Heights_0ce7_F0 (w : check_Heights_0ce7_l0_Ty) : Fam := ⟨⟨[1, 5, 6, 21, 22], [6], ⟨[], [(2, false, (.int .i64))], []⟩, ⟨[], [], []⟩⟩, [check_Heights_0ce7_v0_0 w]⟩
noncomputable def check_Heights_0ce7_F (w0 : check_Heights_0ce7_l0_Ty) : Nat → Fam
  | 0 => check_Heights_0ce7_F0 w0
  | _ => noFam
noncomputable def check_Heights_W (f : check_Heights_Ty) : Var := ⟨[.agg [.c (.isl (.pair (.int .i64) (.int .i64))), .c (.isl .str)]], [], fun t u K => f t.1.1 t.1.2.1 (fun y0 => K (.sv (.v (.wl 0 1))) [(.cells [(.row (.int .i64) (List.length y0) y0)])])⟩
noncomputable def check_Heights_v0_0 (w : check_Heights_l0_Ty) : LVar := ⟨[.sv (.v (.ptr 0 0)), .sv (.v (.ptr 1 0)), .sv (.v (.wl 2 1)), .sv (.v (.int .i64)), .sv (.v (.int .i64))], [.cells [.c (.isl (.pair (.int .i64) (.int .i64))), .c (.isl .str)], .cells [.row .bool 1632], .rows (.int .i64)], fun n t u K => w (fun y0 => K (.exit 0) [(.sv (.v (.wl 0 1)))] [(.cells [(.row (.int .i64) (List.length y0) y0)])]) n t.2.2.2.1 t.2.2.2.2.1 u.1.1 u.1.2.1 u.2.1.1 u.2.2.1⟩
noncomputable def check_Heights_F0 (w : check_Heights_l0_Ty) : Fam := ⟨⟨[1, 5, 6, 21, 22], [6], ⟨[], [(2, false, (.int .i64))], []⟩, ⟨[], [], []⟩⟩, [check_Heights_v0_0 w]⟩
noncomputable def check_Heights_F (w0 : check_Heights_l0_Ty) : Nat → Fam
  | 0 => check_Heights_F0 w0
  | _ => noFam
noncomputable def E_check_Heights (N : Nat) : Ent := .of [check_Heights_0ce7_W (check_Heights_0ce7 N), check_Heights_W (check_Heights N)]
noncomputable def E_law11_same_TG : Table := fun _ => noEnt
noncomputable def E_law11_same_T (N : Nat) : Table := E_law11_same_TG
noncomputable def law11_same_9dd3_W (f : law11_same_9dd3_Ty) : Var := ⟨[.v (.wl 0 1), .v (.wl 1 1)], [.rows (.int .i64), .rows (.int .i64)], fun t u K => f u.1 u.2.1 (fun y0 y1 y2 => K (.sv (.v (.bool y0))) [(.cells [(.row (.int .i64) (List.length y1) y1)]), (.cells [(.row (.int .i64) (List.length y2) y2)])])⟩
noncomputable def law11_same_9dd3_v0_0 (w : law11_same_9dd3_l0_Ty) : LVar := ⟨[.sv (.v (.wl 0 1)), .sv (.v (.wl 1 1)), .sv (.v (.int .i64))], [.rows (.int .i64), .rows (.int .i64)], fun n t u K => w (fun y0 y1 y2 => K .ret [(.sv (.v (.bool y0)))] [(.cells [(.row (.int .i64) (List.length y1) y1)]), (.cells [(.row (.int .i64) (List.length y2) y2)])]) (fun y0 y1 => K (.exit 0) [.undef] [(.cells [(.row (.int .i64) (List.length y0) y0)]), (.cells [(.row (.int .i64) (List.length y1) y1)])]) n t.2.2.1 u.1 u.2.1⟩
noncomputable def law11_same_9dd3_F0 (w : law11_same_9dd3_l0_Ty) : Fam := ⟨⟨[0, 1, 5], [4], ⟨[], [], []⟩, ⟨[], [], []⟩⟩, [law11_same_9dd3_v0_0 w]⟩
noncomputable def law11_same_9dd3_F (w0 : law11_same_9dd3_l0_Ty) : Nat → Fam
  | 0 => law11_same_9dd3_F0 w0
  | _ => noFam
noncomputable def E_law11_same (N : Nat) : Ent := .of [law11_same_9dd3_W (law11_same_9dd3 N)]
noncomputable def E_law11_awake_TG (c0 : law11_same_9dd3_Ty) (c1 : check_Heights_0ce7_Ty) (c2 : check_Heights_Ty) (c3 : check_Run_0ce7_Ty) (c4 : check_Run_87f1_Ty) (c5 : check_Run_Ty) : Table := fun g => bif Nat.beq g 20 then .of [law11_same_9dd3_W c0] else bif Nat.beq g 21 then .of [check_Heights_0ce7_W c1, check_Heights_W c2] else bif Nat.beq g 18 then .of [check_Run_0ce7_W c3, check_Run_87f1_W c4, check_Run_W c5] else noEnt
noncomputable def E_law11_awake_T (N : Nat) : Table := E_law11_awake_TG (@law11_same_9dd3 N) (@check_Heights_0ce7 N) (@check_Heights N) (@check_Run_0ce7 N) (@check_Run_87f1 N) (@check_Run N)
noncomputable def law11_awake_W (f : law11_awake_Ty) : Var := ⟨[], [], fun t u K => f (fun y0 => K (.sv (.v (.bool y0))) [])⟩
noncomputable def law11_awake_F : Nat → Fam := fun _ => noFam
noncomputable def E_law11_awake (N : Nat) : Ent := .of [law11_awake_W (law11_awake N)]
noncomputable def E_law10_Small_TG : Table := fun _ => noEnt
noncomputable def E_law10_Small_T (N : Nat) : Table := E_law10_Small_TG
noncomputable def law10_Small_W (f : law10_Small_Ty) : Var := ⟨[.agg [.c (.isl (.pair (.int .i64) (.int .i64))), .c (.isl .str)]], [], fun t u K => f t.1.1 t.1.2.1 (fun y0 => K (.sv (.v (.bool y0))) [])⟩
noncomputable def law10_Small_v0_0 (w : law10_Small_l0_Ty) : LVar := ⟨[.sv (.v (.ptr 0 0)), .sv (.v (.int .i64)), .sv (.v (.int .i64))], [.cells [.c (.isl (.pair (.int .i64) (.int .i64))), .c (.isl .str)]], fun n t u K => w (fun y0 y1 y2 => K (.exit 0) [(.sv (.v (.ptr 0 0))), (.sv (.v (.int .i64 y0)))] [(.cells [(.c (.isl (.pair (.int .i64) (.int .i64)) y1)), (.c (.isl .str y2))])]) n t.2.1 t.2.2.1 u.1.1 u.1.2.1⟩
noncomputable def law10_Small_F0 (w : law10_Small_l0_Ty) : Fam := ⟨⟨[1, 3, 4], [1, 3], ⟨[], [], []⟩, ⟨[], [], []⟩⟩, [law10_Small_v0_0 w]⟩
noncomputable def law10_Small_F (w0 : law10_Small_l0_Ty) : Nat → Fam
  | 0 => law10_Small_F0 w0
  | _ => noFam
noncomputable def E_law10_Small (N : Nat) : Ent := .of [law10_Small_W (law10_Small N)]
noncomputable def E_ref12_table_TG : Table := fun _ => noEnt
noncomputable def E_ref12_table_T (N : Nat) : Table := E_ref12_table_TG
noncomputable def ref12_table_W (f : ref12_table_Ty) : Var := ⟨[], [], fun t u K => f (fun y0 => K (.sv (.v (.wl 0 4))) [(.cells [(.row (.pair .str (.pair (.int .i64) (.pair (.int .i64) (.int .i64)))) (List.length y0) y0)])])⟩
noncomputable def ref12_table_F : Nat → Fam := fun _ => noFam
noncomputable def E_ref12_table (N : Nat) : Ent := .of [ref12_table_W (ref12_table N)]
noncomputable def E_ref12_Row_TG (c0 : ref12_table_Ty) : Table := fun g => bif Nat.beq g 37 then .of [ref12_table_W c0] else noEnt
noncomputable def E_ref12_Row_T (N : Nat) : Table := E_ref12_Row_TG (@ref12_table N)
noncomputable def ref12_Row_W (f : ref12_Row_Ty) : Var := ⟨[.v (.int .i64)], [], fun t u K => f t.1 (fun y0 y1 y2 y3 y4 => K (.tup [(.v (.str y0)), (.v (.int .i64 y1)), (.v (.int .i64 y2)), (.v (.int .i64 y3)), (.v (.bool y4))]) [])⟩
noncomputable def ref12_Row_F : Nat → Fam := fun _ => noFam
noncomputable def E_ref12_Row (N : Nat) : Ent := .of [ref12_Row_W (ref12_Row N)]
noncomputable def E_law11_CheckHolds_TG (c0 : ref12_Row_Ty) (c1 : check_Heights_0ce7_Ty) (c2 : check_Heights_Ty) (c3 : check_Run_0ce7_Ty) (c4 : check_Run_87f1_Ty) (c5 : check_Run_Ty) (c6 : law10_Small_Ty) (c7 : law11_awake_Ty) : Table := fun g => bif Nat.beq g 23 then .of [ref12_Row_W c0] else bif Nat.beq g 21 then .of [check_Heights_0ce7_W c1, check_Heights_W c2] else bif Nat.beq g 18 then .of [check_Run_0ce7_W c3, check_Run_87f1_W c4, check_Run_W c5] else bif Nat.beq g 17 then .of [law10_Small_W c6] else bif Nat.beq g 16 then .of [law11_awake_W c7] else noEnt
noncomputable def E_law11_CheckHolds_T (N : Nat) : Table := E_law11_CheckHolds_TG (@ref12_Row N) (@check_Heights_0ce7 N) (@check_Heights N) (@check_Run_0ce7 N) (@check_Run_87f1 N) (@check_Run N) (@law10_Small N) (@law11_awake N)
noncomputable def law11_CheckHolds_W (f : law11_CheckHolds_Ty) : Var := ⟨[.agg [.c (.isl (.pair (.int .i64) (.int .i64))), .c (.isl .str)]], [], fun t u K => f t.1.1 t.1.2.1 (fun y0 => K (.sv (.v (.bool y0))) [])⟩
noncomputable def law11_CheckHolds_v0_0 (w : law11_CheckHolds_l0_Ty) : LVar := ⟨[.sv (.v (.ptr 0 0)), .sv (.v (.wl 1 1)), .sv (.v (.int .i64))], [.cells [.c (.isl (.pair (.int .i64) (.int .i64))), .c (.isl .str)], .rows (.int .i64)], fun n t u K => w (fun y0 => K .ret [(.sv (.v (.bool y0)))] []) (K (.exit 0) [.undef] []) n t.2.2.1 u.1.1 u.1.2.1 u.2.1⟩
noncomputable def law11_CheckHolds_F0 (w : law11_CheckHolds_l0_Ty) : Fam := ⟨⟨[1, 5, 6], [2], ⟨[], [], []⟩, ⟨[], [], []⟩⟩, [law11_CheckHolds_v0_0 w]⟩
noncomputable def law11_CheckHolds_F (w0 : law11_CheckHolds_l0_Ty) : Nat → Fam
  | 0 => law11_CheckHolds_F0 w0
  | _ => noFam
noncomputable def E_law11_CheckHolds (N : Nat) : Ent := .of [law11_CheckHolds_W (law11_CheckHolds N)]
end Go.Proofs.Ytppmkhgpljkljaa
