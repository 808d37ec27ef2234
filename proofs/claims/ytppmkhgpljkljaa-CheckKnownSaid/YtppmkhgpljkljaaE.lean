/-
  Their entries (printed by a program of this work).
-/
import Derived.Test.YtppmkhgpljkljaaProg
import Derived.Test.YtppmkhgpljkljaaD
set_option linter.unusedVariables false
set_option maxRecDepth 100000
namespace Go.Proofs.Ytppmkhgpljkljaa
open Go.Gx
abbrev P0 : Sh := .pair (.int .i64) (.int .i64)
noncomputable def E_Z30_TG (c0 : stringslite_IndexByte_Ty) : Table := fun g => bif g.beq 53 then .of [stringslite_IndexByte_W c0] else noEnt
noncomputable def E_Z30_T (N : Nat) : Table := E_Z30_TG @stringslite_IndexByte
noncomputable def Z30_W (f : Z30_Ty) : Var := ⟨[.v .str, .v .str], [], fun t u K => f t.1 t.2.1 (fun y0 => K (.sv (.v (.int .i64 y0))) [])⟩
noncomputable def Z30_F : Nat → Fam := fun _ => noFam
noncomputable def E_Z30 (N : Nat) : Ent := .of [Z30_W (Z30 N)]
noncomputable def E_Z29_TG (c0 : Z30_Ty) : Table := fun g => bif g.beq 52 then .of [Z30_W c0] else noEnt
noncomputable def E_Z29_T (N : Nat) : Table := E_Z29_TG (@Z30 N)
noncomputable def Z29_W (f : Z29_Ty) : Var := ⟨[.v .str, .v .str], [], fun t u K => f t.1 t.2.1 (fun y0 y1 y2 => K (.tup [(.v (.str y0)), (.v (.str y1)), (.v (.bool y2))]) [])⟩
noncomputable def Z29_F : Nat → Fam := fun _ => noFam
noncomputable def E_Z29 (N : Nat) : Ent := .of [Z29_W (Z29 N)]
noncomputable def E_Z28_TG (c0 : Z29_Ty) : Table := fun g => bif g.beq 47 then .of [Z29_W c0] else noEnt
noncomputable def E_Z28_T (N : Nat) : Table := E_Z28_TG (@Z29 N)
noncomputable def Z28_W (f : Z28_Ty) : Var := ⟨[.v .str, .v .str], [], fun t u K => f t.1 t.2.1 (fun y0 y1 y2 => K (.tup [(.v (.str y0)), (.v (.str y1)), (.v (.bool y2))]) [])⟩
noncomputable def Z28_F : Nat → Fam := fun _ => noFam
noncomputable def E_Z28 (N : Nat) : Ent := .of [Z28_W (Z28 N)]
noncomputable def E_Z9_TG : Table := fun _ => noEnt
noncomputable def E_Z9_T (N : Nat) : Table := E_Z9_TG
noncomputable def Z9_W (f : Z9_Ty) : Var := ⟨[.v (.int .u8)], [], fun t u K => f t.1 (fun y0 => K (.sv (.v (.bool y0))) [])⟩
noncomputable def Z9_F : Nat → Fam := fun _ => noFam
noncomputable def E_Z9 (N : Nat) : Ent := .of [Z9_W (Z9 N)]
noncomputable def E_Z15_TG (c0 : Z9_Ty) : Table := fun g => bif g.beq 48 then .of [Z9_W c0] else noEnt
noncomputable def E_Z15_T (N : Nat) : Table := E_Z15_TG (@Z9 N)
noncomputable def Z15_W (f : Z15_Ty) : Var := ⟨[.v .str], [], fun t u K => f t.1 (fun y0 => K (.sv (.v (.bool y0))) [])⟩
noncomputable def Z15_v0_0 (w : Z15_l0_Ty) : LVar := ⟨[.sv (.v .str), .sv (.v (.int .i64)), .sv (.v (.int .i64))], [], fun n t u K => w (fun y0 y1 => K .ret [(.sv (.v (.str y0))), (.sv (.v (.bool y1)))] []) (fun y0 => K (.exit 0) [(.sv (.v (.str y0))), .undef] []) n t.1 t.2.1 t.2.2.1⟩
noncomputable def Z15_F0 (w : Z15_l0_Ty) : Fam := ⟨⟨false, [0, 5, 6], [0, 2], ⟨[], [], []⟩, ⟨[], [], []⟩⟩, [Z15_v0_0 w]⟩
noncomputable def Z15_F (w0 : Z15_l0_Ty) : Nat → Fam := fun i => bif i.beq 3 then Z15_F0 w0 else noFam
noncomputable def E_Z15 (N : Nat) : Ent := .of [Z15_W (Z15 N)]
noncomputable def E_Z2_TG (c0 : Z15_Ty) (c1 : Z28_Ty) : Table := fun g => bif g.beq 40 then .of [Z15_W c0] else bif g.beq 39 then .of [Z28_W c1] else noEnt
noncomputable def E_Z2_T (N : Nat) : Table := E_Z2_TG (@Z15 N) (@Z28 N)
noncomputable def Z2_W (f : Z2_Ty) : Var := ⟨[.v .str], [], fun t u K => f t.1 (fun y0 => K (.sv (.v (.bool y0))) [])⟩
noncomputable def Z2_F : Nat → Fam := fun _ => noFam
noncomputable def E_Z2 (N : Nat) : Ent := .of [Z2_W (Z2 N)]
noncomputable def E_Z23_TG : Table := fun _ => noEnt
noncomputable def E_Z23_T (N : Nat) : Table := E_Z23_TG
noncomputable def Z23_W (f : Z23_Ty) : Var := ⟨[.v (.int .i64)], [], fun t u K => f t.1 (fun y0 y1 y2 y3 => K (.tup [(.agg [(.c (.int .i64 y0)), (.c (.int .i64 y1)), (.c (.int .i64 y2))]), (.v (.bool y3))]) [])⟩
noncomputable def Z23_F : Nat → Fam := fun _ => noFam
noncomputable def E_Z23 (N : Nat) : Ent := .of [Z23_W (Z23 N)]
noncomputable def E_Z21_TG (c0 : Z23_Ty) : Table := fun g => bif g.beq 49 then .of [Z23_W c0] else noEnt
noncomputable def E_Z21_T (N : Nat) : Table := E_Z21_TG (@Z23 N)
noncomputable def Z21_W (f : Z21_Ty) : Var := ⟨[.agg [.c (.int .i64), .c (.int .i64)]], [], fun t u K => f t.1.1 t.1.2.1 (fun y0 => K (.sv (.v (.bool y0))) [])⟩
noncomputable def Z21_F : Nat → Fam := fun _ => noFam
noncomputable def E_Z21 (N : Nat) : Ent := .of [Z21_W (Z21 N)]
noncomputable def E_Z10_TG : Table := fun _ => noEnt
noncomputable def E_Z10_T (N : Nat) : Table := E_Z10_TG
noncomputable def Z10_W (f : Z10_Ty) : Var := ⟨[.agg [.c (.int .i64), .c (.int .i64)], .v (.int .i64)], [], fun t u K => f t.1.1 t.1.2.1 t.2.1 (fun y0 => K (.sv (.v (.bool y0))) [])⟩
noncomputable def Z10_F : Nat → Fam := fun _ => noFam
noncomputable def E_Z10 (N : Nat) : Ent := .of [Z10_W (Z10 N)]
noncomputable def E_Z20_TG : Table := fun _ => noEnt
noncomputable def E_Z20_T (N : Nat) : Table := E_Z20_TG
noncomputable def Z20_W (f : Z20_Ty) : Var := ⟨[.v (.int .i64)], [], fun t u K => f t.1 (fun y0 => K (.sv (.v (.bool y0))) [])⟩
noncomputable def Z20_F : Nat → Fam := fun _ => noFam
noncomputable def E_Z20 (N : Nat) : Ent := .of [Z20_W (Z20 N)]
noncomputable def E_Z18_TG : Table := fun _ => noEnt
noncomputable def E_Z18_T (N : Nat) : Table := E_Z18_TG
noncomputable def Z18_W (f : Z18_Ty) : Var := ⟨[.v (.int .i64)], [], fun t u K => f t.1 (fun y0 => K (.sv (.v (.bool y0))) [])⟩
noncomputable def Z18_F : Nat → Fam := fun _ => noFam
noncomputable def E_Z18 (N : Nat) : Ent := .of [Z18_W (Z18 N)]
noncomputable def E_Z13_TG (c0 : Z18_Ty) (c1 : Z20_Ty) (c2 : Z10_Ty) (c3 : Z21_Ty) : Table := fun g => bif g.beq 44 then .of [Z18_W c0] else bif g.beq 43 then .of [Z20_W c1] else bif g.beq 42 then .of [Z10_W c2] else bif g.beq 41 then .of [Z21_W c3] else noEnt
noncomputable def E_Z13_T (N : Nat) : Table := E_Z13_TG (@Z18 N) (@Z20 N) (@Z10 N) (@Z21 N)
noncomputable def Z14_W (f : Z14_Ty) : Var := ⟨[.agg [.c (.wl 0 2), .c (.wl 1 1)], .v (.int .i64)], [.rows P0, .rows .str], fun t u K => f t.2.1 u.1 u.2.1 (fun y0 y1 y2 => K (.sv (.v (.int .i64 y0))) [(.cells [(row P0 y1)]), (.cells [(row .str y2)])])⟩
noncomputable def Z14_F : Nat → Fam := fun _ => noFam
noncomputable def Z13_W (f : Z13_Ty) : Var := ⟨[.agg [.c (.isl P0), .c (.isl .str)], .v (.int .i64)], [], fun t u K => f t.1.1 t.1.2.1 t.2.1 (fun y0 => K (.sv (.v (.int .i64 y0))) [])⟩
noncomputable def Z13_F : Nat → Fam := fun _ => noFam
noncomputable def E_Z13 (N : Nat) : Ent := .of [Z14_W (Z14 N), Z13_W (Z13 N)]
noncomputable def E_Z22_TG (c0 : Z23_Ty) : Table := fun g => bif g.beq 49 then .of [Z23_W c0] else noEnt
noncomputable def E_Z22_T (N : Nat) : Table := E_Z22_TG (@Z23 N)
noncomputable def Z22_W (f : Z22_Ty) : Var := ⟨[.v (.int .i64)], [], fun t u K => f t.1 (fun y0 => K (.sv (.v (.int .i64 y0))) [])⟩
noncomputable def Z22_F : Nat → Fam := fun _ => noFam
noncomputable def E_Z22 (N : Nat) : Ent := .of [Z22_W (Z22 N)]
noncomputable def E_Z19_TG (c0 : Z23_Ty) : Table := fun g => bif g.beq 49 then .of [Z23_W c0] else noEnt
noncomputable def E_Z19_T (N : Nat) : Table := E_Z19_TG (@Z23 N)
noncomputable def Z19_W (f : Z19_Ty) : Var := ⟨[.v (.int .i64)], [], fun t u K => f t.1 (fun y0 => K (.sv (.v (.int .i64 y0))) [])⟩
noncomputable def Z19_F : Nat → Fam := fun _ => noFam
noncomputable def E_Z19 (N : Nat) : Ent := .of [Z19_W (Z19 N)]
noncomputable def E_Z6_TG (c0 : Z19_Ty) (c1 : Z22_Ty) : Table := fun g => bif g.beq 51 then .of [Z19_W c0] else bif g.beq 50 then .of [Z22_W c1] else noEnt
noncomputable def E_Z6_T (N : Nat) : Table := E_Z6_TG (@Z19 N) (@Z22 N)
noncomputable def Z6_W (f : Z6_Ty) : Var := ⟨[.agg [.c (.int .i64), .c (.int .i64)], .v (.int .i64)], [], fun t u K => f t.1.1 t.1.2.1 t.2.1 (fun y0 y1 => K (.tup [(.v (.int .i64 y0)), (.v (.bool y1))]) [])⟩
noncomputable def Z6_F : Nat → Fam := fun _ => noFam
noncomputable def E_Z6 (N : Nat) : Ent := .of [Z6_W (Z6 N)]
noncomputable def E_Z11_TG (c0 : Z20_Ty) (c1 : Z18_Ty) : Table := fun g => bif g.beq 43 then .of [Z20_W c0] else bif g.beq 44 then .of [Z18_W c1] else noEnt
noncomputable def E_Z11_T (N : Nat) : Table := E_Z11_TG (@Z20 N) (@Z18 N)
noncomputable def Z12_W (f : Z12_Ty) : Var := ⟨[.agg [.c (.wl 0 2), .c (.wl 1 1)], .v (.int .i64)], [.rows P0, .rows .str], fun t u K => f t.2.1 u.1 u.2.1 (fun y0 y1 y2 => K (.sv (.v (.wl 2 1))) [(.cells [(row P0 y0)]), (.cells [(row .str y1)]), (.cells [(row (.int .i64) y2)])])⟩
noncomputable def Z12_F : Nat → Fam := fun _ => noFam
noncomputable def Z11_W (f : Z11_Ty) : Var := ⟨[.agg [.c (.isl P0), .c (.isl .str)], .v (.int .i64)], [], fun t u K => f t.1.1 t.1.2.1 t.2.1 (fun y0 => K (.sv (.v (.wl 0 1))) [(.cells [(row (.int .i64) y0)])])⟩
noncomputable def Z11_F : Nat → Fam := fun _ => noFam
noncomputable def E_Z11 (N : Nat) : Ent := .of [Z12_W (Z12 N), Z11_W (Z11 N)]
noncomputable def E_Z16_TG (c0 : Z12_Ty) (c1 : Z11_Ty) (c2 : Z6_Ty) : Table := fun g => bif g.beq 46 then .of [Z12_W c0, Z11_W c1] else bif g.beq 45 then .of [Z6_W c2] else noEnt
noncomputable def E_Z16_T (N : Nat) : Table := E_Z16_TG (@Z12 N) (@Z11 N) (@Z6 N)
noncomputable def Z17_W (f : Z17_Ty) : Var := ⟨[.agg [.c (.wl 0 2), .c (.wl 1 1)]], [.rows P0, .rows .str], fun t u K => f u.1 u.2.1 (fun y0 y1 y2 => K (.sv (.v (.ptr 2 0))) [(.cells [(row P0 y0)]), (.cells [(row .str y1)]), (.cells [(.row .bool 1632 y2)])])⟩
noncomputable def Z17_v0_0 (w : Z17_l0_Ty) : LVar := ⟨[.sv (.v (.ptr 2 0)), .sv (.v (.ptr 3 0)), .sv (.v .bool)], [.rows P0, .rows .str, .cells [.c (.wl 0 2), .c (.wl 1 1)], .cells [.row .bool 1632]], fun n t u K => w (fun y0 y1 y2 => K (.exit 0) [(.sv (.v (.ptr 2 0)))] [(.cells [(row P0 y0)]), (.cells [(row .str y1)]), (.cells [(.row .bool 1632 y2)])]) n t.2.2.1 u.1 u.2.1 u.2.2.2.1.1⟩
noncomputable def Z17_F0 (w : Z17_l0_Ty) : Fam := ⟨⟨false, [1, 3, 4], [3], ⟨[], [], []⟩, ⟨[], [], []⟩⟩, [Z17_v0_0 w]⟩
noncomputable def Z17_v1_0 (w : Z17_l1_Ty) : LVar := ⟨[.sv (.v (.ptr 2 0)), .sv (.v (.ptr 3 0)), .sv (.v .bool), .sv (.v (.wl 0 2)), .sv (.v (.int .i64)), .sv (.v (.int .i64))], [.rows P0, .rows .str, .cells [.c (.wl 0 2), .c (.wl 1 1)], .cells [.row .bool 1632]], fun n t u K => w (fun y0 y1 y2 y3 => K (.exit 2) [(.sv (.v (.ptr 2 0))), (.sv (.v (.ptr 3 0))), (.sv (.v (.bool y0)))] [(.cells [(row P0 y1)]), (.cells [(row .str y2)]), (.cells [(.c (.wl 0 2)), (.c (.wl 1 1))]), (.cells [(.row .bool 1632 y3)])]) n t.2.2.1 t.2.2.2.2.1 t.2.2.2.2.2.1 u.1 u.2.1 u.2.2.2.1.1⟩
noncomputable def Z17_F1 (w : Z17_l1_Ty) : Fam := ⟨⟨false, [1, 3, 4, 21, 22, 23], [1, 3, 4], ⟨[], [], []⟩, ⟨[], [], []⟩⟩, [Z17_v1_0 w]⟩
noncomputable def Z17_v2_0 (w : Z17_l2_Ty) : LVar := ⟨[.sv (.v (.ptr 2 0)), .sv (.v (.ptr 3 0)), .sv (.v .bool), .sv (.v (.int .i64)), .sv (.v (.ptr 4 0)), .sv (.v (.wl 0 2)), .sv (.v (.int .i64)), .sv (.v (.int .i64)), .sv (.agg [.row .bool 17]), .sv (.v (.int .i64))], [.rows P0, .rows .str, .cells [.c (.wl 0 2), .c (.wl 1 1)], .cells [.row .bool 1632], .cells [.c (.int .i64), .c (.int .i64)]], fun n t u K => w (fun y0 y1 y2 y3 y4 y5 => K (.exit 4) [(.sv (.v (.ptr 2 0))), (.sv (.v (.ptr 3 0))), (.sv (.v (.bool y0))), (.sv (.v (.wl 0 2))), (.sv (.v (.int .i64 y1))), (.sv (.v (.int .i64 y2)))] [(.cells [(row P0 y3)]), (.cells [(row .str y4)]), (.cells [(.c (.wl 0 2)), (.c (.wl 1 1))]), (.cells [(.row .bool 1632 y5)])]) n t.2.2.1 t.2.2.2.1 t.2.2.2.2.2.2.1 t.2.2.2.2.2.2.2.1 t.2.2.2.2.2.2.2.2.1.1 t.2.2.2.2.2.2.2.2.2.1 u.1 u.2.1 u.2.2.2.1.1 u.2.2.2.2.1.1 u.2.2.2.2.1.2.1⟩
noncomputable def Z17_F2 (w : Z17_l2_Ty) : Fam := ⟨⟨false, [1, 3, 4, 5, 6, 21, 22, 23, 32, 33], [1, 3, 4, 21, 22, 23], ⟨[], [], []⟩, ⟨[], [], []⟩⟩, [Z17_v2_0 w]⟩
noncomputable def Z17_v3_0 (w : Z17_l3_Ty) : LVar := ⟨[.sv (.v (.ptr 2 0)), .sv (.v (.ptr 3 0)), .sv (.v .bool), .sv (.v (.int .i64)), .sv (.v (.ptr 4 0)), .sv (.v (.int .i64)), .sv (.v (.wl 0 2)), .sv (.v (.int .i64)), .sv (.v (.int .i64)), .sv (.agg [.row .bool 17]), .sv (.v (.int .i64)), .sv (.v (.wl 5 1)), .sv (.v (.int .i64)), .sv (.v (.int .i64))], [.rows P0, .rows .str, .cells [.c (.wl 0 2), .c (.wl 1 1)], .cells [.row .bool 1632], .cells [.c (.int .i64), .c (.int .i64)], .rows (.int .i64)], fun n t u K => w (fun y0 y1 y2 y3 y4 y5 y6 y7 y8 y9 y10 => K (.exit 6) [(.sv (.v (.ptr 2 0))), (.sv (.v (.ptr 3 0))), (.sv (.v (.bool y0))), (.sv (.v (.int .i64 y1))), (.sv (.v (.ptr 4 0))), (.sv (.v (.wl 0 2))), (.sv (.v (.int .i64 y2))), (.sv (.v (.int .i64 y3))), (.sv (.agg [(.row .bool 17 y4)])), (.sv (.v (.int .i64 y5)))] [(.cells [(row P0 y6)]), (.cells [(row .str y7)]), (.cells [(.c (.wl 0 2)), (.c (.wl 1 1))]), (.cells [(.row .bool 1632 y8)]), (.cells [(.c (.int .i64 y9)), (.c (.int .i64 y10))])]) n t.2.2.1 t.2.2.2.1 t.2.2.2.2.2.1 t.2.2.2.2.2.2.2.1 t.2.2.2.2.2.2.2.2.1 t.2.2.2.2.2.2.2.2.2.1.1 t.2.2.2.2.2.2.2.2.2.2.1 t.2.2.2.2.2.2.2.2.2.2.2.2.1 t.2.2.2.2.2.2.2.2.2.2.2.2.2.1 u.1 u.2.1 u.2.2.2.1.1 u.2.2.2.2.1.1 u.2.2.2.2.1.2.1 u.2.2.2.2.2.1⟩
noncomputable def Z17_F3 (w : Z17_l3_Ty) : Fam := ⟨⟨false, [1, 3, 4, 5, 6, 9, 21, 22, 23, 32, 33, 51, 52, 53], [1, 3, 4, 5, 6, 21, 22, 23, 32, 33], ⟨[], [], []⟩, ⟨[], [], []⟩⟩, [Z17_v3_0 w]⟩
noncomputable def Z17_F (w0 : Z17_l0_Ty) (w1 : Z17_l1_Ty) (w2 : Z17_l2_Ty) (w3 : Z17_l3_Ty) : Nat → Fam := fun i => bif i.beq 5 then Z17_F0 w0 else bif i.beq 10 then Z17_F1 w1 else bif i.beq 16 then Z17_F2 w2 else bif i.beq 25 then Z17_F3 w3 else noFam
noncomputable def Z16_W (f : Z16_Ty) : Var := ⟨[.agg [.c (.isl P0), .c (.isl .str)]], [], fun t u K => f t.1.1 t.1.2.1 (fun y0 => K (.sv (.v (.ptr 0 0))) [(.cells [(.row .bool 1632 y0)])])⟩
noncomputable def Z16_v0_0 (w : Z16_l0_Ty) : LVar := ⟨[.sv (.v (.ptr 0 0)), .sv (.v (.ptr 1 0)), .sv (.v .bool)], [.cells [.c (.isl P0), .c (.isl .str)], .cells [.row .bool 1632]], fun n t u K => w (fun y0 => K (.exit 0) [(.sv (.v (.ptr 0 0)))] [(.cells [(.row .bool 1632 y0)])]) n t.2.2.1 u.1.1 u.1.2.1 u.2.1.1⟩
noncomputable def Z16_F0 (w : Z16_l0_Ty) : Fam := ⟨⟨false, [1, 3, 4], [3], ⟨[], [], []⟩, ⟨[], [], []⟩⟩, [Z16_v0_0 w]⟩
noncomputable def Z16_v1_0 (w : Z16_l1_Ty) : LVar := ⟨[.sv (.v (.ptr 0 0)), .sv (.v (.ptr 1 0)), .sv (.v .bool), .sv (.v (.isl P0)), .sv (.v (.int .i64)), .sv (.v (.int .i64))], [.cells [.c (.isl P0), .c (.isl .str)], .cells [.row .bool 1632]], fun n t u K => w (fun y0 y1 y2 y3 => K (.exit 2) [(.sv (.v (.ptr 0 0))), (.sv (.v (.ptr 1 0))), (.sv (.v (.bool y0)))] [(.cells [(.c (.isl P0 y1)), (.c (.isl .str y2))]), (.cells [(.row .bool 1632 y3)])]) n t.2.2.1 t.2.2.2.1 t.2.2.2.2.1 t.2.2.2.2.2.1 u.1.1 u.1.2.1 u.2.1.1⟩
noncomputable def Z16_F1 (w : Z16_l1_Ty) : Fam := ⟨⟨false, [1, 3, 4, 21, 22, 23], [1, 3, 4], ⟨[], [], []⟩, ⟨[], [], []⟩⟩, [Z16_v1_0 w]⟩
noncomputable def Z16_v2_0 (w : Z16_l2_Ty) : LVar := ⟨[.sv (.v (.ptr 0 0)), .sv (.v (.ptr 1 0)), .sv (.v .bool), .sv (.v (.int .i64)), .sv (.v (.ptr 2 0)), .sv (.v (.isl P0)), .sv (.v (.int .i64)), .sv (.v (.int .i64)), .sv (.agg [.row .bool 17]), .sv (.v (.int .i64))], [.cells [.c (.isl P0), .c (.isl .str)], .cells [.row .bool 1632], .cells [.c (.int .i64), .c (.int .i64)]], fun n t u K => w (fun y0 y1 y2 y3 y4 y5 y6 => K (.exit 4) [(.sv (.v (.ptr 0 0))), (.sv (.v (.ptr 1 0))), (.sv (.v (.bool y0))), (.sv (.v (.isl P0 y1))), (.sv (.v (.int .i64 y2))), (.sv (.v (.int .i64 y3)))] [(.cells [(.c (.isl P0 y4)), (.c (.isl .str y5))]), (.cells [(.row .bool 1632 y6)])]) n t.2.2.1 t.2.2.2.1 t.2.2.2.2.2.1 t.2.2.2.2.2.2.1 t.2.2.2.2.2.2.2.1 t.2.2.2.2.2.2.2.2.1.1 t.2.2.2.2.2.2.2.2.2.1 u.1.1 u.1.2.1 u.2.1.1 u.2.2.1.1 u.2.2.1.2.1⟩
noncomputable def Z16_F2 (w : Z16_l2_Ty) : Fam := ⟨⟨false, [1, 3, 4, 5, 6, 21, 22, 23, 32, 33], [1, 3, 4, 21, 22, 23], ⟨[], [], []⟩, ⟨[], [], []⟩⟩, [Z16_v2_0 w]⟩
noncomputable def Z16_v3_0 (w : Z16_l3_Ty) : LVar := ⟨[.sv (.v (.ptr 0 0)), .sv (.v (.ptr 1 0)), .sv (.v .bool), .sv (.v (.int .i64)), .sv (.v (.ptr 2 0)), .sv (.v (.int .i64)), .sv (.v (.isl P0)), .sv (.v (.int .i64)), .sv (.v (.int .i64)), .sv (.agg [.row .bool 17]), .sv (.v (.int .i64)), .sv (.v (.wl 3 1)), .sv (.v (.int .i64)), .sv (.v (.int .i64))], [.cells [.c (.isl P0), .c (.isl .str)], .cells [.row .bool 1632], .cells [.c (.int .i64), .c (.int .i64)], .rows (.int .i64)], fun n t u K => w (fun y0 y1 y2 y3 y4 y5 y6 y7 y8 y9 y10 y11 => K (.exit 6) [(.sv (.v (.ptr 0 0))), (.sv (.v (.ptr 1 0))), (.sv (.v (.bool y0))), (.sv (.v (.int .i64 y1))), (.sv (.v (.ptr 2 0))), (.sv (.v (.isl P0 y2))), (.sv (.v (.int .i64 y3))), (.sv (.v (.int .i64 y4))), (.sv (.agg [(.row .bool 17 y5)])), (.sv (.v (.int .i64 y6)))] [(.cells [(.c (.isl P0 y7)), (.c (.isl .str y8))]), (.cells [(.row .bool 1632 y9)]), (.cells [(.c (.int .i64 y10)), (.c (.int .i64 y11))])]) n t.2.2.1 t.2.2.2.1 t.2.2.2.2.2.1 t.2.2.2.2.2.2.1 t.2.2.2.2.2.2.2.1 t.2.2.2.2.2.2.2.2.1 t.2.2.2.2.2.2.2.2.2.1.1 t.2.2.2.2.2.2.2.2.2.2.1 t.2.2.2.2.2.2.2.2.2.2.2.2.1 t.2.2.2.2.2.2.2.2.2.2.2.2.2.1 u.1.1 u.1.2.1 u.2.1.1 u.2.2.1.1 u.2.2.1.2.1 u.2.2.2.1⟩
noncomputable def Z16_F3 (w : Z16_l3_Ty) : Fam := ⟨⟨false, [1, 3, 4, 5, 6, 9, 21, 22, 23, 32, 33, 51, 52, 53], [1, 3, 4, 5, 6, 21, 22, 23, 32, 33], ⟨[], [], []⟩, ⟨[], [], []⟩⟩, [Z16_v3_0 w]⟩
noncomputable def Z16_F (w0 : Z16_l0_Ty) (w1 : Z16_l1_Ty) (w2 : Z16_l2_Ty) (w3 : Z16_l3_Ty) : Nat → Fam := fun i => bif i.beq 5 then Z16_F0 w0 else bif i.beq 10 then Z16_F1 w1 else bif i.beq 16 then Z16_F2 w2 else bif i.beq 25 then Z16_F3 w3 else noFam
noncomputable def E_Z16 (N : Nat) : Ent := .of [Z17_W (Z17 N), Z16_W (Z16 N)]
noncomputable def E_check_height_TG (c0 : Z6_Ty) : Table := fun g => bif g.beq 45 then .of [Z6_W c0] else noEnt
noncomputable def E_check_height_T (N : Nat) : Table := E_check_height_TG (@Z6 N)
noncomputable def Z7_W (f : Z7_Ty) : Var := ⟨[.agg [.c (.wl 0 2), .c (.wl 1 1)], .v (.ptr 2 0), .v (.int .i64)], [.rows P0, .rows .str, .cells [.row .bool 1632]], fun t u K => f t.2.2.1 u.1 u.2.1 u.2.2.1.1 (fun y0 y1 y2 y3 y4 => K (.tup [(.v (.int .i64 y0)), (.v (.bool y1))]) [(.cells [(row P0 y2)]), (.cells [(row .str y3)]), (.cells [(.row .bool 1632 y4)])])⟩
noncomputable def Z7_v0_0 (w : Z7_l0_Ty) : LVar := ⟨[.sv (.v (.int .i64)), .sv (.v (.ptr 3 0)), .sv (.v (.int .i64)), .sv (.v .bool), .sv (.agg [.row .bool 17]), .sv (.v (.int .i64))], [.rows P0, .rows .str, .cells [.row .bool 1632], .cells [.c (.wl 0 2), .c (.wl 1 1)]], fun n t u K => w (fun y0 y1 y2 y3 y4 => K (.exit 0) [(.sv (.v (.int .i64 y0))), (.sv (.v (.bool y1)))] [(.cells [(row P0 y2)]), (.cells [(row .str y3)]), (.cells [(.row .bool 1632 y4)])]) n t.1 t.2.2.1 t.2.2.2.1 t.2.2.2.2.1.1 t.2.2.2.2.2.1 u.1 u.2.1 u.2.2.1.1⟩
noncomputable def Z7_F0 (w : Z7_l0_Ty) : Fam := ⟨⟨false, [2, 3, 8, 9, 18, 19], [8, 9], ⟨[], [], []⟩, ⟨[], [], []⟩⟩, [Z7_v0_0 w]⟩
noncomputable def Z7_F (w0 : Z7_l0_Ty) : Nat → Fam := fun i => bif i.beq 4 then Z7_F0 w0 else noFam
noncomputable def Z8_W (f : Z8_Ty) : Var := ⟨[.agg [.c (.isl P0), .c (.isl .str)], .v (.ptr 0 0), .v (.int .i64)], [.cells [.row .bool 1632]], fun t u K => f t.1.1 t.1.2.1 t.2.2.1 u.1.1 (fun y0 y1 y2 => K (.tup [(.v (.int .i64 y0)), (.v (.bool y1))]) [(.cells [(.row .bool 1632 y2)])])⟩
noncomputable def Z8_v0_0 (w : Z8_l0_Ty) : LVar := ⟨[.sv (.v (.int .i64)), .sv (.v (.ptr 1 0)), .sv (.v (.int .i64)), .sv (.v .bool), .sv (.agg [.row .bool 17]), .sv (.v (.int .i64))], [.cells [.row .bool 1632], .cells [.c (.isl P0), .c (.isl .str)]], fun n t u K => w (fun y0 y1 y2 => K (.exit 0) [(.sv (.v (.int .i64 y0))), (.sv (.v (.bool y1)))] [(.cells [(.row .bool 1632 y2)])]) n t.1 t.2.2.1 t.2.2.2.1 t.2.2.2.2.1.1 t.2.2.2.2.2.1 u.1.1 u.2.1.1 u.2.1.2.1⟩
noncomputable def Z8_F0 (w : Z8_l0_Ty) : Fam := ⟨⟨false, [2, 3, 8, 9, 18, 19], [8, 9], ⟨[], [], []⟩, ⟨[], [], []⟩⟩, [Z8_v0_0 w]⟩
noncomputable def Z8_F (w0 : Z8_l0_Ty) : Nat → Fam := fun i => bif i.beq 4 then Z8_F0 w0 else noFam
noncomputable def E_check_height (N : Nat) : Ent := .of [Z7_W (Z7 N), Z8_W (Z8 N)]
noncomputable def E_Z3_TG (c0 : Z7_Ty) (c1 : Z8_Ty) (c2 : Z17_Ty) (c3 : Z16_Ty) (c4 : Z14_Ty) (c5 : Z13_Ty) (c6 : Z2_Ty) : Table := fun g => bif g.beq 33 then .of [Z7_W c0, Z8_W c1] else bif g.beq 32 then .of [Z17_W c2, Z16_W c3] else bif g.beq 31 then .of [Z14_W c4, Z13_W c5] else bif g.beq 30 then .of [Z2_W c6] else noEnt
noncomputable def E_Z3_T (N : Nat) : Table := E_Z3_TG (@Z7 N) (@Z8 N) (@Z17 N) (@Z16 N) (@Z14 N) (@Z13 N) (@Z2 N)
noncomputable def Z4_W (f : Z4_Ty) : Var := ⟨[.agg [.c (.wl 0 2), .c .nils]], [.rows P0], fun t u K => f u.1 (fun y0 y1 y2 => K (.tup [(.v (.int .i64 y0)), (.v (.int .i64 y1))]) [(.cells [(row P0 y2)])])⟩
noncomputable def Z4_v0_0 (w : Z4_l0_Ty) : LVar := ⟨[.sv (.v (.ptr 1 0)), .sv (.v (.wl 2 1)), .sv (.v (.int .i64)), .sv (.v (.int .i64))], [.rows P0, .cells [.c (.wl 0 2), .c (.wl 2 1)], .rows .str], fun n t u K => w (fun y0 y1 y2 y3 => K .ret [(.sv (.v (.ptr 1 0))), (.sv (.v (.int .i64 y0))), (.sv (.v (.int .i64 y1)))] [(.cells [(row P0 y2)]), (.cells [(.c (.wl 0 2)), (.c (.wl 2 1))]), (.cells [(row .str y3)])]) (fun y0 y1 => K (.exit 0) [(.sv (.v (.ptr 1 0))), .undef, .undef] [(.cells [(row P0 y0)]), (.cells [(.c (.wl 0 2)), (.c (.wl 2 1))]), (.cells [(row .str y1)])]) n t.2.2.1 t.2.2.2.1 u.1 u.2.2.1⟩
noncomputable def Z4_F0 (w : Z4_l0_Ty) : Fam := ⟨⟨false, [1, 29, 30, 31], [1, 2, 3], ⟨[], [], []⟩, ⟨[], [], []⟩⟩, [Z4_v0_0 w]⟩
noncomputable def Z4_v1_0 (w : Z4_l1_Ty) : LVar := ⟨[.sv (.v (.ptr 1 0)), .sv (.v (.int .i64)), .sv (.v (.int .i64))], [.rows P0, .cells [.c (.wl 0 2), .c (.wl 2 1)], .rows .str], fun n t u K => w (fun y0 y1 y2 y3 => K .ret [(.sv (.v (.ptr 1 0))), (.sv (.v (.int .i64 y0))), (.sv (.v (.int .i64 y1)))] [(.cells [(row P0 y2)]), (.cells [(.c (.wl 0 2)), (.c (.wl 2 1))]), (.cells [(row .str y3)])]) (fun y0 y1 => K (.exit 2) [(.sv (.v (.ptr 1 0))), .undef, .undef] [(.cells [(row P0 y0)]), (.cells [(.c (.wl 0 2)), (.c (.wl 2 1))]), (.cells [(row .str y1)])]) n t.2.1 t.2.2.1 u.1 u.2.2.1⟩
noncomputable def Z4_F1 (w : Z4_l1_Ty) : Fam := ⟨⟨false, [1, 41, 42], [1, 2, 3], ⟨[], [], []⟩, ⟨[], [], []⟩⟩, [Z4_v1_0 w]⟩
noncomputable def Z4_v2_0 (w : Z4_l2_Ty) : LVar := ⟨[.sv (.v (.ptr 1 0)), .sv (.v (.ptr 3 0)), .sv (.v (.int .i64)), .sv (.v (.int .i64))], [.rows P0, .cells [.c (.wl 0 2), .c (.wl 2 1)], .rows .str, .cells [.row .bool 1632]], fun n t u K => w (fun y0 y1 y2 => K .ret [(.sv (.v (.int .i64 y0))), (.sv (.v (.int .i64 y1)))] [(.cells [(row P0 y2)])]) (fun y0 => K (.exit 4) [.undef, .undef] [(.cells [(row P0 y0)])]) n t.2.2.1 t.2.2.2.1 u.1 u.2.2.1 u.2.2.2.1.1⟩
noncomputable def Z4_F2 (w : Z4_l2_Ty) : Fam := ⟨⟨false, [1, 8, 57, 58], [2, 3], ⟨[], [], []⟩, ⟨[], [], []⟩⟩, [Z4_v2_0 w]⟩
noncomputable def Z4_F (w0 : Z4_l0_Ty) (w1 : Z4_l1_Ty) (w2 : Z4_l2_Ty) : Nat → Fam := fun i => bif i.beq 6 then Z4_F0 w0 else bif i.beq 15 then Z4_F1 w1 else bif i.beq 26 then Z4_F2 w2 else noFam
noncomputable def Z5_W (f : Z5_Ty) : Var := ⟨[.agg [.c (.wl 0 2), .c (.wl 1 1)]], [.rows P0, .rows .str], fun t u K => f u.1 u.2.1 (fun y0 y1 y2 y3 => K (.tup [(.v (.int .i64 y0)), (.v (.int .i64 y1))]) [(.cells [(row P0 y2)]), (.cells [(row .str y3)])])⟩
noncomputable def Z5_v0_0 (w : Z5_l0_Ty) : LVar := ⟨[.sv (.v (.ptr 2 0)), .sv (.v (.wl 1 1)), .sv (.v (.int .i64)), .sv (.v (.int .i64))], [.rows P0, .rows .str, .cells [.c (.wl 0 2), .c (.wl 1 1)]], fun n t u K => w (fun y0 y1 y2 y3 => K .ret [(.sv (.v (.ptr 2 0))), (.sv (.v (.int .i64 y0))), (.sv (.v (.int .i64 y1)))] [(.cells [(row P0 y2)]), (.cells [(row .str y3)]), (.cells [(.c (.wl 0 2)), (.c (.wl 1 1))])]) (fun y0 y1 => K (.exit 0) [(.sv (.v (.ptr 2 0))), .undef, .undef] [(.cells [(row P0 y0)]), (.cells [(row .str y1)]), (.cells [(.c (.wl 0 2)), (.c (.wl 1 1))])]) n t.2.2.1 t.2.2.2.1 u.1 u.2.1⟩
noncomputable def Z5_F0 (w : Z5_l0_Ty) : Fam := ⟨⟨false, [1, 29, 30, 31], [1, 2, 3], ⟨[], [], []⟩, ⟨[], [], []⟩⟩, [Z5_v0_0 w]⟩
noncomputable def Z5_v1_0 (w : Z5_l1_Ty) : LVar := ⟨[.sv (.v (.ptr 2 0)), .sv (.v (.int .i64)), .sv (.v (.int .i64))], [.rows P0, .rows .str, .cells [.c (.wl 0 2), .c (.wl 1 1)]], fun n t u K => w (fun y0 y1 y2 y3 => K .ret [(.sv (.v (.ptr 2 0))), (.sv (.v (.int .i64 y0))), (.sv (.v (.int .i64 y1)))] [(.cells [(row P0 y2)]), (.cells [(row .str y3)]), (.cells [(.c (.wl 0 2)), (.c (.wl 1 1))])]) (fun y0 y1 => K (.exit 2) [(.sv (.v (.ptr 2 0))), .undef, .undef] [(.cells [(row P0 y0)]), (.cells [(row .str y1)]), (.cells [(.c (.wl 0 2)), (.c (.wl 1 1))])]) n t.2.1 t.2.2.1 u.1 u.2.1⟩
noncomputable def Z5_F1 (w : Z5_l1_Ty) : Fam := ⟨⟨false, [1, 41, 42], [1, 2, 3], ⟨[], [], []⟩, ⟨[], [], []⟩⟩, [Z5_v1_0 w]⟩
noncomputable def Z5_v2_0 (w : Z5_l2_Ty) : LVar := ⟨[.sv (.v (.ptr 2 0)), .sv (.v (.ptr 3 0)), .sv (.v (.int .i64)), .sv (.v (.int .i64))], [.rows P0, .rows .str, .cells [.c (.wl 0 2), .c (.wl 1 1)], .cells [.row .bool 1632]], fun n t u K => w (fun y0 y1 y2 y3 => K .ret [(.sv (.v (.int .i64 y0))), (.sv (.v (.int .i64 y1)))] [(.cells [(row P0 y2)]), (.cells [(row .str y3)])]) (fun y0 y1 => K (.exit 4) [.undef, .undef] [(.cells [(row P0 y0)]), (.cells [(row .str y1)])]) n t.2.2.1 t.2.2.2.1 u.1 u.2.1 u.2.2.2.1.1⟩
noncomputable def Z5_F2 (w : Z5_l2_Ty) : Fam := ⟨⟨false, [1, 8, 57, 58], [2, 3], ⟨[], [], []⟩, ⟨[], [], []⟩⟩, [Z5_v2_0 w]⟩
noncomputable def Z5_F (w0 : Z5_l0_Ty) (w1 : Z5_l1_Ty) (w2 : Z5_l2_Ty) : Nat → Fam := fun i => bif i.beq 6 then Z5_F0 w0 else bif i.beq 15 then Z5_F1 w1 else bif i.beq 26 then Z5_F2 w2 else noFam
noncomputable def Z3_W (f : Z3_Ty) : Var := ⟨[.agg [.c (.isl P0), .c (.isl .str)]], [], fun t u K => f t.1.1 t.1.2.1 (fun y0 y1 => K (.tup [(.v (.int .i64 y0)), (.v (.int .i64 y1))]) [])⟩
noncomputable def Z3_v0_0 (w : Z3_l0_Ty) : LVar := ⟨[.sv (.v (.ptr 0 0)), .sv (.v (.isl .str)), .sv (.v (.int .i64)), .sv (.v (.int .i64))], [.cells [.c (.isl P0), .c (.isl .str)]], fun n t u K => w (fun y0 y1 y2 y3 => K .ret [(.sv (.v (.ptr 0 0))), (.sv (.v (.int .i64 y0))), (.sv (.v (.int .i64 y1)))] [(.cells [(.c (.isl P0 y2)), (.c (.isl .str y3))])]) (fun y0 y1 => K (.exit 0) [(.sv (.v (.ptr 0 0))), .undef, .undef] [(.cells [(.c (.isl P0 y0)), (.c (.isl .str y1))])]) n t.2.1 t.2.2.1 t.2.2.2.1 u.1.1 u.1.2.1⟩
noncomputable def Z3_F0 (w : Z3_l0_Ty) : Fam := ⟨⟨false, [1, 29, 30, 31], [1, 2, 3], ⟨[], [], []⟩, ⟨[], [], []⟩⟩, [Z3_v0_0 w]⟩
noncomputable def Z3_v1_0 (w : Z3_l1_Ty) : LVar := ⟨[.sv (.v (.ptr 0 0)), .sv (.v (.int .i64)), .sv (.v (.int .i64))], [.cells [.c (.isl P0), .c (.isl .str)]], fun n t u K => w (fun y0 y1 y2 y3 => K .ret [(.sv (.v (.ptr 0 0))), (.sv (.v (.int .i64 y0))), (.sv (.v (.int .i64 y1)))] [(.cells [(.c (.isl P0 y2)), (.c (.isl .str y3))])]) (fun y0 y1 => K (.exit 2) [(.sv (.v (.ptr 0 0))), .undef, .undef] [(.cells [(.c (.isl P0 y0)), (.c (.isl .str y1))])]) n t.2.1 t.2.2.1 u.1.1 u.1.2.1⟩
noncomputable def Z3_F1 (w : Z3_l1_Ty) : Fam := ⟨⟨false, [1, 41, 42], [1, 2, 3], ⟨[], [], []⟩, ⟨[], [], []⟩⟩, [Z3_v1_0 w]⟩
noncomputable def Z3_v2_0 (w : Z3_l2_Ty) : LVar := ⟨[.sv (.v (.ptr 0 0)), .sv (.v (.ptr 1 0)), .sv (.v (.int .i64)), .sv (.v (.int .i64))], [.cells [.c (.isl P0), .c (.isl .str)], .cells [.row .bool 1632]], fun n t u K => w (fun y0 y1 => K .ret [(.sv (.v (.int .i64 y0))), (.sv (.v (.int .i64 y1)))] []) (K (.exit 4) [.undef, .undef] []) n t.2.2.1 t.2.2.2.1 u.1.1 u.1.2.1 u.2.1.1⟩
noncomputable def Z3_F2 (w : Z3_l2_Ty) : Fam := ⟨⟨false, [1, 8, 57, 58], [2, 3], ⟨[], [], []⟩, ⟨[], [], []⟩⟩, [Z3_v2_0 w]⟩
noncomputable def Z3_F (w0 : Z3_l0_Ty) (w1 : Z3_l1_Ty) (w2 : Z3_l2_Ty) : Nat → Fam := fun i => bif i.beq 6 then Z3_F0 w0 else bif i.beq 15 then Z3_F1 w1 else bif i.beq 26 then Z3_F2 w2 else noFam
noncomputable def E_Z3 (N : Nat) : Ent := .of [Z4_W (Z4 N), Z5_W (Z5 N), Z3_W (Z3 N)]
noncomputable def E_Z0_TG (c0 : Z7_Ty) (c1 : Z8_Ty) (c2 : Z17_Ty) (c3 : Z16_Ty) (c4 : Z4_Ty) (c5 : Z5_Ty) (c6 : Z3_Ty) : Table := fun g => bif g.beq 33 then .of [Z7_W c0, Z8_W c1] else bif g.beq 32 then .of [Z17_W c2, Z16_W c3] else bif g.beq 18 then .of [Z4_W c4, Z5_W c5, Z3_W c6] else noEnt
noncomputable def E_Z0_T (N : Nat) : Table := E_Z0_TG (@Z7 N) (@Z8 N) (@Z17 N) (@Z16 N) (@Z4 N) (@Z5 N) (@Z3 N)
noncomputable def Z1_W (f : Z1_Ty) : Var := ⟨[.agg [.c (.wl 0 2), .c .nils]], [.rows P0], fun t u K => f u.1 (fun y0 y1 => K (.sv (.v (.wl 1 1))) [(.cells [(row P0 y0)]), (.cells [(row (.int .i64) y1)])])⟩
noncomputable def Z1_v0_0 (w : Z1_l0_Ty) : LVar := ⟨[.sv (.v (.ptr 1 0)), .sv (.v (.ptr 3 0)), .sv (.v (.wl 4 1)), .sv (.v (.int .i64)), .sv (.v (.int .i64))], [.rows P0, .cells [.c (.wl 0 2), .c (.wl 2 1)], .rows .str, .cells [.row .bool 1632], .rows (.int .i64)], fun n t u K => w (fun y0 y1 => K (.exit 0) [(.sv (.v (.wl 1 1)))] [(.cells [(row P0 y0)]), (.cells [(row (.int .i64) y1)])]) n t.2.2.2.1 t.2.2.2.2.1 u.1 u.2.2.1 u.2.2.2.1.1 u.2.2.2.2.1⟩
noncomputable def Z1_F0 (w : Z1_l0_Ty) : Fam := ⟨⟨false, [1, 5, 6, 21, 22], [6], ⟨[], [(2, false, (.int .i64))], []⟩, ⟨[], [], []⟩⟩, [Z1_v0_0 w]⟩
noncomputable def Z1_F (w0 : Z1_l0_Ty) : Nat → Fam := fun i => bif i.beq 9 then Z1_F0 w0 else noFam
noncomputable def Z0_W (f : Z0_Ty) : Var := ⟨[.agg [.c (.isl P0), .c (.isl .str)]], [], fun t u K => f t.1.1 t.1.2.1 (fun y0 => K (.sv (.v (.wl 0 1))) [(.cells [(row (.int .i64) y0)])])⟩
noncomputable def Z0_v0_0 (w : Z0_l0_Ty) : LVar := ⟨[.sv (.v (.ptr 0 0)), .sv (.v (.ptr 1 0)), .sv (.v (.wl 2 1)), .sv (.v (.int .i64)), .sv (.v (.int .i64))], [.cells [.c (.isl P0), .c (.isl .str)], .cells [.row .bool 1632], .rows (.int .i64)], fun n t u K => w (fun y0 => K (.exit 0) [(.sv (.v (.wl 0 1)))] [(.cells [(row (.int .i64) y0)])]) n t.2.2.2.1 t.2.2.2.2.1 u.1.1 u.1.2.1 u.2.1.1 u.2.2.1⟩
noncomputable def Z0_F0 (w : Z0_l0_Ty) : Fam := ⟨⟨false, [1, 5, 6, 21, 22], [6], ⟨[], [(2, false, (.int .i64))], []⟩, ⟨[], [], []⟩⟩, [Z0_v0_0 w]⟩
noncomputable def Z0_F (w0 : Z0_l0_Ty) : Nat → Fam := fun i => bif i.beq 9 then Z0_F0 w0 else noFam
noncomputable def E_Z0 (N : Nat) : Ent := .of [Z1_W (Z1 N), Z0_W (Z0 N)]
noncomputable def E_law11_same_TG : Table := fun _ => noEnt
noncomputable def E_law11_same_T (N : Nat) : Table := E_law11_same_TG
noncomputable def Z27_W (f : Z27_Ty) : Var := ⟨[.v (.wl 0 1), .v (.wl 1 1)], [.rows (.int .i64), .rows (.int .i64)], fun t u K => f u.1 u.2.1 (fun y0 y1 y2 => K (.sv (.v (.bool y0))) [(.cells [(row (.int .i64) y1)]), (.cells [(row (.int .i64) y2)])])⟩
noncomputable def Z27_v0_0 (w : Z27_l0_Ty) : LVar := ⟨[.sv (.v (.wl 0 1)), .sv (.v (.wl 1 1)), .sv (.v (.int .i64))], [.rows (.int .i64), .rows (.int .i64)], fun n t u K => w (fun y0 y1 y2 => K .ret [(.sv (.v (.bool y0)))] [(.cells [(row (.int .i64) y1)]), (.cells [(row (.int .i64) y2)])]) (fun y0 y1 => K (.exit 0) [.undef] [(.cells [(row (.int .i64) y0)]), (.cells [(row (.int .i64) y1)])]) n t.2.2.1 u.1 u.2.1⟩
noncomputable def Z27_F0 (w : Z27_l0_Ty) : Fam := ⟨⟨false, [0, 1, 5], [4], ⟨[], [], []⟩, ⟨[], [], []⟩⟩, [Z27_v0_0 w]⟩
noncomputable def Z27_F (w0 : Z27_l0_Ty) : Nat → Fam := fun i => bif i.beq 6 then Z27_F0 w0 else noFam
noncomputable def E_law11_same (N : Nat) : Ent := .of [Z27_W (Z27 N)]
noncomputable def E_Z26_TG (c0 : Z27_Ty) (c1 : Z1_Ty) (c2 : Z0_Ty) (c3 : Z4_Ty) (c4 : Z5_Ty) (c5 : Z3_Ty) : Table := fun g => bif g.beq 20 then .of [Z27_W c0] else bif g.beq 21 then .of [Z1_W c1, Z0_W c2] else bif g.beq 18 then .of [Z4_W c3, Z5_W c4, Z3_W c5] else noEnt
noncomputable def E_Z26_T (N : Nat) : Table := E_Z26_TG (@Z27 N) (@Z1 N) (@Z0 N) (@Z4 N) (@Z5 N) (@Z3 N)
noncomputable def Z26_W (f : Z26_Ty) : Var := ⟨[], [], fun t u K => f (fun y0 => K (.sv (.v (.bool y0))) [])⟩
noncomputable def Z26_F : Nat → Fam := fun _ => noFam
noncomputable def E_Z26 (N : Nat) : Ent := .of [Z26_W (Z26 N)]
noncomputable def E_Z24_1_TG : Table := fun _ => noEnt
noncomputable def E_Z24_1_T (N : Nat) : Table := E_Z24_1_TG
noncomputable def Z25_W (f : Z25_Ty) : Var := ⟨[.v (.wl 0 2)], [.rows P0], fun t u K => f u.1 (fun y0 y1 => K (.sv (.agg [(.c (.wl 0 2)), (.c (.wl 1 1))])) [(.cells [(row P0 y0)]), (.cells [(row .str y1)])])⟩
noncomputable def Z25_F : Nat → Fam := fun _ => noFam
noncomputable def E_Z24_1 (N : Nat) : Ent := .of [Z25_W (Z25 N)]
noncomputable def E_Z24_TG (c0 : Z27_Ty) (c1 : Z4_Ty) (c2 : Z5_Ty) (c3 : Z3_Ty) (c4 : Z1_Ty) (c5 : Z0_Ty) (c6 : Z25_Ty) (c7 : Z26_Ty) : Table := fun g => bif g.beq 20 then .of [Z27_W c0] else bif g.beq 18 then .of [Z4_W c1, Z5_W c2, Z3_W c3] else bif g.beq 21 then .of [Z1_W c4, Z0_W c5] else bif g.beq 22 then .of [Z25_W c6] else bif g.beq 16 then .of [Z26_W c7] else noEnt
noncomputable def E_Z24_T (N : Nat) : Table := E_Z24_TG (@Z27 N) (@Z4 N) (@Z5 N) (@Z3 N) (@Z1 N) (@Z0 N) (@Z25 N) (@Z26 N)
noncomputable def Z24_W (f : Z24_Ty) : Var := ⟨[], [], fun t u K => f (fun y0 => K (.sv (.v (.bool y0))) [])⟩
noncomputable def Z24_v0_0 (w : Z24_l0_Ty) : LVar := ⟨[.sv (.v (.ptr 0 0)), .sv (.v (.ptr 1 0)), .sv (.v (.wl 2 2)), .sv (.v (.wl 3 1)), .sv (.v (.wl 4 1)), .sv (.v (.int .i64))], [.cells [.c (.int .i64), .c (.int .i64)], .cells [.c (.int .i64), .c (.int .i64)], .rows (.pair (.isl P0) (.isl .str)), .rows (.int .i64), .rows (.int .i64)], fun n t u K => w (fun y0 y1 y2 y3 y4 y5 => K .ret [(.sv (.v (.bool y0))), (.sv (.v (.ptr 0 0))), (.sv (.v (.ptr 1 0))), (.sv (.v (.wl 2 2)))] [(.cells [(.c (.int .i64 y1)), (.c (.int .i64 y2))]), (.cells [(.c (.int .i64 y3)), (.c (.int .i64 y4))]), (.cells [(row (.pair (.isl P0) (.isl .str)) y5)])]) (fun y0 y1 y2 y3 y4 => K (.exit 0) [.undef, (.sv (.v (.ptr 0 0))), (.sv (.v (.ptr 1 0))), (.sv (.v (.wl 2 2)))] [(.cells [(.c (.int .i64 y0)), (.c (.int .i64 y1))]), (.cells [(.c (.int .i64 y2)), (.c (.int .i64 y3))]), (.cells [(row (.pair (.isl P0) (.isl .str)) y4)])]) n t.2.2.2.2.2.1 u.1.1 u.1.2.1 u.2.1.1 u.2.1.2.1 u.2.2.1 u.2.2.2.1 u.2.2.2.2.1⟩
noncomputable def Z24_F0 (w : Z24_l0_Ty) : Fam := ⟨⟨false, [2, 3, 5, 6, 7, 8], [0, 2, 3, 5], ⟨[], [], []⟩, ⟨[], [], []⟩⟩, [Z24_v0_0 w]⟩
noncomputable def Z24_v1_0 (w : Z24_l1_Ty) : LVar := ⟨[.sv (.v (.ptr 0 0)), .sv (.v (.ptr 1 0)), .sv (.v (.wl 2 2)), .sv (.v (.ptr 3 0)), .sv (.v (.int .i64))], [.cells [.c (.int .i64), .c (.int .i64)], .cells [.c (.int .i64), .c (.int .i64)], .rows (.pair (.isl P0) (.isl .str)), .cells [.c (.wl 4 2), .c (.wl 5 1)], .rows P0, .rows .str], fun n t u K => w (fun y0 y1 y2 y3 y4 y5 y6 => K (.exit 2) [(.sv (.v (.ptr 0 0))), (.sv (.v (.ptr 1 0))), (.sv (.v (.wl 2 2))), (.sv (.v (.ptr 3 0)))] [(.cells [(.c (.int .i64 y0)), (.c (.int .i64 y1))]), (.cells [(.c (.int .i64 y2)), (.c (.int .i64 y3))]), (.cells [(row (.pair (.isl P0) (.isl .str)) y4)]), (.cells [(.c (.wl 4 2)), (.c (.wl 5 1))]), (.cells [(row P0 y5)]), (.cells [(row .str y6)])]) n t.2.2.2.2.1 u.1.1 u.1.2.1 u.2.1.1 u.2.1.2.1 u.2.2.1 u.2.2.2.2.1 u.2.2.2.2.2.1⟩
noncomputable def Z24_F1 (w : Z24_l1_Ty) : Fam := ⟨⟨false, [2, 3, 5, 11, 12], [2, 3, 5, 11], ⟨[], [], []⟩, ⟨[], [], []⟩⟩, [Z24_v1_0 w]⟩
noncomputable def Z24_F (w0 : Z24_l0_Ty) (w1 : Z24_l1_Ty) : Nat → Fam := fun i => bif i.beq 11 then Z24_F0 w0 else bif i.beq 21 then Z24_F1 w1 else noFam
noncomputable def E_Z24 (N : Nat) : Ent := .of [Z24_W (Z24 N)]
end Go.Proofs.Ytppmkhgpljkljaa
