/-
  Their entries (printed by a program of this work).
-/
import Derived.Test.YtdopealphpmaeaaProg
import Derived.Test.YtdopealphpmaeaaD
set_option linter.unusedVariables false
set_option maxRecDepth 100000
namespace Go.Proofs.Ytdopealphpmaeaa
open Go.Gx
noncomputable section
abbrev P0 : Sh := .pair (.int .i64) (.pair (.int .i64) (.pair (.int .u16) (.pair (.int .i64) (.pair (.int .i64) (.int .i64)))))
abbrev P1 : Sh := .pair .str (.pair .bool (.int .i64))
abbrev P2 : Sh := .pair (.int .i64) (.int .i64)
abbrev P3 : Sh := .pair (.int .i64) .bool
abbrev P4 : Sh := .pair .str .str
abbrev P5 : Sh := .pair (.int .i64) (.pair (.int .u16) (.pair (.int .u16) (.pair (.isl (.int .u8)) P4)))
def G0 := fun a0 a1 a2 a3 a4 => ([(.cells [(.c (.ptr 1 0)), (.c (.wl 3 1)), (.c (.wl 4 1)), (.row (.int .i64) 4 a0)]), (.cells [(.c (.wl 2 3)), (.c (.int .i64 a1))]), (.cells [(row P1 a2)]), (.cells [(row (.isl (.int .u8)) a3)]), (.cells [(row (.ref false 246) a4)])] : List Gx.Obj)
abbrev G1 : List Gx.PObj := [.cells [.c (.ptr 1 0), .c (.map 3), .c (.wl 4 2), .row (.int .i64) 4, .c (.int .i64)], .cells [.c (.map 2), .c (.int .i64)], .map P4 P3 true true, .map (.int .i64) (.isl (.int .i64)) false false, .rows P2]
def G2 := fun a0 a1 a2 a3 a4 a5 => ([(.cells [(.c (.ptr 1 0)), (.c (.map 3)), (.c (.wl 4 2)), (.row (.int .i64) 4 a0), (.c (.int .i64 a1))]), (.cells [(.c (.map 2)), (.c (.int .i64 a2))]), (.map P4 P3 true true a3), (.map (.int .i64) (.isl (.int .i64)) false false a4), (.cells [(row P2 a5)])] : List Gx.Obj)
def G3 := fun a0 a1 a2 a3 a4 a5 => ([(.cells [(.c (.ptr 1 0)), (.c (.wl 3 1)), (.c (.wl 4 1)), (.row (.int .i64) 4 a0)]), (.cells [(.c (.wl 2 3)), (.c (.int .i64 a1))]), (.cells [(row P1 a2)]), (.cells [(row (.isl (.int .u8)) a3)]), (.cells [(row (.ref false 246) a4)]), (.pool false 246 P2 a5)] : List Gx.Obj)
abbrev G4 : List Gx.PObj := [.cells [.c (.ptr 1 0), .c (.wl 3 1), .c (.wl 4 1), .row (.int .i64) 4], .cells [.c (.wl 2 3), .c (.int .i64)], .rows P1, .rows (.isl (.int .u8)), .rows (.ref false 246)]
def G5 := fun a0 a1 a2 a3 a4 a5 a6 a7 => ([(.cells [(row P1 a0)]), (.cells [(row (.isl (.int .i64)) a1)]), (.cells [(.c (.ptr 3 0)), (.c (.map 5)), (.c (.wl 6 2)), (.row (.int .i64) 4 a2), (.c (.int .i64 a3))]), (.cells [(.c (.map 4)), (.c (.int .i64 a4))]), (.map P4 P3 true true a5), (.map (.int .i64) (.isl (.int .i64)) false false a6), (.cells [(row P2 a7)])] : List Gx.Obj)
abbrev G6 : List Gx.PObj := [.cells [.c (.ptr 1 0), .c (.wl 3 1), .c (.wl 4 1), .row (.int .i64) 4], .cells [.c (.wl 2 3), .c (.int .i64)], .rows P1, .rows (.isl (.int .u8)), .rows (.ref false 246), .pool false 246 P2]
def G7 := fun a0 a1 a2 a3 a4 a5 a6 => ([(.cells [(row (.isl (.int .i64)) a0)]), (.cells [(.c (.ptr 2 0)), (.c (.map 4)), (.c (.wl 5 2)), (.row (.int .i64) 4 a1), (.c (.int .i64 a2))]), (.cells [(.c (.map 3)), (.c (.int .i64 a3))]), (.map P4 P3 true true a4), (.map (.int .i64) (.isl (.int .i64)) false false a5), (.cells [(row P2 a6)])] : List Gx.Obj)
abbrev G8 : List Gx.PObj := [.cells [.c (.wl 1 6), .c (.map 2), .c (.map 3)], .rows P0, .map P0 (.int .i64) true false, .map (.int .i64) (.int .i64) false false]
def G9 := fun a0 a1 a2 => ([(.cells [(.c (.wl 4 6)), (.c (.map 2)), (.c (.map 3))]), .dead, (.map P0 (.int .i64) true false a0), (.map (.int .i64) (.int .i64) false false a1), (.cells [(row P0 a2)])] : List Gx.Obj)
abbrev G10 : List Gx.PObj := [.cells [.c (.wl 1 6), .c (.map 2), .c (.map 3)], .rows P0, .map P0 (.int .i64) true false, .map (.int .i64) (.int .i64) false false, .cells [.c (.ptr 5 0), .c (.map 7), .c (.wl 8 2), .row (.int .i64) 4, .c (.int .i64)], .cells [.c (.map 6), .c (.int .i64)], .map P4 P3 true true, .map (.int .i64) (.isl (.int .i64)) false false, .rows P2, .cells [.c (.ptr 10 0), .c (.wl 12 1), .c (.wl 13 1), .row (.int .i64) 4], .cells [.c (.wl 11 3), .c (.int .i64)], .rows P1, .rows (.isl (.int .u8)), .rows (.ref false 246), .pool false 246 P2]
def G11 := fun a0 a1 a2 a3 a4 a5 a6 => ([(.cells [(.c (.ptr 1 0)), (.c (.map 3)), (.c (.wl 4 2)), (.row (.int .i64) 4 a0), (.c (.int .i64 a1))]), (.cells [(.c (.map 2)), (.c (.int .i64 a2))]), (.map P4 P3 true true a3), (.map (.int .i64) (.isl (.int .i64)) false false a4), (.cells [(row P2 a5)]), (.cells [(row (.int .i64) a6)])] : List Gx.Obj)
abbrev G12 : List Gx.PObj := [.cells [.c (.wl 1 6), .c (.map 2), .c (.map 3)], .rows P0, .map P0 (.int .i64) true false, .map (.int .i64) (.int .i64) false false, .cells [.c (.ptr 5 0), .c (.map 7), .c (.wl 8 2), .row (.int .i64) 4, .c (.int .i64)], .cells [.c (.map 6), .c (.int .i64)], .map P4 P3 true true, .map (.int .i64) (.isl (.int .i64)) false false, .rows P2, .cells [.c (.ptr 10 0), .c (.wl 12 1), .c (.wl 13 1), .row (.int .i64) 4], .cells [.c (.wl 11 3), .c (.int .i64)], .rows P1, .rows (.isl (.int .u8)), .rows (.ref false 246)]
def G13 := fun a0 a1 a2 => ([(.cells [(.c (.wl 1 6)), (.c (.map 2)), (.c (.map 3))]), (.cells [(row P0 a0)]), (.map P0 (.int .i64) true false a1), (.map (.int .i64) (.int .i64) false false a2)] : List Gx.Obj)
def G14 := fun a0 a1 => ([(.cells [(.c (.wl 1 3)), (.c (.int .i64 a0))]), (.cells [(row P1 a1)])] : List Gx.Obj)
def G15 := fun a0 a1 => ([(.cells [(.c (.map 1)), (.c (.int .i64 a0))]), (.map P4 P3 true true a1)] : List Gx.Obj)
def G16 := fun a0 a1 a2 a3 a4 a5 a6 a7 a8 a9 a10 a11 a12 a13 a14 a15 => ([(.cells [(.c (.wl 15 6)), (.c (.map 2)), (.c (.map 3))]), .dead, (.map P0 (.int .i64) true false a0), (.map (.int .i64) (.int .i64) false false a1), (.cells [(.c (.ptr 5 0)), (.c (.map 7)), (.c (.wl 16 2)), (.row (.int .i64) 4 a2), (.c (.int .i64 a3))]), (.cells [(.c (.map 6)), (.c (.int .i64 a4))]), (.map P4 P3 true true a5), (.map (.int .i64) (.isl (.int .i64)) false false a6), .dead, (.cells [(.c (.ptr 10 0)), (.c (.wl 17 1)), (.c (.wl 18 1)), (.row (.int .i64) 4 a7)]), (.cells [(.c (.wl 19 3)), (.c (.int .i64 a8))]), (.cells [(row P1 a9)]), .dead, .dead, (.pool false 246 P2 a10), (.cells [(row P0 a11)]), (.cells [(row P2 a12)]), (.cells [(row (.isl (.int .u8)) a13)]), (.cells [(row (.ref false 246) a14)]), (.cells [(row P1 a15)])] : List Gx.Obj)
def G17 := fun a0 a1 a2 a3 a4 a5 a6 a7 a8 a9 a10 a11 a12 a13 a14 => ([(.cells [(.c (.wl 14 6)), (.c (.map 2)), (.c (.map 3))]), .dead, (.map P0 (.int .i64) true false a0), (.map (.int .i64) (.int .i64) false false a1), (.cells [(.c (.ptr 5 0)), (.c (.map 7)), (.c (.wl 15 2)), (.row (.int .i64) 4 a2), (.c (.int .i64 a3))]), (.cells [(.c (.map 6)), (.c (.int .i64 a4))]), (.map P4 P3 true true a5), (.map (.int .i64) (.isl (.int .i64)) false false a6), .dead, (.cells [(.c (.ptr 10 0)), (.c (.wl 16 1)), (.c (.wl 17 1)), (.row (.int .i64) 4 a7)]), (.cells [(.c (.wl 19 3)), (.c (.int .i64 a8))]), .dead, .dead, .dead, (.cells [(row P0 a9)]), (.cells [(row P2 a10)]), (.cells [(row (.isl (.int .u8)) a11)]), (.cells [(row (.ref false 246) a12)]), (.pool false 246 P2 a13), (.cells [(row P1 a14)])] : List Gx.Obj)
def G18 := fun a0 a1 a2 a3 a4 a5 a6 a7 a8 a9 a10 a11 a12 a13 a14 => ([(.cells [(.c (.wl 15 6)), (.c (.map 2)), (.c (.map 3))]), .dead, (.map P0 (.int .i64) true false a0), (.map (.int .i64) (.int .i64) false false a1), (.cells [(.c (.ptr 5 0)), (.c (.map 7)), (.c (.wl 16 2)), (.row (.int .i64) 4 a2), (.c (.int .i64 a3))]), (.cells [(.c (.map 6)), (.c (.int .i64 a4))]), (.map P4 P3 true true a5), (.map (.int .i64) (.isl (.int .i64)) false false a6), .dead, (.cells [(.c (.ptr 10 0)), (.c (.wl 17 1)), (.c (.wl 18 1)), (.row (.int .i64) 4 a7)]), (.cells [(.c (.wl 19 3)), (.c (.int .i64 a8))]), .dead, .dead, .dead, (.pool false 246 P2 a9), (.cells [(row P0 a10)]), (.cells [(row P2 a11)]), (.cells [(row (.isl (.int .u8)) a12)]), (.cells [(row (.ref false 246) a13)]), (.cells [(row P1 a14)])] : List Gx.Obj)
def G19 := fun a0 a1 a2 a3 a4 a5 a6 a7 a8 a9 a10 a11 a12 a13 a14 => ([(.cells [(.c (.wl 14 6)), (.c (.map 2)), (.c (.map 3))]), .dead, (.map P0 (.int .i64) true false a0), (.map (.int .i64) (.int .i64) false false a1), (.cells [(.c (.ptr 5 0)), (.c (.map 7)), (.c (.wl 15 2)), (.row (.int .i64) 4 a2), (.c (.int .i64 a3))]), (.cells [(.c (.map 6)), (.c (.int .i64 a4))]), (.map P4 P3 true true a5), (.map (.int .i64) (.isl (.int .i64)) false false a6), .dead, (.cells [(.c (.ptr 10 0)), (.c (.wl 16 1)), (.c (.wl 17 1)), (.row (.int .i64) 4 a7)]), (.cells [(.c (.wl 18 3)), (.c (.int .i64 a8))]), (.cells [(row P1 a9)]), .dead, .dead, (.cells [(row P0 a10)]), (.cells [(row P2 a11)]), (.cells [(row (.isl (.int .u8)) a12)]), (.cells [(row (.ref false 246) a13)]), (.cells [(row P1 a14)])] : List Gx.Obj)
def G20 := fun a0 a1 a2 a3 a4 a5 a6 a7 a8 a9 a10 a11 a12 a13 => ([(.cells [(.c (.wl 14 6)), (.c (.map 2)), (.c (.map 3))]), .dead, (.map P0 (.int .i64) true false a0), (.map (.int .i64) (.int .i64) false false a1), (.cells [(.c (.ptr 5 0)), (.c (.map 7)), (.c (.wl 15 2)), (.row (.int .i64) 4 a2), (.c (.int .i64 a3))]), (.cells [(.c (.map 6)), (.c (.int .i64 a4))]), (.map P4 P3 true true a5), (.map (.int .i64) (.isl (.int .i64)) false false a6), .dead, (.cells [(.c (.ptr 10 0)), (.c (.wl 16 1)), (.c (.wl 17 1)), (.row (.int .i64) 4 a7)]), (.cells [(.c (.wl 18 3)), (.c (.int .i64 a8))]), .dead, .dead, .dead, (.cells [(row P0 a9)]), (.cells [(row P2 a10)]), (.cells [(row (.isl (.int .u8)) a11)]), (.cells [(row (.ref false 246) a12)]), (.cells [(row P1 a13)])] : List Gx.Obj)
abbrev G21 : List Gx.PObj := [.cells [.c (.map 1), .c (.int .i64)], .map P4 P3 true true]
abbrev G22 : List Gx.PObj := [.cells [.c (.wl 1 3), .c (.int .i64)], .rows P1]
def G23 := fun a0 a1 a2 a3 a4 a5 a6 => ([(.cells [(.c (.ptr 1 0)), (.c (.wl 3 1)), (.c (.wl 4 1)), (.row (.int .i64) 4 a0)]), (.cells [(.c (.wl 2 3)), (.c (.int .i64 a1))]), (.cells [(row P1 a2)]), (.cells [(row (.isl (.int .u8)) a3)]), (.cells [(row (.ref false 246) a4)]), (.pool false 246 P2 a5), (.cells [(row (.int .u8) a6)])] : List Gx.Obj)
def G24 := fun a0 a1 a2 a3 a4 a5 => ([(.cells [(.c (.ptr 1 0)), (.c (.wl 6 1)), (.c (.wl 4 1)), (.row (.int .i64) 4 a0)]), (.cells [(.c (.wl 7 3)), (.c (.int .i64 a1))]), .dead, .dead, (.cells [(row (.ref false 246) a2)]), (.pool false 246 P2 a3), (.cells [(row (.isl (.int .u8)) a4)]), (.cells [(row P1 a5)])] : List Gx.Obj)
def G25 := fun a0 a1 a2 a3 a4 => ([(.cells [(.c (.ptr 1 0)), (.c (.wl 5 1)), (.c (.wl 4 1)), (.row (.int .i64) 4 a0)]), (.cells [(.c (.wl 6 3)), (.c (.int .i64 a1))]), .dead, .dead, (.cells [(row (.ref false 246) a2)]), (.cells [(row (.isl (.int .u8)) a3)]), (.cells [(row P1 a4)])] : List Gx.Obj)
def G26 := fun a0 a1 a2 a3 a4 a5 a6 a7 a8 => ([(.cells [(.c (.wl 4 6)), (.c (.map 2)), (.c (.map 3))]), .dead, (.map P0 (.int .i64) true false a0), (.map (.int .i64) (.int .i64) false false a1), (.cells [(row P0 a2)]), (.cells [(.c (.ptr 6 0)), (.c (.map 8)), (.c (.wl 9 2)), (.row (.int .i64) 4 a3), (.c (.int .i64 a4))]), (.cells [(.c (.map 7)), (.c (.int .i64 a5))]), (.map P4 P3 true true a6), (.map (.int .i64) (.isl (.int .i64)) false false a7), (.cells [(row P2 a8)])] : List Gx.Obj)
def G27 := fun a0 a1 a2 a3 => ([(.cells [(.c (.wl 1 6)), (.c (.map 2)), (.c (.map 3))]), (.cells [(row P0 a0)]), (.map P0 (.int .i64) true false a1), (.map (.int .i64) (.int .i64) false false a2), (.cells [(row (.int .i64) a3)])] : List Gx.Obj)
def G28 := fun a0 a1 a2 a3 a4 a5 a6 a7 => ([(.cells [(.c (.wl 4 6)), (.c (.map 2)), (.c (.map 3))]), .dead, (.map P0 (.int .i64) true false a0), (.map (.int .i64) (.int .i64) false false a1), (.cells [(row P0 a2)]), (.cells [(.c (.ptr 6 0)), (.c (.wl 8 1)), (.c (.wl 9 1)), (.row (.int .i64) 4 a3)]), (.cells [(.c (.wl 7 3)), (.c (.int .i64 a4))]), (.cells [(row P1 a5)]), (.cells [(row (.isl (.int .u8)) a6)]), (.cells [(row (.ref false 246) a7)])] : List Gx.Obj)
abbrev G29 : List Gx.PObj := [.rows P1, .rows (.isl (.int .i64)), .cells [.c (.ptr 3 0), .c (.map 5), .c (.wl 6 2), .row (.int .i64) 4, .c (.int .i64)], .cells [.c (.map 4), .c (.int .i64)], .map P4 P3 true true, .map (.int .i64) (.isl (.int .i64)) false false, .rows P2]
abbrev G30 : List Gx.PObj := [.rows (.isl (.int .i64)), .cells [.c (.ptr 2 0), .c (.map 4), .c (.wl 5 2), .row (.int .i64) 4, .c (.int .i64)], .cells [.c (.map 3), .c (.int .i64)], .map P4 P3 true true, .map (.int .i64) (.isl (.int .i64)) false false, .rows P2]
abbrev G31 : List Gx.PObj := [.cells [.c (.ptr 1 0), .c (.map 3), .c (.wl 4 2), .row (.int .i64) 4, .c (.int .i64)], .cells [.c (.map 2), .c (.int .i64)], .map P4 P3 true true, .map (.int .i64) (.isl (.int .i64)) false false, .rows P2, .rows (.int .i64)]
abbrev G32 : List Gx.PObj := [.cells [.c (.ptr 1 0), .c (.wl 3 1), .c (.wl 4 1), .row (.int .i64) 4], .cells [.c (.wl 2 3), .c (.int .i64)], .rows P1, .rows (.isl (.int .u8)), .rows (.ref false 246), .pool false 246 P2, .rows (.int .u8)]
abbrev G33 : List Gx.PObj := [.cells [.c (.ptr 1 0), .c (.wl 6 1), .c (.wl 4 1), .row (.int .i64) 4], .cells [.c (.wl 7 3), .c (.int .i64)], .dead, .dead, .rows (.ref false 246), .pool false 246 P2, .rows (.isl (.int .u8)), .rows P1]
def G34 := fun a0 a1 a2 a3 a4 => ([(.cells [(.c (.wl 5 6)), (.c (.map 2)), (.c (.map 3))]), .dead, (.map P0 (.int .i64) true false a0), (.map (.int .i64) (.int .i64) false false a1), (.cells [(row (.int .u8) a2)]), (.cells [(row P0 a3)]), (.cells [(row (.int .i64) a4)])] : List Gx.Obj)
abbrev G35 : List Gx.PObj := [.cells [.c (.ptr 1 0), .c (.wl 5 1), .c (.wl 4 1), .row (.int .i64) 4], .cells [.c (.wl 6 3), .c (.int .i64)], .dead, .dead, .rows (.ref false 246), .rows (.isl (.int .u8)), .rows P1]
def G36 := fun a0 a1 a2 a3 => ([(.cells [(.c (.wl 4 6)), (.c (.map 2)), (.c (.map 3))]), .dead, (.map P0 (.int .i64) true false a0), (.map (.int .i64) (.int .i64) false false a1), (.cells [(row P0 a2)]), (.cells [(row (.int .i64) a3)])] : List Gx.Obj)
def G37 := fun a0 a1 a2 => ([(.cells [(row P1 a0)]), (.cells [(.c (.map 2)), (.c (.int .i64 a1))]), (.map P4 P3 true true a2)] : List Gx.Obj)
abbrev G38 : List Gx.PObj := [.cells [.c (.wl 1 6), .c (.map 2), .c (.map 3)], .rows P0, .map P0 (.int .i64) true false, .map (.int .i64) (.int .i64) false false, .rows (.int .i64)]
def G39 := fun a0 a1 a2 => ([(.cells [(.c (.wl 2 3)), (.c (.int .i64 a0))]), (.cells [(row P1 a1)]), (.cells [(row P1 a2)])] : List Gx.Obj)
def E_Z107_TG : Table := fun _ => cfgEnt [246]
def E_Z107_T (N : Nat) : Table := E_Z107_TG
def Z107_W (f : Z107_Ty) : Var := ⟨[], [], fun t u K => f (fun y0 y1 y2 => K (.sv (.v (.ptr 0 0))) (G13 y0 y1 y2))⟩
def Z107_F : Nat → Fam := fun _ => noFam
def E_Z107 (N : Nat) : Ent := .of [Z107_W (Z107 N)]
def E_Z120_TG : Table := fun _ => cfgEnt [246]
def E_Z120_T (N : Nat) : Table := E_Z120_TG
def Z120_W (f : Z120_Ty) : Var := ⟨[.v (.int .i64)], [], fun t u K => f t.1 (fun y0 => K (.sv (.v (.bool y0))) [])⟩
def Z120_F : Nat → Fam := fun _ => noFam
def E_Z120 (N : Nat) : Ent := .of [Z120_W (Z120 N)]
def E_Z119_TG (c0 : Z120_Ty) : Table := fun g => bif g.beq 75 then .of [Z120_W c0] else cfgEnt [246]
def E_Z119_T (N : Nat) : Table := E_Z119_TG (@Z120 N)
def Z119_W (f : Z119_Ty) : Var := ⟨[.v (.int .i64)], [], fun t u K => f t.1 (fun y0 => K (.sv (.v (.int .u16 y0))) [])⟩
def Z119_F : Nat → Fam := fun _ => noFam
def E_Z119 (N : Nat) : Ent := .of [Z119_W (Z119 N)]
def E_Y25_TG : Table := fun _ => cfgEnt [246]
def E_Y25_T (N : Nat) : Table := E_Y25_TG
def Z106_W (f : Z106_Ty) : Var := ⟨[.v (.ptr 0 0), .agg [.c (.int .i64), .c (.int .i64), .c (.int .u16), .c (.int .i64), .c (.int .i64), .c (.int .i64)]], G8, fun t u K => f t.2.1.1 t.2.1.2.1 t.2.1.2.2.1 t.2.1.2.2.2.1 t.2.1.2.2.2.2.1 t.2.1.2.2.2.2.2.1 u.2.1 u.2.2.1 u.2.2.2.1 (fun y0 y1 y2 y3 y4 => K (.tup [(.v (.int .i64 y0)), (.v (.int .i64 y1))]) (G9 y2 y3 y4))⟩
def Z106_F : Nat → Fam := fun _ => noFam
def E_Y25 (N : Nat) : Ent := .of [Z106_W (Z106 N)]
def E_Y20_TG (c0 : Z106_Ty) (c1 : Z119_Ty) (c2 : Z120_Ty) : Table := fun g => bif g.beq 76 then .of [Z106_W c0] else bif g.beq 77 then .of [Z119_W c1] else bif g.beq 75 then .of [Z120_W c2] else cfgEnt [246]
def E_Y20_T (N : Nat) : Table := E_Y20_TG (@Z106 N) (@Z119 N) (@Z120 N)
def Z101_W (f : Z101_Ty) : Var := ⟨[.v (.ptr 0 0), .v (.int .i64), .v (.int .u16)], G8, fun t u K => f t.2.1 t.2.2.1 u.2.1 u.2.2.1 u.2.2.2.1 (fun y0 y1 y2 y3 y4 => K (.tup [(.v (.int .i64 y0)), (.v (.int .i64 y1))]) (G9 y2 y3 y4))⟩
def Z101_F : Nat → Fam := fun _ => noFam
def E_Y20 (N : Nat) : Ent := .of [Z101_W (Z101 N)]
def E_Y23_TG (c0 : Z106_Ty) (c1 : Z120_Ty) : Table := fun g => bif g.beq 76 then .of [Z106_W c0] else bif g.beq 75 then .of [Z120_W c1] else cfgEnt [246]
def E_Y23_T (N : Nat) : Table := E_Y23_TG (@Z106 N) (@Z120 N)
def Z104_W (f : Z104_Ty) : Var := ⟨[.v (.ptr 0 0), .v (.int .i64), .v (.int .i64)], G8, fun t u K => f t.2.1 t.2.2.1 u.2.1 u.2.2.1 u.2.2.2.1 (fun y0 y1 y2 y3 y4 => K (.tup [(.v (.int .i64 y0)), (.v (.int .i64 y1))]) (G9 y2 y3 y4))⟩
def Z104_F : Nat → Fam := fun _ => noFam
def E_Y23 (N : Nat) : Ent := .of [Z104_W (Z104 N)]
def E_Z100_TG (c0 : stringslite_IndexByte_Ty) : Table := fun g => bif g.beq 122 then .of [stringslite_IndexByte_W c0] else cfgEnt [246]
def E_Z100_T (N : Nat) : Table := E_Z100_TG @stringslite_IndexByte
def Z100_W (f : Z100_Ty) : Var := ⟨[.v .str, .v .str], [], fun t u K => f t.1 t.2.1 (fun y0 => K (.sv (.v (.int .i64 y0))) [])⟩
def Z100_F : Nat → Fam := fun _ => noFam
def E_Z100 (N : Nat) : Ent := .of [Z100_W (Z100 N)]
def E_Z99_TG (c0 : Z100_Ty) : Table := fun g => bif g.beq 121 then .of [Z100_W c0] else cfgEnt [246]
def E_Z99_T (N : Nat) : Table := E_Z99_TG (@Z100 N)
def Z99_W (f : Z99_Ty) : Var := ⟨[.v .str, .v .str], [], fun t u K => f t.1 t.2.1 (fun y0 y1 y2 => K (.tup [(.v (.str y0)), (.v (.str y1)), (.v (.bool y2))]) [])⟩
def Z99_F : Nat → Fam := fun _ => noFam
def E_Z99 (N : Nat) : Ent := .of [Z99_W (Z99 N)]
def E_Z98_TG (c0 : Z99_Ty) : Table := fun g => bif g.beq 116 then .of [Z99_W c0] else cfgEnt [246]
def E_Z98_T (N : Nat) : Table := E_Z98_TG (@Z99 N)
def Z98_W (f : Z98_Ty) : Var := ⟨[.v .str, .v .str], [], fun t u K => f t.1 t.2.1 (fun y0 y1 y2 => K (.tup [(.v (.str y0)), (.v (.str y1)), (.v (.bool y2))]) [])⟩
def Z98_F : Nat → Fam := fun _ => noFam
def E_Z98 (N : Nat) : Ent := .of [Z98_W (Z98 N)]
def E_Z1_TG : Table := fun _ => cfgEnt [246]
def E_Z1_T (N : Nat) : Table := E_Z1_TG
def Z1_W (f : Z1_Ty) : Var := ⟨[.v (.int .u8)], [], fun t u K => f t.1 (fun y0 => K (.sv (.v (.bool y0))) [])⟩
def Z1_F : Nat → Fam := fun _ => noFam
def E_Z1 (N : Nat) : Ent := .of [Z1_W (Z1 N)]
def E_Z2_TG (c0 : Z1_Ty) : Table := fun g => bif g.beq 117 then .of [Z1_W c0] else cfgEnt [246]
def E_Z2_T (N : Nat) : Table := E_Z2_TG (@Z1 N)
def Z2_W (f : Z2_Ty) : Var := ⟨[.v .str], [], fun t u K => f t.1 (fun y0 => K (.sv (.v (.bool y0))) [])⟩
def Z2_v0_0 (w : Z2_l0_Ty) : LVar := ⟨[.sv (.v .str), .sv (.v (.int .i64)), .sv (.v (.int .i64))], [], fun n t u K => w (fun y0 y1 => K .ret [(.sv (.v (.str y0))), (.sv (.v (.bool y1)))] []) (fun y0 => K (.exit 0) [(.sv (.v (.str y0))), .undef] []) n t.1 t.2.1 t.2.2.1⟩
def Z2_F0 (w : Z2_l0_Ty) : Fam := ⟨⟨false, [0, 5, 6], [0, 2], ⟨[], [], []⟩, ⟨[], [], []⟩⟩, [Z2_v0_0 w]⟩
def Z2_F (w0 : Z2_l0_Ty) : Nat → Fam := fun i => bif i.beq 3 then Z2_F0 w0 else noFam
def E_Z2 (N : Nat) : Ent := .of [Z2_W (Z2 N)]
def E_Z0_TG (c0 : Z2_Ty) (c1 : Z98_Ty) : Table := fun g => bif g.beq 114 then .of [Z2_W c0] else bif g.beq 113 then .of [Z98_W c1] else cfgEnt [246]
def E_Z0_T (N : Nat) : Table := E_Z0_TG (@Z2 N) (@Z98 N)
def Z0_W (f : Z0_Ty) : Var := ⟨[.v .str], [], fun t u K => f t.1 (fun y0 => K (.sv (.v (.bool y0))) [])⟩
def Z0_F : Nat → Fam := fun _ => noFam
def E_Z0 (N : Nat) : Ent := .of [Z0_W (Z0 N)]
def E_Z44_TG (c0 : Z0_Ty) : Table := fun g => bif g.beq 108 then .of [Z0_W c0] else cfgEnt [246]
def E_Z44_T (N : Nat) : Table := E_Z44_TG (@Z0 N)
def Z44_W (f : Z44_Ty) : Var := ⟨[.v .str], [], fun t u K => f t.1 (fun y0 => K (.sv (.v (.bool y0))) [])⟩
def Z44_F : Nat → Fam := fun _ => noFam
def E_Z44 (N : Nat) : Ent := .of [Z44_W (Z44 N)]
def E_Z45_TG (c0 : Z98_Ty) (c1 : Z44_Ty) : Table := fun g => bif g.beq 113 then .of [Z98_W c0] else bif g.beq 85 then .of [Z44_W c1] else cfgEnt [246]
def E_Z45_T (N : Nat) : Table := E_Z45_TG (@Z98 N) (@Z44 N)
def Z45_W (f : Z45_Ty) : Var := ⟨[.v .str], [], fun t u K => f t.1 (fun y0 y1 => K (.tup [(.v (.str y0)), (.v (.str y1))]) [])⟩
def Z45_F : Nat → Fam := fun _ => noFam
def E_Z45 (N : Nat) : Ent := .of [Z45_W (Z45 N)]
def E_Z118_TG (c0 : Z45_Ty) : Table := fun g => bif g.beq 111 then .of [Z45_W c0] else cfgEnt [246]
def E_Z118_T (N : Nat) : Table := E_Z118_TG (@Z45 N)
def Z118_W (f : Z118_Ty) : Var := ⟨[.v .str], [], fun t u K => f t.1 (fun y0 y1 => K (.sv (.agg [(.c (.str y0)), (.c (.str y1))])) [])⟩
def Z118_F : Nat → Fam := fun _ => noFam
def E_Z118 (N : Nat) : Ent := .of [Z118_W (Z118 N)]
def E_Y32_TG : Table := fun _ => cfgEnt [246]
def E_Y32_T (N : Nat) : Table := E_Y32_TG
def Z116_W (f : Z116_Ty) : Var := ⟨[.v (.ptr 0 0), .agg [.c .str, .c .str]], G21, fun t u K => f t.2.1.1 t.2.1.2.1 u.1.2.1 u.2.1 (fun y0 y1 y2 => K (.sv (.v (.int .u16 y0))) (G15 y1 y2))⟩
def Z116_F : Nat → Fam := fun _ => noFam
def E_Y32 (N : Nat) : Ent := .of [Z116_W (Z116 N)]
def E_Y29_TG (c0 : Z116_Ty) (c1 : Z118_Ty) : Table := fun g => bif g.beq 101 then .of [Z116_W c0] else bif g.beq 100 then .of [Z118_W c1] else cfgEnt [246]
def E_Y29_T (N : Nat) : Table := E_Y29_TG (@Z116 N) (@Z118 N)
def Z113_W (f : Z113_Ty) : Var := ⟨[.v (.ptr 0 0), .v .str, .v .bool], G21, fun t u K => f t.2.1 t.2.2.1 u.1.2.1 u.2.1 (fun y0 y1 y2 y3 => K (.tup [(.v (.int .i64 y0)), (.v (.int .u16 y1))]) (G15 y2 y3))⟩
def Z113_F : Nat → Fam := fun _ => noFam
def E_Y29 (N : Nat) : Ent := .of [Z113_W (Z113 N)]
def E_Z108_TG (c0 : Z113_Ty) (c1 : Z44_Ty) : Table := fun g => bif g.beq 67 then .of [Z113_W c0] else bif g.beq 85 then .of [Z44_W c1] else cfgEnt [246]
def E_Z108_T (N : Nat) : Table := E_Z108_TG (@Z113 N) (@Z44 N)
def Z109_W (f : Z109_Ty) : Var := ⟨[.v (.wl 0 3)], [.rows P1], fun t u K => f u.1 (fun y0 => K (.tup [(.v .nilp), (.v (.int .i64 11))]) [(.cells [(row P1 y0)])]) (fun y0 y1 y2 => K (.tup [(.v (.ptr 1 0)), (.v (.int .i64 0))]) (G37 y0 y1 y2))⟩
def Z109_v0_0 (w : Z109_l0_Ty) : LVar := ⟨[.sv (.v (.ptr 1 0)), .sv (.v (.wl 0 3)), .sv (.v (.int .i64)), .sv (.v (.int .i64))], [.rows P1, .cells [.c (.map 2), .c (.int .i64)], .map P4 P3 true true], fun n t u K => w (fun y0 y1 y2 => K .ret [(.sv (.v .nilp)), (.sv (.v (.int .i64 11))), (.sv (.v (.ptr 1 0)))] (G37 y0 y1 y2)) (fun y0 y1 y2 => K (.exit 0) [.undef, .undef, (.sv (.v (.ptr 1 0)))] (G37 y0 y1 y2)) n t.2.2.1 t.2.2.2.1 u.1 u.2.1.2.1 u.2.2.1⟩
def Z109_F0 (w : Z109_l0_Ty) : Fam := ⟨⟨false, [4, 15, 16, 17], [2, 3, 4], ⟨[], [], []⟩, ⟨[], [], []⟩⟩, [Z109_v0_0 w]⟩
def Z109_F (w0 : Z109_l0_Ty) : Nat → Fam := fun i => bif i.beq 7 then Z109_F0 w0 else noFam
def Z108_W (f : Z108_Ty) : Var := ⟨[.v (.isl P1)], [], fun t u K => f t.1 (K (.tup [(.v .nilp), (.v (.int .i64 11))]) []) (fun y0 y1 => K (.tup [(.v (.ptr 0 0)), (.v (.int .i64 0))]) (G15 y0 y1))⟩
def Z108_v0_0 (w : Z108_l0_Ty) : LVar := ⟨[.sv (.v (.ptr 0 0)), .sv (.v (.isl P1)), .sv (.v (.int .i64)), .sv (.v (.int .i64))], G21, fun n t u K => w (fun y0 y1 => K .ret [(.sv (.v .nilp)), (.sv (.v (.int .i64 11))), (.sv (.v (.ptr 0 0)))] (G15 y0 y1)) (fun y0 y1 => K (.exit 0) [.undef, .undef, (.sv (.v (.ptr 0 0)))] (G15 y0 y1)) n t.2.1 t.2.2.1 t.2.2.2.1 u.1.2.1 u.2.1⟩
def Z108_F0 (w : Z108_l0_Ty) : Fam := ⟨⟨false, [4, 15, 16, 17], [2, 3, 4], ⟨[], [], []⟩, ⟨[], [], []⟩⟩, [Z108_v0_0 w]⟩
def Z108_F (w0 : Z108_l0_Ty) : Nat → Fam := fun i => bif i.beq 7 then Z108_F0 w0 else noFam
def E_Z108 (N : Nat) : Ent := .of [Z109_W (Z109 N), Z108_W (Z108 N)]
def slices_Clone__term_T_term_T_W (f : slices_Clone__term_T_term_T_Ty) : Var := ⟨[.v (.isl (.int .i64))], [], fun t u K => f t.1 (fun y0 => K (.sv (.v (.wl 0 1))) [(.cells [(row (.int .i64) y0)])])⟩
def E_slices_Clone__term_T_term_T : Ent := .of [slices_Clone__term_T_term_T_W @slices_Clone__term_T_term_T]
def E_Y4_TG (c0 : slices_Clone__term_T_term_T_Ty) (c1 : Z109_Ty) (c2 : Z108_Ty) : Table := fun g => bif g.beq 69 then .of [slices_Clone__term_T_term_T_W c0] else bif g.beq 41 then .of [Z109_W c1, Z108_W c2] else cfgEnt [246]
def E_Y4_T (N : Nat) : Table := E_Y4_TG @slices_Clone__term_T_term_T (@Z109 N) (@Z108 N)
def Z28_W (f : Z28_Ty) : Var := ⟨[.v (.wl 0 3), .v (.wl 1 1), .v (.int .i64)], [.rows P1, .rows (.isl (.int .i64))], fun t u K => f t.2.2.1 u.1 u.2.1 (fun y0 y1 => K (.tup [(.v .nilp), (.v (.int .i64 11))]) [(.cells [(row P1 y0)]), (.cells [(row (.isl (.int .i64)) y1)])]) (fun y0 y1 => K (.tup [(.v .nilp), (.v (.int .i64 12))]) [(.cells [(row P1 y0)]), (.cells [(row (.isl (.int .i64)) y1)])]) (fun y0 y1 y2 y3 y4 y5 y6 y7 => K (.tup [(.v (.ptr 2 0)), (.v (.int .i64 0))]) (G5 y0 y1 y2 y3 y4 y5 y6 y7))⟩
def Z28_v0_0 (w : Z28_l0_Ty) : LVar := ⟨[.sv (.v (.wl 1 1)), .sv (.v (.ptr 2 0)), .sv (.v (.wl 0 3)), .sv (.v (.int .i64)), .sv (.v (.int .i64))], G29, fun n t u K => w (fun y0 y1 y2 y3 y4 y5 y6 y7 => K .ret [(.sv (.v (.wl 1 1))), (.sv (.v .nilp)), (.sv (.v (.int .i64 12))), (.sv (.v (.ptr 2 0)))] (G5 y0 y1 y2 y3 y4 y5 y6 y7)) (fun y0 y1 y2 y3 y4 y5 y6 y7 => K (.exit 0) [(.sv (.v (.wl 1 1))), .undef, .undef, (.sv (.v (.ptr 2 0)))] (G5 y0 y1 y2 y3 y4 y5 y6 y7)) (fun y0 y1 y2 y3 y4 y5 y6 y7 y8 y9 => K .ret [(.sv (.v (.sl 1 0 1 y0 y1 none))), (.sv (.v .nilp)), (.sv (.v (.int .i64 12))), (.sv (.v (.ptr 2 0)))] (G5 y2 y3 y4 y5 y6 y7 y8 y9)) (fun y0 y1 y2 y3 y4 y5 y6 y7 y8 y9 => K (.exit 0) [(.sv (.v (.sl 1 0 1 y0 y1 none))), .undef, .undef, (.sv (.v (.ptr 2 0)))] (G5 y2 y3 y4 y5 y6 y7 y8 y9)) n (.v0 t.2.2.2.1 t.2.2.2.2.1 u.1 u.2.1 u.2.2.1.2.2.2.1 u.2.2.1.2.2.2.2.1 u.2.2.2.1.2.1 u.2.2.2.2.1 u.2.2.2.2.2.1 u.2.2.2.2.2.2.1)⟩
def Z28_v0_1 (w : Z28_l0_Ty) : LVar := ⟨[.sv (.v (.sl 1 0 1 true false)), .sv (.v (.ptr 2 0)), .sv (.v (.wl 0 3)), .sv (.v (.int .i64)), .sv (.v (.int .i64))], G29, fun n t u K => w (fun y0 y1 y2 y3 y4 y5 y6 y7 => K .ret [(.sv (.v (.wl 1 1))), (.sv (.v .nilp)), (.sv (.v (.int .i64 12))), (.sv (.v (.ptr 2 0)))] (G5 y0 y1 y2 y3 y4 y5 y6 y7)) (fun y0 y1 y2 y3 y4 y5 y6 y7 => K (.exit 0) [(.sv (.v (.wl 1 1))), .undef, .undef, (.sv (.v (.ptr 2 0)))] (G5 y0 y1 y2 y3 y4 y5 y6 y7)) (fun y0 y1 y2 y3 y4 y5 y6 y7 y8 y9 => K .ret [(.sv (.v (.sl 1 0 1 y0 y1 none))), (.sv (.v .nilp)), (.sv (.v (.int .i64 12))), (.sv (.v (.ptr 2 0)))] (G5 y2 y3 y4 y5 y6 y7 y8 y9)) (fun y0 y1 y2 y3 y4 y5 y6 y7 y8 y9 => K (.exit 0) [(.sv (.v (.sl 1 0 1 y0 y1 none))), .undef, .undef, (.sv (.v (.ptr 2 0)))] (G5 y2 y3 y4 y5 y6 y7 y8 y9)) n (.v1 t.1.1 t.1.2 t.2.2.2.1 t.2.2.2.2.1 u.1 u.2.1 u.2.2.1.2.2.2.1 u.2.2.1.2.2.2.2.1 u.2.2.2.1.2.1 u.2.2.2.2.1 u.2.2.2.2.2.1 u.2.2.2.2.2.2.1)⟩
def Z28_F0 (w : Z28_l0_Ty) : Fam := ⟨⟨false, [1, 10, 26, 27, 28], [1, 6, 7, 10], ⟨[], [], []⟩, ⟨[], [], []⟩⟩, [Z28_v0_0 w, Z28_v0_1 w]⟩
def Z28_F (w0 : Z28_l0_Ty) : Nat → Fam := fun i => bif i.beq 8 then Z28_F0 w0 else noFam
def Z29_W (f : Z29_Ty) : Var := ⟨[.v (.isl P1), .v (.wl 0 1), .v (.int .i64)], [.rows (.isl (.int .i64))], fun t u K => f t.1 t.2.2.1 u.1 (fun y0 => K (.tup [(.v .nilp), (.v (.int .i64 11))]) [(.cells [(row (.isl (.int .i64)) y0)])]) (fun y0 => K (.tup [(.v .nilp), (.v (.int .i64 12))]) [(.cells [(row (.isl (.int .i64)) y0)])]) (fun y0 y1 y2 y3 y4 y5 y6 => K (.tup [(.v (.ptr 1 0)), (.v (.int .i64 0))]) (G7 y0 y1 y2 y3 y4 y5 y6))⟩
def Z29_v0_0 (w : Z29_l0_Ty) : LVar := ⟨[.sv (.v (.wl 0 1)), .sv (.v (.ptr 1 0)), .sv (.v (.isl P1)), .sv (.v (.int .i64)), .sv (.v (.int .i64))], G30, fun n t u K => w (fun y0 y1 y2 y3 y4 y5 y6 => K .ret [(.sv (.v (.wl 0 1))), (.sv (.v .nilp)), (.sv (.v (.int .i64 12))), (.sv (.v (.ptr 1 0)))] (G7 y0 y1 y2 y3 y4 y5 y6)) (fun y0 y1 y2 y3 y4 y5 y6 => K (.exit 0) [(.sv (.v (.wl 0 1))), .undef, .undef, (.sv (.v (.ptr 1 0)))] (G7 y0 y1 y2 y3 y4 y5 y6)) (fun y0 y1 y2 y3 y4 y5 y6 y7 y8 => K .ret [(.sv (.v (.sl 0 0 1 y0 y1 none))), (.sv (.v .nilp)), (.sv (.v (.int .i64 12))), (.sv (.v (.ptr 1 0)))] (G7 y2 y3 y4 y5 y6 y7 y8)) (fun y0 y1 y2 y3 y4 y5 y6 y7 y8 => K (.exit 0) [(.sv (.v (.sl 0 0 1 y0 y1 none))), .undef, .undef, (.sv (.v (.ptr 1 0)))] (G7 y2 y3 y4 y5 y6 y7 y8)) n (.v0 t.2.2.1 t.2.2.2.1 t.2.2.2.2.1 u.1 u.2.1.2.2.2.1 u.2.1.2.2.2.2.1 u.2.2.1.2.1 u.2.2.2.1 u.2.2.2.2.1 u.2.2.2.2.2.1)⟩
def Z29_v0_1 (w : Z29_l0_Ty) : LVar := ⟨[.sv (.v (.sl 0 0 1 true false)), .sv (.v (.ptr 1 0)), .sv (.v (.isl P1)), .sv (.v (.int .i64)), .sv (.v (.int .i64))], G30, fun n t u K => w (fun y0 y1 y2 y3 y4 y5 y6 => K .ret [(.sv (.v (.wl 0 1))), (.sv (.v .nilp)), (.sv (.v (.int .i64 12))), (.sv (.v (.ptr 1 0)))] (G7 y0 y1 y2 y3 y4 y5 y6)) (fun y0 y1 y2 y3 y4 y5 y6 => K (.exit 0) [(.sv (.v (.wl 0 1))), .undef, .undef, (.sv (.v (.ptr 1 0)))] (G7 y0 y1 y2 y3 y4 y5 y6)) (fun y0 y1 y2 y3 y4 y5 y6 y7 y8 => K .ret [(.sv (.v (.sl 0 0 1 y0 y1 none))), (.sv (.v .nilp)), (.sv (.v (.int .i64 12))), (.sv (.v (.ptr 1 0)))] (G7 y2 y3 y4 y5 y6 y7 y8)) (fun y0 y1 y2 y3 y4 y5 y6 y7 y8 => K (.exit 0) [(.sv (.v (.sl 0 0 1 y0 y1 none))), .undef, .undef, (.sv (.v (.ptr 1 0)))] (G7 y2 y3 y4 y5 y6 y7 y8)) n (.v1 t.1.1 t.1.2 t.2.2.1 t.2.2.2.1 t.2.2.2.2.1 u.1 u.2.1.2.2.2.1 u.2.1.2.2.2.2.1 u.2.2.1.2.1 u.2.2.2.1 u.2.2.2.2.1 u.2.2.2.2.2.1)⟩
def Z29_F0 (w : Z29_l0_Ty) : Fam := ⟨⟨false, [1, 10, 26, 27, 28], [1, 6, 7, 10], ⟨[], [], []⟩, ⟨[], [], []⟩⟩, [Z29_v0_0 w, Z29_v0_1 w]⟩
def Z29_F (w0 : Z29_l0_Ty) : Nat → Fam := fun i => bif i.beq 8 then Z29_F0 w0 else noFam
def E_Y4 (N : Nat) : Ent := .of [Z28_W (Z28 N), Z29_W (Z29 N)]
def E_Y33_TG (c0 : Z116_Ty) (c1 : Z118_Ty) : Table := fun g => bif g.beq 101 then .of [Z116_W c0] else bif g.beq 100 then .of [Z118_W c1] else cfgEnt [246]
def E_Y33_T (N : Nat) : Table := E_Y33_TG (@Z116 N) (@Z118 N)
def Z117_W (f : Z117_Ty) : Var := ⟨[.v (.ptr 0 0), .v .str], G21, fun t u K => f t.2.1 u.1.2.1 u.2.1 (fun y0 y1 y2 y3 y4 => K (.tup [(.agg [(.c (.int .i64 y0)), (.c (.bool y1))]), (.v (.int .u16 y2))]) (G15 y3 y4))⟩
def Z117_F : Nat → Fam := fun _ => noFam
def E_Y33 (N : Nat) : Ent := .of [Z117_W (Z117 N)]
def E_Y28_TG (c0 : Z117_Ty) : Table := fun g => bif g.beq 98 then .of [Z117_W c0] else cfgEnt [246]
def E_Y28_T (N : Nat) : Table := E_Y28_TG (@Z117 N)
def Z112_W (f : Z112_Ty) : Var := ⟨[.v (.ptr 0 0), .v .str], G21, fun t u K => f t.2.1 u.1.2.1 u.2.1 (fun y0 y1 y2 y3 y4 => K (.tup [(.v (.int .i64 y0)), (.v (.bool y1)), (.v (.int .u16 y2))]) (G15 y3 y4))⟩
def Z112_F : Nat → Fam := fun _ => noFam
def E_Y28 (N : Nat) : Ent := .of [Z112_W (Z112 N)]
def E_Y19_TG : Table := fun _ => cfgEnt [246]
def E_Y19_T (N : Nat) : Table := E_Y19_TG
def Z97_W (f : Z97_Ty) : Var := ⟨[.v (.sl 0 3 1 false true), .v (.int .i64)], G1, fun t u K => f t.1.1 t.1.2 t.2.1 u.1.2.2.2.1 u.1.2.2.2.2.1 u.2.1.2.1 u.2.2.1 u.2.2.2.1 u.2.2.2.2.1 (fun y0 y1 y2 y3 y4 y5 y6 => K (.sv (.v (.int .i64 y0))) (G2 y1 y2 y3 y4 y5 y6))⟩
def Z97_v0_0 (w : Z97_l0_Ty) : LVar := ⟨[.sv (.v (.sl 0 3 1 false true)), .sv (.v (.int .i64)), .sv (.v (.int .i64)), .sv (.v (.int .i64))], G1, fun n t u K => w (fun y0 y1 y2 y3 y4 y5 y6 => K .ret [(.sv (.v (.int .i64 y0)))] (G2 y1 y2 y3 y4 y5 y6)) (fun y0 y1 y2 y3 y4 y5 => K (.exit 0) [.undef] (G2 y0 y1 y2 y3 y4 y5)) n t.1.1 t.1.2 t.2.1 t.2.2.1 t.2.2.2.1 u.1.2.2.2.1 u.1.2.2.2.2.1 u.2.1.2.1 u.2.2.1 u.2.2.2.1 u.2.2.2.2.1⟩
def Z97_F0 (w : Z97_l0_Ty) : Fam := ⟨⟨false, [0, 1, 7, 8], [4], ⟨[], [], []⟩, ⟨[], [], []⟩⟩, [Z97_v0_0 w]⟩
def Z97_F (w0 : Z97_l0_Ty) : Nat → Fam := fun i => bif i.beq 3 then Z97_F0 w0 else noFam
def E_Y19 (N : Nat) : Ent := .of [Z97_W (Z97 N)]
def E_Y1_TG (c0 : Z97_Ty) : Table := fun g => bif g.beq 99 then .of [Z97_W c0] else cfgEnt [246]
def E_Y1_T (N : Nat) : Table := E_Y1_TG (@Z97 N)
def Z25_W (f : Z25_Ty) : Var := ⟨[.v (.ptr 0 0)], G1, fun t u K => f u.1.2.2.2.1 u.1.2.2.2.2.1 u.2.1.2.1 u.2.2.1 u.2.2.2.1 u.2.2.2.2.1 (fun y0 y1 y2 y3 y4 y5 y6 y7 => K (.tup [(.v (.int .i64 y0)), (.v (.bool y1))]) (G2 y2 y3 y4 y5 y6 y7))⟩
def Z25_F : Nat → Fam := fun _ => noFam
def E_Y1 (N : Nat) : Ent := .of [Z25_W (Z25 N)]
def maps_Clone_map_tree_keytree_entry_tree_key_tree_entry_df6b_W (f : maps_Clone_map_tree_keytree_entry_tree_key_tree_entry_df6b_Ty) : Var := ⟨[.v (.map 0)], [.map P4 P3 true true], fun t u K => f u.1 (fun y0 y1 => K (.sv (.v (.map 1))) [(.map P4 P3 true true y0), (.map P4 P3 true true y1)])⟩
def E_maps_Clone_map_tree_keytree_entry_tree_key_tree_entry : Ent := .of [maps_Clone_map_tree_keytree_entry_tree_key_tree_entry_df6b_W @maps_Clone_map_tree_keytree_entry_tree_key_tree_entry_df6b]
def E_Y26_TG (c0 : maps_Clone_map_tree_keytree_entry_tree_key_tree_entry_df6b_Ty) : Table := fun g => bif g.beq 96 then .of [maps_Clone_map_tree_keytree_entry_tree_key_tree_entry_df6b_W c0] else cfgEnt [246]
def E_Y26_T (N : Nat) : Table := E_Y26_TG @maps_Clone_map_tree_keytree_entry_tree_key_tree_entry_df6b
def Z110_W (f : Z110_Ty) : Var := ⟨[.v (.ptr 0 0)], G21, fun t u K => f u.1.2.1 u.2.1 (fun y0 y1 y2 y3 => K (.sv (.v (.ptr 2 0))) [(.cells [(.c (.map 1)), (.c (.int .i64 y0))]), (.map P4 P3 true true y1), (.cells [(.c (.map 3)), (.c (.int .i64 y2))]), (.map P4 P3 true true y3)])⟩
def Z110_F : Nat → Fam := fun _ => noFam
def E_Y26 (N : Nat) : Ent := .of [Z110_W (Z110 N)]
def E_Y2_TG (c0 : Z113_Ty) (c1 : Z110_Ty) : Table := fun g => bif g.beq 67 then .of [Z113_W c0] else bif g.beq 61 then .of [Z110_W c1] else cfgEnt [246]
def E_Y2_T (N : Nat) : Table := E_Y2_TG (@Z113 N) (@Z110 N)
def Z26_W (f : Z26_Ty) : Var := ⟨[.v (.ptr 0 0), .v .str], G1, fun t u K => f t.2.1 u.1.2.2.2.1 u.1.2.2.2.2.1 u.2.1.2.1 u.2.2.1 u.2.2.2.1 u.2.2.2.2.1 (fun y0 y1 y2 y3 y4 y5 y6 => K (.sv (.v (.bool y0))) (G2 y1 y2 y3 y4 y5 y6))⟩
def Z26_F : Nat → Fam := fun _ => noFam
def E_Y2 (N : Nat) : Ent := .of [Z26_W (Z26 N)]
def E_Z9_TG (c0 : Z113_Ty) (c1 : Z26_Ty) (c2 : Z25_Ty) (c3 : Z112_Ty) : Table := fun g => bif g.beq 67 then .of [Z113_W c0] else bif g.beq 66 then .of [Z26_W c1] else bif g.beq 65 then .of [Z25_W c2] else bif g.beq 64 then .of [Z112_W c3] else cfgEnt [246]
def E_Z9_T (N : Nat) : Table := E_Z9_TG (@Z113 N) (@Z26 N) (@Z25 N) (@Z112 N)
def Z10_W (f : Z10_Ty) : Var := ⟨[.v (.ptr 0 0), .v .str], G1, fun t u K => f t.2.1 u.1.2.2.2.1 u.1.2.2.2.2.1 u.2.1.2.1 u.2.2.1 u.2.2.2.1 u.2.2.2.2.1 (fun y0 y1 y2 y3 y4 y5 y6 => K (.sv (.v (.int .u16 y0))) [(.cells [(.c (.ptr 1 0)), (.c (.map 3)), (.c (.wl 5 2)), (.row (.int .i64) 4 y1), (.c (.int .i64 y2))]), (.cells [(.c (.map 2)), (.c (.int .i64 y3))]), (.map P4 P3 true true y4), (.map (.int .i64) (.isl (.int .i64)) false false y5), .dead, (.cells [(row P2 y6)])])⟩
def Z10_F : Nat → Fam := fun _ => noFam
def Z9_W (f : Z9_Ty) : Var := ⟨[.v .nilp, .v .str], [], fun t u K => f t.2.1 (fun y0 => K (.sv (.v (.int .u16 y0))) [])⟩
def Z9_F : Nat → Fam := fun _ => noFam
def E_Z9 (N : Nat) : Ent := .of [Z10_W (Z10 N), Z9_W (Z9 N)]
def E_Z23_TG : Table := fun _ => cfgEnt [246]
def E_Z23_T (N : Nat) : Table := E_Z23_TG
def Z24_W (f : Z24_Ty) : Var := ⟨[.v (.ptr 0 0), .v (.int .u16)], G1, fun t u K => f t.2.1 u.1.2.2.2.1 u.1.2.2.2.2.1 u.2.1.2.1 u.2.2.1 u.2.2.2.1 u.2.2.2.2.1 (fun y0 y1 y2 y3 y4 y5 => K (.sv (.v .nilp)) (G2 y0 y1 y2 y3 y4 y5)) (fun y0 y1 y2 y3 y4 y5 y6 => K (.sv (.v (.el 4 0 y0 2))) (G2 y1 y2 y3 y4 y5 y6))⟩
def Z24_F : Nat → Fam := fun _ => noFam
def Z23_W (f : Z23_Ty) : Var := ⟨[.v .nilp, .v (.int .u16)], [], fun t u K => f t.2.1 (K (.sv (.v .nilp)) [])⟩
def Z23_F : Nat → Fam := fun _ => noFam
def E_Z23 (N : Nat) : Ent := .of [Z24_W (Z24 N), Z23_W (Z23 N)]
def E_Z11_TG (c0 : slices_Clone__term_T_term_T_Ty) (c1 : Z24_Ty) (c2 : Z23_Ty) : Table := fun g => bif g.beq 69 then .of [slices_Clone__term_T_term_T_W c0] else bif g.beq 68 then .of [Z24_W c1, Z23_W c2] else cfgEnt [246]
def E_Z11_T (N : Nat) : Table := E_Z11_TG @slices_Clone__term_T_term_T (@Z24 N) (@Z23 N)
def Z12_W (f : Z12_Ty) : Var := ⟨[.v (.ptr 0 0), .v (.int .u16), .v (.int .u16)], G1, fun t u K => f t.2.1 t.2.2.1 u.1.2.2.2.1 u.1.2.2.2.2.1 u.2.1.2.1 u.2.2.1 u.2.2.2.1 u.2.2.2.2.1 (fun y0 y1 y2 y3 y4 y5 y6 y7 => K (.tup [(.v (.wl 5 1)), (.v (.int .u16 y0))]) (G11 y1 y2 y3 y4 y5 y6 y7))⟩
def Z12_F : Nat → Fam := fun _ => noFam
def Z11_W (f : Z11_Ty) : Var := ⟨[.v .nilp, .v (.int .u16), .v (.int .u16)], [], fun t u K => f t.2.1 t.2.2.1 (fun y0 => K (.tup [(.v .nils), (.v (.int .u16 y0))]) [])⟩
def Z11_F : Nat → Fam := fun _ => noFam
def E_Z11 (N : Nat) : Ent := .of [Z12_W (Z12 N), Z11_W (Z11 N)]
def E_Z15_TG (c0 : Z24_Ty) (c1 : Z23_Ty) : Table := fun g => bif g.beq 68 then .of [Z24_W c0, Z23_W c1] else cfgEnt [246]
def E_Z15_T (N : Nat) : Table := E_Z15_TG (@Z24 N) (@Z23 N)
def Z16_W (f : Z16_Ty) : Var := ⟨[.v (.ptr 0 0), .v (.int .u16)], G1, fun t u K => f t.2.1 u.1.2.2.2.1 u.1.2.2.2.2.1 u.2.1.2.1 u.2.2.1 u.2.2.2.1 u.2.2.2.2.1 (fun y0 y1 y2 y3 y4 y5 y6 => K (.sv (.v (.int .u16 y0))) (G2 y1 y2 y3 y4 y5 y6))⟩
def Z16_F : Nat → Fam := fun _ => noFam
def Z15_W (f : Z15_Ty) : Var := ⟨[.v .nilp, .v (.int .u16)], [], fun t u K => f t.2.1 (fun y0 => K (.sv (.v (.int .u16 y0))) [])⟩
def Z15_F : Nat → Fam := fun _ => noFam
def E_Z15 (N : Nat) : Ent := .of [Z16_W (Z16 N), Z15_W (Z15 N)]
def E_Z32_TG (c0 : Z16_Ty) (c1 : Z15_Ty) (c2 : Z12_Ty) (c3 : Z11_Ty) (c4 : Z10_Ty) (c5 : Z9_Ty) (c6 : Z28_Ty) (c7 : Z29_Ty) (c8 : Z104_Ty) (c9 : Z101_Ty) (c10 : Z107_Ty) : Table := fun g => bif g.beq 25 then .of [Z16_W c0, Z15_W c1] else bif g.beq 19 then .of [Z12_W c2, Z11_W c3] else bif g.beq 17 then .of [Z10_W c4, Z9_W c5] else bif g.beq 30 then .of [Z28_W c6, Z29_W c7] else bif g.beq 29 then .of [Z104_W c8] else bif g.beq 27 then .of [Z101_W c9] else bif g.beq 13 then .of [Z107_W c10] else cfgEnt [246]
def E_Z32_T (N : Nat) : Table := E_Z32_TG (@Z16 N) (@Z15 N) (@Z12 N) (@Z11 N) (@Z10 N) (@Z9 N) (@Z28 N) (@Z29 N) (@Z104 N) (@Z101 N) (@Z107 N)
def Z32_W (f : Z32_Ty) : Var := ⟨[], [], fun t u K => f (fun y0 => K (.sv (.v (.bool y0))) [])⟩
def Z32_F : Nat → Fam := fun _ => noFam
def E_Z32 (N : Nat) : Ent := .of [Z32_W (Z32 N)]
def E_Z30_TG : Table := fun _ => cfgEnt [246]
def E_Z30_T (N : Nat) : Table := E_Z30_TG
def Z30_W (f : Z30_Ty) : Var := ⟨[.v (.isl P1), .v (.isl (.isl (.int .u8))), .v (.isl P5)], [], fun t u K => f t.1 t.2.1 t.2.2.1 (fun y0 => K (.sv (.v (.bool y0))) [])⟩
def Z30_v0_0 (w : Z30_l0_Ty) : LVar := ⟨[.sv (.v (.isl P1)), .sv (.v (.isl (.isl (.int .u8)))), .sv (.v (.isl P5)), .sv (.v (.int .i64))], [], fun n t u K => w (fun y0 y1 y2 => K .ret [(.sv (.v (.isl P1 y0))), (.sv (.v (.isl (.isl (.int .u8)) y1))), (.sv (.v (.bool y2)))] []) (fun y0 y1 => K (.exit 0) [(.sv (.v (.isl P1 y0))), (.sv (.v (.isl (.isl (.int .u8)) y1))), .undef] []) n t.1 t.2.1 t.2.2.1 t.2.2.2.1⟩
def Z30_F0 (w : Z30_l0_Ty) : Fam := ⟨⟨false, [0, 1, 2, 7], [0, 1, 6], ⟨[], [], []⟩, ⟨[], [], []⟩⟩, [Z30_v0_0 w]⟩
def Z30_v1_0 (w : Z30_l1_Ty) : LVar := ⟨[.sv (.v (.isl P1)), .sv (.v (.isl (.isl (.int .u8)))), .sv (.v (.int .i64))], [], fun n t u K => w (fun y0 y1 => K .ret [(.sv (.v (.isl P1 y0))), (.sv (.v (.bool y1)))] []) (fun y0 => K (.exit 2) [(.sv (.v (.isl P1 y0))), .undef] []) n t.1 t.2.1 t.2.2.1⟩
def Z30_F1 (w : Z30_l1_Ty) : Fam := ⟨⟨false, [0, 1, 8], [0, 6], ⟨[], [], []⟩, ⟨[], [], []⟩⟩, [Z30_v1_0 w]⟩
def Z30_v2_0 (w : Z30_l2_Ty) : LVar := ⟨[.sv (.v (.isl P1)), .sv (.v (.int .i64))], [], fun n t u K => w (fun y0 => K .ret [(.sv (.v (.bool y0)))] []) (K (.exit 4) [.undef] []) n t.1 t.2.1⟩
def Z30_F2 (w : Z30_l2_Ty) : Fam := ⟨⟨false, [0, 9], [6], ⟨[], [], []⟩, ⟨[], [], []⟩⟩, [Z30_v2_0 w]⟩
def Z30_F (w0 : Z30_l0_Ty) (w1 : Z30_l1_Ty) (w2 : Z30_l2_Ty) : Nat → Fam := fun i => bif i.beq 3 then Z30_F0 w0 else bif i.beq 11 then Z30_F1 w1 else bif i.beq 19 then Z30_F2 w2 else noFam
def E_Z30 (N : Nat) : Ent := .of [Z30_W (Z30 N)]
def E_Y8_TG (c0 : Z101_Ty) : Table := fun g => bif g.beq 27 then .of [Z101_W c0] else cfgEnt [246]
def E_Y8_T (N : Nat) : Table := E_Y8_TG (@Z101 N)
def Z43_W (f : Z43_Ty) : Var := ⟨[.v (.ptr 0 0), .v (.isl (.int .u8))], G8, fun t u K => f t.2.1 u.2.1 u.2.2.1 u.2.2.2.1 (fun y0 y1 y2 y3 => K (.sv (.v (.wl 5 1))) (G36 y0 y1 y2 y3))⟩
def Z43_v0_0 (w : Z43_l0_Ty) : LVar := ⟨[.sv (.v (.ptr 0 0)), .sv (.v (.isl (.int .u8))), .sv (.v (.wl 5 1)), .sv (.v (.int .i64))], [.cells [.c (.wl 4 6), .c (.map 2), .c (.map 3)], .dead, .map P0 (.int .i64) true false, .map (.int .i64) (.int .i64) false false, .rows P0, .rows (.int .i64)], fun n t u K => w (fun y0 y1 y2 y3 => K (.exit 0) [(.sv (.v (.wl 5 1)))] (G36 y0 y1 y2 y3)) n t.2.1 t.2.2.2.1 u.2.2.1 u.2.2.2.1 u.2.2.2.2.1 u.2.2.2.2.2.1⟩
def Z43_F0 (w : Z43_l0_Ty) : Fam := ⟨⟨false, [0, 1, 5, 6], [5], ⟨[1], [(2, false, (.int .i64))], []⟩, ⟨[], [], []⟩⟩, [Z43_v0_0 w]⟩
def Z43_F (w0 : Z43_l0_Ty) : Nat → Fam := fun i => bif i.beq 4 then Z43_F0 w0 else noFam
def Z42_W (f : Z42_Ty) : Var := ⟨[.v (.ptr 0 0), .v (.wl 4 1)], [.cells [.c (.wl 1 6), .c (.map 2), .c (.map 3)], .rows P0, .map P0 (.int .i64) true false, .map (.int .i64) (.int .i64) false false, .rows (.int .u8)], fun t u K => f u.2.1 u.2.2.1 u.2.2.2.1 u.2.2.2.2.1 (fun y0 y1 y2 y3 y4 => K (.sv (.v (.wl 6 1))) (G34 y0 y1 y2 y3 y4))⟩
def Z42_v0_0 (w : Z42_l0_Ty) : LVar := ⟨[.sv (.v (.ptr 0 0)), .sv (.v (.wl 4 1)), .sv (.v (.wl 6 1)), .sv (.v (.int .i64))], [.cells [.c (.wl 5 6), .c (.map 2), .c (.map 3)], .dead, .map P0 (.int .i64) true false, .map (.int .i64) (.int .i64) false false, .rows (.int .u8), .rows P0, .rows (.int .i64)], fun n t u K => w (fun y0 y1 y2 y3 y4 => K (.exit 0) [(.sv (.v (.wl 6 1)))] (G34 y0 y1 y2 y3 y4)) n t.2.2.2.1 u.2.2.1 u.2.2.2.1 u.2.2.2.2.1 u.2.2.2.2.2.1 u.2.2.2.2.2.2.1⟩
def Z42_F0 (w : Z42_l0_Ty) : Fam := ⟨⟨false, [0, 1, 5, 6], [5], ⟨[1], [(2, false, (.int .i64))], []⟩, ⟨[], [], []⟩⟩, [Z42_v0_0 w]⟩
def Z42_F (w0 : Z42_l0_Ty) : Nat → Fam := fun i => bif i.beq 4 then Z42_F0 w0 else noFam
def E_Y8 (N : Nat) : Ent := .of [Z43_W (Z43 N), Z42_W (Z42 N)]
def E_Z84_TG : Table := fun _ => cfgEnt [246]
def E_Z84_T (N : Nat) : Table := E_Z84_TG
def Z84_W (f : Z84_Ty) : Var := ⟨[.v .str], [], fun t u K => f t.1 (fun y0 => K (.sv (.v (.bool y0))) [])⟩
def Z84_v0_0 (w : Z84_l0_Ty) : LVar := ⟨[.sv (.v .str), .sv (.v (.wl 0 1)), .sv (.v (.int .i64))], [.rows .str], fun n t u K => w (fun y0 y1 => K .ret [(.sv (.v (.bool y0))), (.sv (.v (.wl 0 1)))] [(.cells [(row .str y1)])]) (fun y0 => K (.exit 0) [.undef, (.sv (.v (.wl 0 1)))] [(.cells [(row .str y0)])]) n t.1 t.2.2.1 u.1⟩
def Z84_F0 (w : Z84_l0_Ty) : Fam := ⟨⟨false, [0, 3, 4], [2, 3], ⟨[], [], []⟩, ⟨[], [], []⟩⟩, [Z84_v0_0 w]⟩
def Z84_v1_0 (w : Z84_l1_Ty) : LVar := ⟨[.sv (.v (.wl 0 1)), .sv (.v (.int .i64))], [.rows .str], fun n t u K => w (fun y0 y1 => K .ret [(.sv (.v (.bool y0))), (.sv (.v (.wl 0 1)))] [(.cells [(row .str y1)])]) (fun y0 => K (.exit 3) [.undef, (.sv (.v (.wl 0 1)))] [(.cells [(row .str y0)])]) n t.2.1 u.1⟩
def Z84_F1 (w : Z84_l1_Ty) : Fam := ⟨⟨false, [3, 6], [2, 3], ⟨[], [], []⟩, ⟨[], [], []⟩⟩, [Z84_v1_0 w]⟩
def Z84_F (w0 : Z84_l0_Ty) (w1 : Z84_l1_Ty) : Nat → Fam := fun i => bif i.beq 7 then Z84_F0 w0 else bif i.beq 20 then Z84_F1 w1 else noFam
def E_Z84 (N : Nat) : Ent := .of [Z84_W (Z84 N)]
def E_Y16_TG : Table := fun _ => cfgEnt [246]
def E_Y16_T (N : Nat) : Table := E_Y16_TG
def Z94_W (f : Z94_Ty) : Var := ⟨[.v (.ptr 0 0), .v .str], G22, fun t u K => f t.2.1 u.1.2.1 u.2.1 (fun y0 y1 y2 => K (.sv (.v (.int .i64 y0))) (G14 y1 y2))⟩
def Z94_v0_0 (w : Z94_l0_Ty) : LVar := ⟨[.sv (.v (.ptr 0 0)), .sv (.v .str), .sv (.v (.int .i64))], G22, fun n t u K => w (fun y0 y1 y2 => K .ret [(.sv (.v (.int .i64 y0)))] (G14 y1 y2)) (fun y0 y1 => K (.exit 0) [.undef] (G14 y0 y1)) n t.2.1 t.2.2.1 u.1.2.1 u.2.1⟩
def Z94_F0 (w : Z94_l0_Ty) : Fam := ⟨⟨false, [0, 1, 5], [4], ⟨[], [], []⟩, ⟨[], [], []⟩⟩, [Z94_v0_0 w]⟩
def Z94_F (w0 : Z94_l0_Ty) : Nat → Fam := fun i => bif i.beq 3 then Z94_F0 w0 else noFam
def E_Y16 (N : Nat) : Ent := .of [Z94_W (Z94 N)]
def E_Z87_TG (c0 : Z84_Ty) : Table := fun g => bif g.beq 86 then .of [Z84_W c0] else cfgEnt [246]
def E_Z87_T (N : Nat) : Table := E_Z87_TG (@Z84 N)
def Z87_W (f : Z87_Ty) : Var := ⟨[.v .str], [], fun t u K => f t.1 (fun y0 y1 => K (.tup [(.v (.str y0)), (.v (.str y1))]) [])⟩
def Z87_v0_0 (w : Z87_l0_Ty) : LVar := ⟨[.sv (.v .str), .sv (.v (.int .i64))], [], fun n t u K => w (fun y0 y1 y2 => K .ret [(.sv (.v (.str y0))), (.sv (.v (.str y1))), (.sv (.v (.str y2)))] []) (fun y0 => K (.exit 0) [(.sv (.v (.str y0))), .undef, .undef] []) n t.1 t.2.1⟩
def Z87_F0 (w : Z87_l0_Ty) : Fam := ⟨⟨false, [0, 4], [0, 2, 3], ⟨[], [], []⟩, ⟨[], [], []⟩⟩, [Z87_v0_0 w]⟩
def Z87_F (w0 : Z87_l0_Ty) : Nat → Fam := fun i => bif i.beq 6 then Z87_F0 w0 else noFam
def E_Z87 (N : Nat) : Ent := .of [Z87_W (Z87 N)]
def E_Z86_TG (c0 : Z87_Ty) (c1 : Z94_Ty) (c2 : Z84_Ty) : Table := fun g => bif g.beq 88 then .of [Z87_W c0] else bif g.beq 87 then .of [Z94_W c1] else bif g.beq 86 then .of [Z84_W c2] else cfgEnt [246]
def E_Z86_T (N : Nat) : Table := E_Z86_TG (@Z87 N) (@Z94 N) (@Z84 N)
def Z86_W (f : Z86_Ty) : Var := ⟨[.v (.isl P1)], [], fun t u K => f t.1 (K (.tup [(.v .nilp), (.v (.int .i64 11))]) []) (fun y0 y1 => K (.tup [(.v (.ptr 0 0)), (.v (.int .i64 0))]) (G14 y0 y1))⟩
def Z86_v0_0 (w : Z86_l0_Ty) : LVar := ⟨[.sv (.v (.isl P1)), .sv (.v (.ptr 0 0)), .sv (.v (.int .i64))], G22, fun n t u K => w (fun y0 y1 y2 => K .ret [(.sv (.v (.isl P1 y0))), (.sv (.v .nilp)), (.sv (.v (.int .i64 11))), (.sv (.v (.ptr 0 0)))] (G14 y1 y2)) (fun y0 y1 y2 => K (.exit 0) [(.sv (.v (.isl P1 y0))), .undef, .undef, (.sv (.v (.ptr 0 0)))] (G14 y1 y2)) n t.1 t.2.2.1 u.1.2.1 u.2.1⟩
def Z86_F0 (w : Z86_l0_Ty) : Fam := ⟨⟨false, [0, 4, 5], [0, 2, 3, 4], ⟨[], [], []⟩, ⟨[], [], []⟩⟩, [Z86_v0_0 w]⟩
def Z86_F (w0 : Z86_l0_Ty) : Nat → Fam := fun i => bif i.beq 7 then Z86_F0 w0 else noFam
def E_Z86 (N : Nat) : Ent := .of [Z86_W (Z86 N)]
def E_Z85_TG (c0 : Z86_Ty) : Table := fun g => bif g.beq 43 then .of [Z86_W c0] else cfgEnt [246]
def E_Z85_T (N : Nat) : Table := E_Z85_TG (@Z86 N)
def Z85_W (f : Z85_Ty) : Var := ⟨[.v (.isl P1), .v (.isl (.isl (.int .u8)))], [], fun t u K => f t.1 t.2.1 (K (.tup [(.v .nilp), (.v (.int .i64 11))]) []) (K (.tup [(.v .nilp), (.v (.int .i64 12))]) []) (fun y0 y1 y2 y3 y4 => K (.tup [(.v (.ptr 0 0)), (.v (.int .i64 0))]) (G0 y0 y1 y2 y3 y4))⟩
def Z85_v0_0 (w : Z85_l0_Ty) : LVar := ⟨[.sv (.v (.isl P1)), .sv (.v (.isl (.isl (.int .u8)))), .sv (.v (.ptr 0 0)), .sv (.v (.int .i64)), .sv (.v (.int .i64))], G4, fun n t u K => w (fun y0 y1 y2 y3 y4 y5 y6 => K .ret [(.sv (.v (.isl (.isl (.int .u8)) y0))), (.sv (.v .nilp)), (.sv (.v (.int .i64 12))), (.sv (.v (.ptr 0 0))), (.sv (.v (.int .i64 y1)))] (G0 y2 y3 y4 y5 y6)) (fun y0 y1 y2 y3 y4 y5 y6 => K (.exit 0) [(.sv (.v (.isl (.isl (.int .u8)) y0))), .undef, .undef, (.sv (.v (.ptr 0 0))), (.sv (.v (.int .i64 y1)))] (G0 y2 y3 y4 y5 y6)) n t.1 t.2.1 t.2.2.2.1 t.2.2.2.2.1 u.1.2.2.2.1 u.2.1.2.1 u.2.2.1 u.2.2.2.1 u.2.2.2.2.1⟩
def Z85_F0 (w : Z85_l0_Ty) : Fam := ⟨⟨false, [0, 1, 8, 9, 10], [1, 4, 5, 8, 9], ⟨[], [], []⟩, ⟨[], [], []⟩⟩, [Z85_v0_0 w]⟩
def Z85_v1_0 (w : Z85_l1_Ty) : LVar := ⟨[.sv (.v (.ptr 0 0)), .sv (.v (.int .i64))], G4, fun n t u K => w (fun y0 y1 y2 y3 y4 => K (.exit 2) [(.sv (.v (.ptr 0 0)))] (G0 y0 y1 y2 y3 y4)) n t.2.1 u.1.2.2.2.1 u.2.1.2.1 u.2.2.1 u.2.2.2.1 u.2.2.2.2.1⟩
def Z85_F1 (w : Z85_l1_Ty) : Fam := ⟨⟨false, [8, 11], [8], ⟨[], [], []⟩, ⟨[], [], []⟩⟩, [Z85_v1_0 w]⟩
def Z85_F (w0 : Z85_l0_Ty) (w1 : Z85_l1_Ty) : Nat → Fam := fun i => bif i.beq 9 then Z85_F0 w0 else bif i.beq 25 then Z85_F1 w1 else noFam
def E_Z85 (N : Nat) : Ent := .of [Z85_W (Z85 N)]
def E_Y7_TG (c0 : Z85_Ty) (c1 : Z28_Ty) (c2 : Z29_Ty) (c3 : Z43_Ty) (c4 : Z42_Ty) (c5 : Z101_Ty) : Table := fun g => bif g.beq 10 then .of [Z85_W c0] else bif g.beq 30 then .of [Z28_W c1, Z29_W c2] else bif g.beq 21 then .of [Z43_W c3, Z42_W c4] else bif g.beq 27 then .of [Z101_W c5] else cfgEnt [246]
def E_Y7_T (N : Nat) : Table := E_Y7_TG (@Z85 N) (@Z28 N) (@Z29 N) (@Z43 N) (@Z42 N) (@Z101 N)
def Z41_W (f : Z41_Ty) : Var := ⟨[.v (.ptr 0 0), .v (.isl P1), .v (.isl (.isl (.int .u8)))], G8, fun t u K => f t.2.1 t.2.2.1 u.2.1 u.2.2.1 u.2.2.2.1 (fun y0 y1 y2 => K (.tup [(.v .nilp), (.v .nilp), (.v (.int .i64 11)), (.v (.int .i64 11))]) (G9 y0 y1 y2)) (fun y0 y1 y2 => K (.tup [(.v .nilp), (.v .nilp), (.v (.int .i64 11)), (.v (.int .i64 12))]) (G9 y0 y1 y2)) (fun y0 y1 y2 y3 y4 y5 y6 y7 => K (.tup [(.v .nilp), (.v (.ptr 5 0)), (.v (.int .i64 11)), (.v (.int .i64 0))]) (G28 y0 y1 y2 y3 y4 y5 y6 y7)) (fun y0 y1 y2 => K (.tup [(.v .nilp), (.v .nilp), (.v (.int .i64 12)), (.v (.int .i64 11))]) (G9 y0 y1 y2)) (fun y0 y1 y2 => K (.tup [(.v .nilp), (.v .nilp), (.v (.int .i64 12)), (.v (.int .i64 12))]) (G9 y0 y1 y2)) (fun y0 y1 y2 y3 y4 y5 y6 y7 => K (.tup [(.v .nilp), (.v (.ptr 5 0)), (.v (.int .i64 12)), (.v (.int .i64 0))]) (G28 y0 y1 y2 y3 y4 y5 y6 y7)) (fun y0 y1 y2 y3 y4 y5 y6 y7 y8 => K (.tup [(.v (.ptr 5 0)), (.v .nilp), (.v (.int .i64 0)), (.v (.int .i64 11))]) (G26 y0 y1 y2 y3 y4 y5 y6 y7 y8)) (fun y0 y1 y2 y3 y4 y5 y6 y7 y8 => K (.tup [(.v (.ptr 5 0)), (.v .nilp), (.v (.int .i64 0)), (.v (.int .i64 12))]) (G26 y0 y1 y2 y3 y4 y5 y6 y7 y8)) (fun y0 y1 y2 y3 y4 y5 y6 y7 y8 y9 y10 y11 y12 y13 => K (.tup [(.v (.ptr 5 0)), (.v (.ptr 10 0)), (.v (.int .i64 0)), (.v (.int .i64 0))]) [(.cells [(.c (.wl 4 6)), (.c (.map 2)), (.c (.map 3))]), .dead, (.map P0 (.int .i64) true false y0), (.map (.int .i64) (.int .i64) false false y1), (.cells [(row P0 y2)]), (.cells [(.c (.ptr 6 0)), (.c (.map 8)), (.c (.wl 9 2)), (.row (.int .i64) 4 y3), (.c (.int .i64 y4))]), (.cells [(.c (.map 7)), (.c (.int .i64 y5))]), (.map P4 P3 true true y6), (.map (.int .i64) (.isl (.int .i64)) false false y7), (.cells [(row P2 y8)]), (.cells [(.c (.ptr 11 0)), (.c (.wl 13 1)), (.c (.wl 14 1)), (.row (.int .i64) 4 y9)]), (.cells [(.c (.wl 12 3)), (.c (.int .i64 y10))]), (.cells [(row P1 y11)]), (.cells [(row (.isl (.int .u8)) y12)]), (.cells [(row (.ref false 246) y13)])])⟩
def Z41_v0_0 (w : Z41_l0_Ty) : LVar := ⟨[.sv (.v (.ptr 0 0)), .sv (.v (.isl P1)), .sv (.v (.isl (.isl (.int .u8)))), .sv (.v (.int .i64)), .sv (.v (.wl 5 1)), .sv (.v (.int .i64))], [.cells [.c (.wl 4 6), .c (.map 2), .c (.map 3)], .dead, .map P0 (.int .i64) true false, .map (.int .i64) (.int .i64) false false, .rows P0, .rows (.isl (.int .i64))], fun n t u K => w (fun y0 y1 y2 y3 y4 y5 y6 => K (.exit 0) [(.sv (.v (.isl P1 y0))), (.sv (.v (.isl (.isl (.int .u8)) y1))), (.sv (.v (.int .i64 y2))), (.sv (.v (.wl 5 1)))] [(.cells [(.c (.wl 4 6)), (.c (.map 2)), (.c (.map 3))]), .dead, (.map P0 (.int .i64) true false y3), (.map (.int .i64) (.int .i64) false false y4), (.cells [(row P0 y5)]), (.cells [(row (.isl (.int .i64)) y6)])]) n t.2.1 t.2.2.1 t.2.2.2.1 t.2.2.2.2.2.1 u.2.2.1 u.2.2.2.1 u.2.2.2.2.1 u.2.2.2.2.2.1⟩
def Z41_F0 (w : Z41_l0_Ty) : Fam := ⟨⟨false, [0, 1, 2, 10, 12, 13], [1, 2, 10, 12], ⟨[], [(4, false, (.isl (.int .i64)))], []⟩, ⟨[], [], []⟩⟩, [Z41_v0_0 w]⟩
def Z41_F (w0 : Z41_l0_Ty) : Nat → Fam := fun i => bif i.beq 5 then Z41_F0 w0 else noFam
def E_Y7 (N : Nat) : Ent := .of [Z41_W (Z41 N)]
def E_Z3_TG (c0 : Z24_Ty) (c1 : Z23_Ty) : Table := fun g => bif g.beq 68 then .of [Z24_W c0, Z23_W c1] else cfgEnt [246]
def E_Z3_T (N : Nat) : Table := E_Z3_TG (@Z24 N) (@Z23 N)
def Z3_W (f : Z3_Ty) : Var := ⟨[.v .nilp, .v (.int .u16)], [], fun t u K => f t.2.1 (fun y0 => K (.sv (.v (.int .u16 y0))) [])⟩
def Z3_F : Nat → Fam := fun _ => noFam
def Z4_W (f : Z4_Ty) : Var := ⟨[.v (.ptr 0 0), .v (.int .u16)], G1, fun t u K => f t.2.1 u.1.2.2.2.1 u.1.2.2.2.2.1 u.2.1.2.1 u.2.2.1 u.2.2.2.1 u.2.2.2.2.1 (fun y0 y1 y2 y3 y4 y5 y6 => K (.sv (.v (.int .u16 y0))) (G2 y1 y2 y3 y4 y5 y6))⟩
def Z4_F : Nat → Fam := fun _ => noFam
def E_Z3 (N : Nat) : Ent := .of [Z3_W (Z3 N), Z4_W (Z4 N)]
def E_Z81_TG : Table := fun _ => cfgEnt [246]
def E_Z81_T (N : Nat) : Table := E_Z81_TG
def Z81_W (f : Z81_Ty) : Var := ⟨[.v .nilp, .v (.int .u16)], [], fun t u K => f t.2.1 (K (.sv (.v .nilp)) [])⟩
def Z81_F : Nat → Fam := fun _ => noFam
def Z82_W (f : Z82_Ty) : Var := ⟨[.v (.ptr 0 0), .v (.int .u16)], G4, fun t u K => f t.2.1 u.1.2.2.2.1 u.2.1.2.1 u.2.2.1 u.2.2.2.1 u.2.2.2.2.1 (fun y0 y1 y2 y3 y4 => K (.sv (.v .nilp)) (G0 y0 y1 y2 y3 y4)) (fun y0 y1 y2 y3 y4 y5 => K (.sv (.v (.rf false 246 y0))) (G0 y1 y2 y3 y4 y5))⟩
def Z82_F : Nat → Fam := fun _ => noFam
def Z83_W (f : Z83_Ty) : Var := ⟨[.v (.ptr 0 0), .v (.int .u16)], G6, fun t u K => f t.2.1 u.1.2.2.2.1 u.2.1.2.1 u.2.2.1 u.2.2.2.1 u.2.2.2.2.1 u.2.2.2.2.2.1 (fun y0 y1 y2 y3 y4 y5 => K (.sv (.v .nilp)) (G3 y0 y1 y2 y3 y4 y5)) (fun y0 y1 y2 y3 y4 y5 y6 => K (.sv (.v (.rf false 246 y0))) (G3 y1 y2 y3 y4 y5 y6))⟩
def Z83_F : Nat → Fam := fun _ => noFam
def E_Z81 (N : Nat) : Ent := .of [Z81_W (Z81 N), Z82_W (Z82 N), Z83_W (Z83 N)]
def E_Z49_TG (c0 : Z81_Ty) (c1 : Z82_Ty) (c2 : Z83_Ty) : Table := fun g => bif g.beq 74 then .of [Z81_W c0, Z82_W c1, Z83_W c2] else cfgEnt [246]
def E_Z49_T (N : Nat) : Table := E_Z49_TG (@Z81 N) (@Z82 N) (@Z83 N)
def Z49_W (f : Z49_Ty) : Var := ⟨[.v .nilp, .v (.int .u16)], [], fun t u K => f t.2.1 (fun y0 => K (.sv (.v (.int .u16 y0))) [])⟩
def Z49_F : Nat → Fam := fun _ => noFam
def Z50_W (f : Z50_Ty) : Var := ⟨[.v (.ptr 0 0), .v (.int .u16)], G4, fun t u K => f t.2.1 u.1.2.2.2.1 u.2.1.2.1 u.2.2.1 u.2.2.2.1 u.2.2.2.2.1 (fun y0 y1 y2 y3 y4 y5 => K (.sv (.v (.int .u16 y0))) (G0 y1 y2 y3 y4 y5))⟩
def Z50_F : Nat → Fam := fun _ => noFam
def Z51_W (f : Z51_Ty) : Var := ⟨[.v (.ptr 0 0), .v (.int .u16)], G6, fun t u K => f t.2.1 u.1.2.2.2.1 u.2.1.2.1 u.2.2.1 u.2.2.2.1 u.2.2.2.2.1 u.2.2.2.2.2.1 (fun y0 y1 y2 y3 y4 y5 y6 => K (.sv (.v (.int .u16 y0))) (G3 y1 y2 y3 y4 y5 y6))⟩
def Z51_F : Nat → Fam := fun _ => noFam
def E_Z49 (N : Nat) : Ent := .of [Z49_W (Z49 N), Z50_W (Z50 N), Z51_W (Z51 N)]
def E_Z58_TG (c0 : Z81_Ty) (c1 : Z82_Ty) (c2 : Z83_Ty) : Table := fun g => bif g.beq 74 then .of [Z81_W c0, Z82_W c1, Z83_W c2] else cfgEnt [246]
def E_Z58_T (N : Nat) : Table := E_Z58_TG (@Z81 N) (@Z82 N) (@Z83 N)
def Z58_W (f : Z58_Ty) : Var := ⟨[.v .nilp, .v (.int .u16), .v (.int .u16)], [], fun t u K => f t.2.1 t.2.2.1 (fun y0 => K (.tup [(.v .nils), (.v (.int .u16 y0))]) [])⟩
def Z58_F : Nat → Fam := fun _ => noFam
def Z59_W (f : Z59_Ty) : Var := ⟨[.v (.ptr 0 0), .v (.int .u16), .v (.int .u16)], G4, fun t u K => f t.2.1 t.2.2.1 u.1.2.2.2.1 u.2.1.2.1 u.2.2.1 u.2.2.2.1 u.2.2.2.2.1 (fun y0 y1 y2 y3 y4 y5 => K (.tup [(.v .nils), (.v (.int .u16 y0))]) (G0 y1 y2 y3 y4 y5))⟩
def Z59_F : Nat → Fam := fun _ => noFam
def Z60_W (f : Z60_Ty) : Var := ⟨[.v (.ptr 0 0), .v (.int .u16), .v (.int .u16)], G6, fun t u K => f t.2.1 t.2.2.1 u.1.2.2.2.1 u.2.1.2.1 u.2.2.1 u.2.2.2.1 u.2.2.2.2.1 u.2.2.2.2.2.1 (fun y0 y1 y2 y3 y4 y5 y6 y7 => K (.tup [(.v (.wl 6 1)), (.v (.int .u16 y0))]) (G23 y1 y2 y3 y4 y5 y6 y7))⟩
def Z60_F : Nat → Fam := fun _ => noFam
def E_Z58 (N : Nat) : Ent := .of [Z58_W (Z58 N), Z59_W (Z59 N), Z60_W (Z60 N)]
def E_Z73_TG (c0 : Z81_Ty) (c1 : Z82_Ty) (c2 : Z83_Ty) : Table := fun g => bif g.beq 74 then .of [Z81_W c0, Z82_W c1, Z83_W c2] else cfgEnt [246]
def E_Z73_T (N : Nat) : Table := E_Z73_TG (@Z81 N) (@Z82 N) (@Z83 N)
def Z73_W (f : Z73_Ty) : Var := ⟨[.v .nilp, .v (.int .u16), .v (.isl (.int .u8))], [], fun t u K => f t.2.1 t.2.2.1 (fun y0 => K (.sv (.v (.int .u16 y0))) [])⟩
def Z73_F : Nat → Fam := fun _ => noFam
def Z77_W (f : Z77_Ty) : Var := ⟨[.v .nilp, .v (.int .u16), .v (.wl 0 1)], [.rows (.int .u8)], fun t u K => f t.2.1 u.1 (fun y0 y1 => K (.sv (.v (.int .u16 y0))) [(.cells [(row (.int .u8) y1)])])⟩
def Z77_F : Nat → Fam := fun _ => noFam
def Z76_W (f : Z76_Ty) : Var := ⟨[.v (.ptr 0 0), .v (.int .u16), .v (.isl (.int .u8))], G4, fun t u K => f t.2.1 t.2.2.1 u.1.2.2.2.1 u.2.1.2.1 u.2.2.1 u.2.2.2.1 u.2.2.2.2.1 (fun y0 y1 y2 y3 y4 y5 => K (.sv (.v (.int .u16 y0))) (G0 y1 y2 y3 y4 y5))⟩
def Z76_F : Nat → Fam := fun _ => noFam
def Z75_W (f : Z75_Ty) : Var := ⟨[.v (.ptr 0 0), .v (.int .u16), .v (.wl 5 1)], [.cells [.c (.ptr 1 0), .c (.wl 3 1), .c (.wl 4 1), .row (.int .i64) 4], .cells [.c (.wl 2 3), .c (.int .i64)], .rows P1, .rows (.isl (.int .u8)), .rows (.ref false 246), .rows (.int .u8)], fun t u K => f t.2.1 u.1.2.2.2.1 u.2.1.2.1 u.2.2.1 u.2.2.2.1 u.2.2.2.2.1 u.2.2.2.2.2.1 (fun y0 y1 y2 y3 y4 y5 y6 => K (.sv (.v (.int .u16 y0))) [(.cells [(.c (.ptr 1 0)), (.c (.wl 3 1)), (.c (.wl 4 1)), (.row (.int .i64) 4 y1)]), (.cells [(.c (.wl 2 3)), (.c (.int .i64 y2))]), (.cells [(row P1 y3)]), (.cells [(row (.isl (.int .u8)) y4)]), (.cells [(row (.ref false 246) y5)]), (.cells [(row (.int .u8) y6)])])⟩
def Z75_F : Nat → Fam := fun _ => noFam
def Z78_W (f : Z78_Ty) : Var := ⟨[.v (.ptr 0 0), .v (.int .u16), .v (.wl 6 1)], G32, fun t u K => f t.2.1 u.1.2.2.2.1 u.2.1.2.1 u.2.2.1 u.2.2.2.1 u.2.2.2.2.1 u.2.2.2.2.2.1 u.2.2.2.2.2.2.1 (fun y0 y1 y2 y3 y4 y5 y6 y7 => K (.sv (.v (.int .u16 y0))) (G23 y1 y2 y3 y4 y5 y6 y7))⟩
def Z78_v0_0 (w : Z78_l0_Ty) : LVar := ⟨[.sv (.v (.ptr 0 0)), .sv (.v (.wl 6 1)), .sv (.v (.rf false 246)), .sv (.v (.int .i64)), .sv (.v (.wl 7 1))], [.cells [.c (.ptr 1 0), .c (.wl 3 1), .c (.wl 4 1), .row (.int .i64) 4], .cells [.c (.wl 2 3), .c (.int .i64)], .rows P1, .rows (.isl (.int .u8)), .rows (.ref false 246), .pool false 246 P2, .rows (.int .u8), .rows (.int .u8)], fun n t u K => w (fun y0 y1 y2 y3 y4 y5 y6 y7 y8 y9 => K (.exit 0) [(.sv (.v (.ptr 0 0))), (.sv (.v (.wl 6 1))), (.sv (.v (.rf false 246 y0))), (.sv (.v (.int .i64 y1))), (.sv (.v (.wl 7 1)))] [(.cells [(.c (.ptr 1 0)), (.c (.wl 3 1)), (.c (.wl 4 1)), (.row (.int .i64) 4 y2)]), (.cells [(.c (.wl 2 3)), (.c (.int .i64 y3))]), (.cells [(row P1 y4)]), (.cells [(row (.isl (.int .u8)) y5)]), (.cells [(row (.ref false 246) y6)]), (.pool false 246 P2 y7), (.cells [(row (.int .u8) y8)]), (.cells [(row (.int .u8) y9)])]) n t.2.2.1 t.2.2.2.1 u.1.2.2.2.1 u.2.1.2.1 u.2.2.1 u.2.2.2.1 u.2.2.2.2.1 u.2.2.2.2.2.1 u.2.2.2.2.2.2.1 u.2.2.2.2.2.2.2.1⟩
def Z78_F0 (w : Z78_l0_Ty) : Fam := ⟨⟨false, [0, 2, 7, 8, 9], [0, 2, 7, 8, 9], ⟨[], [], []⟩, ⟨[], [], []⟩⟩, [Z78_v0_0 w]⟩
def Z78_F (w0 : Z78_l0_Ty) : Nat → Fam := fun i => bif i.beq 14 then Z78_F0 w0 else noFam
def Z74_W (f : Z74_Ty) : Var := ⟨[.v (.ptr 0 0), .v (.int .u16), .v (.isl (.int .u8))], G6, fun t u K => f t.2.1 t.2.2.1 u.1.2.2.2.1 u.2.1.2.1 u.2.2.1 u.2.2.2.1 u.2.2.2.2.1 u.2.2.2.2.2.1 (fun y0 y1 y2 y3 y4 y5 y6 => K (.sv (.v (.int .u16 y0))) (G3 y1 y2 y3 y4 y5 y6))⟩
def Z74_v0_0 (w : Z74_l0_Ty) : LVar := ⟨[.sv (.v (.ptr 0 0)), .sv (.v (.isl (.int .u8))), .sv (.v (.rf false 246)), .sv (.v (.int .i64)), .sv (.v (.wl 6 1))], G32, fun n t u K => w (fun y0 y1 y2 y3 y4 y5 y6 y7 y8 y9 => K (.exit 0) [(.sv (.v (.ptr 0 0))), (.sv (.v (.isl (.int .u8) y0))), (.sv (.v (.rf false 246 y1))), (.sv (.v (.int .i64 y2))), (.sv (.v (.wl 6 1)))] (G23 y3 y4 y5 y6 y7 y8 y9)) n t.2.1 t.2.2.1 t.2.2.2.1 u.1.2.2.2.1 u.2.1.2.1 u.2.2.1 u.2.2.2.1 u.2.2.2.2.1 u.2.2.2.2.2.1 u.2.2.2.2.2.2.1⟩
def Z74_F0 (w : Z74_l0_Ty) : Fam := ⟨⟨false, [0, 2, 7, 8, 9], [0, 2, 7, 8, 9], ⟨[], [], []⟩, ⟨[], [], []⟩⟩, [Z74_v0_0 w]⟩
def Z74_F (w0 : Z74_l0_Ty) : Nat → Fam := fun i => bif i.beq 14 then Z74_F0 w0 else noFam
def E_Z73 (N : Nat) : Ent := .of [Z73_W (Z73 N), Z77_W (Z77 N), Z76_W (Z76 N), Z75_W (Z75 N), Z78_W (Z78 N), Z74_W (Z74 N)]
def E_Z13_TG (c0 : Z24_Ty) (c1 : Z23_Ty) : Table := fun g => bif g.beq 68 then .of [Z24_W c0, Z23_W c1] else cfgEnt [246]
def E_Z13_T (N : Nat) : Table := E_Z13_TG (@Z24 N) (@Z23 N)
def Z13_W (f : Z13_Ty) : Var := ⟨[.v .nilp, .v (.int .u16), .v (.int .u16)], [], fun t u K => f t.2.1 t.2.2.1 (fun y0 => K (.sv (.v (.int .u16 y0))) [])⟩
def Z13_F : Nat → Fam := fun _ => noFam
def Z14_W (f : Z14_Ty) : Var := ⟨[.v (.ptr 0 0), .v (.int .u16), .v (.int .u16)], G1, fun t u K => f t.2.1 t.2.2.1 u.1.2.2.2.1 u.1.2.2.2.2.1 u.2.1.2.1 u.2.2.1 u.2.2.2.1 u.2.2.2.2.1 (fun y0 y1 y2 y3 y4 y5 y6 => K (.sv (.v (.int .u16 y0))) (G2 y1 y2 y3 y4 y5 y6))⟩
def Z14_F : Nat → Fam := fun _ => noFam
def E_Z13 (N : Nat) : Ent := .of [Z13_W (Z13 N), Z14_W (Z14 N)]
def E_Z61_TG (c0 : Z81_Ty) (c1 : Z82_Ty) (c2 : Z83_Ty) : Table := fun g => bif g.beq 74 then .of [Z81_W c0, Z82_W c1, Z83_W c2] else cfgEnt [246]
def E_Z61_T (N : Nat) : Table := E_Z61_TG (@Z81 N) (@Z82 N) (@Z83 N)
def Z61_W (f : Z61_Ty) : Var := ⟨[.v .nilp, .v (.int .u16), .v (.int .u16)], [], fun t u K => f t.2.1 t.2.2.1 (fun y0 => K (.sv (.v (.int .u16 y0))) [])⟩
def Z61_F : Nat → Fam := fun _ => noFam
def Z62_W (f : Z62_Ty) : Var := ⟨[.v (.ptr 0 0), .v (.int .u16), .v (.int .u16)], G4, fun t u K => f t.2.1 t.2.2.1 u.1.2.2.2.1 u.2.1.2.1 u.2.2.1 u.2.2.2.1 u.2.2.2.2.1 (fun y0 y1 y2 y3 y4 y5 => K (.sv (.v (.int .u16 y0))) (G0 y1 y2 y3 y4 y5))⟩
def Z62_F : Nat → Fam := fun _ => noFam
def Z63_W (f : Z63_Ty) : Var := ⟨[.v (.ptr 0 0), .v (.int .u16), .v (.int .u16)], G6, fun t u K => f t.2.1 t.2.2.1 u.1.2.2.2.1 u.2.1.2.1 u.2.2.1 u.2.2.2.1 u.2.2.2.2.1 u.2.2.2.2.2.1 (fun y0 y1 y2 y3 y4 y5 y6 => K (.sv (.v (.int .u16 y0))) (G3 y1 y2 y3 y4 y5 y6))⟩
def Z63_F : Nat → Fam := fun _ => noFam
def E_Z61 (N : Nat) : Ent := .of [Z61_W (Z61 N), Z62_W (Z62 N), Z63_W (Z63 N)]
def E_Z64_TG (c0 : Z81_Ty) (c1 : Z82_Ty) (c2 : Z83_Ty) : Table := fun g => bif g.beq 74 then .of [Z81_W c0, Z82_W c1, Z83_W c2] else cfgEnt [246]
def E_Z64_T (N : Nat) : Table := E_Z64_TG (@Z81 N) (@Z82 N) (@Z83 N)
def Z64_W (f : Z64_Ty) : Var := ⟨[.v .nilp, .v (.int .u16)], [], fun t u K => f t.2.1 (fun y0 => K (.sv (.v (.int .u16 y0))) [])⟩
def Z64_F : Nat → Fam := fun _ => noFam
def Z65_W (f : Z65_Ty) : Var := ⟨[.v (.ptr 0 0), .v (.int .u16)], G4, fun t u K => f t.2.1 u.1.2.2.2.1 u.2.1.2.1 u.2.2.1 u.2.2.2.1 u.2.2.2.2.1 (fun y0 y1 y2 y3 y4 y5 => K (.sv (.v (.int .u16 y0))) (G0 y1 y2 y3 y4 y5))⟩
def Z65_F : Nat → Fam := fun _ => noFam
def Z66_W (f : Z66_Ty) : Var := ⟨[.v (.ptr 0 0), .v (.int .u16)], G6, fun t u K => f t.2.1 u.1.2.2.2.1 u.2.1.2.1 u.2.2.1 u.2.2.2.1 u.2.2.2.2.1 u.2.2.2.2.2.1 (fun y0 y1 y2 y3 y4 y5 y6 => K (.sv (.v (.int .u16 y0))) (G3 y1 y2 y3 y4 y5 y6))⟩
def Z66_F : Nat → Fam := fun _ => noFam
def E_Z64 (N : Nat) : Ent := .of [Z64_W (Z64 N), Z65_W (Z65 N), Z66_W (Z66 N)]
def E_Z67_TG (c0 : Z81_Ty) (c1 : Z82_Ty) (c2 : Z83_Ty) : Table := fun g => bif g.beq 74 then .of [Z81_W c0, Z82_W c1, Z83_W c2] else cfgEnt [246]
def E_Z67_T (N : Nat) : Table := E_Z67_TG (@Z81 N) (@Z82 N) (@Z83 N)
def Z67_W (f : Z67_Ty) : Var := ⟨[.v .nilp, .v (.int .u16), .v (.int .u16)], [], fun t u K => f t.2.1 t.2.2.1 (fun y0 => K (.sv (.v (.int .u16 y0))) [])⟩
def Z67_F : Nat → Fam := fun _ => noFam
def Z68_W (f : Z68_Ty) : Var := ⟨[.v (.ptr 0 0), .v (.int .u16), .v (.int .u16)], G4, fun t u K => f t.2.1 t.2.2.1 u.1.2.2.2.1 u.2.1.2.1 u.2.2.1 u.2.2.2.1 u.2.2.2.2.1 (fun y0 y1 y2 y3 y4 y5 => K (.sv (.v (.int .u16 y0))) (G0 y1 y2 y3 y4 y5))⟩
def Z68_F : Nat → Fam := fun _ => noFam
def Z69_W (f : Z69_Ty) : Var := ⟨[.v (.ptr 0 0), .v (.int .u16), .v (.int .u16)], G6, fun t u K => f t.2.1 t.2.2.1 u.1.2.2.2.1 u.2.1.2.1 u.2.2.1 u.2.2.2.1 u.2.2.2.2.1 u.2.2.2.2.2.1 (fun y0 y1 y2 y3 y4 y5 y6 => K (.sv (.v (.int .u16 y0))) (G3 y1 y2 y3 y4 y5 y6))⟩
def Z69_F : Nat → Fam := fun _ => noFam
def E_Z67 (N : Nat) : Ent := .of [Z67_W (Z67 N), Z68_W (Z68 N), Z69_W (Z69 N)]
def E_Z19_TG (c0 : Z24_Ty) (c1 : Z23_Ty) (c2 : Z25_Ty) : Table := fun g => bif g.beq 68 then .of [Z24_W c0, Z23_W c1] else bif g.beq 65 then .of [Z25_W c2] else cfgEnt [246]
def E_Z19_T (N : Nat) : Table := E_Z19_TG (@Z24 N) (@Z23 N) (@Z25 N)
def Z19_W (f : Z19_Ty) : Var := ⟨[.v .nilp, .v (.int .u16)], [], fun t u K => f t.2.1 (fun y0 => K (.sv (.v (.int .u16 y0))) [])⟩
def Z19_F : Nat → Fam := fun _ => noFam
def Z20_W (f : Z20_Ty) : Var := ⟨[.v (.ptr 0 0), .v (.int .u16)], G1, fun t u K => f t.2.1 u.1.2.2.2.1 u.1.2.2.2.2.1 u.2.1.2.1 u.2.2.1 u.2.2.2.1 u.2.2.2.2.1 (fun y0 y1 y2 y3 y4 y5 y6 => K (.sv (.v (.int .u16 y0))) (G2 y1 y2 y3 y4 y5 y6))⟩
def Z20_F : Nat → Fam := fun _ => noFam
def E_Z19 (N : Nat) : Ent := .of [Z19_W (Z19 N), Z20_W (Z20 N)]
def E_Z5_TG (c0 : slices_Clone__term_T_term_T_Ty) (c1 : Z112_Ty) : Table := fun g => bif g.beq 69 then .of [slices_Clone__term_T_term_T_W c0] else bif g.beq 64 then .of [Z112_W c1] else cfgEnt [246]
def E_Z5_T (N : Nat) : Table := E_Z5_TG @slices_Clone__term_T_term_T (@Z112 N)
def Z5_W (f : Z5_Ty) : Var := ⟨[.v .nilp, .v .str], [], fun t u K => f t.2.1 (fun y0 => K (.tup [(.v .nils), (.v (.int .u16 y0))]) [])⟩
def Z5_F : Nat → Fam := fun _ => noFam
def Z6_W (f : Z6_Ty) : Var := ⟨[.v (.ptr 0 0), .v .str], G1, fun t u K => f t.2.1 u.1.2.2.2.1 u.1.2.2.2.2.1 u.2.1.2.1 u.2.2.1 u.2.2.2.1 u.2.2.2.2.1 (fun y0 y1 y2 y3 y4 y5 y6 y7 => K (.tup [(.v (.wl 5 1)), (.v (.int .u16 y0))]) (G11 y1 y2 y3 y4 y5 y6 y7))⟩
def Z6_F : Nat → Fam := fun _ => noFam
def E_Z5 (N : Nat) : Ent := .of [Z5_W (Z5 N), Z6_W (Z6 N)]
def E_Y15_TG (c0 : Z94_Ty) (c1 : Z87_Ty) : Table := fun g => bif g.beq 87 then .of [Z94_W c0] else bif g.beq 88 then .of [Z87_W c1] else cfgEnt [246]
def E_Y15_T (N : Nat) : Table := E_Y15_TG (@Z94 N) (@Z87 N)
def Z93_W (f : Z93_Ty) : Var := ⟨[.v (.ptr 0 0), .v .str], G22, fun t u K => f t.2.1 u.1.2.1 u.2.1 (fun y0 y1 y2 => K (.sv (.v (.int .u16 y0))) (G14 y1 y2))⟩
def Z93_F : Nat → Fam := fun _ => noFam
def E_Y15 (N : Nat) : Ent := .of [Z93_W (Z93 N)]
def E_Y11_TG (c0 : Z94_Ty) (c1 : Z93_Ty) (c2 : Z84_Ty) : Table := fun g => bif g.beq 87 then .of [Z94_W c0] else bif g.beq 89 then .of [Z93_W c1] else bif g.beq 86 then .of [Z84_W c2] else cfgEnt [246]
def E_Y11_T (N : Nat) : Table := E_Y11_TG (@Z94 N) (@Z93 N) (@Z84 N)
def Z89_W (f : Z89_Ty) : Var := ⟨[.v (.ptr 0 0), .v .str], G22, fun t u K => f t.2.1 u.1.2.1 u.2.1 (fun y0 y1 y2 y3 y4 => K (.tup [(.v (.int .i64 y0)), (.v (.bool y1)), (.v (.int .u16 y2))]) (G14 y3 y4))⟩
def Z89_F : Nat → Fam := fun _ => noFam
def E_Y11 (N : Nat) : Ent := .of [Z89_W (Z89 N)]
def E_Z46_TG (c0 : Z89_Ty) : Table := fun g => bif g.beq 80 then .of [Z89_W c0] else cfgEnt [246]
def E_Z46_T (N : Nat) : Table := E_Z46_TG (@Z89 N)
def Z46_W (f : Z46_Ty) : Var := ⟨[.v .nilp, .v .str], [], fun t u K => f t.2.1⟩
def Z46_F : Nat → Fam := fun _ => noFam
def Z47_W (f : Z47_Ty) : Var := ⟨[.v (.ptr 0 0), .v .str], G4, fun t u K => f t.2.1 u.1.2.2.2.1 u.2.1.2.1 u.2.2.1 u.2.2.2.1 u.2.2.2.2.1 (fun y0 y1 y2 y3 y4 y5 y6 => K (.tup [(.v (.isl (.int .u8) y0)), (.v (.int .u16 y1))]) (G0 y2 y3 y4 y5 y6))⟩
def Z47_F : Nat → Fam := fun _ => noFam
def Z48_W (f : Z48_Ty) : Var := ⟨[.v (.ptr 0 0), .v .str], G6, fun t u K => f t.2.1 u.1.2.2.2.1 u.2.1.2.1 u.2.2.1 u.2.2.2.1 u.2.2.2.2.1 u.2.2.2.2.2.1 (fun y0 y1 y2 y3 y4 y5 y6 y7 => K (.tup [(.v (.isl (.int .u8) y0)), (.v (.int .u16 y1))]) (G3 y2 y3 y4 y5 y6 y7))⟩
def Z48_F : Nat → Fam := fun _ => noFam
def E_Z46 (N : Nat) : Ent := .of [Z46_W (Z46 N), Z47_W (Z47 N), Z48_W (Z48 N)]
def E_Y9_TG : Table := fun _ => cfgEnt [246]
def E_Y9_T (N : Nat) : Table := E_Y9_TG
def Z80_W (f : Z80_Ty) : Var := ⟨[.v (.ptr 0 0)], G4, fun t u K => f u.1.2.2.2.1 u.2.1.2.1 u.2.2.1 u.2.2.2.1 u.2.2.2.2.1 (fun y0 y1 y2 y3 y4 y5 => K (.sv (.v (.int .i64 y0))) (G0 y1 y2 y3 y4 y5))⟩
def Z80_v0_0 (w : Z80_l0_Ty) : LVar := ⟨[.sv (.v (.ptr 0 0)), .sv (.v (.int .i64))], G4, fun n t u K => w (fun y0 y1 y2 y3 y4 y5 => K .ret [(.sv (.v (.int .i64 y0)))] (G0 y1 y2 y3 y4 y5)) (fun y0 y1 y2 y3 y4 => K (.exit 0) [.undef] (G0 y0 y1 y2 y3 y4)) n t.2.1 u.1.2.2.2.1 u.2.1.2.1 u.2.2.1 u.2.2.2.1 u.2.2.2.2.1⟩
def Z80_F0 (w : Z80_l0_Ty) : Fam := ⟨⟨false, [0, 3], [2], ⟨[], [], []⟩, ⟨[], [], []⟩⟩, [Z80_v0_0 w]⟩
def Z80_F (w0 : Z80_l0_Ty) : Nat → Fam := fun i => bif i.beq 3 then Z80_F0 w0 else noFam
def Z79_W (f : Z79_Ty) : Var := ⟨[.v (.ptr 0 0)], G6, fun t u K => f u.1.2.2.2.1 u.2.1.2.1 u.2.2.1 u.2.2.2.1 u.2.2.2.2.1 u.2.2.2.2.2.1 (fun y0 y1 y2 y3 y4 y5 y6 => K (.sv (.v (.int .i64 y0))) (G3 y1 y2 y3 y4 y5 y6))⟩
def Z79_v0_0 (w : Z79_l0_Ty) : LVar := ⟨[.sv (.v (.ptr 0 0)), .sv (.v (.int .i64))], G6, fun n t u K => w (fun y0 y1 y2 y3 y4 y5 y6 => K .ret [(.sv (.v (.int .i64 y0)))] (G3 y1 y2 y3 y4 y5 y6)) (fun y0 y1 y2 y3 y4 y5 => K (.exit 0) [.undef] (G3 y0 y1 y2 y3 y4 y5)) n t.2.1 u.1.2.2.2.1 u.2.1.2.1 u.2.2.1 u.2.2.2.1 u.2.2.2.2.1 u.2.2.2.2.2.1⟩
def Z79_F0 (w : Z79_l0_Ty) : Fam := ⟨⟨false, [0, 3], [2], ⟨[], [], []⟩, ⟨[], [], []⟩⟩, [Z79_v0_0 w]⟩
def Z79_F (w0 : Z79_l0_Ty) : Nat → Fam := fun i => bif i.beq 3 then Z79_F0 w0 else noFam
def E_Y9 (N : Nat) : Ent := .of [Z80_W (Z80 N), Z79_W (Z79 N)]
def E_Z70_TG (c0 : Z81_Ty) (c1 : Z82_Ty) (c2 : Z83_Ty) (c3 : Z80_Ty) (c4 : Z79_Ty) : Table := fun g => bif g.beq 74 then .of [Z81_W c0, Z82_W c1, Z83_W c2] else bif g.beq 90 then .of [Z80_W c3, Z79_W c4] else cfgEnt [246]
def E_Z70_T (N : Nat) : Table := E_Z70_TG (@Z81 N) (@Z82 N) (@Z83 N) (@Z80 N) (@Z79 N)
def Z70_W (f : Z70_Ty) : Var := ⟨[.v .nilp, .v (.int .u16)], [], fun t u K => f t.2.1 (fun y0 => K (.sv (.v (.int .u16 y0))) [])⟩
def Z70_F : Nat → Fam := fun _ => noFam
def Z71_W (f : Z71_Ty) : Var := ⟨[.v (.ptr 0 0), .v (.int .u16)], G4, fun t u K => f t.2.1 u.1.2.2.2.1 u.2.1.2.1 u.2.2.1 u.2.2.2.1 u.2.2.2.2.1 (fun y0 y1 y2 y3 y4 y5 => K (.sv (.v (.int .u16 y0))) (G0 y1 y2 y3 y4 y5))⟩
def Z71_F : Nat → Fam := fun _ => noFam
def Z72_W (f : Z72_Ty) : Var := ⟨[.v (.ptr 0 0), .v (.int .u16)], G6, fun t u K => f t.2.1 u.1.2.2.2.1 u.2.1.2.1 u.2.2.1 u.2.2.2.1 u.2.2.2.2.1 u.2.2.2.2.2.1 (fun y0 y1 y2 y3 y4 y5 y6 => K (.sv (.v (.int .u16 y0))) (G3 y1 y2 y3 y4 y5 y6))⟩
def Z72_F : Nat → Fam := fun _ => noFam
def E_Z70 (N : Nat) : Ent := .of [Z70_W (Z70 N), Z71_W (Z71 N), Z72_W (Z72 N)]
def E_Y12_TG (c0 : Z94_Ty) (c1 : Z87_Ty) (c2 : Z93_Ty) (c3 : Z84_Ty) : Table := fun g => bif g.beq 87 then .of [Z94_W c0] else bif g.beq 88 then .of [Z87_W c1] else bif g.beq 89 then .of [Z93_W c2] else bif g.beq 86 then .of [Z84_W c3] else cfgEnt [246]
def E_Y12_T (N : Nat) : Table := E_Y12_TG (@Z94 N) (@Z87 N) (@Z93 N) (@Z84 N)
def Z90_W (f : Z90_Ty) : Var := ⟨[.v (.ptr 0 0), .v .str, .v .bool], G22, fun t u K => f t.2.1 t.2.2.1 u.1.2.1 u.2.1 (fun y0 y1 y2 y3 => K (.tup [(.v (.int .i64 y0)), (.v (.int .u16 y1))]) [(.cells [(.c (.wl 2 3)), (.c (.int .i64 y2))]), .dead, (.cells [(row P1 y3)])])⟩
def Z90_F : Nat → Fam := fun _ => noFam
def E_Y12 (N : Nat) : Ent := .of [Z90_W (Z90 N)]
def E_Z55_TG (c0 : Z84_Ty) (c1 : Z90_Ty) (c2 : Z80_Ty) (c3 : Z79_Ty) (c4 : Z93_Ty) (c5 : Z89_Ty) : Table := fun g => bif g.beq 86 then .of [Z84_W c0] else bif g.beq 91 then .of [Z90_W c1] else bif g.beq 90 then .of [Z80_W c2, Z79_W c3] else bif g.beq 89 then .of [Z93_W c4] else bif g.beq 80 then .of [Z89_W c5] else cfgEnt [246]
def E_Z55_T (N : Nat) : Table := E_Z55_TG (@Z84 N) (@Z90 N) (@Z80 N) (@Z79 N) (@Z93 N) (@Z89 N)
def Z55_W (f : Z55_Ty) : Var := ⟨[.v .nilp, .v .str], [], fun t u K => f t.2.1 (fun y0 => K (.sv (.v (.int .u16 y0))) [])⟩
def Z55_F : Nat → Fam := fun _ => noFam
def Z56_W (f : Z56_Ty) : Var := ⟨[.v (.ptr 0 0), .v .str], G4, fun t u K => f t.2.1 u.1.2.2.2.1 u.2.1.2.1 u.2.2.1 u.2.2.2.1 u.2.2.2.2.1 (fun y0 y1 y2 y3 y4 y5 => K (.sv (.v (.int .u16 y0))) [(.cells [(.c (.ptr 1 0)), (.c (.wl 5 1)), (.c (.wl 6 1)), (.row (.int .i64) 4 y1)]), (.cells [(.c (.wl 7 3)), (.c (.int .i64 y2))]), .dead, .dead, .dead, (.cells [(row (.isl (.int .u8)) y3)]), (.cells [(row (.ref false 246) y4)]), (.cells [(row P1 y5)])]) (fun y0 y1 y2 y3 y4 y5 y6 => K (.sv (.v (.int .u16 y0))) [(.cells [(.c (.ptr 1 0)), (.c (.wl 5 1)), (.c (.wl 6 1)), (.row (.int .i64) 4 y1)]), (.cells [(.c (.wl 8 3)), (.c (.int .i64 y2))]), .dead, .dead, .dead, (.cells [(row (.isl (.int .u8)) y3)]), (.cells [(row (.ref false 246) y4)]), (.pool false 246 P2 y5), (.cells [(row P1 y6)])])⟩
def Z56_v0_0 (w : Z56_l0_Ty) : LVar := ⟨[.sv (.v (.ptr 0 0)), .sv (.v (.int .i64)), .sv (.v (.int .i64))], G35, fun n t u K => w (fun y0 y1 y2 y3 y4 y5 y6 => K (.exit 0) [(.sv (.v (.ptr 0 0))), (.sv (.v (.int .i64 y0))), (.sv (.v (.int .i64 y1)))] (G25 y2 y3 y4 y5 y6)) n t.2.1 t.2.2.1 u.1.2.2.2.1 u.2.1.2.1 u.2.2.2.2.1 u.2.2.2.2.2.1 u.2.2.2.2.2.2.1⟩
def Z56_F0 (w : Z56_l0_Ty) : Fam := ⟨⟨false, [0, 5, 9], [0, 5, 9], ⟨[3], [], []⟩, ⟨[], [], []⟩⟩, [Z56_v0_0 w]⟩
def Z56_F (w0 : Z56_l0_Ty) : Nat → Fam := fun i => bif i.beq 23 then Z56_F0 w0 else noFam
def Z57_W (f : Z57_Ty) : Var := ⟨[.v (.ptr 0 0), .v .str], G6, fun t u K => f t.2.1 u.1.2.2.2.1 u.2.1.2.1 u.2.2.1 u.2.2.2.1 u.2.2.2.2.1 u.2.2.2.2.2.1 (fun y0 y1 y2 y3 y4 y5 y6 => K (.sv (.v (.int .u16 y0))) [(.cells [(.c (.ptr 1 0)), (.c (.wl 6 1)), (.c (.wl 7 1)), (.row (.int .i64) 4 y1)]), (.cells [(.c (.wl 8 3)), (.c (.int .i64 y2))]), .dead, .dead, .dead, (.pool false 246 P2 y3), (.cells [(row (.isl (.int .u8)) y4)]), (.cells [(row (.ref false 246) y5)]), (.cells [(row P1 y6)])])⟩
def Z57_v0_0 (w : Z57_l0_Ty) : LVar := ⟨[.sv (.v (.ptr 0 0)), .sv (.v (.int .i64)), .sv (.v (.int .i64))], G33, fun n t u K => w (fun y0 y1 y2 y3 y4 y5 y6 y7 => K (.exit 0) [(.sv (.v (.ptr 0 0))), (.sv (.v (.int .i64 y0))), (.sv (.v (.int .i64 y1)))] (G24 y2 y3 y4 y5 y6 y7)) n t.2.1 t.2.2.1 u.1.2.2.2.1 u.2.1.2.1 u.2.2.2.2.1 u.2.2.2.2.2.1 u.2.2.2.2.2.2.1 u.2.2.2.2.2.2.2.1⟩
def Z57_F0 (w : Z57_l0_Ty) : Fam := ⟨⟨false, [0, 5, 9], [0, 5, 9], ⟨[3], [], []⟩, ⟨[], [], []⟩⟩, [Z57_v0_0 w]⟩
def Z57_F (w0 : Z57_l0_Ty) : Nat → Fam := fun i => bif i.beq 23 then Z57_F0 w0 else noFam
def E_Z55 (N : Nat) : Ent := .of [Z55_W (Z55 N), Z56_W (Z56 N), Z57_W (Z57 N)]
def E_Y22_TG : Table := fun _ => cfgEnt [246]
def E_Y22_T (N : Nat) : Table := E_Y22_TG
def Z103_W (f : Z103_Ty) : Var := ⟨[.v (.ptr 0 0), .v (.int .i64)], G8, fun t u K => f t.2.1 u.2.1 u.2.2.1 u.2.2.2.1 (fun y0 y1 y2 y3 y4 y5 y6 y7 y8 y9 => K (.tup [(.agg [(.c (.int .i64 y0)), (.c (.int .i64 y1)), (.c (.int .u16 y2)), (.c (.int .i64 y3)), (.c (.int .i64 y4)), (.c (.int .i64 y5))]), (.v (.bool y6))]) (G13 y7 y8 y9))⟩
def Z103_F : Nat → Fam := fun _ => noFam
def E_Y22 (N : Nat) : Ent := .of [Z103_W (Z103 N)]
def E_Y21_TG (c0 : Z103_Ty) : Table := fun g => bif g.beq 103 then .of [Z103_W c0] else cfgEnt [246]
def E_Y21_T (N : Nat) : Table := E_Y21_TG (@Z103 N)
def Z102_W (f : Z102_Ty) : Var := ⟨[.v (.ptr 0 0), .v (.int .i64)], G8, fun t u K => f t.2.1 u.2.1 u.2.2.1 u.2.2.2.1 (fun y0 y1 y2 y3 y4 => K (.tup [(.v (.int .u16 y0)), (.v (.bool y1))]) (G13 y2 y3 y4))⟩
def Z102_F : Nat → Fam := fun _ => noFam
def E_Y21 (N : Nat) : Ent := .of [Z102_W (Z102 N)]
def E_Y24_TG (c0 : Z103_Ty) : Table := fun g => bif g.beq 103 then .of [Z103_W c0] else cfgEnt [246]
def E_Y24_T (N : Nat) : Table := E_Y24_TG (@Z103 N)
def Z105_W (f : Z105_Ty) : Var := ⟨[.v (.ptr 0 0), .v (.int .i64)], G8, fun t u K => f t.2.1 u.2.1 u.2.2.1 u.2.2.2.1 (fun y0 y1 y2 y3 => K (.sv (.v (.int .i64 y0))) (G13 y1 y2 y3))⟩
def Z105_F : Nat → Fam := fun _ => noFam
def E_Y24 (N : Nat) : Ent := .of [Z105_W (Z105 N)]
def E_Y5_TG (c0 : Z105_Ty) (c1 : Z102_Ty) : Table := fun g => bif g.beq 78 then .of [Z105_W c0] else bif g.beq 95 then .of [Z102_W c1] else cfgEnt [246]
def E_Y5_T (N : Nat) : Table := E_Y5_TG (@Z105 N) (@Z102 N)
def Z34_W (f : Z34_Ty) : Var := ⟨[.v (.ptr 0 0), .v .nils], G8, fun t u K => f u.2.1 u.2.2.1 u.2.2.2.1 (fun y0 y1 y2 y3 y4 => K (.tup [(.v (.str y0)), (.v (.bool y1))]) (G13 y2 y3 y4))⟩
def Z34_v0_0 (w : Z34_l0_Ty) : LVar := ⟨[.sv (.v (.ptr 0 0)), .sv (.v .nils), .sv (.v .str), .sv (.v (.int .i64))], G8, fun n t u K => w (fun y0 y1 y2 y3 => K (.exit 0) [.undef, .undef, (.sv (.v (.str y0)))] (G13 y1 y2 y3)) n t.2.2.1 t.2.2.2.1 u.2.1 u.2.2.1 u.2.2.2.1⟩
def Z34_F0 (w : Z34_l0_Ty) : Fam := ⟨⟨false, [0, 1, 6, 7], [4, 5, 6], ⟨[], [], []⟩, ⟨[], [], []⟩⟩, [Z34_v0_0 w]⟩
def Z34_F (w0 : Z34_l0_Ty) : Nat → Fam := fun i => bif i.beq 4 then Z34_F0 w0 else noFam
def Z33_W (f : Z33_Ty) : Var := ⟨[.v (.ptr 0 0), .v (.wl 4 1)], G38, fun t u K => f u.2.1 u.2.2.1 u.2.2.2.1 u.2.2.2.2.1 (fun y0 y1 y2 y3 y4 y5 => K (.tup [(.v (.str y0)), (.v (.bool y1))]) (G27 y2 y3 y4 y5))⟩
def Z33_v0_0 (w : Z33_l0_Ty) : LVar := ⟨[.sv (.v (.ptr 0 0)), .sv (.v (.wl 4 1)), .sv (.v .str), .sv (.v (.int .i64))], G38, fun n t u K => w (fun y0 y1 y2 y3 y4 y5 y6 => K .ret [(.sv (.v (.str y0))), (.sv (.v (.bool y1))), (.sv (.v (.str y2)))] (G27 y3 y4 y5 y6)) (fun y0 y1 y2 y3 y4 => K (.exit 0) [.undef, .undef, (.sv (.v (.str y0)))] (G27 y1 y2 y3 y4)) n t.2.2.1 t.2.2.2.1 u.2.1 u.2.2.1 u.2.2.2.1 u.2.2.2.2.1⟩
def Z33_F0 (w : Z33_l0_Ty) : Fam := ⟨⟨false, [0, 1, 6, 7], [4, 5, 6], ⟨[], [], []⟩, ⟨[], [], []⟩⟩, [Z33_v0_0 w]⟩
def Z33_F (w0 : Z33_l0_Ty) : Nat → Fam := fun i => bif i.beq 4 then Z33_F0 w0 else noFam
def E_Y5 (N : Nat) : Ent := .of [Z34_W (Z34 N), Z33_W (Z33 N)]
def E_Y3_TG (c0 : slices_Clone__term_T_term_T_Ty) : Table := fun g => bif g.beq 69 then .of [slices_Clone__term_T_term_T_W c0] else cfgEnt [246]
def E_Y3_T (N : Nat) : Table := E_Y3_TG @slices_Clone__term_T_term_T
def Z27_W (f : Z27_Ty) : Var := ⟨[.v (.ptr 0 0), .v (.isl (.int .i64)), .v (.int .i64)], G1, fun t u K => f t.2.1 t.2.2.1 u.1.2.2.2.1 u.1.2.2.2.2.1 u.2.1.2.1 u.2.2.1 u.2.2.2.1 u.2.2.2.2.1 (fun y0 y1 y2 y3 y4 y5 y6 => K (.sv (.v (.wl 5 1))) (G11 y0 y1 y2 y3 y4 y5 y6))⟩
def Z27_v0_0 (w : Z27_l0_Ty) : LVar := ⟨[.sv (.v (.ptr 0 0)), .sv (.v (.int .i64)), .sv (.v (.wl 5 1))], G31, fun n t u K => w (fun y0 y1 y2 y3 y4 y5 y6 => K (.exit 0) [(.sv (.v (.wl 5 1)))] (G11 y0 y1 y2 y3 y4 y5 y6)) n t.2.1 u.1.2.2.2.1 u.1.2.2.2.2.1 u.2.1.2.1 u.2.2.1 u.2.2.2.1 u.2.2.2.2.1 u.2.2.2.2.2.1⟩
def Z27_F0 (w : Z27_l0_Ty) : Fam := ⟨⟨false, [0, 2, 7], [7], ⟨[], [], []⟩, ⟨[], [], []⟩⟩, [Z27_v0_0 w]⟩
def Z27_F (w0 : Z27_l0_Ty) : Nat → Fam := fun i => bif i.beq 3 then Z27_F0 w0 else noFam
def E_Y3 (N : Nat) : Ent := .of [Z27_W (Z27 N)]
def E_Y0_TG (c0 : Z24_Ty) (c1 : Z23_Ty) (c2 : Z27_Ty) : Table := fun g => bif g.beq 68 then .of [Z24_W c0, Z23_W c1] else bif g.beq 70 then .of [Z27_W c2] else cfgEnt [246]
def E_Y0_T (N : Nat) : Table := E_Y0_TG (@Z24 N) (@Z23 N) (@Z27 N)
def Z21_W (f : Z21_Ty) : Var := ⟨[.v .nilp, .v (.int .u16), .v (.wl 0 1)], [.rows (.int .i64)], fun t u K => f t.2.1 u.1 (fun y0 y1 => K (.sv (.v (.int .u16 y0))) [(.cells [(row (.int .i64) y1)])])⟩
def Z21_F : Nat → Fam := fun _ => noFam
def Z22_W (f : Z22_Ty) : Var := ⟨[.v (.ptr 0 0), .v (.int .u16), .v (.wl 5 1)], G31, fun t u K => f t.2.1 u.1.2.2.2.1 u.1.2.2.2.2.1 u.2.1.2.1 u.2.2.1 u.2.2.2.1 u.2.2.2.2.1 u.2.2.2.2.2.1 (fun y0 y1 y2 y3 y4 y5 y6 y7 => K (.sv (.v (.int .u16 y0))) (G11 y1 y2 y3 y4 y5 y6 y7))⟩
def Z22_F : Nat → Fam := fun _ => noFam
def E_Y0 (N : Nat) : Ent := .of [Z21_W (Z21 N), Z22_W (Z22 N)]
def E_Z17_TG (c0 : Z24_Ty) (c1 : Z23_Ty) (c2 : Z27_Ty) : Table := fun g => bif g.beq 68 then .of [Z24_W c0, Z23_W c1] else bif g.beq 70 then .of [Z27_W c2] else cfgEnt [246]
def E_Z17_T (N : Nat) : Table := E_Z17_TG (@Z24 N) (@Z23 N) (@Z27 N)
def Z17_W (f : Z17_Ty) : Var := ⟨[.v .nilp, .v (.int .u16), .v (.int .u16)], [], fun t u K => f t.2.1 t.2.2.1 (fun y0 => K (.sv (.v (.int .u16 y0))) [])⟩
def Z17_F : Nat → Fam := fun _ => noFam
def Z18_W (f : Z18_Ty) : Var := ⟨[.v (.ptr 0 0), .v (.int .u16), .v (.int .u16)], G1, fun t u K => f t.2.1 t.2.2.1 u.1.2.2.2.1 u.1.2.2.2.2.1 u.2.1.2.1 u.2.2.1 u.2.2.2.1 u.2.2.2.2.1 (fun y0 y1 y2 y3 y4 y5 y6 => K (.sv (.v (.int .u16 y0))) (G2 y1 y2 y3 y4 y5 y6))⟩
def Z18_F : Nat → Fam := fun _ => noFam
def E_Z17 (N : Nat) : Ent := .of [Z17_W (Z17 N), Z18_W (Z18 N)]
def tree_Tree_many_fb98_W (f : tree_Tree_many_fb98_Ty) : Var := ⟨[.v (.ptr 0 0), .v .str], G21, fun t u K => f t.2.1 u.1.2.1 u.2.1 (fun y0 y1 y2 => K (.sv (.v (.int .i64 y0))) (G15 y1 y2))⟩
def E_tree_Tree_many : Ent := .of [tree_Tree_many_fb98_W @tree_Tree_many_fb98]
def E_Y27_TG (c0 : Z118_Ty) (c1 : tree_Tree_many_fb98_Ty) (c2 : Z117_Ty) : Table := fun g => bif g.beq 100 then .of [Z118_W c0] else bif g.beq 102 then .of [tree_Tree_many_fb98_W c1] else bif g.beq 98 then .of [Z117_W c2] else cfgEnt [246]
def E_Y27_T (N : Nat) : Table := E_Y27_TG (@Z118 N) @tree_Tree_many_fb98 (@Z117 N)
def Z111_W (f : Z111_Ty) : Var := ⟨[.v (.ptr 0 0), .v .str, .v .bool], G21, fun t u K => f t.2.1 t.2.2.1 u.1.2.1 u.2.1 (fun y0 y1 y2 => K (.sv (.v (.int .u16 y0))) (G15 y1 y2))⟩
def Z111_F : Nat → Fam := fun _ => noFam
def E_Y27 (N : Nat) : Ent := .of [Z111_W (Z111 N)]
def E_Y31_TG (c0 : Z116_Ty) (c1 : Z118_Ty) (c2 : Z117_Ty) : Table := fun g => bif g.beq 101 then .of [Z116_W c0] else bif g.beq 100 then .of [Z118_W c1] else bif g.beq 98 then .of [Z117_W c2] else cfgEnt [246]
def E_Y31_T (N : Nat) : Table := E_Y31_TG (@Z116 N) (@Z118 N) (@Z117 N)
def Z115_W (f : Z115_Ty) : Var := ⟨[.v (.ptr 0 0), .v .str, .v .str], G21, fun t u K => f t.2.1 t.2.2.1 u.1.2.1 u.2.1 (fun y0 y1 y2 y3 => K (.tup [(.v (.int .i64 y0)), (.v (.int .u16 y1))]) (G15 y2 y3))⟩
def Z115_F : Nat → Fam := fun _ => noFam
def E_Y31 (N : Nat) : Ent := .of [Z115_W (Z115 N)]
def E_Y30_TG (c0 : tree_Tree_many_fb98_Ty) (c1 : Z117_Ty) : Table := fun g => bif g.beq 102 then .of [tree_Tree_many_fb98_W c0] else bif g.beq 98 then .of [Z117_W c1] else cfgEnt [246]
def E_Y30_T (N : Nat) : Table := E_Y30_TG @tree_Tree_many_fb98 (@Z117 N)
def Z114_W (f : Z114_Ty) : Var := ⟨[.v (.ptr 0 0), .v .str], G21, fun t u K => f t.2.1 u.1.2.1 u.2.1 (fun y0 y1 y2 => K (.sv (.v (.int .u16 y0))) (G15 y1 y2))⟩
def Z114_F : Nat → Fam := fun _ => noFam
def E_Y30 (N : Nat) : Ent := .of [Z114_W (Z114 N)]
def E_Z7_TG (c0 : Z114_Ty) (c1 : Z113_Ty) (c2 : Z115_Ty) (c3 : Z111_Ty) : Table := fun g => bif g.beq 73 then .of [Z114_W c0] else bif g.beq 67 then .of [Z113_W c1] else bif g.beq 72 then .of [Z115_W c2] else bif g.beq 71 then .of [Z111_W c3] else cfgEnt [246]
def E_Z7_T (N : Nat) : Table := E_Z7_TG (@Z114 N) (@Z113 N) (@Z115 N) (@Z111 N)
def Z7_W (f : Z7_Ty) : Var := ⟨[.v .nilp, .v (.int .i64), .v .str, .v .str], [], fun t u K => f t.2.1 t.2.2.1 t.2.2.2.1 (fun y0 => K (.sv (.v (.int .u16 y0))) [])⟩
def Z7_F : Nat → Fam := fun _ => noFam
def Z8_W (f : Z8_Ty) : Var := ⟨[.v (.ptr 0 0), .v (.int .i64), .v .str, .v .str], G1, fun t u K => f t.2.1 t.2.2.1 t.2.2.2.1 u.1.2.2.2.1 u.1.2.2.2.2.1 u.2.1.2.1 u.2.2.1 u.2.2.2.1 u.2.2.2.2.1 (fun y0 y1 y2 y3 y4 y5 y6 => K (.sv (.v (.int .u16 y0))) (G2 y1 y2 y3 y4 y5 y6))⟩
def Z8_F : Nat → Fam := fun _ => noFam
def E_Z7 (N : Nat) : Ent := .of [Z7_W (Z7 N), Z8_W (Z8 N)]
def E_Y17_TG (c0 : Z87_Ty) : Table := fun g => bif g.beq 88 then .of [Z87_W c0] else cfgEnt [246]
def E_Y17_T (N : Nat) : Table := E_Y17_TG (@Z87 N)
def Z95_W (f : Z95_Ty) : Var := ⟨[.v (.ptr 0 0), .v .str], G22, fun t u K => f t.2.1 u.1.2.1 u.2.1 (fun y0 y1 y2 => K (.sv (.v (.int .i64 y0))) (G14 y1 y2))⟩
def Z95_v0_0 (w : Z95_l0_Ty) : LVar := ⟨[.sv (.v (.ptr 0 0)), .sv (.v .str), .sv (.v (.int .i64)), .sv (.v (.int .i64))], G22, fun n t u K => w (fun y0 y1 y2 => K (.exit 0) [(.sv (.v (.int .i64 y0)))] (G14 y1 y2)) n t.2.1 t.2.2.1 t.2.2.2.1 u.1.2.1 u.2.1⟩
def Z95_F0 (w : Z95_l0_Ty) : Fam := ⟨⟨false, [0, 1, 5, 6], [5], ⟨[], [], []⟩, ⟨[], [], []⟩⟩, [Z95_v0_0 w]⟩
def Z95_F (w0 : Z95_l0_Ty) : Nat → Fam := fun i => bif i.beq 4 then Z95_F0 w0 else noFam
def E_Y17 (N : Nat) : Ent := .of [Z95_W (Z95 N)]
def E_Y18_TG : Table := fun _ => cfgEnt [246]
def E_Y18_T (N : Nat) : Table := E_Y18_TG
def Z96_W (f : Z96_Ty) : Var := ⟨[.v (.ptr 0 0), .v (.int .i64)], G22, fun t u K => f t.2.1 u.1.2.1 u.2.1 (fun y0 y1 y2 => K (.tup []) (G39 y0 y1 y2))⟩
def Z96_F : Nat → Fam := fun _ => noFam
def E_Y18 (N : Nat) : Ent := .of [Z96_W (Z96 N)]
def E_Y10_TG (c0 : Z96_Ty) (c1 : Z94_Ty) (c2 : Z95_Ty) (c3 : Z89_Ty) : Table := fun g => bif g.beq 110 then .of [Z96_W c0] else bif g.beq 87 then .of [Z94_W c1] else bif g.beq 109 then .of [Z95_W c2] else bif g.beq 80 then .of [Z89_W c3] else cfgEnt [246]
def E_Y10_T (N : Nat) : Table := E_Y10_TG (@Z96 N) (@Z94 N) (@Z95 N) (@Z89 N)
def Z88_W (f : Z88_Ty) : Var := ⟨[.v (.ptr 0 0), .v .str, .v .bool], G22, fun t u K => f t.2.1 t.2.2.1 u.1.2.1 u.2.1 (fun y0 y1 y2 => K (.sv (.v (.int .u16 y0))) (G14 y1 y2)) (fun y0 y1 y2 y3 => K (.sv (.v (.int .u16 y0))) (G39 y1 y2 y3))⟩
def Z88_F : Nat → Fam := fun _ => noFam
def E_Y10 (N : Nat) : Ent := .of [Z88_W (Z88 N)]
def E_Y14_TG (c0 : Z96_Ty) (c1 : Z94_Ty) (c2 : Z93_Ty) (c3 : Z84_Ty) (c4 : Z89_Ty) : Table := fun g => bif g.beq 110 then .of [Z96_W c0] else bif g.beq 87 then .of [Z94_W c1] else bif g.beq 89 then .of [Z93_W c2] else bif g.beq 86 then .of [Z84_W c3] else bif g.beq 80 then .of [Z89_W c4] else cfgEnt [246]
def E_Y14_T (N : Nat) : Table := E_Y14_TG (@Z96 N) (@Z94 N) (@Z93 N) (@Z84 N) (@Z89 N)
def Z92_W (f : Z92_Ty) : Var := ⟨[.v (.ptr 0 0), .v .str, .v .str], G22, fun t u K => f t.2.1 t.2.2.1 u.1.2.1 u.2.1 (fun y0 y1 y2 y3 => K (.tup [(.v (.int .i64 y0)), (.v (.int .u16 y1))]) (G14 y2 y3)) (fun y0 y1 y2 y3 y4 => K (.tup [(.v (.int .i64 y0)), (.v (.int .u16 y1))]) (G39 y2 y3 y4))⟩
def Z92_F : Nat → Fam := fun _ => noFam
def E_Y14 (N : Nat) : Ent := .of [Z92_W (Z92 N)]
def E_Y13_TG (c0 : Z95_Ty) (c1 : Z89_Ty) : Table := fun g => bif g.beq 109 then .of [Z95_W c0] else bif g.beq 80 then .of [Z89_W c1] else cfgEnt [246]
def E_Y13_T (N : Nat) : Table := E_Y13_TG (@Z95 N) (@Z89 N)
def Z91_W (f : Z91_Ty) : Var := ⟨[.v (.ptr 0 0), .v .str], G22, fun t u K => f t.2.1 u.1.2.1 u.2.1 (fun y0 y1 y2 => K (.sv (.v (.int .u16 y0))) (G14 y1 y2))⟩
def Z91_F : Nat → Fam := fun _ => noFam
def E_Y13 (N : Nat) : Ent := .of [Z91_W (Z91 N)]
def E_Z52_TG (c0 : Z91_Ty) (c1 : Z90_Ty) (c2 : Z92_Ty) (c3 : Z88_Ty) : Table := fun g => bif g.beq 94 then .of [Z91_W c0] else bif g.beq 91 then .of [Z90_W c1] else bif g.beq 93 then .of [Z92_W c2] else bif g.beq 92 then .of [Z88_W c3] else cfgEnt [246]
def E_Z52_T (N : Nat) : Table := E_Z52_TG (@Z91 N) (@Z90 N) (@Z92 N) (@Z88 N)
def Z52_W (f : Z52_Ty) : Var := ⟨[.v .nilp, .v (.int .i64), .v .str, .v .str], [], fun t u K => f t.2.1 t.2.2.1 t.2.2.2.1 (fun y0 => K (.sv (.v (.int .u16 y0))) [])⟩
def Z52_F : Nat → Fam := fun _ => noFam
def Z54_W (f : Z54_Ty) : Var := ⟨[.v (.ptr 0 0), .v (.int .i64), .v .str, .v .str], G4, fun t u K => f t.2.1 t.2.2.1 t.2.2.2.1 u.1.2.2.2.1 u.2.1.2.1 u.2.2.1 u.2.2.2.1 u.2.2.2.2.1 (fun y0 y1 y2 y3 y4 y5 => K (.sv (.v (.int .u16 y0))) (G25 y1 y2 y3 y4 y5)) (fun y0 y1 y2 y3 y4 y5 y6 => K (.sv (.v (.int .u16 y0))) [(.cells [(.c (.ptr 1 0)), (.c (.wl 5 1)), (.c (.wl 4 1)), (.row (.int .i64) 4 y1)]), (.cells [(.c (.wl 6 3)), (.c (.int .i64 y2))]), (.cells [(row P1 y3)]), .dead, (.cells [(row (.ref false 246) y4)]), (.cells [(row (.isl (.int .u8)) y5)]), (.cells [(row P1 y6)])])⟩
def Z54_v0_0 (w : Z54_l0_Ty) : LVar := ⟨[.sv (.v (.ptr 0 0)), .sv (.v (.int .i64)), .sv (.v (.int .u16))], G35, fun n t u K => w (fun y0 y1 y2 y3 y4 y5 => K (.exit 1) [(.sv (.v (.int .u16 y0)))] (G25 y1 y2 y3 y4 y5)) n t.2.1 t.2.2.1 u.1.2.2.2.1 u.2.1.2.1 u.2.2.2.2.1 u.2.2.2.2.2.1 u.2.2.2.2.2.2.1⟩
def Z54_F0 (w : Z54_l0_Ty) : Fam := ⟨⟨false, [0, 11, 12], [12], ⟨[3], [], []⟩, ⟨[], [], []⟩⟩, [Z54_v0_0 w]⟩
def Z54_F (w0 : Z54_l0_Ty) : Nat → Fam := fun i => bif i.beq 11 then Z54_F0 w0 else noFam
def Z53_W (f : Z53_Ty) : Var := ⟨[.v (.ptr 0 0), .v (.int .i64), .v .str, .v .str], G6, fun t u K => f t.2.1 t.2.2.1 t.2.2.2.1 u.1.2.2.2.1 u.2.1.2.1 u.2.2.1 u.2.2.2.1 u.2.2.2.2.1 u.2.2.2.2.2.1 (fun y0 y1 y2 y3 y4 y5 y6 => K (.sv (.v (.int .u16 y0))) (G24 y1 y2 y3 y4 y5 y6)) (fun y0 y1 y2 y3 y4 y5 y6 y7 => K (.sv (.v (.int .u16 y0))) [(.cells [(.c (.ptr 1 0)), (.c (.wl 6 1)), (.c (.wl 4 1)), (.row (.int .i64) 4 y1)]), (.cells [(.c (.wl 7 3)), (.c (.int .i64 y2))]), (.cells [(row P1 y3)]), .dead, (.cells [(row (.ref false 246) y4)]), (.pool false 246 P2 y5), (.cells [(row (.isl (.int .u8)) y6)]), (.cells [(row P1 y7)])])⟩
def Z53_v0_0 (w : Z53_l0_Ty) : LVar := ⟨[.sv (.v (.ptr 0 0)), .sv (.v (.int .i64)), .sv (.v (.int .u16))], G33, fun n t u K => w (fun y0 y1 y2 y3 y4 y5 y6 => K (.exit 1) [(.sv (.v (.int .u16 y0)))] (G24 y1 y2 y3 y4 y5 y6)) n t.2.1 t.2.2.1 u.1.2.2.2.1 u.2.1.2.1 u.2.2.2.2.1 u.2.2.2.2.2.1 u.2.2.2.2.2.2.1 u.2.2.2.2.2.2.2.1⟩
def Z53_F0 (w : Z53_l0_Ty) : Fam := ⟨⟨false, [0, 11, 12], [12], ⟨[3], [], []⟩, ⟨[], [], []⟩⟩, [Z53_v0_0 w]⟩
def Z53_F (w0 : Z53_l0_Ty) : Nat → Fam := fun i => bif i.beq 11 then Z53_F0 w0 else noFam
def E_Z52 (N : Nat) : Ent := .of [Z52_W (Z52 N), Z54_W (Z54 N), Z53_W (Z53 N)]
def E_Y6_TG (c0 : Z46_Ty) (c1 : Z47_Ty) (c2 : Z48_Ty) (c3 : Z5_Ty) (c4 : Z6_Ty) (c5 : Z52_Ty) (c6 : Z54_Ty) (c7 : Z53_Ty) (c8 : Z7_Ty) (c9 : Z8_Ty) (c10 : Z70_Ty) (c11 : Z71_Ty) (c12 : Z72_Ty) (c13 : Z19_Ty) (c14 : Z20_Ty) (c15 : Z67_Ty) (c16 : Z68_Ty) (c17 : Z69_Ty) (c18 : Z17_Ty) (c19 : Z18_Ty) (c20 : Z64_Ty) (c21 : Z65_Ty) (c22 : Z66_Ty) (c23 : Z16_Ty) (c24 : Z15_Ty) (c25 : Z61_Ty) (c26 : Z62_Ty) (c27 : Z63_Ty) (c28 : Z13_Ty) (c29 : Z14_Ty) (c30 : Z73_Ty) (c31 : Z77_Ty) (c32 : Z76_Ty) (c33 : Z75_Ty) (c34 : Z78_Ty) (c35 : Z74_Ty) (c36 : Z21_Ty) (c37 : Z22_Ty) (c38 : Z43_Ty) (c39 : Z42_Ty) (c40 : Z34_Ty) (c41 : Z33_Ty) (c42 : Z58_Ty) (c43 : Z59_Ty) (c44 : Z60_Ty) (c45 : Z12_Ty) (c46 : Z11_Ty) (c47 : Z49_Ty) (c48 : Z50_Ty) (c49 : Z51_Ty) (c50 : Z3_Ty) (c51 : Z4_Ty) (c52 : Z55_Ty) (c53 : Z56_Ty) (c54 : Z57_Ty) (c55 : Z10_Ty) (c56 : Z9_Ty) : Table := fun g => bif g.beq 35 then .of [Z46_W c0, Z47_W c1, Z48_W c2] else bif g.beq 34 then .of [Z5_W c3, Z6_W c4] else bif g.beq 53 then .of [Z52_W c5, Z54_W c6, Z53_W c7] else bif g.beq 24 then .of [Z7_W c8, Z8_W c9] else bif g.beq 51 then .of [Z70_W c10, Z71_W c11, Z72_W c12] else bif g.beq 60 then .of [Z19_W c13, Z20_W c14] else bif g.beq 49 then .of [Z67_W c15, Z68_W c16, Z69_W c17] else bif g.beq 23 then .of [Z17_W c18, Z18_W c19] else bif g.beq 26 then .of [Z64_W c20, Z65_W c21, Z66_W c22] else bif g.beq 25 then .of [Z16_W c23, Z15_W c24] else bif g.beq 47 then .of [Z61_W c25, Z62_W c26, Z63_W c27] else bif g.beq 22 then .of [Z13_W c28, Z14_W c29] else bif g.beq 31 then .of [Z73_W c30, Z77_W c31, Z76_W c32, Z75_W c33, Z78_W c34, Z74_W c35] else bif g.beq 20 then .of [Z21_W c36, Z22_W c37] else bif g.beq 21 then .of [Z43_W c38, Z42_W c39] else bif g.beq 59 then .of [Z34_W c40, Z33_W c41] else bif g.beq 32 then .of [Z58_W c42, Z59_W c43, Z60_W c44] else bif g.beq 19 then .of [Z12_W c45, Z11_W c46] else bif g.beq 46 then .of [Z49_W c47, Z50_W c48, Z51_W c49] else bif g.beq 18 then .of [Z3_W c50, Z4_W c51] else bif g.beq 44 then .of [Z55_W c52, Z56_W c53, Z57_W c54] else bif g.beq 17 then .of [Z10_W c55, Z9_W c56] else cfgEnt [246]
def E_Y6_T (N : Nat) : Table := E_Y6_TG (@Z46 N) (@Z47 N) (@Z48 N) (@Z5 N) (@Z6 N) (@Z52 N) (@Z54 N) (@Z53 N) (@Z7 N) (@Z8 N) (@Z70 N) (@Z71 N) (@Z72 N) (@Z19 N) (@Z20 N) (@Z67 N) (@Z68 N) (@Z69 N) (@Z17 N) (@Z18 N) (@Z64 N) (@Z65 N) (@Z66 N) (@Z16 N) (@Z15 N) (@Z61 N) (@Z62 N) (@Z63 N) (@Z13 N) (@Z14 N) (@Z73 N) (@Z77 N) (@Z76 N) (@Z75 N) (@Z78 N) (@Z74 N) (@Z21 N) (@Z22 N) (@Z43 N) (@Z42 N) (@Z34 N) (@Z33 N) (@Z58 N) (@Z59 N) (@Z60 N) (@Z12 N) (@Z11 N) (@Z49 N) (@Z50 N) (@Z51 N) (@Z3 N) (@Z4 N) (@Z55 N) (@Z56 N) (@Z57 N) (@Z10 N) (@Z9 N)
def Z36_W (f : Z36_Ty) : Var := ⟨[.v (.ptr 0 0), .v .nilp, .v .nilp, .agg [.c (.int .i64), .c (.int .u16), .c (.int .u16), .c (.isl (.int .u8)), .c .str, .c .str]], G8, fun t u K => f t.2.2.2.1.1 t.2.2.2.1.2.1 t.2.2.2.1.2.2.1 t.2.2.2.1.2.2.2.1 t.2.2.2.1.2.2.2.2.1 t.2.2.2.1.2.2.2.2.2.1 u.2.1 u.2.2.1 u.2.2.2.1 (fun y0 y1 y2 y3 => K (.sv (.v (.bool y0))) (G9 y1 y2 y3))⟩
def Z36_F : Nat → Fam := fun _ => noFam
def Z38_W (f : Z38_Ty) : Var := ⟨[.v (.ptr 0 0), .v .nilp, .v .nilp, .agg [.c (.int .i64), .c (.int .u16), .c (.int .u16), .c .nils, .c .str, .c .str]], G8, fun t u K => f t.2.2.2.1.1 t.2.2.2.1.2.1 t.2.2.2.1.2.2.1 t.2.2.2.1.2.2.2.2.1 t.2.2.2.1.2.2.2.2.2.1 u.2.1 u.2.2.1 u.2.2.2.1 (fun y0 y1 y2 y3 => K (.sv (.v (.bool y0))) (G9 y1 y2 y3))⟩
def Z38_F : Nat → Fam := fun _ => noFam
def Z40_W (f : Z40_Ty) : Var := ⟨[.v (.ptr 0 0), .v (.ptr 4 0), .v (.ptr 9 0), .agg [.c (.int .i64), .c (.int .u16), .c (.int .u16), .c (.isl (.int .u8)), .c .str, .c .str]], G12, fun t u K => f t.2.2.2.1.1 t.2.2.2.1.2.1 t.2.2.2.1.2.2.1 t.2.2.2.1.2.2.2.1 t.2.2.2.1.2.2.2.2.1 t.2.2.2.1.2.2.2.2.2.1 u.2.1 u.2.2.1 u.2.2.2.1 u.2.2.2.2.1.2.2.2.1 u.2.2.2.2.1.2.2.2.2.1 u.2.2.2.2.2.1.2.1 u.2.2.2.2.2.2.1 u.2.2.2.2.2.2.2.1 u.2.2.2.2.2.2.2.2.1 u.2.2.2.2.2.2.2.2.2.1.2.2.2.1 u.2.2.2.2.2.2.2.2.2.2.1.2.1 u.2.2.2.2.2.2.2.2.2.2.2.1 u.2.2.2.2.2.2.2.2.2.2.2.2.1 u.2.2.2.2.2.2.2.2.2.2.2.2.2.1 (fun y0 y1 y2 y3 y4 y5 y6 y7 y8 y9 y10 y11 y12 y13 y14 => K (.sv (.v (.bool y0))) (G20 y1 y2 y3 y4 y5 y6 y7 y8 y9 y10 y11 y12 y13 y14)) (fun y0 y1 y2 y3 y4 y5 y6 y7 y8 y9 y10 y11 y12 y13 y14 y15 => K (.sv (.v (.bool y0))) (G17 y1 y2 y3 y4 y5 y6 y7 y8 y9 y10 y11 y12 y13 y14 y15)) (fun y0 y1 y2 y3 y4 y5 y6 y7 y8 y9 y10 y11 y12 y13 y14 y15 => K (.sv (.v (.bool y0))) (G19 y1 y2 y3 y4 y5 y6 y7 y8 y9 y10 y11 y12 y13 y14 y15))⟩
def Z40_F : Nat → Fam := fun _ => noFam
def Z37_W (f : Z37_Ty) : Var := ⟨[.v (.ptr 0 0), .v (.ptr 4 0), .v (.ptr 9 0), .agg [.c (.int .i64), .c (.int .u16), .c (.int .u16), .c .nils, .c .str, .c .str]], G12, fun t u K => f t.2.2.2.1.1 t.2.2.2.1.2.1 t.2.2.2.1.2.2.1 t.2.2.2.1.2.2.2.2.1 t.2.2.2.1.2.2.2.2.2.1 u.2.1 u.2.2.1 u.2.2.2.1 u.2.2.2.2.1.2.2.2.1 u.2.2.2.2.1.2.2.2.2.1 u.2.2.2.2.2.1.2.1 u.2.2.2.2.2.2.1 u.2.2.2.2.2.2.2.1 u.2.2.2.2.2.2.2.2.1 u.2.2.2.2.2.2.2.2.2.1.2.2.2.1 u.2.2.2.2.2.2.2.2.2.2.1.2.1 u.2.2.2.2.2.2.2.2.2.2.2.1 u.2.2.2.2.2.2.2.2.2.2.2.2.1 u.2.2.2.2.2.2.2.2.2.2.2.2.2.1 (fun y0 y1 y2 y3 y4 y5 y6 y7 y8 y9 y10 y11 y12 y13 y14 => K (.sv (.v (.bool y0))) (G20 y1 y2 y3 y4 y5 y6 y7 y8 y9 y10 y11 y12 y13 y14)) (fun y0 y1 y2 y3 y4 y5 y6 y7 y8 y9 y10 y11 y12 y13 y14 y15 => K (.sv (.v (.bool y0))) (G17 y1 y2 y3 y4 y5 y6 y7 y8 y9 y10 y11 y12 y13 y14 y15)) (fun y0 y1 y2 y3 y4 y5 y6 y7 y8 y9 y10 y11 y12 y13 y14 y15 => K (.sv (.v (.bool y0))) (G19 y1 y2 y3 y4 y5 y6 y7 y8 y9 y10 y11 y12 y13 y14 y15))⟩
def Z37_F : Nat → Fam := fun _ => noFam
def Z35_W (f : Z35_Ty) : Var := ⟨[.v (.ptr 0 0), .v (.ptr 4 0), .v (.ptr 9 0), .agg [.c (.int .i64), .c (.int .u16), .c (.int .u16), .c .nils, .c .str, .c .str]], G10, fun t u K => f t.2.2.2.1.1 t.2.2.2.1.2.1 t.2.2.2.1.2.2.1 t.2.2.2.1.2.2.2.2.1 t.2.2.2.1.2.2.2.2.2.1 u.2.1 u.2.2.1 u.2.2.2.1 u.2.2.2.2.1.2.2.2.1 u.2.2.2.2.1.2.2.2.2.1 u.2.2.2.2.2.1.2.1 u.2.2.2.2.2.2.1 u.2.2.2.2.2.2.2.1 u.2.2.2.2.2.2.2.2.1 u.2.2.2.2.2.2.2.2.2.1.2.2.2.1 u.2.2.2.2.2.2.2.2.2.2.1.2.1 u.2.2.2.2.2.2.2.2.2.2.2.1 u.2.2.2.2.2.2.2.2.2.2.2.2.1 u.2.2.2.2.2.2.2.2.2.2.2.2.2.1 u.2.2.2.2.2.2.2.2.2.2.2.2.2.2.1 (fun y0 y1 y2 y3 y4 y5 y6 y7 y8 y9 y10 y11 y12 y13 y14 y15 => K (.sv (.v (.bool y0))) (G18 y1 y2 y3 y4 y5 y6 y7 y8 y9 y10 y11 y12 y13 y14 y15)) (fun y0 y1 y2 y3 y4 y5 y6 y7 y8 y9 y10 y11 y12 y13 y14 y15 y16 => K (.sv (.v (.bool y0))) (G16 y1 y2 y3 y4 y5 y6 y7 y8 y9 y10 y11 y12 y13 y14 y15 y16))⟩
def Z35_F : Nat → Fam := fun _ => noFam
def Z39_W (f : Z39_Ty) : Var := ⟨[.v (.ptr 0 0), .v (.ptr 4 0), .v (.ptr 9 0), .agg [.c (.int .i64), .c (.int .u16), .c (.int .u16), .c (.isl (.int .u8)), .c .str, .c .str]], G10, fun t u K => f t.2.2.2.1.1 t.2.2.2.1.2.1 t.2.2.2.1.2.2.1 t.2.2.2.1.2.2.2.1 t.2.2.2.1.2.2.2.2.1 t.2.2.2.1.2.2.2.2.2.1 u.2.1 u.2.2.1 u.2.2.2.1 u.2.2.2.2.1.2.2.2.1 u.2.2.2.2.1.2.2.2.2.1 u.2.2.2.2.2.1.2.1 u.2.2.2.2.2.2.1 u.2.2.2.2.2.2.2.1 u.2.2.2.2.2.2.2.2.1 u.2.2.2.2.2.2.2.2.2.1.2.2.2.1 u.2.2.2.2.2.2.2.2.2.2.1.2.1 u.2.2.2.2.2.2.2.2.2.2.2.1 u.2.2.2.2.2.2.2.2.2.2.2.2.1 u.2.2.2.2.2.2.2.2.2.2.2.2.2.1 u.2.2.2.2.2.2.2.2.2.2.2.2.2.2.1 (fun y0 y1 y2 y3 y4 y5 y6 y7 y8 y9 y10 y11 y12 y13 y14 y15 => K (.sv (.v (.bool y0))) (G18 y1 y2 y3 y4 y5 y6 y7 y8 y9 y10 y11 y12 y13 y14 y15)) (fun y0 y1 y2 y3 y4 y5 y6 y7 y8 y9 y10 y11 y12 y13 y14 y15 y16 => K (.sv (.v (.bool y0))) (G16 y1 y2 y3 y4 y5 y6 y7 y8 y9 y10 y11 y12 y13 y14 y15 y16))⟩
def Z39_F : Nat → Fam := fun _ => noFam
def E_Y6 (N : Nat) : Ent := .of [Z36_W (Z36 N), Z38_W (Z38 N), Z40_W (Z40 N), Z37_W (Z37 N), Z35_W (Z35 N), Z39_W (Z39 N)]
def E_Z31_TG (c0 : Z36_Ty) (c1 : Z38_Ty) (c2 : Z40_Ty) (c3 : Z37_Ty) (c4 : Z35_Ty) (c5 : Z39_Ty) (c6 : Z41_Ty) (c7 : Z107_Ty) (c8 : Z30_Ty) (c9 : Z32_Ty) : Table := fun g => bif g.beq 15 then .of [Z36_W c0, Z38_W c1, Z40_W c2, Z37_W c3, Z35_W c4, Z39_W c5] else bif g.beq 14 then .of [Z41_W c6] else bif g.beq 13 then .of [Z107_W c7] else bif g.beq 8 then .of [Z30_W c8] else bif g.beq 12 then .of [Z32_W c9] else cfgEnt [246]
def E_Z31_T (N : Nat) : Table := E_Z31_TG (@Z36 N) (@Z38 N) (@Z40 N) (@Z37 N) (@Z35 N) (@Z39 N) (@Z41 N) (@Z107 N) (@Z30 N) (@Z32 N)
def Z31_W (f : Z31_Ty) : Var := ⟨[.v (.isl P1), .v (.isl (.isl (.int .u8))), .v (.isl P5)], [], fun t u K => f t.1 t.2.1 t.2.2.1 (fun y0 => K (.sv (.v (.bool y0))) [])⟩
def Z31_v0_0 (w : Z31_l0_Ty) : LVar := ⟨[.sv (.v (.isl P5)), .sv (.v (.ptr 0 0)), .sv (.v .nilp), .sv (.v .nilp), .sv (.v (.int .i64)), .sv (.v (.int .i64))], G8, fun n t u K => w (fun y0 => K .ret [(.sv (.v (.bool y0)))] []) (K (.exit 0) [.undef] []) n (.v0 t.1 t.2.2.2.2.1 t.2.2.2.2.2.1 u.2.1 u.2.2.1 u.2.2.2.1)⟩
def Z31_v0_1 (w : Z31_l0_Ty) : LVar := ⟨[.sv (.v (.isl P5)), .sv (.v (.ptr 0 0)), .sv (.v (.ptr 4 0)), .sv (.v (.ptr 9 0)), .sv (.v (.int .i64)), .sv (.v (.int .i64))], G12, fun n t u K => w (fun y0 => K .ret [(.sv (.v (.bool y0)))] []) (K (.exit 0) [.undef] []) n (.v1 t.1 t.2.2.2.2.1 t.2.2.2.2.2.1 u.2.1 u.2.2.1 u.2.2.2.1 u.2.2.2.2.1.2.2.2.1 u.2.2.2.2.1.2.2.2.2.1 u.2.2.2.2.2.1.2.1 u.2.2.2.2.2.2.1 u.2.2.2.2.2.2.2.1 u.2.2.2.2.2.2.2.2.1 u.2.2.2.2.2.2.2.2.2.1.2.2.2.1 u.2.2.2.2.2.2.2.2.2.2.1.2.1 u.2.2.2.2.2.2.2.2.2.2.2.1 u.2.2.2.2.2.2.2.2.2.2.2.2.1 u.2.2.2.2.2.2.2.2.2.2.2.2.2.1)⟩
def Z31_v0_2 (w : Z31_l0_Ty) : LVar := ⟨[.sv (.v (.isl P5)), .sv (.v (.ptr 0 0)), .sv (.v (.ptr 4 0)), .sv (.v (.ptr 9 0)), .sv (.v (.int .i64)), .sv (.v (.int .i64))], G10, fun n t u K => w (fun y0 => K .ret [(.sv (.v (.bool y0)))] []) (K (.exit 0) [.undef] []) n (.v2 t.1 t.2.2.2.2.1 t.2.2.2.2.2.1 u.2.1 u.2.2.1 u.2.2.2.1 u.2.2.2.2.1.2.2.2.1 u.2.2.2.2.1.2.2.2.2.1 u.2.2.2.2.2.1.2.1 u.2.2.2.2.2.2.1 u.2.2.2.2.2.2.2.1 u.2.2.2.2.2.2.2.2.1 u.2.2.2.2.2.2.2.2.2.1.2.2.2.1 u.2.2.2.2.2.2.2.2.2.2.1.2.1 u.2.2.2.2.2.2.2.2.2.2.2.1 u.2.2.2.2.2.2.2.2.2.2.2.2.1 u.2.2.2.2.2.2.2.2.2.2.2.2.2.1 u.2.2.2.2.2.2.2.2.2.2.2.2.2.2.1)⟩
def Z31_F0 (w : Z31_l0_Ty) : Fam := ⟨⟨false, [2, 7, 8, 9, 10, 12], [6], ⟨[], [], []⟩, ⟨[], [], []⟩⟩, [Z31_v0_0 w, Z31_v0_1 w, Z31_v0_2 w]⟩
def Z31_F (w0 : Z31_l0_Ty) : Nat → Fam := fun i => bif i.beq 17 then Z31_F0 w0 else noFam
def E_Z31 (N : Nat) : Ent := .of [Z31_W (Z31 N)]
end
end Go.Proofs.Ytdopealphpmaeaa
