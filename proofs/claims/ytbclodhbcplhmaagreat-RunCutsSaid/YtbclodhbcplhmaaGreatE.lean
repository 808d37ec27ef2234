/-
  Their entries (printed by a program of this work).
-/
import Derived.Test.YtbclodhbcplhmaaGreatProg
import Derived.Test.YtbclodhbcplhmaaGreatD
set_option linter.unusedVariables false
set_option maxRecDepth 100000
namespace Go.Proofs.YtbclodhbcplhmaaGreat
open Go.Gx
noncomputable section
abbrev P0 : Sh := .pair (.int .i64) (.int .i64)
abbrev P1 : Sh := .pair (.int .i64) .bool
abbrev P2 : Sh := .pair .bool (.int .u16)
abbrev P3 : Sh := .pair .str .str
abbrev P4 : Sh := .pair .str (.pair .bool (.int .i64))
abbrev G0 : List Gx.PObj := [.cells [.c (.isl P0), .c (.isl .str), .c (.int .i64), .c (.wl 1 1), .row (.int .u16) 8, .row (.int .u8) 32, .c (.ptr 2 0), .c (.ptr 7 0), .c (.isl (.isl (.int .u8))), .c (.wl 9 2), .c (.int .i64), .c (.int .u16), .c (.int .i64)], .rows (.int .u16), .cells [.c (.ptr 3 0), .c (.map 5), .c (.wl 6 2), .row (.int .i64) 4], .cells [.c (.map 4), .c (.int .i64)], .map P3 P1 true true, .map (.int .i64) (.isl (.int .u8)) false false, .rows P0, .cells [.c (.wl 8 1), .c (.int .i64)], .rows .bool, .rows P2]
abbrev G1 : List Gx.PObj := [.cells [.c (.wl 1 2), .c (.wl 2 1), .c (.int .i64), .c (.wl 3 1), .row (.int .u16) 8, .row (.int .u8) 32, .c (.ptr 4 0), .c (.ptr 9 0), .c (.wl 11 1), .c (.wl 12 2), .c (.int .i64), .c (.int .u16), .c (.int .i64)], .rows P0, .rows .str, .rows (.int .u16), .cells [.c (.ptr 5 0), .c (.map 7), .c (.wl 8 2), .row (.int .i64) 4], .cells [.c (.map 6), .c (.int .i64)], .map P3 P1 true true, .map (.int .i64) (.isl (.int .u8)) false false, .rows P0, .cells [.c (.wl 10 1), .c (.int .i64)], .rows .bool, .rows (.isl (.int .u8)), .rows P2]
def G2 := fun a0 a1 a2 a3 a4 => ([(.cells [(.c (.ptr 1 0)), (.c (.map 3)), (.c (.wl 4 2)), (.row (.int .i64) 4 a0)]), (.cells [(.c (.map 2)), (.c (.int .i64 a1))]), (.map P3 P1 true true a2), (.map (.int .i64) (.isl (.int .u8)) false false a3), (.cells [(row P0 a4)])] : List Gx.Obj)
abbrev G3 : List Gx.PObj := [.cells [.c (.ptr 1 0), .c (.map 3), .c (.wl 4 2), .row (.int .i64) 4], .cells [.c (.map 2), .c (.int .i64)], .map P3 P1 true true, .map (.int .i64) (.isl (.int .u8)) false false, .rows P0]
def G4 := fun a0 a1 a2 a3 a4 a5 a6 a7 a8 a9 a10 a11 a12 a13 a14 a15 a16 a17 => ([(.cells [(.c (.wl 1 2)), (.c (.wl 2 1)), (.c (.int .i64 a0)), (.c (.wl 13 1)), (.row (.int .u16) 8 a1), (.row (.int .u8) 32 a2), (.c (.ptr 4 0)), (.c (.ptr 9 0)), (.c (.wl 11 1)), (.c (.wl 14 2)), (.c (.int .i64 a3)), (.c (.int .u16 a4)), (.c (.int .i64 a5))]), (.cells [(row P0 a6)]), (.cells [(row .str a7)]), .dead, (.cells [(.c (.ptr 5 0)), (.c (.map 7)), (.c (.wl 8 2)), (.row (.int .i64) 4 a8)]), (.cells [(.c (.map 6)), (.c (.int .i64 a9))]), (.map P3 P1 true true a10), (.map (.int .i64) (.isl (.int .u8)) false false a11), (.cells [(row P0 a12)]), (.cells [(.c (.wl 10 1)), (.c (.int .i64 a13))]), (.cells [(row .bool a14)]), (.cells [(row (.isl (.int .u8)) a15)]), .dead, (.cells [(row (.int .u16) a16)]), (.cells [(row P2 a17)])] : List Gx.Obj)
def G5 := fun a0 a1 a2 a3 a4 a5 a6 a7 a8 a9 a10 a11 a12 a13 a14 a15 a16 a17 => ([(.cells [(.c (.wl 1 2)), (.c (.wl 2 1)), (.c (.int .i64 a0)), (.c (.wl 13 1)), (.row (.int .u16) 8 a1), (.row (.int .u8) 32 a2), (.c (.ptr 4 0)), (.c (.ptr 9 0)), (.c (.wl 11 1)), (.c (.wl 12 2)), (.c (.int .i64 a3)), (.c (.int .u16 a4)), (.c (.int .i64 a5))]), (.cells [(row P0 a6)]), (.cells [(row .str a7)]), .dead, (.cells [(.c (.ptr 5 0)), (.c (.map 7)), (.c (.wl 8 2)), (.row (.int .i64) 4 a8)]), (.cells [(.c (.map 6)), (.c (.int .i64 a9))]), (.map P3 P1 true true a10), (.map (.int .i64) (.isl (.int .u8)) false false a11), (.cells [(row P0 a12)]), (.cells [(.c (.wl 10 1)), (.c (.int .i64 a13))]), (.cells [(row .bool a14)]), (.cells [(row (.isl (.int .u8)) a15)]), (.cells [(row P2 a16)]), (.cells [(row (.int .u16) a17)])] : List Gx.Obj)
def G6 := fun a0 a1 a2 a3 a4 a5 a6 a7 a8 a9 a10 a11 a12 a13 a14 a15 a16 a17 => ([(.cells [(.c (.isl P0 a0)), (.c (.isl .str a1)), (.c (.int .i64 a2)), (.c (.wl 10 1)), (.row (.int .u16) 8 a3), (.row (.int .u8) 32 a4), (.c (.ptr 2 0)), (.c (.ptr 7 0)), (.c (.isl (.isl (.int .u8)) a5)), (.c (.wl 11 2)), (.c (.int .i64 a6)), (.c (.int .u16 a7)), (.c (.int .i64 a8))]), .dead, (.cells [(.c (.ptr 3 0)), (.c (.map 5)), (.c (.wl 6 2)), (.row (.int .i64) 4 a9)]), (.cells [(.c (.map 4)), (.c (.int .i64 a10))]), (.map P3 P1 true true a11), (.map (.int .i64) (.isl (.int .u8)) false false a12), (.cells [(row P0 a13)]), (.cells [(.c (.wl 8 1)), (.c (.int .i64 a14))]), (.cells [(row .bool a15)]), .dead, (.cells [(row (.int .u16) a16)]), (.cells [(row P2 a17)])] : List Gx.Obj)
def G7 := fun a0 a1 a2 a3 a4 a5 a6 a7 a8 a9 a10 a11 a12 a13 a14 a15 a16 a17 => ([(.cells [(.c (.isl P0 a0)), (.c (.isl .str a1)), (.c (.int .i64 a2)), (.c (.wl 10 1)), (.row (.int .u16) 8 a3), (.row (.int .u8) 32 a4), (.c (.ptr 2 0)), (.c (.ptr 7 0)), (.c (.isl (.isl (.int .u8)) a5)), (.c (.wl 9 2)), (.c (.int .i64 a6)), (.c (.int .u16 a7)), (.c (.int .i64 a8))]), .dead, (.cells [(.c (.ptr 3 0)), (.c (.map 5)), (.c (.wl 6 2)), (.row (.int .i64) 4 a9)]), (.cells [(.c (.map 4)), (.c (.int .i64 a10))]), (.map P3 P1 true true a11), (.map (.int .i64) (.isl (.int .u8)) false false a12), (.cells [(row P0 a13)]), (.cells [(.c (.wl 8 1)), (.c (.int .i64 a14))]), (.cells [(row .bool a15)]), (.cells [(row P2 a16)]), (.cells [(row (.int .u16) a17)])] : List Gx.Obj)
def G8 := fun a0 a1 a2 a3 a4 a5 a6 a7 a8 a9 a10 a11 a12 a13 a14 a15 a16 a17 => ([(.cells [(.c (.isl P0 a0)), (.c (.isl .str a1)), (.c (.int .i64 a2)), (.c (.wl 1 1)), (.row (.int .u16) 8 a3), (.row (.int .u8) 32 a4), (.c (.ptr 2 0)), (.c (.ptr 7 0)), (.c (.isl (.isl (.int .u8)) a5)), (.c (.wl 9 2)), (.c (.int .i64 a6)), (.c (.int .u16 a7)), (.c (.int .i64 a8))]), (.cells [(row (.int .u16) a9)]), (.cells [(.c (.ptr 3 0)), (.c (.map 5)), (.c (.wl 6 2)), (.row (.int .i64) 4 a10)]), (.cells [(.c (.map 4)), (.c (.int .i64 a11))]), (.map P3 P1 true true a12), (.map (.int .i64) (.isl (.int .u8)) false false a13), (.cells [(row P0 a14)]), (.cells [(.c (.wl 8 1)), (.c (.int .i64 a15))]), (.cells [(row .bool a16)]), (.cells [(row P2 a17)])] : List Gx.Obj)
def G9 := fun a0 a1 a2 a3 a4 a5 a6 a7 a8 a9 a10 a11 a12 a13 a14 a15 a16 a17 a18 a19 => ([(.cells [(row P0 a0)]), (.cells [(row .str a1)]), (.cells [(row (.isl (.int .u8)) a2)]), (.cells [(row (.isl (.int .u8)) a3)]), (.cells [(row .bool a4)]), (.cells [(.c (.wl 0 2)), (.c (.wl 1 1)), (.c (.int .i64 a5)), (.c (.wl 6 1)), (.row (.int .u16) 8 a6), (.row (.int .u8) 32 a7), (.c (.ptr 7 0)), (.c (.ptr 12 0)), (.c (.wl 3 1)), (.c (.wl 14 2)), (.c (.int .i64 a8)), (.c (.int .u16 a9)), (.c (.int .i64 a10))]), (.cells [(row (.int .u16) a11)]), (.cells [(.c (.ptr 8 0)), (.c (.map 10)), (.c (.wl 11 2)), (.row (.int .i64) 4 a12)]), (.cells [(.c (.map 9)), (.c (.int .i64 a13))]), (.map P3 P1 true true a14), (.map (.int .i64) (.isl (.int .u8)) false false a15), (.cells [(row P0 a16)]), (.cells [(.c (.wl 13 1)), (.c (.int .i64 a17))]), (.cells [(row .bool a18)]), (.cells [(row P2 a19)])] : List Gx.Obj)
def G10 := fun a0 a1 => ([(.cells [(.c (.map 1)), (.c (.int .i64 a0))]), (.map P3 P1 true true a1)] : List Gx.Obj)
def G11 := fun a0 a1 a2 a3 a4 => ([(.cells [(row P0 a0)]), (.cells [(row .str a1)]), (.cells [(row (.isl (.int .u8)) a2)]), (.cells [(row (.isl (.int .u8)) a3)]), (.cells [(row .bool a4)])] : List Gx.Obj)
def G12 := fun a0 a1 a2 a3 a4 a5 a6 a7 a8 a9 a10 a11 a12 a13 a14 a15 a16 a17 => ([(.cells [(.c (.wl 1 2)), (.c (.wl 2 1)), (.c (.int .i64 a0)), (.c (.wl 13 1)), (.row (.int .u16) 8 a1), (.row (.int .u8) 32 a2), (.c (.ptr 4 0)), (.c (.ptr 9 0)), (.c (.wl 11 1)), (.c (.wl 14 2)), (.c (.int .i64 a3)), (.c (.int .u16 a4)), (.c (.int .i64 a5))]), (.cells [(row P0 a6)]), (.cells [(row .str a7)]), .dead, (.cells [(.c (.ptr 5 0)), (.c (.map 7)), (.c (.wl 15 2)), (.row (.int .i64) 4 a8)]), (.cells [(.c (.map 6)), (.c (.int .i64 a9))]), (.map P3 P1 true true a10), (.map (.int .i64) (.isl (.int .u8)) false false a11), .dead, (.cells [(.c (.wl 10 1)), (.c (.int .i64 a12))]), (.cells [(row .bool a13)]), (.cells [(row (.isl (.int .u8)) a14)]), .dead, (.cells [(row (.int .u16) a15)]), (.cells [(row P2 a16)]), (.cells [(row P0 a17)])] : List Gx.Obj)
abbrev G13 : List Gx.PObj := [.cells [.c (.map 1), .c (.int .i64)], .map P3 P1 true true]
def G14 := fun a0 a1 a2 a3 a4 a5 a6 a7 a8 a9 a10 a11 a12 a13 a14 a15 a16 a17 => ([(.cells [(.c (.wl 1 2)), (.c (.wl 2 1)), (.c (.int .i64 a0)), (.c (.wl 3 1)), (.row (.int .u16) 8 a1), (.row (.int .u8) 32 a2), (.c (.ptr 4 0)), (.c (.ptr 9 0)), (.c (.wl 11 1)), (.c (.wl 12 2)), (.c (.int .i64 a3)), (.c (.int .u16 a4)), (.c (.int .i64 a5))]), (.cells [(row P0 a6)]), (.cells [(row .str a7)]), (.cells [(row (.int .u16) a8)]), (.cells [(.c (.ptr 5 0)), (.c (.map 7)), (.c (.wl 8 2)), (.row (.int .i64) 4 a9)]), (.cells [(.c (.map 6)), (.c (.int .i64 a10))]), (.map P3 P1 true true a11), (.map (.int .i64) (.isl (.int .u8)) false false a12), (.cells [(row P0 a13)]), (.cells [(.c (.wl 10 1)), (.c (.int .i64 a14))]), (.cells [(row .bool a15)]), (.cells [(row (.isl (.int .u8)) a16)]), (.cells [(row P2 a17)])] : List Gx.Obj)
abbrev G15 : List Gx.PObj := [.cells [.c (.wl 1 2), .c (.wl 2 1), .c (.int .i64), .c (.sl 3 0 1 false true), .row (.int .u16) 8, .row (.int .u8) 32, .c (.ptr 4 0), .c (.ptr 9 0), .c (.wl 11 1), .c (.wl 12 2), .c (.int .i64), .c (.int .u16), .c (.int .i64)], .rows P0, .rows .str, .cells [.rowN (.int .u16)], .cells [.c (.ptr 5 0), .c (.map 7), .c (.wl 8 2), .row (.int .i64) 4], .cells [.c (.map 6), .c (.int .i64)], .map P3 P1 true true, .map (.int .i64) (.isl (.int .u8)) false false, .rows P0, .cells [.c (.wl 10 1), .c (.int .i64)], .rows .bool, .rows (.isl (.int .u8)), .rows P2]
abbrev G16 : List Gx.PObj := [.cells [.c (.isl P0), .c (.isl .str), .c (.int .i64), .c (.sl 1 0 1 false true), .row (.int .u16) 8, .row (.int .u8) 32, .c (.ptr 2 0), .c (.ptr 7 0), .c (.isl (.isl (.int .u8))), .c (.wl 9 2), .c (.int .i64), .c (.int .u16), .c (.int .i64)], .cells [.rowN (.int .u16)], .cells [.c (.ptr 3 0), .c (.map 5), .c (.wl 6 2), .row (.int .i64) 4], .cells [.c (.map 4), .c (.int .i64)], .map P3 P1 true true, .map (.int .i64) (.isl (.int .u8)) false false, .rows P0, .cells [.c (.wl 8 1), .c (.int .i64)], .rows .bool, .rows P2]
def G17 := fun a0 a1 a2 a3 a4 a5 a6 a7 a8 a9 a10 a11 a12 a13 a14 a15 a16 a17 => ([(.cells [(.c (.isl P0 a0)), (.c (.isl .str a1)), (.c (.int .i64 a2)), (.c (.wl 10 1)), (.row (.int .u16) 8 a3), (.row (.int .u8) 32 a4), (.c (.ptr 2 0)), (.c (.ptr 7 0)), (.c (.isl (.isl (.int .u8)) a5)), (.c (.wl 11 2)), (.c (.int .i64 a6)), (.c (.int .u16 a7)), (.c (.int .i64 a8))]), .dead, (.cells [(.c (.ptr 3 0)), (.c (.map 5)), (.c (.wl 12 2)), (.row (.int .i64) 4 a9)]), (.cells [(.c (.map 4)), (.c (.int .i64 a10))]), (.map P3 P1 true true a11), (.map (.int .i64) (.isl (.int .u8)) false false a12), .dead, (.cells [(.c (.wl 8 1)), (.c (.int .i64 a13))]), (.cells [(row .bool a14)]), .dead, (.cells [(row (.int .u16) a15)]), (.cells [(row P2 a16)]), (.cells [(row P0 a17)])] : List Gx.Obj)
def G18 := fun a0 a1 => ([(.cells [(row P0 a0)]), (.cells [(row .str a1)]), (.cells [(.c (.wl 0 2)), (.c (.wl 1 1))])] : List Gx.Obj)
def G19 := fun a0 a1 a2 a3 a4 a5 => ([(.cells [(row (.isl (.int .u8)) a0)]), (.cells [(.c (.ptr 2 0)), (.c (.map 4)), (.c (.wl 5 2)), (.row (.int .i64) 4 a1)]), (.cells [(.c (.map 3)), (.c (.int .i64 a2))]), (.map P3 P1 true true a3), (.map (.int .i64) (.isl (.int .u8)) false false a4), (.cells [(row P0 a5)])] : List Gx.Obj)
def G20 := fun a0 a1 a2 => ([(.cells [(row P0 a0)]), (.cells [(row .str a1)]), (.cells [(.row .bool 1632 a2)])] : List Gx.Obj)
abbrev G21 : List Gx.PObj := [.rows P0, .rows .str, .cells [.c (.wl 0 2), .c (.wl 1 1)], .cells [.row .bool 1632]]
abbrev G22 : List Gx.PObj := [.rows P0, .rows .str, .rows (.isl (.int .u8)), .rows (.isl (.int .u8)), .rows .bool]
def G23 := fun a0 a1 => ([(.cells [(.c (.isl P0 a0)), (.c (.isl .str a1))])] : List Gx.Obj)
def G24 := fun a0 a1 a2 a3 a4 a5 => ([(.cells [(.c (.wl 1 2)), (.c (.int .i64 a0)), (.c (.int .u16 a1))]), (.cells [(row P2 a2)]), (.cells [(.c (.wl 3 2)), (.c (.int .i64 a3)), (.c (.int .u16 a4))]), (.cells [(row P2 a5)])] : List Gx.Obj)
abbrev G25 : List Gx.PObj := [.cells [.c (.isl P0), .c (.isl .str)], .cells [.row .bool 1632]]
def G26 := fun a0 a1 => ([(.cells [(row P0 a0)]), (.cells [(row .str a1)])] : List Gx.Obj)
def E_Z106_TG (c0 : stringslite_IndexByte_Ty) : Table := fun g => bif g.beq 141 then .of [stringslite_IndexByte_W c0] else noEnt
def E_Z106_T (N : Nat) : Table := E_Z106_TG @stringslite_IndexByte
def Z106_W (f : Z106_Ty) : Var := ⟨[.v .str, .v .str], [], fun t u K => f t.1 t.2.1 (fun y0 => K (.sv (.v (.int .i64 y0))) [])⟩
def Z106_F : Nat → Fam := fun _ => noFam
def E_Z106 (N : Nat) : Ent := .of [Z106_W (Z106 N)]
def E_Z105_TG (c0 : Z106_Ty) : Table := fun g => bif g.beq 138 then .of [Z106_W c0] else noEnt
def E_Z105_T (N : Nat) : Table := E_Z105_TG (@Z106 N)
def Z105_W (f : Z105_Ty) : Var := ⟨[.v .str, .v .str], [], fun t u K => f t.1 t.2.1 (fun y0 y1 y2 => K (.tup [(.v (.str y0)), (.v (.str y1)), (.v (.bool y2))]) [])⟩
def Z105_F : Nat → Fam := fun _ => noFam
def E_Z105 (N : Nat) : Ent := .of [Z105_W (Z105 N)]
def E_Z104_TG (c0 : Z105_Ty) : Table := fun g => bif g.beq 126 then .of [Z105_W c0] else noEnt
def E_Z104_T (N : Nat) : Table := E_Z104_TG (@Z105 N)
def Z104_W (f : Z104_Ty) : Var := ⟨[.v .str, .v .str], [], fun t u K => f t.1 t.2.1 (fun y0 y1 y2 => K (.tup [(.v (.str y0)), (.v (.str y1)), (.v (.bool y2))]) [])⟩
def Z104_F : Nat → Fam := fun _ => noFam
def E_Z104 (N : Nat) : Ent := .of [Z104_W (Z104 N)]
def E_Z6_TG : Table := fun _ => noEnt
def E_Z6_T (N : Nat) : Table := E_Z6_TG
def Z6_W (f : Z6_Ty) : Var := ⟨[.v (.int .u8)], [], fun t u K => f t.1 (fun y0 => K (.sv (.v (.bool y0))) [])⟩
def Z6_F : Nat → Fam := fun _ => noFam
def E_Z6 (N : Nat) : Ent := .of [Z6_W (Z6 N)]
def E_Z12_TG (c0 : Z6_Ty) : Table := fun g => bif g.beq 127 then .of [Z6_W c0] else noEnt
def E_Z12_T (N : Nat) : Table := E_Z12_TG (@Z6 N)
def Z12_W (f : Z12_Ty) : Var := ⟨[.v .str], [], fun t u K => f t.1 (fun y0 => K (.sv (.v (.bool y0))) [])⟩
def Z12_v0_0 (w : Z12_l0_Ty) : LVar := ⟨[.sv (.v .str), .sv (.v (.int .i64)), .sv (.v (.int .i64))], [], fun n t u K => w (fun y0 y1 => K .ret [(.sv (.v (.str y0))), (.sv (.v (.bool y1)))] []) (fun y0 => K (.exit 0) [(.sv (.v (.str y0))), .undef] []) n t.1 t.2.1 t.2.2.1⟩
def Z12_F0 (w : Z12_l0_Ty) : Fam := ⟨⟨false, [0, 5, 6], [0, 2], ⟨[], [], []⟩, ⟨[], [], []⟩⟩, [Z12_v0_0 w]⟩
def Z12_F (w0 : Z12_l0_Ty) : Nat → Fam := fun i => bif i.beq 3 then Z12_F0 w0 else noFam
def E_Z12 (N : Nat) : Ent := .of [Z12_W (Z12 N)]
def E_Z0_TG (c0 : Z12_Ty) (c1 : Z104_Ty) : Table := fun g => bif g.beq 102 then .of [Z12_W c0] else bif g.beq 101 then .of [Z104_W c1] else noEnt
def E_Z0_T (N : Nat) : Table := E_Z0_TG (@Z12 N) (@Z104 N)
def Z0_W (f : Z0_Ty) : Var := ⟨[.v .str], [], fun t u K => f t.1 (fun y0 => K (.sv (.v (.bool y0))) [])⟩
def Z0_F : Nat → Fam := fun _ => noFam
def E_Z0 (N : Nat) : Ent := .of [Z0_W (Z0 N)]
def E_Z45_TG : Table := fun _ => noEnt
def E_Z45_T (N : Nat) : Table := E_Z45_TG
def Z45_W (f : Z45_Ty) : Var := ⟨[.v (.int .i64)], [], fun t u K => f t.1 (fun y0 y1 y2 y3 => K (.tup [(.agg [(.c (.int .i64 y0)), (.c (.int .i64 y1)), (.c (.int .i64 y2))]), (.v (.bool y3))]) [])⟩
def Z45_F : Nat → Fam := fun _ => noFam
def E_Z45 (N : Nat) : Ent := .of [Z45_W (Z45 N)]
def E_Z43_TG (c0 : Z45_Ty) : Table := fun g => bif g.beq 70 then .of [Z45_W c0] else noEnt
def E_Z43_T (N : Nat) : Table := E_Z43_TG (@Z45 N)
def Z43_W (f : Z43_Ty) : Var := ⟨[.agg [.c (.int .i64), .c (.int .i64)]], [], fun t u K => f t.1.1 t.1.2.1 (fun y0 => K (.sv (.v (.bool y0))) [])⟩
def Z43_F : Nat → Fam := fun _ => noFam
def E_Z43 (N : Nat) : Ent := .of [Z43_W (Z43 N)]
def E_Z7_TG : Table := fun _ => noEnt
def E_Z7_T (N : Nat) : Table := E_Z7_TG
def Z7_W (f : Z7_Ty) : Var := ⟨[.agg [.c (.int .i64), .c (.int .i64)], .v (.int .i64)], [], fun t u K => f t.1.1 t.1.2.1 t.2.1 (fun y0 => K (.sv (.v (.bool y0))) [])⟩
def Z7_F : Nat → Fam := fun _ => noFam
def E_Z7 (N : Nat) : Ent := .of [Z7_W (Z7 N)]
def E_Z42_TG : Table := fun _ => noEnt
def E_Z42_T (N : Nat) : Table := E_Z42_TG
def Z42_W (f : Z42_Ty) : Var := ⟨[.v (.int .i64)], [], fun t u K => f t.1 (fun y0 => K (.sv (.v (.bool y0))) [])⟩
def Z42_F : Nat → Fam := fun _ => noFam
def E_Z42 (N : Nat) : Ent := .of [Z42_W (Z42 N)]
def E_Z39_TG : Table := fun _ => noEnt
def E_Z39_T (N : Nat) : Table := E_Z39_TG
def Z39_W (f : Z39_Ty) : Var := ⟨[.v (.int .i64)], [], fun t u K => f t.1 (fun y0 => K (.sv (.v (.bool y0))) [])⟩
def Z39_F : Nat → Fam := fun _ => noFam
def E_Z39 (N : Nat) : Ent := .of [Z39_W (Z39 N)]
def E_Z10_TG (c0 : Z39_Ty) (c1 : Z42_Ty) (c2 : Z7_Ty) (c3 : Z43_Ty) : Table := fun g => bif g.beq 106 then .of [Z39_W c0] else bif g.beq 105 then .of [Z42_W c1] else bif g.beq 104 then .of [Z7_W c2] else bif g.beq 103 then .of [Z43_W c3] else noEnt
def E_Z10_T (N : Nat) : Table := E_Z10_TG (@Z39 N) (@Z42 N) (@Z7 N) (@Z43 N)
def Z11_W (f : Z11_Ty) : Var := ⟨[.agg [.c (.wl 0 2), .c (.wl 1 1)], .v (.int .i64)], [.rows P0, .rows .str], fun t u K => f t.2.1 u.1 u.2.1 (fun y0 y1 y2 => K (.sv (.v (.int .i64 y0))) (G26 y1 y2))⟩
def Z11_F : Nat → Fam := fun _ => noFam
def Z10_W (f : Z10_Ty) : Var := ⟨[.agg [.c (.isl P0), .c (.isl .str)], .v (.int .i64)], [], fun t u K => f t.1.1 t.1.2.1 t.2.1 (fun y0 => K (.sv (.v (.int .i64 y0))) [])⟩
def Z10_F : Nat → Fam := fun _ => noFam
def E_Z10 (N : Nat) : Ent := .of [Z11_W (Z11 N), Z10_W (Z10 N)]
def E_Z44_TG (c0 : Z45_Ty) : Table := fun g => bif g.beq 70 then .of [Z45_W c0] else noEnt
def E_Z44_T (N : Nat) : Table := E_Z44_TG (@Z45 N)
def Z44_W (f : Z44_Ty) : Var := ⟨[.v (.int .i64)], [], fun t u K => f t.1 (fun y0 => K (.sv (.v (.int .i64 y0))) [])⟩
def Z44_F : Nat → Fam := fun _ => noFam
def E_Z44 (N : Nat) : Ent := .of [Z44_W (Z44 N)]
def E_Z41_TG (c0 : Z45_Ty) : Table := fun g => bif g.beq 70 then .of [Z45_W c0] else noEnt
def E_Z41_T (N : Nat) : Table := E_Z41_TG (@Z45 N)
def Z41_W (f : Z41_Ty) : Var := ⟨[.v (.int .i64)], [], fun t u K => f t.1 (fun y0 => K (.sv (.v (.int .i64 y0))) [])⟩
def Z41_F : Nat → Fam := fun _ => noFam
def E_Z41 (N : Nat) : Ent := .of [Z41_W (Z41 N)]
def E_Z3_TG (c0 : Z41_Ty) (c1 : Z44_Ty) : Table := fun g => bif g.beq 128 then .of [Z41_W c0] else bif g.beq 38 then .of [Z44_W c1] else noEnt
def E_Z3_T (N : Nat) : Table := E_Z3_TG (@Z41 N) (@Z44 N)
def Z3_W (f : Z3_Ty) : Var := ⟨[.agg [.c (.int .i64), .c (.int .i64)], .v (.int .i64)], [], fun t u K => f t.1.1 t.1.2.1 t.2.1 (fun y0 y1 => K (.tup [(.v (.int .i64 y0)), (.v (.bool y1))]) [])⟩
def Z3_F : Nat → Fam := fun _ => noFam
def E_Z3 (N : Nat) : Ent := .of [Z3_W (Z3 N)]
def E_Z8_TG (c0 : Z42_Ty) (c1 : Z39_Ty) : Table := fun g => bif g.beq 105 then .of [Z42_W c0] else bif g.beq 106 then .of [Z39_W c1] else noEnt
def E_Z8_T (N : Nat) : Table := E_Z8_TG (@Z42 N) (@Z39 N)
def Z9_W (f : Z9_Ty) : Var := ⟨[.agg [.c (.wl 0 2), .c (.wl 1 1)], .v (.int .i64)], [.rows P0, .rows .str], fun t u K => f t.2.1 u.1 u.2.1 (fun y0 y1 y2 => K (.sv (.v (.wl 2 1))) [(.cells [(row P0 y0)]), (.cells [(row .str y1)]), (.cells [(row (.int .i64) y2)])])⟩
def Z9_F : Nat → Fam := fun _ => noFam
def Z8_W (f : Z8_Ty) : Var := ⟨[.agg [.c (.isl P0), .c (.isl .str)], .v (.int .i64)], [], fun t u K => f t.1.1 t.1.2.1 t.2.1 (fun y0 => K (.sv (.v (.wl 0 1))) [(.cells [(row (.int .i64) y0)])])⟩
def Z8_F : Nat → Fam := fun _ => noFam
def E_Z8 (N : Nat) : Ent := .of [Z9_W (Z9 N), Z8_W (Z8 N)]
def E_Z13_TG (c0 : Z9_Ty) (c1 : Z8_Ty) (c2 : Z3_Ty) : Table := fun g => bif g.beq 108 then .of [Z9_W c0, Z8_W c1] else bif g.beq 107 then .of [Z3_W c2] else noEnt
def E_Z13_T (N : Nat) : Table := E_Z13_TG (@Z9 N) (@Z8 N) (@Z3 N)
def Z14_W (f : Z14_Ty) : Var := ⟨[.agg [.c (.wl 0 2), .c (.wl 1 1)]], [.rows P0, .rows .str], fun t u K => f u.1 u.2.1 (fun y0 y1 y2 => K (.sv (.v (.ptr 2 0))) (G20 y0 y1 y2))⟩
def Z14_v0_0 (w : Z14_l0_Ty) : LVar := ⟨[.sv (.v (.ptr 2 0)), .sv (.v (.ptr 3 0)), .sv (.v .bool)], G21, fun n t u K => w (fun y0 y1 y2 => K (.exit 0) [(.sv (.v (.ptr 2 0)))] (G20 y0 y1 y2)) n t.2.2.1 u.1 u.2.1 u.2.2.2.1.1⟩
def Z14_F0 (w : Z14_l0_Ty) : Fam := ⟨⟨false, [1, 3, 4], [3], ⟨[], [], []⟩, ⟨[], [], []⟩⟩, [Z14_v0_0 w]⟩
def Z14_v1_0 (w : Z14_l1_Ty) : LVar := ⟨[.sv (.v (.ptr 2 0)), .sv (.v (.ptr 3 0)), .sv (.v .bool), .sv (.v (.wl 0 2)), .sv (.v (.int .i64)), .sv (.v (.int .i64))], G21, fun n t u K => w (fun y0 y1 y2 y3 => K (.exit 2) [(.sv (.v (.ptr 2 0))), (.sv (.v (.ptr 3 0))), (.sv (.v (.bool y0)))] [(.cells [(row P0 y1)]), (.cells [(row .str y2)]), (.cells [(.c (.wl 0 2)), (.c (.wl 1 1))]), (.cells [(.row .bool 1632 y3)])]) n t.2.2.1 t.2.2.2.2.1 t.2.2.2.2.2.1 u.1 u.2.1 u.2.2.2.1.1⟩
def Z14_F1 (w : Z14_l1_Ty) : Fam := ⟨⟨false, [1, 3, 4, 21, 22, 23], [1, 3, 4], ⟨[], [], []⟩, ⟨[], [], []⟩⟩, [Z14_v1_0 w]⟩
def Z14_v2_0 (w : Z14_l2_Ty) : LVar := ⟨[.sv (.v (.ptr 2 0)), .sv (.v (.ptr 3 0)), .sv (.v .bool), .sv (.v (.int .i64)), .sv (.v (.ptr 4 0)), .sv (.v (.wl 0 2)), .sv (.v (.int .i64)), .sv (.v (.int .i64)), .sv (.agg [.row .bool 17]), .sv (.v (.int .i64))], [.rows P0, .rows .str, .cells [.c (.wl 0 2), .c (.wl 1 1)], .cells [.row .bool 1632], .cells [.c (.int .i64), .c (.int .i64)]], fun n t u K => w (fun y0 y1 y2 y3 y4 y5 => K (.exit 4) [(.sv (.v (.ptr 2 0))), (.sv (.v (.ptr 3 0))), (.sv (.v (.bool y0))), (.sv (.v (.wl 0 2))), (.sv (.v (.int .i64 y1))), (.sv (.v (.int .i64 y2)))] [(.cells [(row P0 y3)]), (.cells [(row .str y4)]), (.cells [(.c (.wl 0 2)), (.c (.wl 1 1))]), (.cells [(.row .bool 1632 y5)])]) n t.2.2.1 t.2.2.2.1 t.2.2.2.2.2.2.1 t.2.2.2.2.2.2.2.1 t.2.2.2.2.2.2.2.2.1.1 t.2.2.2.2.2.2.2.2.2.1 u.1 u.2.1 u.2.2.2.1.1 u.2.2.2.2.1.1 u.2.2.2.2.1.2.1⟩
def Z14_F2 (w : Z14_l2_Ty) : Fam := ⟨⟨false, [1, 3, 4, 5, 6, 21, 22, 23, 32, 33], [1, 3, 4, 21, 22, 23], ⟨[], [], []⟩, ⟨[], [], []⟩⟩, [Z14_v2_0 w]⟩
def Z14_v3_0 (w : Z14_l3_Ty) : LVar := ⟨[.sv (.v (.ptr 2 0)), .sv (.v (.ptr 3 0)), .sv (.v .bool), .sv (.v (.int .i64)), .sv (.v (.ptr 4 0)), .sv (.v (.int .i64)), .sv (.v (.wl 0 2)), .sv (.v (.int .i64)), .sv (.v (.int .i64)), .sv (.agg [.row .bool 17]), .sv (.v (.int .i64)), .sv (.v (.wl 5 1)), .sv (.v (.int .i64)), .sv (.v (.int .i64))], [.rows P0, .rows .str, .cells [.c (.wl 0 2), .c (.wl 1 1)], .cells [.row .bool 1632], .cells [.c (.int .i64), .c (.int .i64)], .rows (.int .i64)], fun n t u K => w (fun y0 y1 y2 y3 y4 y5 y6 y7 y8 y9 y10 => K (.exit 6) [(.sv (.v (.ptr 2 0))), (.sv (.v (.ptr 3 0))), (.sv (.v (.bool y0))), (.sv (.v (.int .i64 y1))), (.sv (.v (.ptr 4 0))), (.sv (.v (.wl 0 2))), (.sv (.v (.int .i64 y2))), (.sv (.v (.int .i64 y3))), (.sv (.agg [(.row .bool 17 y4)])), (.sv (.v (.int .i64 y5)))] [(.cells [(row P0 y6)]), (.cells [(row .str y7)]), (.cells [(.c (.wl 0 2)), (.c (.wl 1 1))]), (.cells [(.row .bool 1632 y8)]), (.cells [(.c (.int .i64 y9)), (.c (.int .i64 y10))])]) n t.2.2.1 t.2.2.2.1 t.2.2.2.2.2.1 t.2.2.2.2.2.2.2.1 t.2.2.2.2.2.2.2.2.1 t.2.2.2.2.2.2.2.2.2.1.1 t.2.2.2.2.2.2.2.2.2.2.1 t.2.2.2.2.2.2.2.2.2.2.2.2.1 t.2.2.2.2.2.2.2.2.2.2.2.2.2.1 u.1 u.2.1 u.2.2.2.1.1 u.2.2.2.2.1.1 u.2.2.2.2.1.2.1 u.2.2.2.2.2.1⟩
def Z14_F3 (w : Z14_l3_Ty) : Fam := ⟨⟨false, [1, 3, 4, 5, 6, 9, 21, 22, 23, 32, 33, 51, 52, 53], [1, 3, 4, 5, 6, 21, 22, 23, 32, 33], ⟨[], [], []⟩, ⟨[], [], []⟩⟩, [Z14_v3_0 w]⟩
def Z14_F (w0 : Z14_l0_Ty) (w1 : Z14_l1_Ty) (w2 : Z14_l2_Ty) (w3 : Z14_l3_Ty) : Nat → Fam := fun i => bif i.beq 5 then Z14_F0 w0 else bif i.beq 10 then Z14_F1 w1 else bif i.beq 16 then Z14_F2 w2 else bif i.beq 25 then Z14_F3 w3 else noFam
def Z13_W (f : Z13_Ty) : Var := ⟨[.agg [.c (.isl P0), .c (.isl .str)]], [], fun t u K => f t.1.1 t.1.2.1 (fun y0 => K (.sv (.v (.ptr 0 0))) [(.cells [(.row .bool 1632 y0)])])⟩
def Z13_v0_0 (w : Z13_l0_Ty) : LVar := ⟨[.sv (.v (.ptr 0 0)), .sv (.v (.ptr 1 0)), .sv (.v .bool)], G25, fun n t u K => w (fun y0 => K (.exit 0) [(.sv (.v (.ptr 0 0)))] [(.cells [(.row .bool 1632 y0)])]) n t.2.2.1 u.1.1 u.1.2.1 u.2.1.1⟩
def Z13_F0 (w : Z13_l0_Ty) : Fam := ⟨⟨false, [1, 3, 4], [3], ⟨[], [], []⟩, ⟨[], [], []⟩⟩, [Z13_v0_0 w]⟩
def Z13_v1_0 (w : Z13_l1_Ty) : LVar := ⟨[.sv (.v (.ptr 0 0)), .sv (.v (.ptr 1 0)), .sv (.v .bool), .sv (.v (.isl P0)), .sv (.v (.int .i64)), .sv (.v (.int .i64))], G25, fun n t u K => w (fun y0 y1 y2 y3 => K (.exit 2) [(.sv (.v (.ptr 0 0))), (.sv (.v (.ptr 1 0))), (.sv (.v (.bool y0)))] [(.cells [(.c (.isl P0 y1)), (.c (.isl .str y2))]), (.cells [(.row .bool 1632 y3)])]) n t.2.2.1 t.2.2.2.1 t.2.2.2.2.1 t.2.2.2.2.2.1 u.1.1 u.1.2.1 u.2.1.1⟩
def Z13_F1 (w : Z13_l1_Ty) : Fam := ⟨⟨false, [1, 3, 4, 21, 22, 23], [1, 3, 4], ⟨[], [], []⟩, ⟨[], [], []⟩⟩, [Z13_v1_0 w]⟩
def Z13_v2_0 (w : Z13_l2_Ty) : LVar := ⟨[.sv (.v (.ptr 0 0)), .sv (.v (.ptr 1 0)), .sv (.v .bool), .sv (.v (.int .i64)), .sv (.v (.ptr 2 0)), .sv (.v (.isl P0)), .sv (.v (.int .i64)), .sv (.v (.int .i64)), .sv (.agg [.row .bool 17]), .sv (.v (.int .i64))], [.cells [.c (.isl P0), .c (.isl .str)], .cells [.row .bool 1632], .cells [.c (.int .i64), .c (.int .i64)]], fun n t u K => w (fun y0 y1 y2 y3 y4 y5 y6 => K (.exit 4) [(.sv (.v (.ptr 0 0))), (.sv (.v (.ptr 1 0))), (.sv (.v (.bool y0))), (.sv (.v (.isl P0 y1))), (.sv (.v (.int .i64 y2))), (.sv (.v (.int .i64 y3)))] [(.cells [(.c (.isl P0 y4)), (.c (.isl .str y5))]), (.cells [(.row .bool 1632 y6)])]) n t.2.2.1 t.2.2.2.1 t.2.2.2.2.2.1 t.2.2.2.2.2.2.1 t.2.2.2.2.2.2.2.1 t.2.2.2.2.2.2.2.2.1.1 t.2.2.2.2.2.2.2.2.2.1 u.1.1 u.1.2.1 u.2.1.1 u.2.2.1.1 u.2.2.1.2.1⟩
def Z13_F2 (w : Z13_l2_Ty) : Fam := ⟨⟨false, [1, 3, 4, 5, 6, 21, 22, 23, 32, 33], [1, 3, 4, 21, 22, 23], ⟨[], [], []⟩, ⟨[], [], []⟩⟩, [Z13_v2_0 w]⟩
def Z13_v3_0 (w : Z13_l3_Ty) : LVar := ⟨[.sv (.v (.ptr 0 0)), .sv (.v (.ptr 1 0)), .sv (.v .bool), .sv (.v (.int .i64)), .sv (.v (.ptr 2 0)), .sv (.v (.int .i64)), .sv (.v (.isl P0)), .sv (.v (.int .i64)), .sv (.v (.int .i64)), .sv (.agg [.row .bool 17]), .sv (.v (.int .i64)), .sv (.v (.wl 3 1)), .sv (.v (.int .i64)), .sv (.v (.int .i64))], [.cells [.c (.isl P0), .c (.isl .str)], .cells [.row .bool 1632], .cells [.c (.int .i64), .c (.int .i64)], .rows (.int .i64)], fun n t u K => w (fun y0 y1 y2 y3 y4 y5 y6 y7 y8 y9 y10 y11 => K (.exit 6) [(.sv (.v (.ptr 0 0))), (.sv (.v (.ptr 1 0))), (.sv (.v (.bool y0))), (.sv (.v (.int .i64 y1))), (.sv (.v (.ptr 2 0))), (.sv (.v (.isl P0 y2))), (.sv (.v (.int .i64 y3))), (.sv (.v (.int .i64 y4))), (.sv (.agg [(.row .bool 17 y5)])), (.sv (.v (.int .i64 y6)))] [(.cells [(.c (.isl P0 y7)), (.c (.isl .str y8))]), (.cells [(.row .bool 1632 y9)]), (.cells [(.c (.int .i64 y10)), (.c (.int .i64 y11))])]) n t.2.2.1 t.2.2.2.1 t.2.2.2.2.2.1 t.2.2.2.2.2.2.1 t.2.2.2.2.2.2.2.1 t.2.2.2.2.2.2.2.2.1 t.2.2.2.2.2.2.2.2.2.1.1 t.2.2.2.2.2.2.2.2.2.2.1 t.2.2.2.2.2.2.2.2.2.2.2.2.1 t.2.2.2.2.2.2.2.2.2.2.2.2.2.1 u.1.1 u.1.2.1 u.2.1.1 u.2.2.1.1 u.2.2.1.2.1 u.2.2.2.1⟩
def Z13_F3 (w : Z13_l3_Ty) : Fam := ⟨⟨false, [1, 3, 4, 5, 6, 9, 21, 22, 23, 32, 33, 51, 52, 53], [1, 3, 4, 5, 6, 21, 22, 23, 32, 33], ⟨[], [], []⟩, ⟨[], [], []⟩⟩, [Z13_v3_0 w]⟩
def Z13_F (w0 : Z13_l0_Ty) (w1 : Z13_l1_Ty) (w2 : Z13_l2_Ty) (w3 : Z13_l3_Ty) : Nat → Fam := fun i => bif i.beq 5 then Z13_F0 w0 else bif i.beq 10 then Z13_F1 w1 else bif i.beq 16 then Z13_F2 w2 else bif i.beq 25 then Z13_F3 w3 else noFam
def E_Z13 (N : Nat) : Ent := .of [Z14_W (Z14 N), Z13_W (Z13 N)]
def E_Y0_TG (c0 : Z3_Ty) : Table := fun g => bif g.beq 107 then .of [Z3_W c0] else noEnt
def E_Y0_T (N : Nat) : Table := E_Y0_TG (@Z3 N)
def Z4_W (f : Z4_Ty) : Var := ⟨[.agg [.c (.wl 0 2), .c (.wl 1 1)], .v (.ptr 2 0), .v (.int .i64)], [.rows P0, .rows .str, .cells [.row .bool 1632]], fun t u K => f t.2.2.1 u.1 u.2.1 u.2.2.1.1 (fun y0 y1 y2 y3 y4 => K (.tup [(.v (.int .i64 y0)), (.v (.bool y1))]) (G20 y2 y3 y4))⟩
def Z4_v0_0 (w : Z4_l0_Ty) : LVar := ⟨[.sv (.v (.int .i64)), .sv (.v (.ptr 3 0)), .sv (.v (.int .i64)), .sv (.v .bool), .sv (.agg [.row .bool 17]), .sv (.v (.int .i64))], [.rows P0, .rows .str, .cells [.row .bool 1632], .cells [.c (.wl 0 2), .c (.wl 1 1)]], fun n t u K => w (fun y0 y1 y2 y3 y4 => K (.exit 0) [(.sv (.v (.int .i64 y0))), (.sv (.v (.bool y1)))] (G20 y2 y3 y4)) n t.1 t.2.2.1 t.2.2.2.1 t.2.2.2.2.1.1 t.2.2.2.2.2.1 u.1 u.2.1 u.2.2.1.1⟩
def Z4_F0 (w : Z4_l0_Ty) : Fam := ⟨⟨false, [2, 3, 8, 9, 18, 19], [8, 9], ⟨[], [], []⟩, ⟨[], [], []⟩⟩, [Z4_v0_0 w]⟩
def Z4_F (w0 : Z4_l0_Ty) : Nat → Fam := fun i => bif i.beq 4 then Z4_F0 w0 else noFam
def Z5_W (f : Z5_Ty) : Var := ⟨[.agg [.c (.isl P0), .c (.isl .str)], .v (.ptr 0 0), .v (.int .i64)], [.cells [.row .bool 1632]], fun t u K => f t.1.1 t.1.2.1 t.2.2.1 u.1.1 (fun y0 y1 y2 => K (.tup [(.v (.int .i64 y0)), (.v (.bool y1))]) [(.cells [(.row .bool 1632 y2)])])⟩
def Z5_v0_0 (w : Z5_l0_Ty) : LVar := ⟨[.sv (.v (.int .i64)), .sv (.v (.ptr 1 0)), .sv (.v (.int .i64)), .sv (.v .bool), .sv (.agg [.row .bool 17]), .sv (.v (.int .i64))], [.cells [.row .bool 1632], .cells [.c (.isl P0), .c (.isl .str)]], fun n t u K => w (fun y0 y1 y2 => K (.exit 0) [(.sv (.v (.int .i64 y0))), (.sv (.v (.bool y1)))] [(.cells [(.row .bool 1632 y2)])]) n t.1 t.2.2.1 t.2.2.2.1 t.2.2.2.2.1.1 t.2.2.2.2.2.1 u.1.1 u.2.1.1 u.2.1.2.1⟩
def Z5_F0 (w : Z5_l0_Ty) : Fam := ⟨⟨false, [2, 3, 8, 9, 18, 19], [8, 9], ⟨[], [], []⟩, ⟨[], [], []⟩⟩, [Z5_v0_0 w]⟩
def Z5_F (w0 : Z5_l0_Ty) : Nat → Fam := fun i => bif i.beq 4 then Z5_F0 w0 else noFam
def E_Y0 (N : Nat) : Ent := .of [Z4_W (Z4 N), Z5_W (Z5 N)]
def E_Z1_TG (c0 : Z4_Ty) (c1 : Z5_Ty) (c2 : Z14_Ty) (c3 : Z13_Ty) (c4 : Z11_Ty) (c5 : Z10_Ty) (c6 : Z0_Ty) : Table := fun g => bif g.beq 65 then .of [Z4_W c0, Z5_W c1] else bif g.beq 64 then .of [Z14_W c2, Z13_W c3] else bif g.beq 63 then .of [Z11_W c4, Z10_W c5] else bif g.beq 62 then .of [Z0_W c6] else noEnt
def E_Z1_T (N : Nat) : Table := E_Z1_TG (@Z4 N) (@Z5 N) (@Z14 N) (@Z13 N) (@Z11 N) (@Z10 N) (@Z0 N)
def Z2_W (f : Z2_Ty) : Var := ⟨[.agg [.c (.wl 0 2), .c (.wl 1 1)]], [.rows P0, .rows .str], fun t u K => f u.1 u.2.1 (fun y0 y1 y2 y3 => K (.tup [(.v (.int .i64 y0)), (.v (.int .i64 y1))]) (G26 y2 y3))⟩
def Z2_v0_0 (w : Z2_l0_Ty) : LVar := ⟨[.sv (.v (.ptr 2 0)), .sv (.v (.wl 1 1)), .sv (.v (.int .i64)), .sv (.v (.int .i64))], [.rows P0, .rows .str, .cells [.c (.wl 0 2), .c (.wl 1 1)]], fun n t u K => w (fun y0 y1 y2 y3 => K .ret [(.sv (.v (.ptr 2 0))), (.sv (.v (.int .i64 y0))), (.sv (.v (.int .i64 y1)))] (G18 y2 y3)) (fun y0 y1 => K (.exit 0) [(.sv (.v (.ptr 2 0))), .undef, .undef] (G18 y0 y1)) n t.2.2.1 t.2.2.2.1 u.1 u.2.1⟩
def Z2_F0 (w : Z2_l0_Ty) : Fam := ⟨⟨false, [1, 29, 30, 31], [1, 2, 3], ⟨[], [], []⟩, ⟨[], [], []⟩⟩, [Z2_v0_0 w]⟩
def Z2_v1_0 (w : Z2_l1_Ty) : LVar := ⟨[.sv (.v (.ptr 2 0)), .sv (.v (.int .i64)), .sv (.v (.int .i64))], [.rows P0, .rows .str, .cells [.c (.wl 0 2), .c (.wl 1 1)]], fun n t u K => w (fun y0 y1 y2 y3 => K .ret [(.sv (.v (.ptr 2 0))), (.sv (.v (.int .i64 y0))), (.sv (.v (.int .i64 y1)))] (G18 y2 y3)) (fun y0 y1 => K (.exit 2) [(.sv (.v (.ptr 2 0))), .undef, .undef] (G18 y0 y1)) n t.2.1 t.2.2.1 u.1 u.2.1⟩
def Z2_F1 (w : Z2_l1_Ty) : Fam := ⟨⟨false, [1, 41, 42], [1, 2, 3], ⟨[], [], []⟩, ⟨[], [], []⟩⟩, [Z2_v1_0 w]⟩
def Z2_v2_0 (w : Z2_l2_Ty) : LVar := ⟨[.sv (.v (.ptr 2 0)), .sv (.v (.ptr 3 0)), .sv (.v (.int .i64)), .sv (.v (.int .i64))], G21, fun n t u K => w (fun y0 y1 y2 y3 => K .ret [(.sv (.v (.int .i64 y0))), (.sv (.v (.int .i64 y1)))] (G26 y2 y3)) (fun y0 y1 => K (.exit 4) [.undef, .undef] (G26 y0 y1)) n t.2.2.1 t.2.2.2.1 u.1 u.2.1 u.2.2.2.1.1⟩
def Z2_F2 (w : Z2_l2_Ty) : Fam := ⟨⟨false, [1, 8, 57, 58], [2, 3], ⟨[], [], []⟩, ⟨[], [], []⟩⟩, [Z2_v2_0 w]⟩
def Z2_F (w0 : Z2_l0_Ty) (w1 : Z2_l1_Ty) (w2 : Z2_l2_Ty) : Nat → Fam := fun i => bif i.beq 6 then Z2_F0 w0 else bif i.beq 15 then Z2_F1 w1 else bif i.beq 26 then Z2_F2 w2 else noFam
def Z1_W (f : Z1_Ty) : Var := ⟨[.agg [.c (.isl P0), .c (.isl .str)]], [], fun t u K => f t.1.1 t.1.2.1 (fun y0 y1 => K (.tup [(.v (.int .i64 y0)), (.v (.int .i64 y1))]) [])⟩
def Z1_v0_0 (w : Z1_l0_Ty) : LVar := ⟨[.sv (.v (.ptr 0 0)), .sv (.v (.isl .str)), .sv (.v (.int .i64)), .sv (.v (.int .i64))], [.cells [.c (.isl P0), .c (.isl .str)]], fun n t u K => w (fun y0 y1 y2 y3 => K .ret [(.sv (.v (.ptr 0 0))), (.sv (.v (.int .i64 y0))), (.sv (.v (.int .i64 y1)))] (G23 y2 y3)) (fun y0 y1 => K (.exit 0) [(.sv (.v (.ptr 0 0))), .undef, .undef] (G23 y0 y1)) n t.2.1 t.2.2.1 t.2.2.2.1 u.1.1 u.1.2.1⟩
def Z1_F0 (w : Z1_l0_Ty) : Fam := ⟨⟨false, [1, 29, 30, 31], [1, 2, 3], ⟨[], [], []⟩, ⟨[], [], []⟩⟩, [Z1_v0_0 w]⟩
def Z1_v1_0 (w : Z1_l1_Ty) : LVar := ⟨[.sv (.v (.ptr 0 0)), .sv (.v (.int .i64)), .sv (.v (.int .i64))], [.cells [.c (.isl P0), .c (.isl .str)]], fun n t u K => w (fun y0 y1 y2 y3 => K .ret [(.sv (.v (.ptr 0 0))), (.sv (.v (.int .i64 y0))), (.sv (.v (.int .i64 y1)))] (G23 y2 y3)) (fun y0 y1 => K (.exit 2) [(.sv (.v (.ptr 0 0))), .undef, .undef] (G23 y0 y1)) n t.2.1 t.2.2.1 u.1.1 u.1.2.1⟩
def Z1_F1 (w : Z1_l1_Ty) : Fam := ⟨⟨false, [1, 41, 42], [1, 2, 3], ⟨[], [], []⟩, ⟨[], [], []⟩⟩, [Z1_v1_0 w]⟩
def Z1_v2_0 (w : Z1_l2_Ty) : LVar := ⟨[.sv (.v (.ptr 0 0)), .sv (.v (.ptr 1 0)), .sv (.v (.int .i64)), .sv (.v (.int .i64))], G25, fun n t u K => w (fun y0 y1 => K .ret [(.sv (.v (.int .i64 y0))), (.sv (.v (.int .i64 y1)))] []) (K (.exit 4) [.undef, .undef] []) n t.2.2.1 t.2.2.2.1 u.1.1 u.1.2.1 u.2.1.1⟩
def Z1_F2 (w : Z1_l2_Ty) : Fam := ⟨⟨false, [1, 8, 57, 58], [2, 3], ⟨[], [], []⟩, ⟨[], [], []⟩⟩, [Z1_v2_0 w]⟩
def Z1_F (w0 : Z1_l0_Ty) (w1 : Z1_l1_Ty) (w2 : Z1_l2_Ty) : Nat → Fam := fun i => bif i.beq 6 then Z1_F0 w0 else bif i.beq 15 then Z1_F1 w1 else bif i.beq 26 then Z1_F2 w2 else noFam
def E_Z1 (N : Nat) : Ent := .of [Z2_W (Z2 N), Z1_W (Z1 N)]
def E_Z95_TG : Table := fun _ => noEnt
def E_Z95_T (N : Nat) : Table := E_Z95_TG
def Z95_W (f : Z95_Ty) : Var := ⟨[.v (.isl (.int .u8))], [], fun t u K => f t.1 (fun y0 => K (.sv (.v (.bool y0))) [])⟩
def Z95_F : Nat → Fam := fun _ => noFam
def E_Z95 (N : Nat) : Ent := .of [Z95_W (Z95 N)]
def E_Z101_TG (c0 : Z95_Ty) : Table := fun g => bif g.beq 34 then .of [Z95_W c0] else noEnt
def E_Z101_T (N : Nat) : Table := E_Z101_TG (@Z95 N)
def Z102_W (f : Z102_Ty) : Var := ⟨[.v (.wl 0 1), .v (.fn 34 [])], [.rows (.isl (.int .u8))], fun t u K => f u.1 (fun y0 y1 => K (.sv (.v (.int .i64 y0))) [(.cells [(row (.isl (.int .u8)) y1)])])⟩
def Z102_v0_0 (w : Z102_l0_Ty) : LVar := ⟨[.sv (.v (.wl 0 1)), .sv (.v (.fn 34 [])), .sv (.v (.int .i64)), .sv (.v (.int .i64))], [.rows (.isl (.int .u8))], fun n t u K => w (fun y0 y1 => K .ret [(.sv (.v (.int .i64 y0)))] [(.cells [(row (.isl (.int .u8)) y1)])]) (fun y0 => K (.exit 0) [.undef] [(.cells [(row (.isl (.int .u8)) y0)])]) n t.2.2.1 t.2.2.2.1 u.1⟩
def Z102_F0 (w : Z102_l0_Ty) : Fam := ⟨⟨false, [0, 1, 7, 8], [4], ⟨[], [], []⟩, ⟨[], [], []⟩⟩, [Z102_v0_0 w]⟩
def Z102_F (w0 : Z102_l0_Ty) : Nat → Fam := fun i => bif i.beq 3 then Z102_F0 w0 else noFam
def Z101_W (f : Z101_Ty) : Var := ⟨[.v (.isl (.isl (.int .u8))), .v (.fn 34 [])], [], fun t u K => f t.1 (fun y0 => K (.sv (.v (.int .i64 y0))) [])⟩
def Z101_v0_0 (w : Z101_l0_Ty) : LVar := ⟨[.sv (.v (.isl (.isl (.int .u8)))), .sv (.v (.fn 34 [])), .sv (.v (.int .i64)), .sv (.v (.int .i64))], [], fun n t u K => w (fun y0 => K .ret [(.sv (.v (.int .i64 y0)))] []) (K (.exit 0) [.undef] []) n t.1 t.2.2.1 t.2.2.2.1⟩
def Z101_F0 (w : Z101_l0_Ty) : Fam := ⟨⟨false, [0, 1, 7, 8], [4], ⟨[], [], []⟩, ⟨[], [], []⟩⟩, [Z101_v0_0 w]⟩
def Z101_F (w0 : Z101_l0_Ty) : Nat → Fam := fun i => bif i.beq 3 then Z101_F0 w0 else noFam
def E_Z101 (N : Nat) : Ent := .of [Z102_W (Z102 N), Z101_W (Z101 N)]
def E_Z99_TG (c0 : Z102_Ty) (c1 : Z101_Ty) : Table := fun g => bif g.beq 68 then .of [Z102_W c0, Z101_W c1] else noEnt
def E_Z99_T (N : Nat) : Table := E_Z99_TG (@Z102 N) (@Z101 N)
def Z100_W (f : Z100_Ty) : Var := ⟨[.v (.wl 0 1), .v (.fn 34 [])], [.rows (.isl (.int .u8))], fun t u K => f u.1 (fun y0 y1 => K (.sv (.v (.bool y0))) [(.cells [(row (.isl (.int .u8)) y1)])])⟩
def Z100_F : Nat → Fam := fun _ => noFam
def Z99_W (f : Z99_Ty) : Var := ⟨[.v (.isl (.isl (.int .u8))), .v (.fn 34 [])], [], fun t u K => f t.1 (fun y0 => K (.sv (.v (.bool y0))) [])⟩
def Z99_F : Nat → Fam := fun _ => noFam
def E_Z99 (N : Nat) : Ent := .of [Z100_W (Z100 N), Z99_W (Z99 N)]
def slices_Clone__bool_bool_a594_W (f : slices_Clone__bool_bool_a594_Ty) : Var := ⟨[.v (.wl 0 1)], [.rows .bool], fun t u K => f u.1 (fun y0 y1 => K (.sv (.v (.wl 1 1))) [(.cells [(row .bool y0)]), (.cells [(row .bool y1)])])⟩
def slices_Clone__bool_bool_W (f : slices_Clone__bool_bool_Ty) : Var := ⟨[.v (.isl .bool)], [], fun t u K => f t.1 (fun y0 => K (.sv (.v (.wl 0 1))) [(.cells [(row .bool y0)])])⟩
def E_slices_Clone__bool_bool : Ent := .of [slices_Clone__bool_bool_a594_W @slices_Clone__bool_bool_a594, slices_Clone__bool_bool_W @slices_Clone__bool_bool]
def E_Z16_TG (c0 : slices_Clone__bool_bool_a594_Ty) (c1 : slices_Clone__bool_bool_Ty) : Table := fun g => bif g.beq 69 then .of [slices_Clone__bool_bool_a594_W c0, slices_Clone__bool_bool_W c1] else noEnt
def E_Z16_T (N : Nat) : Table := E_Z16_TG @slices_Clone__bool_bool_a594 @slices_Clone__bool_bool
def Z17_W (f : Z17_Ty) : Var := ⟨[.v (.wl 0 1)], [.rows .bool], fun t u K => f u.1 (fun y0 y1 y2 => K (.sv (.v (.ptr 1 0))) [(.cells [(row .bool y0)]), (.cells [(.c (.wl 2 1)), (.c (.int .i64 y1))]), (.cells [(row .bool y2)])])⟩
def Z17_F : Nat → Fam := fun _ => noFam
def Z16_W (f : Z16_Ty) : Var := ⟨[.v (.isl .bool)], [], fun t u K => f t.1 (fun y0 y1 => K (.sv (.v (.ptr 0 0))) [(.cells [(.c (.wl 1 1)), (.c (.int .i64 y0))]), (.cells [(row .bool y1)])])⟩
def Z16_F : Nat → Fam := fun _ => noFam
def E_Z16 (N : Nat) : Ent := .of [Z17_W (Z17 N), Z16_W (Z16 N)]
def E_Y23_TG : Table := fun _ => noEnt
def E_Y23_T (N : Nat) : Table := E_Y23_TG
def Z70_W (f : Z70_Ty) : Var := ⟨[.v (.ptr 0 0), .v (.int .i64), .v (.int .u16)], G1, fun t u K => f t.2.1 t.2.2.1 u.1.2.2.1 u.1.2.2.2.2.1 u.1.2.2.2.2.2.1 u.1.2.2.2.2.2.2.2.2.2.2.1 u.1.2.2.2.2.2.2.2.2.2.2.2.1 u.1.2.2.2.2.2.2.2.2.2.2.2.2.1 u.2.1 u.2.2.1 u.2.2.2.1 u.2.2.2.2.1.2.2.2.1 u.2.2.2.2.2.1.2.1 u.2.2.2.2.2.2.1 u.2.2.2.2.2.2.2.1 u.2.2.2.2.2.2.2.2.1 u.2.2.2.2.2.2.2.2.2.1.2.1 u.2.2.2.2.2.2.2.2.2.2.1 u.2.2.2.2.2.2.2.2.2.2.2.1 u.2.2.2.2.2.2.2.2.2.2.2.2.1 (fun y0 y1 y2 y3 y4 y5 y6 y7 y8 y9 y10 y11 y12 y13 y14 y15 y16 y17 => K (.tup []) (G14 y0 y1 y2 y3 y4 y5 y6 y7 y8 y9 y10 y11 y12 y13 y14 y15 y16 y17))⟩
def Z70_F : Nat → Fam := fun _ => noFam
def Z71_W (f : Z71_Ty) : Var := ⟨[.v (.ptr 0 0), .v (.int .i64), .v (.int .u16)], G0, fun t u K => f t.2.1 t.2.2.1 u.1.1 u.1.2.1 u.1.2.2.1 u.1.2.2.2.2.1 u.1.2.2.2.2.2.1 u.1.2.2.2.2.2.2.2.2.1 u.1.2.2.2.2.2.2.2.2.2.2.1 u.1.2.2.2.2.2.2.2.2.2.2.2.1 u.1.2.2.2.2.2.2.2.2.2.2.2.2.1 u.2.1 u.2.2.1.2.2.2.1 u.2.2.2.1.2.1 u.2.2.2.2.1 u.2.2.2.2.2.1 u.2.2.2.2.2.2.1 u.2.2.2.2.2.2.2.1.2.1 u.2.2.2.2.2.2.2.2.1 u.2.2.2.2.2.2.2.2.2.1 (fun y0 y1 y2 y3 y4 y5 y6 y7 y8 y9 y10 y11 y12 y13 y14 y15 y16 y17 => K (.tup []) (G8 y0 y1 y2 y3 y4 y5 y6 y7 y8 y9 y10 y11 y12 y13 y14 y15 y16 y17))⟩
def Z71_F : Nat → Fam := fun _ => noFam
def E_Y23 (N : Nat) : Ent := .of [Z70_W (Z70 N), Z71_W (Z71 N)]
def E_Z40_TG : Table := fun _ => noEnt
def E_Z40_T (N : Nat) : Table := E_Z40_TG
def Z40_W (f : Z40_Ty) : Var := ⟨[.v (.int .i64)], [], fun t u K => f t.1 (fun y0 => K (.sv (.v (.bool y0))) [])⟩
def Z40_F : Nat → Fam := fun _ => noFam
def E_Z40 (N : Nat) : Ent := .of [Z40_W (Z40 N)]
def E_Y1_TG : Table := fun _ => noEnt
def E_Y1_T (N : Nat) : Table := E_Y1_TG
def Z15_W (f : Z15_Ty) : Var := ⟨[.v (.ptr 0 0)], [.cells [.c (.wl 1 1), .c (.int .i64)], .rows .bool], fun t u K => f u.1.2.1 u.2.1 (fun y0 y1 y2 => K (.sv (.v (.bool y0))) [(.cells [(.c (.wl 1 1)), (.c (.int .i64 y1))]), (.cells [(row .bool y2)])])⟩
def Z15_F : Nat → Fam := fun _ => noFam
def E_Y1 (N : Nat) : Ent := .of [Z15_W (Z15 N)]
def E_Y29_TG : Table := fun _ => noEnt
def E_Y29_T (N : Nat) : Table := E_Y29_TG
def Z84_W (f : Z84_Ty) : Var := ⟨[.v (.ptr 0 0), .v (.int .u16)], G15, fun t u K => f t.2.1 u.1.2.2.1 u.1.2.2.2.1.1 u.1.2.2.2.1.2 u.1.2.2.2.2.1 u.1.2.2.2.2.2.1 u.1.2.2.2.2.2.2.2.2.2.2.1 u.1.2.2.2.2.2.2.2.2.2.2.2.1 u.1.2.2.2.2.2.2.2.2.2.2.2.2.1 u.2.1 u.2.2.1 u.2.2.2.1.1.1 u.2.2.2.1.1.2 u.2.2.2.2.1.2.2.2.1 u.2.2.2.2.2.1.2.1 u.2.2.2.2.2.2.1 u.2.2.2.2.2.2.2.1 u.2.2.2.2.2.2.2.2.1 u.2.2.2.2.2.2.2.2.2.1.2.1 u.2.2.2.2.2.2.2.2.2.2.1 u.2.2.2.2.2.2.2.2.2.2.2.1 u.2.2.2.2.2.2.2.2.2.2.2.2.1 (fun y0 y1 y2 y3 y4 y5 y6 y7 y8 y9 y10 y11 y12 y13 y14 y15 y16 y17 => K (.tup []) (G5 y0 y1 y2 y3 y4 y5 y6 y7 y8 y9 y10 y11 y12 y13 y14 y15 y16 y17))⟩
def Z84_F : Nat → Fam := fun _ => noFam
def Z82_W (f : Z82_Ty) : Var := ⟨[.v (.ptr 0 0), .v (.int .u16)], G1, fun t u K => f t.2.1 u.1.2.2.1 u.1.2.2.2.2.1 u.1.2.2.2.2.2.1 u.1.2.2.2.2.2.2.2.2.2.2.1 u.1.2.2.2.2.2.2.2.2.2.2.2.1 u.1.2.2.2.2.2.2.2.2.2.2.2.2.1 u.2.1 u.2.2.1 u.2.2.2.1 u.2.2.2.2.1.2.2.2.1 u.2.2.2.2.2.1.2.1 u.2.2.2.2.2.2.1 u.2.2.2.2.2.2.2.1 u.2.2.2.2.2.2.2.2.1 u.2.2.2.2.2.2.2.2.2.1.2.1 u.2.2.2.2.2.2.2.2.2.2.1 u.2.2.2.2.2.2.2.2.2.2.2.1 u.2.2.2.2.2.2.2.2.2.2.2.2.1 (fun y0 y1 y2 y3 y4 y5 y6 y7 y8 y9 y10 y11 y12 y13 y14 y15 y16 y17 => K (.tup []) (G5 y0 y1 y2 y3 y4 y5 y6 y7 y8 y9 y10 y11 y12 y13 y14 y15 y16 y17))⟩
def Z82_F : Nat → Fam := fun _ => noFam
def Z85_W (f : Z85_Ty) : Var := ⟨[.v (.ptr 0 0), .v (.int .u16)], G16, fun t u K => f t.2.1 u.1.1 u.1.2.1 u.1.2.2.1 u.1.2.2.2.1.1 u.1.2.2.2.1.2 u.1.2.2.2.2.1 u.1.2.2.2.2.2.1 u.1.2.2.2.2.2.2.2.2.1 u.1.2.2.2.2.2.2.2.2.2.2.1 u.1.2.2.2.2.2.2.2.2.2.2.2.1 u.1.2.2.2.2.2.2.2.2.2.2.2.2.1 u.2.1.1.1 u.2.1.1.2 u.2.2.1.2.2.2.1 u.2.2.2.1.2.1 u.2.2.2.2.1 u.2.2.2.2.2.1 u.2.2.2.2.2.2.1 u.2.2.2.2.2.2.2.1.2.1 u.2.2.2.2.2.2.2.2.1 u.2.2.2.2.2.2.2.2.2.1 (fun y0 y1 y2 y3 y4 y5 y6 y7 y8 y9 y10 y11 y12 y13 y14 y15 y16 y17 => K (.tup []) (G7 y0 y1 y2 y3 y4 y5 y6 y7 y8 y9 y10 y11 y12 y13 y14 y15 y16 y17))⟩
def Z85_F : Nat → Fam := fun _ => noFam
def Z83_W (f : Z83_Ty) : Var := ⟨[.v (.ptr 0 0), .v (.int .u16)], G0, fun t u K => f t.2.1 u.1.1 u.1.2.1 u.1.2.2.1 u.1.2.2.2.2.1 u.1.2.2.2.2.2.1 u.1.2.2.2.2.2.2.2.2.1 u.1.2.2.2.2.2.2.2.2.2.2.1 u.1.2.2.2.2.2.2.2.2.2.2.2.1 u.1.2.2.2.2.2.2.2.2.2.2.2.2.1 u.2.1 u.2.2.1.2.2.2.1 u.2.2.2.1.2.1 u.2.2.2.2.1 u.2.2.2.2.2.1 u.2.2.2.2.2.2.1 u.2.2.2.2.2.2.2.1.2.1 u.2.2.2.2.2.2.2.2.1 u.2.2.2.2.2.2.2.2.2.1 (fun y0 y1 y2 y3 y4 y5 y6 y7 y8 y9 y10 y11 y12 y13 y14 y15 y16 y17 => K (.tup []) (G7 y0 y1 y2 y3 y4 y5 y6 y7 y8 y9 y10 y11 y12 y13 y14 y15 y16 y17))⟩
def Z83_F : Nat → Fam := fun _ => noFam
def E_Y29 (N : Nat) : Ent := .of [Z84_W (Z84 N), Z82_W (Z82 N), Z85_W (Z85 N), Z83_W (Z83 N)]
def E_Y20_TG (c0 : Z84_Ty) (c1 : Z82_Ty) (c2 : Z85_Ty) (c3 : Z83_Ty) : Table := fun g => bif g.beq 71 then .of [Z84_W c0, Z82_W c1, Z85_W c2, Z83_W c3] else noEnt
def E_Y20_T (N : Nat) : Table := E_Y20_TG (@Z84 N) (@Z82 N) (@Z85 N) (@Z83 N)
def Z64_W (f : Z64_Ty) : Var := ⟨[.v (.ptr 0 0), .v (.int .u16)], G15, fun t u K => f t.2.1 u.1.2.2.1 u.1.2.2.2.1.1 u.1.2.2.2.1.2 u.1.2.2.2.2.1 u.1.2.2.2.2.2.1 u.1.2.2.2.2.2.2.2.2.2.2.1 u.1.2.2.2.2.2.2.2.2.2.2.2.1 u.1.2.2.2.2.2.2.2.2.2.2.2.2.1 u.2.1 u.2.2.1 u.2.2.2.1.1.1 u.2.2.2.1.1.2 u.2.2.2.2.1.2.2.2.1 u.2.2.2.2.2.1.2.1 u.2.2.2.2.2.2.1 u.2.2.2.2.2.2.2.1 u.2.2.2.2.2.2.2.2.1 u.2.2.2.2.2.2.2.2.2.1.2.1 u.2.2.2.2.2.2.2.2.2.2.1 u.2.2.2.2.2.2.2.2.2.2.2.1 u.2.2.2.2.2.2.2.2.2.2.2.2.1 (fun y0 y1 y2 y3 y4 y5 y6 y7 y8 y9 y10 y11 y12 y13 y14 y15 y16 y17 => K (.tup []) (G4 y0 y1 y2 y3 y4 y5 y6 y7 y8 y9 y10 y11 y12 y13 y14 y15 y16 y17))⟩
def Z64_F : Nat → Fam := fun _ => noFam
def Z62_W (f : Z62_Ty) : Var := ⟨[.v (.ptr 0 0), .v (.int .u16)], G1, fun t u K => f t.2.1 u.1.2.2.1 u.1.2.2.2.2.1 u.1.2.2.2.2.2.1 u.1.2.2.2.2.2.2.2.2.2.2.1 u.1.2.2.2.2.2.2.2.2.2.2.2.1 u.1.2.2.2.2.2.2.2.2.2.2.2.2.1 u.2.1 u.2.2.1 u.2.2.2.1 u.2.2.2.2.1.2.2.2.1 u.2.2.2.2.2.1.2.1 u.2.2.2.2.2.2.1 u.2.2.2.2.2.2.2.1 u.2.2.2.2.2.2.2.2.1 u.2.2.2.2.2.2.2.2.2.1.2.1 u.2.2.2.2.2.2.2.2.2.2.1 u.2.2.2.2.2.2.2.2.2.2.2.1 u.2.2.2.2.2.2.2.2.2.2.2.2.1 (fun y0 y1 y2 y3 y4 y5 y6 y7 y8 y9 y10 y11 y12 y13 y14 y15 y16 y17 => K (.tup []) (G4 y0 y1 y2 y3 y4 y5 y6 y7 y8 y9 y10 y11 y12 y13 y14 y15 y16 y17))⟩
def Z62_F : Nat → Fam := fun _ => noFam
def Z65_W (f : Z65_Ty) : Var := ⟨[.v (.ptr 0 0), .v (.int .u16)], G16, fun t u K => f t.2.1 u.1.1 u.1.2.1 u.1.2.2.1 u.1.2.2.2.1.1 u.1.2.2.2.1.2 u.1.2.2.2.2.1 u.1.2.2.2.2.2.1 u.1.2.2.2.2.2.2.2.2.1 u.1.2.2.2.2.2.2.2.2.2.2.1 u.1.2.2.2.2.2.2.2.2.2.2.2.1 u.1.2.2.2.2.2.2.2.2.2.2.2.2.1 u.2.1.1.1 u.2.1.1.2 u.2.2.1.2.2.2.1 u.2.2.2.1.2.1 u.2.2.2.2.1 u.2.2.2.2.2.1 u.2.2.2.2.2.2.1 u.2.2.2.2.2.2.2.1.2.1 u.2.2.2.2.2.2.2.2.1 u.2.2.2.2.2.2.2.2.2.1 (fun y0 y1 y2 y3 y4 y5 y6 y7 y8 y9 y10 y11 y12 y13 y14 y15 y16 y17 => K (.tup []) (G6 y0 y1 y2 y3 y4 y5 y6 y7 y8 y9 y10 y11 y12 y13 y14 y15 y16 y17))⟩
def Z65_F : Nat → Fam := fun _ => noFam
def Z63_W (f : Z63_Ty) : Var := ⟨[.v (.ptr 0 0), .v (.int .u16)], G0, fun t u K => f t.2.1 u.1.1 u.1.2.1 u.1.2.2.1 u.1.2.2.2.2.1 u.1.2.2.2.2.2.1 u.1.2.2.2.2.2.2.2.2.1 u.1.2.2.2.2.2.2.2.2.2.2.1 u.1.2.2.2.2.2.2.2.2.2.2.2.1 u.1.2.2.2.2.2.2.2.2.2.2.2.2.1 u.2.1 u.2.2.1.2.2.2.1 u.2.2.2.1.2.1 u.2.2.2.2.1 u.2.2.2.2.2.1 u.2.2.2.2.2.2.1 u.2.2.2.2.2.2.2.1.2.1 u.2.2.2.2.2.2.2.2.1 u.2.2.2.2.2.2.2.2.2.1 (fun y0 y1 y2 y3 y4 y5 y6 y7 y8 y9 y10 y11 y12 y13 y14 y15 y16 y17 => K (.tup []) (G6 y0 y1 y2 y3 y4 y5 y6 y7 y8 y9 y10 y11 y12 y13 y14 y15 y16 y17))⟩
def Z63_F : Nat → Fam := fun _ => noFam
def E_Y20 (N : Nat) : Ent := .of [Z64_W (Z64 N), Z62_W (Z62 N), Z65_W (Z65 N), Z63_W (Z63 N)]
def E_Y28_TG : Table := fun _ => noEnt
def E_Y28_T (N : Nat) : Table := E_Y28_TG
def Z80_W (f : Z80_Ty) : Var := ⟨[.v (.ptr 0 0)], G1, fun t u K => f u.1.2.2.1 u.1.2.2.2.2.1 u.1.2.2.2.2.2.1 u.1.2.2.2.2.2.2.2.2.2.2.1 u.1.2.2.2.2.2.2.2.2.2.2.2.1 u.1.2.2.2.2.2.2.2.2.2.2.2.2.1 u.2.1 u.2.2.1 u.2.2.2.1 u.2.2.2.2.1.2.2.2.1 u.2.2.2.2.2.1.2.1 u.2.2.2.2.2.2.1 u.2.2.2.2.2.2.2.1 u.2.2.2.2.2.2.2.2.1 u.2.2.2.2.2.2.2.2.2.1.2.1 u.2.2.2.2.2.2.2.2.2.2.1 u.2.2.2.2.2.2.2.2.2.2.2.1 u.2.2.2.2.2.2.2.2.2.2.2.2.1 (fun y0 y1 y2 y3 y4 y5 y6 y7 y8 y9 y10 y11 y12 y13 y14 y15 y16 y17 y18 => K (.sv (.v (.int .u16 y0))) (G5 y1 y2 y3 y4 y5 y6 y7 y8 y9 y10 y11 y12 y13 y14 y15 y16 y17 y18))⟩
def Z80_F : Nat → Fam := fun _ => noFam
def Z81_W (f : Z81_Ty) : Var := ⟨[.v (.ptr 0 0)], G0, fun t u K => f u.1.1 u.1.2.1 u.1.2.2.1 u.1.2.2.2.2.1 u.1.2.2.2.2.2.1 u.1.2.2.2.2.2.2.2.2.1 u.1.2.2.2.2.2.2.2.2.2.2.1 u.1.2.2.2.2.2.2.2.2.2.2.2.1 u.1.2.2.2.2.2.2.2.2.2.2.2.2.1 u.2.1 u.2.2.1.2.2.2.1 u.2.2.2.1.2.1 u.2.2.2.2.1 u.2.2.2.2.2.1 u.2.2.2.2.2.2.1 u.2.2.2.2.2.2.2.1.2.1 u.2.2.2.2.2.2.2.2.1 u.2.2.2.2.2.2.2.2.2.1 (fun y0 y1 y2 y3 y4 y5 y6 y7 y8 y9 y10 y11 y12 y13 y14 y15 y16 y17 y18 => K (.sv (.v (.int .u16 y0))) (G7 y1 y2 y3 y4 y5 y6 y7 y8 y9 y10 y11 y12 y13 y14 y15 y16 y17 y18))⟩
def Z81_F : Nat → Fam := fun _ => noFam
def E_Y28 (N : Nat) : Ent := .of [Z80_W (Z80 N), Z81_W (Z81 N)]
def E_Z97_TG : Table := fun _ => noEnt
def E_Z97_T (N : Nat) : Table := E_Z97_TG
def Z97_W (f : Z97_Ty) : Var := ⟨[.v (.int .i64)], [], fun t u K => f t.1 (fun y0 => K (.sv (.v (.int .i64 y0))) [])⟩
def Z97_F : Nat → Fam := fun _ => noFam
def E_Z97 (N : Nat) : Ent := .of [Z97_W (Z97 N)]
def E_Z61_TG (c0 : Z97_Ty) : Table := fun g => bif g.beq 113 then .of [Z97_W c0] else noEnt
def E_Z61_T (N : Nat) : Table := E_Z61_TG (@Z97 N)
def Z61_W (f : Z61_Ty) : Var := ⟨[.v (.int .i64)], [], fun t u K => f t.1 (fun y0 => K (.sv (.v (.int .i64 y0))) [])⟩
def Z61_F : Nat → Fam := fun _ => noFam
def E_Z61 (N : Nat) : Ent := .of [Z61_W (Z61 N)]
def E_Z120_TG : Table := fun _ => noEnt
def E_Z120_T (N : Nat) : Table := E_Z120_TG
def Z120_W (f : Z120_Ty) : Var := ⟨[.v (.int .i64)], [], fun t u K => f t.1 (fun y0 => K (.sv (.v (.bool y0))) [])⟩
def Z120_F : Nat → Fam := fun _ => noFam
def E_Z120 (N : Nat) : Ent := .of [Z120_W (Z120 N)]
def E_Z119_TG (c0 : Z120_Ty) : Table := fun g => bif g.beq 111 then .of [Z120_W c0] else noEnt
def E_Z119_T (N : Nat) : Table := E_Z119_TG (@Z120 N)
def Z119_W (f : Z119_Ty) : Var := ⟨[.v (.int .i64)], [], fun t u K => f t.1 (fun y0 => K (.sv (.v (.int .u16 y0))) [])⟩
def Z119_F : Nat → Fam := fun _ => noFam
def E_Z119 (N : Nat) : Ent := .of [Z119_W (Z119 N)]
def E_Z121_TG (c0 : Z119_Ty) : Table := fun g => bif g.beq 77 then .of [Z119_W c0] else noEnt
def E_Z121_T (N : Nat) : Table := E_Z121_TG (@Z119 N)
def Z121_W (f : Z121_Ty) : Var := ⟨[.v (.int .i64), .v (.int .u16), .v (.int .u16)], [], fun t u K => f t.1 t.2.1 t.2.2.1 (fun y0 => K (.sv (.v (.int .u16 y0))) [])⟩
def Z121_F : Nat → Fam := fun _ => noFam
def E_Z121 (N : Nat) : Ent := .of [Z121_W (Z121 N)]
def E_Z123_TG : Table := fun _ => noEnt
def E_Z123_T (N : Nat) : Table := E_Z123_TG
def Z123_W (f : Z123_Ty) : Var := ⟨[.v (.int .u16), .v (.int .u16)], [], fun t u K => f t.1 t.2.1 (fun y0 => K (.sv (.v (.int .u16 y0))) [])⟩
def Z123_F : Nat → Fam := fun _ => noFam
def E_Z123 (N : Nat) : Ent := .of [Z123_W (Z123 N)]
def E_Z124_TG : Table := fun _ => noEnt
def E_Z124_T (N : Nat) : Table := E_Z124_TG
def Z124_W (f : Z124_Ty) : Var := ⟨[.v .bool], [], fun t u K => f t.1 (fun y0 => K (.sv (.v (.int .u16 y0))) [])⟩
def Z124_F : Nat → Fam := fun _ => noFam
def E_Z124 (N : Nat) : Ent := .of [Z124_W (Z124 N)]
def E_Z122_TG (c0 : Z124_Ty) (c1 : Z123_Ty) (c2 : Z121_Ty) : Table := fun g => bif g.beq 133 then .of [Z124_W c0] else bif g.beq 132 then .of [Z123_W c1] else bif g.beq 131 then .of [Z121_W c2] else noEnt
def E_Z122_T (N : Nat) : Table := E_Z122_TG (@Z124 N) (@Z123 N) (@Z121 N)
def Z122_W (f : Z122_Ty) : Var := ⟨[.v (.int .i64), .v (.int .i64), .v (.int .u16), .v (.int .u16)], [], fun t u K => f t.1 t.2.1 t.2.2.1 t.2.2.2.1 (fun y0 y1 => K (.tup [(.v (.int .u16 y0)), (.v (.bool y1))]) [])⟩
def Z122_F : Nat → Fam := fun _ => noFam
def E_Z122 (N : Nat) : Ent := .of [Z122_W (Z122 N)]
def E_Z118_TG (c0 : Z122_Ty) (c1 : Z119_Ty) (c2 : Z120_Ty) : Table := fun g => bif g.beq 112 then .of [Z122_W c0] else bif g.beq 77 then .of [Z119_W c1] else bif g.beq 111 then .of [Z120_W c2] else noEnt
def E_Z118_T (N : Nat) : Table := E_Z118_TG (@Z122 N) (@Z119 N) (@Z120 N)
def Z118_W (f : Z118_Ty) : Var := ⟨[.v (.int .i64), .v (.int .i64), .v (.int .u16), .v (.int .u16)], [], fun t u K => f t.1 t.2.1 t.2.2.1 t.2.2.2.1 (fun y0 y1 => K (.tup [(.v (.int .u16 y0)), (.v (.int .i64 y1))]) [])⟩
def Z118_F : Nat → Fam := fun _ => noFam
def E_Z118 (N : Nat) : Ent := .of [Z118_W (Z118 N)]
def E_Y31_TG (c0 : Z84_Ty) (c1 : Z82_Ty) (c2 : Z85_Ty) (c3 : Z83_Ty) (c4 : Z118_Ty) (c5 : Z61_Ty) (c6 : Z70_Ty) (c7 : Z71_Ty) (c8 : Z80_Ty) (c9 : Z81_Ty) : Table := fun g => bif g.beq 71 then .of [Z84_W c0, Z82_W c1, Z85_W c2, Z83_W c3] else bif g.beq 73 then .of [Z118_W c4] else bif g.beq 74 then .of [Z61_W c5] else bif g.beq 20 then .of [Z70_W c6, Z71_W c7] else bif g.beq 72 then .of [Z80_W c8, Z81_W c9] else noEnt
def E_Y31_T (N : Nat) : Table := E_Y31_TG (@Z84 N) (@Z82 N) (@Z85 N) (@Z83 N) (@Z118 N) (@Z61 N) (@Z70 N) (@Z71 N) (@Z80 N) (@Z81 N)
def Z88_W (f : Z88_Ty) : Var := ⟨[.v (.ptr 0 0), .v (.int .i64)], G1, fun t u K => f t.2.1 u.1.2.2.1 u.1.2.2.2.2.1 u.1.2.2.2.2.2.1 u.1.2.2.2.2.2.2.2.2.2.2.1 u.1.2.2.2.2.2.2.2.2.2.2.2.1 u.1.2.2.2.2.2.2.2.2.2.2.2.2.1 u.2.1 u.2.2.1 u.2.2.2.1 u.2.2.2.2.1.2.2.2.1 u.2.2.2.2.2.1.2.1 u.2.2.2.2.2.2.1 u.2.2.2.2.2.2.2.1 u.2.2.2.2.2.2.2.2.1 u.2.2.2.2.2.2.2.2.2.1.2.1 u.2.2.2.2.2.2.2.2.2.2.1 u.2.2.2.2.2.2.2.2.2.2.2.1 u.2.2.2.2.2.2.2.2.2.2.2.2.1 (fun y0 y1 y2 y3 y4 y5 y6 y7 y8 y9 y10 y11 y12 y13 y14 y15 y16 y17 => K (.tup []) (G5 y0 y1 y2 y3 y4 y5 y6 y7 y8 y9 y10 y11 y12 y13 y14 y15 y16 y17))⟩
def Z88_F : Nat → Fam := fun _ => noFam
def Z89_W (f : Z89_Ty) : Var := ⟨[.v (.ptr 0 0), .v (.int .i64)], G0, fun t u K => f t.2.1 u.1.1 u.1.2.1 u.1.2.2.1 u.1.2.2.2.2.1 u.1.2.2.2.2.2.1 u.1.2.2.2.2.2.2.2.2.1 u.1.2.2.2.2.2.2.2.2.2.2.1 u.1.2.2.2.2.2.2.2.2.2.2.2.1 u.1.2.2.2.2.2.2.2.2.2.2.2.2.1 u.2.1 u.2.2.1.2.2.2.1 u.2.2.2.1.2.1 u.2.2.2.2.1 u.2.2.2.2.2.1 u.2.2.2.2.2.2.1 u.2.2.2.2.2.2.2.1.2.1 u.2.2.2.2.2.2.2.2.1 u.2.2.2.2.2.2.2.2.2.1 (fun y0 y1 y2 y3 y4 y5 y6 y7 y8 y9 y10 y11 y12 y13 y14 y15 y16 y17 => K (.tup []) (G7 y0 y1 y2 y3 y4 y5 y6 y7 y8 y9 y10 y11 y12 y13 y14 y15 y16 y17))⟩
def Z89_F : Nat → Fam := fun _ => noFam
def E_Y31 (N : Nat) : Ent := .of [Z88_W (Z88 N), Z89_W (Z89 N)]
def E_Z98_TG : Table := fun _ => noEnt
def E_Z98_T (N : Nat) : Table := E_Z98_TG
def Z98_W (f : Z98_Ty) : Var := ⟨[.v .bool], [], fun t u K => f t.1 (fun y0 => K (.sv (.v (.int .u16 y0))) [])⟩
def Z98_F : Nat → Fam := fun _ => noFam
def E_Z98 (N : Nat) : Ent := .of [Z98_W (Z98 N)]
def E_Y24_TG (c0 : Z84_Ty) (c1 : Z82_Ty) (c2 : Z85_Ty) (c3 : Z83_Ty) (c4 : Z70_Ty) (c5 : Z71_Ty) (c6 : Z80_Ty) (c7 : Z81_Ty) : Table := fun g => bif g.beq 71 then .of [Z84_W c0, Z82_W c1, Z85_W c2, Z83_W c3] else bif g.beq 20 then .of [Z70_W c4, Z71_W c5] else bif g.beq 72 then .of [Z80_W c6, Z81_W c7] else noEnt
def E_Y24_T (N : Nat) : Table := E_Y24_TG (@Z84 N) (@Z82 N) (@Z85 N) (@Z83 N) (@Z70 N) (@Z71 N) (@Z80 N) (@Z81 N)
def Z72_W (f : Z72_Ty) : Var := ⟨[.v (.ptr 0 0), .v (.int .i64)], G1, fun t u K => f t.2.1 u.1.2.2.1 u.1.2.2.2.2.1 u.1.2.2.2.2.2.1 u.1.2.2.2.2.2.2.2.2.2.2.1 u.1.2.2.2.2.2.2.2.2.2.2.2.1 u.1.2.2.2.2.2.2.2.2.2.2.2.2.1 u.2.1 u.2.2.1 u.2.2.2.1 u.2.2.2.2.1.2.2.2.1 u.2.2.2.2.2.1.2.1 u.2.2.2.2.2.2.1 u.2.2.2.2.2.2.2.1 u.2.2.2.2.2.2.2.2.1 u.2.2.2.2.2.2.2.2.2.1.2.1 u.2.2.2.2.2.2.2.2.2.2.1 u.2.2.2.2.2.2.2.2.2.2.2.1 u.2.2.2.2.2.2.2.2.2.2.2.2.1 (fun y0 y1 y2 y3 y4 y5 y6 y7 y8 y9 y10 y11 y12 y13 y14 y15 y16 y17 => K (.tup []) (G5 y0 y1 y2 y3 y4 y5 y6 y7 y8 y9 y10 y11 y12 y13 y14 y15 y16 y17))⟩
def Z72_F : Nat → Fam := fun _ => noFam
def Z73_W (f : Z73_Ty) : Var := ⟨[.v (.ptr 0 0), .v (.int .i64)], G0, fun t u K => f t.2.1 u.1.1 u.1.2.1 u.1.2.2.1 u.1.2.2.2.2.1 u.1.2.2.2.2.2.1 u.1.2.2.2.2.2.2.2.2.1 u.1.2.2.2.2.2.2.2.2.2.2.1 u.1.2.2.2.2.2.2.2.2.2.2.2.1 u.1.2.2.2.2.2.2.2.2.2.2.2.2.1 u.2.1 u.2.2.1.2.2.2.1 u.2.2.2.1.2.1 u.2.2.2.2.1 u.2.2.2.2.2.1 u.2.2.2.2.2.2.1 u.2.2.2.2.2.2.2.1.2.1 u.2.2.2.2.2.2.2.2.1 u.2.2.2.2.2.2.2.2.2.1 (fun y0 y1 y2 y3 y4 y5 y6 y7 y8 y9 y10 y11 y12 y13 y14 y15 y16 y17 => K (.tup []) (G7 y0 y1 y2 y3 y4 y5 y6 y7 y8 y9 y10 y11 y12 y13 y14 y15 y16 y17))⟩
def Z73_F : Nat → Fam := fun _ => noFam
def E_Y24 (N : Nat) : Ent := .of [Z72_W (Z72 N), Z73_W (Z73 N)]
def E_Y27_TG (c0 : Z70_Ty) (c1 : Z71_Ty) (c2 : Z119_Ty) (c3 : Z72_Ty) (c4 : Z73_Ty) (c5 : Z98_Ty) (c6 : Z80_Ty) (c7 : Z81_Ty) (c8 : Z84_Ty) (c9 : Z82_Ty) (c10 : Z85_Ty) (c11 : Z83_Ty) : Table := fun g => bif g.beq 20 then .of [Z70_W c0, Z71_W c1] else bif g.beq 77 then .of [Z119_W c2] else bif g.beq 76 then .of [Z72_W c3, Z73_W c4] else bif g.beq 75 then .of [Z98_W c5] else bif g.beq 72 then .of [Z80_W c6, Z81_W c7] else bif g.beq 71 then .of [Z84_W c8, Z82_W c9, Z85_W c10, Z83_W c11] else noEnt
def E_Y27_T (N : Nat) : Table := E_Y27_TG (@Z70 N) (@Z71 N) (@Z119 N) (@Z72 N) (@Z73 N) (@Z98 N) (@Z80 N) (@Z81 N) (@Z84 N) (@Z82 N) (@Z85 N) (@Z83 N)
def Z79_W (f : Z79_Ty) : Var := ⟨[.v (.ptr 0 0), .agg [.c (.int .i64), .c (.int .i64)]], G1, fun t u K => f t.2.1.1 t.2.1.2.1 u.1.2.2.1 u.1.2.2.2.2.1 u.1.2.2.2.2.2.1 u.1.2.2.2.2.2.2.2.2.2.2.1 u.1.2.2.2.2.2.2.2.2.2.2.2.1 u.1.2.2.2.2.2.2.2.2.2.2.2.2.1 u.2.1 u.2.2.1 u.2.2.2.1 u.2.2.2.2.1.2.2.2.1 u.2.2.2.2.2.1.2.1 u.2.2.2.2.2.2.1 u.2.2.2.2.2.2.2.1 u.2.2.2.2.2.2.2.2.1 u.2.2.2.2.2.2.2.2.2.1.2.1 u.2.2.2.2.2.2.2.2.2.2.1 u.2.2.2.2.2.2.2.2.2.2.2.1 u.2.2.2.2.2.2.2.2.2.2.2.2.1 (fun y0 y1 y2 y3 y4 y5 y6 y7 y8 y9 y10 y11 y12 y13 y14 y15 y16 y17 y18 => K (.sv (.v (.bool y0))) (G4 y1 y2 y3 y4 y5 y6 y7 y8 y9 y10 y11 y12 y13 y14 y15 y16 y17 y18))⟩
def Z79_F : Nat → Fam := fun _ => noFam
def Z78_W (f : Z78_Ty) : Var := ⟨[.v (.ptr 0 0), .agg [.c (.int .i64), .c (.int .i64)]], G0, fun t u K => f t.2.1.1 t.2.1.2.1 u.1.1 u.1.2.1 u.1.2.2.1 u.1.2.2.2.2.1 u.1.2.2.2.2.2.1 u.1.2.2.2.2.2.2.2.2.1 u.1.2.2.2.2.2.2.2.2.2.2.1 u.1.2.2.2.2.2.2.2.2.2.2.2.1 u.1.2.2.2.2.2.2.2.2.2.2.2.2.1 u.2.1 u.2.2.1.2.2.2.1 u.2.2.2.1.2.1 u.2.2.2.2.1 u.2.2.2.2.2.1 u.2.2.2.2.2.2.1 u.2.2.2.2.2.2.2.1.2.1 u.2.2.2.2.2.2.2.2.1 u.2.2.2.2.2.2.2.2.2.1 (fun y0 y1 y2 y3 y4 y5 y6 y7 y8 y9 y10 y11 y12 y13 y14 y15 y16 y17 y18 => K (.sv (.v (.bool y0))) (G6 y1 y2 y3 y4 y5 y6 y7 y8 y9 y10 y11 y12 y13 y14 y15 y16 y17 y18))⟩
def Z78_F : Nat → Fam := fun _ => noFam
def E_Y27 (N : Nat) : Ent := .of [Z79_W (Z79 N), Z78_W (Z78 N)]
def E_Y25_TG : Table := fun _ => noEnt
def E_Y25_T (N : Nat) : Table := E_Y25_TG
def Z74_W (f : Z74_Ty) : Var := ⟨[.v (.ptr 0 0), .v (.int .i64)], G1, fun t u K => f t.2.1 u.1.2.2.1 u.1.2.2.2.2.1 u.1.2.2.2.2.2.1 u.1.2.2.2.2.2.2.2.2.2.2.1 u.1.2.2.2.2.2.2.2.2.2.2.2.1 u.1.2.2.2.2.2.2.2.2.2.2.2.2.1 u.2.1 u.2.2.1 u.2.2.2.1 u.2.2.2.2.1.2.2.2.1 u.2.2.2.2.2.1.2.1 u.2.2.2.2.2.2.1 u.2.2.2.2.2.2.2.1 u.2.2.2.2.2.2.2.2.1 u.2.2.2.2.2.2.2.2.2.1.2.1 u.2.2.2.2.2.2.2.2.2.2.1 u.2.2.2.2.2.2.2.2.2.2.2.1 u.2.2.2.2.2.2.2.2.2.2.2.2.1 (fun y0 y1 y2 y3 y4 y5 y6 y7 y8 y9 y10 y11 y12 y13 y14 y15 y16 y17 y18 => K (.sv (.v (.str y0))) (G14 y1 y2 y3 y4 y5 y6 y7 y8 y9 y10 y11 y12 y13 y14 y15 y16 y17 y18))⟩
def Z74_F : Nat → Fam := fun _ => noFam
def Z75_W (f : Z75_Ty) : Var := ⟨[.v (.ptr 0 0), .v (.int .i64)], G0, fun t u K => f t.2.1 u.1.1 u.1.2.1 u.1.2.2.1 u.1.2.2.2.2.1 u.1.2.2.2.2.2.1 u.1.2.2.2.2.2.2.2.2.1 u.1.2.2.2.2.2.2.2.2.2.2.1 u.1.2.2.2.2.2.2.2.2.2.2.2.1 u.1.2.2.2.2.2.2.2.2.2.2.2.2.1 u.2.1 u.2.2.1.2.2.2.1 u.2.2.2.1.2.1 u.2.2.2.2.1 u.2.2.2.2.2.1 u.2.2.2.2.2.2.1 u.2.2.2.2.2.2.2.1.2.1 u.2.2.2.2.2.2.2.2.1 u.2.2.2.2.2.2.2.2.2.1 (fun y0 y1 y2 y3 y4 y5 y6 y7 y8 y9 y10 y11 y12 y13 y14 y15 y16 y17 y18 => K (.sv (.v (.str y0))) (G8 y1 y2 y3 y4 y5 y6 y7 y8 y9 y10 y11 y12 y13 y14 y15 y16 y17 y18))⟩
def Z75_F : Nat → Fam := fun _ => noFam
def E_Y25 (N : Nat) : Ent := .of [Z74_W (Z74 N), Z75_W (Z75 N)]
def E_Z52_TG (c0 : Z0_Ty) : Table := fun g => bif g.beq 62 then .of [Z0_W c0] else noEnt
def E_Z52_T (N : Nat) : Table := E_Z52_TG (@Z0 N)
def Z52_W (f : Z52_Ty) : Var := ⟨[.v .str], [], fun t u K => f t.1 (fun y0 => K (.sv (.v (.bool y0))) [])⟩
def Z52_F : Nat → Fam := fun _ => noFam
def E_Z52 (N : Nat) : Ent := .of [Z52_W (Z52 N)]
def E_Z53_TG (c0 : Z104_Ty) (c1 : Z52_Ty) : Table := fun g => bif g.beq 101 then .of [Z104_W c0] else bif g.beq 109 then .of [Z52_W c1] else noEnt
def E_Z53_T (N : Nat) : Table := E_Z53_TG (@Z104 N) (@Z52 N)
def Z53_W (f : Z53_Ty) : Var := ⟨[.v .str], [], fun t u K => f t.1 (fun y0 y1 => K (.tup [(.v (.str y0)), (.v (.str y1))]) [])⟩
def Z53_F : Nat → Fam := fun _ => noFam
def E_Z53 (N : Nat) : Ent := .of [Z53_W (Z53 N)]
def E_Z117_TG (c0 : Z53_Ty) : Table := fun g => bif g.beq 139 then .of [Z53_W c0] else noEnt
def E_Z117_T (N : Nat) : Table := E_Z117_TG (@Z53 N)
def Z117_W (f : Z117_Ty) : Var := ⟨[.v .str], [], fun t u K => f t.1 (fun y0 y1 => K (.sv (.agg [(.c (.str y0)), (.c (.str y1))])) [])⟩
def Z117_F : Nat → Fam := fun _ => noFam
def E_Z117 (N : Nat) : Ent := .of [Z117_W (Z117 N)]
def E_Y41_TG : Table := fun _ => noEnt
def E_Y41_T (N : Nat) : Table := E_Y41_TG
def Z115_W (f : Z115_Ty) : Var := ⟨[.v (.ptr 0 0), .agg [.c .str, .c .str]], G13, fun t u K => f t.2.1.1 t.2.1.2.1 u.1.2.1 u.2.1 (fun y0 y1 y2 => K (.sv (.v (.int .u16 y0))) (G10 y1 y2))⟩
def Z115_F : Nat → Fam := fun _ => noFam
def E_Y41 (N : Nat) : Ent := .of [Z115_W (Z115 N)]
def E_Y42_TG (c0 : Z115_Ty) (c1 : Z117_Ty) : Table := fun g => bif g.beq 130 then .of [Z115_W c0] else bif g.beq 129 then .of [Z117_W c1] else noEnt
def E_Y42_T (N : Nat) : Table := E_Y42_TG (@Z115 N) (@Z117 N)
def Z116_W (f : Z116_Ty) : Var := ⟨[.v (.ptr 0 0), .v .str], G13, fun t u K => f t.2.1 u.1.2.1 u.2.1 (fun y0 y1 y2 y3 y4 => K (.tup [(.agg [(.c (.int .i64 y0)), (.c (.bool y1))]), (.v (.int .u16 y2))]) (G10 y3 y4))⟩
def Z116_F : Nat → Fam := fun _ => noFam
def E_Y42 (N : Nat) : Ent := .of [Z116_W (Z116 N)]
def E_Y37_TG (c0 : Z116_Ty) : Table := fun g => bif g.beq 134 then .of [Z116_W c0] else noEnt
def E_Y37_T (N : Nat) : Table := E_Y37_TG (@Z116 N)
def Z111_W (f : Z111_Ty) : Var := ⟨[.v (.ptr 0 0), .v .str], G13, fun t u K => f t.2.1 u.1.2.1 u.2.1 (fun y0 y1 y2 y3 y4 => K (.tup [(.v (.int .i64 y0)), (.v (.bool y1)), (.v (.int .u16 y2))]) (G10 y3 y4))⟩
def Z111_F : Nat → Fam := fun _ => noFam
def E_Y37 (N : Nat) : Ent := .of [Z111_W (Z111 N)]
def E_Y34_TG : Table := fun _ => noEnt
def E_Y34_T (N : Nat) : Table := E_Y34_TG
def Z103_W (f : Z103_Ty) : Var := ⟨[.v (.sl 0 3 1 false true), .v (.int .i64)], G3, fun t u K => f t.1.1 t.1.2 t.2.1 u.1.2.2.2.1 u.2.1.2.1 u.2.2.1 u.2.2.2.1 u.2.2.2.2.1 (fun y0 y1 y2 y3 y4 y5 => K (.sv (.v (.int .i64 y0))) (G2 y1 y2 y3 y4 y5))⟩
def Z103_v0_0 (w : Z103_l0_Ty) : LVar := ⟨[.sv (.v (.sl 0 3 1 false true)), .sv (.v (.int .i64)), .sv (.v (.int .i64)), .sv (.v (.int .i64))], G3, fun n t u K => w (fun y0 y1 y2 y3 y4 y5 => K .ret [(.sv (.v (.int .i64 y0)))] (G2 y1 y2 y3 y4 y5)) (fun y0 y1 y2 y3 y4 => K (.exit 0) [.undef] (G2 y0 y1 y2 y3 y4)) n t.1.1 t.1.2 t.2.1 t.2.2.1 t.2.2.2.1 u.1.2.2.2.1 u.2.1.2.1 u.2.2.1 u.2.2.2.1 u.2.2.2.2.1⟩
def Z103_F0 (w : Z103_l0_Ty) : Fam := ⟨⟨false, [0, 1, 7, 8], [4], ⟨[], [], []⟩, ⟨[], [], []⟩⟩, [Z103_v0_0 w]⟩
def Z103_F (w0 : Z103_l0_Ty) : Nat → Fam := fun i => bif i.beq 3 then Z103_F0 w0 else noFam
def E_Y34 (N : Nat) : Ent := .of [Z103_W (Z103 N)]
def E_Y16_TG (c0 : Z103_Ty) : Table := fun g => bif g.beq 135 then .of [Z103_W c0] else noEnt
def E_Y16_T (N : Nat) : Table := E_Y16_TG (@Z103 N)
def Z34_W (f : Z34_Ty) : Var := ⟨[.v (.ptr 0 0)], G3, fun t u K => f u.1.2.2.2.1 u.2.1.2.1 u.2.2.1 u.2.2.2.1 u.2.2.2.2.1 (fun y0 y1 y2 y3 y4 y5 y6 => K (.tup [(.v (.int .i64 y0)), (.v (.bool y1))]) (G2 y2 y3 y4 y5 y6))⟩
def Z34_F : Nat → Fam := fun _ => noFam
def E_Y16 (N : Nat) : Ent := .of [Z34_W (Z34 N)]
def maps_Clone_map_tree_keytree_entry_tree_key_tree_entry_df6b_W (f : maps_Clone_map_tree_keytree_entry_tree_key_tree_entry_df6b_Ty) : Var := ⟨[.v (.map 0)], [.map P3 P1 true true], fun t u K => f u.1 (fun y0 y1 => K (.sv (.v (.map 1))) [(.map P3 P1 true true y0), (.map P3 P1 true true y1)])⟩
def E_maps_Clone_map_tree_keytree_entry_tree_key_tree_entry : Ent := .of [maps_Clone_map_tree_keytree_entry_tree_key_tree_entry_df6b_W @maps_Clone_map_tree_keytree_entry_tree_key_tree_entry_df6b]
def E_Y35_TG (c0 : maps_Clone_map_tree_keytree_entry_tree_key_tree_entry_df6b_Ty) : Table := fun g => bif g.beq 140 then .of [maps_Clone_map_tree_keytree_entry_tree_key_tree_entry_df6b_W c0] else noEnt
def E_Y35_T (N : Nat) : Table := E_Y35_TG @maps_Clone_map_tree_keytree_entry_tree_key_tree_entry_df6b
def Z109_W (f : Z109_Ty) : Var := ⟨[.v (.ptr 0 0)], G13, fun t u K => f u.1.2.1 u.2.1 (fun y0 y1 y2 y3 => K (.sv (.v (.ptr 2 0))) [(.cells [(.c (.map 1)), (.c (.int .i64 y0))]), (.map P3 P1 true true y1), (.cells [(.c (.map 3)), (.c (.int .i64 y2))]), (.map P3 P1 true true y3)])⟩
def Z109_F : Nat → Fam := fun _ => noFam
def E_Y35 (N : Nat) : Ent := .of [Z109_W (Z109 N)]
def E_Y38_TG (c0 : Z115_Ty) (c1 : Z117_Ty) : Table := fun g => bif g.beq 130 then .of [Z115_W c0] else bif g.beq 129 then .of [Z117_W c1] else noEnt
def E_Y38_T (N : Nat) : Table := E_Y38_TG (@Z115 N) (@Z117 N)
def Z112_W (f : Z112_Ty) : Var := ⟨[.v (.ptr 0 0), .v .str, .v .bool], G13, fun t u K => f t.2.1 t.2.2.1 u.1.2.1 u.2.1 (fun y0 y1 y2 y3 => K (.tup [(.v (.int .i64 y0)), (.v (.int .u16 y1))]) (G10 y2 y3))⟩
def Z112_F : Nat → Fam := fun _ => noFam
def E_Y38 (N : Nat) : Ent := .of [Z112_W (Z112 N)]
def E_Z107_TG (c0 : Z112_Ty) (c1 : Z52_Ty) : Table := fun g => bif g.beq 110 then .of [Z112_W c0] else bif g.beq 109 then .of [Z52_W c1] else noEnt
def E_Z107_T (N : Nat) : Table := E_Z107_TG (@Z112 N) (@Z52 N)
def Z108_W (f : Z108_Ty) : Var := ⟨[.v .nils], [], fun t u K => f (fun y0 y1 => K (.tup [(.v (.ptr 0 0)), (.v (.int .i64 0))]) (G10 y0 y1))⟩
def Z108_v0_0 (w : Z108_l0_Ty) : LVar := ⟨[.sv (.v (.ptr 0 0)), .sv (.v .nils), .sv (.v (.int .i64)), .sv (.v (.int .i64))], G13, fun n t u K => w (fun y0 y1 => K (.exit 0) [.undef, .undef, (.sv (.v (.ptr 0 0)))] (G10 y0 y1)) n t.2.2.1 t.2.2.2.1 u.1.2.1 u.2.1⟩
def Z108_F0 (w : Z108_l0_Ty) : Fam := ⟨⟨false, [4, 15, 16, 17], [2, 3, 4], ⟨[], [], []⟩, ⟨[], [], []⟩⟩, [Z108_v0_0 w]⟩
def Z108_F (w0 : Z108_l0_Ty) : Nat → Fam := fun i => bif i.beq 7 then Z108_F0 w0 else noFam
def Z107_W (f : Z107_Ty) : Var := ⟨[.v (.isl P4)], [], fun t u K => f t.1 (K (.tup [(.v .nilp), (.v (.int .i64 11))]) []) (fun y0 y1 => K (.tup [(.v (.ptr 0 0)), (.v (.int .i64 0))]) (G10 y0 y1))⟩
def Z107_v0_0 (w : Z107_l0_Ty) : LVar := ⟨[.sv (.v (.ptr 0 0)), .sv (.v (.isl P4)), .sv (.v (.int .i64)), .sv (.v (.int .i64))], G13, fun n t u K => w (fun y0 y1 => K .ret [(.sv (.v .nilp)), (.sv (.v (.int .i64 11))), (.sv (.v (.ptr 0 0)))] (G10 y0 y1)) (fun y0 y1 => K (.exit 0) [.undef, .undef, (.sv (.v (.ptr 0 0)))] (G10 y0 y1)) n t.2.1 t.2.2.1 t.2.2.2.1 u.1.2.1 u.2.1⟩
def Z107_F0 (w : Z107_l0_Ty) : Fam := ⟨⟨false, [4, 15, 16, 17], [2, 3, 4], ⟨[], [], []⟩, ⟨[], [], []⟩⟩, [Z107_v0_0 w]⟩
def Z107_F (w0 : Z107_l0_Ty) : Nat → Fam := fun i => bif i.beq 7 then Z107_F0 w0 else noFam
def E_Z107 (N : Nat) : Ent := .of [Z108_W (Z108 N), Z107_W (Z107 N)]
def E_Y17_TG (c0 : Z112_Ty) (c1 : Z109_Ty) : Table := fun g => bif g.beq 110 then .of [Z112_W c0] else bif g.beq 136 then .of [Z109_W c1] else noEnt
def E_Y17_T (N : Nat) : Table := E_Y17_TG (@Z112 N) (@Z109 N)
def Z35_W (f : Z35_Ty) : Var := ⟨[.v (.ptr 0 0), .v .str], G3, fun t u K => f t.2.1 u.1.2.2.2.1 u.2.1.2.1 u.2.2.1 u.2.2.2.1 u.2.2.2.2.1 (fun y0 y1 y2 y3 y4 y5 => K (.sv (.v (.bool y0))) (G2 y1 y2 y3 y4 y5))⟩
def Z35_F : Nat → Fam := fun _ => noFam
def E_Y17 (N : Nat) : Ent := .of [Z35_W (Z35 N)]
def E_Y5_TG (c0 : Z112_Ty) (c1 : Z35_Ty) (c2 : Z34_Ty) (c3 : Z111_Ty) : Table := fun g => bif g.beq 110 then .of [Z112_W c0] else bif g.beq 116 then .of [Z35_W c1] else bif g.beq 115 then .of [Z34_W c2] else bif g.beq 114 then .of [Z111_W c3] else noEnt
def E_Y5_T (N : Nat) : Table := E_Y5_TG (@Z112 N) (@Z35 N) (@Z34 N) (@Z111 N)
def Z21_W (f : Z21_Ty) : Var := ⟨[.v (.ptr 0 0), .v .str], G3, fun t u K => f t.2.1 u.1.2.2.2.1 u.2.1.2.1 u.2.2.1 u.2.2.2.1 u.2.2.2.2.1 (fun y0 y1 y2 y3 y4 y5 => K (.sv (.v (.int .u16 y0))) [(.cells [(.c (.ptr 1 0)), (.c (.map 3)), (.c (.wl 5 2)), (.row (.int .i64) 4 y1)]), (.cells [(.c (.map 2)), (.c (.int .i64 y2))]), (.map P3 P1 true true y3), (.map (.int .i64) (.isl (.int .u8)) false false y4), .dead, (.cells [(row P0 y5)])])⟩
def Z21_F : Nat → Fam := fun _ => noFam
def E_Y5 (N : Nat) : Ent := .of [Z21_W (Z21 N)]
def tree_Tree_many_fb98_W (f : tree_Tree_many_fb98_Ty) : Var := ⟨[.v (.ptr 0 0), .v .str], G13, fun t u K => f t.2.1 u.1.2.1 u.2.1 (fun y0 y1 y2 => K (.sv (.v (.int .i64 y0))) (G10 y1 y2))⟩
def E_tree_Tree_many : Ent := .of [tree_Tree_many_fb98_W @tree_Tree_many_fb98]
def E_Y36_TG (c0 : Z117_Ty) (c1 : tree_Tree_many_fb98_Ty) (c2 : Z116_Ty) : Table := fun g => bif g.beq 129 then .of [Z117_W c0] else bif g.beq 137 then .of [tree_Tree_many_fb98_W c1] else bif g.beq 134 then .of [Z116_W c2] else noEnt
def E_Y36_T (N : Nat) : Table := E_Y36_TG (@Z117 N) @tree_Tree_many_fb98 (@Z116 N)
def Z110_W (f : Z110_Ty) : Var := ⟨[.v (.ptr 0 0), .v .str, .v .bool], G13, fun t u K => f t.2.1 t.2.2.1 u.1.2.1 u.2.1 (fun y0 y1 y2 => K (.sv (.v (.int .u16 y0))) (G10 y1 y2))⟩
def Z110_F : Nat → Fam := fun _ => noFam
def E_Y36 (N : Nat) : Ent := .of [Z110_W (Z110 N)]
def E_Y13_TG (c0 : Z110_Ty) : Table := fun g => bif g.beq 117 then .of [Z110_W c0] else noEnt
def E_Y13_T (N : Nat) : Table := E_Y13_TG (@Z110 N)
def Z29_W (f : Z29_Ty) : Var := ⟨[.v (.ptr 0 0), .v .str], G3, fun t u K => f t.2.1 u.1.2.2.2.1 u.2.1.2.1 u.2.2.1 u.2.2.2.1 u.2.2.2.2.1 (fun y0 y1 y2 y3 y4 y5 => K (.sv (.v (.int .u16 y0))) (G2 y1 y2 y3 y4 y5))⟩
def Z29_F : Nat → Fam := fun _ => noFam
def E_Y13 (N : Nat) : Ent := .of [Z29_W (Z29 N)]
def E_Y40_TG (c0 : Z115_Ty) (c1 : Z117_Ty) (c2 : Z116_Ty) : Table := fun g => bif g.beq 130 then .of [Z115_W c0] else bif g.beq 129 then .of [Z117_W c1] else bif g.beq 134 then .of [Z116_W c2] else noEnt
def E_Y40_T (N : Nat) : Table := E_Y40_TG (@Z115 N) (@Z117 N) (@Z116 N)
def Z114_W (f : Z114_Ty) : Var := ⟨[.v (.ptr 0 0), .v .str, .v .str], G13, fun t u K => f t.2.1 t.2.2.1 u.1.2.1 u.2.1 (fun y0 y1 y2 y3 => K (.tup [(.v (.int .i64 y0)), (.v (.int .u16 y1))]) (G10 y2 y3))⟩
def Z114_F : Nat → Fam := fun _ => noFam
def E_Y40 (N : Nat) : Ent := .of [Z114_W (Z114 N)]
def E_Y7_TG (c0 : Z114_Ty) : Table := fun g => bif g.beq 118 then .of [Z114_W c0] else noEnt
def E_Y7_T (N : Nat) : Table := E_Y7_TG (@Z114 N)
def Z23_W (f : Z23_Ty) : Var := ⟨[.v (.ptr 0 0), .v .str, .v .str], G3, fun t u K => f t.2.1 t.2.2.1 u.1.2.2.2.1 u.2.1.2.1 u.2.2.1 u.2.2.2.1 u.2.2.2.2.1 (fun y0 y1 y2 y3 y4 y5 => K (.sv (.v (.int .u16 y0))) (G2 y1 y2 y3 y4 y5))⟩
def Z23_F : Nat → Fam := fun _ => noFam
def E_Y7 (N : Nat) : Ent := .of [Z23_W (Z23 N)]
def E_Y4_TG (c0 : Z112_Ty) : Table := fun g => bif g.beq 110 then .of [Z112_W c0] else noEnt
def E_Y4_T (N : Nat) : Table := E_Y4_TG (@Z112 N)
def Z20_W (f : Z20_Ty) : Var := ⟨[.v (.ptr 0 0), .v .str], G3, fun t u K => f t.2.1 u.1.2.2.2.1 u.2.1.2.1 u.2.2.1 u.2.2.2.1 u.2.2.2.2.1 (fun y0 y1 y2 y3 y4 y5 => K (.sv (.v (.int .u16 y0))) (G2 y1 y2 y3 y4 y5))⟩
def Z20_F : Nat → Fam := fun _ => noFam
def E_Y4 (N : Nat) : Ent := .of [Z20_W (Z20 N)]
def E_Y8_TG (c0 : Z110_Ty) : Table := fun g => bif g.beq 117 then .of [Z110_W c0] else noEnt
def E_Y8_T (N : Nat) : Table := E_Y8_TG (@Z110 N)
def Z24_W (f : Z24_Ty) : Var := ⟨[.v (.ptr 0 0), .v .str], G3, fun t u K => f t.2.1 u.1.2.2.2.1 u.2.1.2.1 u.2.2.1 u.2.2.2.1 u.2.2.2.2.1 (fun y0 y1 y2 y3 y4 y5 => K (.sv (.v (.int .u16 y0))) (G2 y1 y2 y3 y4 y5))⟩
def Z24_F : Nat → Fam := fun _ => noFam
def E_Y8 (N : Nat) : Ent := .of [Z24_W (Z24 N)]
def E_Y39_TG (c0 : tree_Tree_many_fb98_Ty) (c1 : Z116_Ty) : Table := fun g => bif g.beq 137 then .of [tree_Tree_many_fb98_W c0] else bif g.beq 134 then .of [Z116_W c1] else noEnt
def E_Y39_T (N : Nat) : Table := E_Y39_TG @tree_Tree_many_fb98 (@Z116 N)
def Z113_W (f : Z113_Ty) : Var := ⟨[.v (.ptr 0 0), .v .str], G13, fun t u K => f t.2.1 u.1.2.1 u.2.1 (fun y0 y1 y2 => K (.sv (.v (.int .u16 y0))) (G10 y1 y2))⟩
def Z113_F : Nat → Fam := fun _ => noFam
def E_Y39 (N : Nat) : Ent := .of [Z113_W (Z113 N)]
def E_Y3_TG (c0 : Z113_Ty) : Table := fun g => bif g.beq 119 then .of [Z113_W c0] else noEnt
def E_Y3_T (N : Nat) : Table := E_Y3_TG (@Z113 N)
def Z19_W (f : Z19_Ty) : Var := ⟨[.v (.ptr 0 0), .v .str], G3, fun t u K => f t.2.1 u.1.2.2.2.1 u.2.1.2.1 u.2.2.1 u.2.2.2.1 u.2.2.2.2.1 (fun y0 y1 y2 y3 y4 y5 => K (.sv (.v (.int .u16 y0))) (G2 y1 y2 y3 y4 y5))⟩
def Z19_F : Nat → Fam := fun _ => noFam
def E_Y3 (N : Nat) : Ent := .of [Z19_W (Z19 N)]
def E_Y26_TG (c0 : Z19_Ty) (c1 : Z24_Ty) (c2 : Z20_Ty) (c3 : Z23_Ty) (c4 : Z29_Ty) (c5 : Z64_Ty) (c6 : Z62_Ty) (c7 : Z65_Ty) (c8 : Z63_Ty) (c9 : Z21_Ty) (c10 : Z74_Ty) (c11 : Z75_Ty) : Table := fun g => bif g.beq 84 then .of [Z19_W c0] else bif g.beq 83 then .of [Z24_W c1] else bif g.beq 82 then .of [Z20_W c2] else bif g.beq 81 then .of [Z23_W c3] else bif g.beq 80 then .of [Z29_W c4] else bif g.beq 39 then .of [Z64_W c5, Z62_W c6, Z65_W c7, Z63_W c8] else bif g.beq 78 then .of [Z21_W c9] else bif g.beq 79 then .of [Z74_W c10, Z75_W c11] else noEnt
def E_Y26_T (N : Nat) : Table := E_Y26_TG (@Z19 N) (@Z24 N) (@Z20 N) (@Z23 N) (@Z29 N) (@Z64 N) (@Z62 N) (@Z65 N) (@Z63 N) (@Z21 N) (@Z74 N) (@Z75 N)
def Z77_W (f : Z77_Ty) : Var := ⟨[.v (.ptr 0 0), .agg [.c (.int .i64), .c (.int .i64)]], G1, fun t u K => f t.2.1.1 t.2.1.2.1 u.1.2.2.1 u.1.2.2.2.2.1 u.1.2.2.2.2.2.1 u.1.2.2.2.2.2.2.2.2.2.2.1 u.1.2.2.2.2.2.2.2.2.2.2.2.1 u.1.2.2.2.2.2.2.2.2.2.2.2.2.1 u.2.1 u.2.2.1 u.2.2.2.1 u.2.2.2.2.1.2.2.2.1 u.2.2.2.2.2.1.2.1 u.2.2.2.2.2.2.1 u.2.2.2.2.2.2.2.1 u.2.2.2.2.2.2.2.2.1 u.2.2.2.2.2.2.2.2.2.1.2.1 u.2.2.2.2.2.2.2.2.2.2.1 u.2.2.2.2.2.2.2.2.2.2.2.1 u.2.2.2.2.2.2.2.2.2.2.2.2.1 (fun y0 y1 y2 y3 y4 y5 y6 y7 y8 y9 y10 y11 y12 y13 y14 y15 y16 y17 => K (.tup []) (G12 y0 y1 y2 y3 y4 y5 y6 y7 y8 y9 y10 y11 y12 y13 y14 y15 y16 y17))⟩
def Z77_F : Nat → Fam := fun _ => noFam
def Z76_W (f : Z76_Ty) : Var := ⟨[.v (.ptr 0 0), .agg [.c (.int .i64), .c (.int .i64)]], G0, fun t u K => f t.2.1.1 t.2.1.2.1 u.1.1 u.1.2.1 u.1.2.2.1 u.1.2.2.2.2.1 u.1.2.2.2.2.2.1 u.1.2.2.2.2.2.2.2.2.1 u.1.2.2.2.2.2.2.2.2.2.2.1 u.1.2.2.2.2.2.2.2.2.2.2.2.1 u.1.2.2.2.2.2.2.2.2.2.2.2.2.1 u.2.1 u.2.2.1.2.2.2.1 u.2.2.2.1.2.1 u.2.2.2.2.1 u.2.2.2.2.2.1 u.2.2.2.2.2.2.1 u.2.2.2.2.2.2.2.1.2.1 u.2.2.2.2.2.2.2.2.1 u.2.2.2.2.2.2.2.2.2.1 (fun y0 y1 y2 y3 y4 y5 y6 y7 y8 y9 y10 y11 y12 y13 y14 y15 y16 y17 => K (.tup []) (G17 y0 y1 y2 y3 y4 y5 y6 y7 y8 y9 y10 y11 y12 y13 y14 y15 y16 y17))⟩
def Z76_F : Nat → Fam := fun _ => noFam
def E_Y26 (N : Nat) : Ent := .of [Z77_W (Z77 N), Z76_W (Z76 N)]
def E_Y15_TG : Table := fun _ => noEnt
def E_Y15_T (N : Nat) : Table := E_Y15_TG
def Z33_W (f : Z33_Ty) : Var := ⟨[.v (.ptr 0 0), .v (.int .u16)], G3, fun t u K => f t.2.1 u.1.2.2.2.1 u.2.1.2.1 u.2.2.1 u.2.2.2.1 u.2.2.2.2.1 (fun y0 y1 y2 y3 y4 => K (.sv (.v .nilp)) (G2 y0 y1 y2 y3 y4)) (fun y0 y1 y2 y3 y4 y5 => K (.sv (.v (.el 4 0 y0 2))) (G2 y1 y2 y3 y4 y5))⟩
def Z33_F : Nat → Fam := fun _ => noFam
def E_Y15 (N : Nat) : Ent := .of [Z33_W (Z33 N)]
def E_Y2_TG (c0 : Z33_Ty) : Table := fun g => bif g.beq 120 then .of [Z33_W c0] else noEnt
def E_Y2_T (N : Nat) : Table := E_Y2_TG (@Z33 N)
def Z18_W (f : Z18_Ty) : Var := ⟨[.v (.ptr 0 0), .v (.int .u16)], G3, fun t u K => f t.2.1 u.1.2.2.2.1 u.2.1.2.1 u.2.2.1 u.2.2.2.1 u.2.2.2.2.1 (fun y0 y1 y2 y3 y4 y5 => K (.sv (.v (.int .u16 y0))) (G2 y1 y2 y3 y4 y5))⟩
def Z18_F : Nat → Fam := fun _ => noFam
def E_Y2 (N : Nat) : Ent := .of [Z18_W (Z18 N)]
def E_Y10_TG (c0 : Z33_Ty) : Table := fun g => bif g.beq 120 then .of [Z33_W c0] else noEnt
def E_Y10_T (N : Nat) : Table := E_Y10_TG (@Z33 N)
def Z26_W (f : Z26_Ty) : Var := ⟨[.v (.ptr 0 0), .v (.int .u16)], G3, fun t u K => f t.2.1 u.1.2.2.2.1 u.2.1.2.1 u.2.2.1 u.2.2.2.1 u.2.2.2.2.1 (fun y0 y1 y2 y3 y4 y5 => K (.sv (.v (.int .u16 y0))) (G2 y1 y2 y3 y4 y5))⟩
def Z26_F : Nat → Fam := fun _ => noFam
def E_Y10 (N : Nat) : Ent := .of [Z26_W (Z26 N)]
def E_Y12_TG (c0 : Z34_Ty) (c1 : Z33_Ty) : Table := fun g => bif g.beq 115 then .of [Z34_W c0] else bif g.beq 120 then .of [Z33_W c1] else noEnt
def E_Y12_T (N : Nat) : Table := E_Y12_TG (@Z34 N) (@Z33 N)
def Z28_W (f : Z28_Ty) : Var := ⟨[.v (.ptr 0 0), .v (.int .u16)], G3, fun t u K => f t.2.1 u.1.2.2.2.1 u.2.1.2.1 u.2.2.1 u.2.2.2.1 u.2.2.2.2.1 (fun y0 y1 y2 y3 y4 y5 => K (.sv (.v (.int .u16 y0))) (G2 y1 y2 y3 y4 y5))⟩
def Z28_F : Nat → Fam := fun _ => noFam
def E_Y12 (N : Nat) : Ent := .of [Z28_W (Z28 N)]
def E_Y9_TG (c0 : Z33_Ty) : Table := fun g => bif g.beq 120 then .of [Z33_W c0] else noEnt
def E_Y9_T (N : Nat) : Table := E_Y9_TG (@Z33 N)
def Z25_W (f : Z25_Ty) : Var := ⟨[.v (.ptr 0 0), .v (.int .u16), .v (.int .u16)], G3, fun t u K => f t.2.1 t.2.2.1 u.1.2.2.2.1 u.2.1.2.1 u.2.2.1 u.2.2.2.1 u.2.2.2.2.1 (fun y0 y1 y2 y3 y4 y5 => K (.sv (.v (.int .u16 y0))) (G2 y1 y2 y3 y4 y5))⟩
def Z25_F : Nat → Fam := fun _ => noFam
def E_Y9 (N : Nat) : Ent := .of [Z25_W (Z25 N)]
def slices_Clone__byte_byte_W (f : slices_Clone__byte_byte_Ty) : Var := ⟨[.v (.isl (.int .u8))], [], fun t u K => f t.1 (fun y0 => K (.sv (.v (.wl 0 1))) [(.cells [(row (.int .u8) y0)])])⟩
def E_slices_Clone__byte_byte : Ent := .of [slices_Clone__byte_byte_W @slices_Clone__byte_byte]
def E_Z36_TG (c0 : Z108_Ty) (c1 : Z107_Ty) (c2 : slices_Clone__byte_byte_Ty) : Table := fun g => bif g.beq 66 then .of [Z108_W c0, Z107_W c1] else bif g.beq 67 then .of [slices_Clone__byte_byte_W c2] else noEnt
def E_Z36_T (N : Nat) : Table := E_Z36_TG (@Z108 N) (@Z107 N) @slices_Clone__byte_byte
def Z37_W (f : Z37_Ty) : Var := ⟨[.v .nils, .v (.wl 0 1)], [.rows (.isl (.int .u8))], fun t u K => f u.1 (fun y0 => K (.tup [(.v .nilp), (.v (.int .i64 12))]) [(.cells [(row (.isl (.int .u8)) y0)])]) (fun y0 y1 y2 y3 y4 y5 => K (.tup [(.v (.ptr 1 0)), (.v (.int .i64 0))]) (G19 y0 y1 y2 y3 y4 y5))⟩
def Z37_v0_0 (w : Z37_l0_Ty) : LVar := ⟨[.sv (.v (.wl 0 1)), .sv (.v (.ptr 1 0)), .sv (.v .nils), .sv (.v (.int .i64)), .sv (.v (.int .i64))], [.rows (.isl (.int .u8)), .cells [.c (.ptr 2 0), .c (.map 4), .c (.wl 5 2), .row (.int .i64) 4], .cells [.c (.map 3), .c (.int .i64)], .map P3 P1 true true, .map (.int .i64) (.isl (.int .u8)) false false, .rows P0], fun n t u K => w (fun y0 y1 y2 y3 y4 y5 => K (.exit 0) [(.sv (.v (.wl 0 1))), .undef, .undef, (.sv (.v (.ptr 1 0)))] (G19 y0 y1 y2 y3 y4 y5)) n t.2.2.2.1 t.2.2.2.2.1 u.1 u.2.1.2.2.2.1 u.2.2.1.2.1 u.2.2.2.1 u.2.2.2.2.1 u.2.2.2.2.2.1⟩
def Z37_F0 (w : Z37_l0_Ty) : Fam := ⟨⟨false, [1, 8, 23, 24, 25], [1, 4, 5, 8], ⟨[], [], []⟩, ⟨[], [], []⟩⟩, [Z37_v0_0 w]⟩
def Z37_F (w0 : Z37_l0_Ty) : Nat → Fam := fun i => bif i.beq 8 then Z37_F0 w0 else noFam
def Z36_W (f : Z36_Ty) : Var := ⟨[.v (.isl P4), .v (.isl (.isl (.int .u8)))], [], fun t u K => f t.1 t.2.1 (K (.tup [(.v .nilp), (.v (.int .i64 11))]) []) (K (.tup [(.v .nilp), (.v (.int .i64 12))]) []) (fun y0 y1 y2 y3 y4 => K (.tup [(.v (.ptr 0 0)), (.v (.int .i64 0))]) (G2 y0 y1 y2 y3 y4))⟩
def Z36_v0_0 (w : Z36_l0_Ty) : LVar := ⟨[.sv (.v (.isl (.isl (.int .u8)))), .sv (.v (.ptr 0 0)), .sv (.v (.isl P4)), .sv (.v (.int .i64)), .sv (.v (.int .i64))], G3, fun n t u K => w (fun y0 y1 y2 y3 y4 y5 => K .ret [(.sv (.v (.isl (.isl (.int .u8)) y0))), (.sv (.v .nilp)), (.sv (.v (.int .i64 12))), (.sv (.v (.ptr 0 0)))] (G2 y1 y2 y3 y4 y5)) (fun y0 y1 y2 y3 y4 y5 => K (.exit 0) [(.sv (.v (.isl (.isl (.int .u8)) y0))), .undef, .undef, (.sv (.v (.ptr 0 0)))] (G2 y1 y2 y3 y4 y5)) n t.1 t.2.2.1 t.2.2.2.1 t.2.2.2.2.1 u.1.2.2.2.1 u.2.1.2.1 u.2.2.1 u.2.2.2.1 u.2.2.2.2.1⟩
def Z36_F0 (w : Z36_l0_Ty) : Fam := ⟨⟨false, [1, 8, 23, 24, 25], [1, 4, 5, 8], ⟨[], [], []⟩, ⟨[], [], []⟩⟩, [Z36_v0_0 w]⟩
def Z36_F (w0 : Z36_l0_Ty) : Nat → Fam := fun i => bif i.beq 8 then Z36_F0 w0 else noFam
def E_Z36 (N : Nat) : Ent := .of [Z37_W (Z37 N), Z36_W (Z36 N)]
def E_Z94_TG (c0 : Z17_Ty) (c1 : Z16_Ty) (c2 : Z100_Ty) (c3 : Z99_Ty) (c4 : Z37_Ty) (c5 : Z36_Ty) (c6 : Z2_Ty) (c7 : Z1_Ty) : Table := fun g => bif g.beq 35 then .of [Z17_W c0, Z16_W c1] else bif g.beq 33 then .of [Z100_W c2, Z99_W c3] else bif g.beq 32 then .of [Z37_W c4, Z36_W c5] else bif g.beq 31 then .of [Z2_W c6, Z1_W c7] else noEnt
def E_Z94_T (N : Nat) : Table := E_Z94_TG (@Z17 N) (@Z16 N) (@Z100 N) (@Z99 N) (@Z37 N) (@Z36 N) (@Z2 N) (@Z1 N)
def Z96_W (f : Z96_Ty) : Var := ⟨[.agg [.c (.wl 0 2), .c (.wl 1 1)], .v .nils, .agg [.c (.wl 2 1), .c (.wl 3 1), .c (.wl 4 1)], .v (.int .i64)], G22, fun t u K => f t.2.2.2.1 u.1 u.2.1 u.2.2.1 u.2.2.2.1 u.2.2.2.2.1 (fun y0 y1 y2 y3 y4 y5 => K (.tup [(.v .nilp), (.v (.int .i64 y0))]) (G11 y1 y2 y3 y4 y5)) (fun y0 y1 y2 y3 y4 => K (.tup [(.v .nilp), (.v (.int .i64 12))]) (G11 y0 y1 y2 y3 y4)) (fun y0 y1 y2 y3 y4 => K (.tup [(.v .nilp), (.v (.int .i64 1))]) (G11 y0 y1 y2 y3 y4)) (fun y0 y1 y2 y3 y4 y5 y6 y7 y8 y9 y10 y11 y12 y13 y14 y15 y16 y17 y18 y19 => K (.tup [(.v (.ptr 5 0)), (.v (.int .i64 0))]) (G9 y0 y1 y2 y3 y4 y5 y6 y7 y8 y9 y10 y11 y12 y13 y14 y15 y16 y17 y18 y19))⟩
def Z96_F : Nat → Fam := fun _ => noFam
def Z94_W (f : Z94_Ty) : Var := ⟨[.agg [.c (.isl P0), .c (.isl .str)], .v (.isl P4), .agg [.c (.isl (.isl (.int .u8))), .c (.isl (.isl (.int .u8))), .c (.isl .bool)], .v (.int .i64)], [], fun t u K => f t.1.1 t.1.2.1 t.2.1 t.2.2.1.1 t.2.2.1.2.1 t.2.2.1.2.2.1 t.2.2.2.1 (fun y0 => K (.tup [(.v .nilp), (.v (.int .i64 y0))]) []) (K (.tup [(.v .nilp), (.v (.int .i64 11))]) []) (K (.tup [(.v .nilp), (.v (.int .i64 12))]) []) (K (.tup [(.v .nilp), (.v (.int .i64 1))]) []) (fun y0 y1 y2 y3 y4 y5 y6 y7 y8 y9 y10 y11 y12 y13 y14 y15 y16 y17 => K (.tup [(.v (.ptr 0 0)), (.v (.int .i64 0))]) (G8 y0 y1 y2 y3 y4 y5 y6 y7 y8 y9 y10 y11 y12 y13 y14 y15 y16 y17))⟩
def Z94_F : Nat → Fam := fun _ => noFam
def E_Z94 (N : Nat) : Ent := .of [Z96_W (Z96 N), Z94_W (Z94 N)]
def E_Z38_TG (c0 : slices_Clone__byte_byte_Ty) : Table := fun g => bif g.beq 67 then .of [slices_Clone__byte_byte_W c0] else noEnt
def E_Z38_T (N : Nat) : Table := E_Z38_TG @slices_Clone__byte_byte
def Z38_W (f : Z38_Ty) : Var := ⟨[.v (.isl (.int .u8)), .v (.int .i64)], [], fun t u K => f t.1 t.2.1 (fun y0 => K (.sv (.v (.wl 0 1))) [(.cells [(row (.int .u8) y0)])])⟩
def Z38_v0_0 (w : Z38_l0_Ty) : LVar := ⟨[.sv (.v (.int .i64)), .sv (.v (.wl 0 1))], [.rows (.int .u8)], fun n t u K => w (fun y0 => K (.exit 0) [(.sv (.v (.wl 0 1)))] [(.cells [(row (.int .u8) y0)])]) n t.1 u.1⟩
def Z38_F0 (w : Z38_l0_Ty) : Fam := ⟨⟨false, [1, 5], [5], ⟨[], [], []⟩, ⟨[], [], []⟩⟩, [Z38_v0_0 w]⟩
def Z38_F (w0 : Z38_l0_Ty) : Nat → Fam := fun i => bif i.beq 3 then Z38_F0 w0 else noFam
def E_Z38 (N : Nat) : Ent := .of [Z38_W (Z38 N)]
def E_Y11_TG (c0 : Z38_Ty) (c1 : Z33_Ty) : Table := fun g => bif g.beq 121 then .of [Z38_W c0] else bif g.beq 120 then .of [Z33_W c1] else noEnt
def E_Y11_T (N : Nat) : Table := E_Y11_TG (@Z38 N) (@Z33 N)
def Z27_W (f : Z27_Ty) : Var := ⟨[.v (.ptr 0 0), .v (.int .u16), .v (.int .u16)], G3, fun t u K => f t.2.1 t.2.2.1 u.1.2.2.2.1 u.2.1.2.1 u.2.2.1 u.2.2.2.1 u.2.2.2.2.1 (fun y0 y1 y2 y3 y4 y5 => K (.sv (.v (.int .u16 y0))) (G2 y1 y2 y3 y4 y5))⟩
def Z27_F : Nat → Fam := fun _ => noFam
def E_Y11 (N : Nat) : Ent := .of [Z27_W (Z27 N)]
def E_Y6_TG (c0 : slices_Clone__byte_byte_Ty) (c1 : Z33_Ty) : Table := fun g => bif g.beq 67 then .of [slices_Clone__byte_byte_W c0] else bif g.beq 120 then .of [Z33_W c1] else noEnt
def E_Y6_T (N : Nat) : Table := E_Y6_TG @slices_Clone__byte_byte (@Z33 N)
def Z22_W (f : Z22_Ty) : Var := ⟨[.v (.ptr 0 0), .v (.int .u16), .v (.int .u16)], G3, fun t u K => f t.2.1 t.2.2.1 u.1.2.2.2.1 u.2.1.2.1 u.2.2.1 u.2.2.2.1 u.2.2.2.2.1 (fun y0 y1 y2 y3 y4 y5 y6 => K (.tup [(.v (.wl 5 1)), (.v (.int .u16 y0))]) [(.cells [(.c (.ptr 1 0)), (.c (.map 3)), (.c (.wl 4 2)), (.row (.int .i64) 4 y1)]), (.cells [(.c (.map 2)), (.c (.int .i64 y2))]), (.map P3 P1 true true y3), (.map (.int .i64) (.isl (.int .u8)) false false y4), (.cells [(row P0 y5)]), (.cells [(row (.int .u8) y6)])])⟩
def Z22_F : Nat → Fam := fun _ => noFam
def E_Y6 (N : Nat) : Ent := .of [Z22_W (Z22 N)]
def E_Y30_TG (c0 : Z64_Ty) (c1 : Z62_Ty) (c2 : Z65_Ty) (c3 : Z63_Ty) (c4 : Z70_Ty) (c5 : Z71_Ty) (c6 : Z22_Ty) (c7 : Z80_Ty) (c8 : Z81_Ty) : Table := fun g => bif g.beq 39 then .of [Z64_W c0, Z62_W c1, Z65_W c2, Z63_W c3] else bif g.beq 20 then .of [Z70_W c4, Z71_W c5] else bif g.beq 122 then .of [Z22_W c6] else bif g.beq 72 then .of [Z80_W c7, Z81_W c8] else noEnt
def E_Y30_T (N : Nat) : Table := E_Y30_TG (@Z64 N) (@Z62 N) (@Z65 N) (@Z63 N) (@Z70 N) (@Z71 N) (@Z22 N) (@Z80 N) (@Z81 N)
def Z86_W (f : Z86_Ty) : Var := ⟨[.v (.ptr 0 0)], G1, fun t u K => f u.1.2.2.1 u.1.2.2.2.2.1 u.1.2.2.2.2.2.1 u.1.2.2.2.2.2.2.2.2.2.2.1 u.1.2.2.2.2.2.2.2.2.2.2.2.1 u.1.2.2.2.2.2.2.2.2.2.2.2.2.1 u.2.1 u.2.2.1 u.2.2.2.1 u.2.2.2.2.1.2.2.2.1 u.2.2.2.2.2.1.2.1 u.2.2.2.2.2.2.1 u.2.2.2.2.2.2.2.1 u.2.2.2.2.2.2.2.2.1 u.2.2.2.2.2.2.2.2.2.1.2.1 u.2.2.2.2.2.2.2.2.2.2.1 u.2.2.2.2.2.2.2.2.2.2.2.1 u.2.2.2.2.2.2.2.2.2.2.2.2.1 (fun y0 y1 y2 y3 y4 y5 y6 y7 y8 y9 y10 y11 y12 y13 y14 y15 y16 y17 => K (.tup []) (G4 y0 y1 y2 y3 y4 y5 y6 y7 y8 y9 y10 y11 y12 y13 y14 y15 y16 y17))⟩
def Z86_F : Nat → Fam := fun _ => noFam
def Z87_W (f : Z87_Ty) : Var := ⟨[.v (.ptr 0 0)], G0, fun t u K => f u.1.1 u.1.2.1 u.1.2.2.1 u.1.2.2.2.2.1 u.1.2.2.2.2.2.1 u.1.2.2.2.2.2.2.2.2.1 u.1.2.2.2.2.2.2.2.2.2.2.1 u.1.2.2.2.2.2.2.2.2.2.2.2.1 u.1.2.2.2.2.2.2.2.2.2.2.2.2.1 u.2.1 u.2.2.1.2.2.2.1 u.2.2.2.1.2.1 u.2.2.2.2.1 u.2.2.2.2.2.1 u.2.2.2.2.2.2.1 u.2.2.2.2.2.2.2.1.2.1 u.2.2.2.2.2.2.2.2.1 u.2.2.2.2.2.2.2.2.2.1 (fun y0 y1 y2 y3 y4 y5 y6 y7 y8 y9 y10 y11 y12 y13 y14 y15 y16 y17 => K (.tup []) (G6 y0 y1 y2 y3 y4 y5 y6 y7 y8 y9 y10 y11 y12 y13 y14 y15 y16 y17))⟩
def Z87_F : Nat → Fam := fun _ => noFam
def E_Y30 (N : Nat) : Ent := .of [Z86_W (Z86 N), Z87_W (Z87 N)]
def E_Y14_TG (c0 : Z38_Ty) (c1 : Z33_Ty) : Table := fun g => bif g.beq 121 then .of [Z38_W c0] else bif g.beq 120 then .of [Z33_W c1] else noEnt
def E_Y14_T (N : Nat) : Table := E_Y14_TG (@Z38 N) (@Z33 N)
def Z31_W (f : Z31_Ty) : Var := ⟨[.v (.ptr 0 0), .v (.int .u16), .v (.sl 5 12 1 true true)], [.cells [.c (.ptr 1 0), .c (.map 3), .c (.wl 4 2), .row (.int .i64) 4], .cells [.c (.map 2), .c (.int .i64)], .map P3 P1 true true, .map (.int .i64) (.isl (.int .u8)) false false, .rows P0, .cells [.c (.wl 6 2), .c (.wl 7 1), .c (.int .i64), .c (.wl 8 1), .row (.int .u16) 8, .row (.int .u8) 32, .c (.ptr 0 0), .c (.ptr 9 0), .c (.wl 11 1), .c (.wl 12 2), .c (.int .i64), .c (.int .u16), .c (.int .i64)], .rows P0, .rows .str, .rows (.int .u16), .cells [.c (.wl 10 1), .c (.int .i64)], .rows .bool, .rows (.isl (.int .u8)), .rows P2], fun t u K => f t.2.1 t.2.2.1.1 t.2.2.1.2.1 t.2.2.1.2.2 u.1.2.2.2.1 u.2.1.2.1 u.2.2.1 u.2.2.2.1 u.2.2.2.2.1 u.2.2.2.2.2.1.2.2.1 u.2.2.2.2.2.1.2.2.2.2.1 u.2.2.2.2.2.1.2.2.2.2.2.1 u.2.2.2.2.2.1.2.2.2.2.2.2.2.2.2.2.1 u.2.2.2.2.2.1.2.2.2.2.2.2.2.2.2.2.2.1 u.2.2.2.2.2.1.2.2.2.2.2.2.2.2.2.2.2.2.1 u.2.2.2.2.2.2.1 u.2.2.2.2.2.2.2.1 u.2.2.2.2.2.2.2.2.1 u.2.2.2.2.2.2.2.2.2.1.2.1 u.2.2.2.2.2.2.2.2.2.2.1 u.2.2.2.2.2.2.2.2.2.2.2.1 u.2.2.2.2.2.2.2.2.2.2.2.2.1 (fun y0 y1 y2 y3 y4 y5 y6 y7 y8 y9 y10 y11 y12 y13 y14 y15 y16 y17 y18 => K (.sv (.v (.int .u16 y0))) [(.cells [(.c (.ptr 1 0)), (.c (.map 3)), (.c (.wl 4 2)), (.row (.int .i64) 4 y1)]), (.cells [(.c (.map 2)), (.c (.int .i64 y2))]), (.map P3 P1 true true y3), (.map (.int .i64) (.isl (.int .u8)) false false y4), (.cells [(row P0 y5)]), (.cells [(.c (.wl 6 2)), (.c (.wl 7 1)), (.c (.int .i64 y6)), (.c (.wl 8 1)), (.row (.int .u16) 8 y7), (.row (.int .u8) 32 y8), (.c (.ptr 0 0)), (.c (.ptr 9 0)), (.c (.wl 11 1)), (.c (.wl 12 2)), (.c (.int .i64 y9)), (.c (.int .u16 y10)), (.c (.int .i64 y11))]), (.cells [(row P0 y12)]), (.cells [(row .str y13)]), (.cells [(row (.int .u16) y14)]), (.cells [(.c (.wl 10 1)), (.c (.int .i64 y15))]), (.cells [(row .bool y16)]), (.cells [(row (.isl (.int .u8)) y17)]), (.cells [(row P2 y18)])])⟩
def Z31_F : Nat → Fam := fun _ => noFam
def Z32_W (f : Z32_Ty) : Var := ⟨[.v (.ptr 0 0), .v (.int .u16), .v .nils], G3, fun t u K => f t.2.1 u.1.2.2.2.1 u.2.1.2.1 u.2.2.1 u.2.2.2.1 u.2.2.2.2.1 (fun y0 y1 y2 y3 y4 y5 => K (.sv (.v (.int .u16 y0))) (G2 y1 y2 y3 y4 y5))⟩
def Z32_F : Nat → Fam := fun _ => noFam
def Z30_W (f : Z30_Ty) : Var := ⟨[.v (.ptr 0 0), .v (.int .u16), .v (.sl 5 12 1 true true)], [.cells [.c (.ptr 1 0), .c (.map 3), .c (.wl 4 2), .row (.int .i64) 4], .cells [.c (.map 2), .c (.int .i64)], .map P3 P1 true true, .map (.int .i64) (.isl (.int .u8)) false false, .rows P0, .cells [.c (.isl P0), .c (.isl .str), .c (.int .i64), .c (.wl 6 1), .row (.int .u16) 8, .row (.int .u8) 32, .c (.ptr 0 0), .c (.ptr 7 0), .c (.isl (.isl (.int .u8))), .c (.wl 9 2), .c (.int .i64), .c (.int .u16), .c (.int .i64)], .rows (.int .u16), .cells [.c (.wl 8 1), .c (.int .i64)], .rows .bool, .rows P2], fun t u K => f t.2.1 t.2.2.1.1 t.2.2.1.2.1 t.2.2.1.2.2 u.1.2.2.2.1 u.2.1.2.1 u.2.2.1 u.2.2.2.1 u.2.2.2.2.1 u.2.2.2.2.2.1.1 u.2.2.2.2.2.1.2.1 u.2.2.2.2.2.1.2.2.1 u.2.2.2.2.2.1.2.2.2.2.1 u.2.2.2.2.2.1.2.2.2.2.2.1 u.2.2.2.2.2.1.2.2.2.2.2.2.2.2.1 u.2.2.2.2.2.1.2.2.2.2.2.2.2.2.2.2.1 u.2.2.2.2.2.1.2.2.2.2.2.2.2.2.2.2.2.1 u.2.2.2.2.2.1.2.2.2.2.2.2.2.2.2.2.2.2.1 u.2.2.2.2.2.2.1 u.2.2.2.2.2.2.2.1.2.1 u.2.2.2.2.2.2.2.2.1 u.2.2.2.2.2.2.2.2.2.1 (fun y0 y1 y2 y3 y4 y5 y6 y7 y8 y9 y10 y11 y12 y13 y14 y15 y16 y17 y18 => K (.sv (.v (.int .u16 y0))) [(.cells [(.c (.ptr 1 0)), (.c (.map 3)), (.c (.wl 4 2)), (.row (.int .i64) 4 y1)]), (.cells [(.c (.map 2)), (.c (.int .i64 y2))]), (.map P3 P1 true true y3), (.map (.int .i64) (.isl (.int .u8)) false false y4), (.cells [(row P0 y5)]), (.cells [(.c (.isl P0 y6)), (.c (.isl .str y7)), (.c (.int .i64 y8)), (.c (.wl 6 1)), (.row (.int .u16) 8 y9), (.row (.int .u8) 32 y10), (.c (.ptr 0 0)), (.c (.ptr 7 0)), (.c (.isl (.isl (.int .u8)) y11)), (.c (.wl 9 2)), (.c (.int .i64 y12)), (.c (.int .u16 y13)), (.c (.int .i64 y14))]), (.cells [(row (.int .u16) y15)]), (.cells [(.c (.wl 8 1)), (.c (.int .i64 y16))]), (.cells [(row .bool y17)]), (.cells [(row P2 y18)])])⟩
def Z30_F : Nat → Fam := fun _ => noFam
def E_Y14 (N : Nat) : Ent := .of [Z31_W (Z31 N), Z32_W (Z32 N), Z30_W (Z30 N)]
def E_Y33_TG (c0 : Z31_Ty) (c1 : Z32_Ty) (c2 : Z30_Ty) (c3 : Z64_Ty) (c4 : Z62_Ty) (c5 : Z65_Ty) (c6 : Z63_Ty) (c7 : Z70_Ty) (c8 : Z71_Ty) (c9 : Z80_Ty) (c10 : Z81_Ty) : Table := fun g => bif g.beq 123 then .of [Z31_W c0, Z32_W c1, Z30_W c2] else bif g.beq 39 then .of [Z64_W c3, Z62_W c4, Z65_W c5, Z63_W c6] else bif g.beq 20 then .of [Z70_W c7, Z71_W c8] else bif g.beq 72 then .of [Z80_W c9, Z81_W c10] else noEnt
def E_Y33_T (N : Nat) : Table := E_Y33_TG (@Z31 N) (@Z32 N) (@Z30 N) (@Z64 N) (@Z62 N) (@Z65 N) (@Z63 N) (@Z70 N) (@Z71 N) (@Z80 N) (@Z81 N)
def Z92_W (f : Z92_Ty) : Var := ⟨[.v (.ptr 0 0)], G1, fun t u K => f u.1.2.2.1 u.1.2.2.2.2.1 u.1.2.2.2.2.2.1 u.1.2.2.2.2.2.2.2.2.2.2.1 u.1.2.2.2.2.2.2.2.2.2.2.2.1 u.1.2.2.2.2.2.2.2.2.2.2.2.2.1 u.2.1 u.2.2.1 u.2.2.2.1 u.2.2.2.2.1.2.2.2.1 u.2.2.2.2.2.1.2.1 u.2.2.2.2.2.2.1 u.2.2.2.2.2.2.2.1 u.2.2.2.2.2.2.2.2.1 u.2.2.2.2.2.2.2.2.2.1.2.1 u.2.2.2.2.2.2.2.2.2.2.1 u.2.2.2.2.2.2.2.2.2.2.2.1 u.2.2.2.2.2.2.2.2.2.2.2.2.1 (fun y0 y1 y2 y3 y4 y5 y6 y7 y8 y9 y10 y11 y12 y13 y14 y15 y16 y17 => K (.tup []) (G4 y0 y1 y2 y3 y4 y5 y6 y7 y8 y9 y10 y11 y12 y13 y14 y15 y16 y17))⟩
def Z92_F : Nat → Fam := fun _ => noFam
def Z93_W (f : Z93_Ty) : Var := ⟨[.v (.ptr 0 0)], G0, fun t u K => f u.1.1 u.1.2.1 u.1.2.2.1 u.1.2.2.2.2.1 u.1.2.2.2.2.2.1 u.1.2.2.2.2.2.2.2.2.1 u.1.2.2.2.2.2.2.2.2.2.2.1 u.1.2.2.2.2.2.2.2.2.2.2.2.1 u.1.2.2.2.2.2.2.2.2.2.2.2.2.1 u.2.1 u.2.2.1.2.2.2.1 u.2.2.2.1.2.1 u.2.2.2.2.1 u.2.2.2.2.2.1 u.2.2.2.2.2.2.1 u.2.2.2.2.2.2.2.1.2.1 u.2.2.2.2.2.2.2.2.1 u.2.2.2.2.2.2.2.2.2.1 (fun y0 y1 y2 y3 y4 y5 y6 y7 y8 y9 y10 y11 y12 y13 y14 y15 y16 y17 => K (.tup []) (G6 y0 y1 y2 y3 y4 y5 y6 y7 y8 y9 y10 y11 y12 y13 y14 y15 y16 y17))⟩
def Z93_F : Nat → Fam := fun _ => noFam
def E_Y33 (N : Nat) : Ent := .of [Z92_W (Z92 N), Z93_W (Z93 N)]
def E_Y21_TG (c0 : Z84_Ty) (c1 : Z82_Ty) (c2 : Z85_Ty) (c3 : Z83_Ty) (c4 : Z80_Ty) (c5 : Z81_Ty) : Table := fun g => bif g.beq 71 then .of [Z84_W c0, Z82_W c1, Z85_W c2, Z83_W c3] else bif g.beq 72 then .of [Z80_W c4, Z81_W c5] else noEnt
def E_Y21_T (N : Nat) : Table := E_Y21_TG (@Z84 N) (@Z82 N) (@Z85 N) (@Z83 N) (@Z80 N) (@Z81 N)
def Z66_W (f : Z66_Ty) : Var := ⟨[.v (.ptr 0 0)], G1, fun t u K => f u.1.2.2.1 u.1.2.2.2.2.1 u.1.2.2.2.2.2.1 u.1.2.2.2.2.2.2.2.2.2.2.1 u.1.2.2.2.2.2.2.2.2.2.2.2.1 u.1.2.2.2.2.2.2.2.2.2.2.2.2.1 u.2.1 u.2.2.1 u.2.2.2.1 u.2.2.2.2.1.2.2.2.1 u.2.2.2.2.2.1.2.1 u.2.2.2.2.2.2.1 u.2.2.2.2.2.2.2.1 u.2.2.2.2.2.2.2.2.1 u.2.2.2.2.2.2.2.2.2.1.2.1 u.2.2.2.2.2.2.2.2.2.2.1 u.2.2.2.2.2.2.2.2.2.2.2.1 u.2.2.2.2.2.2.2.2.2.2.2.2.1 (fun y0 y1 y2 y3 y4 y5 y6 y7 y8 y9 y10 y11 y12 y13 y14 y15 y16 y17 => K (.tup []) (G5 y0 y1 y2 y3 y4 y5 y6 y7 y8 y9 y10 y11 y12 y13 y14 y15 y16 y17))⟩
def Z66_F : Nat → Fam := fun _ => noFam
def Z67_W (f : Z67_Ty) : Var := ⟨[.v (.ptr 0 0)], G0, fun t u K => f u.1.1 u.1.2.1 u.1.2.2.1 u.1.2.2.2.2.1 u.1.2.2.2.2.2.1 u.1.2.2.2.2.2.2.2.2.1 u.1.2.2.2.2.2.2.2.2.2.2.1 u.1.2.2.2.2.2.2.2.2.2.2.2.1 u.1.2.2.2.2.2.2.2.2.2.2.2.2.1 u.2.1 u.2.2.1.2.2.2.1 u.2.2.2.1.2.1 u.2.2.2.2.1 u.2.2.2.2.2.1 u.2.2.2.2.2.2.1 u.2.2.2.2.2.2.2.1.2.1 u.2.2.2.2.2.2.2.2.1 u.2.2.2.2.2.2.2.2.2.1 (fun y0 y1 y2 y3 y4 y5 y6 y7 y8 y9 y10 y11 y12 y13 y14 y15 y16 y17 => K (.tup []) (G7 y0 y1 y2 y3 y4 y5 y6 y7 y8 y9 y10 y11 y12 y13 y14 y15 y16 y17))⟩
def Z67_F : Nat → Fam := fun _ => noFam
def E_Y21 (N : Nat) : Ent := .of [Z66_W (Z66 N), Z67_W (Z67 N)]
def E_Y22_TG (c0 : Z66_Ty) (c1 : Z67_Ty) (c2 : Z84_Ty) (c3 : Z82_Ty) (c4 : Z85_Ty) (c5 : Z83_Ty) (c6 : Z92_Ty) (c7 : Z93_Ty) (c8 : Z86_Ty) (c9 : Z87_Ty) (c10 : Z27_Ty) (c11 : Z25_Ty) (c12 : Z28_Ty) (c13 : Z26_Ty) (c14 : Z64_Ty) (c15 : Z62_Ty) (c16 : Z65_Ty) (c17 : Z63_Ty) (c18 : Z18_Ty) (c19 : Z80_Ty) (c20 : Z81_Ty) : Table := fun g => bif g.beq 92 then .of [Z66_W c0, Z67_W c1] else bif g.beq 71 then .of [Z84_W c2, Z82_W c3, Z85_W c4, Z83_W c5] else bif g.beq 91 then .of [Z92_W c6, Z93_W c7] else bif g.beq 90 then .of [Z86_W c8, Z87_W c9] else bif g.beq 89 then .of [Z27_W c10] else bif g.beq 88 then .of [Z25_W c11] else bif g.beq 87 then .of [Z28_W c12] else bif g.beq 86 then .of [Z26_W c13] else bif g.beq 39 then .of [Z64_W c14, Z62_W c15, Z65_W c16, Z63_W c17] else bif g.beq 85 then .of [Z18_W c18] else bif g.beq 72 then .of [Z80_W c19, Z81_W c20] else noEnt
def E_Y22_T (N : Nat) : Table := E_Y22_TG (@Z66 N) (@Z67 N) (@Z84 N) (@Z82 N) (@Z85 N) (@Z83 N) (@Z92 N) (@Z93 N) (@Z86 N) (@Z87 N) (@Z27 N) (@Z25 N) (@Z28 N) (@Z26 N) (@Z64 N) (@Z62 N) (@Z65 N) (@Z63 N) (@Z18 N) (@Z80 N) (@Z81 N)
def Z68_W (f : Z68_Ty) : Var := ⟨[.v (.ptr 0 0), .v (.int .i64)], G1, fun t u K => f t.2.1 u.1.2.2.1 u.1.2.2.2.2.1 u.1.2.2.2.2.2.1 u.1.2.2.2.2.2.2.2.2.2.2.1 u.1.2.2.2.2.2.2.2.2.2.2.2.1 u.1.2.2.2.2.2.2.2.2.2.2.2.2.1 u.2.1 u.2.2.1 u.2.2.2.1 u.2.2.2.2.1.2.2.2.1 u.2.2.2.2.2.1.2.1 u.2.2.2.2.2.2.1 u.2.2.2.2.2.2.2.1 u.2.2.2.2.2.2.2.2.1 u.2.2.2.2.2.2.2.2.2.1.2.1 u.2.2.2.2.2.2.2.2.2.2.1 u.2.2.2.2.2.2.2.2.2.2.2.1 u.2.2.2.2.2.2.2.2.2.2.2.2.1 (fun y0 y1 y2 y3 y4 y5 y6 y7 y8 y9 y10 y11 y12 y13 y14 y15 y16 y17 => K (.tup []) (G4 y0 y1 y2 y3 y4 y5 y6 y7 y8 y9 y10 y11 y12 y13 y14 y15 y16 y17))⟩
def Z68_F : Nat → Fam := fun _ => noFam
def Z69_W (f : Z69_Ty) : Var := ⟨[.v (.ptr 0 0), .v (.int .i64)], G0, fun t u K => f t.2.1 u.1.1 u.1.2.1 u.1.2.2.1 u.1.2.2.2.2.1 u.1.2.2.2.2.2.1 u.1.2.2.2.2.2.2.2.2.1 u.1.2.2.2.2.2.2.2.2.2.2.1 u.1.2.2.2.2.2.2.2.2.2.2.2.1 u.1.2.2.2.2.2.2.2.2.2.2.2.2.1 u.2.1 u.2.2.1.2.2.2.1 u.2.2.2.1.2.1 u.2.2.2.2.1 u.2.2.2.2.2.1 u.2.2.2.2.2.2.1 u.2.2.2.2.2.2.2.1.2.1 u.2.2.2.2.2.2.2.2.1 u.2.2.2.2.2.2.2.2.2.1 (fun y0 y1 y2 y3 y4 y5 y6 y7 y8 y9 y10 y11 y12 y13 y14 y15 y16 y17 => K (.tup []) (G6 y0 y1 y2 y3 y4 y5 y6 y7 y8 y9 y10 y11 y12 y13 y14 y15 y16 y17))⟩
def Z69_F : Nat → Fam := fun _ => noFam
def E_Y22 (N : Nat) : Ent := .of [Z68_W (Z68 N), Z69_W (Z69 N)]
def E_Y32_TG (c0 : Z68_Ty) (c1 : Z69_Ty) (c2 : Z77_Ty) (c3 : Z76_Ty) (c4 : Z79_Ty) (c5 : Z78_Ty) (c6 : Z88_Ty) (c7 : Z89_Ty) (c8 : Z64_Ty) (c9 : Z62_Ty) (c10 : Z65_Ty) (c11 : Z63_Ty) (c12 : Z44_Ty) (c13 : Z15_Ty) (c14 : Z40_Ty) : Table := fun g => bif g.beq 43 then .of [Z68_W c0, Z69_W c1] else bif g.beq 42 then .of [Z77_W c2, Z76_W c3] else bif g.beq 41 then .of [Z79_W c4, Z78_W c5] else bif g.beq 40 then .of [Z88_W c6, Z89_W c7] else bif g.beq 39 then .of [Z64_W c8, Z62_W c9, Z65_W c10, Z63_W c11] else bif g.beq 38 then .of [Z44_W c12] else bif g.beq 37 then .of [Z15_W c13] else bif g.beq 36 then .of [Z40_W c14] else noEnt
def E_Y32_T (N : Nat) : Table := E_Y32_TG (@Z68 N) (@Z69 N) (@Z77 N) (@Z76 N) (@Z79 N) (@Z78 N) (@Z88 N) (@Z89 N) (@Z64 N) (@Z62 N) (@Z65 N) (@Z63 N) (@Z44 N) (@Z15 N) (@Z40 N)
def Z90_W (f : Z90_Ty) : Var := ⟨[.v (.ptr 0 0)], G1, fun t u K => f u.1.2.2.1 u.1.2.2.2.2.1 u.1.2.2.2.2.2.1 u.1.2.2.2.2.2.2.2.2.2.2.1 u.1.2.2.2.2.2.2.2.2.2.2.2.1 u.1.2.2.2.2.2.2.2.2.2.2.2.2.1 u.2.1 u.2.2.1 u.2.2.2.1 u.2.2.2.2.1.2.2.2.1 u.2.2.2.2.2.1.2.1 u.2.2.2.2.2.2.1 u.2.2.2.2.2.2.2.1 u.2.2.2.2.2.2.2.2.1 u.2.2.2.2.2.2.2.2.2.1.2.1 u.2.2.2.2.2.2.2.2.2.2.1 u.2.2.2.2.2.2.2.2.2.2.2.1 u.2.2.2.2.2.2.2.2.2.2.2.2.1 (fun y0 y1 y2 y3 y4 y5 y6 y7 y8 y9 y10 y11 y12 y13 y14 y15 y16 y17 => K (.tup []) (G12 y0 y1 y2 y3 y4 y5 y6 y7 y8 y9 y10 y11 y12 y13 y14 y15 y16 y17))⟩
def Z90_F : Nat → Fam := fun _ => noFam
def Z91_W (f : Z91_Ty) : Var := ⟨[.v (.ptr 0 0)], G0, fun t u K => f u.1.1 u.1.2.1 u.1.2.2.1 u.1.2.2.2.2.1 u.1.2.2.2.2.2.1 u.1.2.2.2.2.2.2.2.2.1 u.1.2.2.2.2.2.2.2.2.2.2.1 u.1.2.2.2.2.2.2.2.2.2.2.2.1 u.1.2.2.2.2.2.2.2.2.2.2.2.2.1 u.2.1 u.2.2.1.2.2.2.1 u.2.2.2.1.2.1 u.2.2.2.2.1 u.2.2.2.2.2.1 u.2.2.2.2.2.2.1 u.2.2.2.2.2.2.2.1.2.1 u.2.2.2.2.2.2.2.2.1 u.2.2.2.2.2.2.2.2.2.1 (fun y0 y1 y2 y3 y4 y5 y6 y7 y8 y9 y10 y11 y12 y13 y14 y15 y16 y17 => K (.tup []) (G17 y0 y1 y2 y3 y4 y5 y6 y7 y8 y9 y10 y11 y12 y13 y14 y15 y16 y17))⟩
def Z91_F : Nat → Fam := fun _ => noFam
def E_Y32 (N : Nat) : Ent := .of [Z90_W (Z90 N), Z91_W (Z91 N)]
def E_Z59_TG (c0 : Z90_Ty) (c1 : Z91_Ty) (c2 : Z70_Ty) (c3 : Z71_Ty) (c4 : Z96_Ty) (c5 : Z94_Ty) : Table := fun g => bif g.beq 21 then .of [Z90_W c0, Z91_W c1] else bif g.beq 20 then .of [Z70_W c2, Z71_W c3] else bif g.beq 19 then .of [Z96_W c4, Z94_W c5] else noEnt
def E_Z59_T (N : Nat) : Table := E_Z59_TG (@Z90 N) (@Z91 N) (@Z70 N) (@Z71 N) (@Z96 N) (@Z94 N)
def Z60_W (f : Z60_Ty) : Var := ⟨[.agg [.c (.wl 0 2), .c (.wl 1 1)], .v .nils, .agg [.c (.wl 2 1), .c (.wl 3 1), .c (.wl 4 1)], .v (.int .i64)], G22, fun t u K => f t.2.2.2.1 u.1 u.2.1 u.2.2.1 u.2.2.2.1 u.2.2.2.2.1 (fun y0 y1 y2 y3 y4 y5 => K (.tup [(.v .nilp), (.v (.int .i64 y0))]) (G11 y1 y2 y3 y4 y5)) (fun y0 y1 y2 y3 y4 => K (.tup [(.v .nilp), (.v (.int .i64 12))]) (G11 y0 y1 y2 y3 y4)) (fun y0 y1 y2 y3 y4 => K (.tup [(.v .nilp), (.v (.int .i64 1))]) (G11 y0 y1 y2 y3 y4)) (fun y0 y1 y2 y3 y4 y5 y6 y7 y8 y9 y10 y11 y12 y13 y14 y15 y16 y17 y18 y19 => K (.tup [(.v (.ptr 5 0)), (.v (.int .i64 0))]) (G9 y0 y1 y2 y3 y4 y5 y6 y7 y8 y9 y10 y11 y12 y13 y14 y15 y16 y17 y18 y19))⟩
def Z60_v0_0 (w : Z60_l0_Ty) : LVar := ⟨[.sv (.v (.int .i64)), .sv (.v .nilp)], G22, fun n t u K => w (fun y0 y1 y2 y3 y4 y5 y6 y7 y8 y9 y10 y11 y12 y13 y14 y15 y16 y17 y18 y19 => K (.exit 0) [(.sv (.v (.ptr 5 0)))] (G9 y0 y1 y2 y3 y4 y5 y6 y7 y8 y9 y10 y11 y12 y13 y14 y15 y16 y17 y18 y19)) n (.v0 t.1 u.1 u.2.1 u.2.2.1 u.2.2.2.1 u.2.2.2.2.1)⟩
def Z60_v0_1 (w : Z60_l0_Ty) : LVar := ⟨[.sv (.v (.int .i64)), .sv (.v (.ptr 5 0))], [.rows P0, .rows .str, .rows (.isl (.int .u8)), .rows (.isl (.int .u8)), .rows .bool, .cells [.c (.wl 0 2), .c (.wl 1 1), .c (.int .i64), .c (.wl 6 1), .row (.int .u16) 8, .row (.int .u8) 32, .c (.ptr 7 0), .c (.ptr 12 0), .c (.wl 3 1), .c (.wl 14 2), .c (.int .i64), .c (.int .u16), .c (.int .i64)], .rows (.int .u16), .cells [.c (.ptr 8 0), .c (.map 10), .c (.wl 11 2), .row (.int .i64) 4], .cells [.c (.map 9), .c (.int .i64)], .map P3 P1 true true, .map (.int .i64) (.isl (.int .u8)) false false, .rows P0, .cells [.c (.wl 13 1), .c (.int .i64)], .rows .bool, .rows P2], fun n t u K => w (fun y0 y1 y2 y3 y4 y5 y6 y7 y8 y9 y10 y11 y12 y13 y14 y15 y16 y17 y18 y19 => K (.exit 0) [(.sv (.v (.ptr 5 0)))] (G9 y0 y1 y2 y3 y4 y5 y6 y7 y8 y9 y10 y11 y12 y13 y14 y15 y16 y17 y18 y19)) n (.v1 t.1 u.1 u.2.1 u.2.2.1 u.2.2.2.1 u.2.2.2.2.1 u.2.2.2.2.2.1.2.2.1 u.2.2.2.2.2.1.2.2.2.2.1 u.2.2.2.2.2.1.2.2.2.2.2.1 u.2.2.2.2.2.1.2.2.2.2.2.2.2.2.2.2.1 u.2.2.2.2.2.1.2.2.2.2.2.2.2.2.2.2.2.1 u.2.2.2.2.2.1.2.2.2.2.2.2.2.2.2.2.2.2.1 u.2.2.2.2.2.2.1 u.2.2.2.2.2.2.2.1.2.2.2.1 u.2.2.2.2.2.2.2.2.1.2.1 u.2.2.2.2.2.2.2.2.2.1 u.2.2.2.2.2.2.2.2.2.2.1 u.2.2.2.2.2.2.2.2.2.2.2.1 u.2.2.2.2.2.2.2.2.2.2.2.2.1.2.1 u.2.2.2.2.2.2.2.2.2.2.2.2.2.1 u.2.2.2.2.2.2.2.2.2.2.2.2.2.2.1)⟩
def Z60_F0 (w : Z60_l0_Ty) : Fam := ⟨⟨false, [3, 10], [10], ⟨[], [], []⟩, ⟨[], [], []⟩⟩, [Z60_v0_0 w, Z60_v0_1 w]⟩
def Z60_F (w0 : Z60_l0_Ty) : Nat → Fam := fun i => bif i.beq 6 then Z60_F0 w0 else noFam
def Z59_W (f : Z59_Ty) : Var := ⟨[.agg [.c (.isl P0), .c (.isl .str)], .v (.isl P4), .agg [.c (.isl (.isl (.int .u8))), .c (.isl (.isl (.int .u8))), .c (.isl .bool)], .v (.int .i64)], [], fun t u K => f t.1.1 t.1.2.1 t.2.1 t.2.2.1.1 t.2.2.1.2.1 t.2.2.1.2.2.1 t.2.2.2.1 (fun y0 => K (.tup [(.v .nilp), (.v (.int .i64 y0))]) []) (K (.tup [(.v .nilp), (.v (.int .i64 11))]) []) (K (.tup [(.v .nilp), (.v (.int .i64 12))]) []) (K (.tup [(.v .nilp), (.v (.int .i64 1))]) []) (fun y0 y1 y2 y3 y4 y5 y6 y7 y8 y9 y10 y11 y12 y13 y14 y15 y16 y17 => K (.tup [(.v (.ptr 0 0)), (.v (.int .i64 0))]) (G8 y0 y1 y2 y3 y4 y5 y6 y7 y8 y9 y10 y11 y12 y13 y14 y15 y16 y17))⟩
def Z59_v0_0 (w : Z59_l0_Ty) : LVar := ⟨[.sv (.v (.int .i64)), .sv (.v .nilp)], [], fun n t u K => w (fun y0 y1 y2 y3 y4 y5 y6 y7 y8 y9 y10 y11 y12 y13 y14 y15 y16 y17 => K (.exit 0) [(.sv (.v (.ptr 0 0)))] (G8 y0 y1 y2 y3 y4 y5 y6 y7 y8 y9 y10 y11 y12 y13 y14 y15 y16 y17)) n (.v0 t.1)⟩
def Z59_v0_1 (w : Z59_l0_Ty) : LVar := ⟨[.sv (.v (.int .i64)), .sv (.v (.ptr 0 0))], G0, fun n t u K => w (fun y0 y1 y2 y3 y4 y5 y6 y7 y8 y9 y10 y11 y12 y13 y14 y15 y16 y17 => K (.exit 0) [(.sv (.v (.ptr 0 0)))] (G8 y0 y1 y2 y3 y4 y5 y6 y7 y8 y9 y10 y11 y12 y13 y14 y15 y16 y17)) n (.v1 t.1 u.1.1 u.1.2.1 u.1.2.2.1 u.1.2.2.2.2.1 u.1.2.2.2.2.2.1 u.1.2.2.2.2.2.2.2.2.1 u.1.2.2.2.2.2.2.2.2.2.2.1 u.1.2.2.2.2.2.2.2.2.2.2.2.1 u.1.2.2.2.2.2.2.2.2.2.2.2.2.1 u.2.1 u.2.2.1.2.2.2.1 u.2.2.2.1.2.1 u.2.2.2.2.1 u.2.2.2.2.2.1 u.2.2.2.2.2.2.1 u.2.2.2.2.2.2.2.1.2.1 u.2.2.2.2.2.2.2.2.1 u.2.2.2.2.2.2.2.2.2.1)⟩
def Z59_F0 (w : Z59_l0_Ty) : Fam := ⟨⟨false, [3, 10], [10], ⟨[], [], []⟩, ⟨[], [], []⟩⟩, [Z59_v0_0 w, Z59_v0_1 w]⟩
def Z59_F (w0 : Z59_l0_Ty) : Nat → Fam := fun i => bif i.beq 6 then Z59_F0 w0 else noFam
def E_Z59 (N : Nat) : Ent := .of [Z60_W (Z60 N), Z59_W (Z59 N)]
def E_Z55_TG (c0 : Z60_Ty) (c1 : Z59_Ty) : Table := fun g => bif g.beq 14 then .of [Z60_W c0, Z59_W c1] else noEnt
def E_Z55_T (N : Nat) : Table := E_Z55_TG (@Z60 N) (@Z59 N)
def Z56_W (f : Z56_Ty) : Var := ⟨[.agg [.c (.wl 0 2), .c .nils], .v .nils, .agg [.c .nils, .c .nils, .c .nils], .v (.int .i64)], [.rows P0], fun t u K => f t.2.2.2.1 u.1 (fun y0 y1 y2 => K (.tup [(.agg [(.c (.wl 1 2)), (.c (.int .i64 0)), (.c (.int .u16 0))]), (.v (.int .i64 y0))]) [(.cells [(row P0 y1)]), (.cells [(row P2 y2)])]) (fun y0 y1 => K (.tup [(.agg [(.c (.wl 1 2)), (.c (.int .i64 0)), (.c (.int .u16 0))]), (.v (.int .i64 12))]) [(.cells [(row P0 y0)]), (.cells [(row P2 y1)])]) (fun y0 y1 => K (.tup [(.agg [(.c (.wl 1 2)), (.c (.int .i64 0)), (.c (.int .u16 0))]), (.v (.int .i64 1))]) [(.cells [(row P0 y0)]), (.cells [(row P2 y1)])]) (fun y0 y1 y2 y3 => K (.tup [(.agg [(.c (.wl 1 2)), (.c (.int .i64 y0)), (.c (.int .u16 y1))]), (.v (.int .i64 0))]) [(.cells [(row P0 y2)]), (.cells [(row P2 y3)])])⟩
def Z56_F : Nat → Fam := fun _ => noFam
def Z55_W (f : Z55_Ty) : Var := ⟨[.agg [.c (.isl P0), .c (.isl .str)], .v (.isl P4), .agg [.c (.isl (.isl (.int .u8))), .c (.isl (.isl (.int .u8))), .c (.isl .bool)], .v (.int .i64)], [], fun t u K => f t.1.1 t.1.2.1 t.2.1 t.2.2.1.1 t.2.2.1.2.1 t.2.2.1.2.2.1 t.2.2.2.1 (fun y0 y1 => K (.tup [(.agg [(.c (.wl 0 2)), (.c (.int .i64 0)), (.c (.int .u16 0))]), (.v (.int .i64 y0))]) [(.cells [(row P2 y1)])]) (fun y0 => K (.tup [(.agg [(.c (.wl 0 2)), (.c (.int .i64 0)), (.c (.int .u16 0))]), (.v (.int .i64 11))]) [(.cells [(row P2 y0)])]) (fun y0 => K (.tup [(.agg [(.c (.wl 0 2)), (.c (.int .i64 0)), (.c (.int .u16 0))]), (.v (.int .i64 12))]) [(.cells [(row P2 y0)])]) (fun y0 => K (.tup [(.agg [(.c (.wl 0 2)), (.c (.int .i64 0)), (.c (.int .u16 0))]), (.v (.int .i64 1))]) [(.cells [(row P2 y0)])]) (fun y0 y1 y2 => K (.tup [(.agg [(.c (.wl 0 2)), (.c (.int .i64 y0)), (.c (.int .u16 y1))]), (.v (.int .i64 0))]) [(.cells [(row P2 y2)])])⟩
def Z55_F : Nat → Fam := fun _ => noFam
def E_Z55 (N : Nat) : Ent := .of [Z56_W (Z56 N), Z55_W (Z55 N)]
def E_Z57_TG (c0 : Z60_Ty) (c1 : Z59_Ty) : Table := fun g => bif g.beq 14 then .of [Z60_W c0, Z59_W c1] else noEnt
def E_Z57_T (N : Nat) : Table := E_Z57_TG (@Z60 N) (@Z59 N)
def Z58_W (f : Z58_Ty) : Var := ⟨[.agg [.c (.wl 0 2), .c .nils], .v .nils, .agg [.c .nils, .c .nils, .c .nils], .v (.int .i64)], [.rows P0], fun t u K => f t.2.2.2.1 u.1 (fun y0 y1 => K (.sv (.v (.int .i64 y0))) [(.cells [(row P0 y1)])])⟩
def Z58_F : Nat → Fam := fun _ => noFam
def Z57_W (f : Z57_Ty) : Var := ⟨[.agg [.c (.isl P0), .c (.isl .str)], .v (.isl P4), .agg [.c (.isl (.isl (.int .u8))), .c (.isl (.isl (.int .u8))), .c (.isl .bool)], .v (.int .i64)], [], fun t u K => f t.1.1 t.1.2.1 t.2.1 t.2.2.1.1 t.2.2.1.2.1 t.2.2.1.2.2.1 t.2.2.2.1 (fun y0 => K (.sv (.v (.int .i64 y0))) [])⟩
def Z57_F : Nat → Fam := fun _ => noFam
def E_Z57 (N : Nat) : Ent := .of [Z58_W (Z58 N), Z57_W (Z57 N)]
def E_Z51_TG (c0 : Z58_Ty) (c1 : Z57_Ty) (c2 : Z56_Ty) (c3 : Z55_Ty) : Table := fun g => bif g.beq 13 then .of [Z58_W c0, Z57_W c1] else bif g.beq 10 then .of [Z56_W c2, Z55_W c3] else noEnt
def E_Z51_T (N : Nat) : Table := E_Z51_TG (@Z58 N) (@Z57 N) (@Z56 N) (@Z55 N)
def Z51_W (f : Z51_Ty) : Var := ⟨[], [], fun t u K => f (fun y0 => K (.sv (.v (.bool y0))) [])⟩
def Z51_F : Nat → Fam := fun _ => noFam
def E_Z51 (N : Nat) : Ent := .of [Z51_W (Z51 N)]
def E_Z46_TG : Table := fun _ => noEnt
def E_Z46_T (N : Nat) : Table := E_Z46_TG
def Z46_W (f : Z46_Ty) : Var := ⟨[.agg [.c (.isl P0), .c (.isl .str)]], [], fun t u K => f t.1.1 t.1.2.1 (fun y0 => K (.sv (.v (.bool y0))) [])⟩
def Z46_v0_0 (w : Z46_l0_Ty) : LVar := ⟨[.sv (.v (.ptr 0 0)), .sv (.v (.int .i64)), .sv (.v (.int .i64))], [.cells [.c (.isl P0), .c (.isl .str)]], fun n t u K => w (fun y0 y1 y2 => K (.exit 0) [(.sv (.v (.ptr 0 0))), (.sv (.v (.int .i64 y0)))] (G23 y1 y2)) n t.2.1 t.2.2.1 u.1.1 u.1.2.1⟩
def Z46_F0 (w : Z46_l0_Ty) : Fam := ⟨⟨false, [1, 3, 4], [1, 3], ⟨[], [], []⟩, ⟨[], [], []⟩⟩, [Z46_v0_0 w]⟩
def Z46_F (w0 : Z46_l0_Ty) : Nat → Fam := fun i => bif i.beq 4 then Z46_F0 w0 else noFam
def E_Z46 (N : Nat) : Ent := .of [Z46_W (Z46 N)]
def E_Y18_TG : Table := fun _ => noEnt
def E_Y18_T (N : Nat) : Table := E_Y18_TG
def Z47_W (f : Z47_Ty) : Var := ⟨[.v (.isl P4), .v .nils, .v .nils], [], fun t u K => f t.1 (fun y0 => K (.sv (.v (.bool y0))) [])⟩
def Z47_v0_0 (w : Z47_l0_Ty) : LVar := ⟨[.sv (.v (.isl P4)), .sv (.v .nils), .sv (.v .nils), .sv (.v (.int .i64))], [], fun n t u K => w (fun y0 y1 => K .ret [(.sv (.v (.isl P4 y0))), (.sv (.v .nils)), (.sv (.v (.bool y1)))] []) (fun y0 => K (.exit 0) [(.sv (.v (.isl P4 y0))), (.sv (.v .nils)), .undef] []) n t.1 t.2.2.2.1⟩
def Z47_F0 (w : Z47_l0_Ty) : Fam := ⟨⟨false, [0, 1, 2, 7], [0, 1, 6], ⟨[], [], []⟩, ⟨[], [], []⟩⟩, [Z47_v0_0 w]⟩
def Z47_v1_0 (w : Z47_l1_Ty) : LVar := ⟨[.sv (.v (.isl P4)), .sv (.v .nils), .sv (.v (.int .i64))], [], fun n t u K => w (fun y0 y1 => K .ret [(.sv (.v (.isl P4 y0))), (.sv (.v (.bool y1)))] []) (fun y0 => K (.exit 2) [(.sv (.v (.isl P4 y0))), .undef] []) n t.1 t.2.2.1⟩
def Z47_F1 (w : Z47_l1_Ty) : Fam := ⟨⟨false, [0, 1, 8], [0, 6], ⟨[], [], []⟩, ⟨[], [], []⟩⟩, [Z47_v1_0 w]⟩
def Z47_v2_0 (w : Z47_l2_Ty) : LVar := ⟨[.sv (.v (.isl P4)), .sv (.v (.int .i64))], [], fun n t u K => w (fun y0 => K .ret [(.sv (.v (.bool y0)))] []) (K (.exit 4) [.undef] []) n t.1 t.2.1⟩
def Z47_F2 (w : Z47_l2_Ty) : Fam := ⟨⟨false, [0, 9], [6], ⟨[], [], []⟩, ⟨[], [], []⟩⟩, [Z47_v2_0 w]⟩
def Z47_F (w0 : Z47_l0_Ty) (w1 : Z47_l1_Ty) (w2 : Z47_l2_Ty) : Nat → Fam := fun i => bif i.beq 3 then Z47_F0 w0 else bif i.beq 11 then Z47_F1 w1 else bif i.beq 19 then Z47_F2 w2 else noFam
def Z48_W (f : Z48_Ty) : Var := ⟨[.v .nils, .v (.isl (.isl (.int .u8))), .v .nils], [], fun t u K => f t.2.1 (fun y0 => K (.sv (.v (.bool y0))) [])⟩
def Z48_v0_0 (w : Z48_l0_Ty) : LVar := ⟨[.sv (.v .nils), .sv (.v (.isl (.isl (.int .u8)))), .sv (.v .nils), .sv (.v (.int .i64))], [], fun n t u K => w (fun y0 y1 => K .ret [(.sv (.v .nils)), (.sv (.v (.isl (.isl (.int .u8)) y0))), (.sv (.v (.bool y1)))] []) (fun y0 => K (.exit 0) [(.sv (.v .nils)), (.sv (.v (.isl (.isl (.int .u8)) y0))), .undef] []) n t.2.1 t.2.2.2.1⟩
def Z48_F0 (w : Z48_l0_Ty) : Fam := ⟨⟨false, [0, 1, 2, 7], [0, 1, 6], ⟨[], [], []⟩, ⟨[], [], []⟩⟩, [Z48_v0_0 w]⟩
def Z48_v1_0 (w : Z48_l1_Ty) : LVar := ⟨[.sv (.v .nils), .sv (.v (.isl (.isl (.int .u8)))), .sv (.v (.int .i64))], [], fun n t u K => w (fun y0 => K .ret [(.sv (.v .nils)), (.sv (.v (.bool y0)))] []) (K (.exit 2) [(.sv (.v .nils)), .undef] []) n t.2.1 t.2.2.1⟩
def Z48_F1 (w : Z48_l1_Ty) : Fam := ⟨⟨false, [0, 1, 8], [0, 6], ⟨[], [], []⟩, ⟨[], [], []⟩⟩, [Z48_v1_0 w]⟩
def Z48_v2_0 (w : Z48_l2_Ty) : LVar := ⟨[.sv (.v .nils), .sv (.v (.int .i64))], [], fun n t u K => w (fun y0 => K .ret [(.sv (.v (.bool y0)))] []) (K (.exit 4) [.undef] []) n t.2.1⟩
def Z48_F2 (w : Z48_l2_Ty) : Fam := ⟨⟨false, [0, 9], [6], ⟨[], [], []⟩, ⟨[], [], []⟩⟩, [Z48_v2_0 w]⟩
def Z48_F (w0 : Z48_l0_Ty) (w1 : Z48_l1_Ty) (w2 : Z48_l2_Ty) : Nat → Fam := fun i => bif i.beq 3 then Z48_F0 w0 else bif i.beq 11 then Z48_F1 w1 else bif i.beq 19 then Z48_F2 w2 else noFam
def E_Y18 (N : Nat) : Ent := .of [Z47_W (Z47 N), Z48_W (Z48 N)]
def E_Z50_TG (c0 : Z47_Ty) (c1 : Z48_Ty) : Table := fun g => bif g.beq 8 then .of [Z47_W c0, Z48_W c1] else noEnt
def E_Z50_T (N : Nat) : Table := E_Z50_TG (@Z47 N) (@Z48 N)
def Z50_W (f : Z50_Ty) : Var := ⟨[.agg [.c (.isl (.isl (.int .u8))), .c (.isl (.isl (.int .u8))), .c (.isl .bool)]], [], fun t u K => f t.1.1 t.1.2.1 t.1.2.2.1 (fun y0 => K (.sv (.v (.bool y0))) [])⟩
def Z50_v0_0 (w : Z50_l0_Ty) : LVar := ⟨[.sv (.v (.ptr 0 0)), .sv (.v (.int .i64))], [.cells [.c (.isl (.isl (.int .u8))), .c (.isl (.isl (.int .u8))), .c (.isl .bool)]], fun n t u K => w (fun y0 => K .ret [(.sv (.v (.bool y0)))] []) (K (.exit 0) [.undef] []) n t.2.1 u.1.1 u.1.2.1 u.1.2.2.1⟩
def Z50_F0 (w : Z50_l0_Ty) : Fam := ⟨⟨false, [1, 3], [2], ⟨[], [], []⟩, ⟨[], [], []⟩⟩, [Z50_v0_0 w]⟩
def Z50_F (w0 : Z50_l0_Ty) : Nat → Fam := fun i => bif i.beq 6 then Z50_F0 w0 else noFam
def E_Z50 (N : Nat) : Ent := .of [Z50_W (Z50 N)]
def E_Y19_TG : Table := fun _ => noEnt
def E_Y19_T (N : Nat) : Table := E_Y19_TG
def Z54_W (f : Z54_Ty) : Var := ⟨[.agg [.c (.wl 0 2), .c (.int .i64), .c (.int .u16)], .agg [.c (.wl 1 2), .c (.int .i64), .c (.int .u16)]], [.rows P2, .rows P2], fun t u K => f t.1.2.1 t.1.2.2.1 t.2.1.2.1 t.2.1.2.2.1 u.1 u.2.1 (fun y0 y1 y2 => K (.sv (.v (.bool y0))) [(.cells [(row P2 y1)]), (.cells [(row P2 y2)])])⟩
def Z54_v0_0 (w : Z54_l0_Ty) : LVar := ⟨[.sv (.v (.ptr 2 0)), .sv (.v (.ptr 3 0)), .sv (.v (.int .i64))], [.rows P2, .rows P2, .cells [.c (.wl 0 2), .c (.int .i64), .c (.int .u16)], .cells [.c (.wl 1 2), .c (.int .i64), .c (.int .u16)]], fun n t u K => w (fun y0 y1 y2 => K .ret [(.sv (.v (.bool y0)))] [(.cells [(row P2 y1)]), (.cells [(row P2 y2)])]) (fun y0 y1 => K (.exit 0) [.undef] [(.cells [(row P2 y0)]), (.cells [(row P2 y1)])]) n t.2.2.1 u.1 u.2.1 u.2.2.1.2.1 u.2.2.1.2.2.1 u.2.2.2.1.2.1 u.2.2.2.1.2.2.1⟩
def Z54_F0 (w : Z54_l0_Ty) : Fam := ⟨⟨false, [2, 3, 5], [4], ⟨[], [], []⟩, ⟨[], [], []⟩⟩, [Z54_v0_0 w]⟩
def Z54_F (w0 : Z54_l0_Ty) : Nat → Fam := fun i => bif i.beq 6 then Z54_F0 w0 else noFam
def E_Y19 (N : Nat) : Ent := .of [Z54_W (Z54 N)]
def E_Z49_TG (c0 : Z54_Ty) (c1 : Z58_Ty) (c2 : Z57_Ty) (c3 : Z56_Ty) (c4 : Z55_Ty) (c5 : Z50_Ty) (c6 : Z47_Ty) (c7 : Z48_Ty) (c8 : Z46_Ty) (c9 : Z51_Ty) : Table := fun g => bif g.beq 12 then .of [Z54_W c0] else bif g.beq 13 then .of [Z58_W c1, Z57_W c2] else bif g.beq 10 then .of [Z56_W c3, Z55_W c4] else bif g.beq 9 then .of [Z50_W c5] else bif g.beq 8 then .of [Z47_W c6, Z48_W c7] else bif g.beq 7 then .of [Z46_W c8] else bif g.beq 6 then .of [Z51_W c9] else noEnt
def E_Z49_T (N : Nat) : Table := E_Z49_TG (@Z54 N) (@Z58 N) (@Z57 N) (@Z56 N) (@Z55 N) (@Z50 N) (@Z47 N) (@Z48 N) (@Z46 N) (@Z51 N)
def Z49_W (f : Z49_Ty) : Var := ⟨[.agg [.c (.isl P0), .c (.isl .str)], .v (.isl P4), .agg [.c (.isl (.isl (.int .u8))), .c (.isl (.isl (.int .u8))), .c (.isl .bool), .c (.int .i64)]], [], fun t u K => f t.1.1 t.1.2.1 t.2.1 t.2.2.1.1 t.2.2.1.2.1 t.2.2.1.2.2.1 t.2.2.1.2.2.2.1 (fun y0 => K (.sv (.v (.bool y0))) [])⟩
def Z49_v0_0 (w : Z49_l0_Ty) : LVar := ⟨[.sv (.v (.ptr 0 0)), .sv (.v (.int .i64)), .sv (.v (.ptr 2 0)), .sv (.v (.int .i64)), .sv (.v (.int .i64))], [.cells [.c (.wl 1 2), .c (.int .i64), .c (.int .u16)], .rows P2, .cells [.c (.wl 3 2), .c (.int .i64), .c (.int .u16)], .rows P2], fun n t u K => w (fun y0 y1 y2 y3 y4 y5 y6 y7 y8 => K .ret [(.sv (.v (.bool y0))), (.sv (.v (.ptr 0 0))), (.sv (.v (.int .i64 y1))), (.sv (.v (.ptr 2 0))), (.sv (.v (.int .i64 y2)))] (G24 y3 y4 y5 y6 y7 y8)) (fun y0 y1 y2 y3 y4 y5 y6 y7 => K (.exit 0) [.undef, (.sv (.v (.ptr 0 0))), (.sv (.v (.int .i64 y0))), (.sv (.v (.ptr 2 0))), (.sv (.v (.int .i64 y1)))] (G24 y2 y3 y4 y5 y6 y7)) n t.2.1 t.2.2.2.1 t.2.2.2.2.1 u.1.2.1 u.1.2.2.1 u.2.1 u.2.2.1.2.1 u.2.2.1.2.2.1 u.2.2.2.1⟩
def Z49_F0 (w : Z49_l0_Ty) : Fam := ⟨⟨false, [7, 9, 10, 12, 14], [6, 7, 9, 10, 12], ⟨[], [], []⟩, ⟨[], [], []⟩⟩, [Z49_v0_0 w]⟩
def Z49_F (w0 : Z49_l0_Ty) : Nat → Fam := fun i => bif i.beq 20 then Z49_F0 w0 else noFam
def E_Z49 (N : Nat) : Ent := .of [Z49_W (Z49 N)]
end
end Go.Proofs.YtbclodhbcplhmaaGreat
