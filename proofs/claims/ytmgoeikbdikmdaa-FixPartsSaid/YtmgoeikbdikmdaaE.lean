/-
  Their entries (printed by a program of this work).
-/
import Derived.Test.YtmgoeikbdikmdaaProg
import Derived.Test.YtmgoeikbdikmdaaD
set_option linter.unusedVariables false
set_option maxRecDepth 100000
namespace Go.Proofs.Ytmgoeikbdikmdaa
open Go.Gx
noncomputable section
abbrev P0 : Sh := .pair (.int .i64) (.pair (.int .i64) (.pair (.int .u16) (.pair (.int .i64) (.pair (.int .i64) (.int .i64)))))
abbrev P1 : Sh := .pair (.int .i64) (.pair (.pair (.int .i64) (.pair (.int .i64) (.pair (.int .u16) (.pair (.int .u8) (.pair (.int .u8) (.int .u8)))))) (.pair (.int .i64) (.pair (.int .i64) (.pair (.int .i64) (.int .i64)))))
abbrev P2 : Sh := .pair (.int .i64) (.pair (.int .i64) (.pair (.int .u16) (.pair (.int .u8) (.pair (.int .u8) (.int .u8)))))
abbrev G0 : List Gx.PObj := [.cells [.c (.wl 1 6), .c (.map 2), .c (.map 3)], .rows P0, .map P0 (.int .i64) true false, .map (.int .i64) (.int .i64) false false]
def G1 := fun a0 a1 a2 => ([(.cells [(.c (.wl 4 6)), (.c (.map 2)), (.c (.map 3))]), .dead, (.map P0 (.int .i64) true false a0), (.map (.int .i64) (.int .i64) false false a1), (.cells [(row P0 a2)])] : List Gx.Obj)
def G2 := fun a0 a1 a2 a3 a4 => ([(.cells [(.c (.wl 4 6)), (.c (.map 2)), (.c (.map 3))]), .dead, (.map P0 (.int .i64) true false a0), (.map (.int .i64) (.int .i64) false false a1), (.cells [(row P0 a2)]), (.cells [(.row P1 (List.length a3) a3)]), (.cells [(.row (.int .i64) 64 a4)])] : List Gx.Obj)
def G3 := fun a0 a1 a2 => ([(.cells [(.c (.wl 1 6)), (.c (.map 2)), (.c (.map 3))]), (.cells [(row P0 a0)]), (.map P0 (.int .i64) true false a1), (.map (.int .i64) (.int .i64) false false a2)] : List Gx.Obj)
abbrev G4 : List Gx.PObj := [.cells [.c (.wl 4 6), .c (.map 2), .c (.map 3)], .dead, .map P0 (.int .i64) true false, .map (.int .i64) (.int .i64) false false, .rows P0, .rows P1, .cells [.row (.int .i64) 64], .cells [.c (.int .i64), .c (.int .i64), .c (.int .u16), .c (.int .u8), .c (.int .u8), .c (.int .u8)], .cells [.c (.int .i64), .c (.int .i64), .c (.int .i64), .c (.int .u16), .c (.int .u8), .c (.int .u8), .c (.int .u8), .c (.int .i64), .row (.int .i64) 3]]
abbrev G5 : List Gx.PObj := [.cells [.c (.wl 1 6), .c (.map 2), .c (.map 3)], .rows P0, .map P0 (.int .i64) true false, .map (.int .i64) (.int .i64) false false, .rows (.int .i64)]
def G6 := fun a0 a1 a2 a3 => ([(.cells [(.c (.wl 1 6)), (.c (.map 2)), (.c (.map 3))]), (.cells [(row P0 a0)]), (.map P0 (.int .i64) true false a1), (.map (.int .i64) (.int .i64) false false a2), (.cells [(row (.int .i64) a3)])] : List Gx.Obj)
def G7 := fun a0 a1 a2 a3 => ([(.cells [(.c (.wl 4 6)), (.c (.map 2)), (.c (.map 3))]), .dead, (.map P0 (.int .i64) true false a0), (.map (.int .i64) (.int .i64) false false a1), (.cells [(row P0 a2)]), (.cells [(.row P1 (List.length a3) a3)])] : List Gx.Obj)
def G8 := fun a0 a1 => ([(.sv (.v (.ptr 0 0))), (.sv (.v (.isl P2 a0))), .undef, .undef, (.sv (.v (.wl 5 11))), (.sv (.v (.ptr 6 0))), (.sv (.v (.int .i64 a1)))] : List Gx.Slot)
abbrev G9 : List Gx.PObj := [.cells [.c (.wl 1 6), .c (.map 2), .c (.map 3)], .rows P0, .map P0 (.int .i64) true false, .map (.int .i64) (.int .i64) false false, .rows P1, .rows (.int .u16), .rows (.int .i64)]
def G10 := fun a0 a1 a2 => ([(.sv (.v (.ptr 0 0))), (.sv (.v (.isl P2 a0))), (.sv (.v .nils)), (.sv (.v (.bool a1))), (.sv (.v (.wl 5 11))), (.sv (.v (.ptr 6 0))), (.sv (.v (.int .i64 a2)))] : List Gx.Slot)
def G11 := fun a0 a1 a2 a3 a4 a5 => ([(.cells [(.c (.wl 1 6)), (.c (.map 2)), (.c (.map 3))]), (.cells [(row P0 a0)]), (.map P0 (.int .i64) true false a1), (.map (.int .i64) (.int .i64) false false a2), (.cells [(.row P1 (List.length a3) a3)]), (.cells [(row (.int .u16) a4)]), (.cells [(row (.int .i64) a5)])] : List Gx.Obj)
def G12 := fun a0 a1 a2 a3 a4 a5 => ([(.cells [(.c (.wl 6 6)), (.c (.map 2)), (.c (.map 3))]), .dead, (.map P0 (.int .i64) true false a0), (.map (.int .i64) (.int .i64) false false a1), (.cells [(row (.int .i64) a2)]), (.cells [(row (.int .u16) a3)]), (.cells [(row P0 a4)]), (.cells [(row (.int .i64) a5)])] : List Gx.Obj)
def G13 := fun a0 a1 a2 a3 a4 => ([(.cells [(.c (.wl 5 6)), (.c (.map 2)), (.c (.map 3))]), .dead, (.map P0 (.int .i64) true false a0), (.map (.int .i64) (.int .i64) false false a1), (.cells [(row (.int .i64) a2)]), (.cells [(row P0 a3)]), (.cells [(row (.int .i64) a4)])] : List Gx.Obj)
def G14 := fun a0 a1 a2 a3 a4 a5 => ([(.cells [(.c (.wl 5 6)), (.c (.map 2)), (.c (.map 3))]), .dead, (.map P0 (.int .i64) true false a0), (.map (.int .i64) (.int .i64) false false a1), (.cells [(.row (.int .i64) a2 a3)]), (.cells [(row P0 a4)]), (.cells [(row (.int .i64) a5)])] : List Gx.Obj)
def G15 := fun a0 a1 a2 a3 a4 => ([(.cells [(.c (.wl 1 6)), (.c (.map 2)), (.c (.map 3))]), (.cells [(row P0 a0)]), (.map P0 (.int .i64) true false a1), (.map (.int .i64) (.int .i64) false false a2), (.cells [(row (.int .i64) a3)]), (.cells [(row (.int .i64) a4)])] : List Gx.Obj)
def G16 := fun a0 a1 a2 a3 a4 => ([(.cells [(.c (.wl 1 6)), (.c (.map 2)), (.c (.map 3))]), (.cells [(row P0 a0)]), (.map P0 (.int .i64) true false a1), (.map (.int .i64) (.int .i64) false false a2), (.cells [(row (.int .i64) a3)]), (.cells [(row .bool a4)])] : List Gx.Obj)
abbrev G17 : List Gx.PObj := [.cells [.c (.wl 1 6), .c (.map 2), .c (.map 3)], .rows P0, .map P0 (.int .i64) true false, .map (.int .i64) (.int .i64) false false, .rows (.int .i64), .rows .bool]
def E_Z32_TG : Table := fun _ => noEnt
def E_Z32_T (N : Nat) : Table := E_Z32_TG
def Z32_W (f : Z32_Ty) : Var := ⟨[], [], fun t u K => f (fun y0 y1 y2 => K (.sv (.v (.ptr 0 0))) (G3 y0 y1 y2))⟩
def Z32_F : Nat → Fam := fun _ => noFam
def E_Z32 (N : Nat) : Ent := .of [Z32_W (Z32 N)]
def E_Z38_TG : Table := fun _ => noEnt
def E_Z38_T (N : Nat) : Table := E_Z38_TG
def Z38_W (f : Z38_Ty) : Var := ⟨[.v (.int .i64)], [], fun t u K => f t.1 (fun y0 => K (.sv (.v (.bool y0))) [])⟩
def Z38_F : Nat → Fam := fun _ => noFam
def E_Z38 (N : Nat) : Ent := .of [Z38_W (Z38 N)]
def E_Y21_TG : Table := fun _ => noEnt
def E_Y21_T (N : Nat) : Table := E_Y21_TG
def Z27_W (f : Z27_Ty) : Var := ⟨[.v (.ptr 0 0), .agg [.c (.int .i64), .c (.int .i64), .c (.int .u16), .c (.int .i64), .c (.int .i64), .c (.int .i64)]], G0, fun t u K => f t.2.1.1 t.2.1.2.1 t.2.1.2.2.1 t.2.1.2.2.2.1 t.2.1.2.2.2.2.1 t.2.1.2.2.2.2.2.1 u.2.1 u.2.2.1 u.2.2.2.1 (fun y0 y1 y2 y3 y4 => K (.tup [(.v (.int .i64 y0)), (.v (.int .i64 y1))]) (G1 y2 y3 y4))⟩
def Z27_F : Nat → Fam := fun _ => noFam
def E_Y21 (N : Nat) : Ent := .of [Z27_W (Z27 N)]
def E_Y17_TG (c0 : Z27_Ty) (c1 : Z38_Ty) : Table := fun g => bif g.beq 29 then .of [Z27_W c0] else bif g.beq 28 then .of [Z38_W c1] else noEnt
def E_Y17_T (N : Nat) : Table := E_Y17_TG (@Z27 N) (@Z38 N)
def Z23_W (f : Z23_Ty) : Var := ⟨[.v (.ptr 0 0), .v (.int .i64), .v (.int .i64)], G0, fun t u K => f t.2.1 t.2.2.1 u.2.1 u.2.2.1 u.2.2.2.1 (fun y0 y1 y2 y3 y4 => K (.tup [(.v (.int .i64 y0)), (.v (.int .i64 y1))]) (G1 y2 y3 y4))⟩
def Z23_F : Nat → Fam := fun _ => noFam
def E_Y17 (N : Nat) : Ent := .of [Z23_W (Z23 N)]
def E_Z37_TG (c0 : Z38_Ty) : Table := fun g => bif g.beq 28 then .of [Z38_W c0] else noEnt
def E_Z37_T (N : Nat) : Table := E_Z37_TG (@Z38 N)
def Z37_W (f : Z37_Ty) : Var := ⟨[.v (.int .i64)], [], fun t u K => f t.1 (fun y0 => K (.sv (.v (.int .u16 y0))) [])⟩
def Z37_F : Nat → Fam := fun _ => noFam
def E_Z37 (N : Nat) : Ent := .of [Z37_W (Z37 N)]
def E_Y7_TG (c0 : Z27_Ty) (c1 : Z37_Ty) (c2 : Z38_Ty) : Table := fun g => bif g.beq 29 then .of [Z27_W c0] else bif g.beq 30 then .of [Z37_W c1] else bif g.beq 28 then .of [Z38_W c2] else noEnt
def E_Y7_T (N : Nat) : Table := E_Y7_TG (@Z27 N) (@Z37 N) (@Z38 N)
def Z13_W (f : Z13_Ty) : Var := ⟨[.v (.ptr 0 0), .v (.int .i64), .v (.int .u16)], G0, fun t u K => f t.2.1 t.2.2.1 u.2.1 u.2.2.1 u.2.2.2.1 (fun y0 y1 y2 y3 y4 => K (.tup [(.v (.int .i64 y0)), (.v (.int .i64 y1))]) (G1 y2 y3 y4))⟩
def Z13_F : Nat → Fam := fun _ => noFam
def E_Y7 (N : Nat) : Ent := .of [Z13_W (Z13 N)]
def E_Z35_TG : Table := fun _ => noEnt
def E_Z35_T (N : Nat) : Table := E_Z35_TG
def Z35_W (f : Z35_Ty) : Var := ⟨[.v (.int .i64)], [], fun t u K => f t.1 (fun y0 => K (.sv (.v (.bool y0))) [])⟩
def Z35_F : Nat → Fam := fun _ => noFam
def E_Z35 (N : Nat) : Ent := .of [Z35_W (Z35 N)]
def E_Y13_TG : Table := fun _ => noEnt
def E_Y13_T (N : Nat) : Table := E_Y13_TG
def Z19_W (f : Z19_Ty) : Var := ⟨[.v (.ptr 0 0), .v (.int .i64)], G0, fun t u K => f t.2.1 u.2.1 u.2.2.1 u.2.2.2.1 (fun y0 y1 y2 y3 y4 y5 y6 y7 y8 y9 => K (.tup [(.agg [(.c (.int .i64 y0)), (.c (.int .i64 y1)), (.c (.int .u16 y2)), (.c (.int .i64 y3)), (.c (.int .i64 y4)), (.c (.int .i64 y5))]), (.v (.bool y6))]) (G3 y7 y8 y9))⟩
def Z19_F : Nat → Fam := fun _ => noFam
def E_Y13 (N : Nat) : Ent := .of [Z19_W (Z19 N)]
def E_Y24_TG (c0 : Z19_Ty) : Table := fun g => bif g.beq 21 then .of [Z19_W c0] else noEnt
def E_Y24_T (N : Nat) : Table := E_Y24_TG (@Z19 N)
def Z30_W (f : Z30_Ty) : Var := ⟨[.v (.ptr 0 0), .v (.wl 4 1)], G5, fun t u K => f u.2.1 u.2.2.1 u.2.2.2.1 u.2.2.2.2.1 (fun y0 y1 y2 y3 y4 => K (.sv (.v (.bool y0))) (G6 y1 y2 y3 y4))⟩
def Z30_v0_0 (w : Z30_l0_Ty) : LVar := ⟨[.sv (.v (.ptr 0 0)), .sv (.v (.wl 4 1)), .sv (.v (.int .i64)), .sv (.v (.int .i64))], G5, fun n t u K => w (fun y0 y1 y2 y3 y4 => K .ret [(.sv (.v (.bool y0)))] (G6 y1 y2 y3 y4)) (fun y0 y1 y2 y3 => K (.exit 0) [.undef] (G6 y0 y1 y2 y3)) n t.2.2.1 t.2.2.2.1 u.2.1 u.2.2.1 u.2.2.2.1 u.2.2.2.2.1⟩
def Z30_F0 (w : Z30_l0_Ty) : Fam := ⟨⟨false, [0, 9, 10, 11], [4], ⟨[], [], []⟩, ⟨[], [], []⟩⟩, [Z30_v0_0 w]⟩
def Z30_F (w0 : Z30_l0_Ty) : Nat → Fam := fun i => bif i.beq 3 then Z30_F0 w0 else noFam
def E_Y24 (N : Nat) : Ent := .of [Z30_W (Z30 N)]
def E_Y18_TG (c0 : Z19_Ty) : Table := fun g => bif g.beq 21 then .of [Z19_W c0] else noEnt
def E_Y18_T (N : Nat) : Table := E_Y18_TG (@Z19 N)
def Z24_W (f : Z24_Ty) : Var := ⟨[.v (.ptr 0 0), .v (.int .i64)], G0, fun t u K => f t.2.1 u.2.1 u.2.2.1 u.2.2.2.1 (fun y0 y1 y2 y3 => K (.sv (.v (.int .i64 y0))) (G3 y1 y2 y3))⟩
def Z24_F : Nat → Fam := fun _ => noFam
def E_Y18 (N : Nat) : Ent := .of [Z24_W (Z24 N)]
def E_Y12_TG (c0 : Z19_Ty) : Table := fun g => bif g.beq 21 then .of [Z19_W c0] else noEnt
def E_Y12_T (N : Nat) : Table := E_Y12_TG (@Z19 N)
def Z18_W (f : Z18_Ty) : Var := ⟨[.v (.ptr 0 0), .v (.int .i64)], G0, fun t u K => f t.2.1 u.2.1 u.2.2.1 u.2.2.2.1 (fun y0 y1 y2 y3 y4 => K (.tup [(.v (.int .u16 y0)), (.v (.bool y1))]) (G3 y2 y3 y4))⟩
def Z18_F : Nat → Fam := fun _ => noFam
def E_Y12 (N : Nat) : Ent := .of [Z18_W (Z18 N)]
def E_Z40_TG (c0 : Z37_Ty) : Table := fun g => bif g.beq 30 then .of [Z37_W c0] else noEnt
def E_Z40_T (N : Nat) : Table := E_Z40_TG (@Z37 N)
def Z40_W (f : Z40_Ty) : Var := ⟨[.v (.int .i64), .v (.int .u16), .v (.int .u16)], [], fun t u K => f t.1 t.2.1 t.2.2.1 (fun y0 => K (.sv (.v (.int .u16 y0))) [])⟩
def Z40_F : Nat → Fam := fun _ => noFam
def E_Z40 (N : Nat) : Ent := .of [Z40_W (Z40 N)]
def E_Z42_TG : Table := fun _ => noEnt
def E_Z42_T (N : Nat) : Table := E_Z42_TG
def Z42_W (f : Z42_Ty) : Var := ⟨[.v (.int .u16), .v (.int .u16)], [], fun t u K => f t.1 t.2.1 (fun y0 => K (.sv (.v (.int .u16 y0))) [])⟩
def Z42_F : Nat → Fam := fun _ => noFam
def E_Z42 (N : Nat) : Ent := .of [Z42_W (Z42 N)]
def E_Z43_TG : Table := fun _ => noEnt
def E_Z43_T (N : Nat) : Table := E_Z43_TG
def Z43_W (f : Z43_Ty) : Var := ⟨[.v .bool], [], fun t u K => f t.1 (fun y0 => K (.sv (.v (.int .u16 y0))) [])⟩
def Z43_F : Nat → Fam := fun _ => noFam
def E_Z43 (N : Nat) : Ent := .of [Z43_W (Z43 N)]
def E_Z41_TG (c0 : Z43_Ty) (c1 : Z42_Ty) (c2 : Z40_Ty) : Table := fun g => bif g.beq 42 then .of [Z43_W c0] else bif g.beq 41 then .of [Z42_W c1] else bif g.beq 40 then .of [Z40_W c2] else noEnt
def E_Z41_T (N : Nat) : Table := E_Z41_TG (@Z43 N) (@Z42 N) (@Z40 N)
def Z41_W (f : Z41_Ty) : Var := ⟨[.v (.int .i64), .v (.int .i64), .v (.int .u16), .v (.int .u16)], [], fun t u K => f t.1 t.2.1 t.2.2.1 t.2.2.2.1 (fun y0 y1 => K (.tup [(.v (.int .u16 y0)), (.v (.bool y1))]) [])⟩
def Z41_F : Nat → Fam := fun _ => noFam
def E_Z41 (N : Nat) : Ent := .of [Z41_W (Z41 N)]
def E_Z36_TG (c0 : Z41_Ty) (c1 : Z37_Ty) (c2 : Z38_Ty) : Table := fun g => bif g.beq 37 then .of [Z41_W c0] else bif g.beq 30 then .of [Z37_W c1] else bif g.beq 28 then .of [Z38_W c2] else noEnt
def E_Z36_T (N : Nat) : Table := E_Z36_TG (@Z41 N) (@Z37 N) (@Z38 N)
def Z36_W (f : Z36_Ty) : Var := ⟨[.v (.int .i64), .v (.int .i64), .v (.int .u16), .v (.int .u16)], [], fun t u K => f t.1 t.2.1 t.2.2.1 t.2.2.2.1 (fun y0 y1 => K (.tup [(.v (.int .u16 y0)), (.v (.int .i64 y1))]) [])⟩
def Z36_F : Nat → Fam := fun _ => noFam
def E_Z36 (N : Nat) : Ent := .of [Z36_W (Z36 N)]
def E_Z39_TG (c0 : Z36_Ty) : Table := fun g => bif g.beq 32 then .of [Z36_W c0] else noEnt
def E_Z39_T (N : Nat) : Table := E_Z39_TG (@Z36 N)
def Z39_W (f : Z39_Ty) : Var := ⟨[.v (.int .i64), .v (.int .i64)], [], fun t u K => f t.1 t.2.1 (fun y0 => K (.sv (.v (.int .i64 y0))) [])⟩
def Z39_F : Nat → Fam := fun _ => noFam
def E_Z39 (N : Nat) : Ent := .of [Z39_W (Z39 N)]
def E_Z34_TG : Table := fun _ => noEnt
def E_Z34_T (N : Nat) : Table := E_Z34_TG
def Z34_W (f : Z34_Ty) : Var := ⟨[.v (.int .i64)], [], fun t u K => f t.1 (fun y0 => K (.sv (.v (.bool y0))) [])⟩
def Z34_F : Nat → Fam := fun _ => noFam
def E_Z34 (N : Nat) : Ent := .of [Z34_W (Z34 N)]
def E_Y19_TG (c0 : Z36_Ty) (c1 : Z13_Ty) (c2 : Z24_Ty) : Table := fun g => bif g.beq 32 then .of [Z36_W c0] else bif g.beq 11 then .of [Z13_W c1] else bif g.beq 20 then .of [Z24_W c2] else noEnt
def E_Y19_T (N : Nat) : Table := E_Y19_TG (@Z36 N) (@Z13 N) (@Z24 N)
def Z25_W (f : Z25_Ty) : Var := ⟨[.v (.ptr 0 0), .v (.int .i64), .v (.int .i64)], G0, fun t u K => f t.2.1 t.2.2.1 u.2.1 u.2.2.1 u.2.2.2.1 (fun y0 y1 y2 y3 y4 y5 => K (.tup [(.v (.int .i64 y0)), (.v (.int .i64 y1)), (.v (.bool y2))]) (G1 y3 y4 y5))⟩
def Z25_F : Nat → Fam := fun _ => noFam
def E_Y19 (N : Nat) : Ent := .of [Z25_W (Z25 N)]
def E_Y14_TG (c0 : Z27_Ty) (c1 : Z13_Ty) (c2 : Z19_Ty) (c3 : Z30_Ty) : Table := fun g => bif g.beq 29 then .of [Z27_W c0] else bif g.beq 11 then .of [Z13_W c1] else bif g.beq 21 then .of [Z19_W c2] else bif g.beq 25 then .of [Z30_W c3] else noEnt
def E_Y14_T (N : Nat) : Table := E_Y14_TG (@Z27 N) (@Z13 N) (@Z19 N) (@Z30 N)
def Z20_W (f : Z20_Ty) : Var := ⟨[.v (.ptr 0 0), .v (.int .i64)], G0, fun t u K => f t.2.1 u.2.1 u.2.2.1 u.2.2.2.1 (fun y0 y1 y2 y3 y4 => K (.tup [(.v (.int .i64 y0)), (.v (.int .i64 y1))]) (G1 y2 y3 y4))⟩
def Z20_F : Nat → Fam := fun _ => noFam
def E_Y14 (N : Nat) : Ent := .of [Z20_W (Z20 N)]
def E_Y16_TG (c0 : Z30_Ty) : Table := fun g => bif g.beq 25 then .of [Z30_W c0] else noEnt
def E_Y16_T (N : Nat) : Table := E_Y16_TG (@Z30 N)
def Z22_W (f : Z22_Ty) : Var := ⟨[.v (.ptr 0 0), .v (.wl 4 1)], G5, fun t u K => f u.2.1 u.2.2.1 u.2.2.2.1 u.2.2.2.2.1 (fun y0 y1 y2 y3 y4 => K (.sv (.v (.wl 5 1))) (G15 y0 y1 y2 y3 y4))⟩
def Z22_v0_0 (w : Z22_l0_Ty) : LVar := ⟨[.sv (.v (.ptr 0 0)), .sv (.v (.wl 4 1)), .sv (.v (.int .i64)), .sv (.v (.wl 4 1)), .sv (.v (.int .i64)), .sv (.v (.int .i64))], G5, fun n t u K => w (fun y0 y1 y2 y3 y4 => K (.exit 0) [(.sv (.v (.ptr 0 0))), (.sv (.v (.wl 4 1))), (.sv (.v (.int .i64 y0)))] (G6 y1 y2 y3 y4)) n t.2.2.1 t.2.2.2.2.1 t.2.2.2.2.2.1 u.2.1 u.2.2.1 u.2.2.2.1 u.2.2.2.2.1⟩
def Z22_F0 (w : Z22_l0_Ty) : Fam := ⟨⟨false, [0, 1, 5, 16, 17, 18], [0, 1, 5], ⟨[], [], []⟩, ⟨[], [], []⟩⟩, [Z22_v0_0 w]⟩
def Z22_v1_0 (w : Z22_l1_Ty) : LVar := ⟨[.sv (.v (.ptr 0 0)), .sv (.v (.int .i64)), .sv (.v (.wl 5 1)), .sv (.v (.wl 4 1)), .sv (.v (.int .i64)), .sv (.v (.int .i64))], G17, fun n t u K => w (fun y0 y1 y2 y3 y4 y5 => K (.exit 2) [(.sv (.v (.ptr 0 0))), (.sv (.v (.int .i64 y0))), (.sv (.v (.wl 5 1)))] (G16 y1 y2 y3 y4 y5)) n t.2.1 t.2.2.2.2.1 t.2.2.2.2.2.1 u.2.1 u.2.2.1 u.2.2.2.1 u.2.2.2.2.1 u.2.2.2.2.2.1⟩
def Z22_F1 (w : Z22_l1_Ty) : Fam := ⟨⟨false, [0, 5, 8, 33, 34, 35], [0, 5, 8], ⟨[], [], []⟩, ⟨[], [], []⟩⟩, [Z22_v1_0 w]⟩
def Z22_v2_0 (w : Z22_l2_Ty) : LVar := ⟨[.sv (.v (.ptr 0 0)), .sv (.v (.wl 5 1)), .sv (.v (.int .i64)), .sv (.v (.int .i64))], G17, fun n t u K => w (fun y0 y1 y2 y3 y4 y5 => K (.exit 4) [(.sv (.v (.wl 5 1))), (.sv (.v (.int .i64 y0)))] (G16 y1 y2 y3 y4 y5)) n t.2.2.1 t.2.2.2.1 u.2.1 u.2.2.1 u.2.2.2.1 u.2.2.2.2.1 u.2.2.2.2.2.1⟩
def Z22_F2 (w : Z22_l2_Ty) : Fam := ⟨⟨false, [0, 8, 11, 12], [8, 11], ⟨[], [], []⟩, ⟨[], [], []⟩⟩, [Z22_v2_0 w]⟩
def Z22_v3_0 (w : Z22_l3_Ty) : LVar := ⟨[.sv (.v (.wl 5 1)), .sv (.v (.wl 6 1)), .sv (.v (.int .i64)), .sv (.v (.int .i64))], [.cells [.c (.wl 1 6), .c (.map 2), .c (.map 3)], .rows P0, .map P0 (.int .i64) true false, .map (.int .i64) (.int .i64) false false, .rows (.int .i64), .rows .bool, .rows (.int .i64)], fun n t u K => w (fun y0 y1 y2 y3 y4 => K (.exit 6) [(.sv (.v (.wl 5 1)))] (G15 y0 y1 y2 y3 y4)) n t.2.2.1 t.2.2.2.1 u.2.1 u.2.2.1 u.2.2.2.1 u.2.2.2.2.1 u.2.2.2.2.2.1 u.2.2.2.2.2.2.1⟩
def Z22_F3 (w : Z22_l3_Ty) : Fam := ⟨⟨false, [8, 14, 82, 83], [14], ⟨[], [], []⟩, ⟨[], [], []⟩⟩, [Z22_v3_0 w]⟩
def Z22_F (w0 : Z22_l0_Ty) (w1 : Z22_l1_Ty) (w2 : Z22_l2_Ty) (w3 : Z22_l3_Ty) : Nat → Fam := fun i => bif i.beq 4 then Z22_F0 w0 else bif i.beq 13 then Z22_F1 w1 else bif i.beq 22 then Z22_F2 w2 else bif i.beq 33 then Z22_F3 w3 else noFam
def E_Y16 (N : Nat) : Ent := .of [Z22_W (Z22 N)]
def E_Y11_TG (c0 : Z27_Ty) (c1 : Z18_Ty) (c2 : Z24_Ty) (c3 : Z30_Ty) : Table := fun g => bif g.beq 29 then .of [Z27_W c0] else bif g.beq 13 then .of [Z18_W c1] else bif g.beq 20 then .of [Z24_W c2] else bif g.beq 25 then .of [Z30_W c3] else noEnt
def E_Y11_T (N : Nat) : Table := E_Y11_TG (@Z27 N) (@Z18 N) (@Z24 N) (@Z30 N)
def Z17_W (f : Z17_Ty) : Var := ⟨[.v (.ptr 0 0), .v (.int .i64), .v (.int .i64), .v (.int .i64)], G0, fun t u K => f t.2.1 t.2.2.1 t.2.2.2.1 u.2.1 u.2.2.1 u.2.2.2.1 (fun y0 y1 y2 y3 y4 => K (.tup [(.v (.int .i64 y0)), (.v (.int .i64 y1))]) (G1 y2 y3 y4))⟩
def Z17_F : Nat → Fam := fun _ => noFam
def E_Y11 (N : Nat) : Ent := .of [Z17_W (Z17 N)]
def E_Y6_TG : Table := fun _ => noEnt
def E_Y6_T (N : Nat) : Table := E_Y6_TG
def Z11_W (f : Z11_Ty) : Var := ⟨[.v (.wl 0 1), .v (.int .i64)], [.rows (.int .i64)], fun t u K => f t.2.1 u.1 (fun y0 y1 => K (.sv (.v (.int .i64 y0))) [(.cells [(row (.int .i64) y1)])])⟩
def Z11_v0_0 (w : Z11_l0_Ty) : LVar := ⟨[.sv (.v (.wl 0 1)), .sv (.v (.int .i64)), .sv (.v (.int .i64)), .sv (.v (.int .i64))], [.rows (.int .i64)], fun n t u K => w (fun y0 y1 => K .ret [(.sv (.v (.int .i64 y0)))] [(.cells [(row (.int .i64) y1)])]) (fun y0 => K (.exit 0) [.undef] [(.cells [(row (.int .i64) y0)])]) n t.2.1 t.2.2.1 t.2.2.2.1 u.1⟩
def Z11_F0 (w : Z11_l0_Ty) : Fam := ⟨⟨false, [0, 1, 7, 8], [4], ⟨[], [], []⟩, ⟨[], [], []⟩⟩, [Z11_v0_0 w]⟩
def Z11_F (w0 : Z11_l0_Ty) : Nat → Fam := fun i => bif i.beq 3 then Z11_F0 w0 else noFam
def Z12_W (f : Z12_Ty) : Var := ⟨[.v (.sl 0 0 1 true true), .v (.int .i64)], [.cells [.rowN (.int .i64)]], fun t u K => f t.1.1 t.1.2.1 t.1.2.2 t.2.1 u.1.1.1 u.1.1.2 (fun y0 y1 y2 => K (.sv (.v (.int .i64 y0))) [(.cells [(.row (.int .i64) y1 y2)])])⟩
def Z12_v0_0 (w : Z12_l0_Ty) : LVar := ⟨[.sv (.v (.sl 0 0 1 true true)), .sv (.v (.int .i64)), .sv (.v (.int .i64)), .sv (.v (.int .i64))], [.cells [.rowN (.int .i64)]], fun n t u K => w (fun y0 y1 y2 => K .ret [(.sv (.v (.int .i64 y0)))] [(.cells [(.row (.int .i64) y1 y2)])]) (fun y0 y1 => K (.exit 0) [.undef] [(.cells [(.row (.int .i64) y0 y1)])]) n t.1.1 t.1.2.1 t.1.2.2 t.2.1 t.2.2.1 t.2.2.2.1 u.1.1.1 u.1.1.2⟩
def Z12_F0 (w : Z12_l0_Ty) : Fam := ⟨⟨false, [0, 1, 7, 8], [4], ⟨[], [], []⟩, ⟨[], [], []⟩⟩, [Z12_v0_0 w]⟩
def Z12_F (w0 : Z12_l0_Ty) : Nat → Fam := fun i => bif i.beq 3 then Z12_F0 w0 else noFam
def E_Y6 (N : Nat) : Ent := .of [Z11_W (Z11 N), Z12_W (Z12 N)]
def E_Y4_TG (c0 : Z13_Ty) : Table := fun g => bif g.beq 11 then .of [Z13_W c0] else noEnt
def E_Y4_T (N : Nat) : Table := E_Y4_TG (@Z13 N)
def Z6_W (f : Z6_Ty) : Var := ⟨[.v (.ptr 0 0), .v (.int .i64), .v (.int .u16), .v .nils], G0, fun t u K => f t.2.1 t.2.2.1 u.2.1 u.2.2.1 u.2.2.2.1 (fun y0 y1 y2 y3 y4 => K (.tup [(.v (.int .i64 y0)), (.v (.int .i64 y1))]) (G1 y2 y3 y4))⟩
def Z6_v0_0 (w : Z6_l0_Ty) : LVar := ⟨[.sv (.v (.ptr 0 0)), .sv (.v (.int .i64)), .sv (.v (.int .u16)), .sv (.v .nils), .sv (.v .nils), .sv (.v (.int .i64)), .sv (.v (.int .i64))], G0, fun n t u K => w (fun y0 y1 y2 y3 y4 => K (.exit 0) [(.sv (.v (.ptr 0 0))), (.sv (.v (.int .i64 y0))), (.sv (.v (.int .u16 y1))), (.sv (.v .nils)), .undef, .undef] (G3 y2 y3 y4)) n t.2.1 t.2.2.1 t.2.2.2.2.2.1 t.2.2.2.2.2.2.1 u.2.1 u.2.2.1 u.2.2.2.1⟩
def Z6_F0 (w : Z6_l0_Ty) : Fam := ⟨⟨false, [0, 1, 2, 3, 21, 22, 23], [0, 1, 2, 3, 8, 9], ⟨[], [], []⟩, ⟨[], [], []⟩⟩, [Z6_v0_0 w]⟩
def Z6_v1_0 (w : Z6_l1_Ty) : LVar := ⟨[.sv (.v (.ptr 0 0)), .sv (.v (.int .i64)), .sv (.v (.int .u16)), .sv (.v .nils), .sv (.v .nils), .sv (.v (.int .i64)), .sv (.v (.int .i64))], G0, fun n t u K => w (fun y0 y1 y2 y3 y4 => K (.exit 2) [(.sv (.v (.ptr 0 0))), (.sv (.v (.int .i64 y0))), (.sv (.v (.int .u16 y1))), (.sv (.v .nils)), .undef, .undef] (G3 y2 y3 y4)) n t.2.1 t.2.2.1 t.2.2.2.2.2.1 t.2.2.2.2.2.2.1 u.2.1 u.2.2.1 u.2.2.2.1⟩
def Z6_F1 (w : Z6_l1_Ty) : Fam := ⟨⟨false, [0, 1, 2, 3, 33, 34, 35], [0, 1, 2, 3, 8, 9], ⟨[], [], []⟩, ⟨[], [], []⟩⟩, [Z6_v1_0 w]⟩
def Z6_v2_0 (w : Z6_l2_Ty) : LVar := ⟨[.sv (.v (.ptr 0 0)), .sv (.v (.int .i64)), .sv (.v (.int .i64)), .sv (.v (.int .i64)), .sv (.v .nils), .sv (.v (.int .i64)), .sv (.v (.int .i64))], [.cells [.c (.wl 4 6), .c (.map 2), .c (.map 3)], .dead, .map P0 (.int .i64) true false, .map (.int .i64) (.int .i64) false false, .rows P0], fun n t u K => w (fun y0 y1 y2 y3 y4 => K (.exit 4) [(.sv (.v (.int .i64 y0))), (.sv (.v (.int .i64 y1)))] (G1 y2 y3 y4)) n t.2.1 t.2.2.1 t.2.2.2.1 t.2.2.2.2.2.1 t.2.2.2.2.2.2.1 u.2.2.1 u.2.2.2.1 u.2.2.2.2.1⟩
def Z6_F2 (w : Z6_l2_Ty) : Fam := ⟨⟨false, [0, 1, 17, 18, 54, 55, 56], [17, 18], ⟨[], [], []⟩, ⟨[], [], []⟩⟩, [Z6_v2_0 w]⟩
def Z6_F (w0 : Z6_l0_Ty) (w1 : Z6_l1_Ty) (w2 : Z6_l2_Ty) : Nat → Fam := fun i => bif i.beq 3 then Z6_F0 w0 else bif i.beq 13 then Z6_F1 w1 else bif i.beq 24 then Z6_F2 w2 else noFam
def E_Y4 (N : Nat) : Ent := .of [Z6_W (Z6 N)]
def E_Y0_TG (c0 : Z6_Ty) : Table := fun g => bif g.beq 36 then .of [Z6_W c0] else noEnt
def E_Y0_T (N : Nat) : Table := E_Y0_TG (@Z6 N)
def Z0_W (f : Z0_Ty) : Var := ⟨[.v (.ptr 0 0), .v .nils], G0, fun t u K => f u.2.1 u.2.2.1 u.2.2.2.1 (fun y0 y1 y2 y3 y4 => K (.tup [(.v (.int .i64 y0)), (.v (.int .i64 y1))]) (G1 y2 y3 y4))⟩
def Z0_F : Nat → Fam := fun _ => noFam
def E_Y0 (N : Nat) : Ent := .of [Z0_W (Z0 N)]
def E_Y1_TG (c0 : Z22_Ty) (c1 : Z19_Ty) : Table := fun g => bif g.beq 22 then .of [Z22_W c0] else bif g.beq 21 then .of [Z19_W c1] else noEnt
def E_Y1_T (N : Nat) : Table := E_Y1_TG (@Z22 N) (@Z19 N)
def Z1_W (f : Z1_Ty) : Var := ⟨[.v (.ptr 0 0), .v (.int .i64)], G0, fun t u K => f t.2.1 u.2.1 u.2.2.1 u.2.2.2.1 (fun y0 y1 y2 y3 => K (.sv (.v (.int .i64 y0))) (G3 y1 y2 y3))⟩
def Z1_F : Nat → Fam := fun _ => noFam
def E_Y1 (N : Nat) : Ent := .of [Z1_W (Z1 N)]
def E_Z10_TG : Table := fun _ => noEnt
def E_Z10_T (N : Nat) : Table := E_Z10_TG
def Z10_W (f : Z10_Ty) : Var := ⟨[.v (.int .i64)], [], fun t u K => f t.1 (fun y0 => K (.sv (.v (.bool y0))) [])⟩
def Z10_F : Nat → Fam := fun _ => noFam
def E_Z10 (N : Nat) : Ent := .of [Z10_W (Z10 N)]
def E_Y26_TG (c0 : Z36_Ty) (c1 : Z37_Ty) : Table := fun g => bif g.beq 32 then .of [Z36_W c0] else bif g.beq 30 then .of [Z37_W c1] else noEnt
def E_Y26_T (N : Nat) : Table := E_Y26_TG (@Z36 N) (@Z37 N)
def Z33_W (f : Z33_Ty) : Var := ⟨[.agg [.c (.int .i64), .c (.int .i64), .c (.int .u16), .c (.int .i64), .c (.int .i64), .c (.int .i64)], .v (.int .i64), .v (.int .u16), .v (.int .u16), .v (.int .u16), .v (.wl 0 1)], [.rows (.int .u16)], fun t u K => f t.1.1 t.1.2.1 t.1.2.2.1 t.1.2.2.2.1 t.1.2.2.2.2.1 t.1.2.2.2.2.2.1 t.2.1 t.2.2.1 t.2.2.2.1 t.2.2.2.2.1 u.1 (fun y0 y1 => K (.sv (.v (.int .u16 y0))) [(.cells [(row (.int .u16) y1)])])⟩
def Z33_F : Nat → Fam := fun _ => noFam
def E_Y26 (N : Nat) : Ent := .of [Z33_W (Z33 N)]
def Z21_W (f : Z21_Ty) : Var := ⟨[.v (.ptr 0 0), .v (.int .i64), .v (.int .i64), .v (.int .i64)], G0, fun t u K => f t.2.1 t.2.2.1 t.2.2.2.1 u.2.1 u.2.2.1 u.2.2.2.1 (fun y0 y1 y2 y3 y4 => K (.tup [(.v (.int .i64 y0)), (.v (.int .i64 y1))]) (G1 y2 y3 y4))⟩
def Z28_W (f : Z28_Ty) : Var := ⟨[.v (.ptr 0 0), .v (.int .i64), .v (.int .i64), .v (.int .i64)], G0, fun t u K => f t.2.1 t.2.2.1 t.2.2.2.1 u.2.1 u.2.2.1 u.2.2.2.1 (fun y0 y1 y2 y3 y4 y5 => K (.tup [(.v (.int .i64 y0)), (.v (.int .i64 y1)), (.v (.bool y2))]) (G1 y3 y4 y5))⟩
def Z31_W (f : Z31_Ty) : Var := ⟨[.v (.ptr 0 0), .v (.int .i64), .v (.int .i64), .v (.int .u16)], G0, fun t u K => f t.2.1 t.2.2.1 t.2.2.2.1 u.2.1 u.2.2.1 u.2.2.2.1 (fun y0 y1 y2 y3 y4 y5 => K (.tup [(.v (.int .i64 y0)), (.v (.int .i64 y1)), (.v (.bool y2))]) (G1 y3 y4 y5))⟩
def Z26_W (f : Z26_Ty) : Var := ⟨[.v (.ptr 0 0), .v (.int .i64), .v (.int .u16)], G0, fun t u K => f t.2.1 t.2.2.1 u.2.1 u.2.2.1 u.2.2.2.1 (fun y0 y1 y2 y3 y4 y5 => K (.tup [(.v (.int .i64 y0)), (.v (.int .i64 y1)), (.v (.bool y2))]) (G1 y3 y4 y5))⟩
def E_Y15_n (N n : Nat) : Ent := .of [Z21_W (@G_term_Arena_Two_Rec.Z21 (G_term_Arena_Two_rec N n))]
def E_Y20_n (N n : Nat) : Ent := .of [Z26_W (@G_term_Arena_Two_Rec.Z26 (G_term_Arena_Two_rec N n))]
def E_Y25_n (N n : Nat) : Ent := .of [Z31_W (@G_term_Arena_Two_Rec.Z31 (G_term_Arena_Two_rec N n))]
def E_Y22_n (N n : Nat) : Ent := .of [Z28_W (@G_term_Arena_Two_Rec.Z28 (G_term_Arena_Two_rec N n))]
def E_Y15_TG (c0 : Z27_Ty) (c1 : Z28_Ty) (c2 : Z34_Ty) (c3 : Z13_Ty) (c4 : Z39_Ty) (c5 : Z36_Ty) (c6 : Z18_Ty) (c7 : Z24_Ty) (c8 : Z30_Ty) (c9 : Z35_Ty) : Table := fun g => bif g.beq 29 then .of [Z27_W c0] else bif g.beq 35 then .of [Z28_W c1] else bif g.beq 34 then .of [Z34_W c2] else bif g.beq 11 then .of [Z13_W c3] else bif g.beq 33 then .of [Z39_W c4] else bif g.beq 32 then .of [Z36_W c5] else bif g.beq 13 then .of [Z18_W c6] else bif g.beq 20 then .of [Z24_W c7] else bif g.beq 25 then .of [Z30_W c8] else bif g.beq 31 then .of [Z35_W c9] else noEnt
def E_Y15_T (N n : Nat) : Table := E_Y15_TG (@Z27 N) (@G_term_Arena_Two_Rec.Z28 (G_term_Arena_Two_rec N n)) (@Z34 N) (@Z13 N) (@Z39 N) (@Z36 N) (@Z18 N) (@Z24 N) (@Z30 N) (@Z35 N)
def Z21_F : Nat → Fam := fun _ => noFam
def E_Y15 (N : Nat) : Ent := E_Y15_n N N
def E_Y20_TG (c0 : Z21_Ty) (c1 : Z13_Ty) (c2 : Z37_Ty) (c3 : Z24_Ty) (c4 : Z20_Ty) (c5 : Z19_Ty) : Table := fun g => bif g.beq 12 then .of [Z21_W c0] else bif g.beq 11 then .of [Z13_W c1] else bif g.beq 30 then .of [Z37_W c2] else bif g.beq 20 then .of [Z24_W c3] else bif g.beq 16 then .of [Z20_W c4] else bif g.beq 21 then .of [Z19_W c5] else noEnt
def E_Y20_T (N n : Nat) : Table := E_Y20_TG (@G_term_Arena_Two_Rec.Z21 (G_term_Arena_Two_rec N n)) (@Z13 N) (@Z37 N) (@Z24 N) (@Z20 N) (@Z19 N)
def Z26_F : Nat → Fam := fun _ => noFam
def E_Y20 (N : Nat) : Ent := E_Y20_n N N
def E_Y25_TG (c0 : Z26_Ty) (c1 : Z37_Ty) (c2 : Z13_Ty) (c3 : Z39_Ty) (c4 : Z24_Ty) : Table := fun g => bif g.beq 43 then .of [Z26_W c0] else bif g.beq 30 then .of [Z37_W c1] else bif g.beq 11 then .of [Z13_W c2] else bif g.beq 33 then .of [Z39_W c3] else bif g.beq 20 then .of [Z24_W c4] else noEnt
def E_Y25_T (N n : Nat) : Table := E_Y25_TG (@G_term_Arena_Two_Rec.Z26 (G_term_Arena_Two_rec N n)) (@Z37 N) (@Z13 N) (@Z39 N) (@Z24 N)
def Z31_F : Nat → Fam := fun _ => noFam
def E_Y25 (N : Nat) : Ent := E_Y25_n N N
def E_Y22_TG (c0 : Z31_Ty) (c1 : Z34_Ty) (c2 : Z18_Ty) (c3 : Z25_Ty) : Table := fun g => bif g.beq 39 then .of [Z31_W c0] else bif g.beq 34 then .of [Z34_W c1] else bif g.beq 13 then .of [Z18_W c2] else bif g.beq 38 then .of [Z25_W c3] else noEnt
def E_Y22_T (N n : Nat) : Table := E_Y22_TG (@G_term_Arena_Two_Rec.Z31 (G_term_Arena_Two_rec N n)) (@Z34 N) (@Z18 N) (@Z25 N)
def Z28_F : Nat → Fam := fun _ => noFam
def E_Y22 (N : Nat) : Ent := E_Y22_n N N
def Z16_W (f : Z16_Ty) : Var := ⟨[.v (.ptr 0 0), .v (.int .i64), .v (.int .i64)], G0, fun t u K => f t.2.1 t.2.2.1 u.2.1 u.2.2.1 u.2.2.2.1 (fun y0 y1 y2 y3 y4 => K (.tup [(.v (.int .i64 y0)), (.v (.int .i64 y1))]) (G1 y2 y3 y4))⟩
def E_Y10_n (N n : Nat) : Ent := .of [Z16_W (@G_term_Arena_Ext_Rec.Z16 (G_term_Arena_Ext_rec N n))]
def E_Y10_TG (c0 : Z27_Ty) (c1 : Z16_Ty) (c2 : Z13_Ty) (c3 : Z38_Ty) (c4 : Z19_Ty) : Table := fun g => bif g.beq 29 then .of [Z27_W c0] else bif g.beq 18 then .of [Z16_W c1] else bif g.beq 11 then .of [Z13_W c2] else bif g.beq 28 then .of [Z38_W c3] else bif g.beq 21 then .of [Z19_W c4] else noEnt
def E_Y10_T (N n : Nat) : Table := E_Y10_TG (@Z27 N) (@G_term_Arena_Ext_Rec.Z16 (G_term_Arena_Ext_rec N n)) (@Z13 N) (@Z38 N) (@Z19 N)
def Z16_F : Nat → Fam := fun _ => noFam
def E_Y10 (N : Nat) : Ent := E_Y10_n N N
def Z14_W (f : Z14_Ty) : Var := ⟨[.v (.ptr 0 0), .v (.int .i64), .v (.int .i64)], G0, fun t u K => f t.2.1 t.2.2.1 u.2.1 u.2.2.1 u.2.2.2.1 (fun y0 y1 y2 y3 y4 => K (.tup [(.v (.int .i64 y0)), (.v (.int .i64 y1))]) (G1 y2 y3 y4))⟩
def E_Y8_n (N n : Nat) : Ent := .of [Z14_W (@G_term_Arena_Cut_Rec.Z14 (G_term_Arena_Cut_rec N n))]
def E_Y8_TG (c0 : Z27_Ty) (c1 : Z16_Ty) (c2 : Z24_Ty) (c3 : Z14_Ty) (c4 : Z13_Ty) (c5 : Z38_Ty) (c6 : Z19_Ty) : Table := fun g => bif g.beq 29 then .of [Z27_W c0] else bif g.beq 18 then .of [Z16_W c1] else bif g.beq 20 then .of [Z24_W c2] else bif g.beq 19 then .of [Z14_W c3] else bif g.beq 11 then .of [Z13_W c4] else bif g.beq 28 then .of [Z38_W c5] else bif g.beq 21 then .of [Z19_W c6] else noEnt
def E_Y8_T (N n : Nat) : Table := E_Y8_TG (@Z27 N) (@Z16 N) (@Z24 N) (@G_term_Arena_Cut_Rec.Z14 (G_term_Arena_Cut_rec N n)) (@Z13 N) (@Z38 N) (@Z19 N)
def Z14_F : Nat → Fam := fun _ => noFam
def E_Y8 (N : Nat) : Ent := E_Y8_n N N
def E_Y3_TG (c0 : Z21_Ty) (c1 : Z14_Ty) (c2 : Z16_Ty) (c3 : Z17_Ty) (c4 : Z20_Ty) : Table := fun g => bif g.beq 12 then .of [Z21_W c0] else bif g.beq 19 then .of [Z14_W c1] else bif g.beq 18 then .of [Z16_W c2] else bif g.beq 17 then .of [Z17_W c3] else bif g.beq 16 then .of [Z20_W c4] else noEnt
def E_Y3_T (N : Nat) : Table := E_Y3_TG (@Z21 N) (@Z14 N) (@Z16 N) (@Z17 N) (@Z20 N)
def Z5_W (f : Z5_Ty) : Var := ⟨[.v (.ptr 0 0), .v (.int .i64), .agg [.c (.int .i64), .c (.int .i64), .c (.int .u16), .c (.int .i64), .c (.int .i64), .c (.int .i64)], .v (.int .i64), .v (.int .i64), .v (.int .i64)], G0, fun t u K => f t.2.1 t.2.2.1.1 t.2.2.1.2.1 t.2.2.1.2.2.1 t.2.2.1.2.2.2.1 t.2.2.1.2.2.2.2.1 t.2.2.1.2.2.2.2.2.1 t.2.2.2.1 t.2.2.2.2.1 t.2.2.2.2.2.1 u.2.1 u.2.2.1 u.2.2.2.1 (fun y0 y1 y2 y3 y4 => K (.tup [(.v (.int .i64 y0)), (.v (.int .i64 y1))]) (G1 y2 y3 y4))⟩
def Z5_F : Nat → Fam := fun _ => noFam
def E_Y3 (N : Nat) : Ent := .of [Z5_W (Z5 N)]
def E_Y2_TG (c0 : Z13_Ty) (c1 : Z11_Ty) (c2 : Z12_Ty) (c3 : Z5_Ty) (c4 : Z22_Ty) (c5 : Z19_Ty) : Table := fun g => bif g.beq 11 then .of [Z13_W c0] else bif g.beq 24 then .of [Z11_W c1, Z12_W c2] else bif g.beq 23 then .of [Z5_W c3] else bif g.beq 22 then .of [Z22_W c4] else bif g.beq 21 then .of [Z19_W c5] else noEnt
def E_Y2_T (N : Nat) : Table := E_Y2_TG (@Z13 N) (@Z11 N) (@Z12 N) (@Z5 N) (@Z22 N) (@Z19 N)
def Z3_W (f : Z3_Ty) : Var := ⟨[.v (.ptr 0 0), .v (.int .i64), .v (.wl 4 1), .v (.wl 5 1)], [.cells [.c (.wl 1 6), .c (.map 2), .c (.map 3)], .rows P0, .map P0 (.int .i64) true false, .map (.int .i64) (.int .i64) false false, .rows (.int .i64), .rows (.int .u16)], fun t u K => f t.2.1 u.2.1 u.2.2.1 u.2.2.2.1 u.2.2.2.2.1 u.2.2.2.2.2.1 (fun y0 y1 y2 y3 y4 y5 y6 => K (.tup [(.v (.int .i64 y0)), (.v (.int .i64 y1))]) [(.cells [(.c (.wl 6 6)), (.c (.map 2)), (.c (.map 3))]), .dead, (.map P0 (.int .i64) true false y2), (.map (.int .i64) (.int .i64) false false y3), (.cells [(row (.int .i64) y4)]), (.cells [(row (.int .u16) y5)]), (.cells [(row P0 y6)])])⟩
def Z3_v0_0 (w : Z3_l0_Ty) : LVar := ⟨[.sv (.v (.ptr 0 0)), .sv (.v (.int .i64)), .sv (.v (.wl 4 1)), .sv (.v (.wl 5 1)), .sv (.v (.wl 7 1)), .sv (.v (.wl 8 1)), .sv (.v (.int .i64)), .sv (.v (.int .i64))], [.cells [.c (.wl 6 6), .c (.map 2), .c (.map 3)], .dead, .map P0 (.int .i64) true false, .map (.int .i64) (.int .i64) false false, .rows (.int .i64), .rows (.int .u16), .rows P0, .rows (.int .i64), .rows (.int .i64)], fun n t u K => w (fun y0 y1 y2 y3 y4 y5 y6 y7 y8 => K .ret [(.sv (.v (.int .i64 y0))), (.sv (.v (.int .i64 y1))), (.sv (.v (.int .i64 y2))), (.sv (.v (.wl 7 1)))] (G12 y3 y4 y5 y6 y7 y8)) (fun y0 y1 y2 y3 y4 y5 y6 => K (.exit 0) [(.sv (.v (.int .i64 y0))), .undef, .undef, (.sv (.v (.wl 7 1)))] (G12 y1 y2 y3 y4 y5 y6)) n t.2.1 t.2.2.2.2.2.2.1 t.2.2.2.2.2.2.2.1 u.2.2.1 u.2.2.2.1 u.2.2.2.2.1 u.2.2.2.2.2.1 u.2.2.2.2.2.2.1 u.2.2.2.2.2.2.2.1 u.2.2.2.2.2.2.2.2.1⟩
def Z3_F0 (w : Z3_l0_Ty) : Fam := ⟨⟨false, [0, 1, 2, 3, 12, 41, 42, 43], [1, 8, 9, 12], ⟨[1], [], []⟩, ⟨[], [], []⟩⟩, [Z3_v0_0 w]⟩
def Z3_F (w0 : Z3_l0_Ty) : Nat → Fam := fun i => bif i.beq 8 then Z3_F0 w0 else noFam
def Z2_W (f : Z2_Ty) : Var := ⟨[.v (.ptr 0 0), .v (.int .i64), .v (.wl 4 1), .v (.isl (.int .u16))], G5, fun t u K => f t.2.1 t.2.2.2.1 u.2.1 u.2.2.1 u.2.2.2.1 u.2.2.2.2.1 (fun y0 y1 y2 y3 y4 y5 => K (.tup [(.v (.int .i64 y0)), (.v (.int .i64 y1))]) [(.cells [(.c (.wl 5 6)), (.c (.map 2)), (.c (.map 3))]), .dead, (.map P0 (.int .i64) true false y2), (.map (.int .i64) (.int .i64) false false y3), (.cells [(row (.int .i64) y4)]), (.cells [(row P0 y5)])])⟩
def Z2_v0_0 (w : Z2_l0_Ty) : LVar := ⟨[.sv (.v (.ptr 0 0)), .sv (.v (.int .i64)), .sv (.v (.wl 4 1)), .sv (.v (.isl (.int .u16))), .sv (.v (.wl 6 1)), .sv (.v (.wl 7 1)), .sv (.v (.int .i64)), .sv (.v (.int .i64))], [.cells [.c (.wl 5 6), .c (.map 2), .c (.map 3)], .dead, .map P0 (.int .i64) true false, .map (.int .i64) (.int .i64) false false, .rows (.int .i64), .rows P0, .rows (.int .i64), .rows (.int .i64)], fun n t u K => w (fun y0 y1 y2 y3 y4 y5 y6 y7 => K .ret [(.sv (.v (.int .i64 y0))), (.sv (.v (.int .i64 y1))), (.sv (.v (.int .i64 y2))), (.sv (.v (.wl 6 1)))] (G13 y3 y4 y5 y6 y7)) (fun y0 y1 y2 y3 y4 y5 => K (.exit 0) [(.sv (.v (.int .i64 y0))), .undef, .undef, (.sv (.v (.wl 6 1)))] (G13 y1 y2 y3 y4 y5)) n t.2.1 t.2.2.2.1 t.2.2.2.2.2.2.1 t.2.2.2.2.2.2.2.1 u.2.2.1 u.2.2.2.1 u.2.2.2.2.1 u.2.2.2.2.2.1 u.2.2.2.2.2.2.1 u.2.2.2.2.2.2.2.1⟩
def Z2_F0 (w : Z2_l0_Ty) : Fam := ⟨⟨false, [0, 1, 2, 3, 12, 41, 42, 43], [1, 8, 9, 12], ⟨[1], [], []⟩, ⟨[], [], []⟩⟩, [Z2_v0_0 w]⟩
def Z2_F (w0 : Z2_l0_Ty) : Nat → Fam := fun i => bif i.beq 8 then Z2_F0 w0 else noFam
def Z4_W (f : Z4_Ty) : Var := ⟨[.v (.ptr 0 0), .v (.int .i64), .v (.sl 4 0 1 true true), .v (.isl (.int .u16))], [.cells [.c (.wl 1 6), .c (.map 2), .c (.map 3)], .rows P0, .map P0 (.int .i64) true false, .map (.int .i64) (.int .i64) false false, .cells [.rowN (.int .i64)]], fun t u K => f t.2.1 t.2.2.1.1 t.2.2.1.2.1 t.2.2.1.2.2 t.2.2.2.1 u.2.1 u.2.2.1 u.2.2.2.1 u.2.2.2.2.1.1.1 u.2.2.2.2.1.1.2 (fun y0 y1 y2 y3 y4 y5 y6 => K (.tup [(.v (.int .i64 y0)), (.v (.int .i64 y1))]) [(.cells [(.c (.wl 5 6)), (.c (.map 2)), (.c (.map 3))]), .dead, (.map P0 (.int .i64) true false y2), (.map (.int .i64) (.int .i64) false false y3), (.cells [(.row (.int .i64) y4 y5)]), (.cells [(row P0 y6)])])⟩
def Z4_v0_0 (w : Z4_l0_Ty) : LVar := ⟨[.sv (.v (.ptr 0 0)), .sv (.v (.int .i64)), .sv (.v (.sl 4 0 1 true true)), .sv (.v (.isl (.int .u16))), .sv (.v (.wl 6 1)), .sv (.v (.wl 7 1)), .sv (.v (.int .i64)), .sv (.v (.int .i64))], [.cells [.c (.wl 5 6), .c (.map 2), .c (.map 3)], .dead, .map P0 (.int .i64) true false, .map (.int .i64) (.int .i64) false false, .cells [.rowN (.int .i64)], .rows P0, .rows (.int .i64), .rows (.int .i64)], fun n t u K => w (fun y0 y1 y2 y3 y4 y5 y6 y7 y8 => K .ret [(.sv (.v (.int .i64 y0))), (.sv (.v (.int .i64 y1))), (.sv (.v (.int .i64 y2))), (.sv (.v (.wl 6 1)))] (G14 y3 y4 y5 y6 y7 y8)) (fun y0 y1 y2 y3 y4 y5 y6 => K (.exit 0) [(.sv (.v (.int .i64 y0))), .undef, .undef, (.sv (.v (.wl 6 1)))] (G14 y1 y2 y3 y4 y5 y6)) n t.2.1 t.2.2.1.1 t.2.2.1.2.1 t.2.2.1.2.2 t.2.2.2.1 t.2.2.2.2.2.2.1 t.2.2.2.2.2.2.2.1 u.2.2.1 u.2.2.2.1 u.2.2.2.2.1.1.1 u.2.2.2.2.1.1.2 u.2.2.2.2.2.1 u.2.2.2.2.2.2.1 u.2.2.2.2.2.2.2.1⟩
def Z4_F0 (w : Z4_l0_Ty) : Fam := ⟨⟨false, [0, 1, 2, 3, 12, 41, 42, 43], [1, 8, 9, 12], ⟨[1], [], []⟩, ⟨[], [], []⟩⟩, [Z4_v0_0 w]⟩
def Z4_F (w0 : Z4_l0_Ty) : Nat → Fam := fun i => bif i.beq 8 then Z4_F0 w0 else noFam
def E_Y2 (N : Nat) : Ent := .of [Z3_W (Z3 N), Z2_W (Z2 N), Z4_W (Z4 N)]
def E_Z9_TG (c0 : Z1_Ty) (c1 : Z0_Ty) (c2 : Z18_Ty) (c3 : Z3_Ty) (c4 : Z2_Ty) (c5 : Z4_Ty) (c6 : Z21_Ty) (c7 : Z13_Ty) (c8 : Z23_Ty) (c9 : Z32_Ty) : Table := fun g => bif g.beq 9 then .of [Z1_W c0] else bif g.beq 14 then .of [Z0_W c1] else bif g.beq 13 then .of [Z18_W c2] else bif g.beq 7 then .of [Z3_W c3, Z2_W c4, Z4_W c5] else bif g.beq 12 then .of [Z21_W c6] else bif g.beq 11 then .of [Z13_W c7] else bif g.beq 10 then .of [Z23_W c8] else bif g.beq 5 then .of [Z32_W c9] else noEnt
def E_Z9_T (N : Nat) : Table := E_Z9_TG (@Z1 N) (@Z0 N) (@Z18 N) (@Z3 N) (@Z2 N) (@Z4 N) (@Z21 N) (@Z13 N) (@Z23 N) (@Z32 N)
def Z9_W (f : Z9_Ty) : Var := ⟨[], [], fun t u K => f (fun y0 => K (.sv (.v (.bool y0))) [])⟩
def Z9_F : Nat → Fam := fun _ => noFam
def E_Z9 (N : Nat) : Ent := .of [Z9_W (Z9 N)]
def E_Y5_TG (c0 : Z14_Ty) (c1 : Z16_Ty) (c2 : Z17_Ty) (c3 : Z21_Ty) (c4 : Z20_Ty) (c5 : Z23_Ty) (c6 : Z24_Ty) (c7 : Z10_Ty) (c8 : Z13_Ty) : Table := fun g => bif g.beq 19 then .of [Z14_W c0] else bif g.beq 18 then .of [Z16_W c1] else bif g.beq 17 then .of [Z17_W c2] else bif g.beq 12 then .of [Z21_W c3] else bif g.beq 16 then .of [Z20_W c4] else bif g.beq 10 then .of [Z23_W c5] else bif g.beq 20 then .of [Z24_W c6] else bif g.beq 15 then .of [Z10_W c7] else bif g.beq 11 then .of [Z13_W c8] else noEnt
def E_Y5_T (N : Nat) : Table := E_Y5_TG (@Z14 N) (@Z16 N) (@Z17 N) (@Z21 N) (@Z20 N) (@Z23 N) (@Z24 N) (@Z10 N) (@Z13 N)
def Z7_W (f : Z7_Ty) : Var := ⟨[.v (.ptr 0 0), .v (.isl P2)], G0, fun t u K => f t.2.1 u.2.1 u.2.2.1 u.2.2.2.1 (fun y0 y1 y2 y3 y4 => K (.tup [(.v (.wl 5 11)), (.v (.bool y0))]) (G7 y1 y2 y3 y4))⟩
def Z7_v0_0 (w : Z7_l0_Ty) : LVar := ⟨[.sv (.v (.ptr 0 0)), .sv (.v (.isl P2)), .sv (.v (.wl 5 11)), .sv (.v (.ptr 6 0)), .sv (.v (.int .i64))], [.cells [.c (.wl 4 6), .c (.map 2), .c (.map 3)], .dead, .map P0 (.int .i64) true false, .map (.int .i64) (.int .i64) false false, .rows P0, .rows P1, .cells [.row (.int .i64) 64]], fun n t u K => w (fun y0 y1 y2 y3 y4 => K .ret [(.sv (.v .nils)), (.sv (.v (.bool y0))), (.sv (.v (.wl 5 11)))] (G7 y1 y2 y3 y4)) (fun y0 y1 y2 y3 => K (.exit 0) [.undef, .undef, (.sv (.v (.wl 5 11)))] (G7 y0 y1 y2 y3)) n t.2.1 t.2.2.2.2.1 u.2.2.1 u.2.2.2.1 u.2.2.2.2.1 u.2.2.2.2.2.1 u.2.2.2.2.2.2.1.1⟩
def Z7_F0 (w : Z7_l0_Ty) : Fam := ⟨⟨false, [0, 1, 6, 7, 8], [4, 5, 6], ⟨[1], [(2, false, P1)], []⟩, ⟨[], [], []⟩⟩, [Z7_v0_0 w]⟩
def Z7_vj0_0 (w : Z7_lj0_Ty) : LVar := ⟨[.sv (.v (.ptr 0 0)), .sv (.v (.isl P2)), .sv (.v (.wl 5 11)), .sv (.v (.ptr 6 0)), .sv (.v (.int .i64)), .sv (.v (.ptr 7 0)), .sv (.v (.ptr 8 0))], G4, fun n t u K => w (fun y0 y1 y2 y3 y4 y5 y6 => K (.exit 1) (G8 y0 y1) (G2 y2 y3 y4 y5 y6)) (fun y0 y1 y2 y3 y4 y5 y6 y7 => K .ret (G10 y0 y1 y2) (G2 y3 y4 y5 y6 y7)) (fun y0 y1 y2 y3 y4 y5 y6 => K .normal (G8 y0 y1) (G2 y2 y3 y4 y5 y6)) n t.2.1 t.2.2.2.2.1 u.2.2.1 u.2.2.2.1 u.2.2.2.2.1 u.2.2.2.2.2.1 u.2.2.2.2.2.2.1.1 u.2.2.2.2.2.2.2.1.1 u.2.2.2.2.2.2.2.1.2.1 u.2.2.2.2.2.2.2.1.2.2.1 u.2.2.2.2.2.2.2.1.2.2.2.1 u.2.2.2.2.2.2.2.1.2.2.2.2.1 u.2.2.2.2.2.2.2.1.2.2.2.2.2.1 u.2.2.2.2.2.2.2.2.1.1 u.2.2.2.2.2.2.2.2.1.2.1 u.2.2.2.2.2.2.2.2.1.2.2.1 u.2.2.2.2.2.2.2.2.1.2.2.2.1 u.2.2.2.2.2.2.2.2.1.2.2.2.2.1 u.2.2.2.2.2.2.2.2.1.2.2.2.2.2.1 u.2.2.2.2.2.2.2.2.1.2.2.2.2.2.2.1 u.2.2.2.2.2.2.2.2.1.2.2.2.2.2.2.2.1 u.2.2.2.2.2.2.2.2.1.2.2.2.2.2.2.2.2.1⟩
def Z7_Fj0 (w : Z7_lj0_Ty) : Fam := ⟨⟨true, [0, 1, 6, 7, 8, 9, 10], [0, 1, 4, 5, 6, 7, 8], ⟨[], [], []⟩, ⟨[1], [(4, false, P1)], []⟩⟩, [Z7_vj0_0 w]⟩
def Z7_vj1_0 (w : Z7_lj1_Ty) : LVar := ⟨[.sv (.v (.ptr 0 0)), .sv (.v (.isl P2)), .sv (.v (.wl 5 11)), .sv (.v (.ptr 6 0)), .sv (.v (.int .i64)), .sv (.v (.ptr 7 0)), .sv (.v (.ptr 8 0)), .sv (.v (.int .i64)), .sv (.v (.int .i64)), .sv (.v (.int .i64)), .sv (.v (.int .i64)), .sv (.v (.int .i64)), .sv (.v (.int .i64))], G4, fun n t u K => w (fun y0 y1 y2 y3 y4 y5 y6 y7 => K .ret (G10 y0 y1 y2) (G2 y3 y4 y5 y6 y7)) (fun y0 y1 y2 y3 y4 y5 y6 => K .normal (G8 y0 y1) (G2 y2 y3 y4 y5 y6)) n t.2.1 t.2.2.2.2.1 t.2.2.2.2.2.2.2.1 t.2.2.2.2.2.2.2.2.1 t.2.2.2.2.2.2.2.2.2.1 t.2.2.2.2.2.2.2.2.2.2.1 t.2.2.2.2.2.2.2.2.2.2.2.1 t.2.2.2.2.2.2.2.2.2.2.2.2.1 u.2.2.1 u.2.2.2.1 u.2.2.2.2.1 u.2.2.2.2.2.1 u.2.2.2.2.2.2.1.1 u.2.2.2.2.2.2.2.1.1 u.2.2.2.2.2.2.2.1.2.1 u.2.2.2.2.2.2.2.1.2.2.1 u.2.2.2.2.2.2.2.1.2.2.2.1 u.2.2.2.2.2.2.2.1.2.2.2.2.1 u.2.2.2.2.2.2.2.1.2.2.2.2.2.1 u.2.2.2.2.2.2.2.2.1.1 u.2.2.2.2.2.2.2.2.1.2.1 u.2.2.2.2.2.2.2.2.1.2.2.1 u.2.2.2.2.2.2.2.2.1.2.2.2.1 u.2.2.2.2.2.2.2.2.1.2.2.2.2.1 u.2.2.2.2.2.2.2.2.1.2.2.2.2.2.1 u.2.2.2.2.2.2.2.2.1.2.2.2.2.2.2.1 u.2.2.2.2.2.2.2.2.1.2.2.2.2.2.2.2.1 u.2.2.2.2.2.2.2.2.1.2.2.2.2.2.2.2.2.1⟩
def Z7_Fj1 (w : Z7_lj1_Ty) : Fam := ⟨⟨true, [0, 1, 6, 7, 8, 9, 10, 11, 12, 13, 14, 15, 16], [0, 1, 4, 5, 6, 7, 8], ⟨[], [], []⟩, ⟨[], [], []⟩⟩, [Z7_vj1_0 w]⟩
def Z7_vj2_0 (w : Z7_lj2_Ty) : LVar := ⟨[.sv (.v (.ptr 0 0)), .sv (.v (.isl P2)), .sv (.v (.wl 5 11)), .sv (.v (.ptr 6 0)), .sv (.v (.int .i64)), .sv (.v (.ptr 7 0)), .sv (.v (.int .i64)), .sv (.v (.int .i64))], [.cells [.c (.wl 4 6), .c (.map 2), .c (.map 3)], .dead, .map P0 (.int .i64) true false, .map (.int .i64) (.int .i64) false false, .rows P0, .rows P1, .cells [.row (.int .i64) 64], .cells [.c (.int .i64), .c (.int .i64), .c (.int .i64), .c (.int .u16), .c (.int .u8), .c (.int .u8), .c (.int .u8), .c (.int .i64), .row (.int .i64) 3]], fun n t u K => w (fun y0 y1 y2 y3 y4 y5 y6 y7 => K .ret (G10 y0 y1 y2) (G2 y3 y4 y5 y6 y7)) (fun y0 y1 y2 y3 y4 y5 y6 => K .normal (G8 y0 y1) (G2 y2 y3 y4 y5 y6)) n t.2.1 t.2.2.2.2.1 t.2.2.2.2.2.2.1 t.2.2.2.2.2.2.2.1 u.2.2.1 u.2.2.2.1 u.2.2.2.2.1 u.2.2.2.2.2.1 u.2.2.2.2.2.2.1.1 u.2.2.2.2.2.2.2.1.1 u.2.2.2.2.2.2.2.1.2.1 u.2.2.2.2.2.2.2.1.2.2.1 u.2.2.2.2.2.2.2.1.2.2.2.1 u.2.2.2.2.2.2.2.1.2.2.2.2.1 u.2.2.2.2.2.2.2.1.2.2.2.2.2.1 u.2.2.2.2.2.2.2.1.2.2.2.2.2.2.1 u.2.2.2.2.2.2.2.1.2.2.2.2.2.2.2.1 u.2.2.2.2.2.2.2.1.2.2.2.2.2.2.2.2.1⟩
def Z7_Fj2 (w : Z7_lj2_Ty) : Fam := ⟨⟨true, [0, 1, 6, 7, 8, 10, 17, 18], [0, 1, 4, 5, 6, 7, 8], ⟨[], [], []⟩, ⟨[], [(4, false, P1)], []⟩⟩, [Z7_vj2_0 w]⟩
def Z7_vj3_0 (w : Z7_lj3_Ty) : LVar := ⟨[.sv (.v (.ptr 0 0)), .sv (.v (.isl P2)), .sv (.v (.wl 5 11)), .sv (.v (.ptr 6 0)), .sv (.v (.int .i64)), .sv (.v (.ptr 7 0)), .sv (.v (.ptr 8 0)), .sv (.v (.int .i64)), .sv (.v (.int .i64)), .sv (.v (.int .i64))], G4, fun n t u K => w (fun y0 y1 y2 y3 y4 y5 y6 y7 y8 y9 y10 y11 y12 y13 y14 y15 y16 y17 => K .normal [(.sv (.v (.ptr 0 0))), (.sv (.v (.isl P2 y0))), (.sv (.v (.wl 5 11))), (.sv (.v (.ptr 6 0))), (.sv (.v (.int .i64 y1))), (.sv (.v (.ptr 7 0))), (.sv (.v (.int .i64 y2))), (.sv (.v (.int .i64 y3)))] [(.cells [(.c (.wl 4 6)), (.c (.map 2)), (.c (.map 3))]), .dead, (.map P0 (.int .i64) true false y4), (.map (.int .i64) (.int .i64) false false y5), (.cells [(row P0 y6)]), (.cells [(.row P1 (List.length y7) y7)]), (.cells [(.row (.int .i64) 64 y8)]), (.cells [(.c (.int .i64 y9)), (.c (.int .i64 y10)), (.c (.int .i64 y11)), (.c (.int .u16 y12)), (.c (.int .u8 y13)), (.c (.int .u8 y14)), (.c (.int .u8 y15)), (.c (.int .i64 y16)), (.row (.int .i64) 3 y17)])]) n t.2.1 t.2.2.2.2.1 t.2.2.2.2.2.2.2.1 t.2.2.2.2.2.2.2.2.1 t.2.2.2.2.2.2.2.2.2.1 u.2.2.1 u.2.2.2.1 u.2.2.2.2.1 u.2.2.2.2.2.1 u.2.2.2.2.2.2.1.1 u.2.2.2.2.2.2.2.1.1 u.2.2.2.2.2.2.2.1.2.1 u.2.2.2.2.2.2.2.1.2.2.1 u.2.2.2.2.2.2.2.1.2.2.2.1 u.2.2.2.2.2.2.2.1.2.2.2.2.1 u.2.2.2.2.2.2.2.1.2.2.2.2.2.1 u.2.2.2.2.2.2.2.2.1.1 u.2.2.2.2.2.2.2.2.1.2.1 u.2.2.2.2.2.2.2.2.1.2.2.1 u.2.2.2.2.2.2.2.2.1.2.2.2.1 u.2.2.2.2.2.2.2.2.1.2.2.2.2.1 u.2.2.2.2.2.2.2.2.1.2.2.2.2.2.1 u.2.2.2.2.2.2.2.2.1.2.2.2.2.2.2.1 u.2.2.2.2.2.2.2.2.1.2.2.2.2.2.2.2.1 u.2.2.2.2.2.2.2.2.1.2.2.2.2.2.2.2.2.1⟩
def Z7_Fj3 (w : Z7_lj3_Ty) : Fam := ⟨⟨true, [0, 1, 6, 7, 8, 9, 10, 14, 17, 18], [0, 1, 6, 7, 8, 10, 17, 18], ⟨[], [], []⟩, ⟨[], [], []⟩⟩, [Z7_vj3_0 w]⟩
def Z7_F (w0 : Z7_l0_Ty) (wj0 : Z7_lj0_Ty) (wj1 : Z7_lj1_Ty) (wj2 : Z7_lj2_Ty) (wj3 : Z7_lj3_Ty) : Nat → Fam := fun i => bif i.beq 5 then Z7_F0 w0 else bif i.beq 11 then Z7_Fj0 wj0 else bif i.beq 17 then Z7_Fj1 wj1 else bif i.beq 22 then Z7_Fj2 wj2 else bif i.beq 51 then Z7_Fj3 wj3 else noFam
def E_Y5 (N : Nat) : Ent := .of [Z7_W (Z7 N)]
def Z29_W (f : Z29_Ty) : Var := ⟨[.v (.ptr 0 0), .v (.int .i64), .v (.wl 4 1), .v (.ptr 5 0)], [.cells [.c (.wl 1 6), .c (.map 2), .c (.map 3)], .rows P0, .map P0 (.int .i64) true false, .map (.int .i64) (.int .i64) false false, .rows (.int .u16), .cells [.c (.int .i64)]], fun t u K => f t.2.1 u.2.1 u.2.2.1 u.2.2.2.1 u.2.2.2.2.1 u.2.2.2.2.2.1.1 (fun y0 y1 y2 y3 y4 y5 y6 => K (.tup [(.v (.int .u16 y0)), (.v (.bool y1))]) [(.cells [(.c (.wl 1 6)), (.c (.map 2)), (.c (.map 3))]), (.cells [(row P0 y2)]), (.map P0 (.int .i64) true false y3), (.map (.int .i64) (.int .i64) false false y4), (.cells [(row (.int .u16) y5)]), (.cells [(.c (.int .i64 y6))])])⟩
def E_Y23_n (N n : Nat) : Ent := .of [Z29_W (@G_term_Arena_quick_Rec.Z29 (G_term_Arena_quick_rec N n))]
def E_Y23_TG (c0 : Z33_Ty) (c1 : Z24_Ty) (c2 : Z29_Ty) : Table := fun g => bif g.beq 27 then .of [Z33_W c0] else bif g.beq 20 then .of [Z24_W c1] else bif g.beq 26 then .of [Z29_W c2] else noEnt
def E_Y23_T (N n : Nat) : Table := E_Y23_TG (@Z33 N) (@Z24 N) (@G_term_Arena_quick_Rec.Z29 (G_term_Arena_quick_rec N n))
def Z29_F : Nat → Fam := fun _ => noFam
def E_Y23 (N : Nat) : Ent := E_Y23_n N N
def E_Y9_TG (c0 : Z33_Ty) (c1 : Z24_Ty) (c2 : Z22_Ty) (c3 : Z29_Ty) (c4 : Z30_Ty) : Table := fun g => bif g.beq 27 then .of [Z33_W c0] else bif g.beq 20 then .of [Z24_W c1] else bif g.beq 22 then .of [Z22_W c2] else bif g.beq 26 then .of [Z29_W c3] else bif g.beq 25 then .of [Z30_W c4] else noEnt
def E_Y9_T (N : Nat) : Table := E_Y9_TG (@Z33 N) (@Z24 N) (@Z22 N) (@Z29 N) (@Z30 N)
def Z15_W (f : Z15_Ty) : Var := ⟨[.v (.ptr 0 0), .v (.int .i64), .v (.wl 4 1)], [.cells [.c (.wl 1 6), .c (.map 2), .c (.map 3)], .rows P0, .map P0 (.int .i64) true false, .map (.int .i64) (.int .i64) false false, .rows (.int .u16)], fun t u K => f t.2.1 u.2.1 u.2.2.1 u.2.2.2.1 u.2.2.2.2.1 (fun y0 y1 y2 y3 y4 => K (.sv (.v (.int .u16 y0))) [(.cells [(.c (.wl 1 6)), (.c (.map 2)), (.c (.map 3))]), (.cells [(row P0 y1)]), (.map P0 (.int .i64) true false y2), (.map (.int .i64) (.int .i64) false false y3), (.cells [(row (.int .u16) y4)])])⟩
def Z15_v0_0 (w : Z15_l0_Ty) : LVar := ⟨[.sv (.v (.ptr 0 0)), .sv (.v (.int .i64)), .sv (.v (.wl 4 1)), .sv (.v (.wl 5 1)), .sv (.v (.wl 6 1)), .sv (.v (.int .i64)), .sv (.v (.int .i64))], [.cells [.c (.wl 1 6), .c (.map 2), .c (.map 3)], .rows P0, .map P0 (.int .i64) true false, .map (.int .i64) (.int .i64) false false, .rows (.int .u16), .rows (.int .u16), .rows (.int .i64)], fun n t u K => w (fun y0 y1 y2 y3 y4 y5 => K (.exit 0) [(.sv (.v (.int .i64 y0))), (.sv (.v (.wl 5 1)))] [(.cells [(.c (.wl 1 6)), (.c (.map 2)), (.c (.map 3))]), (.cells [(row P0 y1)]), (.map P0 (.int .i64) true false y2), (.map (.int .i64) (.int .i64) false false y3), (.cells [(row (.int .u16) y4)]), (.cells [(row (.int .u16) y5)])]) n t.2.1 t.2.2.2.2.2.1 t.2.2.2.2.2.2.1 u.2.1 u.2.2.1 u.2.2.2.1 u.2.2.2.2.1 u.2.2.2.2.2.1 u.2.2.2.2.2.2.1⟩
def Z15_F0 (w : Z15_l0_Ty) : Fam := ⟨⟨false, [0, 1, 2, 10, 34, 35, 36], [1, 10], ⟨[], [], []⟩, ⟨[], [], []⟩⟩, [Z15_v0_0 w]⟩
def Z15_F (w0 : Z15_l0_Ty) : Nat → Fam := fun i => bif i.beq 12 then Z15_F0 w0 else noFam
def E_Y9 (N : Nat) : Ent := .of [Z15_W (Z15 N)]
def E_Z8_TG (c0 : Z1_Ty) (c1 : Z15_Ty) (c2 : Z3_Ty) (c3 : Z2_Ty) (c4 : Z4_Ty) (c5 : Z7_Ty) (c6 : Z32_Ty) (c7 : Z9_Ty) : Table := fun g => bif g.beq 9 then .of [Z1_W c0] else bif g.beq 8 then .of [Z15_W c1] else bif g.beq 7 then .of [Z3_W c2, Z2_W c3, Z4_W c4] else bif g.beq 6 then .of [Z7_W c5] else bif g.beq 5 then .of [Z32_W c6] else bif g.beq 4 then .of [Z9_W c7] else noEnt
def E_Z8_T (N : Nat) : Table := E_Z8_TG (@Z1 N) (@Z15 N) (@Z3 N) (@Z2 N) (@Z4 N) (@Z7 N) (@Z32 N) (@Z9 N)
def Z8_W (f : Z8_Ty) : Var := ⟨[.v (.isl P2), .v (.isl (.int .u8)), .v (.isl (.int .u16))], [], fun t u K => f t.1 t.2.1 t.2.2.1 (fun y0 => K (.sv (.v (.bool y0))) [])⟩
def Z8_v0_0 (w : Z8_l0_Ty) : LVar := ⟨[.sv (.v (.isl (.int .u8))), .sv (.v (.isl (.int .u16))), .sv (.v (.ptr 0 0)), .sv (.v (.wl 4 11)), .sv (.v (.wl 5 1)), .sv (.v (.int .i64))], [.cells [.c (.wl 1 6), .c (.map 2), .c (.map 3)], .rows P0, .map P0 (.int .i64) true false, .map (.int .i64) (.int .i64) false false, .rows P1, .rows (.int .u16)], fun n t u K => w (fun y0 y1 y2 y3 y4 y5 y6 => K (.exit 0) [(.sv (.v (.isl (.int .u8) y0))), (.sv (.v (.isl (.int .u16) y1))), (.sv (.v (.ptr 0 0))), (.sv (.v (.wl 4 11))), (.sv (.v (.wl 5 1)))] [(.cells [(.c (.wl 1 6)), (.c (.map 2)), (.c (.map 3))]), (.cells [(row P0 y2)]), (.map P0 (.int .i64) true false y3), (.map (.int .i64) (.int .i64) false false y4), (.cells [(.row P1 (List.length y5) y5)]), (.cells [(row (.int .u16) y6)])]) n t.1 t.2.1 t.2.2.2.2.2.1 u.2.1 u.2.2.1 u.2.2.2.1 u.2.2.2.2.1 u.2.2.2.2.2.1⟩
def Z8_F0 (w : Z8_l0_Ty) : Fam := ⟨⟨false, [1, 2, 7, 8, 10, 11], [1, 2, 7, 8, 10], ⟨[], [], []⟩, ⟨[], [], []⟩⟩, [Z8_v0_0 w]⟩
def Z8_v1_0 (w : Z8_l1_Ty) : LVar := ⟨[.sv (.v (.isl (.int .u8))), .sv (.v (.isl (.int .u16))), .sv (.v (.ptr 0 0)), .sv (.v (.wl 4 11)), .sv (.v (.wl 5 1)), .sv (.v (.wl 6 1)), .sv (.v (.int .i64))], G9, fun n t u K => w (fun y0 y1 y2 y3 y4 y5 y6 => K (.exit 2) [(.sv (.v (.isl (.int .u16) y0))), (.sv (.v (.ptr 0 0))), (.sv (.v (.wl 4 11))), (.sv (.v (.wl 5 1))), (.sv (.v (.wl 6 1)))] (G11 y1 y2 y3 y4 y5 y6)) n t.1 t.2.1 t.2.2.2.2.2.2.1 u.2.1 u.2.2.1 u.2.2.2.1 u.2.2.2.2.1 u.2.2.2.2.2.1 u.2.2.2.2.2.2.1⟩
def Z8_F1 (w : Z8_l1_Ty) : Fam := ⟨⟨false, [1, 2, 7, 8, 10, 12, 13], [2, 7, 8, 10, 12], ⟨[], [(5, false, (.int .i64))], []⟩, ⟨[], [], []⟩⟩, [Z8_v1_0 w]⟩
def Z8_v2_0 (w : Z8_l2_Ty) : LVar := ⟨[.sv (.v (.isl (.int .u16))), .sv (.v (.ptr 0 0)), .sv (.v (.wl 4 11)), .sv (.v (.wl 5 1)), .sv (.v (.wl 6 1)), .sv (.v (.int .i64))], G9, fun n t u K => w (fun y0 => K .ret [(.sv (.v (.bool y0)))] []) (K (.exit 4) [.undef] []) n t.1 t.2.2.2.2.2.1 u.2.1 u.2.2.1 u.2.2.2.1 u.2.2.2.2.1 u.2.2.2.2.2.1 u.2.2.2.2.2.2.1⟩
def Z8_F2 (w : Z8_l2_Ty) : Fam := ⟨⟨false, [2, 7, 8, 10, 12, 14], [6], ⟨[], [], []⟩, ⟨[], [], []⟩⟩, [Z8_v2_0 w]⟩
def Z8_v3_0 (w : Z8_l3_Ty) : LVar := ⟨[.sv (.v (.isl (.int .u16))), .sv (.v (.ptr 0 0)), .sv (.v (.wl 4 11)), .sv (.v (.wl 5 1)), .sv (.v (.wl 6 1)), .sv (.v (.int .i64)), .sv (.v (.int .i64)), .sv (.v (.int .i64)), .sv (.v (.int .i64)), .sv (.v (.int .i64))], G9, fun n t u K => w (fun y0 y1 y2 y3 y4 y5 y6 y7 y8 y9 y10 => K (.exit 6) [(.sv (.v (.isl (.int .u16) y0))), (.sv (.v (.ptr 0 0))), (.sv (.v (.wl 4 11))), (.sv (.v (.wl 5 1))), (.sv (.v (.wl 6 1))), (.sv (.v (.int .i64 y1))), (.sv (.v (.int .i64 y2))), (.sv (.v (.int .i64 y3))), (.sv (.v (.int .i64 y4)))] (G11 y5 y6 y7 y8 y9 y10)) n t.1 t.2.2.2.2.2.1 t.2.2.2.2.2.2.1 t.2.2.2.2.2.2.2.1 t.2.2.2.2.2.2.2.2.1 t.2.2.2.2.2.2.2.2.2.1 u.2.1 u.2.2.1 u.2.2.2.1 u.2.2.2.2.1 u.2.2.2.2.2.1 u.2.2.2.2.2.2.1⟩
def Z8_F3 (w : Z8_l3_Ty) : Fam := ⟨⟨false, [2, 7, 8, 10, 12, 14, 15, 16, 17, 18], [2, 7, 8, 10, 12, 14, 15, 16, 17], ⟨[], [], []⟩, ⟨[], [], []⟩⟩, [Z8_v3_0 w]⟩
def Z8_F (w0 : Z8_l0_Ty) (w1 : Z8_l1_Ty) (w2 : Z8_l2_Ty) (w3 : Z8_l3_Ty) : Nat → Fam := fun i => bif i.beq 18 then Z8_F0 w0 else bif i.beq 25 then Z8_F1 w1 else bif i.beq 31 then Z8_F2 w2 else bif i.beq 39 then Z8_F3 w3 else noFam
def E_Z8 (N : Nat) : Ent := .of [Z8_W (Z8 N)]
end
end Go.Proofs.Ytmgoeikbdikmdaa
