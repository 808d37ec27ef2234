/-
 numbers in the place of variables (chapter 3): Some, with what was put ahead (shape f1c7; printed by fixs.py).
-/
import Derived.Test.YtmgoeikbdikmdaaPFixT1f48
set_option linter.unusedSimpArgs false
set_option linter.unusedVariables false
namespace Go.Proofs.Ytmgoeikbdikmdaa
open Go.Gx

theorem Index_f1c7 {R : Type} (N : Nat) (v : Int) (q cap : Nat) (A : List Int) (hq : q < A.length) {ids : List Int} (hone : ids = [A.getD q 0]) (hs : A.length ≤ 1000) (hN : 2 ≤ N) (k : Int → Nat → List Int → Option R) :
  Z12 N q 1 cap v A.length A k = k (ixI (fIx v ids)) A.length A := by
 subst hone
 obtain ⟨n, rfl⟩ : ∃ n, N = n + 2 := ⟨N - 2, by omega⟩
 unfold Z12 Z12_T
 have e0 : Int.toNat (addLo q 0) = q := by
  unfold addLo
  split <;> omega
 unfold Z12_l0 Z12_l0_T0
 rw [decide_eq_true (by decide), br_true, inB_of (by omega), br_true, e0, decide_eq_true hq, br_true, br_dec]
 unfold fIx
 by_cases h : v = A.getD q 0
 ·rw [if_pos h, if_pos h]
  rfl
 ·rw [if_neg h, if_neg h, w64 (by omega)]
  unfold Z12_l0 Z12_l0_T0
  dsimp only
  rw [decide_eq_false (show ¬ ((0 : Int) + 1 < ((1 : Nat) : Int)) by decide), br_false]
  rfl

theorem someG_loop_f1c7 (N : Nat) (hN : 70000 ≤ N ∧ N ≤ 2 ^ 62) {src : List Int} {E0 : List Put} {l0 : List Nd} {b0 : By} (A0 : Ar l0 b0) (ws : Ws) {x : Int} (hx : Tm l0 x) {ys ids vals : List Int} (hids : ids.length = vals.length) (hid : ids.length ≤ 1000) (hU : ∀ j, 0 ≤ vals.getD j 0 ∧ vals.getD j 0 < 65536) (C : Cl l0 x ys) (hsrc : ∀ t ∈ ys, InC l0 src t) (room : l0.length + 3 * src.length + 3 ≤ 65536 + 3 * E0.length) {Q : List Int} {q cap : Nat} (hq : q < Q.length) (hA : Q.length ≤ 1000) (hone : ids = [Q.getD q 0]) :
  ∀ (n i : Nat) (l : List Nd) (b : By) (bys : List Int) (E : List Put), i ≤ ys.length → ys.length - i < n → GInv src l0 x ys ids vals E0 i l b bys E →
   ∃ l' b' bys' E', GInv src l0 x ys ids vals E0 ys.length l' b' bys' E' ∧ ∀ {R : Type} (k0 : Int → Int → Int → By → Ws → Nat → List Int → List Nd → List Int → Option R) (k1 : Int → By → Ws → Nat → List Int → List Nd → List Int → Option R),
    Z4_l0 N k0 k1 n x q 1 cap vals (Nat.cast ys.length : Int) (i : Int) b ws Q.length Q l bys ys = k1 x b' ws Q.length Q l' bys'
 | 0, i, l, b, bys, E, _, h, _ => by omega
 | n + 1, i, l, b, bys, E, hi, h, I => by
  by_cases c : i < ys.length
  ·have hm : ys[i] ∈ ys := List.getElem_mem c
   obtain ⟨tmy, ylex⟩ := C.tm _ hm
   obtain ⟨K, ka, kb, kc⟩ := A0.nodeOk tmy
   have hb := I.s.blen
   have hl0 := A0.len
   have hyl := C.len
   have hy1 := tmy.1
   have hy2 := tmy.2
   have hroom := I.room room
   have en := nd_le tmy I.s.le
   have hg : ys.getD i 0 = ys[i] := by rw [List.getD_eq_getElem?_getD, List.getElem?_eq_getElem c]; rfl
   have ia : inB (nd l0 ys[i]).a bys.length = true := inB_of ⟨K.pa.1, by omega⟩
   have ib : inB (nd l0 ys[i]).b bys.length = true := inB_of ⟨K.pb.1, by omega⟩
   have ic : inB (nd l0 ys[i]).c bys.length = true := inB_of ⟨K.pc.1, by omega⟩
   have iy : inB ys[i] bys.length = true := inB_of (by omega)
   have da : decide ((nd l0 ys[i]).a.toNat < bys.length) = true := decide_eq_true (by have := K.pa.1; omega)
   have db : decide ((nd l0 ys[i]).b.toNat < bys.length) = true := decide_eq_true (by have := K.pb.1; omega)
   have dc : decide ((nd l0 ys[i]).c.toNat < bys.length) = true := decide_eq_true (by have := K.pc.1; omega)
   have dy : decide (ys[i].toNat < bys.length) = true := decide_eq_true (by omega)
   have wv : (nd l0 ys[i]).op = 2 → IntKind.wrap .i64 (nd l0 ys[i]).v = (nd l0 ys[i]).v := fun h2 => by
    have := K.var h2
    exact w64 (by omega)
   by_cases hp : (nd l0 ys[i]).op = 2 ∧ (fIx (nd l0 ys[i]).v ids).isSome = true
   ·obtain ⟨h2, hs⟩ := hp
    obtain ⟨j, hj⟩ := Option.isSome_iff_exists.1 hs
    obtain ⟨t, l', b', E', I', ha, hc⟩ := I.var N A0 ws hU C hsrc c h2 hj hroom
    obtain ⟨l2, b2, bys2, E2, I2, hc2⟩ := someG_loop_f1c7 N hN A0 ws hx hids hid hU C hsrc room hq hA hone n (i + 1) l' b' _ E' (by omega) (by omega) I'
    refine ⟨l2, b2, bys2, E2, I2, fun k0 k1 => ?_⟩
    have hjl := (fIx_lt hj).1
    unfold Z4_l0 Z4_l0_T0
    rw [br_dec, if_pos (by omega), inB_of (by omega), br_true, Int.toNat_natCast, decide_eq_true c, br_true]
    simp only [hg]
    rw [Node_eq N I.s.ar.len, en]
    simp only [ia, ib, ic, iy, da, db, dc, dy, br_true]
    refine (ha _ _ _ _).trans ?_
    rw [wv h2]
    refine (Index_f1c7 N _ q cap Q hq hone (by omega) (by omega) _).trans ?_
    rw [hj, show ixI (some j) = (j : Int) from rfl]
    rw [decide_eq_true h2, br_true, decide_eq_true (by omega), br_true, inB_of (by omega), br_true, Int.toNat_natCast]
    refine (hc _).trans ?_
    rw [decide_eq_true rfl, Bool.not_true, br_false, w64_succ (by omega)]
    exact hc2 k0 k1
   ·have hv : (nd l0 ys[i]).op = 2 → fIx (nd l0 ys[i]).v ids = none := fun h2 => by
     cases hf : fIx (nd l0 ys[i]).v ids with
     | none => rfl
     | some j => exact absurd ⟨h2, by rw [hf]; rfl⟩ hp
    obtain ⟨t, l', b', E', I', ha⟩ := I.again N hN A0 ws C hsrc c hv hroom
    obtain ⟨l2, b2, bys2, E2, I2, hc2⟩ := someG_loop_f1c7 N hN A0 ws hx hids hid hU C hsrc room hq hA hone n (i + 1) l' b' _ E' (by omega) (by omega) I'
    refine ⟨l2, b2, bys2, E2, I2, fun k0 k1 => ?_⟩
    unfold Z4_l0 Z4_l0_T0
    rw [br_dec, if_pos (by omega), inB_of (by omega), br_true, Int.toNat_natCast, decide_eq_true c, br_true]
    simp only [hg]
    rw [Node_eq N I.s.ar.len, en]
    simp only [ia, ib, ic, iy, da, db, dc, dy, br_true]
    refine (ha _).trans ?_
    refine (Index_f1c7 N _ q cap Q hq hone (by omega) (by omega) _).trans ?_
    simp only [decide_true, Bool.not_true, br_false]
    rw [w64_succ (by omega)]
    by_cases h2 : (nd l0 ys[i]).op = 2
    ·rw [wv h2, hv h2]
     show br (decide (_ = _)) (br (decide ((0 : Int) ≤ -1)) _ _) _ = _
     rw [decide_eq_true h2, br_true, decide_eq_false (by omega), br_false]
     exact hc2 k0 k1
    ·rw [decide_eq_false h2, br_false]
     exact hc2 k0 k1
  ·have e1 : i = ys.length := by omega
   subst e1
   refine ⟨l, b, bys, E, I, fun k0 k1 => ?_⟩
   unfold Z4_l0 Z4_l0_T0
   rw [decide_eq_false (by omega), br_false]

theorem SomeG_f1c7 (N : Nat) (hN : 70000 ≤ N ∧ N ≤ 2 ^ 62) {src : List Int} {E : List Put} {l : List Nd} {b : By} (A : Ar l b) (ws : Ws) {x : Int} (hx : Tm l x) {ids vals : List Int} (hids : ids.length = vals.length) (hid : ids.length ≤ 1000) (hU : ∀ j, 0 ≤ vals.getD j 0 ∧ vals.getD j 0 < 65536) (S : St src ids vals l E) (hcl : Clo l src) (hxs : InC l src x) (room : l.length + 3 * src.length + 3 ≤ 65536 + 3 * E.length) {Q : List Int} {q cap : Nat} (hq : q < Q.length) (hA : Q.length ≤ 1000) (hone : ids = [Q.getD q 0]) :
  ∃ t l' b' E', SomeR src ids vals l x E t l' b' E' ∧
   ∀ {R : Type} (k : Int → Int → By → Ws → Nat → List Int → List Nd → Option R), Z4 N x q 1 cap vals l b ws Q.length Q k = k t 0 b' ws Q.length Q l' := by
 have h1 := hx.1
 have h2 := hx.2
 have hl := A.len
 have hone1 : ids.length = 1 := by rw [hone]; rfl
 obtain ⟨ys, C, hu⟩ := Under_eq N A ws hx hN
 obtain ⟨l', b', bys, E', I, hc⟩ := someG_loop_f1c7 N hN A ws hx hids hid hU C (hcl.min A C hxs) room hq hA hone N 0 l b (List.replicate (x.toNat + 1) 0) E (by omega) (by have := C.len; omega) (GInv.start A ys ids vals S)
 refine ⟨bys.getD x.toNat 0, l', b', E', I.done C, fun k => ?_⟩
 have e1 : IntKind.wrap .i64 (x + 1) = x + 1 := w64 (by omega)
 have e3 : (x + 1).toNat = x.toNat + 1 := by omega
 unfold Z4 Z4_T
 rw [Node_eq N A.len, decide_eq_true hx, Bool.not_true, Bool.not_false, br_true, decide_eq_true (by omega), Bool.not_true, br_false, e1, decide_eq_true (by omega), decide_eq_true (by omega), decide_eq_true (by
   have : (2 : Int) ^ 46 = 70368744177664 := by decide
   omega)]
 simp only [Bool.and_self, br_true]
 rw [hu, e3]
 refine (hc _ _).trans ?_
 have hb := I.s.blen
 rw [inB_of (by omega), br_true, decide_eq_true (by omega), br_true]

end Go.Proofs.Ytmgoeikbdikmdaa
