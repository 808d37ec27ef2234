/-
  numbers in the place of variables (chapter 3): Some (shape f6db; printed by fixs.py).
-/
import Derived.Test.YteagdmkedffplaaPFixB
set_option linter.unusedSimpArgs false
set_option linter.unusedVariables false
namespace Go.Proofs.Yteagdmkedffplaa
open Go.Gx

theorem Index_loop_f6db {R : Type} (N : Nat) (v : Int) (ids : List Int) (hs : ids.length < 9223372036854775807) (k0 : Int → Option R) (k1 : Option R) :
    ∀ (n q : Nat), q ≤ ids.length → ids.length - q < n → slices_Index__int_int_l0 N k0 k1 n ids v (Nat.cast ids.length : Int) (q : Int) = (match fIx v (ids.drop q) with | some j => k0 ((q + j : Nat) : Int) | none => k1)
  | 0, q, _, h => by omega
  | n + 1, q, hq, h => by
    unfold slices_Index__int_int_l0 slices_Index__int_int_l0_T0
    by_cases c : q < ids.length
    · have ih := Index_loop_f6db N v ids hs k0 k1 n (q + 1) (by omega) (by omega)
      have e : ids.drop q = ids.getD q 0 :: ids.drop (q + 1) := by
        rw [List.getD_eq_getElem?_getD, List.getElem?_eq_getElem c]
        exact (List.getElem_cons_drop c).symm
      rw [br_dec, if_pos (by omega), inB_of (by omega), br_true, Int.toNat_natCast, br_dec, w64_succ (by omega), e]
      unfold fIx
      by_cases h0 : v = ids.getD q 0
      · rw [if_pos h0, if_pos h0]
        rfl
      · rw [if_neg h0, if_neg h0]
        refine ih.trans ?_
        cases fIx v (ids.drop (q + 1)) with
        | none => rfl
        | some j =>
          show k0 ((q + 1 + j : Nat) : Int) = k0 ((q + (j + 1) : Nat) : Int)
          rw [show q + 1 + j = q + (j + 1) by omega]
    · have e : q = ids.length := by omega
      rw [decide_eq_false (by omega), br_false, e, List.drop_length]
      rfl

/-- the place as a number -/
def ixI (o : Option Nat) : Int := match o with
  | some j => (j : Int)
  | none => -1
theorem Index_f6db {R : Type} (N : Nat) (v : Int) (ids : List Int) (hs : ids.length < N) (hs' : ids.length < 9223372036854775807) (k : Int → Option R) :
    slices_Index__int_int N ids v k = k (ixI (fIx v ids)) := by
  unfold slices_Index__int_int slices_Index__int_int_T
  refine (Index_loop_f6db N v ids hs' _ _ N 0 (by omega) (by omega)).trans ?_
  rw [List.drop_zero]
  cases fIx v ids with
  | none => rfl
  | some j =>
    show k ((0 + j : Nat) : Int) = k (j : Int)
    rw [Nat.zero_add]

theorem some_loop_f6db (N : Nat) (hN : 70000 ≤ N ∧ N ≤ 2 ^ 62) {l0 : List Nd} {b0 : By} (A0 : Ar l0 b0) (ws : Ws) {x : Int} (hx : Tm l0 x) {ys ids vals : List Int} (hids : ids.length = vals.length) (hid : ids.length ≤ 1000) (hU : ∀ j, 0 ≤ vals.getD j 0 ∧ vals.getD j 0 < 65536) (C : Cl l0 x ys) (room : l0.length + 3 * ys.length ≤ 65536) :
    ∀ (n i : Nat) (l : List Nd) (b : By) (bys : List Int), i ≤ ys.length → ys.length - i < n → SInv l0 x ys ids vals i l b bys →
      ∃ l' b' bys', SInv l0 x ys ids vals ys.length l' b' bys' ∧ ∀ {R : Type} (k0 : Int → Int → Int → By → Ws → List Nd → List Int → Option R) (k1 : Int → By → Ws → List Nd → List Int → Option R),
        fix_Some_f6db_l0 N k0 k1 n x ids vals (Nat.cast ys.length : Int) (i : Int) b ws l bys ys = k1 x b' ws l' bys'
  | 0, i, l, b, bys, _, h, _ => by omega
  | n + 1, i, l, b, bys, hi, h, I => by
    by_cases c : i < ys.length
    · have hm : ys[i] ∈ ys := List.getElem_mem c
      obtain ⟨tmy, ylex⟩ := C.tm _ hm
      obtain ⟨K, ka, kb, kc⟩ := A0.nodeOk tmy
      have hb := I.blen
      have hl0 := A0.len
      have hyl := C.len
      have hy1 := tmy.1
      have hy2 := tmy.2
      have hfew := I.few
      have en := nd_le tmy I.le
      have hg : ys.getD i 0 = ys[i] := by rw [List.getD_eq_getElem?_getD, List.getElem?_eq_getElem c]; rfl
      have ia : inB (nd l0 ys[i]).a bys.length = true := inB_of ⟨K.pa.1, by omega⟩
      have ib : inB (nd l0 ys[i]).b bys.length = true := inB_of ⟨K.pb.1, by omega⟩
      have ic : inB (nd l0 ys[i]).c bys.length = true := inB_of ⟨K.pc.1, by omega⟩
      have iy : inB ys[i] bys.length = true := inB_of (by omega)
      have da : decide ((nd l0 ys[i]).a.toNat < bys.length) = true := decide_eq_true (by have := K.pa.1; omega)
      have db : decide ((nd l0 ys[i]).b.toNat < bys.length) = true := decide_eq_true (by have := K.pb.1; omega)
      have dc : decide ((nd l0 ys[i]).c.toNat < bys.length) = true := decide_eq_true (by have := K.pc.1; omega)
      have dy : decide (ys[i].toNat < bys.length) = true := decide_eq_true (by omega)
      have wv : (nd l0 ys[i]).op = 2 → IntKind.wrap .i64 (nd l0 ys[i]).v = (nd l0 ys[i]).v := fun h2 => by
        have := K.var h2
        exact w64 (by omega)
      by_cases hp : (nd l0 ys[i]).op = 2 ∧ (fIx (nd l0 ys[i]).v ids).isSome = true
      · obtain ⟨h2, hs⟩ := hp
        obtain ⟨j, hj⟩ := Option.isSome_iff_exists.1 hs
        obtain ⟨t, l', b', I', ha, hc⟩ := I.var N A0 ws hU C c h2 hj (by omega)
        obtain ⟨l2, b2, bys2, I2, hc2⟩ := some_loop_f6db N hN A0 ws hx hids hid hU C room n (i + 1) l' b' _ (by omega) (by omega) I'
        refine ⟨l2, b2, bys2, I2, fun k0 k1 => ?_⟩
        have hjl := (fIx_lt hj).1
        unfold fix_Some_f6db_l0 fix_Some_f6db_l0_T0
        rw [br_dec, if_pos (by omega), inB_of (by omega), br_true, Int.toNat_natCast, decide_eq_true c, br_true]
        simp only [hg]
        rw [Node_eq N I.ar.len, en]
        simp only [ia, ib, ic, iy, da, db, dc, dy, br_true]
        refine (ha _ _ _ _).trans ?_
        rw [wv h2]
        refine (Index_f6db N _ ids (by omega) (by omega) _).trans ?_
        rw [hj, show ixI (some j) = (j : Int) from rfl]
        rw [decide_eq_true h2, br_true, decide_eq_true (by omega), br_true, inB_of (by omega), br_true, Int.toNat_natCast]
        refine (hc _).trans ?_
        rw [decide_eq_true rfl, Bool.not_true, br_false, w64_succ (by omega)]
        exact hc2 k0 k1
      · have hv : (nd l0 ys[i]).op = 2 → fIx (nd l0 ys[i]).v ids = none := fun h2 => by
          cases hf : fIx (nd l0 ys[i]).v ids with
          | none => rfl
          | some j => exact absurd ⟨h2, by rw [hf]; rfl⟩ hp
        obtain ⟨t, l', b', I', ha⟩ := I.again N hN A0 ws C c hv (by omega)
        obtain ⟨l2, b2, bys2, I2, hc2⟩ := some_loop_f6db N hN A0 ws hx hids hid hU C room n (i + 1) l' b' _ (by omega) (by omega) I'
        refine ⟨l2, b2, bys2, I2, fun k0 k1 => ?_⟩
        unfold fix_Some_f6db_l0 fix_Some_f6db_l0_T0
        rw [br_dec, if_pos (by omega), inB_of (by omega), br_true, Int.toNat_natCast, decide_eq_true c, br_true]
        simp only [hg]
        rw [Node_eq N I.ar.len, en]
        simp only [ia, ib, ic, iy, da, db, dc, dy, br_true]
        refine (ha _).trans ?_
        refine (Index_f6db N _ ids (by omega) (by omega) _).trans ?_
        simp only [decide_true, Bool.not_true, br_false]
        rw [w64_succ (by omega)]
        by_cases h2 : (nd l0 ys[i]).op = 2
        · rw [wv h2, hv h2]
          show br (decide (_ = _)) (br (decide ((0 : Int) ≤ -1)) _ _) _ = _
          rw [decide_eq_true h2, br_true, decide_eq_false (by omega), br_false]
          exact hc2 k0 k1
        · rw [decide_eq_false h2, br_false]
          exact hc2 k0 k1
    · have e1 : i = ys.length := by omega
      subst e1
      refine ⟨l, b, bys, I, fun k0 k1 => ?_⟩
      unfold fix_Some_f6db_l0 fix_Some_f6db_l0_T0
      rw [decide_eq_false (by omega), br_false]

theorem Some_f6db (N : Nat) (hN : 70000 ≤ N ∧ N ≤ 2 ^ 62) {l : List Nd} {b : By} (A : Ar l b) (ws : Ws) {x : Int} (hx : Tm l x) {ids vals : List Int} (hids : ids.length = vals.length) (hid : ids.length ≤ 1000) (hU : ∀ j, 0 ≤ vals.getD j 0 ∧ vals.getD j 0 < 65536) (room : l.length + 3 * x.toNat ≤ 65536) :
    ∃ t l' b', Got l (wd l x) (fun env => val (putE ids vals env) l x) (3 * x.toNat) t l' b' ∧ (∀ Z, PutSet l ids Z → x ∈ Z → (nd l' t).op = 1) ∧
      ∀ {R : Type} (k : Int → Int → By → Ws → List Nd → Option R), fix_Some_f6db N x ids vals l b ws k = k t 0 b' ws l' := by
  have h1 := hx.1
  have h2 := hx.2
  have hl := A.len
  obtain ⟨ys, C, hu⟩ := Under_eq N A ws hx hN
  have hfew := C.few
  obtain ⟨l', b', bys, I, hc⟩ := some_loop_f6db N hN A ws hx hids hid hU C (by omega) N 0 l b (List.replicate (x.toNat + 1) 0) (by omega) (by have := C.len; omega) (SInv.start A ys ids vals)
  have hmem : x ∈ ys.take ys.length := by rw [List.take_length]; exact C.has
  obtain ⟨t1, t2, t3⟩ := I.tm x hmem
  refine ⟨bys.getD x.toNat 0, l', b', ⟨I.le, I.ar, t1, t2, t3, by have := I.few; omega⟩, fun Z hZ hz => I.num Z hZ x hmem hz, fun k => ?_⟩
  have e1 : IntKind.wrap .i64 (x + 1) = x + 1 := w64 (by omega)
  have e3 : (x + 1).toNat = x.toNat + 1 := by omega
  unfold fix_Some_f6db fix_Some_f6db_T
  rw [Node_eq N A.len, decide_eq_true hx, Bool.not_true, Bool.not_false, br_true, decide_eq_true (by omega), Bool.not_true, br_false, e1, decide_eq_true (by omega), decide_eq_true (by omega), decide_eq_true (by
      have : (2 : Int) ^ 46 = 70368744177664 := by decide
      omega)]
  simp only [Bool.and_self, br_true]
  rw [hu, e3]
  refine (hc _ _).trans ?_
  have hb := I.blen
  rw [inB_of (by omega), br_true, decide_eq_true (by omega), br_true]

end Go.Proofs.Yteagdmkedffplaa
