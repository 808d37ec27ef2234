/-
 crossroadslaw2's Build: rows one by one in an arena; what is made, and its value by the reference.
-/
import Derived.Test.YtmgoeikbdikmdaaPTermX
import Derived.Test.YtmgoeikbdikmdaaPWideMay
set_option linter.unusedSimpArgs false
set_option linter.unusedVariables false
namespace Go.Proofs.Ytmgoeikbdikmdaa
open Go.Gx

abbrev Md := (Int) × (Nd × ((Int) × ((Int) × ((Int) × (Int)))))
def md0 : Md := (0, nd0, 0, 0, 0, 0)
@[reducible] def Md.t (m : Md) : Int := m.1
@[reducible] def Md.row (m : Md) : Nd := m.2.1
@[reducible] def Md.w (m : Md) : Int := m.2.2.1
@[reducible] def Md.i (m : Md) : Int := m.2.2.2.1
@[reducible] def Md.j (m : Md) : Int := m.2.2.2.2.1
@[reducible] def Md.k (m : Md) : Int := m.2.2.2.2.2

/-! ### values by the reference -/
def mv (env : Nat → Nat) (L : List Md) (vs : List Nat) (m : Md) : Nat :=
 if m.row.op = 1 then m.row.v.toNat % 2 ^ m.w.toNat
 else if m.row.op = 2 then env m.row.v.toNat % 2 ^ m.w.toNat
 else if m.row.op = 16 then (if vs.getD m.i.toNat 0 = 1 then vs.getD m.j.toNat 0 else vs.getD m.k.toNat 0)
 else if m.row.op = 17 ∨ m.row.op = 18 then vs.getD m.i.toNat 0 % 2 ^ m.w.toNat
 else doN m.row.op (L.getD m.i.toNat md0).w.toNat (vs.getD m.i.toNat 0) (vs.getD m.j.toNat 0)

theorem mv_mk (env : Nat → Nat) (L : List Md) (vs : List Nat) (t op w' v a c d w i j k : Int) : mv env L vs (t, (op, w', v, a, c, d), w, i, j, k) =
  if op = 1 then v.toNat % 2 ^ w.toNat else if op = 2 then env v.toNat % 2 ^ w.toNat
  else if op = 16 then (if vs.getD i.toNat 0 = 1 then vs.getD j.toNat 0 else vs.getD k.toNat 0)
  else if op = 17 ∨ op = 18 then vs.getD i.toNat 0 % 2 ^ w.toNat
  else doN op (L.getD i.toNat md0).w.toNat (vs.getD i.toNat 0) (vs.getD j.toNat 0) := rfl

def mvalsFrom (env : Nat → Nat) : List Md → List Nat → List Md → List Nat
 | _, vs, [] => vs
 | L, vs, m :: r => mvalsFrom env (L ++ [m]) (vs ++ [mv env L vs m]) r
def mvals (env : Nat → Nat) (L : List Md) : List Nat := mvalsFrom env [] [] L

theorem mvalsFrom_snoc (env : Nat → Nat) : ∀ (r L : List Md) (vs : List Nat) (m : Md), mvalsFrom env L vs (r ++ [m]) = mvalsFrom env L vs r ++ [mv env (L ++ r) (mvalsFrom env L vs r) m]
 | [], L, vs, m => by simp [mvalsFrom]
 | x :: r, L, vs, m => by
  simp only [List.cons_append, mvalsFrom]
  rw [mvalsFrom_snoc env r]
  simp
theorem mvals_snoc (env : Nat → Nat) (L : List Md) (m : Md) : mvals env (L ++ [m]) = mvals env L ++ [mv env L (mvals env L) m] := by
 unfold mvals
 rw [mvalsFrom_snoc]
 simp
theorem mvals_len (env : Nat → Nat) (L : List Md) : (mvals env L).length = L.length := by
 have h : ∀ (r L : List Md) (vs : List Nat), (mvalsFrom env L vs r).length = vs.length + r.length := by
  intro r
  induction r with
  | nil => intro L vs; simp [mvalsFrom]
  | cons x r ih => intro L vs; simp only [mvalsFrom]; rw [ih]; simp; omega
 have := h L [] []
 unfold mvals
 rw [this]
 simp

theorem getD_app {α : Type} {l : List α} {q : Nat} (h : q < l.length) (m : List α) (d : α) : (l ++ m).getD q d = l.getD q d := by
 rw [List.getD_eq_getElem?_getD, List.getD_eq_getElem?_getD, List.getElem?_append_left h]
theorem getD_last {α : Type} (l : List α) (x d : α) : (l ++ [x]).getD l.length d = x := by
 rw [List.getD_eq_getElem?_getD, List.getElem?_append_right (Nat.le_refl _)]
 simp

/-- an operator and the places of its parts -/
def POk (L : List Md) (q : Nat) (op i j k : Int) : Prop := (op = 1 ∨ op = 2) ∨ ((3 ≤ op ∧ op ≤ 18) ∧ (0 ≤ i ∧ i < (q : Int)) ∧ (0 ≤ j ∧ j < (q : Int)) ∧ (0 ≤ k ∧ k < (q : Int)) ∧ (4 ≤ op → op ≤ 15 → (L.getD i.toNat md0).w = (L.getD j.toNat md0).w))
theorem POk.app {L : List Md} {q : Nat} {op i j k : Int} (h : POk L q op i j k) (hq : q ≤ L.length) (m : List Md) : POk (L ++ m) q op i j k := by
 rcases h with h | ⟨h0, h1, h2, h3, h4⟩
 ·exact .inl h
 ·refine .inr ⟨h0, h1, h2, h3, fun a b => ?_⟩
  rw [getD_app (by omega), getD_app (by omega)]
  exact h4 a b

/-- what stands in a row of made terms -/
structure MdOk (l : List Nd) (L : List Md) (q : Nat) : Prop where
 tm : Tm l (L.getD q md0).t
 wd : wd l (L.getD q md0).t = (L.getD q md0).w
 val : ∀ env, val env l (L.getD q md0).t = (mvals env L).getD q 0
 ok : POk L q (L.getD q md0).row.op (L.getD q md0).i (L.getD q md0).j (L.getD q md0).k
 v : 0 ≤ (L.getD q md0).row.v ∧ (L.getD q md0).row.v < 65536
 tq : (L.getD q md0).t ≤ 3 * ((q : Int) + 1)

abbrev wfind (ws : Ws) (i : Int) : Option Int := mfind (.int .i64) (.int .i64) ws i

structure BInv (L : List Md) (l : List Nd) (b : By) (ws : Ws) (vs : List Int) (n : Nat) : Prop where
 ar : Ar l b
 few : l.length ≤ 3 * L.length
 cnt : L.length ≤ n
 vlen : vs.length = 64
 var : ∀ i : Nat, i < 64 → (wfind ws (i : Int) = none ∧ vs.getD i 0 = 0) ∨ (∃ w, Wd w ∧ wfind ws (i : Int) = some w ∧ vs.getD i 0 = w)
 made : ∀ q, q < L.length → MdOk l L q

theorem BInv.nil : BInv [] [] [] [] (List.replicate 64 0) 0 where
 ar := Ar.nil
 few := by simp
 cnt := by simp
 vlen := by simp
 var := fun i hi => .inl ⟨rfl, by rw [List.getD_eq_getElem?_getD, List.getElem?_replicate, if_pos hi]; rfl⟩
 made := fun q h => absurd h (by simp)

theorem BInv.skip {L : List Md} {l : List Nd} {b : By} {ws : Ws} {vs : List Int} {n : Nat} (I : BInv L l b ws vs n) : BInv L l b ws vs (n + 1) :=
 { I with cnt := by have := I.cnt; omega }

theorem BInv.add {L : List Md} {l : List Nd} {b : By} {ws : Ws} {vs : List Int} {n : Nat} (I : BInv L l b ws vs n) {w : Int} {f : (Nat → Nat) → Nat} {m : Nat} {t : Int} {l' : List Nd} {b' : By} (G : Got l w f m t l' b') (hm : m ≤ 3)
  {row : Nd} {i j k : Int} (hf : ∀ env, f env = mv env L (mvals env L) (t, row, w, i, j, k))
  (hok : POk L L.length row.op i j k)
  (hv : 0 ≤ row.v ∧ row.v < 65536) {ws' : Ws} {vs' : List Int} (vlen : vs'.length = 64)
  (hvar : ∀ i : Nat, i < 64 → (wfind ws' (i : Int) = none ∧ vs'.getD i 0 = 0) ∨ (∃ w, Wd w ∧ wfind ws' (i : Int) = some w ∧ vs'.getD i 0 = w)) :
  BInv (L ++ [(t, row, w, i, j, k)]) l' b' ws' vs' (n + 1) where
 ar := G.ar
 few := by have := G.few; have := I.few; simp; omega
 cnt := by have := I.cnt; simp; omega
 vlen := vlen
 var := hvar
 made := fun q hq => by
  by_cases h : q < L.length
  ·have M := I.made q h
   have hm : q < (mvals (fun _ => 0) L).length := by rw [mvals_len]; exact h
   refine ⟨?_, ?_, fun env => ?_, ?_, ?_, ?_⟩
   ·rw [getD_app h]; exact M.tm.le G.le
   ·rw [getD_app h, wd_le M.tm G.le]; exact M.wd
   ·rw [getD_app h, val_le M.tm.2 G.le, mvals_snoc, getD_app (by rw [mvals_len]; exact h)]; exact M.val env
   ·rw [getD_app h]; exact M.ok.app (by omega) _
   ·rw [getD_app h]; exact M.v
   ·rw [getD_app h]; exact M.tq
  ·have e : q = L.length := by simp at hq; omega
   subst e
   refine ⟨?_, ?_, fun env => ?_, ?_, ?_, ?_⟩
   ·rw [getD_last]; exact G.tm
   ·rw [getD_last]; exact G.wd
   ·rw [getD_last, mvals_snoc]
    have := mvals_len env L
    rw [← this, getD_last, ← hf env]
    exact G.v env
   ·rw [getD_last]; exact hok.app (Nat.le_refl _) _
   ·rw [getD_last]; exact hv
   ·rw [getD_last]
    have := G.few; have := I.few; have := G.tm.2
    show t ≤ _
    omega

/-! ### refusals -/
theorem Ite_bad (N : Nat) (hN : 12 ≤ N ∧ N ≤ 2 ^ 62) {l : List Nd} {b : By} (A : Ar l b) (ws : Ws) {c x y : Int} (hc : Tm l c) (hx : Tm l x) (hy : Tm l y) (h : wd l c ≠ 1 ∨ wd l x ≠ wd l y) {R : Type} (k : Int → Int → By → Ws → List Nd → Option R) :
  Z17 N c x y l b ws k = k 0 2 b ws l := by
 unfold Z17 Z17_T
 rw [there_eq N A.len b ws _ (by simp; omega) hN.2]
 simp only [List.all_cons, List.all_nil, hc, hx, hy, decide_true, Bool.and_true, Bool.not_true, br_false]
 rw [Width_eq N A.len]
 by_cases h1 : wd l c = 1
 ·rw [decide_eq_true h1]
  simp only [Bool.not_true, Bool.not_false, br_true, br_false]
  rw [Width_eq N A.len, Width_eq N A.len, decide_eq_false (by rcases h with h | h; exact absurd h1 h; exact h)]
  rfl
 ·rw [decide_eq_false h1]
  rfl
theorem Ext_bad (N : Nat) (hN : 12 ≤ N ∧ N ≤ 2 ^ 62) {l : List Nd} {b : By} (A : Ar l b) (ws : Ws) {w x : Int} (hx : Tm l x) (h : ¬ Wd w ∨ w < wd l x) {R : Type} (k : Int → Int → By → Ws → List Nd → Option R) :
  Z16 N w x l b ws k = k 0 2 b ws l := by
 obtain ⟨n, rfl⟩ : ∃ n, N = n + 1 := ⟨N - 1, by omega⟩
 unfold Z16
 rw [G_term_Arena_Ext_rec]
 dsimp only
 unfold Z16_T
 rw [Node_eq (n + 1) A.len, decide_eq_true hx, Bool.not_true, br_false, May_eq']
 by_cases hw : Wd w
 ·rw [decide_eq_true hw]
  simp only [Bool.not_true, Bool.not_false, br_true, br_dec]
  rw [if_pos (show w < (nd l x).w by rcases h with h | h; exact absurd hw h; exact h)]
 ·rw [decide_eq_false hw]
  rfl
theorem Cut_bad (N : Nat) (hN : 12 ≤ N ∧ N ≤ 2 ^ 62) {l : List Nd} {b : By} (A : Ar l b) (ws : Ws) {w x : Int} (hx : Tm l x) (h : ¬ Wd w ∨ wd l x < w) {R : Type} (k : Int → Int → By → Ws → List Nd → Option R) :
  Z14 N w x l b ws k = k 0 2 b ws l := by
 obtain ⟨n, rfl⟩ : ∃ n, N = n + 1 := ⟨N - 1, by omega⟩
 unfold Z14
 rw [G_term_Arena_Cut_rec]
 dsimp only
 unfold Z14_T
 rw [Node_eq (n + 1) A.len, decide_eq_true hx, Bool.not_true, br_false, May_eq']
 by_cases hw : Wd w
 ·rw [decide_eq_true hw]
  simp only [Bool.not_true, Bool.not_false, br_true, br_dec]
  rw [if_pos (show (nd l x).w < w by rcases h with h | h; exact absurd hw h; exact h)]
 ·rw [decide_eq_false hw]
  rfl

/-! ### one row -/
abbrev BK0 (R : Type) := List Nd → Bool → Int → By → Ws → List Nd → List Md → List Int → Option R
abbrev BK1 (R : Type) := List Nd → Int → By → Ws → List Nd → List Md → List Int → Option R

theorem fin_new (N f : Nat) {R : Type} (k0 : BK0 R) (k1 : BK1 R) (rows : List Nd) (i : Int) {l : List Nd} (hl : l.length ≤ 65536) (b : By) (ws : Ws) (L : List Md) (vs : List Int) (hL : L.length ≤ 100000) {t op w v a c d W i0 i1 i2 : Int} (hw : wd l t = W) :
  Z7_lj2 N k0 k1 f rows i 0 0 b ws l L vs t op w v a c d W [i0, i1, i2] = k1 rows i b ws l (L ++ [(t, (op, w, v, a, c, d), W, i0, i1, i2)]) vs := by
 unfold Z7_lj2 Z7_lj2_T0
 rw [br_ndec, if_pos rfl, br_dec, if_pos rfl, Width_eq N hl, hw, decide_eq_true rfl, br_true, Bool.not_true, br_false, fits_of (by omega), decide_eq_true (by omega), sub_all]
 rfl
theorem fin_no (N f : Nat) {R : Type} (k0 : BK0 R) (k1 : BK1 R) (rows : List Nd) (i e : Int) (he : e ≠ 0) (l : List Nd) (b : By) (ws : Ws) (L : List Md) (vs : List Int) (t op w v a c d W : Int) (is : List Int) :
  Z7_lj2 N k0 k1 f rows i e e b ws l L vs t op w v a c d W is = k1 rows i b ws l L vs := by
 unfold Z7_lj2 Z7_lj2_T0
 rw [br_ndec, if_pos rfl, br_dec, if_neg he]

theorem getD_set_same {l : List Int} {i : Nat} (h : i < l.length) (x d : Int) : (l.set i x).getD i d = x := by
 rw [List.getD_eq_getElem?_getD, List.getElem?_set_self h]
 rfl
theorem getD_set_ne {l : List Int} {i j : Nat} (h : i ≠ j) (x d : Int) : (l.set i x).getD j d = l.getD j d := by
 rw [List.getD_eq_getElem?_getD, List.getElem?_set_ne h, ← List.getD_eq_getElem?_getD]

/-- the switch: a row whose parts are there -/
theorem switch_ok (N : Nat) (hN : 70000 ≤ N ∧ N ≤ 2 ^ 62) (rows : List Nd) (i : Int) {L : List Md} {l : List Nd} {b : By} {ws : Ws} {vs : List Int} {n : Nat} (I : BInv L l b ws vs n) (hn : n ≤ 10000) (op w v a c d : Int) (hv : 0 ≤ v ∧ v < 65536) (i0 i1 i2 x y z wx wy wz : Int)
  (hp : (op = 1 ∨ op = 2) ∨ ((0 ≤ i0 ∧ i0 < (L.length : Int)) ∧ (0 ≤ i1 ∧ i1 < (L.length : Int)) ∧ (0 ≤ i2 ∧ i2 < (L.length : Int)) ∧ x = (L.getD i0.toNat md0).t ∧ y = (L.getD i1.toNat md0).t ∧ z = (L.getD i2.toNat md0).t ∧ wx = (L.getD i0.toNat md0).w ∧ wy = (L.getD i1.toNat md0).w ∧ wz = (L.getD i2.toNat md0).w)) :
  ∃ L' l' b' ws' vs', BInv L' l' b' ws' vs' (n + 1) ∧ ∀ {R : Type} (k0 : BK0 R) (k1 : BK1 R), Z7_lj1 N k0 k1 N rows i x y z wx wy wz b ws l L vs op w v a c d 0 op w v a c d 0 [i0, i1, i2] = k1 rows i b' ws' l' L' vs' := by
 have A := I.ar
 have hl : l.length + 3 ≤ 65536 := by have := I.few; have := I.cnt; omega
 have hL : L.length ≤ 100000 := by have := I.cnt; omega
 have hN12 : 12 ≤ N ∧ N ≤ 2 ^ 62 := by omega
 by_cases h1 : op = 1
 ·subst h1
  by_cases hw : Wd w
  ·obtain ⟨t, l', b', G, _, hc⟩ := Const_eq N A ws hw hv (by omega)
   refine ⟨_, l', b', ws, vs, I.add G (by omega) (row := (1, w, v, a, c, d)) (i := i0) (j := i1) (k := i2) (fun env => ?_) (.inl (.inl rfl)) hv I.vlen I.var, fun k0 k1 => ?_⟩
   ·rw [mv_mk]
    rw [if_pos rfl]
   ·unfold Z7_lj1 Z7_lj1_T0
    rw [br_dec, if_pos rfl]
    refine (hc _).trans ?_
    rw [refMay_eq, br_ndec, if_pos hw]
    exact fin_new N N k0 k1 rows i G.ar.len b' ws L vs hL G.wd
  ·refine ⟨L, l, b, ws, vs, I.skip, fun k0 k1 => ?_⟩
   unfold Z7_lj1 Z7_lj1_T0
   rw [br_dec, if_pos rfl, Const_bad N ws hw, refMay_eq, br_ndec, if_neg hw]
   exact fin_no N N k0 k1 rows i 2 (by decide) l b ws L vs _ _ _ _ _ _ _ _ _
 by_cases h2 : op = 2
 ·subst h2
  have ev : IntKind.wrap .i64 v = v := w64 (by omega)
  by_cases hw : Wd w
  ·by_cases hv6 : v < 64
   ·obtain ⟨id, rfl⟩ : ∃ id : Nat, v = (id : Int) := ⟨v.toNat, by omega⟩
    have b1 : inB (id : Int) 64 = true := inB_of ⟨by omega, by omega⟩
    have b2 : decide (id < 64) = true := decide_eq_true (by omega)
    have good : (wfind ws (id : Int) = none ∨ wfind ws (id : Int) = some w) → (vs.getD id 0 = 0 ∨ vs.getD id 0 = w) →
      ∃ L' l' b' ws' vs', BInv L' l' b' ws' vs' (n + 1) ∧ ∀ {R : Type} (k0 : BK0 R) (k1 : BK1 R), Z7_lj1 N k0 k1 N rows i x y z wx wy wz b ws l L vs 2 w (id : Int) a c d 0 2 w (id : Int) a c d 0 [i0, i1, i2] = k1 rows i b' ws' l' L' vs' := fun hs hx => by
     obtain ⟨t, l', b', G, _, hc⟩ := Var_eq N A ws (i := (id : Int)) hw (by omega) hs (by omega)
     refine ⟨_, l', b', mput (.int .i64) (.int .i64) ws (id : Int) w, vs.set id w, I.add G (by omega) (row := (2, w, (id : Int), a, c, d)) (i := i0) (j := i1) (k := i2) (fun env => ?_) (.inl (.inr rfl)) hv (by rw [List.length_set]; exact I.vlen) (fun j hj => ?_), fun k0 k1 => ?_⟩
     ·rw [mv_mk]
      rw [if_neg (by decide), if_pos rfl]
     ·by_cases e : id = j
      ·subst e
       exact .inr ⟨w, hw, mfind_put_same (by rfl) _ _, getD_set_same (by rw [I.vlen]; omega) _ _⟩
      ·have e1 : wfind (mput (.int .i64) (.int .i64) ws (id : Int) w) (j : Int) = wfind ws (j : Int) := mfind_put_ne (by rfl) (show (id : Int) ≠ (j : Int) by omega) _
       rw [e1, getD_set_ne e]
       exact I.var j hj
     ·unfold Z7_lj1 Z7_lj1_T0
      rw [br_dec, if_neg (by decide), br_dec, if_pos rfl, ev]
      refine (hc _).trans ?_
      simp only [Int.toNat_natCast, b1, b2, br_true, br_ndec]
      rw [refMay_eq, br_ndec, if_pos hw, if_neg (by omega)]
      have fin := fin_new N N k0 k1 rows i G.ar.len b' (mput (.int .i64) (.int .i64) ws (id : Int) w) L (vs.set id w) hL (op := 2) (w := w) (v := (id : Int)) (a := a) (c := c) (d := d) (i0 := i0) (i1 := i1) (i2 := i2) G.wd
      by_cases e : vs.getD id 0 = 0
      ·rw [if_pos e]
       exact fin
      ·rw [if_neg e, if_pos (by rcases hx with hx | hx; exact absurd hx e; exact hx)]
       exact fin
    rcases I.var id (by omega) with ⟨e1, e2⟩ | ⟨w0, hw0, e1, e2⟩
    ·exact good (.inl e1) (.inl e2)
    ·by_cases e : w0 = w
     ·subst e
      exact good (.inr e1) (.inr e2)
     ·refine ⟨L, l, b, ws, vs, I.skip, fun k0 k1 => ?_⟩
      have e0 : ¬ vs.getD id 0 = 0 := by rw [e2]; unfold Wd at hw0; omega
      unfold Z7_lj1 Z7_lj1_T0
      rw [br_dec, if_neg (by decide), br_dec, if_pos rfl, ev, Var_arg N ws hw (.inr (.inr ⟨e1, e⟩))]
      simp only [Int.toNat_natCast, b1, b2, br_true, br_ndec]
      rw [refMay_eq, br_ndec, if_pos hw, if_neg (by omega), if_neg e0, if_neg (by rw [e2]; exact e)]
      exact fin_no N N k0 k1 rows i 1 (by decide) l b ws L vs _ _ _ _ _ _ _ _ _
   ·refine ⟨L, l, b, ws, vs, I.skip, fun k0 k1 => ?_⟩
    unfold Z7_lj1 Z7_lj1_T0
    rw [br_dec, if_neg (by decide), br_dec, if_pos rfl, ev, Var_arg (x := 0) N ws hw (.inr (.inl (by omega))), refMay_eq, br_ndec, if_pos hw, br_ndec, if_pos (by omega)]
    exact fin_no N N k0 k1 rows i 1 (by decide) l b ws L vs _ _ _ _ _ _ _ _ _
  ·refine ⟨L, l, b, ws, vs, I.skip, fun k0 k1 => ?_⟩
   unfold Z7_lj1 Z7_lj1_T0
   rw [br_dec, if_neg (by decide), br_dec, if_pos rfl, ev, Var_bad N ws hw, refMay_eq, br_ndec, if_neg hw]
   exact fin_no N N k0 k1 rows i 2 (by decide) l b ws L vs _ _ _ _ _ _ _ _ _
 obtain ⟨p0, p1, p2, rfl, rfl, rfl, rfl, rfl, rfl⟩ : (0 ≤ i0 ∧ i0 < (L.length : Int)) ∧ (0 ≤ i1 ∧ i1 < (L.length : Int)) ∧ (0 ≤ i2 ∧ i2 < (L.length : Int)) ∧ x = (L.getD i0.toNat md0).t ∧ y = (L.getD i1.toNat md0).t ∧ z = (L.getD i2.toNat md0).t ∧ wx = (L.getD i0.toNat md0).w ∧ wy = (L.getD i1.toNat md0).w ∧ wz = (L.getD i2.toNat md0).w := by
  rcases hp with (h | h) | h
  ·exact absurd h h1
  ·exact absurd h h2
  ·exact h
 have M0 := I.made i0.toNat (by omega)
 have M1 := I.made i1.toNat (by omega)
 have M2 := I.made i2.toNat (by omega)
 have w0 := M0.wd
 have w1 := M1.wd
 have w2 := M2.wd
 have hok : ∀ {op' : Int}, 3 ≤ op' → op' ≤ 18 → (4 ≤ op' → op' ≤ 15 → (L.getD i0.toNat md0).w = (L.getD i1.toNat md0).w) → POk L L.length op' i0 i1 i2 := fun h h' h2 => .inr ⟨⟨h, h'⟩, p0, p1, p2, h2⟩
 by_cases h3 : op = 3
 ·subst h3
  obtain ⟨t, l', b', G, hc⟩ := Not_eq N A ws M0.tm (by omega) (by omega)
  rw [w0] at G
  refine ⟨_, l', b', ws, vs, I.add G (by omega) (row := (3, w, v, a, c, d)) (i := i0) (j := i1) (k := i2) (fun env => ?_) (hok (op' := 3) (by decide) (by decide) (by omega)) hv I.vlen I.var, fun k0 k1 => ?_⟩
  ·rw [mv_mk]
   rw [if_neg (by decide), if_neg (by decide), if_neg (by decide), if_neg (by decide)]
   unfold doN
   rw [if_pos rfl, M0.val env]
  ·unfold Z7_lj1 Z7_lj1_T0
   rw [br_dec, if_neg h1, br_dec, if_neg h2, br_dec, if_pos rfl]
   refine (hc _).trans ?_
   exact fin_new N N k0 k1 rows i G.ar.len b' ws L vs hL G.wd
 by_cases h4 : 4 ≤ op ∧ op ≤ 15
 ·by_cases hw : wd l (L.getD i0.toNat md0).t = wd l (L.getD i1.toNat md0).t
  ·obtain ⟨t, l', b', G, hc⟩ := Two_eq N hN12 A ws M0.tm M1.tm hw h4 (by omega)
   rw [w0] at G
   rw [w0, w1] at hw
   refine ⟨_, l', b', ws, vs, I.add G (by omega) (row := (op, w, v, a, c, d)) (i := i0) (j := i1) (k := i2) (fun env => ?_) (hok (op' := op) (by omega) (by omega) (fun _ _ => hw)) hv I.vlen I.var, fun k0 k1 => ?_⟩
   ·rw [mv_mk]
    rw [if_neg h1, if_neg h2, if_neg (show ¬ op = 16 by omega), if_neg (show ¬ (op = 17 ∨ op = 18) by omega), M0.val env, M1.val env]
   ·unfold Z7_lj1 Z7_lj1_T0
    rw [br_dec, if_neg h1, br_dec, if_neg h2, br_dec, if_neg h3, br_dec, if_pos h4.1, br_dec, if_pos h4.2]
    refine (hc _).trans ?_
    have gw := G.wd
    simp only [br_dec, br_ndec]
    by_cases h14 : op = 14
    ·rw [if_pos h14, if_pos hw]
     rw [show outW op (L.getD i0.toNat md0).w = 1 from if_pos (.inl h14)] at gw ⊢
     exact fin_new N N k0 k1 rows i G.ar.len b' ws L vs hL gw
    rw [if_neg h14]
    by_cases h15 : op = 15
    ·rw [if_pos h15, if_pos hw]
     rw [show outW op (L.getD i0.toNat md0).w = 1 from if_pos (.inr h15)] at gw ⊢
     exact fin_new N N k0 k1 rows i G.ar.len b' ws L vs hL gw
    rw [if_neg h15, if_pos hw]
    rw [show outW op (L.getD i0.toNat md0).w = (L.getD i0.toNat md0).w from if_neg (by omega)] at gw ⊢
    exact fin_new N N k0 k1 rows i G.ar.len b' ws L vs hL gw
  ·refine ⟨L, l, b, ws, vs, I.skip, fun k0 k1 => ?_⟩
   unfold Z7_lj1 Z7_lj1_T0
   rw [br_dec, if_neg h1, br_dec, if_neg h2, br_dec, if_neg h3, br_dec, if_pos h4.1, br_dec, if_pos h4.2]
   rw [Two_bad N hN12 A.len b ws op _ _ (.inr (.inr hw)), if_neg (fun e => e h4), if_neg (fun e => e ⟨M0.tm, M1.tm⟩)]
   rw [w0, w1] at hw
   simp only [br_dec, br_ndec, if_neg hw]
   split
   ·exact fin_no N N k0 k1 rows i 2 (by decide) l b ws L vs _ _ _ _ _ _ _ _ _
   ·split
    ·exact fin_no N N k0 k1 rows i 2 (by decide) l b ws L vs _ _ _ _ _ _ _ _ _
    ·exact fin_no N N k0 k1 rows i 2 (by decide) l b ws L vs _ _ _ _ _ _ _ _ _
 by_cases h16 : op = 16
 ·subst h16
  by_cases hw : wd l (L.getD i0.toNat md0).t = 1 ∧ wd l (L.getD i1.toNat md0).t = wd l (L.getD i2.toNat md0).t
  ·obtain ⟨t, l', b', G, hc⟩ := Ite_eq N hN12 A ws M0.tm M1.tm M2.tm hw.1 hw.2 (by omega)
   rw [w1] at G
   rw [w0, w1, w2] at hw
   refine ⟨_, l', b', ws, vs, I.add G (by omega) (row := (16, w, v, a, c, d)) (i := i0) (j := i1) (k := i2) (fun env => ?_) (hok (op' := 16) (by decide) (by decide) (by omega)) hv I.vlen I.var, fun k0 k1 => ?_⟩
   ·rw [mv_mk]
    rw [M0.val env, M1.val env, M2.val env, if_neg (show ¬ (16 : Int) = 1 by decide), if_neg (show ¬ (16 : Int) = 2 by decide), if_pos (show (16 : Int) = 16 from rfl)]
   ·unfold Z7_lj1 Z7_lj1_T0
    rw [br_dec, if_neg h1, br_dec, if_neg h2, br_dec, if_neg h3, br_dec, if_pos (show (4 : Int) ≤ 16 by decide), br_dec, if_neg (show ¬ (16 : Int) ≤ 15 by decide), br_dec, if_pos rfl]
    refine (hc _).trans ?_
    simp only [Bool.not_not, br_dec, br_ndec, if_pos hw.1, if_pos hw.2]
    exact fin_new N N k0 k1 rows i G.ar.len b' ws L vs hL G.wd
  ·refine ⟨L, l, b, ws, vs, I.skip, fun k0 k1 => ?_⟩
   unfold Z7_lj1 Z7_lj1_T0
   rw [br_dec, if_neg h1, br_dec, if_neg h2, br_dec, if_neg h3, br_dec, if_pos (show (4 : Int) ≤ 16 by decide), br_dec, if_neg (show ¬ (16 : Int) ≤ 15 by decide), br_dec, if_pos rfl]
   rw [Ite_bad N hN12 A ws M0.tm M1.tm M2.tm (by omega)]
   rw [w0, w1, w2] at hw
   simp only [Bool.not_not, br_dec, br_ndec]
   by_cases e : (L.getD i0.toNat md0).w = 1
   ·rw [if_pos e, if_neg (fun e' => hw ⟨e, e'⟩)]
    exact fin_no N N k0 k1 rows i 2 (by decide) l b ws L vs _ _ _ _ _ _ _ _ _
   ·rw [if_neg e]
    exact fin_no N N k0 k1 rows i 2 (by decide) l b ws L vs _ _ _ _ _ _ _ _ _
 by_cases h17 : op = 17
 ·subst h17
  by_cases hw : Wd w ∧ wd l (L.getD i0.toNat md0).t ≤ w
  ·obtain ⟨t, l', b', G, hc⟩ := Ext_eq N hN12 A ws hw.1 M0.tm hw.2 (by omega)
   refine ⟨_, l', b', ws, vs, I.add G (by omega) (row := (17, w, v, a, c, d)) (i := i0) (j := i1) (k := i2) (fun env => ?_) (hok (op' := 17) (by decide) (by decide) (by omega)) hv I.vlen I.var, fun k0 k1 => ?_⟩
   ·rw [mv_mk]
    rw [if_neg (by decide), if_neg (by decide), if_neg (by decide), if_pos (.inl rfl), ← M0.val env]
    have hlt := A.lt' env M0.tm
    have := pow_mono (a := (wd l (L.getD i0.toNat md0).t).toNat) (b := w.toNat) (by omega)
    exact (Nat.mod_eq_of_lt (by omega)).symm
   ·unfold Z7_lj1 Z7_lj1_T0
    rw [br_dec, if_neg h1, br_dec, if_neg h2, br_dec, if_neg h3, br_dec, if_pos (show (4 : Int) ≤ 17 by decide), br_dec, if_neg (show ¬ (17 : Int) ≤ 15 by decide), br_dec, if_neg (show ¬ (17 : Int) = 16 by decide), br_dec, if_pos rfl]
    refine (hc _).trans ?_
    rw [w0] at hw
    rw [refMay_eq]
    simp only [Bool.not_not, br_dec, br_ndec, if_pos hw.1]
    rw [if_neg (by omega)]
    exact fin_new N N k0 k1 rows i G.ar.len b' ws L vs hL G.wd
  ·refine ⟨L, l, b, ws, vs, I.skip, fun k0 k1 => ?_⟩
   unfold Z7_lj1 Z7_lj1_T0
   rw [br_dec, if_neg h1, br_dec, if_neg h2, br_dec, if_neg h3, br_dec, if_pos (show (4 : Int) ≤ 17 by decide), br_dec, if_neg (show ¬ (17 : Int) ≤ 15 by decide), br_dec, if_neg (show ¬ (17 : Int) = 16 by decide), br_dec, if_pos rfl]
   rw [Ext_bad N hN12 A ws M0.tm (by
    by_cases e : Wd w
    ·exact .inr (by
             have : ¬ wd l (L.getD i0.toNat md0).t ≤ w := fun h => hw ⟨e, h⟩
             omega)
    ·exact .inl e), refMay_eq]
   rw [w0] at hw
   simp only [Bool.not_not, br_dec, br_ndec]
   by_cases e : Wd w
   ·rw [if_pos e, if_pos (by
                 have : ¬ (L.getD i0.toNat md0).w ≤ w := fun h => hw ⟨e, h⟩
                 omega)]
    exact fin_no N N k0 k1 rows i 2 (by decide) l b ws L vs _ _ _ _ _ _ _ _ _
   ·rw [if_neg e]
    exact fin_no N N k0 k1 rows i 2 (by decide) l b ws L vs _ _ _ _ _ _ _ _ _
 by_cases h18 : op = 18
 ·subst h18
  by_cases hw : Wd w ∧ w ≤ wd l (L.getD i0.toNat md0).t
  ·obtain ⟨t, l', b', G, hc⟩ := Cut_eq N hN A ws hw.1 M0.tm hw.2 (by omega)
   refine ⟨_, l', b', ws, vs, I.add G (by omega) (row := (18, w, v, a, c, d)) (i := i0) (j := i1) (k := i2) (fun env => ?_) (hok (op' := 18) (by decide) (by decide) (by omega)) hv I.vlen I.var, fun k0 k1 => ?_⟩
   ·rw [mv_mk]
    rw [if_neg (by decide), if_neg (by decide), if_neg (by decide), if_pos (.inr rfl), ← M0.val env]
   ·unfold Z7_lj1 Z7_lj1_T0
    rw [br_dec, if_neg h1, br_dec, if_neg h2, br_dec, if_neg h3, br_dec, if_pos (show (4 : Int) ≤ 18 by decide), br_dec, if_neg (show ¬ (18 : Int) ≤ 15 by decide), br_dec, if_neg (show ¬ (18 : Int) = 16 by decide), br_dec, if_neg (show ¬ (18 : Int) = 17 by decide), br_dec, if_pos rfl]
    refine (hc _).trans ?_
    rw [w0] at hw
    unfold Z7_lj3 Z7_lj3_T0
    rw [refMay_eq]
    simp only [Bool.not_not, br_dec, br_ndec, if_pos hw.1]
    rw [if_neg (by omega)]
    exact fin_new N N k0 k1 rows i G.ar.len b' ws L vs hL G.wd
  ·refine ⟨L, l, b, ws, vs, I.skip, fun k0 k1 => ?_⟩
   unfold Z7_lj1 Z7_lj1_T0
   rw [br_dec, if_neg h1, br_dec, if_neg h2, br_dec, if_neg h3, br_dec, if_pos (show (4 : Int) ≤ 18 by decide), br_dec, if_neg (show ¬ (18 : Int) ≤ 15 by decide), br_dec, if_neg (show ¬ (18 : Int) = 16 by decide), br_dec, if_neg (show ¬ (18 : Int) = 17 by decide), br_dec, if_pos rfl]
   rw [Cut_bad N hN12 A ws M0.tm (by
    by_cases e : Wd w
    ·exact .inr (by
             have : ¬ w ≤ wd l (L.getD i0.toNat md0).t := fun h => hw ⟨e, h⟩
             omega)
    ·exact .inl e)]
   unfold Z7_lj3 Z7_lj3_T0
   rw [refMay_eq]
   rw [w0] at hw
   simp only [Bool.not_not, br_dec, br_ndec]
   by_cases e : Wd w
   ·rw [if_pos e, if_pos (by
                 have : ¬ w ≤ (L.getD i0.toNat md0).w := fun h => hw ⟨e, h⟩
                 omega)]
    exact fin_no N N k0 k1 rows i 2 (by decide) l b ws L vs _ _ _ _ _ _ _ _ _
   ·rw [if_neg e]
    exact fin_no N N k0 k1 rows i 2 (by decide) l b ws L vs _ _ _ _ _ _ _ _ _
 ·refine ⟨L, l, b, ws, vs, I.skip, fun k0 k1 => ?_⟩
  unfold Z7_lj1 Z7_lj1_T0
  rw [br_dec, if_neg h1, br_dec, if_neg h2, br_dec, if_neg h3, br_dec]
  simp only [br_dec]
  by_cases g4 : 4 ≤ op
  ·rw [if_pos g4, if_neg (show ¬ op ≤ 15 by omega), if_neg h16, if_neg h17, if_neg h18, Two_bad N hN12 A.len b ws op _ _ (.inl h4), if_pos h4]
   exact fin_no N N k0 k1 rows i 5 (by decide) l b ws L vs _ _ _ _ _ _ _ _ _
  ·rw [if_neg g4, if_neg h16, if_neg h17, if_neg h18, Two_bad N hN12 A.len b ws op _ _ (.inl h4), if_pos h4]
   exact fin_no N N k0 k1 rows i 5 (by decide) l b ws L vs _ _ _ _ _ _ _ _ _

/-- a row -/
theorem row_ok (N : Nat) (hN : 70000 ≤ N ∧ N ≤ 2 ^ 62) (rows : List Nd) (i : Int) {L : List Md} {l : List Nd} {b : By} {ws : Ws} {vs : List Int} {n : Nat} (I : BInv L l b ws vs n) (hn : n ≤ 10000) (op w v a c d : Int) (hv : 0 ≤ v ∧ v < 65536) (i0 i1 i2 : Int)
  (hi : 0 < L.length → (0 ≤ i0 ∧ i0 < (L.length : Int)) ∧ (0 ≤ i1 ∧ i1 < (L.length : Int)) ∧ (0 ≤ i2 ∧ i2 < (L.length : Int))) :
  ∃ L' l' b' ws' vs', BInv L' l' b' ws' vs' (n + 1) ∧ ∀ {R : Type} (kF : BK0 R) (k : BK1 R), Z7_lj0 N k kF k N rows i b ws l L vs op w v a c d 0 op w v a c d 0 [i0, i1, i2] = k rows i b' ws' l' L' vs' := by
 by_cases hL : L.length = 0
 ·have e : ((L.length : Int) = 0) := by omega
  by_cases h : op = 1 ∨ op = 2
  ·obtain ⟨L', l', b', ws', vs', I', hc⟩ := switch_ok N hN rows i I hn op w v a c d hv i0 i1 i2 (-1) (-1) (-1) 0 0 0 (.inl h)
   refine ⟨L', l', b', ws', vs', I', fun kF k => ?_⟩
   unfold Z7_lj0 Z7_lj0_T0
   rw [br_dec, if_pos e]
   rcases h with rfl | rfl
   ·simp only [decide_true, Bool.not_true, br_false, br_dec]
    rw [if_neg (by omega)]
    exact hc kF k
   ·simp only [decide_true, Bool.not_true, br_false, br_dec, br_ndec]
    rw [if_neg (by decide), if_neg (by omega)]
    exact hc kF k
  ·refine ⟨L, l, b, ws, vs, I.skip, fun kF k => ?_⟩
   unfold Z7_lj0 Z7_lj0_T0
   rw [br_dec, if_pos e]
   simp only [br_ndec]
   rw [if_neg (fun e => h (.inl e)), if_neg (fun e => h (.inr e))]
 ·obtain ⟨h0, h1, h2⟩ := hi (by omega)
  obtain ⟨L', l', b', ws', vs', I', hc⟩ := switch_ok N hN rows i I hn op w v a c d hv i0 i1 i2 _ _ _ _ _ _ (.inr ⟨h0, h1, h2, rfl, rfl, rfl, rfl, rfl, rfl⟩)
  refine ⟨L', l', b', ws', vs', I', fun kF k => ?_⟩
  unfold Z7_lj0 Z7_lj0_T0
  rw [br_dec, if_neg (by omega)]
  simp only [List.getD_cons_zero, List.getD_cons_succ]
  rw [br_dec, if_pos (by omega)]
  simp only [inB_of h0, inB_of h1, inB_of h2, br_true, decide_eq_true (show i0.toNat < L.length by omega), decide_eq_true (show i1.toNat < L.length by omega), decide_eq_true (show i2.toNat < L.length by omega)]
  exact hc kF k

/-- rows as they may be -/
def RowsOk (rows : List Nd) : Prop := ∀ r ∈ rows, (0 ≤ r.v ∧ r.v < 65536) ∧ (0 ≤ r.a ∧ r.a < 256) ∧ (0 ≤ r.b ∧ r.b < 256) ∧ (0 ≤ r.c ∧ r.c < 256)

theorem part_of {x : Int} (h : 0 ≤ x ∧ x < 256) {n : Nat} (hn : 0 < n) : 0 ≤ Int.tmod (IntKind.wrap .i64 x) (n : Int) ∧ Int.tmod (IntKind.wrap .i64 x) (n : Int) < (n : Int) := by
 rw [w64 (by omega), Int.tmod_eq_emod_of_nonneg h.1]
 exact ⟨Int.emod_nonneg _ (by omega), Int.emod_lt_of_pos _ (by omega)⟩

theorem build_loop (N : Nat) (hN : 70000 ≤ N ∧ N ≤ 2 ^ 62) (rows : List Nd) (hr : RowsOk rows) (hlen : rows.length ≤ 10000) :
  ∀ (n q : Nat) {L : List Md} {l : List Nd} {b : By} {ws : Ws} {vs : List Int}, q ≤ rows.length → rows.length - q < n → BInv L l b ws vs q →
   ∃ L' l' b' ws' vs', BInv L' l' b' ws' vs' rows.length ∧ ∀ {R : Type} (k0 : Bool → By → Ws → List Nd → List Md → Option R) (k1 : By → Ws → List Nd → List Md → Option R), Z7_l0 N k0 k1 n rows (q : Int) b ws l L vs = k1 b' ws' l' L'
 | 0, q, L, l, b, ws, vs, hq, h, I => by omega
 | n + 1, q, L, l, b, ws, vs, hq, h, I => by
  by_cases c : q < rows.length
  ·have hrow := hr (rows.getD q nd0) (by
    rw [List.getD_eq_getElem?_getD, List.getElem?_eq_getElem c]
    exact List.getElem_mem c)
   by_cases hL : 0 < L.length
   ·obtain ⟨L1, l1, b1, ws1, vs1, I1, hc⟩ := row_ok N hN rows (q : Int) I (by omega) (rows.getD q nd0).1 (rows.getD q nd0).2.1 (rows.getD q nd0).2.2.1 (rows.getD q nd0).2.2.2.1 (rows.getD q nd0).2.2.2.2.1 (rows.getD q nd0).2.2.2.2.2 hrow.1
     (Int.tmod (IntKind.wrap .i64 (rows.getD q nd0).2.2.2.1) (L.length : Int)) (Int.tmod (IntKind.wrap .i64 (rows.getD q nd0).2.2.2.2.1) (L.length : Int)) (Int.tmod (IntKind.wrap .i64 (rows.getD q nd0).2.2.2.2.2) (L.length : Int))
     (fun hp => ⟨part_of hrow.2.1 hp, part_of hrow.2.2.1 hp, part_of hrow.2.2.2 hp⟩)
    obtain ⟨L2, l2, b2, ws2, vs2, I2, hc2⟩ := build_loop N hN rows hr hlen n (q + 1) (by omega) (by omega) I1
    refine ⟨L2, l2, b2, ws2, vs2, I2, fun k0 k1 => ?_⟩
    unfold Z7_l0 Z7_l0_T0
    rw [br_dec, if_pos (by omega), inB_of (by omega), br_true, br_dec, if_pos (by omega), br_dec, if_neg (by omega), br_dec, if_neg (by omega), br_dec, if_neg (by omega), Int.toNat_natCast]
    refine (hc _ _).trans ?_
    rw [w64_succ (by omega)]
    exact hc2 k0 k1
   ·obtain ⟨L1, l1, b1, ws1, vs1, I1, hc⟩ := row_ok N hN rows (q : Int) I (by omega) (rows.getD q nd0).1 (rows.getD q nd0).2.1 (rows.getD q nd0).2.2.1 (rows.getD q nd0).2.2.2.1 (rows.getD q nd0).2.2.2.2.1 (rows.getD q nd0).2.2.2.2.2 hrow.1 0 0 0 (fun hp => absurd hp hL)
    obtain ⟨L2, l2, b2, ws2, vs2, I2, hc2⟩ := build_loop N hN rows hr hlen n (q + 1) (by omega) (by omega) I1
    refine ⟨L2, l2, b2, ws2, vs2, I2, fun k0 k1 => ?_⟩
    unfold Z7_l0 Z7_l0_T0
    rw [br_dec, if_pos (by omega), inB_of (by omega), br_true, br_dec, if_neg (by omega), Int.toNat_natCast]
    refine (hc _ _).trans ?_
    rw [w64_succ (by omega)]
    exact hc2 k0 k1
  ·have e : q = rows.length := by omega
   subst e
   refine ⟨L, l, b, ws, vs, I, fun k0 k1 => ?_⟩
   unfold Z7_l0 Z7_l0_T0
   rw [decide_eq_false (by omega), br_false]

theorem Build_eq (N : Nat) (hN : 70000 ≤ N ∧ N ≤ 2 ^ 62) (rows : List Nd) (hr : RowsOk rows) (hlen : rows.length ≤ 10000) :
  ∃ L l b ws vs, BInv L l b ws vs rows.length ∧ ∀ {R : Type} (k : Bool → By → Ws → List Nd → List Md → Option R), Z7 N rows [] [] [] k = k true b ws l L := by
 obtain ⟨L, l, b, ws, vs, I, hc⟩ := build_loop N hN rows hr hlen N 0 (by omega) (by omega) BInv.nil
 refine ⟨L, l, b, ws, vs, I, fun k => ?_⟩
 unfold Z7 Z7_T
 exact hc _ _

end Go.Proofs.Ytmgoeikbdikmdaa
