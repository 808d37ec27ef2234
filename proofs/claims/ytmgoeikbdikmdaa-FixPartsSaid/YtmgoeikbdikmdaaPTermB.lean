/-
 terms (chapter 2): the makers of terms, one by one.
-/
import Derived.Test.YtmgoeikbdikmdaaPTermA
set_option linter.unusedSimpArgs false
set_option linter.unusedVariables false
namespace Go.Proofs.Ytmgoeikbdikmdaa
open Go.Gx

@[simp] theorem op_mk (o w v a b c : Int) : Nd.op (o, w, v, a, b, c) = o := rfl
@[simp] theorem w_mk (o w v a b c : Int) : Nd.w (o, w, v, a, b, c) = w := rfl
@[simp] theorem v_mk (o w v a b c : Int) : Nd.v (o, w, v, a, b, c) = v := rfl
@[simp] theorem a_mk (o w v a b c : Int) : Nd.a (o, w, v, a, b, c) = a := rfl
@[simp] theorem b_mk (o w v a b c : Int) : Nd.b (o, w, v, a, b, c) = b := rfl
@[simp] theorem c_mk (o w v a b c : Int) : Nd.c (o, w, v, a, b, c) = c := rfl
theorem NodeOk.mk' {l : List Nd} {o w v a b c : Int} (kw : Wd w) (ops : 1 ≤ o ∧ o ≤ 18) (pa : 0 ≤ a ∧ a ≤ (l.length : Int)) (pb : 0 ≤ b ∧ b ≤ (l.length : Int)) (pc : 0 ≤ c ∧ c ≤ (l.length : Int))
  (num : o = 1 → 0 ≤ v ∧ v < ((2 ^ w.toNat : Nat) : Int)) (var : o = 2 → 0 ≤ v ∧ v < 64) (not : o = 3 → Tm l a ∧ wd l a = w)
  (two : 4 ≤ o → o ≤ 15 → Tm l a ∧ Tm l b ∧ wd l a = wd l b ∧ w = outW o (wd l a))
  (ite : o = 16 → Tm l a ∧ Tm l b ∧ Tm l c ∧ wd l a = 1 ∧ wd l b = w ∧ wd l c = w) (ext : o = 17 → Tm l a ∧ wd l a < w) (cut : o = 18 → Tm l a ∧ w < wd l a) (var0 : o ≤ 2 → a = 0 ∧ b = 0 ∧ c = 0 := by first | exact fun _ => ⟨rfl, rfl, rfl⟩ | (intro e; exfalso; omega)) : NodeOk l (o, w, v, a, b, c) :=
 ⟨kw, ops, pa, pb, pc, num, var, var0, not, two, ite, ext, cut⟩
theorem NodeOk.app {l : List Nd} {n : Nd} (K : NodeOk l n) (m : List Nd) : NodeOk (l ++ m) n where
 kw := K.kw
 ops := K.ops
 pa := ⟨K.pa.1, by have := K.pa.2; simp; omega⟩
 pb := ⟨K.pb.1, by have := K.pb.2; simp; omega⟩
 pc := ⟨K.pc.1, by have := K.pc.2; simp; omega⟩
 num := K.num
 var := K.var
 var0 := K.var0
 not h := by obtain ⟨a, b⟩ := K.not h; exact ⟨a.app m, by rw [wd_app a]; exact b⟩
 two h h' := by obtain ⟨a, b, c, d⟩ := K.two h h'; exact ⟨a.app m, b.app m, by rw [wd_app a, wd_app b]; exact c, by rw [wd_app a]; exact d⟩
 ite h := by obtain ⟨a, b, c, d, e, f⟩ := K.ite h; exact ⟨a.app m, b.app m, c.app m, by rw [wd_app a]; exact d, by rw [wd_app b]; exact e, by rw [wd_app c]; exact f⟩
 ext h := by obtain ⟨a, b⟩ := K.ext h; exact ⟨a.app m, by rw [wd_app a]; exact b⟩
 cut h := by obtain ⟨a, b⟩ := K.cut h; exact ⟨a.app m, by rw [wd_app a]; exact b⟩
theorem Ar.nodeOk {l : List Nd} {b : By} (A : Ar l b) {t : Int} (h : Tm l t) : NodeOk l (nd l t) ∧ (nd l t).a < t ∧ (nd l t).b < t ∧ (nd l t).c < t := by
 obtain ⟨l1, l2, e, hl1, K⟩ := A.node h
 refine ⟨?_, by have := K.pa; omega, by have := K.pb; omega, by have := K.pc; omega⟩
 have := K.app (nd l t :: l2)
 rw [← e] at this
 exact this
/-- the variables' numbers out of a row: those that it has -/
def envOf (e : List Int) (L : Nat) (i : Nat) : Nat := if i < L then (e.getD i 0).toNat else 0
theorem noPart (l : List Nd) : (0 : Int) ≤ 0 ∧ (0 : Int) ≤ (l.length : Int) := ⟨by omega, by omega⟩
theorem Tm.part {l : List Nd} {t : Int} (h : Tm l t) : 0 ≤ t ∧ t ≤ (l.length : Int) := ⟨by have := h.1; omega, h.2⟩

/-- a term that was got: its width, its value, how many nodes came -/
structure Got (l : List Nd) (w : Int) (f : (Nat → Nat) → Nat) (many : Nat) (t : Int) (l' : List Nd) (b' : By) : Prop where
 le : Le l l'
 ar : Ar l' b'
 tm : Tm l' t
 wd : wd l' t = w
 v : ∀ env, val env l' t = f env
 few : l'.length ≤ l.length + many

theorem Got.more {l : List Nd} {w : Int} {f g : (Nat → Nat) → Nat} {m m' : Nat} {t : Int} {l' : List Nd} {b' : By} (h : Got l w f m t l' b') (hf : ∀ env, f env = g env) (hm : m ≤ m') : Got l w g m' t l' b' :=
 ⟨h.le, h.ar, h.tm, h.wd, fun env => (h.v env).trans (hf env), by have := h.few; omega⟩
theorem Got.from {l l1 : List Nd} {w : Int} {f : (Nat → Nat) → Nat} {m m1 : Nat} {t : Int} {l' : List Nd} {b' : By} (h : Got l1 w f m t l' b') (k : Le l l1) (hm : l1.length ≤ l.length + m1) : Got l w f (m1 + m) t l' b' :=
 ⟨k.trans h.le, h.ar, h.tm, h.wd, h.v, by have := h.few; omega⟩
theorem Got.self {l : List Nd} {b : By} (A : Ar l b) {t : Int} (h : Tm l t) : Got l (Go.Proofs.Ytmgoeikbdikmdaa.wd l t) (fun env => val env l t) 0 t l b :=
 ⟨Le.refl l, A, h, rfl, fun _ => rfl, by omega⟩

theorem keep_eq (N : Nat) {l : List Nd} {b : By} (A : Ar l b) (ws : Ws) (n : Nd) (K : NodeOk l n) (hl : l.length < 65536) :
  ∃ t l' b', Got l n.w (fun env => nv env n (wd l n.a).toNat (val env l n.a) (val env l n.b) (val env l n.c)) 1 t l' b' ∧ nd l' t = n ∧
   ∀ {R : Type} (k : Int → Int → By → Ws → List Nd → Option R), Z27 N n.op n.w n.v n.a n.b n.c l b ws k = k t 0 b' ws l' := by
 cases hf : mfind SNd (.int .i64) b n with
 | some x =>
  obtain ⟨hx, hn⟩ := A.by' n x hf
  refine ⟨x, l, b, ⟨Le.refl l, A, hx, ?_, fun env => ?_, by omega⟩, hn, fun k => ?_⟩
  ·unfold wd; rw [hn]
  ·rw [A.val_eq env hx, hn]
  ·unfold Z27 Z27_T
   have hf' : mfind SNd (.int .i64) b (n.op, n.w, n.v, n.a, n.b, n.c) = some x := hf
   rw [hf']
   rfl
 | none =>
  have hnew : nd (l ++ [n]) (l.length + 1) = n := nd_new l n []
  have htm : Tm (l ++ [n]) ((l.length : Int) + 1) := by unfold Tm; simp; omega
  have A' : Ar (l ++ [n]) (mput SNd (.int .i64) b n ((l.length + 1 : Nat) : Int)) := by
   refine ⟨fun l1 m l2 h => ?_, fun m x h => ?_, by simp; omega, fun t h => ?_⟩
   ·rcases List.eq_nil_or_concat l2 with rfl | ⟨l3, y, rfl⟩
    ·obtain ⟨h1, h2⟩ := List.append_inj' h rfl
     cases h2
     cases h1
     exact K
    ·have h' : l ++ [n] = (l1 ++ m :: l3) ++ [y] := by rw [h]; simp
     obtain ⟨h1, h2⟩ := List.append_inj' h' rfl
     exact A.nodes l1 m l3 h1
   ·by_cases e : n = m
    ·subst e
     rw [mfind_put_same] at h
     ·cases h
      exact ⟨htm, hnew⟩
     ·rfl
    ·rw [mfind_put_ne (by rfl) e] at h
     obtain ⟨h1, h2⟩ := A.by' m x h
     exact ⟨h1.app _, by rw [nd_app h1]; exact h2⟩
   ·by_cases ht : Tm l t
    ·rw [nd_app ht]
     have hne : n ≠ nd l t := fun e => by
      have := A.full t ht
      rw [← e, hf] at this
      cases this
     rw [mfind_put_ne (by rfl) hne]
     exact A.full t ht
    ·have : t = (l.length : Int) + 1 := by
      have h1 := h.1
      have h2 := h.2
      unfold Tm at ht
      simp at h2
      omega
     subst this
     rw [hnew, mfind_put_same (by rfl)]
     rfl
  have few : (l ++ [n]).length ≤ l.length + 1 := by simp
  refine ⟨((l.length + 1 : Nat) : Int), l ++ [n], _, ⟨Le.snoc l n, A', htm, ?_, fun env => ?_, few⟩, hnew, fun k => ?_⟩
  ·show (nd (l ++ [n]) (l.length + 1)).w = n.w
   rw [hnew]
  ·show val env (l ++ [n]) ((l.length : Int) + 1) = _
   conv => lhs; unfold val
   rw [vals_snoc]
   unfold look
   rw [if_pos (by omega), List.getD_eq_getElem?_getD, List.getElem?_append_right (by rw [vals_len]; omega), vals_len, show ((l.length : Int) + 1 - 1).toNat - l.length = 0 by omega]
   rfl
  ·unfold Z27 Z27_T
   have hf' : mfind SNd (.int .i64) b (n.op, n.w, n.v, n.a, n.b, n.c) = none := hf
   rw [hf', Option.isSome_none, br_false, decide_eq_false (by omega), br_false, fits_of (by omega), decide_eq_true (by omega), sub_all]
   rfl

/-- what stands already is found -/
theorem keep_same (N : Nat) {l : List Nd} {b : By} (A : Ar l b) (ws : Ws) (n : Nd) {t : Int} (h : Tm l t) (hn : nd l t = n) {R : Type} (k : Int → Int → By → Ws → List Nd → Option R) :
  Z27 N n.op n.w n.v n.a n.b n.c l b ws k = k t 0 b ws l := by
 unfold Z27 Z27_T
 have hf : mfind SNd (.int .i64) b (n.op, n.w, n.v, n.a, n.b, n.c) = some t := by
  have := A.full t h
  rw [hn] at this
  exact this
 rw [hf]
 rfl

theorem pow_le16 {w : Int} (h : Wd w) : 2 ^ w.toNat ≤ 65536 := by
 have := pow_mono h.pos.2.1
 have e : (2 : Nat) ^ 16 = 65536 := by decide
 omega
theorem maskI_of {w : Int} (h : Wd w) : maskI w = ((2 ^ w.toNat - 1 : Nat) : Int) := by unfold maskI; rw [if_pos h]

theorem Const_eq (N : Nat) {l : List Nd} {b : By} (A : Ar l b) (ws : Ws) {w v : Int} (hw : Wd w) (hv : 0 ≤ v ∧ v < 65536) (hl : l.length < 65536) :
  ∃ t l' b', Got l w (fun _ => v.toNat % 2 ^ w.toNat) 1 t l' b' ∧ nd l' t = (1, w, ((v.toNat % 2 ^ w.toNat : Nat) : Int), 0, 0, 0) ∧
   ∀ {R : Type} (k : Int → Int → By → Ws → List Nd → Option R), Z13 N w v l b ws k = k t 0 b' ws l' := by
 have pos : 0 < 2 ^ w.toNat := Nat.pow_pos (by omega)
 have hm := Nat.mod_lt v.toNat pos
 obtain ⟨t, l', b', G, hn, h⟩ := keep_eq N A ws (1, w, ((v.toNat % 2 ^ w.toNat : Nat) : Int), 0, 0, 0)
  (.mk' hw (by decide) (noPart l) (noPart l) (noPart l) (fun _ => by omega) (fun e => (by cases e)) (fun e => (by cases e)) (fun e => absurd e (by decide)) (fun e => (by cases e)) (fun e => (by cases e)) (fun e => (by cases e))) hl
 refine ⟨t, l', b', G.more (fun env => ?_) (Nat.le_refl _), hn, fun k => ?_⟩
 ·simp only [nv, op_mk, w_mk, v_mk, Int.toNat_natCast, if_pos]
  try rfl
 ·unfold Z13 Z13_T
  rw [May_eq', decide_eq_true hw, Mask_eq, maskI_of hw]
  have e : band .u16 v ((2 ^ w.toNat - 1 : Nat) : Int) = ((v.toNat % 2 ^ w.toNat : Nat) : Int) := by
   have : v = (v.toNat : Int) := by omega
   rw [this, mask_and hw.pos.2.1 (by omega)]
   simp
  rw [e]
  exact h k
theorem Const_same (N : Nat) {l : List Nd} {b : By} (A : Ar l b) (ws : Ws) {w v t : Int} (hw : Wd w) (hv : 0 ≤ v ∧ v < 65536) (h : Tm l t) (hn : nd l t = (1, w, ((v.toNat % 2 ^ w.toNat : Nat) : Int), 0, 0, 0)) {R : Type} (k : Int → Int → By → Ws → List Nd → Option R) :
  Z13 N w v l b ws k = k t 0 b ws l := by
 unfold Z13 Z13_T
 rw [May_eq', decide_eq_true hw, Mask_eq, maskI_of hw]
 have e : band .u16 v ((2 ^ w.toNat - 1 : Nat) : Int) = ((v.toNat % 2 ^ w.toNat : Nat) : Int) := by
  have : v = (v.toNat : Int) := by omega
  rw [this, mask_and hw.pos.2.1 (by omega)]
  simp
 rw [e]
 exact keep_same N A ws _ h hn _
theorem Const_bad (N : Nat) {l : List Nd} {b : By} (ws : Ws) {w v : Int} (hw : ¬ Wd w) {R : Type} (k : Int → Int → By → Ws → List Nd → Option R) : Z13 N w v l b ws k = k 0 2 b ws l := by
 unfold Z13 Z13_T
 rw [May_eq', decide_eq_false hw]
 rfl

theorem Var_eq (N : Nat) {l : List Nd} {b : By} (A : Ar l b) (ws : Ws) {w i : Int} (hw : Wd w) (hi : 0 ≤ i ∧ i < 64) (hs : mfind (.int .i64) (.int .i64) ws i = none ∨ mfind (.int .i64) (.int .i64) ws i = some w) (hl : l.length < 65536) :
  ∃ t l' b', Got l w (fun env => env i.toNat % 2 ^ w.toNat) 1 t l' b' ∧ nd l' t = (2, w, i, 0, 0, 0) ∧
   ∀ {R : Type} (k : Int → Int → By → Ws → List Nd → Option R), Z23 N w i l b ws k = k t 0 b' (mput (.int .i64) (.int .i64) ws i w) l' := by
 obtain ⟨t, l', b', G, hn, h⟩ := keep_eq N A ws (2, w, i, 0, 0, 0)
  (.mk' hw (by decide) (noPart l) (noPart l) (noPart l) (fun e => (by cases e)) (fun _ => hi) (fun e => (by cases e)) (fun e => absurd e (by decide)) (fun e => (by cases e)) (fun e => (by cases e)) (fun e => (by cases e))) hl
 refine ⟨t, l', b', G.more (fun env => ?_) (Nat.le_refl _), hn, fun k => ?_⟩
 ·simp only [nv, op_mk, w_mk, v_mk, Int.toNat_natCast, if_pos]
  try rfl
 ·unfold Z23 Z23_T
  rw [May_eq', decide_eq_true hw]
  simp only [Bool.not_true, br_false, br_ndec]
  rw [if_neg (by omega), if_neg (by omega), wu16 (by omega)]
  rcases hs with hs | hs
  ·rw [hs, Option.isSome_none, br_false]
   refine (h _).trans ?_
   simp
  ·rw [hs, Option.isSome_some, br_true, Option.getD_some, if_pos rfl]
   refine (h _).trans ?_
   simp
theorem Var_bad (N : Nat) {l : List Nd} {b : By} (ws : Ws) {w i : Int} (hw : ¬ Wd w) {R : Type} (k : Int → Int → By → Ws → List Nd → Option R) : Z23 N w i l b ws k = k 0 2 b ws l := by
 unfold Z23 Z23_T
 rw [May_eq', decide_eq_false hw]
 rfl
theorem Var_arg (N : Nat) {l : List Nd} {b : By} (ws : Ws) {w i x : Int} (hw : Wd w) (h : i < 0 ∨ 64 ≤ i ∨ (mfind (.int .i64) (.int .i64) ws i = some x ∧ x ≠ w)) {R : Type} (k : Int → Int → By → Ws → List Nd → Option R) : Z23 N w i l b ws k = k 0 1 b ws l := by
 unfold Z23 Z23_T
 rw [May_eq', decide_eq_true hw]
 simp only [Bool.not_true, br_false, br_ndec]
 by_cases h1 : i < 0
 ·rw [if_pos h1]
 rw [if_neg h1]
 by_cases h2 : 64 ≤ i
 ·rw [if_pos h2]
 rw [if_neg h2]
 rcases h with h | h | ⟨h, hx⟩
 ·exact absurd h h1
 ·exact absurd h h2
 ·rw [h, Option.isSome_some, br_true, Option.getD_some, if_neg hx]

theorem there1 {R : Type} (N : Nat) {l : List Nd} (hl : l.length ≤ 65536) (b : By) (ws : Ws) {x : Int} (h : Tm l x) (hN : 8 ≤ N ∧ N ≤ 2 ^ 62) (k : Bool → List Nd → By → Ws → List Int → Option R) :
  Z30 N l b ws (x :: ([] : List ((Sh.int IntKind.i64).T))) k = k true l b ws [x] := by
 refine (there_eq N hl b ws [x] (by simp; omega) hN.2 k).trans ?_
 simp [h]

theorem ones_bxor {v : Int} (h : 0 ≤ v ∧ v < 65536) : bxor .u16 (if ((IntKind.signed .u16) = true) then (-1 : Int) else (IntKind.max .u16)) v = ((65535 - v.toNat : Nat) : Int) := by
 have e : (if ((IntKind.signed .u16) = true) then (-1 : Int) else (IntKind.max .u16)) = ((65535 : Nat) : Int) := by decide
 obtain ⟨n, rfl⟩ : ∃ n : Nat, v = (n : Int) := ⟨v.toNat, by omega⟩
 rw [e, bxor16 (by decide) (by omega), ones_xor (by omega), Int.toNat_natCast]

theorem Not_eq (N : Nat) {l : List Nd} {b : By} (A : Ar l b) (ws : Ws) {x : Int} (h : Tm l x) (hl : l.length < 65536) (hN : 8 ≤ N ∧ N ≤ 2 ^ 62) :
  ∃ t l' b', Got l (wd l x) (fun env => 2 ^ (wd l x).toNat - 1 - val env l x) 1 t l' b' ∧
   ∀ {R : Type} (k : Int → Int → By → Ws → List Nd → Option R), Z20 N x l b ws k = k t 0 b' ws l' := by
 have hw := A.kw h
 obtain ⟨K, _⟩ := A.nodeOk h
 by_cases h1 : (nd l x).op = 1
 ·have hv := K.num h1
  have hp := pow_le16 hw
  have hv' : 0 ≤ (nd l x).v ∧ (nd l x).v < 65536 := by
   have : (nd l x).w = wd l x := rfl
   rw [this] at hv
   omega
  obtain ⟨t, l', b', G, _, hc⟩ := Const_eq N A ws (w := wd l x) (v := ((65535 - (nd l x).v.toNat : Nat) : Int)) hw (by omega) hl
  refine ⟨t, l', b', G.more (fun env => ?_) (Nat.le_refl _), fun k => ?_⟩
  ·have : val env l x = (nd l x).v.toNat := by rw [A.val_eq env h]; unfold nv; rw [if_pos h1]
   rw [this, Int.toNat_natCast]
   have hx : (nd l x).v.toNat < 2 ^ (wd l x).toNat := by
    have : (nd l x).w = wd l x := rfl
    rw [this] at hv
    omega
   rcases hw.pos.2.2 with q | q | q <;> rw [q] at hx ⊢ <;> simp only [Nat.reducePow] at hx ⊢ <;> omega
  ·unfold Z20 Z20_T
   rw [there1 N A.len b ws h hN]
   simp only [Bool.not_true, br_false]
   rw [Node_eq N A.len, br_dec, if_pos h1, ones_bxor hv']
   exact hc _
 by_cases h3 : (nd l x).op = 3
 ·obtain ⟨ha, hwa⟩ := K.not h3
  have hwa : wd l (nd l x).a = wd l x := hwa
  refine ⟨(nd l x).a, l, b, ⟨Le.refl l, A, ha, hwa, fun env => ?_, by omega⟩, fun k => ?_⟩
  ·have hlt := A.lt' env ha
   rw [hwa] at hlt
   rw [A.val_eq env h]
   unfold nv
   rw [h3, if_neg (by decide), if_neg (by decide), if_neg (by decide), if_neg (by decide), if_neg (by decide), hwa]
   unfold doN
   rw [if_pos rfl]
   omega
  ·unfold Z20 Z20_T
   rw [there1 N A.len b ws h hN]
   simp only [Bool.not_true, br_false]
   rw [Node_eq N A.len, br_dec, if_neg h1, br_dec, if_pos h3]
 ·have K' : NodeOk l (3, (nd l x).w, 0, x, 0, 0) := .mk' hw (by decide) h.part (noPart l) (noPart l) (fun e => (by cases e)) (fun e => (by cases e)) (fun _ => ⟨h, rfl⟩) (fun e => absurd e (by decide)) (fun e => (by cases e)) (fun e => (by cases e)) (fun e => (by cases e))
  obtain ⟨t, l', b', G, _, hc⟩ := keep_eq N A ws _ K' hl
  refine ⟨t, l', b', G.more (fun env => ?_) (Nat.le_refl _), fun k => ?_⟩
  ·show nv env (3, (nd l x).w, 0, x, 0, 0) (wd l x).toNat (val env l x) _ _ = _
   simp [nv, doN]
  ·unfold Z20 Z20_T
   rw [there1 N A.len b ws h hN]
   simp only [Bool.not_true, br_false]
   rw [Node_eq N A.len, br_dec, if_neg h1, br_dec, if_neg h3]
   exact hc _

/-- Not of a number -/
theorem Not_num (N : Nat) {l : List Nd} {b : By} (A : Ar l b) (ws : Ws) {x : Int} (h : Tm l x) (h1 : (nd l x).op = 1) (hl : l.length < 65536) (hN : 8 ≤ N ∧ N ≤ 2 ^ 62) :
  ∃ t l' b', Got l (wd l x) (fun _ => 2 ^ (wd l x).toNat - 1 - (nd l x).v.toNat) 1 t l' b' ∧ nd l' t = (1, wd l x, ((2 ^ (wd l x).toNat - 1 - (nd l x).v.toNat : Nat) : Int), 0, 0, 0) ∧
   ∀ {R : Type} (k : Int → Int → By → Ws → List Nd → Option R), Z20 N x l b ws k = k t 0 b' ws l' := by
 have hw := A.kw h
 obtain ⟨K, _⟩ := A.nodeOk h
 have hv := K.num h1
 have hp := pow_le16 hw
 have ew : (nd l x).w = wd l x := rfl
 rw [ew] at hv
 obtain ⟨t, l', b', G, hn, hc⟩ := Const_eq N A ws (w := wd l x) (v := ((65535 - (nd l x).v.toNat : Nat) : Int)) hw (by omega) hl
 have e : (65535 - (nd l x).v.toNat) % 2 ^ (wd l x).toNat = 2 ^ (wd l x).toNat - 1 - (nd l x).v.toNat := by
  have hx : (nd l x).v.toNat < 2 ^ (wd l x).toNat := by omega
  rcases hw.pos.2.2 with q | q | q <;> rw [q] at hx ⊢ <;> simp only [Nat.reducePow] at hx ⊢ <;> omega
 rw [Int.toNat_natCast, e] at hn
 refine ⟨t, l', b', G.more (fun env => ?_) (Nat.le_refl _), hn, fun k => ?_⟩
 ·rw [Int.toNat_natCast]; exact e
 ·unfold Z20 Z20_T
  rw [there1 N A.len b ws h hN]
  simp only [Bool.not_true, br_false]
  rw [Node_eq N A.len, br_dec, if_pos h1, ones_bxor (by omega)]
  exact hc _

end Go.Proofs.Ytmgoeikbdikmdaa
