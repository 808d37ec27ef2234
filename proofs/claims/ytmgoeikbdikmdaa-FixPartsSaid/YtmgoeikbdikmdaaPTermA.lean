/-
 terms (chapter 2): an arena, what its terms are worth, and the makers of nodes.
-/
import Derived.Test.YtmgoeikbdikmdaaPWideO
set_option linter.unusedSimpArgs false
set_option linter.unusedVariables false
namespace Go.Proofs.Ytmgoeikbdikmdaa
open Go.Gx

abbrev Nd := (Int) × ((Int) × ((Int) × ((Int) × ((Int) × (Int)))))
abbrev SNd : Sh := .pair (.int .i64) (.pair (.int .i64) (.pair (.int .u16) (.pair (.int .i64) (.pair (.int .i64) (.int .i64)))))
abbrev By := List (Nd × Int)
abbrev Ws := List (Int × Int)
def nd0 : Nd := (0, 0, 0, 0, 0, 0)
@[reducible] def Nd.op (n : Nd) : Int := n.1
@[reducible] def Nd.w (n : Nd) : Int := n.2.1
@[reducible] def Nd.v (n : Nd) : Int := n.2.2.1
@[reducible] def Nd.a (n : Nd) : Int := n.2.2.2.1
@[reducible] def Nd.b (n : Nd) : Int := n.2.2.2.2.1
@[reducible] def Nd.c (n : Nd) : Int := n.2.2.2.2.2

/-- a term of an arena -/
def Tm (l : List Nd) (t : Int) : Prop := 1 ≤ t ∧ t ≤ (l.length : Int)
instance (l : List Nd) (t : Int) : Decidable (Tm l t) := by unfold Tm; infer_instance
def nd (l : List Nd) (t : Int) : Nd := if Tm l t then l.getD (t - 1).toNat nd0 else nd0
def wd (l : List Nd) (t : Int) : Int := (nd l t).w

theorem Tm.app {l : List Nd} {t : Int} (h : Tm l t) (m : List Nd) : Tm (l ++ m) t := by
 unfold Tm at *
 rw [List.length_append]; omega
theorem nd_app {l : List Nd} {t : Int} (h : Tm l t) (m : List Nd) : nd (l ++ m) t = nd l t := by
 unfold nd
 rw [if_pos h, if_pos (h.app m)]
 have : (t - 1).toNat < l.length := by unfold Tm at h; omega
 rw [List.getD_eq_getElem?_getD, List.getD_eq_getElem?_getD, List.getElem?_append_left this]
theorem nd_new (l : List Nd) (n : Nd) (m : List Nd) : nd (l ++ n :: m) (l.length + 1) = n := by
 unfold nd
 rw [if_pos (by unfold Tm; simp; omega)]
 have : ((l.length : Int) + 1 - 1).toNat = l.length := by omega
 rw [this, List.getD_eq_getElem?_getD, List.getElem?_append_right (Nat.le_refl _)]
 simp
theorem wd_app {l : List Nd} {t : Int} (h : Tm l t) (m : List Nd) : wd (l ++ m) t = wd l t := by unfold wd; rw [nd_app h]

/-- an arena with more in it -/
def Le (l l' : List Nd) : Prop := ∃ m, l' = l ++ m
theorem Le.refl (l : List Nd) : Le l l := ⟨[], by simp⟩
theorem Le.trans {a b c : List Nd} (h : Le a b) (k : Le b c) : Le a c := by
 obtain ⟨m, rfl⟩ := h
 obtain ⟨o, rfl⟩ := k
 exact ⟨m ++ o, by simp⟩
theorem Le.snoc (l : List Nd) (n : Nd) : Le l (l ++ [n]) := ⟨[n], rfl⟩
theorem Le.len {a b : List Nd} (h : Le a b) : a.length ≤ b.length := by
 obtain ⟨m, rfl⟩ := h
 simp
theorem Tm.le {l l' : List Nd} {t : Int} (h : Tm l t) (k : Le l l') : Tm l' t := by
 obtain ⟨m, rfl⟩ := k
 exact h.app m
theorem nd_le {l l' : List Nd} {t : Int} (h : Tm l t) (k : Le l l') : nd l' t = nd l t := by
 obtain ⟨m, rfl⟩ := k
 exact nd_app h m
theorem wd_le {l l' : List Nd} {t : Int} (h : Tm l t) (k : Le l l') : wd l' t = wd l t := by unfold wd; rw [nd_le h k]

/-! ### values -/
/-- a node's value, by those of its parts -/
def nv (env : Nat → Nat) (n : Nd) (w va vb vc : Nat) : Nat :=
 if n.op = 1 then n.v.toNat else if n.op = 2 then env n.v.toNat % 2 ^ n.w.toNat
 else if n.op = 16 then (if va = 1 then vb else vc) else if n.op = 17 then va else if n.op = 18 then va % 2 ^ n.w.toNat
 else doN n.op w va vb

def look (vs : List Nat) (t : Int) : Nat := if 1 ≤ t then vs.getD (t - 1).toNat 0 else 0

def valsFrom (env : Nat → Nat) : List Nd → List Nat → List Nd → List Nat
 | _, vs, [] => vs
 | l, vs, n :: r => valsFrom env (l ++ [n]) (vs ++ [nv env n (wd l n.a).toNat (look vs n.a) (look vs n.b) (look vs n.c)]) r
def vals (env : Nat → Nat) (l : List Nd) : List Nat := valsFrom env [] [] l
def val (env : Nat → Nat) (l : List Nd) (t : Int) : Nat := look (vals env l) t

theorem valsFrom_snoc (env : Nat → Nat) : ∀ (r l : List Nd) (vs : List Nat) (n : Nd), valsFrom env l vs (r ++ [n]) =
  valsFrom env l vs r ++ [nv env n (wd (l ++ r) n.a).toNat (look (valsFrom env l vs r) n.a) (look (valsFrom env l vs r) n.b) (look (valsFrom env l vs r) n.c)]
 | [], l, vs, n => by simp [valsFrom]
 | x :: r, l, vs, n => by
  simp only [List.cons_append, valsFrom]
  rw [valsFrom_snoc env r]
  simp
theorem vals_snoc (env : Nat → Nat) (l : List Nd) (n : Nd) : vals env (l ++ [n]) = vals env l ++ [nv env n (wd l n.a).toNat (val env l n.a) (val env l n.b) (val env l n.c)] := by
 unfold vals val
 rw [valsFrom_snoc]
 simp [vals]
theorem vals_len (env : Nat → Nat) (l : List Nd) : (vals env l).length = l.length := by
 have h : ∀ (r l : List Nd) (vs : List Nat), (valsFrom env l vs r).length = vs.length + r.length := by
  intro r
  induction r with
  | nil => intro l vs; simp [valsFrom]
  | cons x r ih => intro l vs; simp only [valsFrom]; rw [ih]; simp; omega
 have := h l [] []
 unfold vals
 rw [this]
 simp
theorem valsFrom_app (env : Nat → Nat) : ∀ (r m l : List Nd) (vs : List Nat), ∃ us, valsFrom env l vs (r ++ m) = valsFrom env l vs r ++ us
 | [], m, l, vs => by
  simp only [List.nil_append, valsFrom]
  have h : ∀ (m l : List Nd) (vs : List Nat), ∃ us, valsFrom env l vs m = vs ++ us := by
   intro m
   induction m with
   | nil => intro l vs; exact ⟨[], by simp [valsFrom]⟩
   | cons x m ih =>
    intro l vs
    simp only [valsFrom]
    obtain ⟨us, h⟩ := ih (l ++ [x]) (vs ++ [nv env x (wd l x.a).toNat (look vs x.a) (look vs x.b) (look vs x.c)])
    exact ⟨[nv env x (wd l x.a).toNat (look vs x.a) (look vs x.b) (look vs x.c)] ++ us, by rw [h, List.append_assoc]⟩
  exact h m l vs
 | x :: r, m, l, vs => by
  simp only [List.cons_append, valsFrom]
  exact valsFrom_app env r m _ _
theorem val_app {env : Nat → Nat} {l : List Nd} {t : Int} (h : t ≤ (l.length : Int)) (m : List Nd) : val env (l ++ m) t = val env l t := by
 obtain ⟨us, e⟩ := valsFrom_app env l m [] []
 unfold val look vals
 rw [e]
 by_cases h1 : 1 ≤ t
 ·rw [if_pos h1, if_pos h1]
  have := vals_len env l
  unfold vals at this
  rw [List.getD_eq_getElem?_getD, List.getD_eq_getElem?_getD, List.getElem?_append_left (by omega)]
 ·rw [if_neg h1, if_neg h1]
theorem val_le {env : Nat → Nat} {l l' : List Nd} {t : Int} (h : t ≤ (l.length : Int)) (k : Le l l') : val env l' t = val env l t := by
 obtain ⟨m, rfl⟩ := k
 exact val_app h m

/-! ### what an arena holds -/
def outW (op w : Int) : Int := if op = 14 ∨ op = 15 then 1 else w

/-- a node whose parts stand in l -/
structure NodeOk (l : List Nd) (n : Nd) : Prop where
 kw : Wd n.w
 ops : 1 ≤ n.op ∧ n.op ≤ 18
 pa : 0 ≤ n.a ∧ n.a ≤ (l.length : Int)
 pb : 0 ≤ n.b ∧ n.b ≤ (l.length : Int)
 pc : 0 ≤ n.c ∧ n.c ≤ (l.length : Int)
 num : n.op = 1 → 0 ≤ n.v ∧ n.v < ((2 ^ n.w.toNat : Nat) : Int)
 var : n.op = 2 → 0 ≤ n.v ∧ n.v < 64
 var0 : n.op ≤ 2 → n.a = 0 ∧ n.b = 0 ∧ n.c = 0
 not : n.op = 3 → Tm l n.a ∧ wd l n.a = n.w
 two : 4 ≤ n.op → n.op ≤ 15 → Tm l n.a ∧ Tm l n.b ∧ wd l n.a = wd l n.b ∧ n.w = outW n.op (wd l n.a)
 ite : n.op = 16 → Tm l n.a ∧ Tm l n.b ∧ Tm l n.c ∧ wd l n.a = 1 ∧ wd l n.b = n.w ∧ wd l n.c = n.w
 ext : n.op = 17 → Tm l n.a ∧ wd l n.a < n.w
 cut : n.op = 18 → Tm l n.a ∧ n.w < wd l n.a

structure Ar (l : List Nd) (b : By) : Prop where
 nodes : ∀ (l1 : List Nd) (n : Nd) (l2 : List Nd), l = l1 ++ n :: l2 → NodeOk l1 n
 by' : ∀ (n : Nd) (x : Int), mfind SNd (.int .i64) b n = some x → Tm l x ∧ nd l x = n
 len : l.length ≤ 65536
 full : ∀ t : Int, Tm l t → mfind SNd (.int .i64) b (nd l t) = some t

theorem Ar.nil : Ar [] [] := ⟨fun l1 n l2 h => (by cases l1 <;> cases h), fun n x h => (nomatch h), by simp, fun t h => (by have h1 := h.1; have h2 := h.2; simp at h2; omega)⟩

/-- where a term's node stands -/
theorem Tm.at {l : List Nd} {t : Int} (h : Tm l t) : ∃ l1 l2, l = l1 ++ nd l t :: l2 ∧ ((l1.length : Int) + 1 = t) := by
 have hi : (t - 1).toNat < l.length := by unfold Tm at h; omega
 refine ⟨l.take (t - 1).toNat, l.drop ((t - 1).toNat + 1), ?_, ?_⟩
 ·have e : nd l t = l[(t - 1).toNat] := by
   unfold nd
   rw [if_pos h, List.getD_eq_getElem?_getD, List.getElem?_eq_getElem hi]
   rfl
  rw [e, List.getElem_cons_drop hi, List.take_append_drop]
 ·rw [List.length_take]; unfold Tm at h; omega
theorem Ar.node {l : List Nd} {b : By} (A : Ar l b) {t : Int} (h : Tm l t) : ∃ l1 l2, l = l1 ++ nd l t :: l2 ∧ ((l1.length : Int) + 1 = t) ∧ NodeOk l1 (nd l t) := by
 obtain ⟨l1, l2, e, h2⟩ := h.at
 exact ⟨l1, l2, e, h2, A.nodes _ _ _ e⟩
theorem Ar.kw {l : List Nd} {b : By} (A : Ar l b) {t : Int} (h : Tm l t) : Wd (wd l t) := by
 obtain ⟨_, _, _, _, k⟩ := A.node h
 exact k.kw

/-- a term's value by those of its parts -/
theorem Ar.val_eq {l : List Nd} {b : By} (A : Ar l b) (env : Nat → Nat) {t : Int} (h : Tm l t) :
  val env l t = nv env (nd l t) (wd l (nd l t).a).toNat (val env l (nd l t).a) (val env l (nd l t).b) (val env l (nd l t).c) := by
 obtain ⟨l1, l2, e, hl, k⟩ := A.node h
 generalize hn : nd l t = n at *
 have e' : l = (l1 ++ [n]) ++ l2 := by rw [e]; simp
 have hv : ∀ u : Int, 0 ≤ u ∧ u ≤ (l1.length : Int) → val env l u = val env l1 u := fun u hu => by rw [e]; exact val_app hu.2 _
 have hw : wd l n.a = wd l1 n.a ∨ n.a = 0 := by
  by_cases h0 : n.a = 0
  ·exact .inr h0
  ·refine .inl ?_
   rw [e]
   exact wd_app ⟨by have := k.pa; omega, k.pa.2⟩ _
 have ht : val env l t = nv env n (wd l1 n.a).toNat (val env l1 n.a) (val env l1 n.b) (val env l1 n.c) := by
  rw [e', val_app (by simp; omega)]
  conv => lhs; unfold val
  rw [vals_snoc]
  unfold look
  rw [if_pos (by omega), List.getD_eq_getElem?_getD, List.getElem?_append_right (by rw [vals_len]; omega), vals_len, show (t - 1).toNat - l1.length = 0 by omega]
  rfl
 rw [ht, hv _ k.pa, hv _ k.pb, hv _ k.pc]
 rcases hw with hw | hw
 ·rw [hw]
 ·have : ∀ m : List Nd, wd m n.a = 0 := fun m => by
   unfold wd nd
   rw [if_neg (by unfold Tm; omega)]
   rfl
  rw [this l, this l1]

theorem Wd.pos {w : Int} (h : Wd w) : 1 ≤ w.toNat ∧ w.toNat ≤ 16 ∧ (w.toNat = 1 ∨ w.toNat = 8 ∨ w.toNat = 16) := by unfold Wd at h; omega
theorem pow_mono {a b : Nat} (h : a ≤ b) : 2 ^ a ≤ 2 ^ b := Nat.pow_le_pow_right (by omega) h

/-- numbers of a width -/
theorem Ar.lt {l : List Nd} {b : By} (A : Ar l b) (env : Nat → Nat) : ∀ (k : Nat) {t : Int}, t ≤ (k : Int) → Tm l t → val env l t < 2 ^ (wd l t).toNat
 | 0, t, h0, h => absurd h.1 (by omega)
 | k + 1, t, hk, h => by
  obtain ⟨l1, l2, e, hl, K⟩ := A.node h
  have up : ∀ u : Int, Tm l1 u → Tm l u := fun u hu => by rw [e]; exact hu.app _
  have upw : ∀ u : Int, Tm l1 u → wd l u = wd l1 u := fun u hu => by rw [e]; exact wd_app hu _
  have ih : ∀ u : Int, Tm l1 u → val env l u < 2 ^ (wd l1 u).toNat := fun u hu => by
   rw [← upw u hu]
   exact Ar.lt A env k (by have := hu.2; omega) (up u hu)
  have hw1 := (K.kw).pos
  have pos : 0 < 2 ^ (nd l t).w.toNat := Nat.pow_pos (by omega)
  rw [A.val_eq env h]
  unfold nv
  show _ < 2 ^ ((nd l t).w).toNat
  by_cases h1 : (nd l t).op = 1
  ·rw [if_pos h1]
   have := K.num h1
   omega
  rw [if_neg h1]
  by_cases h2 : (nd l t).op = 2
  ·rw [if_pos h2]; exact Nat.mod_lt _ pos
  rw [if_neg h2]
  by_cases h3 : (nd l t).op = 16
  ·rw [if_pos h3]
   obtain ⟨a1, a2, a3, a4, a5, a6⟩ := K.ite h3
   have i2 := ih _ a2
   have i3 := ih _ a3
   rw [a5] at i2
   rw [a6] at i3
   split
   ·exact i2
   ·exact i3
  rw [if_neg h3]
  by_cases h4 : (nd l t).op = 17
  ·rw [if_pos h4]
   obtain ⟨a1, a2⟩ := K.ext h4
   have := ih _ a1
   have := pow_mono (a := (wd l1 (nd l t).a).toNat) (b := (nd l t).w.toNat) (by omega)
   omega
  rw [if_neg h4]
  by_cases h5 : (nd l t).op = 18
  ·rw [if_pos h5]; exact Nat.mod_lt _ pos
  rw [if_neg h5]
  by_cases h6 : (nd l t).op = 3
  ·obtain ⟨a1, a2⟩ := K.not h6
   rw [upw _ a1, a2]
   have := ih _ a1
   rw [a2] at this
   rw [h6]
   unfold doN
   rw [if_pos rfl]
   omega
  obtain ⟨a1, a2, a3, a4⟩ := K.two (by have := K.ops; omega) (by have := K.ops; omega)
  have i1 := ih _ a1
  have i2 := ih _ a2
  rw [← a3] at i2
  rw [upw _ a1, a4]
  unfold outW
  by_cases h7 : (nd l t).op = 14 ∨ (nd l t).op = 15
  ·rw [if_pos h7]
   rcases h7 with h7 | h7 <;> rw [h7] <;> unfold doN <;> simp <;> split <;> decide
  ·rw [if_neg h7]
   have hwa : Wd (wd l1 (nd l t).a) := by rw [← upw _ a1]; exact A.kw (up _ a1)
   exact doN_lt hwa.pos.1 i1 i2
theorem Ar.lt' {l : List Nd} {b : By} (A : Ar l b) (env : Nat → Nat) {t : Int} (h : Tm l t) : val env l t < 2 ^ (wd l t).toNat := A.lt env t.toNat (by have := h.1; omega) h

/-! ### the printed functions -/
theorem Node_eq {R : Type} (N : Nat) {l : List Nd} (hl : l.length ≤ 65536) (b : By) (ws : Ws) (t : Int) (k : Int → Int → Int → Int → Int → Int → Bool → List Nd → By → Ws → Option R) :
  Z19 N t l b ws k = k (nd l t).op (nd l t).w (nd l t).v (nd l t).a (nd l t).b (nd l t).c (decide (Tm l t)) l b ws := by
 unfold Z19 Z19_T
 rw [br_ndec]
 by_cases h1 : t < 1
 ·have : ¬ Tm l t := by unfold Tm; omega
  rw [if_pos h1]
  unfold nd
  rw [if_neg this, decide_eq_false this]
  rfl
 rw [if_neg h1, br_dec]
 by_cases h2 : (Nat.cast l.length : Int) < t
 ·have : ¬ Tm l t := by unfold Tm; omega
  rw [if_pos h2]
  unfold nd
  rw [if_neg this, decide_eq_false this]
  rfl
 have h : Tm l t := by unfold Tm; omega
 rw [if_neg h2, w64 (by omega), inB_of (by omega), br_true, decide_eq_true (by omega), br_true]
 unfold nd
 rw [if_pos h, decide_eq_true h]
 rfl

theorem Width_eq {R : Type} (N : Nat) {l : List Nd} (hl : l.length ≤ 65536) (b : By) (ws : Ws) (t : Int) (k : Int → List Nd → By → Ws → Option R) :
  Z24 N t l b ws k = k (wd l t) l b ws := by
 unfold Z24 Z24_T
 rw [Node_eq N hl]
 rfl

/-- whether a term is a number -/
def isNum (l : List Nd) (t : Int) : Bool := decide ((nd l t).op = 1)
theorem Known_eq {R : Type} (N : Nat) {l : List Nd} {b : By} (A : Ar l b) (ws : Ws) {t : Int} (h : Tm l t) (k : Int → Bool → List Nd → By → Ws → Option R) :
  Z18 N t l b ws k = k (nd l t).v (isNum l t) l b ws := by
 unfold Z18 Z18_T
 rw [Node_eq N A.len, br_dec]
 unfold isNum
 by_cases h1 : (nd l t).op = 1
 ·rw [if_pos h1, decide_eq_true h1]
  have := (A.kw h).pos
  unfold wd at this
  rw [decide_eq_true (show (0 : Int) < (nd l t).w by omega)]
 ·rw [if_neg h1, decide_eq_false h1]

theorem there_loop {R : Type} (N : Nat) {l : List Nd} (hl : l.length ≤ 65536) (b : By) (ws : Ws) (xs : List Int) (hx : xs.length < 9223372036854775807) (k0 : Bool → List Nd → By → Ws → List Int → Option R) (k1 : List Nd → By → Ws → List Int → Option R) :
  ∀ (n q : Nat), q ≤ xs.length → xs.length - q < n →
   Z30_l0 N k0 k1 n (xs.length : Int) (q : Int) l b ws xs = if (xs.drop q).all (fun x => decide (Tm l x)) then k1 l b ws xs else k0 false l b ws xs
 | 0, q, _, h => by omega
 | n + 1, q, hq, h => by
  unfold Z30_l0 Z30_l0_T0
  rw [br_dec]
  by_cases c : q < xs.length
  ·rw [if_pos (by omega), inB_of (by omega), br_true, Int.toNat_natCast, decide_eq_true c, br_true, Node_eq N hl, w64_succ (by omega)]
   have ih := there_loop N hl b ws xs hx k0 k1 n (q + 1) (by omega) (by omega)
   show br _ _ (Z30_l0 N k0 k1 n (xs.length : Int) ((q + 1 : Nat) : Int) l b ws xs) = _
   rw [ih, br_neg, br_dec]
   have e : xs.drop q = xs.getD q 0 :: xs.drop (q + 1) := by
    rw [List.getD_eq_getElem?_getD, List.getElem?_eq_getElem c]
    exact (List.getElem_cons_drop c).symm
   rw [e, List.all_cons]
   by_cases ht : Tm l (xs.getD q 0)
   ·rw [if_pos ht, decide_eq_true ht, Bool.true_and]
   ·rw [if_neg ht, decide_eq_false ht, Bool.false_and]
    rfl
  ·have e : q = xs.length := by omega
   rw [if_neg (by omega), e, List.drop_length]
   rfl
theorem there_eq {R : Type} (N : Nat) {l : List Nd} (hl : l.length ≤ 65536) (b : By) (ws : Ws) (xs : List Int) (hx : xs.length < N) (hN : N ≤ 2 ^ 62) (k : Bool → List Nd → By → Ws → List Int → Option R) :
  Z30 N l b ws xs k = k (xs.all fun x => decide (Tm l x)) l b ws xs := by
 unfold Z30 Z30_T
 have h := there_loop N hl b ws xs (by
                    have : (2 : Nat) ^ 62 = 4611686018427387904 := by decide
                    omega) (fun b39 l40 l41 l42 l43 => k b39 l40 l41 l42 l43) (fun l44 l45 l46 l47 => k true l44 l45 l46 l47) N 0 (by omega) (by omega)
 refine h.trans ?_
 rw [List.drop_zero]
 by_cases c : xs.all (fun x => decide (Tm l x)) = true
 ·rw [if_pos c, c]
 ·rw [if_neg c, Bool.not_eq_true _ |>.mp c]

end Go.Proofs.Ytmgoeikbdikmdaa
