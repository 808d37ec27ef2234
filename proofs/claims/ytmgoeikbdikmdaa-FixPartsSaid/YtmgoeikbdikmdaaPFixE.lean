/-
 terms (chapter 2): which term comes, to the number: the makers as plain functions of the list.
-/
import Derived.Test.YtmgoeikbdikmdaaPTermX
set_option linter.unusedSimpArgs false
set_option linter.unusedVariables false
namespace Go.Proofs.Ytmgoeikbdikmdaa
open Go.Gx

/-- where a node stands first -/
def nIx (n : Nd) : List Nd → Option Nat
 | [] => none
 | x :: r => if n = x then some 0 else (nIx n r).map (· + 1)
theorem nIx_app {n : Nd} : ∀ {l m : List Nd}, nIx n (l ++ m) = (match nIx n l with | some j => some j | none => (nIx n m).map (· + l.length))
 | [], m => by simp [nIx]
 | x :: r, m => by
  simp only [List.cons_append, nIx]
  by_cases e : n = x
  ·rw [if_pos e, if_pos e]
  ·rw [if_neg e, if_neg e, nIx_app (l := r)]
   cases nIx n r with
   | some j => rfl
   | none =>
    cases nIx n m with
    | none => rfl
    | some j => simp only [Option.map_some, Option.map_none, List.length_cons]; congr 1
theorem nIx_some {n : Nd} : ∀ {l : List Nd} {j : Nat}, nIx n l = some j → j < l.length ∧ l.getD j nd0 = n
 | x :: r, j, h => by
  unfold nIx at h
  by_cases e : n = x
  ·rw [if_pos e] at h
   cases h
   exact ⟨by simp, e.symm⟩
  ·rw [if_neg e] at h
   cases hr : nIx n r with
   | none => rw [hr] at h; cases h
   | some i =>
    rw [hr] at h
    cases h
    have := nIx_some hr
    exact ⟨by simp; omega, by simpa using this.2⟩
theorem nIx_none {n : Nd} : ∀ {l : List Nd}, nIx n l = none → ∀ j, j < l.length → l.getD j nd0 ≠ n
 | x :: r, h, 0, _ => by
  unfold nIx at h
  intro e
  rw [if_pos (show n = x from e.symm)] at h
  cases h
 | x :: r, h, j + 1, hj => by
  unfold nIx at h
  by_cases e : n = x
  ·rw [if_pos e] at h; cases h
  ·rw [if_neg e] at h
   have hr : nIx n r = none := by
    cases hr : nIx n r with
    | none => rfl
    | some i => rw [hr] at h; cases h
   exact nIx_none hr j (by simpa using hj)

def keepF (n : Nd) (l : List Nd) : Int × List Nd := match nIx n l with
 | some j => (((j + 1 : Nat) : Int), l)
 | none => (((l.length + 1 : Nat) : Int), l ++ [n])

/-- a call comes to a term, to the number -/
def X (ws : Ws) (code : ∀ {R : Type}, (Int → Int → By → Ws → List Nd → Option R) → Option R) (r : Int × List Nd) : Prop :=
 ∃ b', ∀ {R : Type} (k : Int → Int → By → Ws → List Nd → Option R), code k = k r.1 0 b' ws r.2
/-- or to none -/
def XM (ws : Ws) (l : List Nd) (b : By) (code : ∀ {R : Type}, (Int → Int → Bool → By → Ws → List Nd → Option R) → Option R) (o : Option (Int × List Nd)) : Prop := match o with
 | some r => ∃ b', ∀ {R : Type} (k : Int → Int → Bool → By → Ws → List Nd → Option R), code k = k r.1 0 true b' ws r.2
 | none => ∀ {R : Type} (k : Int → Int → Bool → By → Ws → List Nd → Option R), code k = k 0 0 false b ws l

theorem X.same {ws : Ws} {code : ∀ {R : Type}, (Int → Int → By → Ws → List Nd → Option R) → Option R} {r : Int × List Nd} (h : X ws code r) {t : Int} {b' : By} {l' : List Nd}
  (hc : ∀ {R : Type} (k : Int → Int → By → Ws → List Nd → Option R), code k = k t 0 b' ws l') : r.1 = t ∧ r.2 = l' := by
 obtain ⟨b2, h2⟩ := h
 have e := (h2 (fun t _ _ _ l => some (t, l))).symm.trans (hc (fun t _ _ _ l => some (t, l)))
 have e2 := Option.some.inj e
 exact ⟨congrArg Prod.fst e2, congrArg Prod.snd e2⟩

theorem keep_ex (N : Nat) {l : List Nd} {b : By} (A : Ar l b) (ws : Ws) (n : Nd) (hl : l.length < 65536) :
  X ws (fun {R} k => Z27 N n.op n.w n.v n.a n.b n.c l b ws k) (keepF n l) := by
 unfold keepF
 cases hf : mfind SNd (.int .i64) b n with
 | some x =>
  obtain ⟨hx, hn⟩ := A.by' n x hf
  have hn' := hn
  unfold nd at hn'
  rw [if_pos hx] at hn'
  have h1 := hx.1
  have h2 := hx.2
  cases hi : nIx n l with
  | none => exact absurd hn' (nIx_none hi _ (by omega))
  | some j =>
   obtain ⟨j1, j2⟩ := nIx_some hi
   have tj : Tm l ((j + 1 : Nat) : Int) := ⟨by omega, by omega⟩
   have nj : nd l ((j + 1 : Nat) : Int) = n := by
    unfold nd
    rw [if_pos tj, show (((j + 1 : Nat) : Int) - 1).toNat = j by omega, j2]
   have := A.full _ tj
   rw [nj, hf] at this
   have ex : x = ((j + 1 : Nat) : Int) := Option.some.inj this
   refine ⟨b, fun k => ?_⟩
   show Z27 N n.op n.w n.v n.a n.b n.c l b ws k = k ((j + 1 : Nat) : Int) 0 b ws l
   unfold Z27 Z27_T
   have hf' : mfind SNd (.int .i64) b (n.op, n.w, n.v, n.a, n.b, n.c) = some x := hf
   rw [hf', ex]
   rfl
 | none =>
  cases hi : nIx n l with
  | some j =>
   obtain ⟨j1, j2⟩ := nIx_some hi
   have tj : Tm l ((j + 1 : Nat) : Int) := ⟨by omega, by omega⟩
   have nj : nd l ((j + 1 : Nat) : Int) = n := by
    unfold nd
    rw [if_pos tj, show (((j + 1 : Nat) : Int) - 1).toNat = j by omega, j2]
   have := A.full _ tj
   rw [nj, hf] at this
   cases this
  | none =>
   refine ⟨mput SNd (.int .i64) b n ((l.length + 1 : Nat) : Int), fun k => ?_⟩
   show Z27 N n.op n.w n.v n.a n.b n.c l b ws k = k ((l.length + 1 : Nat) : Int) 0 _ ws (l ++ [n])
   unfold Z27 Z27_T
   have hf' : mfind SNd (.int .i64) b (n.op, n.w, n.v, n.a, n.b, n.c) = none := hf
   rw [hf', Option.isSome_none, br_false, decide_eq_false (by omega), br_false, fits_of (by omega), decide_eq_true (by omega), sub_all]
   rfl

def constF (w v : Int) (l : List Nd) : Int × List Nd := keepF (1, w, ((v.toNat % 2 ^ w.toNat : Nat) : Int), 0, 0, 0) l
theorem Const_ex (N : Nat) {l : List Nd} {b : By} (A : Ar l b) (ws : Ws) {w v : Int} (hw : Wd w) (hv : 0 ≤ v ∧ v < 65536) (hl : l.length < 65536) :
  X ws (fun {R} k => Z13 N w v l b ws k) (constF w v l) := by
 obtain ⟨b', h⟩ := keep_ex N A ws (1, w, ((v.toNat % 2 ^ w.toNat : Nat) : Int), 0, 0, 0) hl
 refine ⟨b', fun k => ?_⟩
 show Z13 N w v l b ws k = _
 unfold Z13 Z13_T
 rw [May_eq', decide_eq_true hw, Mask_eq, maskI_of hw]
 have e : band .u16 v ((2 ^ w.toNat - 1 : Nat) : Int) = ((v.toNat % 2 ^ w.toNat : Nat) : Int) := by
  have : v = (v.toNat : Int) := by omega
  rw [this, mask_and hw.pos.2.1 (by omega)]
  simp
 rw [e]
 exact h k

def notF (x : Int) (l : List Nd) : Int × List Nd :=
 if (nd l x).op = 1 then constF (wd l x) ((65535 - (nd l x).v.toNat : Nat) : Int) l
 else if (nd l x).op = 3 then ((nd l x).a, l) else keepF (3, wd l x, 0, x, 0, 0) l
theorem Not_ex (N : Nat) {l : List Nd} {b : By} (A : Ar l b) (ws : Ws) {x : Int} (h : Tm l x) (hl : l.length < 65536) (hN : 8 ≤ N ∧ N ≤ 2 ^ 62) :
  X ws (fun {R} k => Z20 N x l b ws k) (notF x l) := by
 have hw := A.kw h
 obtain ⟨K, _⟩ := A.nodeOk h
 unfold notF
 by_cases h1 : (nd l x).op = 1
 ·have hv := K.num h1
  have hp := pow_le16 hw
  have hv' : 0 ≤ (nd l x).v ∧ (nd l x).v < 65536 := by
   have : (nd l x).w = wd l x := rfl
   rw [this] at hv
   omega
  obtain ⟨b', hc⟩ := Const_ex N A ws (w := wd l x) (v := ((65535 - (nd l x).v.toNat : Nat) : Int)) hw (by omega) hl
  refine ⟨b', fun k => ?_⟩
  show Z20 N x l b ws k = _
  rw [if_pos h1]
  unfold Z20 Z20_T
  rw [there1 N A.len b ws h hN]
  simp only [Bool.not_true, br_false]
  rw [Node_eq N A.len, br_dec, if_pos h1, ones_bxor hv']
  exact hc _
 by_cases h3 : (nd l x).op = 3
 ·refine ⟨b, fun k => ?_⟩
  show Z20 N x l b ws k = _
  rw [if_neg h1, if_pos h3]
  unfold Z20 Z20_T
  rw [there1 N A.len b ws h hN]
  simp only [Bool.not_true, br_false]
  rw [Node_eq N A.len, br_dec, if_neg h1, br_dec, if_pos h3]
 ·obtain ⟨b', hc⟩ := keep_ex N A ws (3, (nd l x).w, 0, x, 0, 0) hl
  refine ⟨b', fun k => ?_⟩
  show Z20 N x l b ws k = _
  rw [if_neg h1, if_neg h3]
  unfold Z20 Z20_T
  rw [there1 N A.len b ws h hN]
  simp only [Bool.not_true, br_false]
  rw [Node_eq N A.len, br_dec, if_neg h1, br_dec, if_neg h3]
  exact hc _

def eqF (two : Int → Int → Int → List Nd → Int × List Nd) (x v : Int) (l : List Nd) : Option (Int × List Nd) :=
 if wd l x = 1 then (if v = 1 then some (x, l) else some (notF x l))
 else if (nd l x).op = 17 then (if maskI (wd l (nd l x).a) < v then some (constF 1 0 l) else
  some (two 14 (nd l x).a (constF (wd l (nd l x).a) v l).1 (constF (wd l (nd l x).a) v l).2))
 else none
def alikeF (op x : Int) (l : List Nd) : Option (Int × List Nd) :=
 if op = 4 ∨ op = 5 then some (x, l) else if op = 6 ∨ op = 8 then some (constF (wd l x) 0 l)
 else if op = 14 ∨ op = 15 then some (constF 1 ((doN op (wd l x).toNat 0 0 : Nat) : Int) l) else none
def withF (two : Int → Int → Int → List Nd → Int × List Nd) (op x v : Int) (l : List Nd) : Option (Int × List Nd) :=
 if v = 0 ∧ (op = 4 ∨ op = 9 ∨ op = 15) then some (constF (outW op (wd l x)) 0 l)
 else if v = 0 ∧ (op = 5 ∨ op = 6 ∨ op = 7 ∨ op = 8 ∨ op = 12 ∨ op = 13 ∨ op = 11) then some (x, l)
 else if v = maskI (wd l x) ∧ op = 4 then some (x, l)
 else if v = 1 ∧ (op = 9 ∨ op = 10) then some (x, l)
 else if op = 14 then eqF two x v l else none
def lessF (two : Int → Int → Int → List Nd → Int × List Nd) (op x y : Int) (l : List Nd) : Option (Int × List Nd) :=
 if x = y then alikeF op x l else if isNum l x = true ∧ trn op = true then withF two op y (nd l x).v l
 else if isNum l y = true then withF two op x (nd l y).v l else none
def tailF (two : Int → Int → Int → List Nd → Int × List Nd) (op x y : Int) (l : List Nd) : Int × List Nd :=
 match lessF two op x y l with
 | some r => r
 | none => keepF (op, outW op (wd l x), 0, x, y, 0) l
def twoF : Nat → Int → Int → Int → List Nd → Int × List Nd
 | 0, _, _, _, l => (0, l)
 | n + 1, op, x, y, l => if isNum l x = true ∧ isNum l y = true then constF (outW op (wd l x)) ((doN op (wd l x).toNat (nd l x).v.toNat (nd l y).v.toNat : Nat) : Int) l
  else if trn op = true ∧ y < x then tailF (twoF n) op y x l else tailF (twoF n) op x y l

def TwoX (N lv : Nat) (c : Z21_Ty) : Prop :=
 ∀ ⦃l : List Nd⦄ ⦃b : By⦄ (A : Ar l b) (ws : Ws) {op x y : Int}, Tm l x → Tm l y → wd l x = wd l y → (4 ≤ op ∧ op ≤ 15) → lev (wd l x) ≤ lv → l.length + lv ≤ 65536 →
  X ws (fun {R} k => c op x y l b ws k) (twoF lv op x y l)
def EqualX (N lv : Nat) (c : Z26_Ty) : Prop :=
 ∀ ⦃l : List Nd⦄ ⦃b : By⦄ (A : Ar l b) (ws : Ws) {x v : Int}, Tm l x → (0 ≤ v ∧ v < ((2 ^ (wd l x).toNat : Nat) : Int)) → lev (wd l x) ≤ lv + 1 → l.length + (lv + 1) ≤ 65536 →
  XM ws l b (fun {R} k => c x v l b ws k) (eqF (twoF lv) x v l)
def WithX (N lv : Nat) (c : Z31_Ty) : Prop :=
 ∀ ⦃l : List Nd⦄ ⦃b : By⦄ (A : Ar l b) (ws : Ws) {op x v : Int}, Tm l x → (4 ≤ op ∧ op ≤ 15) → (0 ≤ v ∧ v < ((2 ^ (wd l x).toNat : Nat) : Int)) → lev (wd l x) ≤ lv + 1 → l.length + (lv + 1) ≤ 65536 →
  XM ws l b (fun {R} k => c op x v l b ws k) (withF (twoF lv) op x v l)
def LessX (N lv : Nat) (c : Z28_Ty) : Prop :=
 ∀ ⦃l : List Nd⦄ ⦃b : By⦄ (A : Ar l b) (ws : Ws) {op x y : Int}, Tm l x → Tm l y → wd l x = wd l y → (4 ≤ op ∧ op ≤ 15) → lev (wd l x) ≤ lv + 1 → l.length + (lv + 1) ≤ 65536 →
  XM ws l b (fun {R} k => c op x y l b ws k) (lessF (twoF lv) op x y l)

theorem equal_ex (N lv : Nat) (hN : 8 ≤ N ∧ N ≤ 2 ^ 62) (c : Z21_Ty) (H : TwoX N lv @c) :
  EqualX N lv (@Z26_T N @c (@Z13 N) (@Z37 N) (@Z24 N) (@Z20 N) (@Z19 N)) := by
 intro l b A ws x v h hv hl hlen
 have hw := A.kw h
 obtain ⟨K, _⟩ := A.nodeOk h
 have ew : (nd l x).w = wd l x := rfl
 unfold Z26_T eqF
 by_cases h1 : wd l x = 1
 ·rw [if_pos h1]
  by_cases hv1 : v = 1
  ·rw [if_pos hv1]
   refine ⟨b, fun {R} k => ?_⟩
   dsimp only
   rw [Node_eq N A.len]
   simp only [br_dec]
   rw [if_pos (ew.trans h1), if_pos hv1]
  ·rw [if_neg hv1]
   obtain ⟨b', hc⟩ := Not_ex N A ws h (by omega) hN
   refine ⟨b', fun {R} k => ?_⟩
   dsimp only
   rw [Node_eq N A.len]
   simp only [br_dec]
   rw [if_pos (ew.trans h1), if_neg hv1, if_pos (ew.trans h1)]
   exact hc _
 rw [if_neg h1]
 have h1' : ¬ (nd l x).w = 1 := h1
 by_cases h2 : (nd l x).op = 17
 ·rw [if_pos h2]
  obtain ⟨a1, a2⟩ := K.ext h2
  have hwa := A.kw a1
  have hlev := lev_lt hwa hw a2
  have hp := pow_le16 hwa
  have pos : 0 < 2 ^ (wd l (nd l x).a).toNat := Nat.pow_pos (by omega)
  have hpw := pow_le16 hw
  by_cases h3 : maskI (wd l (nd l x).a) < v
  ·rw [if_pos h3]
   obtain ⟨b', hc⟩ := Const_ex N A ws (w := 1) (v := 0) (.inl rfl) (by omega) (by omega)
   refine ⟨b', fun {R} k => ?_⟩
   dsimp only
   rw [Node_eq N A.len]
   simp only [br_dec]
   rw [if_neg h1', if_neg h1', if_pos h2, Width_eq N A.len, Mask_eq, if_pos h3]
   exact hc _
  ·rw [if_neg h3]
   obtain ⟨t1, l1, b1, G1, n1, hc1⟩ := Const_eq N A ws (w := wd l (nd l x).a) (v := v) hwa (by omega) (by omega)
   obtain ⟨e1, e2⟩ := (Const_ex N A ws (w := wd l (nd l x).a) (v := v) hwa (by omega) (by omega)).same (fun k => hc1 k)
   have a1' := a1.le G1.le
   have hw' : wd l1 (nd l x).a = wd l (nd l x).a := wd_le a1 G1.le
   have few := G1.few
   obtain ⟨b', hc⟩ := H G1.ar ws (op := 14) a1' G1.tm (by rw [hw', G1.wd]) (by omega) (by rw [hw']; omega) (by omega)
   rw [e1, e2]
   refine ⟨b', fun {R} k => ?_⟩
   dsimp only
   rw [Node_eq N A.len]
   simp only [br_dec, br_ndec]
   rw [if_neg h1', if_neg h1', if_pos h2, Width_eq N A.len, Mask_eq, if_neg h3, if_pos h2, Width_eq N A.len, hc1, if_pos rfl]
   exact hc _
 ·rw [if_neg h2]
  intro R k
  dsimp only
  rw [Node_eq N A.len]
  simp only [br_dec]
  rw [if_neg h1', if_neg h1', if_neg h2, if_neg h2]

theorem alike_ex (N : Nat) {l : List Nd} {b : By} (A : Ar l b) (ws : Ws) {op x : Int} (h : Tm l x) (ho : 4 ≤ op ∧ op ≤ 15) (hl : l.length < 65536) :
  XM ws l b (fun {R} k => Z25 N op x l b ws k) (alikeF op x l) := by
 have hw := A.kw h
 unfold Z25 Z25_T alikeF
 by_cases h1 : op = 4
 ·rw [if_pos (.inl h1)]
  refine ⟨b, fun {R} k => ?_⟩
  dsimp only
  rw [Width_eq N A.len]
  simp only [br_dec]
  rw [if_pos h1]
 by_cases h2 : op = 5
 ·rw [if_pos (.inr h2)]
  refine ⟨b, fun {R} k => ?_⟩
  dsimp only
  rw [Width_eq N A.len]
  simp only [br_dec]
  rw [if_neg h1, if_pos h2]
 rw [if_neg (by omega)]
 by_cases h3 : op = 6 ∨ op = 8
 ·rw [if_pos h3]
  obtain ⟨b', hc⟩ := Const_ex N A ws (w := wd l x) (v := 0) hw (by omega) hl
  refine ⟨b', fun {R} k => ?_⟩
  dsimp only
  rw [Width_eq N A.len]
  simp only [br_dec]
  rw [if_neg h1, if_neg h2]
  by_cases h4 : op = 6
  ·rw [if_pos h4]; exact hc _
  ·rw [if_neg h4, if_pos (by omega)]; exact hc _
 rw [if_neg h3]
 by_cases h4 : op = 14 ∨ op = 15
 ·rw [if_pos h4]
  have hlt : doN op (wd l x).toNat 0 0 < 2 := by rcases h4 with rfl | rfl <;> unfold doN <;> simp
  obtain ⟨b', hc⟩ := Const_ex N A ws (w := 1) (v := ((doN op (wd l x).toNat 0 0 : Nat) : Int)) (.inl rfl) (by omega) hl
  refine ⟨b', fun {R} k => ?_⟩
  dsimp only
  rw [Width_eq N A.len]
  simp only [br_dec]
  rw [if_neg h1, if_neg h2, if_neg (by omega), if_neg (by omega)]
  obtain ⟨n, hn, hn'⟩ := hw.nat
  have D : ∀ {S : Type} (k : Int → Int → Option S), Z36 N op (wd l x) (0 : Int) (0 : Int) k = k ((doN op (wd l x).toNat 0 0 : Nat) : Int) 0 := fun k => by
   have := Do_eq N (op := op) (w := n) (a := 0) (b := 0) hn' (by omega) (by omega) (by omega) k
   rw [hn]
   refine this.trans ?_
   simp
  by_cases h5 : op = 14
  ·rw [if_pos h5, D]; exact hc _
  ·rw [if_neg h5, if_pos (by omega), D]; exact hc _
 ·rw [if_neg h4]
  intro R k
  dsimp only
  rw [Width_eq N A.len]
  simp only [br_dec]
  repeat rw [if_neg (by omega)]

theorem with_ex (N lv : Nat) (c : Z26_Ty) (H : EqualX N lv @c) : WithX N lv (@Z31_T N @c (@Z37 N) (@Z13 N) (@Z39 N) (@Z24 N)) := by
 intro l b A ws op x v h ho hv hl hlen
 have hw := A.kw h
 have hlp := lev_pos (wd l x)
 have hp := pow_le16 hw
 have hm := maskI_of hw
 have h1w : 2 ≤ 2 ^ (wd l x).toNat := by
  have := pow_mono hw.pos.1
  simpa using this
 unfold Z31_T withF
 by_cases hA : v = 0 ∧ (op = 4 ∨ op = 9 ∨ op = 15)
 ·rw [if_pos hA]
  obtain ⟨b', hc⟩ := Const_ex N A ws (w := outW op (wd l x)) (v := 0) (Wd_out hw) (by omega) (by omega)
  refine ⟨b', fun {R} k => ?_⟩
  dsimp only
  rw [Width_eq N A.len]
  simp only [br_dec, br_ndec]
  rcases hA with ⟨h0, h4 | h4 | h4⟩ <;> (repeat (first | rw [if_pos (by omega)] | rw [if_neg (by omega)])) <;> rw [Out_eq' N hw ho] <;> exact hc _
 rw [if_neg hA]
 by_cases hB : v = 0 ∧ (op = 5 ∨ op = 6 ∨ op = 7 ∨ op = 8 ∨ op = 12 ∨ op = 13 ∨ op = 11)
 ·rw [if_pos hB]
  refine ⟨b, fun {R} k => ?_⟩
  dsimp only
  rw [Width_eq N A.len]
  simp only [br_dec, br_ndec]
  rcases hB with ⟨h0, h4 | h4 | h4 | h4 | h4 | h4 | h4⟩ <;> (repeat (first | rw [if_pos (by omega)] | rw [if_neg (by omega)]))
 rw [if_neg hB]
 by_cases hC : v = maskI (wd l x) ∧ op = 4
 ·rw [if_pos hC]
  have hv0 : ¬ v = 0 := by rw [hC.1, hm]; omega
  refine ⟨b, fun {R} k => ?_⟩
  dsimp only
  rw [Width_eq N A.len]
  simp only [br_dec, br_ndec]
  obtain ⟨q1, q2⟩ := hC
  rw [if_neg hv0, if_neg hv0, Mask_eq, if_pos q1, if_pos q2]
 rw [if_neg hC]
 by_cases hD : v = 1 ∧ (op = 9 ∨ op = 10)
 ·rw [if_pos hD]
  refine ⟨b, fun {R} k => ?_⟩
  dsimp only
  rw [Width_eq N A.len]
  simp only [br_dec, br_ndec]
  obtain ⟨q1, q2⟩ := hD
  rw [if_neg (by omega), if_neg (by omega), Mask_eq]
  by_cases hvm : v = maskI (wd l x)
  ·rw [if_pos hvm]
   rcases q2 with q2 | q2 <;> (repeat (first | rw [if_pos (by omega)] | rw [if_neg (by omega)]))
  ·rw [if_neg hvm]
   rcases q2 with q2 | q2 <;> (repeat (first | rw [if_pos (by omega)] | rw [if_neg (by omega)]))
 rw [if_neg hD]
 have tail : ∀ {R : Type} (k : Int → Int → Bool → By → Ws → List Nd → Option R), (@Z31_T N @c (@Z37 N) (@Z13 N) (@Z39 N) (@Z24 N)) op x v l b ws k = if op = 14 then c x v l b ws k else k 0 0 false b ws l := fun k => by
  unfold Z31_T
  rw [Width_eq N A.len]
  simp only [br_dec, br_ndec]
  by_cases hE : op = 14
  ·by_cases hv0 : v = 0
   ·(repeat (first | rw [if_pos (by omega)] | rw [if_neg (by omega)]))
    rw [Mask_eq]
    by_cases hvm : v = maskI (wd l x)
    ·rw [if_pos hvm]; (repeat (first | rw [if_pos (by omega)] | rw [if_neg (by omega)]))
    ·rw [if_neg hvm]; (repeat (first | rw [if_pos (by omega)] | rw [if_neg (by omega)]))
   ·(repeat (first | rw [if_pos (by omega)] | rw [if_neg (by omega)]))
    rw [Mask_eq]
    by_cases hvm : v = maskI (wd l x)
    ·rw [if_pos hvm]
     by_cases hv1 : v = 1 <;> (repeat (first | rw [if_pos (by omega)] | rw [if_neg (by omega)]))
    ·rw [if_neg hvm]
     by_cases hv1 : v = 1 <;> (repeat (first | rw [if_pos (by omega)] | rw [if_neg (by omega)]))
  ·by_cases hv0 : v = 0
   ·(repeat (first | rw [if_pos (by omega)] | rw [if_neg (by omega)]))
    rw [Mask_eq]
    by_cases hvm : v = maskI (wd l x)
    ·rw [if_pos hvm]; (repeat (first | rw [if_pos (by omega)] | rw [if_neg (by omega)]))
    ·rw [if_neg hvm]; (repeat (first | rw [if_pos (by omega)] | rw [if_neg (by omega)]))
   ·(repeat (first | rw [if_pos (by omega)] | rw [if_neg (by omega)]))
    rw [Mask_eq]
    by_cases hvm : v = maskI (wd l x)
    ·rw [if_pos hvm]
     by_cases hv1 : v = 1 <;> (repeat (first | rw [if_pos (by omega)] | rw [if_neg (by omega)]))
    ·rw [if_neg hvm]
     by_cases hv1 : v = 1 <;> (repeat (first | rw [if_pos (by omega)] | rw [if_neg (by omega)]))
 by_cases hE : op = 14
 ·rw [if_pos hE]
  have h0 := H A ws h hv hl hlen
  revert h0
  unfold XM
  cases eqF (twoF lv) x v l with
  | some r =>
   rintro ⟨b', h0⟩
   exact ⟨b', fun {R} k => by have := tail k; rw [if_pos hE] at this; exact this.trans (h0 k)⟩
  | none => exact fun h0 {R} k => by have := tail k; rw [if_pos hE] at this; exact this.trans (h0 k)
 ·rw [if_neg hE]
  intro R k
  have := tail k
  rw [if_neg hE] at this
  exact this

/-- with what comes, or nothing, one goes on -/
theorem XM.map {ws : Ws} {l : List Nd} {b : By} {code code' : ∀ {R : Type}, (Int → Int → Bool → By → Ws → List Nd → Option R) → Option R} {o : Option (Int × List Nd)} (h : XM ws l b (fun {R} => @code R) o)
  (e : ∀ {R : Type} (k : Int → Int → Bool → By → Ws → List Nd → Option R), code' k = code k) : XM ws l b (fun {R} => @code' R) o := by
 unfold XM at *
 cases o with
 | some r =>
  obtain ⟨b', h⟩ := h
  exact ⟨b', fun {R} k => (e k).trans (h k)⟩
 | none => exact fun {R} k => (e k).trans (h k)

theorem less_ex (N lv : Nat) (c : Z31_Ty) (H : WithX N lv @c) : LessX N lv (@Z28_T N @c (@Z34 N) (@Z18 N) (@Z25 N)) := by
 intro l b A ws op x y hx hy hxy ho hl hlen
 have hlp := lev_pos (wd l x)
 unfold Z28_T lessF
 by_cases h : x = y
 ·rw [if_pos h]
  subst h
  refine (alike_ex N A ws hx ho (by omega)).map (fun {R} k => ?_)
  rw [br_dec, if_pos rfl]
 rw [if_neg h]
 by_cases h1 : isNum l x = true ∧ trn op = true
 ·rw [if_pos h1]
  have hn : (nd l x).op = 1 := by simpa [isNum] using h1.1
  have hv := val_num A (fun _ => 0) hx hn
  refine (H A ws (op := op) (v := (nd l x).v) hy ho (by rw [← hxy]; exact hv.2) (by rw [← hxy]; exact hl) hlen).map (fun {R} k => ?_)
  rw [br_dec, if_neg h, Known_eq N A ws hx, h1.1, br_true, turns_eq, h1.2, br_true]
 rw [if_neg h1]
 have start : ∀ {R : Type} (k : Int → Int → Bool → By → Ws → List Nd → Option R), (@Z28_T N @c (@Z34 N) (@Z18 N) (@Z25 N)) op x y l b ws k =
   br (isNum l y) (c op x (nd l y).v l b ws (fun i547 i548 b549 l550 l551 l552 => k i547 i548 b549 l550 l551 l552)) (k (0 : Int) (0 : Int) false b ws l) := fun k => by
  unfold Z28_T
  rw [br_dec, if_neg h, Known_eq N A ws hx]
  by_cases h2 : isNum l x = true
  ·have h3 : trn op = false := by
    cases e : trn op
    ·rfl
    ·exact absurd ⟨h2, e⟩ h1
   rw [h2, br_true, turns_eq, h3, br_false, Known_eq N A ws hy]
  ·rw [Bool.not_eq_true _ |>.mp h2, br_false, Known_eq N A ws hy]
 by_cases h2 : isNum l y = true
 ·rw [if_pos h2]
  have hn : (nd l y).op = 1 := by simpa [isNum] using h2
  have hv := val_num A (fun _ => 0) hy hn
  refine (H A ws (op := op) (v := (nd l y).v) hx ho (by rw [hxy]; exact hv.2) hl hlen).map (fun {R} k => ?_)
  have := start k
  rw [h2, br_true] at this
  exact this
 ·rw [if_neg h2]
  intro R k
  have := start k
  rw [Bool.not_eq_true _ |>.mp h2, br_false] at this
  exact this

theorem two_ex (N lv : Nat) (hN : 8 ≤ N ∧ N ≤ 2 ^ 62) (c : Z28_Ty) (H : LessX N lv @c) :
  TwoX N (lv + 1) (@Z21_T N (@Z27 N) @c (@Z34 N) (@Z13 N) (@Z39 N) (@Z36 N) (@Z18 N) (@Z24 N) (@Z30 N) (@Z35 N)) := by
 intro l b A ws op x y hx hy hxy ho hl hlen
 have hlp := lev_pos (wd l x)
 have hw := A.kw hx
 have tail : ∀ {x y : Int} (hx : Tm l x) (hy : Tm l y) (hxy : wd l x = wd l y) (hl : lev (wd l x) ≤ lv + 1),
   X ws (fun {R} k => c op x y l b ws (fun i553 i554 b555 l556 l557 l558 => br b555 (k i553 i554 l556 l557 l558)
    (Z24 N x l558 l556 l557 (fun i559 l560 l561 l562 => Z39 N op i559 (fun i563 => Z27 N op i563 (0 : Int) x y (0 : Int) l560 l561 l562 (fun i564 i565 l566 l567 l568 => k i564 i565 l566 l567 l568)))))) (tailF (twoF lv) op x y l) := by
  intro x y hx hy hxy hl
  have h0 := H A ws hx hy hxy ho hl hlen
  revert h0
  unfold XM tailF
  cases lessF (twoF lv) op x y l with
  | some r =>
   rintro ⟨b', h0⟩
   exact ⟨b', fun {R} k => (h0 _).trans rfl⟩
  | none =>
   intro h0
   obtain ⟨b', hk⟩ := keep_ex N A ws (op, outW op (wd l x), 0, x, y, 0) (by omega)
   refine ⟨b', fun {R} k => (h0 _).trans ?_⟩
   rw [br_false, Width_eq N A.len, Out_eq' N (A.kw hx) ho]
   exact hk _
 unfold Z21_T twoF
 by_cases hnum : isNum l x = true ∧ isNum l y = true
 ·rw [if_pos hnum]
  have nx : (nd l x).op = 1 := by simpa [isNum] using hnum.1
  have ny : (nd l y).op = 1 := by simpa [isNum] using hnum.2
  have vx := val_num A (fun _ => 0) hx nx
  have vy := val_num A (fun _ => 0) hy ny
  have hp := pow_le16 hw
  rw [← hxy] at vy
  have lx := A.lt' (fun _ => 0) hx
  have ly := A.lt' (fun _ => 0) hy
  rw [← hxy] at ly
  obtain ⟨n, hn, hn'⟩ := hw.nat
  have en : (wd l x).toNat = n := by omega
  have D : ∀ {S : Type} (k : Int → Int → Option S), Z36 N op (wd l x) (nd l x).v (nd l y).v k = k ((doN op (wd l x).toNat (nd l x).v.toNat (nd l y).v.toNat : Nat) : Int) 0 := fun k => by
   have := Do_eq N (op := op) (w := n) (a := (nd l x).v.toNat) (b := (nd l y).v.toNat) hn' (by omega) (by omega) (by omega) k
   rw [en]
   rw [Nat.mod_eq_of_lt (by rw [← en]; omega), Nat.mod_eq_of_lt (by rw [← en]; omega)] at this
   rw [← this, hn]
   congr 1 <;> omega
  have hlt : doN op (wd l x).toNat (nd l x).v.toNat (nd l y).v.toNat < 2 ^ (outW op (wd l x)).toNat := by
   unfold outW
   split
   ·rename_i h7
    rcases h7 with h7 | h7 <;> rw [h7] <;> unfold doN <;> simp <;> split <;> decide
   ·exact doN_lt hw.pos.1 (by omega) (by omega)
  have hp' := pow_le16 (Wd_out (op := op) hw)
  obtain ⟨b', hc⟩ := Const_ex N A ws (w := outW op (wd l x)) (v := ((doN op (wd l x).toNat (nd l x).v.toNat (nd l y).v.toNat : Nat) : Int)) (Wd_out hw) (by omega) (by omega)
  refine ⟨b', fun {R} k => ?_⟩
  dsimp only
  rw [two_eq, decide_eq_true ho]
  simp only [Bool.not_true, br_false]
  rw [there2 N A.len b ws x y hN, decide_eq_true ⟨hx, hy⟩]
  simp only [Bool.not_true, br_false]
  rw [Width_eq N A.len, Width_eq N A.len, br_ndec, if_pos hxy, Known_eq N A ws hx, Known_eq N A ws hy, hnum.1, hnum.2, br_true, br_true, Width_eq N A.len, D, Width_eq N A.len, Out_eq' N hw ho]
  exact hc _
 rw [if_neg hnum]
 by_cases hsw : trn op = true ∧ y < x
 ·rw [if_pos hsw]
  obtain ⟨b', h2⟩ := tail hy hx hxy.symm (by rw [← hxy]; exact hl)
  refine ⟨b', fun {R} k => ?_⟩
  dsimp only
  rw [two_eq, decide_eq_true ho]
  simp only [Bool.not_true, br_false]
  rw [there2 N A.len b ws x y hN, decide_eq_true ⟨hx, hy⟩]
  simp only [Bool.not_true, br_false]
  rw [Width_eq N A.len, Width_eq N A.len, br_ndec, if_pos hxy, Known_eq N A ws hx, Known_eq N A ws hy]
  by_cases q1 : isNum l x = true
  ·have q2 : isNum l y = false := by
    cases e : isNum l y
    ·rfl
    ·exact absurd ⟨q1, e⟩ hnum
   rw [q1, q2, br_true, br_false, turns_eq, hsw.1, br_true, br_dec, if_pos hsw.2]
   exact h2 k
  ·rw [Bool.not_eq_true _ |>.mp q1, br_false, turns_eq, hsw.1, br_true, br_dec, if_pos hsw.2]
   exact h2 k
 ·rw [if_neg hsw]
  obtain ⟨b', h1⟩ := tail hx hy hxy hl
  refine ⟨b', fun {R} k => ?_⟩
  dsimp only
  rw [two_eq, decide_eq_true ho]
  simp only [Bool.not_true, br_false]
  rw [there2 N A.len b ws x y hN, decide_eq_true ⟨hx, hy⟩]
  simp only [Bool.not_true, br_false]
  rw [Width_eq N A.len, Width_eq N A.len, br_ndec, if_pos hxy, Known_eq N A ws hx, Known_eq N A ws hy]
  by_cases q1 : isNum l x = true
  ·have q2 : isNum l y = false := by
    cases e : isNum l y
    ·rfl
    ·exact absurd ⟨q1, e⟩ hnum
   rw [q1, q2, br_true, br_false, turns_eq]
   by_cases q3 : trn op = true
   ·rw [q3, br_true, br_dec, if_neg (fun e => hsw ⟨q3, e⟩)]
    exact h1 k
   ·rw [Bool.not_eq_true _ |>.mp q3, br_false]
    exact h1 k
  ·rw [Bool.not_eq_true _ |>.mp q1, br_false, turns_eq]
   by_cases q3 : trn op = true
   ·rw [q3, br_true, br_dec, if_neg (fun e => hsw ⟨q3, e⟩)]
    exact h1 k
   ·rw [Bool.not_eq_true _ |>.mp q3, br_false]
    exact h1 k

theorem two_xrec (N : Nat) (hN : 8 ≤ N ∧ N ≤ 2 ^ 62) (lv : Nat) : ∀ n : Nat, 4 * lv ≤ n → TwoX N lv (@G_term_Arena_Two_Rec.Z21 (G_term_Arena_Two_rec N n)) := by
 induction lv with
 | zero =>
  intro n _ l b A ws op x y hx hy hxy ho hl hlen
  have := lev_pos (wd l x)
  omega
 | succ lv ih =>
  intro n h
  obtain ⟨m, rfl⟩ : ∃ m, n = m + 4 := ⟨n - 4, by omega⟩
  have h0 := ih m (by omega)
  have h1 : EqualX N lv (@G_term_Arena_Two_Rec.Z26 (G_term_Arena_Two_rec N (m + 1))) := equal_ex N lv hN _ h0
  have h2 : WithX N lv (@G_term_Arena_Two_Rec.Z31 (G_term_Arena_Two_rec N (m + 2))) := with_ex N lv _ h1
  have h3 : LessX N lv (@G_term_Arena_Two_Rec.Z28 (G_term_Arena_Two_rec N (m + 3))) := less_ex N lv _ h2
  exact two_ex N lv hN _ h3

theorem Two_ex (N : Nat) (hN : 12 ≤ N ∧ N ≤ 2 ^ 62) {l : List Nd} {b : By} (A : Ar l b) (ws : Ws) {op x y : Int} (hx : Tm l x) (hy : Tm l y) (hxy : wd l x = wd l y) (ho : 4 ≤ op ∧ op ≤ 15) (hlen : l.length + 3 ≤ 65536) :
  X ws (fun {R} k => Z21 N op x y l b ws k) (twoF 3 op x y l) :=
 two_xrec N (by omega) 3 N (by omega) A ws hx hy hxy ho (lev_pos _).2 hlen

def iteF (c x y : Int) (l : List Nd) : Int × List Nd :=
 if x = y then (x, l) else if isNum l c = true then (if (nd l c).v = 1 then (x, l) else (y, l)) else keepF (16, wd l x, 0, c, x, y) l
theorem Ite_ex (N : Nat) (hN : 12 ≤ N ∧ N ≤ 2 ^ 62) {l : List Nd} {b : By} (A : Ar l b) (ws : Ws) {c x y : Int} (hc : Tm l c) (hx : Tm l x) (hy : Tm l y) (hc1 : wd l c = 1) (hxy : wd l x = wd l y) (hlen : l.length < 65536) :
  X ws (fun {R} k => Z17 N c x y l b ws k) (iteF c x y l) := by
 have hw := A.kw hx
 have start : ∀ {R : Type} (k : Int → Int → By → Ws → List Nd → Option R), Z17 N c x y l b ws k = br (!(decide (x = y)))
     (br (isNum l c)
      (br (decide ((nd l c).v = (1 : Int)))
      (k x (0 : Int) b ws l)
      (k y (0 : Int) b ws l))
      (Z27 N (16 : Int) (wd l x) (0 : Int) c x y l b ws k))
     (k x (0 : Int) b ws l) := fun k => by
  unfold Z17 Z17_T
  rw [there3 N A.len b ws c x y (by omega), decide_eq_true ⟨hc, hx, hy⟩, Bool.not_true, br_false, Width_eq N A.len, hc1]
  simp only [decide_true, Bool.not_true, Bool.not_false, br_true]
  rw [Width_eq N A.len, Width_eq N A.len, hxy]
  simp only [decide_true, Bool.not_true, br_false]
  rw [Known_eq N A ws hc]
  cases isNum l c
  ·simp only [br_false]
   rw [Width_eq N A.len, hxy]
  ·simp only [br_true]
 unfold iteF
 by_cases e : x = y
 ·refine ⟨b, fun {R} k => ?_⟩
  refine (start k).trans ?_
  rw [if_pos e, br_ndec, if_pos e]
 rw [if_neg e]
 by_cases hn : isNum l c = true
 ·rw [if_pos hn]
  by_cases h1 : (nd l c).v = 1
  ·refine ⟨b, fun {R} k => (start k).trans ?_⟩
   rw [if_pos h1, br_ndec, if_neg e, hn, br_true, decide_eq_true h1, br_true]
  ·refine ⟨b, fun {R} k => (start k).trans ?_⟩
   rw [if_neg h1, br_ndec, if_neg e, hn, br_true, decide_eq_false h1, br_false]
 ·rw [if_neg hn]
  obtain ⟨b', hk⟩ := keep_ex N A ws (16, wd l x, 0, c, x, y) hlen
  refine ⟨b', fun {R} k => (start k).trans ?_⟩
  rw [br_ndec, if_neg e, Bool.not_eq_true _ |>.mp hn, br_false]
  exact hk k

def extF : Nat → Int → Int → List Nd → Int × List Nd
 | 0, _, _, l => (0, l)
 | n + 1, w, x, l => if w = wd l x then (x, l) else if (nd l x).op = 1 then constF w (nd l x).v l else if (nd l x).op = 17 then extF n w (nd l x).a l else keepF (17, w, 0, x, 0, 0) l
theorem ext_xrec (N : Nat) (hN : 12 ≤ N ∧ N ≤ 2 ^ 62) {l : List Nd} {b : By} (A : Ar l b) (ws : Ws) {w : Int} (hw : Wd w) (hlen : l.length < 65536) : ∀ (m n : Nat) {x : Int} (hx : Tm l x), wd l x ≤ w → lev (wd l x) < m → m ≤ n →
  X ws (fun {R} k => G_term_Arena_Ext_Rec.Z16 (G_term_Arena_Ext_rec N n) w x l b ws k) (extF m w x l)
 | 0, n, x, hx, _, h, _ => by omega
 | m + 1, 0, x, hx, _, h, hn => by omega
 | m + 1, n + 1, x, hx, hle, h, hn => by
  obtain ⟨K, _⟩ := A.nodeOk hx
  have ew : (nd l x).w = wd l x := rfl
  have hwx := A.kw hx
  have start : ∀ {R : Type} (k : Int → Int → By → Ws → List Nd → Option R), G_term_Arena_Ext_Rec.Z16 (G_term_Arena_Ext_rec N (n + 1)) w x l b ws k =
    (if w = wd l x then k x 0 b ws l else if (nd l x).op = 1 then Z13 N w (nd l x).v l b ws k
     else if (nd l x).op = 17 then G_term_Arena_Ext_Rec.Z16 (G_term_Arena_Ext_rec N n) w (nd l x).a l b ws k else Z27 N 17 w 0 x 0 0 l b ws k) := fun k => by
   rw [G_term_Arena_Ext_rec]
   dsimp only
   unfold Z16_T
   rw [Node_eq N A.len, decide_eq_true hx, Bool.not_true, br_false, May_eq', decide_eq_true hw]
   simp only [Bool.not_true, Bool.not_false, br_true, br_dec]
   rw [if_neg (by rw [ew]; omega)]
   rfl
  unfold extF
  by_cases h1 : w = wd l x
  ·exact ⟨b, fun {R} k => (start k).trans (by rw [if_pos h1, if_pos h1])⟩
  rw [if_neg h1]
  by_cases h2 : (nd l x).op = 1
  ·have hv := val_num A (fun _ => 0) hx h2
   have hp := pow_le16 hwx
   obtain ⟨b', hc⟩ := Const_ex N A ws (w := w) (v := (nd l x).v) hw (by omega) hlen
   exact ⟨b', fun {R} k => (start k).trans (by rw [if_neg h1, if_pos h2, if_pos h2]; exact hc k)⟩
  rw [if_neg h2]
  by_cases h3 : (nd l x).op = 17
  ·obtain ⟨a1, a2⟩ := K.ext h3
   have hl := lev_lt (A.kw a1) hwx a2
   obtain ⟨b', hc⟩ := ext_xrec N hN A ws hw hlen m n a1 (by omega) (by omega) (by omega)
   exact ⟨b', fun {R} k => (start k).trans (by rw [if_neg h1, if_neg h2, if_pos h3, if_pos h3]; exact hc k)⟩
  ·obtain ⟨b', hc⟩ := keep_ex N A ws (17, w, 0, x, 0, 0) hlen
   exact ⟨b', fun {R} k => (start k).trans (by rw [if_neg h1, if_neg h2, if_neg h3, if_neg h3]; exact hc k)⟩
theorem Ext_ex (N : Nat) (hN : 12 ≤ N ∧ N ≤ 2 ^ 62) {l : List Nd} {b : By} (A : Ar l b) (ws : Ws) {w x : Int} (hw : Wd w) (hx : Tm l x) (hle : wd l x ≤ w) (hlen : l.length < 65536) :
  X ws (fun {R} k => Z16 N w x l b ws k) (extF 4 w x l) :=
 ext_xrec N hN A ws hw hlen 4 N hx hle (by have := lev_pos (wd l x); omega) (by omega)

def cutF : Nat → Int → Int → List Nd → Int × List Nd
 | 0, _, _, l => (0, l)
 | n + 1, w, x, l => if w = wd l x then (x, l) else if (nd l x).op = 1 then constF w (nd l x).v l else if (nd l x).op = 18 then cutF n w (nd l x).a l
  else if (nd l x).op = 17 then (if w ≤ wd l (nd l x).a then cutF n w (nd l x).a l else extF 4 w (nd l x).a l) else keepF (18, w, 0, x, 0, 0) l
theorem cut_xrec (N : Nat) (hN : 12 ≤ N ∧ N ≤ 2 ^ 62) {l : List Nd} {b : By} (A : Ar l b) (ws : Ws) {w : Int} (hw : Wd w) (hlen : l.length < 65536) : ∀ (q n m : Nat) {x : Int} (hx : Tm l x), w ≤ wd l x → x ≤ (m : Int) → m < q → q ≤ n →
  X ws (fun {R} k => G_term_Arena_Cut_Rec.Z14 (G_term_Arena_Cut_rec N n) w x l b ws k) (cutF q w x l)
 | 0, n, m, x, hx, _, _, h, _ => by omega
 | q + 1, 0, m, x, hx, _, _, h, hn => by omega
 | q + 1, n + 1, m, x, hx, hle, hm, h, hn => by
  obtain ⟨K, ka, _⟩ := A.nodeOk hx
  have hx1 := hx.1
  have ew : (nd l x).w = wd l x := rfl
  have hwx := A.kw hx
  have start : ∀ {R : Type} (k : Int → Int → By → Ws → List Nd → Option R), G_term_Arena_Cut_Rec.Z14 (G_term_Arena_Cut_rec N (n + 1)) w x l b ws k =
    (if w = wd l x then k x 0 b ws l else if (nd l x).op = 1 then Z13 N w (nd l x).v l b ws k
     else if (nd l x).op = 18 then G_term_Arena_Cut_Rec.Z14 (G_term_Arena_Cut_rec N n) w (nd l x).a l b ws k
     else if (nd l x).op = 17 then (if w ≤ wd l (nd l x).a then G_term_Arena_Cut_Rec.Z14 (G_term_Arena_Cut_rec N n) w (nd l x).a l b ws k else Z16 N w (nd l x).a l b ws k)
     else Z27 N 18 w 0 x 0 0 l b ws k) := fun k => by
   rw [G_term_Arena_Cut_rec]
   dsimp only
   unfold Z14_T
   rw [Node_eq N A.len, decide_eq_true hx, Bool.not_true, br_false, May_eq', decide_eq_true hw]
   simp only [Bool.not_true, Bool.not_false, br_true, br_dec]
   rw [if_neg (by rw [ew]; omega)]
   by_cases h1 : w = wd l x
   ·rw [if_pos h1, if_pos (show w = (nd l x).w from h1)]
   have h1' : ¬ w = (nd l x).w := h1
   rw [if_neg h1, if_neg h1']
   by_cases h2 : (nd l x).op = 1
   ·rw [if_pos h2, if_pos h2]
   rw [if_neg h2, if_neg h2]
   by_cases h3 : (nd l x).op = 18
   ·rw [if_pos h3, if_pos h3]
   rw [if_neg h3, if_neg h3]
   by_cases h4 : (nd l x).op = 17
   ·rw [if_pos h4, if_pos h4, Width_eq N A.len]
    rw [if_pos h4]
   ·rw [if_neg h4, if_neg h4, if_neg h4]
  unfold cutF
  by_cases h1 : w = wd l x
  ·exact ⟨b, fun {R} k => (start k).trans (by rw [if_pos h1, if_pos h1])⟩
  rw [if_neg h1]
  by_cases h2 : (nd l x).op = 1
  ·have hv := val_num A (fun _ => 0) hx h2
   have hp := pow_le16 hwx
   obtain ⟨b', hc⟩ := Const_ex N A ws (w := w) (v := (nd l x).v) hw (by omega) hlen
   exact ⟨b', fun {R} k => (start k).trans (by rw [if_neg h1, if_pos h2, if_pos h2]; exact hc k)⟩
  rw [if_neg h2]
  by_cases h3 : (nd l x).op = 18
  ·obtain ⟨a1, a2⟩ := K.cut h3
   have := a1.1
   have ka' : (nd l x).a ≤ ((m - 1 : Nat) : Int) := by omega
   obtain ⟨b', hc⟩ := cut_xrec N hN A ws hw hlen q n (m - 1) a1 (by omega) ka' (by omega) (by omega)
   exact ⟨b', fun {R} k => (start k).trans (by rw [if_neg h1, if_neg h2, if_pos h3, if_pos h3]; exact hc k)⟩
  rw [if_neg h3]
  by_cases h4 : (nd l x).op = 17
  ·rw [if_pos h4]
   obtain ⟨a1, a2⟩ := K.ext h4
   have := a1.1
   by_cases h5 : w ≤ wd l (nd l x).a
   ·have ka' : (nd l x).a ≤ ((m - 1 : Nat) : Int) := by omega
    obtain ⟨b', hc⟩ := cut_xrec N hN A ws hw hlen q n (m - 1) a1 h5 ka' (by omega) (by omega)
    exact ⟨b', fun {R} k => (start k).trans (by rw [if_neg h1, if_neg h2, if_neg h3, if_pos h4, if_pos h5, if_pos h5]; exact hc k)⟩
   ·obtain ⟨b', hc⟩ := Ext_ex N hN A ws hw a1 (by omega) hlen
    exact ⟨b', fun {R} k => (start k).trans (by rw [if_neg h1, if_neg h2, if_neg h3, if_pos h4, if_neg h5, if_neg h5]; exact hc k)⟩
  ·rw [if_neg h4]
   obtain ⟨b', hc⟩ := keep_ex N A ws (18, w, 0, x, 0, 0) hlen
   exact ⟨b', fun {R} k => (start k).trans (by rw [if_neg h1, if_neg h2, if_neg h3, if_neg h4]; exact hc k)⟩
theorem Cut_ex (N : Nat) (hN : 70000 ≤ N ∧ N ≤ 2 ^ 62) {l : List Nd} {b : By} (A : Ar l b) (ws : Ws) {w x : Int} (hw : Wd w) (hx : Tm l x) (hle : w ≤ wd l x) (hlen : l.length < 65536) :
  X ws (fun {R} k => Z14 N w x l b ws k) (cutF 65537 w x l) :=
 cut_xrec N (by omega) A ws hw hlen 65537 N 65536 hx hle (by have := hx.2; have := A.len; omega) (by omega) (by omega)

end Go.Proofs.Ytmgoeikbdikmdaa
