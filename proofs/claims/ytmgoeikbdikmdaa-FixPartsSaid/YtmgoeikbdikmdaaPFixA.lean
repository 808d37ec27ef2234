/-
 numbers in the place of variables (chapter 3): a node anew, of other parts.
-/
import Derived.Test.YtmgoeikbdikmdaaPTermX
import Derived.Test.YtmgoeikbdikmdaaPTermU
set_option linter.unusedSimpArgs false
set_option linter.unusedVariables false
namespace Go.Proofs.Ytmgoeikbdikmdaa
open Go.Gx

theorem Ite_num (N : Nat) (hN : 12 ≤ N ∧ N ≤ 2 ^ 62) {l : List Nd} {b : By} (A : Ar l b) (ws : Ws) {c x y : Int} (hc : Tm l c) (hx : Tm l x) (hy : Tm l y) (hc1 : wd l c = 1) (hxy : wd l x = wd l y) (nc : (nd l c).op = 1) (nx : (nd l x).op = 1) (ny : (nd l y).op = 1) :
  ∃ t, Got l (wd l x) (fun env => if val env l c = 1 then val env l x else val env l y) 1 t l b ∧ (nd l t).op = 1 ∧
   ∀ {R : Type} (k : Int → Int → By → Ws → List Nd → Option R), Z17 N c x y l b ws k = k t 0 b ws l := by
 have hn : isNum l c = true := by simpa [isNum] using nc
 have start : ∀ {R : Type} (k : Int → Int → By → Ws → List Nd → Option R), Z17 N c x y l b ws k = br (!(decide (x = y)))
      (br (decide ((nd l c).v = (1 : Int)))
      (k x (0 : Int) b ws l)
      (k y (0 : Int) b ws l))
     (k x (0 : Int) b ws l) := fun k => by
  unfold Z17 Z17_T
  rw [there3 N A.len b ws c x y (by omega), decide_eq_true ⟨hc, hx, hy⟩, Bool.not_true, br_false, Width_eq N A.len, hc1]
  simp only [decide_true, Bool.not_true, Bool.not_false, br_true]
  rw [Width_eq N A.len, Width_eq N A.len, hxy]
  simp only [decide_true, Bool.not_true, br_false]
  rw [Known_eq N A ws hc, hn]
  simp only [br_true]
 by_cases e : x = y
 ·subst e
  refine ⟨x, (Got.self A hx).more (fun env => ?_) (by omega), nx, fun k => ?_⟩
  ·split <;> rfl
  ·rw [start, br_ndec, if_pos rfl]
 by_cases h1 : (nd l c).v = 1
 ·refine ⟨x, (Got.self A hx).more (fun env => ?_) (by omega), nx, fun k => ?_⟩
  ·rw [(val_num A env hc nc).1, h1]
   rfl
  ·rw [start, br_ndec, if_neg e, decide_eq_true h1, br_true]
 ·have G := (Got.self A hy).more (m' := 1) (g := fun env => if val env l c = 1 then val env l x else val env l y) (fun env => ?_) (by omega)
  ·rw [← hxy] at G
   refine ⟨y, G, ny, fun k => ?_⟩
   rw [start, br_ndec, if_neg e, decide_eq_false h1, br_false]
  ·have := (val_num A env hc nc)
   rw [if_neg (by omega)]

theorem Ext_num (N : Nat) (hN : 12 ≤ N ∧ N ≤ 2 ^ 62) {l : List Nd} {b : By} (A : Ar l b) (ws : Ws) {w x : Int} (hw : Wd w) (hx : Tm l x) (hle : wd l x ≤ w) (nx : (nd l x).op = 1) (hlen : l.length < 65536) :
  ∃ t l' b', Got l w (fun env => val env l x) 1 t l' b' ∧ (nd l' t).op = 1 ∧
   ∀ {R : Type} (k : Int → Int → By → Ws → List Nd → Option R), Z16 N w x l b ws k = k t 0 b' ws l' := by
 have hwx := A.kw hx
 have ew : (nd l x).w = wd l x := rfl
 have start : ∀ {R : Type} (k : Int → Int → By → Ws → List Nd → Option R), Z16 N w x l b ws k =
   (if w = wd l x then k x 0 b ws l else Z13 N w (nd l x).v l b ws k) := fun k => by
  obtain ⟨n, rfl⟩ : ∃ n, N = n + 1 := ⟨N - 1, by omega⟩
  unfold Z16
  rw [G_term_Arena_Ext_rec]
  dsimp only
  unfold Z16_T
  rw [Node_eq (n + 1) A.len, decide_eq_true hx, Bool.not_true, br_false, May_eq', decide_eq_true hw]
  simp only [Bool.not_true, Bool.not_false, br_true, br_dec]
  rw [if_neg (by rw [ew]; omega), if_pos nx]
  rfl
 by_cases h1 : w = wd l x
 ·have G := (Got.self A hx).more (m' := 1) (fun _ => rfl) (by omega)
  rw [← h1] at G
  exact ⟨x, l, b, G, nx, fun k => by rw [start, if_pos h1]⟩
 ·have hv := val_num A (fun _ => 0) hx nx
  have hp := pow_le16 hwx
  obtain ⟨t, l', b', G, hn, hc⟩ := Const_eq N A ws (w := w) (v := (nd l x).v) hw (by omega) hlen
  refine ⟨t, l', b', G.more (fun env => ?_) (Nat.le_refl _), by rw [hn], fun k => by rw [start, if_neg h1]; exact hc k⟩
  rw [(val_num A env hx nx).1]
  have := pow_mono (a := (wd l x).toNat) (b := w.toNat) (by have := hwx.pos; omega)
  exact Nat.mod_eq_of_lt (by omega)

theorem Cut_num (N : Nat) (hN : 12 ≤ N ∧ N ≤ 2 ^ 62) {l : List Nd} {b : By} (A : Ar l b) (ws : Ws) {w x : Int} (hw : Wd w) (hx : Tm l x) (hle : w ≤ wd l x) (nx : (nd l x).op = 1) (hlen : l.length < 65536) :
  ∃ t l' b', Got l w (fun env => val env l x % 2 ^ w.toNat) 1 t l' b' ∧ (nd l' t).op = 1 ∧
   ∀ {R : Type} (k : Int → Int → By → Ws → List Nd → Option R), Z14 N w x l b ws k = k t 0 b' ws l' := by
 have hwx := A.kw hx
 have ew : (nd l x).w = wd l x := rfl
 have start : ∀ {R : Type} (k : Int → Int → By → Ws → List Nd → Option R), Z14 N w x l b ws k =
   (if w = wd l x then k x 0 b ws l else Z13 N w (nd l x).v l b ws k) := fun k => by
  obtain ⟨n, rfl⟩ : ∃ n, N = n + 1 := ⟨N - 1, by omega⟩
  unfold Z14
  rw [G_term_Arena_Cut_rec]
  dsimp only
  unfold Z14_T
  rw [Node_eq (n + 1) A.len, decide_eq_true hx, Bool.not_true, br_false, May_eq', decide_eq_true hw]
  simp only [Bool.not_true, Bool.not_false, br_true, br_dec]
  rw [if_neg (by rw [ew]; omega), if_pos nx]
  rfl
 have hv := val_num A (fun _ => 0) hx nx
 have hp := pow_le16 hwx
 by_cases h1 : w = wd l x
 ·have G := (Got.self A hx).more (m' := 1) (g := fun env => val env l x % 2 ^ w.toNat) (fun env => by
   have := A.lt' env hx
   rw [h1]
   exact (Nat.mod_eq_of_lt this).symm) (by omega)
  rw [← h1] at G
  exact ⟨x, l, b, G, nx, fun k => by rw [start, if_pos h1]⟩
 ·obtain ⟨t, l', b', G, hn, hc⟩ := Const_eq N A ws (w := w) (v := (nd l x).v) hw (by omega) hlen
  refine ⟨t, l', b', G.more (fun env => ?_) (Nat.le_refl _), by rw [hn], fun k => by rw [start, if_neg h1]; exact hc k⟩
  rw [(val_num A env hx nx).1]

/-- a part that was put: of the same width -/
def Part (l : List Nd) (a p : Int) : Prop := Tm l a → Tm l p ∧ wd l p = wd l a

theorem again_eq (N : Nat) (hN : 70000 ≤ N ∧ N ≤ 2 ^ 62) {l : List Nd} {b : By} (A : Ar l b) (ws : Ws) {y p q r : Int} (hy : Tm l y) (hp : Part l (nd l y).a p) (hq : Part l (nd l y).b q) (hr : Part l (nd l y).c r) (hlen : l.length + 3 ≤ 65536) :
  ∃ t l' b', Got l (wd l y) (fun env => nv env (nd l y) (wd l (nd l y).a).toNat (val env l p) (val env l q) (val env l r)) 3 t l' b' ∧
   ((nd l y).op ≠ 2 → (∀ a p', (a = (nd l y).a ∧ p' = p ∨ a = (nd l y).b ∧ p' = q ∨ a = (nd l y).c ∧ p' = r) → Tm l a → (nd l p').op = 1) → (nd l' t).op = 1) ∧
   ∀ {R : Type} (k : Int → Int → By → Ws → List Nd → Option R), Z5 N y (nd l y).op (nd l y).w (nd l y).v (nd l y).a (nd l y).b (nd l y).c p q r l b ws k = k t 0 b' ws l' := by
 have hN12 : 12 ≤ N ∧ N ≤ 2 ^ 62 := by omega
 obtain ⟨K, _⟩ := A.nodeOk hy
 have kw := A.kw hy
 have ew : (nd l y).w = wd l y := rfl
 by_cases h1 : (nd l y).op = 1
 ·refine ⟨y, l, b, (Got.self A hy).more (fun env => ?_) (by omega), fun _ _ => h1, fun k => ?_⟩
  ·rw [A.val_eq env hy]
   unfold nv
   rw [if_pos h1, if_pos h1]
  ·unfold Z5 Z5_T
   rw [br_dec, if_pos h1]
 by_cases h2 : (nd l y).op = 2
 ·refine ⟨y, l, b, (Got.self A hy).more (fun env => ?_) (by omega), fun h => absurd h2 h, fun k => ?_⟩
  ·rw [A.val_eq env hy]
   unfold nv
   rw [if_neg h1, if_neg h1, if_pos h2, if_pos h2]
  ·unfold Z5 Z5_T
   rw [br_dec, if_neg h1, br_dec, if_pos h2]
 by_cases h3 : (nd l y).op = 3
 ·obtain ⟨a1, a2⟩ := K.not h3
  obtain ⟨p1, p2⟩ := hp a1
  have hf : ∀ env, 2 ^ (wd l p).toNat - 1 - val env l p = nv env (nd l y) (wd l (nd l y).a).toNat (val env l p) (val env l q) (val env l r) := fun env => by
   unfold nv
   rw [if_neg h1, if_neg h2, if_neg (by omega), if_neg (by omega), if_neg (by omega)]
   unfold doN
   rw [if_pos h3, p2]
  by_cases hn : (nd l p).op = 1
  ·obtain ⟨t, l', b', G, hn', hc⟩ := Not_num N A ws p1 hn (by omega) (by omega)
   rw [p2.trans a2, ew] at G
   refine ⟨t, l', b', G.more (fun env => ?_) (by omega), fun _ _ => by rw [hn'], fun k => ?_⟩
   ·rw [← hf env, (val_num A env p1 hn).1, p2, a2, ew]
   ·unfold Z5 Z5_T
    rw [br_dec, if_neg h1, br_dec, if_neg h2, br_dec, if_pos h3]
    exact hc k
  ·obtain ⟨t, l', b', G, hc⟩ := Not_eq N A ws p1 (by omega) (by omega)
   rw [p2.trans a2, ew] at G
   refine ⟨t, l', b', G.more (fun env => ?_) (by omega), fun _ h => absurd (h _ _ (.inl ⟨rfl, rfl⟩) a1) hn, fun k => ?_⟩
   ·rw [← hf env, p2, a2, ew]
   ·unfold Z5 Z5_T
    rw [br_dec, if_neg h1, br_dec, if_neg h2, br_dec, if_pos h3]
    exact hc k
 by_cases h16 : (nd l y).op = 16
 ·obtain ⟨a1, a2, a3, a4, a5, a6⟩ := K.ite h16
  obtain ⟨p1, p2⟩ := hp a1
  obtain ⟨q1, q2⟩ := hq a2
  obtain ⟨r1, r2⟩ := hr a3
  have hqr : wd l q = wd l r := by rw [q2, r2, a5, a6]
  have hf : ∀ env, (if val env l p = 1 then val env l q else val env l r) = nv env (nd l y) (wd l (nd l y).a).toNat (val env l p) (val env l q) (val env l r) := fun env => by
   unfold nv
   rw [if_neg h1, if_neg h2, if_pos h16]
  by_cases hn : (nd l p).op = 1 ∧ (nd l q).op = 1 ∧ (nd l r).op = 1
  ·obtain ⟨t, G, hn', hc⟩ := Ite_num N hN12 A ws p1 q1 r1 (p2.trans a4) hqr hn.1 hn.2.1 hn.2.2
   rw [q2.trans a5, ew] at G
   refine ⟨t, l, b, G.more hf (by omega), fun _ _ => hn', fun k => ?_⟩
   unfold Z5 Z5_T
   rw [br_dec, if_neg h1, br_dec, if_neg h2, br_dec, if_neg h3, br_dec, if_pos h16]
   exact hc k
  ·obtain ⟨t, l', b', G, hc⟩ := Ite_eq N hN12 A ws p1 q1 r1 (p2.trans a4) hqr (by omega)
   rw [q2.trans a5, ew] at G
   refine ⟨t, l', b', G.more hf (by omega), fun _ h => absurd ⟨h _ _ (.inl ⟨rfl, rfl⟩) a1, h _ _ (.inr (.inl ⟨rfl, rfl⟩)) a2, h _ _ (.inr (.inr ⟨rfl, rfl⟩)) a3⟩ hn, fun k => ?_⟩
   unfold Z5 Z5_T
   rw [br_dec, if_neg h1, br_dec, if_neg h2, br_dec, if_neg h3, br_dec, if_pos h16]
   exact hc k
 by_cases h17 : (nd l y).op = 17
 ·obtain ⟨a1, a2⟩ := K.ext h17
  obtain ⟨p1, p2⟩ := hp a1
  have hf : ∀ env, val env l p = nv env (nd l y) (wd l (nd l y).a).toNat (val env l p) (val env l q) (val env l r) := fun env => by
   unfold nv
   rw [if_neg h1, if_neg h2, if_neg h16, if_pos h17]
  by_cases hn : (nd l p).op = 1
  ·obtain ⟨t, l', b', G, hn', hc⟩ := Ext_num N hN12 A ws (w := (nd l y).w) K.kw p1 (by rw [p2]; omega) hn (by omega)
   refine ⟨t, l', b', G.more hf (by omega), fun _ _ => hn', fun k => ?_⟩
   unfold Z5 Z5_T
   rw [br_dec, if_neg h1, br_dec, if_neg h2, br_dec, if_neg h3, br_dec, if_neg h16, br_dec, if_pos h17]
   exact hc k
  ·obtain ⟨t, l', b', G, hc⟩ := Ext_eq N hN12 A ws (w := (nd l y).w) K.kw p1 (by rw [p2]; omega) (by omega)
   refine ⟨t, l', b', G.more hf (by omega), fun _ h => absurd (h _ _ (.inl ⟨rfl, rfl⟩) a1) hn, fun k => ?_⟩
   unfold Z5 Z5_T
   rw [br_dec, if_neg h1, br_dec, if_neg h2, br_dec, if_neg h3, br_dec, if_neg h16, br_dec, if_pos h17]
   exact hc k
 by_cases h18 : (nd l y).op = 18
 ·obtain ⟨a1, a2⟩ := K.cut h18
  obtain ⟨p1, p2⟩ := hp a1
  have hf : ∀ env, val env l p % 2 ^ (nd l y).w.toNat = nv env (nd l y) (wd l (nd l y).a).toNat (val env l p) (val env l q) (val env l r) := fun env => by
   unfold nv
   rw [if_neg h1, if_neg h2, if_neg h16, if_neg h17, if_pos h18]
  by_cases hn : (nd l p).op = 1
  ·obtain ⟨t, l', b', G, hn', hc⟩ := Cut_num N hN12 A ws (w := (nd l y).w) K.kw p1 (by rw [p2]; omega) hn (by omega)
   refine ⟨t, l', b', G.more hf (by omega), fun _ _ => hn', fun k => ?_⟩
   unfold Z5 Z5_T
   rw [br_dec, if_neg h1, br_dec, if_neg h2, br_dec, if_neg h3, br_dec, if_neg h16, br_dec, if_neg h17, br_dec, if_pos h18]
   exact hc k
  ·obtain ⟨t, l', b', G, hc⟩ := Cut_eq N hN A ws (w := (nd l y).w) K.kw p1 (by rw [p2]; omega) (by omega)
   refine ⟨t, l', b', G.more hf (by omega), fun _ h => absurd (h _ _ (.inl ⟨rfl, rfl⟩) a1) hn, fun k => ?_⟩
   unfold Z5 Z5_T
   rw [br_dec, if_neg h1, br_dec, if_neg h2, br_dec, if_neg h3, br_dec, if_neg h16, br_dec, if_neg h17, br_dec, if_pos h18]
   exact hc k
 have ho : 4 ≤ (nd l y).op ∧ (nd l y).op ≤ 15 := by have := K.ops; omega
 obtain ⟨a1, a2, a3, a4⟩ := K.two ho.1 ho.2
 obtain ⟨p1, p2⟩ := hp a1
 obtain ⟨q1, q2⟩ := hq a2
 have hpq : wd l p = wd l q := by rw [p2, q2, a3]
 have hf : ∀ env, doN (nd l y).op (wd l p).toNat (val env l p) (val env l q) = nv env (nd l y) (wd l (nd l y).a).toNat (val env l p) (val env l q) (val env l r) := fun env => by
  unfold nv
  rw [if_neg h1, if_neg h2, if_neg h16, if_neg h17, if_neg h18, p2]
 have go : ∀ {R : Type} (k : Int → Int → By → Ws → List Nd → Option R), Z5 N y (nd l y).op (nd l y).w (nd l y).v (nd l y).a (nd l y).b (nd l y).c p q r l b ws k = Z21 N (nd l y).op p q l b ws k := fun k => by
  unfold Z5 Z5_T
  rw [br_dec, if_neg h1, br_dec, if_neg h2, br_dec, if_neg h3, br_dec, if_neg h16, br_dec, if_neg h17, br_dec, if_neg h18]
 by_cases hn : (nd l p).op = 1 ∧ (nd l q).op = 1
 ·obtain ⟨t, l', b', G, hn', hc⟩ := Two_num N hN12 A ws p1 q1 hpq ho hn.1 hn.2 (by omega)
  rw [p2, ← a4, ew] at G
  refine ⟨t, l', b', G.more (fun env => ?_) (by omega), fun _ _ => by rw [hn'], fun k => by rw [go]; exact hc k⟩
  rw [← hf env, p2]
 ·obtain ⟨t, l', b', G, hc⟩ := Two_eq N hN12 A ws p1 q1 hpq ho (by omega)
  rw [p2, ← a4, ew] at G
  refine ⟨t, l', b', G.more (fun env => ?_) (by omega), fun _ h => absurd ⟨h _ _ (.inl ⟨rfl, rfl⟩) a1, h _ _ (.inr (.inl ⟨rfl, rfl⟩)) a2⟩ hn, fun k => by rw [go]; exact hc k⟩
  rw [← hf env, p2]

end Go.Proofs.Ytmgoeikbdikmdaa
