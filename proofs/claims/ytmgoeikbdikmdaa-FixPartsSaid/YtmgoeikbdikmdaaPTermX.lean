/-
 terms (chapter 2): Ite, Ext, Cut.
-/
import Derived.Test.YtmgoeikbdikmdaaPTermE
set_option linter.unusedSimpArgs false
set_option linter.unusedVariables false
namespace Go.Proofs.Ytmgoeikbdikmdaa
open Go.Gx

theorem there3 {R : Type} (N : Nat) {l : List Nd} (hl : l.length ≤ 65536) (b : By) (ws : Ws) (x y z : Int) (hN : 8 ≤ N ∧ N ≤ 2 ^ 62) (k : Bool → List Nd → By → Ws → List Int → Option R) :
  Z30 N l b ws (x :: (y :: (z :: ([] : List ((Sh.int IntKind.i64).T))))) k = k (decide (Tm l x ∧ Tm l y ∧ Tm l z)) l b ws [x, y, z] := by
 refine (there_eq N hl b ws [x, y, z] (by simp; omega) hN.2 k).trans ?_
 simp

theorem Ite_eq (N : Nat) (hN : 12 ≤ N ∧ N ≤ 2 ^ 62) {l : List Nd} {b : By} (A : Ar l b) (ws : Ws) {c x y : Int} (hc : Tm l c) (hx : Tm l x) (hy : Tm l y) (hc1 : wd l c = 1) (hxy : wd l x = wd l y) (hlen : l.length < 65536) :
  ∃ t l' b', Got l (wd l x) (fun env => if val env l c = 1 then val env l x else val env l y) 1 t l' b' ∧
   ∀ {R : Type} (k : Int → Int → By → Ws → List Nd → Option R), Z17 N c x y l b ws k = k t 0 b' ws l' := by
 have hw := A.kw hx
 have start : ∀ {R : Type} (k : Int → Int → By → Ws → List Nd → Option R), Z17 N c x y l b ws k = br (!(decide (x = y)))
     (br (isNum l c)
      (br (decide ((nd l c).v = (1 : Int)))
      (k x (0 : Int) b ws l)
      (k y (0 : Int) b ws l))
      (Z27 N (16 : Int) (wd l x) (0 : Int) c x y l b ws k))
     (k x (0 : Int) b ws l) := fun k => by
  unfold Z17 Z17_T
  rw [there3 N A.len b ws c x y (by omega), decide_eq_true ⟨hc, hx, hy⟩, Bool.not_true, br_false, Width_eq N A.len, hc1]
  simp only [decide_true, Bool.not_true, Bool.not_false, br_true]
  rw [Width_eq N A.len, Width_eq N A.len, hxy]
  simp only [decide_true, Bool.not_true, br_false]
  rw [Known_eq N A ws hc]
  cases isNum l c
  ·simp only [br_false]
   rw [Width_eq N A.len, hxy]
  ·simp only [br_true]
 by_cases e : x = y
 ·subst e
  refine ⟨x, l, b, (Got.self A hx).more (fun env => ?_) (by omega), fun k => ?_⟩
  ·split <;> rfl
  ·rw [start, br_ndec, if_pos rfl]
 by_cases hn : isNum l c = true
 ·have nc : (nd l c).op = 1 := by simpa [isNum] using hn
  by_cases h1 : (nd l c).v = 1
  ·refine ⟨x, l, b, (Got.self A hx).more (fun env => ?_) (by omega), fun k => ?_⟩
   ·rw [(val_num A env hc nc).1, h1]
    rfl
   ·rw [start, br_ndec, if_neg e, hn, br_true, decide_eq_true h1, br_true]
  ·have G := (Got.self A hy).more (m' := 1) (g := fun env => if val env l c = 1 then val env l x else val env l y) (fun env => ?_) (by omega)
   ·rw [← hxy] at G
    refine ⟨y, l, b, G, fun k => ?_⟩
    rw [start, br_ndec, if_neg e, hn, br_true, decide_eq_false h1, br_false]
   ·have := (val_num A env hc nc)
    rw [if_neg (by omega)]
 ·have K : NodeOk l (16, wd l x, 0, c, x, y) := .mk' hw (by decide) hc.part hx.part hy.part (fun e => (by cases e)) (fun e => (by cases e)) (fun e => (by cases e)) (fun _ e => absurd e (by decide))
   (fun _ => ⟨hc, hx, hy, hc1, rfl, hxy.symm⟩) (fun e => (by cases e)) (fun e => (by cases e))
  obtain ⟨t, l', b', G, _, hk⟩ := keep_eq N A ws _ K hlen
  refine ⟨t, l', b', G.more (fun env => ?_) (Nat.le_refl _), fun k => ?_⟩
  ·simp [nv]
  ·rw [start, br_ndec, if_neg e, Bool.not_eq_true _ |>.mp hn, br_false]
   exact hk k

theorem ext_rec (N : Nat) (hN : 12 ≤ N ∧ N ≤ 2 ^ 62) {l : List Nd} {b : By} (A : Ar l b) (ws : Ws) {w : Int} (hw : Wd w) (hlen : l.length < 65536) : ∀ (n : Nat) {x : Int} (hx : Tm l x), wd l x ≤ w → lev (wd l x) < n →
  ∃ t l' b', Got l w (fun env => val env l x) 1 t l' b' ∧
   ∀ {R : Type} (k : Int → Int → By → Ws → List Nd → Option R), G_term_Arena_Ext_Rec.Z16 (G_term_Arena_Ext_rec N n) w x l b ws k = k t 0 b' ws l'
 | 0, x, hx, _, h => by omega
 | n + 1, x, hx, hle, h => by
  obtain ⟨K, _⟩ := A.nodeOk hx
  have ew : (nd l x).w = wd l x := rfl
  have hwx := A.kw hx
  have start : ∀ {R : Type} (k : Int → Int → By → Ws → List Nd → Option R), G_term_Arena_Ext_Rec.Z16 (G_term_Arena_Ext_rec N (n + 1)) w x l b ws k =
    (if w = wd l x then k x 0 b ws l else if (nd l x).op = 1 then Z13 N w (nd l x).v l b ws k
     else if (nd l x).op = 17 then G_term_Arena_Ext_Rec.Z16 (G_term_Arena_Ext_rec N n) w (nd l x).a l b ws k else Z27 N 17 w 0 x 0 0 l b ws k) := fun k => by
   rw [G_term_Arena_Ext_rec]
   dsimp only
   unfold Z16_T
   rw [Node_eq N A.len, decide_eq_true hx, Bool.not_true, br_false, May_eq', decide_eq_true hw]
   simp only [Bool.not_true, Bool.not_false, br_true, br_dec]
   rw [if_neg (by rw [ew]; omega)]
   rfl
  by_cases h1 : w = wd l x
  ·have G := (Got.self A hx).more (m' := 1) (fun _ => rfl) (by omega)
   rw [← h1] at G
   exact ⟨x, l, b, G, fun k => by rw [start, if_pos h1]⟩
  by_cases h2 : (nd l x).op = 1
  ·have hv := val_num A (fun _ => 0) hx h2
   have hp := pow_le16 hwx
   obtain ⟨t, l', b', G, _, hc⟩ := Const_eq N A ws (w := w) (v := (nd l x).v) hw (by omega) hlen
   refine ⟨t, l', b', G.more (fun env => ?_) (Nat.le_refl _), fun k => by rw [start, if_neg h1, if_pos h2]; exact hc k⟩
   rw [(val_num A env hx h2).1]
   have := pow_mono (a := (wd l x).toNat) (b := w.toNat) (by have := hwx.pos; omega)
   exact Nat.mod_eq_of_lt (by omega)
  by_cases h3 : (nd l x).op = 17
  ·obtain ⟨a1, a2⟩ := K.ext h3
   have hl := lev_lt (A.kw a1) hwx a2
   obtain ⟨t, l', b', G, hc⟩ := ext_rec N hN A ws hw hlen n a1 (by omega) (by omega)
   refine ⟨t, l', b', G.more (fun env => ?_) (Nat.le_refl _), fun k => by rw [start, if_neg h1, if_neg h2, if_pos h3]; exact hc k⟩
   rw [A.val_eq env hx]
   unfold nv
   rw [h3]
   rfl
  ·have K' : NodeOk l (17, w, 0, x, 0, 0) := .mk' hw (by decide) hx.part (noPart l) (noPart l) (fun e => (by cases e)) (fun e => (by cases e)) (fun e => (by cases e)) (fun _ e => absurd e (by decide)) (fun e => (by cases e)) (fun _ => ⟨hx, by omega⟩) (fun e => (by cases e))
   obtain ⟨t, l', b', G, _, hc⟩ := keep_eq N A ws _ K' hlen
   refine ⟨t, l', b', G.more (fun env => ?_) (Nat.le_refl _), fun k => by rw [start, if_neg h1, if_neg h2, if_neg h3]; exact hc k⟩
   simp [nv]

theorem Ext_eq (N : Nat) (hN : 12 ≤ N ∧ N ≤ 2 ^ 62) {l : List Nd} {b : By} (A : Ar l b) (ws : Ws) {w x : Int} (hw : Wd w) (hx : Tm l x) (hle : wd l x ≤ w) (hlen : l.length < 65536) :
  ∃ t l' b', Got l w (fun env => val env l x) 1 t l' b' ∧
   ∀ {R : Type} (k : Int → Int → By → Ws → List Nd → Option R), Z16 N w x l b ws k = k t 0 b' ws l' :=
 ext_rec N hN A ws hw hlen N hx hle (by have := lev_pos (wd l x); omega)

theorem cut_rec (N : Nat) (hN : 12 ≤ N ∧ N ≤ 2 ^ 62) {l : List Nd} {b : By} (A : Ar l b) (ws : Ws) {w : Int} (hw : Wd w) (hlen : l.length < 65536) : ∀ (n m : Nat) {x : Int} (hx : Tm l x), w ≤ wd l x → x ≤ (m : Int) → m < n →
  ∃ t l' b', Got l w (fun env => val env l x % 2 ^ w.toNat) 1 t l' b' ∧
   ∀ {R : Type} (k : Int → Int → By → Ws → List Nd → Option R), G_term_Arena_Cut_Rec.Z14 (G_term_Arena_Cut_rec N n) w x l b ws k = k t 0 b' ws l'
 | 0, m, x, hx, _, _, h => by omega
 | n + 1, m, x, hx, hle, hm, h => by
  obtain ⟨K, ka, _⟩ := A.nodeOk hx
  have hx1 := hx.1
  have ew : (nd l x).w = wd l x := rfl
  have hwx := A.kw hx
  have start : ∀ {R : Type} (k : Int → Int → By → Ws → List Nd → Option R), G_term_Arena_Cut_Rec.Z14 (G_term_Arena_Cut_rec N (n + 1)) w x l b ws k =
    (if w = wd l x then k x 0 b ws l else if (nd l x).op = 1 then Z13 N w (nd l x).v l b ws k
     else if (nd l x).op = 18 then G_term_Arena_Cut_Rec.Z14 (G_term_Arena_Cut_rec N n) w (nd l x).a l b ws k
     else if (nd l x).op = 17 then (if w ≤ wd l (nd l x).a then G_term_Arena_Cut_Rec.Z14 (G_term_Arena_Cut_rec N n) w (nd l x).a l b ws k else Z16 N w (nd l x).a l b ws k)
     else Z27 N 18 w 0 x 0 0 l b ws k) := fun k => by
   rw [G_term_Arena_Cut_rec]
   dsimp only
   unfold Z14_T
   rw [Node_eq N A.len, decide_eq_true hx, Bool.not_true, br_false, May_eq', decide_eq_true hw]
   simp only [Bool.not_true, Bool.not_false, br_true, br_dec]
   rw [if_neg (by rw [ew]; omega)]
   by_cases h1 : w = wd l x
   ·rw [if_pos h1, if_pos (show w = (nd l x).w from h1)]
   have h1' : ¬ w = (nd l x).w := h1
   rw [if_neg h1, if_neg h1']
   by_cases h2 : (nd l x).op = 1
   ·rw [if_pos h2, if_pos h2]
   rw [if_neg h2, if_neg h2]
   by_cases h3 : (nd l x).op = 18
   ·rw [if_pos h3, if_pos h3]
   rw [if_neg h3, if_neg h3]
   by_cases h4 : (nd l x).op = 17
   ·rw [if_pos h4, if_pos h4, Width_eq N A.len]
    rw [if_pos h4]
   ·rw [if_neg h4, if_neg h4, if_neg h4]
  have mm : ∀ {a c : Nat} (v : Nat), c ≤ a → v % 2 ^ a % 2 ^ c = v % 2 ^ c := fun v h => Nat.mod_mod_of_dvd v (Nat.pow_dvd_pow 2 h)
  by_cases h1 : w = wd l x
  ·have G := (Got.self A hx).more (m' := 1) (g := fun env => val env l x % 2 ^ w.toNat) (fun env => (Nat.mod_eq_of_lt (by rw [h1]; exact A.lt' env hx)).symm) (by omega)
   rw [← h1] at G
   exact ⟨x, l, b, G, fun k => by rw [start, if_pos h1]⟩
  by_cases h2 : (nd l x).op = 1
  ·have hv := val_num A (fun _ => 0) hx h2
   have hp := pow_le16 hwx
   obtain ⟨t, l', b', G, _, hc⟩ := Const_eq N A ws (w := w) (v := (nd l x).v) hw (by omega) hlen
   refine ⟨t, l', b', G.more (fun env => ?_) (Nat.le_refl _), fun k => by rw [start, if_neg h1, if_pos h2]; exact hc k⟩
   rw [(val_num A env hx h2).1]
  by_cases h3 : (nd l x).op = 18
  ·obtain ⟨a1, a2⟩ := K.cut h3
   have := a1.1
   have ka' : (nd l x).a ≤ ((m - 1 : Nat) : Int) := by omega
   obtain ⟨t, l', b', G, hc⟩ := cut_rec N hN A ws hw hlen n (m - 1) a1 (by omega) ka' (by omega)
   refine ⟨t, l', b', G.more (fun env => ?_) (Nat.le_refl _), fun k => by rw [start, if_neg h1, if_neg h2, if_pos h3]; exact hc k⟩
   rw [A.val_eq env hx]
   unfold nv
   rw [h3]
   show _ = (val env l (nd l x).a % 2 ^ (nd l x).w.toNat) % 2 ^ w.toNat
   rw [mm _ (by rw [ew]; omega)]
  by_cases h4 : (nd l x).op = 17
  ·obtain ⟨a1, a2⟩ := K.ext h4
   have := a1.1
   have ex : ∀ env, val env l x = val env l (nd l x).a := fun env => by
    rw [A.val_eq env hx]
    unfold nv
    rw [h4]
    rfl
   by_cases h5 : w ≤ wd l (nd l x).a
   ·have ka' : (nd l x).a ≤ ((m - 1 : Nat) : Int) := by omega
    obtain ⟨t, l', b', G, hc⟩ := cut_rec N hN A ws hw hlen n (m - 1) a1 h5 ka' (by omega)
    exact ⟨t, l', b', G.more (fun env => by rw [ex]) (Nat.le_refl _), fun k => by rw [start, if_neg h1, if_neg h2, if_neg h3, if_pos h4, if_pos h5]; exact hc k⟩
   ·obtain ⟨t, l', b', G, hc⟩ := Ext_eq N hN A ws hw a1 (by omega) hlen
    refine ⟨t, l', b', G.more (fun env => ?_) (Nat.le_refl _), fun k => by rw [start, if_neg h1, if_neg h2, if_neg h3, if_pos h4, if_neg h5]; exact hc k⟩
    have := A.lt' env a1
    have := pow_mono (a := (wd l (nd l x).a).toNat) (b := w.toNat) (by have := (A.kw a1).pos; omega)
    rw [ex, Nat.mod_eq_of_lt (by omega)]
  ·have K' : NodeOk l (18, w, 0, x, 0, 0) := .mk' hw (by decide) hx.part (noPart l) (noPart l) (fun e => (by cases e)) (fun e => (by cases e)) (fun e => (by cases e)) (fun _ e => absurd e (by decide)) (fun e => (by cases e)) (fun e => (by cases e)) (fun _ => ⟨hx, by omega⟩)
   obtain ⟨t, l', b', G, _, hc⟩ := keep_eq N A ws _ K' hlen
   refine ⟨t, l', b', G.more (fun env => ?_) (Nat.le_refl _), fun k => by rw [start, if_neg h1, if_neg h2, if_neg h3, if_neg h4]; exact hc k⟩
   simp [nv]

theorem Cut_eq (N : Nat) (hN : 70000 ≤ N ∧ N ≤ 2 ^ 62) {l : List Nd} {b : By} (A : Ar l b) (ws : Ws) {w x : Int} (hw : Wd w) (hx : Tm l x) (hle : w ≤ wd l x) (hlen : l.length < 65536) :
  ∃ t l' b', Got l w (fun env => val env l x % 2 ^ w.toNat) 1 t l' b' ∧
   ∀ {R : Type} (k : Int → Int → By → Ws → List Nd → Option R), Z14 N w x l b ws k = k t 0 b' ws l' :=
 cut_rec N (by omega) A ws hw hlen N 65536 hx hle (by have := hx.2; omega) (by omega)

end Go.Proofs.Ytmgoeikbdikmdaa
