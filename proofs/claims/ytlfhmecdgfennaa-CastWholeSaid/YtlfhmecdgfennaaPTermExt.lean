/-
  a term made wider
-/
import Derived.Test.YtlfhmecdgfennaaPTermE
set_option linter.unusedVariables false
set_option linter.unusedSimpArgs false
namespace Go.Proofs.Ytlfhmecdgfennaa
open Go.Gx

theorem ext_rec (N : Nat) (hN : 12 ≤ N ∧ N ≤ 2 ^ 62) {l : List Nd} {b : By} (A : Ar l b) (ws : Ws) {w : Int} (hw : Wd w) (hlen : l.length < 65536) : ∀ (n : Nat) {x : Int} (hx : Tm l x), wd l x ≤ w → lev (wd l x) < n →
    ∃ t l' b', Got l w (fun env => val env l x) 1 t l' b' ∧
      ∀ {R : Type} (k : Int → Int → By → Ws → List Nd → Option R), G_term_Arena_Ext_Rec.Z59 (G_term_Arena_Ext_rec N n) w x l b ws k = k t 0 b' ws l'
  | 0, x, hx, _, h => by omega
  | n + 1, x, hx, hle, h => by
    obtain ⟨K, _⟩ := A.nodeOk hx
    have ew : (nd l x).w = wd l x := rfl
    have hwx := A.kw hx
    have start : ∀ {R : Type} (k : Int → Int → By → Ws → List Nd → Option R), G_term_Arena_Ext_Rec.Z59 (G_term_Arena_Ext_rec N (n + 1)) w x l b ws k =
        (if w = wd l x then k x 0 b ws l else if (nd l x).op = 1 then Z57 N w (nd l x).v l b ws k
         else if (nd l x).op = 17 then G_term_Arena_Ext_Rec.Z59 (G_term_Arena_Ext_rec N n) w (nd l x).a l b ws k else Z69 N 17 w 0 x 0 0 l b ws k) := fun k => by
      rw [G_term_Arena_Ext_rec]
      dsimp only
      unfold Z59_T
      rw [Node_eq N A.len, decide_eq_true hx, Bool.not_true, br_false, May_eq', decide_eq_true hw]
      simp only [Bool.not_true, Bool.not_false, br_true, br_dec]
      rw [if_neg (by rw [ew]; omega)]
      rfl
    by_cases h1 : w = wd l x
    · have G := (Got.self A hx).more (m' := 1) (fun _ => rfl) (by omega)
      rw [← h1] at G
      exact ⟨x, l, b, G, fun k => by rw [start, if_pos h1]⟩
    by_cases h2 : (nd l x).op = 1
    · have hv := val_num A (fun _ => 0) hx h2
      have hp := pow_le16 hwx
      obtain ⟨t, l', b', G, _, hc⟩ := Const_eq N A ws (w := w) (v := (nd l x).v) hw (by omega) hlen
      refine ⟨t, l', b', G.more (fun env => ?_) (Nat.le_refl _), fun k => by rw [start, if_neg h1, if_pos h2]; exact hc k⟩
      rw [(val_num A env hx h2).1]
      have := pow_mono (a := (wd l x).toNat) (b := w.toNat) (by have := hwx.pos; omega)
      exact Nat.mod_eq_of_lt (by omega)
    by_cases h3 : (nd l x).op = 17
    · obtain ⟨a1, a2⟩ := K.ext h3
      have hl := lev_lt (A.kw a1) hwx a2
      obtain ⟨t, l', b', G, hc⟩ := ext_rec N hN A ws hw hlen n a1 (by omega) (by omega)
      refine ⟨t, l', b', G.more (fun env => ?_) (Nat.le_refl _), fun k => by rw [start, if_neg h1, if_neg h2, if_pos h3]; exact hc k⟩
      rw [A.val_eq env hx]
      unfold nv
      rw [h3]
      rfl
    · have K' : NodeOk l (17, w, 0, x, 0, 0) := .mk' hw (by decide) hx.part (noPart l) (noPart l) (fun e => (by cases e)) (fun e => (by cases e)) (fun e => (by cases e)) (fun _ e => absurd e (by decide)) (fun e => (by cases e)) (fun _ => ⟨hx, by omega⟩) (fun e => (by cases e))
      obtain ⟨t, l', b', G, _, hc⟩ := keep_eq N A ws _ K' hlen
      refine ⟨t, l', b', G.more (fun env => ?_) (Nat.le_refl _), fun k => by rw [start, if_neg h1, if_neg h2, if_neg h3]; exact hc k⟩
      simp [nv]
theorem Ext_eq (N : Nat) (hN : 12 ≤ N ∧ N ≤ 2 ^ 62) {l : List Nd} {b : By} (A : Ar l b) (ws : Ws) {w x : Int} (hw : Wd w) (hx : Tm l x) (hle : wd l x ≤ w) (hlen : l.length < 65536) :
    ∃ t l' b', Got l w (fun env => val env l x) 1 t l' b' ∧
      ∀ {R : Type} (k : Int → Int → By → Ws → List Nd → Option R), Z59 N w x l b ws k = k t 0 b' ws l' :=
  ext_rec N hN A ws hw hlen N hx hle (by have := lev_pos (wd l x); omega)

end Go.Proofs.Ytlfhmecdgfennaa
