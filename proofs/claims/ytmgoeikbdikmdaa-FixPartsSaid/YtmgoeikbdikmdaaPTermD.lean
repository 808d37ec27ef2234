/-
 terms (chapter 2): Two, and those that it calls and that call it.
-/
import Derived.Test.YtmgoeikbdikmdaaPTermC
set_option linter.unusedSimpArgs false
set_option linter.unusedVariables false
namespace Go.Proofs.Ytmgoeikbdikmdaa
open Go.Gx

def lev (w : Int) : Nat := if w = 1 then 1 else if w = 8 then 2 else 3
theorem lev_pos (w : Int) : 1 ≤ lev w ∧ lev w ≤ 3 := by unfold lev; split <;> (try split) <;> omega
theorem lev_lt {w u : Int} (hw : Wd w) (hu : Wd u) (h : w < u) : lev w < lev u := by
 unfold Wd at *
 unfold lev
 rcases hw with rfl | rfl | rfl <;> rcases hu with rfl | rfl | rfl <;> first | omega | decide

/-- what Two has to do -/
def TwoOk (N lv : Nat) (c : Z21_Ty) : Prop :=
 ∀ ⦃l : List Nd⦄ ⦃b : By⦄ (A : Ar l b) (ws : Ws) {op x y : Int}, Tm l x → Tm l y → wd l x = wd l y → (4 ≤ op ∧ op ≤ 15) → lev (wd l x) ≤ lv → l.length + lv ≤ 65536 →
  ∃ t l' b', Got l (outW op (wd l x)) (fun env => doN op (wd l x).toNat (val env l x) (val env l y)) lv t l' b' ∧
   ∀ {R : Type} (k : Int → Int → By → Ws → List Nd → Option R), c op x y l b ws k = k t 0 b' ws l'

theorem val_num {l : List Nd} {b : By} (A : Ar l b) (env : Nat → Nat) {t : Int} (h : Tm l t) (hn : (nd l t).op = 1) : val env l t = (nd l t).v.toNat ∧ 0 ≤ (nd l t).v ∧ (nd l t).v < ((2 ^ (wd l t).toNat : Nat) : Int) := by
 obtain ⟨K, _⟩ := A.nodeOk h
 exact ⟨by rw [A.val_eq env h]; unfold nv; rw [if_pos hn], K.num hn⟩

theorem equal_step (N lv : Nat) (hN : 8 ≤ N ∧ N ≤ 2 ^ 62) (c : Z21_Ty) (H : TwoOk N lv @c) {l : List Nd} {b : By} (A : Ar l b) (ws : Ws) {x v : Int} (h : Tm l x) (hv : 0 ≤ v ∧ v < ((2 ^ (wd l x).toNat : Nat) : Int))
  (hl : lev (wd l x) ≤ lv + 1) (hlen : l.length + (lv + 1) ≤ 65536) :
  ∃ ok t l' b', May? l b 1 (fun env => doN 14 (wd l x).toNat (val env l x) v.toNat) (lv + 1) t ok l' b' ∧
   ∀ {R : Type} (k : Int → Int → Bool → By → Ws → List Nd → Option R),
    Z26_T N @c (@Z13 N) (@Z37 N) (@Z24 N) (@Z20 N) (@Z19 N) x v l b ws k = k t 0 ok b' ws l' := by
 have hw := A.kw h
 obtain ⟨K, _⟩ := A.nodeOk h
 have ew : (nd l x).w = wd l x := rfl
 unfold Z26_T
 by_cases h1 : wd l x = 1
 ·have hv2 : v = 0 ∨ v = 1 := by
   rw [h1] at hv
   simp at hv
   omega
  have hx : ∀ env, val env l x < 2 := fun env => by
   have := A.lt' env h
   rw [h1] at this
   simpa using this
  by_cases hv1 : v = 1
  ·refine ⟨true, x, l, b, ⟨fun _ => ?_, fun e => (by cases e)⟩, fun k => ?_⟩
   ·have G := (Got.self A h).more (m' := lv + 1) (g := fun env => doN 14 (wd l x).toNat (val env l x) v.toNat) (fun env => ?_) (by omega)
    ·rw [h1] at G ⊢
     exact G
    ·have := hx env
     unfold doN
     simp [hv1]
     split <;> omega
   ·rw [Node_eq N A.len]
    simp only [br_dec]
    rw [if_pos (ew.trans h1), if_pos hv1]
  ·obtain ⟨t, l', b', G, hc⟩ := Not_eq N A ws h (by omega) hN
   refine ⟨true, t, l', b', ⟨fun _ => ?_, fun e => (by cases e)⟩, fun k => ?_⟩
   ·have G := G.more (m' := lv + 1) (g := fun env => doN 14 (wd l x).toNat (val env l x) v.toNat) (fun env => ?_) (by omega)
    ·rw [h1] at G ⊢
     exact G
    ·have := hx env
     have hv0 : v = 0 := by omega
     unfold doN
     simp [hv0, h1]
     split <;> omega
   ·rw [Node_eq N A.len]
    simp only [br_dec]
    rw [if_pos (ew.trans h1), if_neg hv1, if_pos (ew.trans h1), hc]
 have h1' : ¬ (nd l x).w = 1 := h1
 by_cases h2 : (nd l x).op = 17
 ·obtain ⟨a1, a2⟩ := K.ext h2
  have hwa := A.kw a1
  have hlev := lev_lt hwa hw a2
  have ex : ∀ env, val env l x = val env l (nd l x).a := fun env => by
   rw [A.val_eq env h]
   unfold nv
   rw [h2]
   rfl
  have hp := pow_le16 hwa
  have pos : 0 < 2 ^ (wd l (nd l x).a).toNat := Nat.pow_pos (by omega)
  have hpw := pow_le16 hw
  by_cases h3 : maskI (wd l (nd l x).a) < v
  ·obtain ⟨t, l', b', G, _, hc⟩ := Const_eq N A ws (w := 1) (v := 0) (.inl rfl) (by omega) (by omega)
   refine ⟨true, t, l', b', ⟨fun _ => G.more (fun env => ?_) (by omega), fun e => (by cases e)⟩, fun k => ?_⟩
   ·rw [ex]
    have := A.lt' env a1
    rw [maskI_of hwa] at h3
    unfold doN
    simp
    omega
   ·rw [Node_eq N A.len]
    simp only [br_dec]
    rw [if_neg h1', if_neg h1', if_pos h2, Width_eq N A.len, Mask_eq, if_pos h3, hc]
  ·obtain ⟨t1, l1, b1, G1, n1, hc1⟩ := Const_eq N A ws (w := wd l (nd l x).a) (v := v) hwa (by omega) (by omega)
   have a1' := a1.le G1.le
   have hw' : wd l1 (nd l x).a = wd l (nd l x).a := wd_le a1 G1.le
   have few := G1.few
   obtain ⟨t, l', b', G, hc⟩ := H G1.ar ws (op := 14) a1' G1.tm (by rw [hw', G1.wd]) (by omega) (by rw [hw']; omega) (by omega)
   refine ⟨true, t, l', b', ⟨fun _ => ?_, fun e => (by cases e)⟩, fun k => ?_⟩
   ·have G' := G.from G1.le G1.few
    refine G'.more (fun env => ?_) (by omega)
    rw [ex, G1.v env, val_le a1.2 G1.le]
    have hm : v.toNat % 2 ^ (wd l (nd l x).a).toNat = v.toNat := Nat.mod_eq_of_lt (by rw [maskI_of hwa] at h3; omega)
    rw [hm]
    unfold doN
    simp
   ·rw [Node_eq N A.len]
    simp only [br_dec, br_ndec]
    rw [if_neg h1', if_neg h1', if_pos h2, Width_eq N A.len, Mask_eq, if_neg h3, if_pos h2, Width_eq N A.len, hc1, if_pos rfl]
    exact hc _
 ·refine ⟨false, 0, l, b, ⟨fun e => (by cases e), fun _ => ⟨rfl, rfl⟩⟩, fun k => ?_⟩
  rw [Node_eq N A.len]
  simp only [br_dec]
  rw [if_neg h1', if_neg h1', if_neg h2, if_neg h2]

/-- what equal has to do -/
def EqualOk (N lv : Nat) (c : Z26_Ty) : Prop :=
 ∀ ⦃l : List Nd⦄ ⦃b : By⦄ (A : Ar l b) (ws : Ws) {x v : Int}, Tm l x → (0 ≤ v ∧ v < ((2 ^ (wd l x).toNat : Nat) : Int)) → lev (wd l x) ≤ lv → l.length + lv ≤ 65536 →
  ∃ ok t l' b', May? l b 1 (fun env => doN 14 (wd l x).toNat (val env l x) v.toNat) lv t ok l' b' ∧
   ∀ {R : Type} (k : Int → Int → Bool → By → Ws → List Nd → Option R), c x v l b ws k = k t 0 ok b' ws l'
/-- what with and less have to do -/
def WithOk (N lv : Nat) (c : Z31_Ty) : Prop :=
 ∀ ⦃l : List Nd⦄ ⦃b : By⦄ (A : Ar l b) (ws : Ws) {op x v : Int}, Tm l x → (4 ≤ op ∧ op ≤ 15) → (0 ≤ v ∧ v < ((2 ^ (wd l x).toNat : Nat) : Int)) → lev (wd l x) ≤ lv → l.length + lv ≤ 65536 →
  ∃ ok t l' b', May? l b (outW op (wd l x)) (fun env => doN op (wd l x).toNat (val env l x) v.toNat) lv t ok l' b' ∧
   ∀ {R : Type} (k : Int → Int → Bool → By → Ws → List Nd → Option R), c op x v l b ws k = k t 0 ok b' ws l'
def LessOk (N lv : Nat) (c : Z28_Ty) : Prop :=
 ∀ ⦃l : List Nd⦄ ⦃b : By⦄ (A : Ar l b) (ws : Ws) {op x y : Int}, Tm l x → Tm l y → wd l x = wd l y → (4 ≤ op ∧ op ≤ 15) → lev (wd l x) ≤ lv → l.length + lv ≤ 65536 →
  ∃ ok t l' b', May? l b (outW op (wd l x)) (fun env => doN op (wd l x).toNat (val env l x) (val env l y)) lv t ok l' b' ∧
   ∀ {R : Type} (k : Int → Int → Bool → By → Ws → List Nd → Option R), c op x y l b ws k = k t 0 ok b' ws l'

theorem Out_eq' {R : Type} (N : Nat) {op w : Int} (hw : Wd w) (ho : 4 ≤ op ∧ op ≤ 15) (k : Int → Option R) : Z39 N op w k = k (outW op w) := Out_eq N hw (by omega) k

theorem with_step (N lv : Nat) (c : Z26_Ty) (H : EqualOk N lv @c) : WithOk N lv (@Z31_T N @c (@Z37 N) (@Z13 N) (@Z39 N) (@Z24 N)) := by
 intro l b A ws op x v h ho hv hl hlen
 have hw := A.kw h
 have hlp := lev_pos (wd l x)
 have hp := pow_le16 hw
 have hm := maskI_of hw
 have h1w : 2 ≤ 2 ^ (wd l x).toNat := by
  have := pow_mono hw.pos.1
  simpa using this
 unfold Z31_T
 by_cases hA : v = 0 ∧ (op = 4 ∨ op = 9 ∨ op = 15)
 ·obtain ⟨t, l', b', G, _, hc⟩ := Const_eq N A ws (w := outW op (wd l x)) (v := 0) (Wd_out hw) (by omega) (by omega)
  refine ⟨true, t, l', b', ⟨fun _ => G.more (fun env => ?_) (by omega), fun e => (by cases e)⟩, fun k => ?_⟩
  ·rw [hA.1]
   show 0 % _ = _
   rw [Nat.zero_mod]
   exact (doN_zero hA.2 _ _).symm
  ·rw [Width_eq N A.len]
   simp only [br_dec, br_ndec]
   rcases hA with ⟨h0, h4 | h4 | h4⟩ <;> (repeat (first | rw [if_pos (by omega)] | rw [if_neg (by omega)])) <;> rw [Out_eq' N hw ho] <;> exact hc _
 by_cases hB : v = 0 ∧ (op = 5 ∨ op = 6 ∨ op = 7 ∨ op = 8 ∨ op = 12 ∨ op = 13 ∨ op = 11)
 ·have e : outW op (wd l x) = wd l x := by unfold outW; rw [if_neg (by omega)]
  refine ⟨true, x, l, b, ⟨fun _ => ?_, fun e => (by cases e)⟩, fun k => ?_⟩
  ·rw [e]
   refine (Got.self A h).more (fun env => ?_) (by omega)
   rw [hB.1]
   exact (doN_keep hB.2 hw.pos.1 (A.lt' env h)).symm
  ·rw [Width_eq N A.len]
   simp only [br_dec, br_ndec]
   rcases hB with ⟨h0, h4 | h4 | h4 | h4 | h4 | h4 | h4⟩ <;> (repeat (first | rw [if_pos (by omega)] | rw [if_neg (by omega)]))
 by_cases hC : v = maskI (wd l x) ∧ op = 4
 ·have e : outW op (wd l x) = wd l x := by unfold outW; rw [if_neg (by omega)]
  have hv0 : ¬ v = 0 := by rw [hC.1, hm]; omega
  refine ⟨true, x, l, b, ⟨fun _ => ?_, fun e => (by cases e)⟩, fun k => ?_⟩
  ·rw [e]
   refine (Got.self A h).more (fun env => ?_) (by omega)
   rw [hC.1, hm, hC.2, Int.toNat_natCast]
   exact (doN_ones (A.lt' env h)).symm
  ·rw [Width_eq N A.len]
   simp only [br_dec, br_ndec]
   obtain ⟨q1, q2⟩ := hC
   rw [if_neg hv0, if_neg hv0, Mask_eq, if_pos q1, if_pos q2]
 by_cases hD : v = 1 ∧ (op = 9 ∨ op = 10)
 ·have e : outW op (wd l x) = wd l x := by unfold outW; rw [if_neg (by omega)]
  refine ⟨true, x, l, b, ⟨fun _ => ?_, fun e => (by cases e)⟩, fun k => ?_⟩
  ·rw [e]
   refine (Got.self A h).more (fun env => ?_) (by omega)
   rw [hD.1]
   exact (doN_one hD.2 (A.lt' env h)).symm
  ·rw [Width_eq N A.len]
   simp only [br_dec, br_ndec]
   obtain ⟨q1, q2⟩ := hD
   rw [if_neg (by omega), if_neg (by omega), Mask_eq]
   by_cases hvm : v = maskI (wd l x)
   ·rw [if_pos hvm]
    rcases q2 with q2 | q2 <;> (repeat (first | rw [if_pos (by omega)] | rw [if_neg (by omega)]))
   ·rw [if_neg hvm]
    rcases q2 with q2 | q2 <;> (repeat (first | rw [if_pos (by omega)] | rw [if_neg (by omega)]))
 by_cases hE : op = 14
 ·obtain ⟨ok, t, l', b', G, hc⟩ := H A ws h hv hl hlen
  have e : outW op (wd l x) = 1 := by unfold outW; rw [if_pos (by omega)]
  refine ⟨ok, t, l', b', ?_, fun k => ?_⟩
  ·rw [e, hE]; exact G
  ·rw [Width_eq N A.len]
   simp only [br_dec, br_ndec]
   by_cases hv0 : v = 0
   ·(repeat (first | rw [if_pos (by omega)] | rw [if_neg (by omega)]))
    rw [Mask_eq]
    by_cases hvm : v = maskI (wd l x)
    ·rw [if_pos hvm]; (repeat (first | rw [if_pos (by omega)] | rw [if_neg (by omega)])); exact hc _
    ·rw [if_neg hvm]; (repeat (first | rw [if_pos (by omega)] | rw [if_neg (by omega)])); exact hc _
   ·(repeat (first | rw [if_pos (by omega)] | rw [if_neg (by omega)]))
    rw [Mask_eq]
    by_cases hvm : v = maskI (wd l x)
    ·rw [if_pos hvm]
     by_cases hv1 : v = 1
     ·(repeat (first | rw [if_pos (by omega)] | rw [if_neg (by omega)])); exact hc _
     ·(repeat (first | rw [if_pos (by omega)] | rw [if_neg (by omega)])); exact hc _
    ·rw [if_neg hvm]
     by_cases hv1 : v = 1
     ·(repeat (first | rw [if_pos (by omega)] | rw [if_neg (by omega)])); exact hc _
     ·(repeat (first | rw [if_pos (by omega)] | rw [if_neg (by omega)])); exact hc _
 ·refine ⟨false, 0, l, b, ⟨fun e => (by cases e), fun _ => ⟨rfl, rfl⟩⟩, fun k => ?_⟩
  rw [Width_eq N A.len]
  simp only [br_dec, br_ndec]
  by_cases hv0 : v = 0
  ·(repeat (first | rw [if_pos (by omega)] | rw [if_neg (by omega)]))
   rw [Mask_eq]
   by_cases hvm : v = maskI (wd l x)
   ·rw [if_pos hvm]; (repeat (first | rw [if_pos (by omega)] | rw [if_neg (by omega)]))
   ·rw [if_neg hvm]; (repeat (first | rw [if_pos (by omega)] | rw [if_neg (by omega)]))
  ·(repeat (first | rw [if_pos (by omega)] | rw [if_neg (by omega)]))
   rw [Mask_eq]
   by_cases hvm : v = maskI (wd l x)
   ·rw [if_pos hvm]
    by_cases hv1 : v = 1 <;> (repeat (first | rw [if_pos (by omega)] | rw [if_neg (by omega)]))
   ·rw [if_neg hvm]
    by_cases hv1 : v = 1 <;> (repeat (first | rw [if_pos (by omega)] | rw [if_neg (by omega)]))

theorem less_step (N lv : Nat) (c : Z31_Ty) (H : WithOk N lv @c) : LessOk N lv (@Z28_T N @c (@Z34 N) (@Z18 N) (@Z25 N)) := by
 intro l b A ws op x y hx hy hxy ho hl hlen
 have hlp := lev_pos (wd l x)
 unfold Z28_T
 by_cases h : x = y
 ·subst h
  obtain ⟨ok, t, l', b', G, hc⟩ := alike_eq N A ws hx ho (by omega)
  refine ⟨ok, t, l', b', ⟨fun e => (G.yes e).more (fun _ => rfl) (by omega), G.no⟩, fun k => ?_⟩
  rw [br_dec, if_pos rfl]
  exact hc _
 ·simp only [br_dec]
  by_cases h1 : isNum l x = true ∧ trn op = true
  ·have hn : (nd l x).op = 1 := by simpa [isNum] using h1.1
   have hv := val_num A (fun _ => 0) hx hn
   obtain ⟨ok, t, l', b', G, hc⟩ := H A ws (op := op) (v := (nd l x).v) hy ho (by rw [← hxy]; exact hv.2) (by rw [← hxy]; exact hl) hlen
   refine ⟨ok, t, l', b', ⟨fun e => ?_, G.no⟩, fun k => ?_⟩
   ·have G := G.yes e
    rw [← hxy] at G
    refine G.more (fun env => ?_) (Nat.le_refl _)
    rw [← (val_num A env hx hn).1]
    exact doN_comm (by simpa [trn] using h1.2) _ _ _
   ·rw [if_neg h, Known_eq N A ws hx, h1.1, br_true, turns_eq, h1.2, br_true]
    exact hc _
  ·have rest : ∃ ok t l' b', May? l b (outW op (wd l x)) (fun env => doN op (wd l x).toNat (val env l x) (val env l y)) lv t ok l' b' ∧
     ∀ {R : Type} (k : Int → Int → Bool → By → Ws → List Nd → Option R), Z18 N y l b ws (fun i542 b543 l544 l545 l546 => br b543
      (c op x i542 l544 l545 l546 (fun i547 i548 b549 l550 l551 l552 => k i547 i548 b549 l550 l551 l552)) (k (0 : Int) (0 : Int) false l545 l546 l544)) = k t 0 ok b' ws l' := by
    by_cases h2 : isNum l y = true
    ·have hn : (nd l y).op = 1 := by simpa [isNum] using h2
     have hv := val_num A (fun _ => 0) hy hn
     obtain ⟨ok, t, l', b', G, hc⟩ := H A ws (op := op) (v := (nd l y).v) hx ho (by rw [hxy]; exact hv.2) hl hlen
     refine ⟨ok, t, l', b', ⟨fun e => ?_, G.no⟩, fun k => ?_⟩
     ·refine (G.yes e).more (fun env => ?_) (Nat.le_refl _)
      rw [← (val_num A env hy hn).1]
     ·rw [Known_eq N A ws hy, h2, br_true]
      exact hc _
    ·refine ⟨false, 0, l, b, ⟨fun e => (by cases e), fun _ => ⟨rfl, rfl⟩⟩, fun k => ?_⟩
     rw [Known_eq N A ws hy, Bool.not_eq_true _ |>.mp h2, br_false]
   obtain ⟨ok, t, l', b', G, hc⟩ := rest
   refine ⟨ok, t, l', b', G, fun k => ?_⟩
   rw [if_neg h, Known_eq N A ws hx]
   by_cases h2 : isNum l x = true
   ·have h3 : trn op = false := by
     cases e : trn op
     ·rfl
     ·exact absurd ⟨h2, e⟩ h1
    rw [h2, br_true, turns_eq, h3, br_false]
    exact hc _
   ·rw [Bool.not_eq_true _ |>.mp h2, br_false]
    exact hc _

end Go.Proofs.Ytmgoeikbdikmdaa
