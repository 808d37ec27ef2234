/-
 terms (chapter 2): the value of a term, reckoned the quick way (shape 520c; printed by termq.py).
-/
import Derived.Test.YtmgoeikbdikmdaaPTermE
set_option linter.unusedSimpArgs false
set_option linter.unusedVariables false
namespace Go.Proofs.Ytmgoeikbdikmdaa
open Go.Gx

theorem Value_7344 (N : Nat) {l : List Nd} {b : By} (A : Ar l b) (e : List Int) (he : ∀ x ∈ e, 0 ≤ x ∧ x < 65536) {t : Int} (h : Tm l t) (vc : Nat) {R : Type} (k : Int → List Int → Option R) :
  Z33 N (nd l t).op (nd l t).w (nd l t).v (nd l t).a (nd l t).b (nd l t).c (wd l (nd l t).a) (val (envOf e e.length) l (nd l t).a : Int) (val (envOf e e.length) l (nd l t).b : Int) (vc : Int) e k =
   k (nv (envOf e e.length) (nd l t) (wd l (nd l t).a).toNat (val (envOf e e.length) l (nd l t).a) (val (envOf e e.length) l (nd l t).b) vc : Int) e := by
 obtain ⟨K, _⟩ := A.nodeOk h
 have p16 := pow_le16 K.kw
 unfold Z33 Z33_T nv
 by_cases h1 : (nd l t).op = 1
 ·have hv := K.num h1
  rw [decide_eq_true h1, br_true, if_pos h1]
  congr 1
  omega
 rw [decide_eq_false h1, br_false, if_neg h1]
 by_cases h2 : (nd l t).op = 2
 ·have hv := K.var h2
  rw [decide_eq_true h2, br_true, if_pos h2, w64 (by omega)]
  by_cases h3 : (nd l t).v.toNat < e.length
  ·have hM : (nd l t).v.toNat < e.length := by exact h3
   have hg : 0 ≤ e.getD (nd l t).v.toNat 0 ∧ e.getD (nd l t).v.toNat 0 < 65536 := by
    rw [List.getD_eq_getElem?_getD]
    by_cases hi : (nd l t).v.toNat < e.length
    ·rw [List.getElem?_eq_getElem hi]
     exact he _ (List.getElem_mem hi)
    ·rw [List.getElem?_eq_none (by omega)]
     exact ⟨by decide, by decide⟩
   have hb : band .u16 (e.getD (nd l t).v.toNat 0) (maskI (nd l t).w) = ((envOf e e.length (nd l t).v.toNat % 2 ^ (nd l t).w.toNat : Nat) : Int) := by
    unfold envOf
    rw [if_pos h3, maskI_of K.kw, ← mask_and K.kw.pos.2.1 (by omega)]
    congr 1
    omega
   rw [decide_eq_true (by omega), br_true, inB_of (by omega), br_true, decide_eq_true hM, br_true, Mask_eq]
   simp only [decide_true, br_true, beq_self_eq_true, hb]
  ·rw [decide_eq_false (by omega), br_false]
   unfold envOf
   rw [if_neg h3, Nat.zero_mod]
   rfl
 rw [decide_eq_false h2, br_false, if_neg h2]
 by_cases h3 : (nd l t).op = 16
 ·rw [decide_eq_true h3, br_true, if_pos h3, br_dec]
  by_cases h4 : val (envOf e e.length) l (nd l t).a = 1
  ·rw [if_pos (by omega), if_pos h4]
  ·rw [if_neg (by omega), if_neg h4]
 rw [decide_eq_false h3, br_false, if_neg h3]
 by_cases h4 : (nd l t).op = 17
 ·rw [decide_eq_true h4, br_true, if_pos h4]
 rw [decide_eq_false h4, br_false, if_neg h4]
 have any : ∀ u : Int, 0 ≤ u ∧ u ≤ (l.length : Int) → val (envOf e e.length) l u < 65536 := fun u hu => by
  by_cases h0 : 1 ≤ u
  ·have := A.lt' (envOf e e.length) ⟨h0, hu.2⟩
   have := pow_le16 (A.kw ⟨h0, hu.2⟩)
   omega
  ·unfold val look
   rw [if_neg h0]
   decide
 by_cases h5 : (nd l t).op = 18
 ·rw [decide_eq_true h5, br_true, if_pos h5, Mask_eq, maskI_of K.kw, mask_and K.kw.pos.2.1 (any _ K.pa)]
 rw [decide_eq_false h5, br_false, if_neg h5]
 have ho := K.ops
 by_cases h6 : (nd l t).op = 3
 ·obtain ⟨a1, a2⟩ := K.not h6
  have hw := A.kw a1
  obtain ⟨n, hn, hn'⟩ := hw.nat
  have D := Do_eq N (op := (nd l t).op) (w := n) (a := val (envOf e e.length) l (nd l t).a) (b := val (envOf e e.length) l (nd l t).b) hn' (any _ K.pa) (any _ K.pb) (by omega) (fun i719 i720 => k i719 e)
  have hl := A.lt' (envOf e e.length) a1
  rw [hn, Int.toNat_natCast] at hl
  rw [hn]
  refine D.trans ?_
  rw [Nat.mod_eq_of_lt hl, h6, Int.toNat_natCast]
  rfl
 ·obtain ⟨a1, a2, a3, a4⟩ := K.two (by omega) (by omega)
  have hw := A.kw a1
  obtain ⟨n, hn, hn'⟩ := hw.nat
  have D := Do_eq N (op := (nd l t).op) (w := n) (a := val (envOf e e.length) l (nd l t).a) (b := val (envOf e e.length) l (nd l t).b) hn' (any _ K.pa) (any _ K.pb) (by omega) (fun i719 i720 => k i719 e)
  have hl := A.lt' (envOf e e.length) a1
  have hr := A.lt' (envOf e e.length) a2
  rw [← a3] at hr
  rw [hn, Int.toNat_natCast] at hl hr
  rw [hn]
  refine D.trans ?_
  rw [Nat.mod_eq_of_lt hl, Nat.mod_eq_of_lt hr, Int.toNat_natCast]

theorem quick_520c (N : Nat) {l : List Nd} {b : By} (A : Ar l b) (ws : Ws) (e : List Int) (he : ∀ x ∈ e, 0 ≤ x ∧ x < 65536) : ∀ (n : Nat) (s x : Int), (0 ≤ x ∧ x ≤ (l.length : Int)) → (0 ≤ s ∧ s < 1000) → s + 2 ≤ (n : Int) →
  ∃ (v : Nat) (ok : Bool) (s' : Int), -1 ≤ s' ∧ s' ≤ s ∧ (ok = true → v = val (envOf e e.length) l x ∧ 0 ≤ s') ∧
   ∀ {R : Type} (k : Int → Bool → List Nd → By → Ws → List Int → Int → Option R), G_term_Arena_quick_Rec.Z29 (G_term_Arena_quick_rec N n) x l b ws e s k = k (v : Int) ok l b ws e s'
 | 0, s, x, hx, hs, hn => by omega
 | n + 1, s, x, hx, hs, hn => by
  by_cases h0 : x = 0
  ·refine ⟨0, true, s, by omega, by omega, fun _ => ⟨?_, hs.1⟩, fun k => ?_⟩
   ·subst h0
    unfold val look
    rw [if_neg (by omega)]
   ·rw [G_term_Arena_quick_rec]
    dsimp only
    unfold Z29_T
    rw [decide_eq_true h0, br_true]
    rfl
  have ht : Tm l x := ⟨by omega, hx.2⟩
  have hlen := A.len
  by_cases h1 : s - 1 < 0
  ·refine ⟨0, false, s - 1, by omega, by omega, fun e => (by cases e), fun k => ?_⟩
   rw [G_term_Arena_quick_rec]
   dsimp only
   unfold Z29_T
   rw [decide_eq_false h0, br_false, w64 (by omega), decide_eq_true h1, br_true]
   rfl
  obtain ⟨K, _⟩ := A.nodeOk ht
  have hg : l.getD (x - 1).toNat ((0 : Int) , ((0 : Int) , ((0 : Int) , ((0 : Int) , ((0 : Int) , (0 : Int)))))) = nd l x := by
   unfold nd
   rw [if_pos ht]
   rfl
  have start : ∀ {R : Type} (k : Int → Bool → List Nd → By → Ws → List Int → Int → Option R), G_term_Arena_quick_Rec.Z29 (G_term_Arena_quick_rec N (n + 1)) x l b ws e s k =
    G_term_Arena_quick_Rec.Z29 (G_term_Arena_quick_rec N n) (nd l x).a l b ws e (s - 1) (fun i692 b693 l694 l695 l696 l697 i698 => br (!b693)
     (k (0 : Int) false l694 l695 l696 l697 i698)
     (G_term_Arena_quick_Rec.Z29 (G_term_Arena_quick_rec N n) (nd l x).b l694 l695 l696 l697 i698 (fun i699 b700 l701 l702 l703 l704 i705 => br (!b700)
      (k (0 : Int) false l701 l702 l703 l704 i705)
      (G_term_Arena_quick_Rec.Z29 (G_term_Arena_quick_rec N n) (nd l x).c l701 l702 l703 l704 i705 (fun i706 b707 l708 l709 l710 l711 i712 =>
       Z24 N (nd l x).a l708 l709 l710 (fun i713 l714 l715 l716 =>
        Z33 N (nd l x).op (nd l x).w (nd l x).v (nd l x).a (nd l x).b (nd l x).c i713 i692 i699 i706 l711 (fun i721 l722 => k i721 b707 l714 l715 l716 l722 i712))))))) := fun k => by
   rw [G_term_Arena_quick_rec]
   dsimp only
   unfold Z29_T
   rw [decide_eq_false h0, br_false, w64 (x := s - 1) (by omega), decide_eq_false h1, br_false, w64 (x := x - 1) (by omega), inB_of (by omega), br_true, decide_eq_true (by omega), br_true]
   simp only [hg, decide_true, br_true, beq_self_eq_true]
  obtain ⟨v1, o1, s1, p1, p2, p3, q1⟩ := quick_520c N A ws e he n (s - 1) (nd l x).a K.pa (by omega) (by omega)
  cases o1 with
  | false => exact ⟨0, false, s1, p1, by omega, fun e => (by cases e), fun k => by rw [start, q1]; rfl⟩
  | true =>
  obtain ⟨e1, g1⟩ := p3 rfl
  obtain ⟨v2, o2, s2, r1, r2, r3, q2⟩ := quick_520c N A ws e he n s1 (nd l x).b K.pb (by omega) (by omega)
  cases o2 with
  | false => exact ⟨0, false, s2, r1, by omega, fun e => (by cases e), fun k => by rw [start, q1, Bool.not_true, br_false, q2]; rfl⟩
  | true =>
  obtain ⟨e2, g2⟩ := r3 rfl
  obtain ⟨v3, o3, s3, t1, t2, t3, q3⟩ := quick_520c N A ws e he n s2 (nd l x).c K.pc (by omega) (by omega)
  refine ⟨nv (envOf e e.length) (nd l x) (wd l (nd l x).a).toNat (val (envOf e e.length) l (nd l x).a) (val (envOf e e.length) l (nd l x).b) v3, o3, s3, t1, by omega, fun h => ⟨?_, (t3 h).2⟩, fun k => ?_⟩
  ·rw [(t3 h).1, ← A.val_eq (envOf e e.length) ht]
  ·rw [start, q1, Bool.not_true, br_false, q2, Bool.not_true, br_false, q3, Width_eq N A.len, e1, e2]
   exact Value_7344 N A e he ht v3 _

end Go.Proofs.Ytmgoeikbdikmdaa
