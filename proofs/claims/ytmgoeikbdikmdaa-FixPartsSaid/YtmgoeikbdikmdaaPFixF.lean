/-
 terms (chapter 2): a term that was made once is there for good, and what it is made of.
-/
import Derived.Test.YtmgoeikbdikmdaaPFixE
set_option linter.unusedSimpArgs false
set_option linter.unusedVariables false
namespace Go.Proofs.Ytmgoeikbdikmdaa
open Go.Gx

/-- no term, a number, or one of C -/
def InC (l : List Nd) (C : List Int) (t : Int) : Prop := t = 0 ∨ (Tm l t ∧ (nd l t).op = 1) ∨ t ∈ C
/-- terms that are made of each other, and of numbers -/
def Clo (l : List Nd) (C : List Int) : Prop := ∀ t ∈ C, Tm l t ∧ (nd l t).op ≠ 1 ∧ InC l C (nd l t).a ∧ InC l C (nd l t).b ∧ InC l C (nd l t).c

theorem InC.le {l l' : List Nd} {C : List Int} {t : Int} (h : InC l C t) (k : Le l l') : InC l' C t := by
 rcases h with h | ⟨h1, h2⟩ | h
 ·exact .inl h
 ·exact .inr (.inl ⟨h1.le k, by rw [nd_le h1 k]; exact h2⟩)
 ·exact .inr (.inr h)
theorem InC.more {l : List Nd} {C : List Int} {t : Int} (h : InC l C t) (D : List Int) : InC l (C ++ D) t := by
 rcases h with h | h | h
 ·exact .inl h
 ·exact .inr (.inl h)
 ·exact .inr (.inr (List.mem_append_left _ h))
theorem Clo.le {l l' : List Nd} {C : List Int} (h : Clo l C) (k : Le l l') : Clo l' C := fun t ht => by
 obtain ⟨h1, h2, h3, h4, h5⟩ := h t ht
 refine ⟨h1.le k, ?_, ?_, ?_, ?_⟩ <;> rw [nd_le h1 k]
 ·exact h2
 ·exact h3.le k
 ·exact h4.le k
 ·exact h5.le k
theorem InC.low {l : List Nd} {C : List Int} {t : Int} (h : InC l C t) (k : Clo l C) : t = 0 ∨ Tm l t := by
 rcases h with h | h | h
 ·exact .inl h
 ·exact .inr h.1
 ·exact .inr (k t h).1
theorem nd_zero (l : List Nd) : nd l 0 = nd0 := by
 unfold nd
 rw [if_neg (fun h => absurd h.1 (by omega))]
theorem InC.nd {l l' : List Nd} {C : List Int} {t : Int} (h : InC l C t) (k : Clo l C) (e : Le l l') : Go.Proofs.Ytmgoeikbdikmdaa.nd l' t = Go.Proofs.Ytmgoeikbdikmdaa.nd l t := by
 rcases h.low k with rfl | h
 ·rw [nd_zero, nd_zero]
 ·exact nd_le h e
theorem InC.wd {l l' : List Nd} {C : List Int} {t : Int} (h : InC l C t) (k : Clo l C) (e : Le l l') : Go.Proofs.Ytmgoeikbdikmdaa.wd l' t = Go.Proofs.Ytmgoeikbdikmdaa.wd l t := by
 unfold Go.Proofs.Ytmgoeikbdikmdaa.wd
 rw [h.nd k e]
theorem InC.num {l l' : List Nd} {C : List Int} {t : Int} (h : InC l C t) (k : Clo l C) (e : Le l l') : isNum l' t = isNum l t := by
 unfold isNum
 rw [h.nd k e]
/-- the parts of one that is no number -/
theorem InC.parts {l : List Nd} {C : List Int} {t : Int} (h : InC l C t) (k : Clo l C) (n1 : (Go.Proofs.Ytmgoeikbdikmdaa.nd l t).op ≠ 1) : InC l C (Go.Proofs.Ytmgoeikbdikmdaa.nd l t).a ∧ InC l C (Go.Proofs.Ytmgoeikbdikmdaa.nd l t).b ∧ InC l C (Go.Proofs.Ytmgoeikbdikmdaa.nd l t).c := by
 rcases h with rfl | h | h
 ·rw [nd_zero]
  exact ⟨.inl rfl, .inl rfl, .inl rfl⟩
 ·exact absurd h.2 n1
 ·exact (k t h).2.2

theorem keepF_nd (n : Nd) (l : List Nd) : Le l (keepF n l).2 ∧ Tm (keepF n l).2 (keepF n l).1 ∧ nd (keepF n l).2 (keepF n l).1 = n := by
 unfold keepF
 cases hi : nIx n l with
 | some j =>
  obtain ⟨j1, j2⟩ := nIx_some hi
  have tj : Tm l ((j + 1 : Nat) : Int) := ⟨by omega, by omega⟩
  refine ⟨Le.refl l, tj, ?_⟩
  show nd l ((j + 1 : Nat) : Int) = n
  unfold nd
  rw [if_pos tj, show (((j + 1 : Nat) : Int) - 1).toNat = j by omega, j2]
 | none =>
  refine ⟨Le.snoc l n, ?_, nd_new l n []⟩
  show Tm (l ++ [n]) ((l.length + 1 : Nat) : Int)
  unfold Tm
  simp
  omega
theorem keepF_st (n : Nd) (l l2 : List Nd) (h : Le (keepF n l).2 l2) : keepF n l2 = ((keepF n l).1, l2) := by
 unfold keepF at h ⊢
 cases hi : nIx n l with
 | some j =>
  rw [hi] at h
  obtain ⟨m, rfl⟩ := h
  rw [nIx_app, hi]
 | none =>
  rw [hi] at h
  obtain ⟨m, rfl⟩ := h
  have e : l ++ [n] ++ m = l ++ (n :: m) := by simp
  show (match nIx n (l ++ [n] ++ m) with | some j => _ | none => _) = _
  rw [e, nIx_app, hi]
  show (match Option.map (· + l.length) (nIx n (n :: m)) with | some j => _ | none => _) = _
  unfold nIx
  rw [if_pos rfl]
  show (((0 + l.length + 1 : Nat) : Int), _) = _
  rw [Nat.zero_add]

structure Fine (l : List Nd) (C : List Int) (F : List Nd → Int × List Nd) : Prop where
 le : Le l (F l).2
 st : ∀ l2, Le (F l).2 l2 → F l2 = ((F l).1, l2)
 re : ∃ c : List Int, c.length ≤ 1 ∧ Clo (F l).2 (C ++ c) ∧ InC (F l).2 (C ++ c) (F l).1

theorem Fine.congr {l : List Nd} {C : List Int} {F G : List Nd → Int × List Nd} (h : Fine l C G) (e : ∀ l2, Le l l2 → F l2 = G l2) : Fine l C F := by
 have e0 := e l (Le.refl l)
 refine ⟨by rw [e0]; exact h.le, fun l2 k => ?_, by rw [e0]; exact h.re⟩
 rw [e0] at k ⊢
 rw [e l2 (h.le.trans k)]
 exact h.st l2 k
theorem Fine.ret {l : List Nd} {C : List Int} (k : Clo l C) {x : Int} (h : InC l C x) : Fine l C (fun l => (x, l)) :=
 ⟨Le.refl l, fun _ _ => rfl, [], by simp, by simpa using k, by simpa using h⟩
theorem Fine.keep {l : List Nd} {C : List Int} (k : Clo l C) (n : Nd) (ha : InC l C n.a) (hb : InC l C n.b) (hc : InC l C n.c) : Fine l C (keepF n) := by
 obtain ⟨h1, h2, h3⟩ := keepF_nd n l
 refine ⟨h1, fun l2 h => keepF_st n l l2 h, ?_⟩
 by_cases e : n.op = 1
 ·refine ⟨[], by simp, ?_, .inr (.inl ⟨h2, by rw [h3]; exact e⟩)⟩
  rw [List.append_nil]
  exact k.le h1
 ·refine ⟨[(keepF n l).1], by simp, fun t ht => ?_, .inr (.inr (by simp))⟩
  rcases List.mem_append.1 ht with ht | ht
  ·obtain ⟨q1, q2, q3, q4, q5⟩ := k.le h1 t ht
   exact ⟨q1, q2, q3.more _, q4.more _, q5.more _⟩
  ·rw [List.mem_singleton.1 ht]
   refine ⟨h2, by rw [h3]; exact e, ?_, ?_, ?_⟩ <;> rw [h3]
   ·exact (ha.le h1).more _
   ·exact (hb.le h1).more _
   ·exact (hc.le h1).more _
theorem Fine.const {l : List Nd} {C : List Int} (k : Clo l C) (w v : Int) : Fine l C (constF w v) := Fine.keep k _ (.inl rfl) (.inl rfl) (.inl rfl)
theorem constF_nd (w v : Int) (l : List Nd) : Le l (constF w v l).2 ∧ Tm (constF w v l).2 (constF w v l).1 ∧ (nd (constF w v l).2 (constF w v l).1).op = 1 := by
 obtain ⟨h1, h2, h3⟩ := keepF_nd (1, w, ((v.toNat % 2 ^ w.toNat : Nat) : Int), 0, 0, 0) l
 exact ⟨h1, h2, by unfold constF; rw [h3]⟩

theorem Fine.not {l : List Nd} {C : List Int} (k : Clo l C) {x : Int} (hx : InC l C x) : Fine l C (notF x) := by
 by_cases h1 : (nd l x).op = 1
 ·refine (Fine.const k (wd l x) ((65535 - (nd l x).v.toNat : Nat) : Int)).congr (fun l2 e => ?_)
  unfold notF
  rw [hx.nd k e, hx.wd k e, if_pos h1]
 by_cases h3 : (nd l x).op = 3
 ·refine (Fine.ret k (hx.parts k h1).1).congr (fun l2 e => ?_)
  unfold notF
  rw [hx.nd k e, if_neg h1, if_pos h3]
 ·refine (Fine.keep k (3, wd l x, 0, x, 0, 0) hx (.inl rfl) (.inl rfl)).congr (fun l2 e => ?_)
  unfold notF
  rw [hx.nd k e, hx.wd k e, if_neg h1, if_neg h3]

/-- something, or nothing, for good -/
def FineO (l : List Nd) (C : List Int) (F : List Nd → Option (Int × List Nd)) : Prop :=
 (∃ G, Fine l C G ∧ ∀ l2, Le l l2 → F l2 = some (G l2)) ∨ (∀ l2, Le l l2 → F l2 = none)

/-- Two, fine -/
def FineT (two : Int → Int → Int → List Nd → Int × List Nd) : Prop := ∀ ⦃l : List Nd⦄ ⦃C : List Int⦄ (_ : Clo l C) (op : Int) {x y : Int}, InC l C x → InC l C y → Fine l C (two op x y)

theorem FineO.eq {two : Int → Int → Int → List Nd → Int × List Nd} (H : FineT two) {l : List Nd} {C : List Int} (k : Clo l C) {x : Int} (v : Int) (hx : InC l C x) : FineO l C (eqF two x v) := by
 by_cases h1 : wd l x = 1
 ·by_cases h2 : v = 1
  ·refine .inl ⟨_, Fine.ret k hx, fun l2 e => ?_⟩
   unfold eqF
   rw [hx.wd k e, if_pos h1, if_pos h2]
  ·refine .inl ⟨_, Fine.not k hx, fun l2 e => ?_⟩
   unfold eqF
   rw [hx.wd k e, if_pos h1, if_neg h2]
 by_cases h3 : (nd l x).op = 17
 ·have ha := (hx.parts k (by omega)).1
  by_cases h4 : maskI (wd l (nd l x).a) < v
  ·refine .inl ⟨_, Fine.const k 1 0, fun l2 e => ?_⟩
   unfold eqF
   rw [hx.wd k e, hx.nd k e, ha.wd k e, if_neg h1, if_pos h3, if_pos h4]
  ·obtain ⟨c1, c2, c3⟩ := constF_nd (wd l (nd l x).a) v l
   have FC := Fine.const k (wd l (nd l x).a) v
   have F2 := H (k.le c1) 14 (ha.le c1) (y := (constF (wd l (nd l x).a) v l).1) (.inr (.inl ⟨c2, c3⟩))
   refine .inl ⟨fun m => two 14 (nd l x).a (constF (wd l (nd l x).a) v m).1 (constF (wd l (nd l x).a) v m).2, ⟨c1.trans F2.le, fun l2 h => ?_, F2.re⟩, fun l2 e => ?_⟩
   ·have e : Le l l2 := (c1.trans F2.le).trans h
    have ec := FC.st l2 (F2.le.trans h)
    show two 14 (nd l x).a (constF (wd l (nd l x).a) v l2).1 (constF (wd l (nd l x).a) v l2).2 = _
    rw [ec]
    exact F2.st l2 h
   ·unfold eqF
    rw [hx.wd k e, hx.nd k e, ha.wd k e, if_neg h1, if_pos h3, if_neg h4]
 ·refine .inr (fun l2 e => ?_)
  unfold eqF
  rw [hx.wd k e, hx.nd k e, if_neg h1, if_neg h3]

theorem FineO.alike {l : List Nd} {C : List Int} (k : Clo l C) (op : Int) {x : Int} (hx : InC l C x) : FineO l C (alikeF op x) := by
 by_cases h1 : op = 4 ∨ op = 5
 ·refine .inl ⟨_, Fine.ret k hx, fun l2 e => ?_⟩
  unfold alikeF
  rw [if_pos h1]
 by_cases h2 : op = 6 ∨ op = 8
 ·refine .inl ⟨_, Fine.const k (wd l x) 0, fun l2 e => ?_⟩
  unfold alikeF
  rw [if_neg h1, if_pos h2, hx.wd k e]
 by_cases h3 : op = 14 ∨ op = 15
 ·refine .inl ⟨_, Fine.const k 1 ((doN op (wd l x).toNat 0 0 : Nat) : Int), fun l2 e => ?_⟩
  unfold alikeF
  rw [if_neg h1, if_neg h2, if_pos h3, hx.wd k e]
 ·refine .inr (fun l2 e => ?_)
  unfold alikeF
  rw [if_neg h1, if_neg h2, if_neg h3]

theorem FineO.with {two : Int → Int → Int → List Nd → Int × List Nd} (H : FineT two) {l : List Nd} {C : List Int} (k : Clo l C) (op v : Int) {x : Int} (hx : InC l C x) : FineO l C (withF two op x v) := by
 by_cases hA : v = 0 ∧ (op = 4 ∨ op = 9 ∨ op = 15)
 ·refine .inl ⟨_, Fine.const k (outW op (wd l x)) 0, fun l2 e => ?_⟩
  unfold withF
  rw [if_pos hA, hx.wd k e]
 by_cases hB : v = 0 ∧ (op = 5 ∨ op = 6 ∨ op = 7 ∨ op = 8 ∨ op = 12 ∨ op = 13 ∨ op = 11)
 ·refine .inl ⟨_, Fine.ret k hx, fun l2 e => ?_⟩
  unfold withF
  rw [if_neg hA, if_pos hB]
 by_cases hC : v = maskI (wd l x) ∧ op = 4
 ·refine .inl ⟨_, Fine.ret k hx, fun l2 e => ?_⟩
  unfold withF
  rw [hx.wd k e, if_neg hA, if_neg hB, if_pos hC]
 by_cases hD : v = 1 ∧ (op = 9 ∨ op = 10)
 ·refine .inl ⟨_, Fine.ret k hx, fun l2 e => ?_⟩
  unfold withF
  rw [hx.wd k e, if_neg hA, if_neg hB, if_neg hC, if_pos hD]
 have go : ∀ l2, Le l l2 → withF two op x v l2 = if op = 14 then eqF two x v l2 else none := fun l2 e => by
  unfold withF
  rw [hx.wd k e, if_neg hA, if_neg hB, if_neg hC, if_neg hD]
 by_cases hE : op = 14
 ·rcases FineO.eq H k v hx with ⟨G, g1, g2⟩ | g
  ·exact .inl ⟨G, g1, fun l2 e => by rw [go l2 e, if_pos hE]; exact g2 l2 e⟩
  ·exact .inr (fun l2 e => by rw [go l2 e, if_pos hE]; exact g l2 e)
 ·exact .inr (fun l2 e => by rw [go l2 e, if_neg hE])

theorem FineO.congr {l : List Nd} {C : List Int} {F G : List Nd → Option (Int × List Nd)} (h : FineO l C G) (e : ∀ l2, Le l l2 → F l2 = G l2) : FineO l C F := by
 rcases h with ⟨K, k1, k2⟩ | h
 ·exact .inl ⟨K, k1, fun l2 h => (e l2 h).trans (k2 l2 h)⟩
 ·exact .inr (fun l2 k => (e l2 k).trans (h l2 k))

theorem FineO.less {two : Int → Int → Int → List Nd → Int × List Nd} (H : FineT two) {l : List Nd} {C : List Int} (k : Clo l C) (op : Int) {x y : Int} (hx : InC l C x) (hy : InC l C y) : FineO l C (lessF two op x y) := by
 by_cases h : x = y
 ·refine (FineO.alike k op hx).congr (fun l2 e => ?_)
  unfold lessF
  rw [if_pos h]
 by_cases h1 : isNum l x = true ∧ trn op = true
 ·refine (FineO.with H k op (nd l x).v hy).congr (fun l2 e => ?_)
  unfold lessF
  rw [if_neg h, hx.num k e, hx.nd k e, if_pos h1]
 by_cases h2 : isNum l y = true
 ·refine (FineO.with H k op (nd l y).v hx).congr (fun l2 e => ?_)
  unfold lessF
  rw [if_neg h, hx.num k e, hy.num k e, hy.nd k e, if_neg h1, if_pos h2]
 ·refine .inr (fun l2 e => ?_)
  unfold lessF
  rw [if_neg h, hx.num k e, hy.num k e, if_neg h1, if_neg h2]

theorem Fine.tail {two : Int → Int → Int → List Nd → Int × List Nd} (H : FineT two) {l : List Nd} {C : List Int} (k : Clo l C) (op : Int) {x y : Int} (hx : InC l C x) (hy : InC l C y) : Fine l C (tailF two op x y) := by
 rcases FineO.less H k op hx hy with ⟨G, g1, g2⟩ | g
 ·refine g1.congr (fun l2 e => ?_)
  unfold tailF
  rw [g2 l2 e]
 ·refine (Fine.keep k (op, outW op (wd l x), 0, x, y, 0) hx hy (.inl rfl)).congr (fun l2 e => ?_)
  unfold tailF
  rw [g l2 e, hx.wd k e]

theorem Fine.two : ∀ n : Nat, FineT (twoF n)
 | 0 => fun l C k op x y hx hy => (Fine.ret k (.inl rfl)).congr (fun l2 e => rfl)
 | n + 1 => fun l C k op x y hx hy => by
  by_cases hn : isNum l x = true ∧ isNum l y = true
  ·refine (Fine.const k (outW op (wd l x)) ((doN op (wd l x).toNat (nd l x).v.toNat (nd l y).v.toNat : Nat) : Int)).congr (fun l2 e => ?_)
   unfold twoF
   rw [hx.num k e, hy.num k e, if_pos hn, hx.wd k e, hx.nd k e, hy.nd k e]
  by_cases hs : trn op = true ∧ y < x
  ·refine (Fine.tail (Fine.two n) k op hy hx).congr (fun l2 e => ?_)
   show twoF (n + 1) op x y l2 = _
   unfold twoF
   rw [hx.num k e, hy.num k e, if_neg hn, if_pos hs]
  ·refine (Fine.tail (Fine.two n) k op hx hy).congr (fun l2 e => ?_)
   show twoF (n + 1) op x y l2 = _
   unfold twoF
   rw [hx.num k e, hy.num k e, if_neg hn, if_neg hs]

theorem Fine.ite {l : List Nd} {C : List Int} (k : Clo l C) {c x y : Int} (hc : InC l C c) (hx : InC l C x) (hy : InC l C y) : Fine l C (iteF c x y) := by
 by_cases h : x = y
 ·refine (Fine.ret k hx).congr (fun l2 e => ?_)
  unfold iteF
  rw [if_pos h]
 by_cases hn : isNum l c = true
 ·by_cases h1 : (nd l c).v = 1
  ·refine (Fine.ret k hx).congr (fun l2 e => ?_)
   unfold iteF
   rw [if_neg h, hc.num k e, if_pos hn, hc.nd k e, if_pos h1]
  ·refine (Fine.ret k hy).congr (fun l2 e => ?_)
   unfold iteF
   rw [if_neg h, hc.num k e, if_pos hn, hc.nd k e, if_neg h1]
 ·refine (Fine.keep k (16, wd l x, 0, c, x, y) hc hx hy).congr (fun l2 e => ?_)
  unfold iteF
  rw [if_neg h, hc.num k e, if_neg hn, hx.wd k e]

theorem Fine.ext {l : List Nd} {C : List Int} (k : Clo l C) (w : Int) : ∀ (n : Nat) {x : Int}, InC l C x → Fine l C (extF n w x)
 | 0, x, hx => (Fine.ret k (.inl rfl)).congr (fun l2 e => rfl)
 | n + 1, x, hx => by
  by_cases h1 : w = wd l x
  ·refine (Fine.ret k hx).congr (fun l2 e => ?_)
   unfold extF
   rw [hx.wd k e, if_pos h1]
  by_cases h2 : (nd l x).op = 1
  ·refine (Fine.const k w (nd l x).v).congr (fun l2 e => ?_)
   unfold extF
   rw [hx.wd k e, if_neg h1, hx.nd k e, if_pos h2]
  by_cases h3 : (nd l x).op = 17
  ·refine (Fine.ext k w n (hx.parts k h2).1).congr (fun l2 e => ?_)
   conv => lhs; unfold extF
   rw [hx.wd k e, if_neg h1, hx.nd k e, if_neg h2, if_pos h3]
  ·refine (Fine.keep k (17, w, 0, x, 0, 0) hx (.inl rfl) (.inl rfl)).congr (fun l2 e => ?_)
   unfold extF
   rw [hx.wd k e, if_neg h1, hx.nd k e, if_neg h2, if_neg h3]

theorem Fine.cut {l : List Nd} {C : List Int} (k : Clo l C) (w : Int) : ∀ (n : Nat) {x : Int}, InC l C x → Fine l C (cutF n w x)
 | 0, x, hx => (Fine.ret k (.inl rfl)).congr (fun l2 e => rfl)
 | n + 1, x, hx => by
  by_cases h1 : w = wd l x
  ·refine (Fine.ret k hx).congr (fun l2 e => ?_)
   unfold cutF
   rw [hx.wd k e, if_pos h1]
  by_cases h2 : (nd l x).op = 1
  ·refine (Fine.const k w (nd l x).v).congr (fun l2 e => ?_)
   unfold cutF
   rw [hx.wd k e, if_neg h1, hx.nd k e, if_pos h2]
  have ha := (hx.parts k h2).1
  by_cases h3 : (nd l x).op = 18
  ·refine (Fine.cut k w n ha).congr (fun l2 e => ?_)
   conv => lhs; unfold cutF
   rw [hx.wd k e, if_neg h1, hx.nd k e, if_neg h2, if_pos h3]
  by_cases h4 : (nd l x).op = 17
  ·by_cases h5 : w ≤ wd l (nd l x).a
   ·refine (Fine.cut k w n ha).congr (fun l2 e => ?_)
    conv => lhs; unfold cutF
    rw [hx.wd k e, if_neg h1, hx.nd k e, if_neg h2, if_neg h3, if_pos h4, ha.wd k e, if_pos h5]
   ·refine (Fine.ext k w 4 ha).congr (fun l2 e => ?_)
    conv => lhs; unfold cutF
    rw [hx.wd k e, if_neg h1, hx.nd k e, if_neg h2, if_neg h3, if_pos h4, ha.wd k e, if_neg h5]
  ·refine (Fine.keep k (18, w, 0, x, 0, 0) hx (.inl rfl) (.inl rfl)).congr (fun l2 e => ?_)
   unfold cutF
   rw [hx.wd k e, if_neg h1, hx.nd k e, if_neg h2, if_neg h3, if_neg h4]

/-- a node anew -/
def againF (n : Nd) (x p q r : Int) : List Nd → Int × List Nd :=
 if n.op = 1 then (fun l => (x, l)) else if n.op = 2 then (fun l => (x, l)) else if n.op = 3 then notF p else if n.op = 16 then iteF p q r
 else if n.op = 17 then extF 4 n.w p else if n.op = 18 then cutF 65537 n.w p else twoF 3 n.op p q
theorem Fine.again {l : List Nd} {C : List Int} (k : Clo l C) (n : Nd) {x p q r : Int} (h1 : n.op ≠ 1) (h2 : n.op ≠ 2) (hp : InC l C p) (hq : InC l C q) (hr : InC l C r) : Fine l C (againF n x p q r) := by
 unfold againF
 rw [if_neg h1, if_neg h2]
 by_cases h3 : n.op = 3
 ·rw [if_pos h3]; exact Fine.not k hp
 rw [if_neg h3]
 by_cases h4 : n.op = 16
 ·rw [if_pos h4]; exact Fine.ite k hp hq hr
 rw [if_neg h4]
 by_cases h5 : n.op = 17
 ·rw [if_pos h5]; exact Fine.ext k n.w 4 hp
 rw [if_neg h5]
 by_cases h6 : n.op = 18
 ·rw [if_pos h6]; exact Fine.cut k n.w 65537 hp
 rw [if_neg h6]
 exact Fine.two 3 k n.op hp hq

end Go.Proofs.Ytmgoeikbdikmdaa
