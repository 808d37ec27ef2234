/-
 terms (chapter 2): Eval (shape 0112; printed by termq.py).
-/
import Derived.Test.YtmgoeikbdikmdaaPTermQ520c
import Derived.Test.YtmgoeikbdikmdaaPTermU
set_option linter.unusedSimpArgs false
set_option linter.unusedVariables false
namespace Go.Proofs.Ytmgoeikbdikmdaa
open Go.Gx

theorem evloop_0112 (N : Nat) {l : List Nd} {b : By} (A : Ar l b) (ws : Ws) (e : List Int) (he : ∀ x ∈ e, 0 ≤ x ∧ x < 65536) {x : Int} {ys : List Int} (C0 : Cl l x ys) :
  ∀ (n i : Nat) (vs : List Int), i ≤ ys.length → ys.length - i < n → vs.length = x.toNat + 1 → (∀ t : Int, (t = 0 ∨ t ∈ ys.take i) → vs.getD t.toNat 0 = (val (envOf e e.length) l t : Int)) →
   ∃ vs' : List Int, vs'.length = x.toNat + 1 ∧ vs'.getD x.toNat 0 = (val (envOf e e.length) l x : Int) ∧
    ∀ {R : Type} (k : Int → List Nd → By → Ws → List Int → List Int → Option R), Z15_l0 N k n x (ys.length : Int) (i : Int) l b ws e vs ys = k x l b ws e vs'
 | 0, i, vs, _, h, _, _ => by omega
 | n + 1, i, vs, hi, h, hlen, inv => by
  by_cases c : i < ys.length
  ·have hy : ys.getD i 0 = ys[i] := by rw [List.getD_eq_getElem?_getD, List.getElem?_eq_getElem c]; rfl
   have hm : ys[i] ∈ ys := List.getElem_mem c
   obtain ⟨ht, hx⟩ := C0.tm _ hm
   obtain ⟨K, ka, kb, kc⟩ := A.nodeOk ht
   have hl := A.len
   have below : ∀ p : Int, 0 ≤ p → p < ys[i] → (p = 0 ∨ p ∈ ys) → vs.getD p.toNat 0 = (val (envOf e e.length) l p : Int) := fun p h0 h1 h2 => by
    refine inv p ?_
    rcases h2 with h2 | h2
    ·exact .inl h2
    ·refine .inr ?_
     obtain ⟨j, hj, rfl⟩ := List.getElem_of_mem h2
     have : j < i := by
      rcases Nat.lt_trichotomy j i with q | q | q
      ·exact q
      ·subst q; omega
      ·have := List.pairwise_iff_getElem.1 C0.up i j c hj q
       omega
     exact List.mem_take_iff_getElem.2 ⟨j, by omega, rfl⟩
   have va := below _ K.pa.1 ka (C0.pa _ hm)
   have vb := below _ K.pb.1 kb (C0.pb _ hm)
   have vc := below _ K.pc.1 kc (C0.pc _ hm)
   have pa : 0 ≤ (nd l ys[i]).2.2.2.1 ∧ (nd l ys[i]).2.2.2.1 < ys[i] := ⟨K.pa.1, ka⟩
   have pb : 0 ≤ (nd l ys[i]).2.2.2.2.1 ∧ (nd l ys[i]).2.2.2.2.1 < ys[i] := ⟨K.pb.1, kb⟩
   have pc : 0 ≤ (nd l ys[i]).2.2.2.2.2 ∧ (nd l ys[i]).2.2.2.2.2 < ys[i] := ⟨K.pc.1, kc⟩
   have h1 := ht.1
   have h2 := ht.2
   have hg : l.getD (ys[i] - 1).toNat ((0 : Int) , ((0 : Int) , ((0 : Int) , ((0 : Int) , ((0 : Int) , (0 : Int)))))) = nd l ys[i] := by
    unfold nd
    rw [if_pos ht]
    rfl
   have ia : inB (nd l ys[i]).2.2.2.1 vs.length = true := inB_of (by omega)
   have ib : inB (nd l ys[i]).2.2.2.2.1 vs.length = true := inB_of (by omega)
   have ic : inB (nd l ys[i]).2.2.2.2.2 vs.length = true := inB_of (by omega)
   have iy : inB ys[i] vs.length = true := inB_of (by omega)
   have da : (nd l ys[i]).2.2.2.1.toNat < vs.length := by omega
   have db : (nd l ys[i]).2.2.2.2.1.toNat < vs.length := by omega
   have dc : (nd l ys[i]).2.2.2.2.2.toNat < vs.length := by omega
   have dy : ys[i].toNat < vs.length := by omega
   have wy : IntKind.wrap .i64 (ys[i] - 1) = ys[i] - 1 := w64 (by omega)
   have jy : inB (ys[i] - 1) l.length = true := inB_of (by omega)
   have ky : (ys[i] - 1).toNat < l.length := by omega
   obtain ⟨vs', q1, q2, q3⟩ := evloop_0112 N A ws e he C0 n (i + 1) (vs.set ys[i].toNat (val (envOf e e.length) l ys[i] : Int)) (by omega) (by omega) (by simp; omega) (fun t h => by
    rw [getD_set]
    by_cases q : t = ys[i]
    ·rw [if_pos ⟨by rw [q], dy⟩, q]
    ·have h' : t = 0 ∨ t ∈ ys.take i := by
      rcases h with h | h
      ·exact .inl h
      ·rw [List.take_add_one, List.getElem?_eq_getElem c] at h
       rcases List.mem_append.1 h with h | h
       ·exact .inr h
       ·exact absurd (List.mem_singleton.1 h) q
     have t0 : 0 ≤ t := by
      rcases h' with h' | h'
      ·omega
      ·have := (C0.tm t (List.mem_of_mem_take h')).1.1
       omega
     rw [if_neg (fun e => q (by omega))]
     exact inv t h')
   refine ⟨vs', q1, q2, fun {R} k => ?_⟩
   unfold Z15_l0 Z15_l0_T0
   rw [decide_eq_true (by omega), br_true, inB_of (by omega), br_true, Int.toNat_natCast, decide_eq_true c, br_true]
   simp only [hy, wy, jy, ky, hg, ia, ib, ic, iy, da, db, dc, dy, decide_true, br_true, beq_self_eq_true]
   rw [Width_eq N A.len]
   have V := fun (k : Int → List Int → Option R) => Value_7344 N A e he ht (val (envOf e e.length) l (nd l ys[i]).c) k
   rw [← va, ← vb, ← vc] at V
   refine (V _).trans ?_
   rw [← A.val_eq (envOf e e.length) ht, w64_succ (by have := C0.len; omega)]
   exact q3 k
  ·have e1 : i = ys.length := by omega
   refine ⟨vs, hlen, ?_, fun k => ?_⟩
   ·refine inv x (.inr ?_)
    rw [e1, List.take_length]
    exact C0.has
   ·unfold Z15_l0 Z15_l0_T0
    rw [decide_eq_false (by omega), br_false]

theorem Eval_0112 (N : Nat) (hN : 70000 ≤ N ∧ N ≤ 2 ^ 62) {l : List Nd} {b : By} (A : Ar l b) (ws : Ws) (e : List Int) (he : ∀ x ∈ e, 0 ≤ x ∧ x < 65536) {x : Int} (h : Tm l x) {R : Type} (k : Int → List Nd → By → Ws → List Int → Option R) :
  Z15 N x l b ws e k = k (val (envOf e e.length) l x : Int) l b ws e := by
 have h1 := h.1
 have h2 := h.2
 have hl := A.len
 unfold Z15 Z15_T
 rw [there1 N A.len b ws h (by omega), Bool.not_true, br_false]
 obtain ⟨v, ok, s', p1, p2, p3, p4⟩ := quick_520c N A ws e he N 64 x h.part (by omega) (by omega)
 unfold Z29
 rw [p4]
 cases ok with
 | true => rw [br_true, (p3 rfl).1]
 | false =>
  have e1 : IntKind.wrap .i64 (x + 1) = x + 1 := w64 (by omega)
  rw [br_false, e1, decide_eq_true (by omega), decide_eq_true (by omega), decide_eq_true (by
   have : (2 : Int) ^ 46 = 70368744177664 := by decide
   omega)]
  simp only [Bool.and_self, br_true]
  obtain ⟨ys, C0, hu⟩ := Under_eq N A ws h hN
  rw [hu]
  obtain ⟨vs', q1, q2, q3⟩ := evloop_0112 N A ws e he C0 N 0 (List.replicate (x + 1).toNat 0) (by omega) (by have := C0.len; omega) (by simp; omega) (fun t ht => by
   rcases ht with rfl | ht
   ·unfold val look
    rw [if_neg (by omega), List.getD_eq_getElem?_getD, List.getElem?_replicate]
    split <;> rfl
   ·simp at ht)
  refine (q3 _).trans ?_
  rw [inB_of (by omega), br_true, decide_eq_true (by omega), br_true, q2]

theorem Eval_no_0112 (N : Nat) (hN : 70000 ≤ N ∧ N ≤ 2 ^ 62) {l : List Nd} (hl : l.length ≤ 65536) (b : By) (ws : Ws) (e : List Int) {x : Int} (h : ¬ Tm l x) {R : Type} (k : Int → List Nd → By → Ws → List Int → Option R) :
  Z15 N x l b ws e k = k 0 l b ws e := by
 unfold Z15 Z15_T
 refine (there_eq N hl b ws [x] (by simp; omega) hN.2 _).trans ?_
 rw [List.all_cons, decide_eq_false h]
 rfl

end Go.Proofs.Ytmgoeikbdikmdaa
