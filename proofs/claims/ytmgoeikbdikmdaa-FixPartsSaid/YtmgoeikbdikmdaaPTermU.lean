/-
 terms (chapter 2): the terms that one is made of.
-/
import Derived.Test.YtmgoeikbdikmdaaPTermE
set_option linter.unusedSimpArgs false
set_option linter.unusedVariables false
namespace Go.Proofs.Ytmgoeikbdikmdaa
open Go.Gx

/-- terms that hold x and whatever theirs are made of, rising -/
structure Cl (l : List Nd) (x : Int) (ys : List Int) : Prop where
 tm : ∀ t ∈ ys, Tm l t ∧ t ≤ x
 has : x ∈ ys
 up : ys.Pairwise (· < ·)
 pa : ∀ t ∈ ys, (nd l t).a = 0 ∨ (nd l t).a ∈ ys
 pb : ∀ t ∈ ys, (nd l t).b = 0 ∨ (nd l t).b ∈ ys
 pc : ∀ t ∈ ys, (nd l t).c = 0 ∨ (nd l t).c ∈ ys
 len : ys.length ≤ 65536
 min : ∀ P : Int → Prop, P 0 → P x → (∀ t, Tm l t → P t → P (nd l t).a ∧ P (nd l t).b ∧ P (nd l t).c) → ∀ t ∈ ys, P t

def pick (inn : List Bool) (i : Nat) : List Int := ((List.range i).filter (fun t => decide (0 < t) && inn.getD t false)).map (fun t : Nat => (t : Int))
theorem pick_succ (inn : List Bool) (i : Nat) : pick inn (i + 1) = pick inn i ++ (if 0 < i ∧ inn.getD i false = true then [(i : Int)] else []) := by
 unfold pick
 rw [List.range_succ, List.filter_append, List.map_append]
 congr 1
 by_cases h : 0 < i ∧ inn.getD i false = true
 ·rw [if_pos h]; simp only [List.filter_cons, h.1, h.2]; simp
 ·rw [if_neg h]
  have : (decide (0 < i) && inn.getD i false) = false := by
   cases e : (decide (0 < i) && inn.getD i false)
   ·rfl
   ·rw [Bool.and_eq_true, decide_eq_true_eq] at e
    exact absurd e h
  rw [List.filter_cons, this]
  simp
theorem mem_pick {inn : List Bool} {i : Nat} {t : Int} : t ∈ pick inn i ↔ 0 < t ∧ t < (i : Int) ∧ inn.getD t.toNat false = true := by
 unfold pick
 rw [List.mem_map]
 constructor
 ·rintro ⟨n, h, rfl⟩
  rw [List.mem_filter, List.mem_range, Bool.and_eq_true, decide_eq_true_eq] at h
  exact ⟨by omega, by omega, h.2.2⟩
 ·rintro ⟨h1, h2, h3⟩
  refine ⟨t.toNat, ?_, by omega⟩
  rw [List.mem_filter, List.mem_range, Bool.and_eq_true, decide_eq_true_eq]
  exact ⟨by omega, by omega, h3⟩
theorem pick_len (inn : List Bool) (i : Nat) : (pick inn i).length ≤ i := by
 unfold pick
 rw [List.length_map]
 exact Nat.le_trans (List.length_filter_le _ _) (by simp)
theorem pick_up (inn : List Bool) (i : Nat) : (pick inn i).Pairwise (· < ·) := by
 unfold pick
 rw [List.pairwise_map]
 refine List.Pairwise.filter _ ?_
 exact List.pairwise_lt_range.imp (fun h => by omega)

theorem getD_set {α : Type} (l : List α) (i j : Nat) (v d : α) : (l.set i v).getD j d = if i = j ∧ i < l.length then v else l.getD j d := by
 rw [List.getD_eq_getElem?_getD, List.getElem?_set, List.getD_eq_getElem?_getD]
 by_cases h : i = j
 ·subst h
  by_cases h2 : i < l.length
  ·simp [h2]
  ·simp [h2]
 ·simp [h]
/-- more is in -/
def In (a b : List Bool) : Prop := a.length = b.length ∧ ∀ i, a.getD i false = true → b.getD i false = true
theorem In.refl (a : List Bool) : In a a := ⟨rfl, fun _ h => h⟩
theorem In.trans {a b c : List Bool} (h : In a b) (k : In b c) : In a c := ⟨h.1.trans k.1, fun i e => k.2 i (h.2 i e)⟩
theorem In.set (a : List Bool) (i : Nat) : In a (a.set i true) := ⟨by simp, fun j h => by
 rw [getD_set]
 split
 ·rfl
 ·exact h⟩

theorem under3 {R : Type} (N : Nat) (l : List Nd) (b : By) (ws : Ws) (xs : List Int) (inn : List Bool) (hl : inn.length ≤ 65537) (k : List Nd → By → Ws → List Int → List Int → Option R) :
  ∀ (n i : Nat), i ≤ inn.length → inn.length - i < n → Z22_l3 N k n (inn.length : Int) (i : Int) l b ws xs inn (pick inn i) = k l b ws xs (pick inn inn.length)
 | 0, i, _, h => by omega
 | n + 1, i, hi, h => by
  unfold Z22_l3 Z22_l3_T0
  have pl := pick_len inn i
  by_cases c : i < inn.length
  ·have ih := under3 N l b ws xs inn hl k n (i + 1) (by omega) (by omega)
   rw [decide_eq_true (by omega), br_true, w64_succ (by omega), br_dec]
   have ps := pick_succ inn i
   by_cases h0 : 0 < i
   ·rw [if_pos (by omega), inB_of (by omega), br_true, Int.toNat_natCast, decide_eq_true c, br_true]
    cases e : inn.getD i false
    ·rw [br_false]
     rw [if_neg (by rw [e]; simp), List.append_nil] at ps
     rw [ps] at ih
     exact ih
    ·rw [br_true, fits_of (by omega), decide_eq_true (by omega), sub_all]
     rw [if_pos ⟨h0, e⟩] at ps
     rw [ps] at ih
     exact ih
   ·rw [if_neg (by omega)]
    rw [if_neg (fun e => h0 e.1), List.append_nil] at ps
    rw [ps] at ih
    exact ih
  ·have e : i = inn.length := by omega
   rw [decide_eq_false (by omega), br_false, e]

theorem under2 (N : Nat) {l : List Nd} {b : By} (A : Ar l b) (ws : Ws) (xs : List Int) (X : Nat) (hX : X ≤ l.length) :
  ∀ (n j : Nat) (m : Int) (inn : List Bool), j ≤ X → j < n → inn.length = X + 1 → (0 ≤ m ∧ m + (j : Int) ≤ (X : Int)) →
   (∀ t : Nat, j < t → t ≤ X → inn.getD t false = true → inn.getD (nd l t).a.toNat false = true ∧ inn.getD (nd l t).b.toNat false = true ∧ inn.getD (nd l t).c.toNat false = true) →
   ∃ m' inn', (0 ≤ m' ∧ m' ≤ (X : Int)) ∧ In inn inn' ∧
    (∀ P : Int → Prop, P 0 → (∀ t, Tm l t → P t → P (nd l t).a ∧ P (nd l t).b ∧ P (nd l t).c) → (∀ t : Nat, inn.getD t false = true → P t) → ∀ t : Nat, inn'.getD t false = true → P t) ∧
    (∀ t : Nat, 0 < t → t ≤ X → inn'.getD t false = true → inn'.getD (nd l t).a.toNat false = true ∧ inn'.getD (nd l t).b.toNat false = true ∧ inn'.getD (nd l t).c.toNat false = true) ∧
    ∀ {R : Type} (k : Int → List Nd → By → Ws → List Int → List Bool → Option R), Z22_l2 N k n m (j : Int) l b ws xs inn = k m' l b ws xs inn'
 | 0, j, m, inn, _, h, _, _, _ => by omega
 | n + 1, j, m, inn, hj, hn, hlen, hm, inv => by
  have hl := A.len
  by_cases h0 : j = 0
  ·subst h0
   refine ⟨m, inn, by omega, In.refl _, fun P _ _ h => h, inv, fun k => ?_⟩
   unfold Z22_l2 Z22_l2_T0
   rw [decide_eq_false (by omega), br_false]
  obtain ⟨i, rfl⟩ : ∃ i, j = i + 1 := ⟨j - 1, by omega⟩
  have ht : Tm l ((i + 1 : Nat) : Int) := ⟨by omega, by omega⟩
  have ht0 := ht
  obtain ⟨K, ka, kb, kc⟩ := A.nodeOk ht
  have hg : l.getD (((i + 1 : Nat) : Int) - 1).toNat ((0 : Int) , ((0 : Int) , ((0 : Int) , ((0 : Int) , ((0 : Int) , (0 : Int)))))) = nd l ((i + 1 : Nat) : Int) := by
   unfold nd
   rw [if_pos ht]
   rfl
  have e1 : IntKind.wrap .i64 (((i + 1 : Nat) : Int) - 1) = (i : Int) := by rw [w64 (by omega)]; omega
  have e2 : l.getD i ((0 : Int) , ((0 : Int) , ((0 : Int) , ((0 : Int) , ((0 : Int) , (0 : Int)))))) = nd l ((i + 1 : Nat) : Int) := by
   have : (((i + 1 : Nat) : Int) - 1).toNat = i := by omega
   rw [this] at hg
   exact hg
  cases e : inn.getD (i + 1) false
  ·obtain ⟨m', inn', a1, a2, am, a3, a4⟩ := under2 N A ws xs X hX n i m inn (by omega) (by omega) hlen (by omega) (fun t h1 h2 h3 => by
    by_cases e' : t = i + 1
    ·subst e'
     rw [e] at h3
     cases h3
    ·exact inv t (by omega) h2 h3)
   refine ⟨m', inn', a1, a2, am, a3, fun k => ?_⟩
   unfold Z22_l2 Z22_l2_T0
   rw [decide_eq_true (by omega), br_true, inB_of (by omega), br_true, Int.toNat_natCast, decide_eq_true (by omega), br_true]
   rw [e, Bool.not_false, br_true, e1]
   exact a4 k
  ·
   have b1 := K.pa.1
   have b2 := K.pb.1
   have b3 := K.pc.1
   have c1 : 0 ≤ (nd l ((i + 1 : Nat) : Int)).2.2.2.1 ∧ (nd l ((i + 1 : Nat) : Int)).2.2.2.1 < ((i + 1 : Nat) : Int) := ⟨b1, ka⟩
   have c2 : 0 ≤ (nd l ((i + 1 : Nat) : Int)).2.2.2.2.1 ∧ (nd l ((i + 1 : Nat) : Int)).2.2.2.2.1 < ((i + 1 : Nat) : Int) := ⟨b2, kb⟩
   have c3 : 0 ≤ (nd l ((i + 1 : Nat) : Int)).2.2.2.2.2 ∧ (nd l ((i + 1 : Nat) : Int)).2.2.2.2.2 < ((i + 1 : Nat) : Int) := ⟨b3, kc⟩
   have big : In inn (((inn.set (nd l ((i + 1 : Nat) : Int)).a.toNat true).set (nd l ((i + 1 : Nat) : Int)).b.toNat true).set (nd l ((i + 1 : Nat) : Int)).c.toNat true) := ((In.set _ _).trans (In.set _ _)).trans (In.set _ _)
   obtain ⟨m', inn', a1, a2, am, a3, a4⟩ := under2 N A ws xs X hX n i (m + 1) _ (by omega) (by omega) (big.1.symm.trans hlen) (by omega) (fun t h1 h2 h3 => by
    have old : inn.getD t false = true := by
     rw [getD_set, getD_set, getD_set, if_neg (by omega), if_neg (by omega), if_neg (by omega)] at h3
     exact h3
    by_cases e' : t = i + 1
    ·subst e'
     have l1 : (nd l ((i + 1 : Nat) : Int)).a.toNat < inn.length := by omega
     have l2 : (nd l ((i + 1 : Nat) : Int)).b.toNat < inn.length := by omega
     have l3 : (nd l ((i + 1 : Nat) : Int)).c.toNat < inn.length := by omega
     refine ⟨?_, ?_, ?_⟩
     ·exact (((In.set _ _).trans (In.set _ _))).2 _ (by rw [getD_set, if_pos ⟨rfl, l1⟩])
     ·exact (In.set _ _).2 _ (by rw [getD_set, if_pos ⟨rfl, by simpa using l2⟩])
     ·rw [getD_set, if_pos ⟨rfl, by simpa using l3⟩]
    ·obtain ⟨q1, q2, q3⟩ := inv t (by omega) h2 old
     exact ⟨big.2 _ q1, big.2 _ q2, big.2 _ q3⟩)
   refine ⟨m', inn', a1, big.trans a2, fun P P0 hP hin => am P P0 hP (fun t ht => ?_), a3, fun k => ?_⟩
   ·obtain ⟨q1, q2, q3⟩ := hP _ ht0 (hin _ e)
    by_cases z3 : (nd l ((i + 1 : Nat) : Int)).c.toNat = t
    ·rw [← z3, Int.toNat_of_nonneg b3]; exact q3
    by_cases z2 : (nd l ((i + 1 : Nat) : Int)).b.toNat = t
    ·rw [← z2, Int.toNat_of_nonneg b2]; exact q2
    by_cases z1 : (nd l ((i + 1 : Nat) : Int)).a.toNat = t
    ·rw [← z1, Int.toNat_of_nonneg b1]; exact q1
    rw [getD_set, getD_set, getD_set, if_neg (fun h => z3 h.1), if_neg (fun h => z2 h.1), if_neg (fun h => z1 h.1)] at ht
    exact hin t ht
   unfold Z22_l2 Z22_l2_T0
   rw [decide_eq_true (by omega), br_true, inB_of (by omega), br_true, Int.toNat_natCast, decide_eq_true (by omega), br_true]
   rw [e, Bool.not_true, br_false, e1, inB_of (by omega), br_true, Int.toNat_natCast, decide_eq_true (by omega), br_true, e2]
   rw [inB_of (by omega), br_true, decide_eq_true (by omega), br_true, decide_eq_true rfl, br_true, decide_eq_true rfl, br_true, inB_of (by omega), br_true, decide_eq_true (by omega), br_true,
    br_true, inB_of (by omega), br_true, decide_eq_true (by omega), br_true, w64 (by omega)]
   exact a4 k

theorem under0 {R : Type} (N : Nat) {l : List Nd} (hl : l.length ≤ 65536) (b : By) (ws : Ws) {x : Int} (h : Tm l x) (hN : 8 ≤ N ∧ N ≤ 2 ^ 62) (k : Int → List Nd → By → Ws → List Int → Option R) (n : Nat) :
  Z22_l0 N k (n + 2) 0 (Nat.cast ([x] : List Int).length : Int) 0 l b ws [x] = k x l b ws [x] := by
 have hx := h.1
 unfold Z22_l0 Z22_l0_T0
 rw [decide_eq_true (by simp), br_true, inB_of (by simp), br_true, decide_eq_true (by simp), br_true]
 show Z30 N l b ws (x :: ([] : List ((Sh.int IntKind.i64).T))) _ = _
 rw [there1 N hl b ws h hN, br_true, w64 (by omega)]
 show Z22_l0 N k (n + 1) (if 0 < x then x else 0) (Nat.cast ([x] : List Int).length : Int) 1 l b ws [x] = _
 rw [if_pos (by omega)]
 unfold Z22_l0 Z22_l0_T0
 rw [decide_eq_false (by simp), br_false]
theorem under1 {R : Type} (N : Nat) {l : List Nd} (hl : l.length ≤ 65536) (b : By) (ws : Ws) {x : Int} (h : Tm l x) (hN : 8 ≤ N ∧ N ≤ 2 ^ 62) (k : Int → List Nd → By → Ws → List Int → List Bool → Option R) (n : Nat) (inn : List Bool) (hi : x < (inn.length : Int)) (m : Int) :
  Z22_l1 N k (n + 2) m (Nat.cast ([x] : List Int).length : Int) 0 l b ws [x] inn = k m l b ws [x] (inn.set x.toNat true) := by
 have hx := h.1
 unfold Z22_l1 Z22_l1_T0
 rw [decide_eq_true (by simp), br_true, inB_of (by simp), br_true, decide_eq_true (by simp), br_true]
 show Z30 N l b ws (x :: ([] : List ((Sh.int IntKind.i64).T))) _ = _
 rw [there1 N hl b ws h hN, br_true]
 show br (inB x inn.length) (br (decide (x.toNat < inn.length)) (Z22_l1 N k (n + 1) m (Nat.cast ([x] : List Int).length : Int) (IntKind.wrap .i64 (0 + 1)) l b ws [x] (inn.set x.toNat true)) _) _ = _
 rw [inB_of (by omega), br_true, decide_eq_true (by omega), br_true, w64 (by omega)]
 unfold Z22_l1 Z22_l1_T0
 rw [decide_eq_false (by simp), br_false]

theorem Under_eq (N : Nat) {l : List Nd} {b : By} (A : Ar l b) (ws : Ws) {x : Int} (h : Tm l x) (hN : 70000 ≤ N ∧ N ≤ 2 ^ 62) :
  ∃ ys, Cl l x ys ∧ ∀ {R : Type} (k : List Nd → By → Ws → List Int → List Int → Option R), Z22 N l b ws (x :: ([] : List ((Sh.int IntKind.i64).T))) k = k l b ws [x] ys := by
 have hl := A.len
 have h1 := h.1
 have h2 := h.2
 have hset : ((List.replicate (x + 1).toNat false).set x.toNat true).length = x.toNat + 1 := by simp; omega
 have hd : ∀ t : Nat, ((List.replicate (x + 1).toNat false).set x.toNat true).getD t false = true → t = x.toNat := fun t e => by
  rw [getD_set] at e
  by_cases q : x.toNat = t ∧ x.toNat < (List.replicate (x + 1).toNat false).length
  ·exact q.1.symm
  ·rw [if_neg q, List.getD_eq_getElem?_getD, List.getElem?_replicate] at e
   split at e <;> cases e
 have hx0 : ((List.replicate (x + 1).toNat false).set x.toNat true).getD x.toNat false = true := by
  rw [getD_set, if_pos ⟨rfl, by simp; omega⟩]
 obtain ⟨m', inn, p1, p2, pm, p3, p4⟩ := under2 N A ws [x] x.toNat (by omega) N x.toNat 0 ((List.replicate (x + 1).toNat false).set x.toNat true) (by omega) (by omega) hset (by omega) (fun t q1 q2 q3 => by
  have := hd t q3
  omega)
 have hlen : inn.length = x.toNat + 1 := p2.1.symm.trans hset
 refine ⟨pick inn inn.length, ⟨fun t ht => ?_, ?_, pick_up _ _, fun t ht => ?_, fun t ht => ?_, fun t ht => ?_, ?_, fun P P0 Px hP t ht => ?_⟩, fun {R} k => ?_⟩
 ·have := mem_pick.1 ht
  exact ⟨⟨by omega, by omega⟩, by omega⟩
 ·exact mem_pick.2 ⟨by omega, by omega, p2.2 _ hx0⟩
 ·obtain ⟨q1, q2, q3⟩ := mem_pick.1 ht
  have tt : Tm l t := ⟨by omega, by omega⟩
  obtain ⟨K, ka, kb, kc⟩ := A.nodeOk tt
  obtain ⟨r1, r2, r3⟩ := p3 t.toNat (by omega) (by omega) q3
  rw [show ((t.toNat : Nat) : Int) = t by omega] at r1
  have := K.pa.1
  by_cases z : (nd l t).a = 0
  ·exact .inl z
  ·exact .inr (mem_pick.2 ⟨by omega, by omega, r1⟩)
 ·obtain ⟨q1, q2, q3⟩ := mem_pick.1 ht
  have tt : Tm l t := ⟨by omega, by omega⟩
  obtain ⟨K, ka, kb, kc⟩ := A.nodeOk tt
  obtain ⟨r1, r2, r3⟩ := p3 t.toNat (by omega) (by omega) q3
  rw [show ((t.toNat : Nat) : Int) = t by omega] at r2
  have := K.pb.1
  by_cases z : (nd l t).b = 0
  ·exact .inl z
  ·exact .inr (mem_pick.2 ⟨by omega, by omega, r2⟩)
 ·obtain ⟨q1, q2, q3⟩ := mem_pick.1 ht
  have tt : Tm l t := ⟨by omega, by omega⟩
  obtain ⟨K, ka, kb, kc⟩ := A.nodeOk tt
  obtain ⟨r1, r2, r3⟩ := p3 t.toNat (by omega) (by omega) q3
  rw [show ((t.toNat : Nat) : Int) = t by omega] at r3
  have := K.pc.1
  by_cases z : (nd l t).c = 0
  ·exact .inl z
  ·exact .inr (mem_pick.2 ⟨by omega, by omega, r3⟩)
 ·-- the first of them is no term
  have : pick inn inn.length = pick inn (x.toNat + 1) := by rw [hlen]
  have hz : ∀ i : Nat, (pick inn (i + 1)).length ≤ i := by
   intro i
   induction i with
   | zero => rw [pick_succ]; simp [pick]
   | succ i ih =>
    rw [pick_succ, List.length_append]
    split
    ·simp; omega
    ·simp; omega
  have := hz x.toNat
  rw [hlen]
  omega
 ·obtain ⟨q1, q2, q3⟩ := mem_pick.1 ht
  have := pm P P0 hP (fun u hu => by rw [hd u hu, Int.toNat_of_nonneg (by omega)]; exact Px) t.toNat q3
  rw [Int.toNat_of_nonneg (by omega)] at this
  exact this
 ·unfold Z22 Z22_T
  obtain ⟨n, rfl⟩ : ∃ n, N = n + 2 := ⟨N - 2, by omega⟩
  have u0 := fun (k : Int → List Nd → By → Ws → List Int → Option R) => under0 (n + 2) hl b ws h (by omega) k n
  refine (u0 _).trans ?_
  have e1 : IntKind.wrap .i64 (x + 1) = x + 1 := w64 (by omega)
  rw [e1, decide_eq_true (by omega), decide_eq_true (by omega), decide_eq_true (by
   have : (2 : Int) ^ 46 = 70368744177664 := by decide
   omega)]
  simp only [Bool.and_self, br_true]
  have u1 := fun (k : Int → List Nd → By → Ws → List Int → List Bool → Option R) => under1 (n + 2) hl b ws h (by omega) k n (List.replicate (x + 1).toNat false) (by simp; omega) x
  refine (u1 _).trans ?_
  have q4 := fun (k : Int → List Nd → By → Ws → List Int → List Bool → Option R) => p4 k
  rw [show ((x.toNat : Nat) : Int) = x by omega] at q4
  rw [q4]
  rw [decide_eq_true (by omega), decide_eq_true (by
   have : (2 : Int) ^ 46 = 70368744177664 := by decide
   omega)]
  simp only [Bool.and_self, br_true]
  have u3 := under3 (n + 2) l b ws [x] inn (by omega) k (n + 2) 0 (by omega) (by omega)
  exact u3

end Go.Proofs.Ytmgoeikbdikmdaa
