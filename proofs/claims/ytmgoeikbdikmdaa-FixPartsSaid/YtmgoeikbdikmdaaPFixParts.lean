/-
 FixParts: put in one behind another, or at once, the value is the same.
-/
import Derived.Test.YtmgoeikbdikmdaaPFixC
import Derived.Test.YtmgoeikbdikmdaaPFixTf1c7
import Derived.Test.YtmgoeikbdikmdaaPTermV0112
import Derived.Test.YtmgoeikbdikmdaaPTermWf
set_option linter.unusedSimpArgs false
set_option linter.unusedVariables false
namespace Go.Proofs.Ytmgoeikbdikmdaa
open Go.Gx

theorem awake_fq (n : Nat) {R : Type} (k : Bool → Option R) : Z9 (n + 3000) k = k true := by kernel_rfl

def U16s (l : List Int) : Prop := ∀ x ∈ l, 0 ≤ x ∧ x < 65536
theorem U16s.get {l : List Int} (h : U16s l) (i : Nat) : 0 ≤ l.getD i 0 ∧ l.getD i 0 < 65536 := by
 rw [List.getD_eq_getElem?_getD]
 by_cases c : i < l.length
 ·rw [List.getElem?_eq_getElem c]
  exact h _ (List.getElem_mem c)
 ·rw [List.getElem?_eq_none (by omega)]
  exact ⟨by decide, by decide⟩
theorem U16s.set {l : List Int} (h : U16s l) (i : Nat) {x : Int} (hx : 0 ≤ x ∧ x < 65536) : U16s (l.set i x) := fun y hy => by
 rcases List.mem_or_eq_of_mem_set hy with hy | rfl
 ·exact h y hy
 ·exact hx
theorem U16s.rep (n : Nat) : U16s (List.replicate n 0) := fun y hy => by
 rw [(List.mem_replicate.1 hy).2]
 exact ⟨by decide, by decide⟩

theorem fq_l0 (N : Nat) (ids vals : List Int) (l : List Nd) (b : By) (ws : Ws) (L : List Md) :
  ∀ (n q : Nat) (e : List Int), q ≤ 64 → 64 - q < n → e.length = 64 → U16s e → ∃ e' : List Int, e'.length = 64 ∧ U16s e' ∧
   ∀ {R : Type} (k : List Int → List Int → List Nd → By → Ws → List Md → List Int → Option R), Z8_l0 N k n ids vals (q : Int) l b ws L e = k ids vals l b ws L e'
 | 0, q, e, hq, h, _, _ => by omega
 | n + 1, q, e, hq, h, hl, hu => by
  by_cases c : q < 64
  ·obtain ⟨e', h1, h2, h3⟩ := fq_l0 N ids vals l b ws L n (q + 1) (e.set q (IntKind.wrap .u16 (IntKind.wrap .i64 ((IntKind.wrap .i64 ((q : Int) * (31 : Int))) + (5 : Int))))) (by omega) (by omega) (by rw [List.length_set]; exact hl) (hu.set q (by rw [wu16_mod]; omega))
   refine ⟨e', h1, h2, fun k => ?_⟩
   unfold Z8_l0 Z8_l0_T0
   rw [br_dec, if_pos (by omega), inB_of (by omega), br_true, Int.toNat_natCast, decide_eq_true (by omega), br_true, w64_succ (by omega)]
   exact h3 k
  ·have e1 : q = 64 := by omega
   refine ⟨e, hl, hu, fun k => ?_⟩
   unfold Z8_l0 Z8_l0_T0
   rw [decide_eq_false (by omega), br_false]

theorem fq_l1 (N : Nat) (ids vals : List Int) (hs : ids.length ≤ 20) (l : List Nd) (b : By) (ws : Ws) (L : List Md) (e : List Int) :
  ∀ (n q : Nat) (A : List Int), q ≤ ids.length → ids.length - q < n → A.length = q → ∃ A' : List Int, A'.length = ids.length ∧
   ∀ {R : Type} (k : List Int → List Nd → By → Ws → List Md → List Int → List Int → Option R), Z8_l1 N k n ids vals (q : Int) l b ws L e A = k vals l b ws L e A'
 | 0, q, A, hq, h, _ => by omega
 | n + 1, q, A, hq, h, hl => by
  by_cases c : q < ids.length
  ·obtain ⟨A', h1, h3⟩ := fq_l1 N ids vals hs l b ws L e n (q + 1) (A ++ (Int.tmod (IntKind.wrap .i64 (List.getD ids q (0 : Int))) (64 : Int)) :: ([] : List (Int))) (by omega) (by omega) (by simp; omega)
   refine ⟨A', h1, fun k => ?_⟩
   unfold Z8_l1 Z8_l1_T0
   rw [br_dec, if_pos (by omega), inB_of (by omega), br_true, fits_of (by omega), decide_eq_true (by omega), sub_all, Int.toNat_natCast, w64_succ (by omega)]
   exact h3 k
  ·have e1 : q = ids.length := by omega
   refine ⟨A, by omega, fun k => ?_⟩
   unfold Z8_l1 Z8_l1_T0
   rw [decide_eq_false (by omega), br_false]

/-! ### what was put, step by step -/
def nonC (l : List Nd) : List Int := ((List.range l.length).map (fun i : Nat => ((i + 1 : Nat) : Int))).filter (fun t => decide ((nd l t).op ≠ 1))
theorem nonC_len (l : List Nd) : (nonC l).length ≤ l.length := by
 unfold nonC
 exact Nat.le_trans (List.length_filter_le _ _) (by simp)
theorem nonC_mem {l : List Nd} {t : Int} (h : Tm l t) (h1 : (nd l t).op ≠ 1) : t ∈ nonC l := by
 unfold nonC
 refine List.mem_filter.2 ⟨List.mem_map.2 ⟨(t - 1).toNat, List.mem_range.2 (by have := h.1; have := h.2; omega), by have := h.1; omega⟩, decide_eq_true h1⟩
theorem nonC_in {l : List Nd} {t : Int} (h : 0 ≤ t ∧ t ≤ (l.length : Int)) : InC l (nonC l) t := by
 by_cases h0 : t = 0
 ·exact .inl h0
 have ht : Tm l t := ⟨by omega, h.2⟩
 by_cases h1 : (nd l t).op = 1
 ·exact .inr (.inl ⟨ht, h1⟩)
 ·exact .inr (.inr (nonC_mem ht h1))
theorem nonC_clo {l : List Nd} {b : By} (A : Ar l b) : Clo l (nonC l) := fun t ht => by
 unfold nonC at ht
 obtain ⟨h1, h2⟩ := List.mem_filter.1 ht
 obtain ⟨i, hi, rfl⟩ := List.mem_map.1 h1
 have hi := List.mem_range.1 hi
 have tm : Tm l ((i + 1 : Nat) : Int) := ⟨by omega, by omega⟩
 obtain ⟨K, _⟩ := A.nodeOk tm
 exact ⟨tm, of_decide_eq_true h2, nonC_in K.pa, nonC_in K.pb, nonC_in K.pc⟩

def srcJ (N0 : List Int) (G : Nat → List Put) : Nat → List Int
 | 0 => N0
 | 1 => N0
 | j + 2 => cs (G (j + 1))
def idsJ (A : List Int) : Nat → List Int
 | 0 => A
 | j + 1 => [A.getD j 0]
def tot (G : Nat → List Put) : Nat → Nat
 | 0 => (G 0).length
 | n + 1 => tot G n + (G (n + 1)).length
def updG (G : Nat → List Put) (j : Nat) (E : List Put) : Nat → List Put := fun i => if i = j then E else G i

theorem tot_upd_out (G : Nat → List Put) (j : Nat) (E : List Put) : ∀ n, n < j → tot (updG G j E) n = tot G n
 | 0, h => by unfold tot updG; rw [if_neg (by omega)]
 | n + 1, h => by
  unfold tot
  rw [tot_upd_out G j E n (by omega)]
  unfold updG
  rw [if_neg (by omega)]
theorem tot_upd (G : Nat → List Put) (j : Nat) (E : List Put) : ∀ n, j ≤ n → tot (updG G j E) n + (G j).length = tot G n + E.length
 | 0, h => by
  obtain rfl : j = 0 := by omega
  unfold tot updG
  rw [if_pos rfl]
  omega
 | n + 1, h => by
  unfold tot
  by_cases e : j = n + 1
  ·subst e
   rw [tot_upd_out G _ E n (by omega)]
   unfold updG
   rw [if_pos rfl]
   omega
  ·have := tot_upd G j E n (by omega)
   have e2 : updG G j E (n + 1) = G (n + 1) := by unfold updG; rw [if_neg (by omega)]
   rw [e2]
   omega

structure Gh (N0 : List Int) (n : Nat) (A V : List Int) (l0 l : List Nd) (G : Nat → List Put) : Prop where
 clo : Clo l N0
 st : ∀ j, j ≤ n → St (srcJ N0 G j) (idsJ A j) (idsJ V j) l (G j)
 cnt : l.length ≤ l0.length + 3 * tot G n

theorem Gh.few {N0 : List Int} {n : Nat} {A V : List Int} {l0 l : List Nd} {G : Nat → List Put} (H : Gh N0 n A V l0 l G) : ∀ j, j ≤ n → (srcJ N0 G j).length ≤ N0.length ∧ (G j).length ≤ N0.length
 | 0, h => ⟨Nat.le_refl _, (H.st 0 h).few⟩
 | 1, h => ⟨Nat.le_refl _, (H.st 1 h).few⟩
 | j + 2, h => by
  have h1 := (H.few (j + 1) (by omega)).2
  have h2 := cs_len (H.st (j + 1) (by omega)).one
  have h3 := (H.st (j + 2) h).few
  have e : (srcJ N0 G (j + 2)).length = (cs (G (j + 1))).length := rfl
  omega
theorem Gh.all {N0 : List Int} {n : Nat} {A V : List Int} {l0 l : List Nd} {G : Nat → List Put} (H : Gh N0 n A V l0 l G) : ∀ m, m ≤ n → tot G m ≤ (m + 1) * N0.length
 | 0, h => by
  have := (H.few 0 h).2
  unfold tot
  omega
 | m + 1, h => by
  have h1 := H.all m (by omega)
  have h2 := (H.few (m + 1) h).2
  unfold tot
  have : (m + 1 + 1) * N0.length = (m + 1) * N0.length + N0.length := by rw [Nat.add_mul, Nat.one_mul]
  omega
theorem Gh.sclo {N0 : List Int} {n : Nat} {A V : List Int} {l0 l : List Nd} {G : Nat → List Put} (H : Gh N0 n A V l0 l G) : ∀ j, j ≤ n + 1 → Clo l (srcJ N0 G j)
 | 0, _ => H.clo
 | 1, _ => H.clo
 | j + 2, h => (H.st (j + 1) (by omega)).clo

theorem Gh.step {N0 : List Int} {n : Nat} {A V : List Int} {l0 l : List Nd} {G : Nat → List Put} (H : Gh N0 n A V l0 l G) {j : Nat} (hj : j ≤ n) {x t : Int} {l' : List Nd} {b' : By} {E' : List Put}
  (S : SomeR (srcJ N0 G j) (idsJ A j) (idsJ V j) l x (G j) t l' b' E') : Gh N0 n A V l0 l' (updG G j E') := by
 have same : ∀ i, i ≠ j + 1 → srcJ N0 (updG G j E') i = srcJ N0 G i := fun i hi => by
  match i, hi with
  | 0, _ => rfl
  | 1, _ => rfl
  | i + 2, hi =>
   show cs (updG G j E' (i + 1)) = cs (G (i + 1))
   unfold updG
   rw [if_neg (by omega)]
 refine ⟨H.clo.le S.le, fun i hi => ?_, ?_⟩
 ·by_cases e : i = j
  ·subst e
   rw [same i (by omega)]
   have : updG G i E' i = E' := by unfold updG; rw [if_pos rfl]
   rw [this]
   exact S.st
  ·have e1 : updG G j E' i = G i := by unfold updG; rw [if_neg e]
   rw [e1]
   have S0 := (H.st i hi).le S.le
   by_cases e2 : i = j + 1
   ·subst e2
    refine S0.src (fun t ht => ?_)
    match j, ht with
    | 0, ht => exact ht
    | j + 1, ht =>
     have ht : t ∈ cs (G (j + 1)) := ht
     show t ∈ cs (updG G (j + 1) E' (j + 1))
     have : updG G (j + 1) E' (j + 1) = E' := by unfold updG; rw [if_pos rfl]
     rw [this]
     obtain ⟨F, hF⟩ := S.pre
     rw [hF]
     unfold cs at ht ⊢
     rw [List.flatMap_append]
     exact List.mem_append_left _ ht
   ·rw [same i e2]
    exact S0
 ·have h1 := tot_upd G j E' n hj
  have h2 := S.cnt
  have h3 := H.cnt
  omega

/-- the values: one behind another -/
theorem fIx_take {v : Int} {l : List Int} {q : Nat} (c : q < l.length) : fIx v (l.take (q + 1)) = (match fIx v (l.take q) with | some j => some j | none => if v = l.getD q 0 then some q else none) := by
 have e : l.take (q + 1) = l.take q ++ [l.getD q 0] := by
  rw [List.take_add_one, List.getElem?_eq_getElem c, List.getD_eq_getElem?_getD, List.getElem?_eq_getElem c]
  rfl
 rw [e, fIx_app]
 cases fIx v (l.take q) with
 | some j => rfl
 | none =>
  show Option.map _ (fIx v [l.getD q 0]) = _
  unfold fIx
  by_cases e : v = l.getD q 0
  ·rw [if_pos e]
   show some (0 + (l.take q).length) = if v = l.getD q 0 then some q else none
   rw [if_pos e, List.length_take, Nat.zero_add, Nat.min_eq_left (by omega)]
  ·rw [if_neg e]
   show none = if v = l.getD q 0 then some q else none
   rw [if_neg e]
theorem getD_take {l : List Int} {q j : Nat} (h : j < q) : (l.take q).getD j 0 = l.getD j 0 := by
 rw [List.getD_eq_getElem?_getD, List.getD_eq_getElem?_getD, List.getElem?_take, if_pos h]
theorem putE_snoc {A V : List Int} (hAV : A.length = V.length) {k : Nat} (hk : k < A.length) (env : Nat → Nat) : putE (A.take (k + 1)) (V.take (k + 1)) env = putE (A.take k) (V.take k) (putE [A.getD k 0] [V.getD k 0] env) := by
 funext i
 unfold putE
 rw [fIx_take hk]
 cases hf : fIx (i : Int) (A.take k) with
 | some j =>
  have hj := (fIx_lt hf).1
  rw [List.length_take] at hj
  show ((V.take (k + 1)).getD j 0).toNat = ((V.take k).getD j 0).toNat
  rw [getD_take (by omega), getD_take (by omega)]
 | none =>
  unfold fIx
  by_cases e : (i : Int) = A.getD k 0
  ·rw [if_pos e, if_pos e]
   show ((V.take (k + 1)).getD k 0).toNat = (V.getD k 0).toNat
   rw [getD_take (by omega)]
  ·rw [if_neg e, if_neg e]
   rfl

theorem fq_l3 (N : Nat) (hN : 70000 ≤ N ∧ N ≤ 2 ^ 62) {l0 : List Nd} {A V : List Int} (hAV : A.length = V.length) (hA : A.length ≤ 20) (uv : U16s V) (hl0 : l0.length ≤ 300) (ws : Ws) (L : List Md) (e : List Int) (T q x : Int) (hT : Tm l0 T) :
  ∀ (n k : Nat) (l : List Nd) (b : By) (y : Int) (G : Nat → List Put), k ≤ A.length → A.length - k < n → Ar l b → Le l0 l → Gh (nonC l0) A.length A V l0 l G → Tm l y → InC l (srcJ (nonC l0) G (k + 1)) y → (∀ env, val env l y = val (putE (A.take k) (V.take k) env) l0 T) →
   ∃ l' b' y' G', Ar l' b' ∧ Le l l' ∧ Gh (nonC l0) A.length A V l0 l' G' ∧ Tm l' y' ∧ (∀ env, val env l' y' = val (putE A V env) l0 T) ∧
    ∀ {R : Type} (k0 : List Int → Int → Int → Int → Int → List Nd → By → Ws → List Md → List Int → List Int → Option R), Z8_l3 N k0 n V q x 0 y (k : Int) l b ws L e A = k0 V q x 0 y' l' b' ws L e A
 | 0, k, l, b, y, G, _, h, _, _, _, _, _, _ => by omega
 | n + 1, k, l, b, y, G, hk, h, Ab, hle, H, hy, hin, hv => by
  by_cases c : k < A.length
  ·have hN0 := nonC_len l0
   have hf := H.few (k + 1) (by omega)
   have ht := H.all A.length (Nat.le_refl _)
   have hcnt := H.cnt
   have hb1 : (A.length + 1) * (nonC l0).length ≤ 21 * 300 := Nat.mul_le_mul (by omega) (by omega)
   have hu1 : ∀ j, 0 ≤ ([V.getD k 0] : List Int).getD j 0 ∧ ([V.getD k 0] : List Int).getD j 0 < 65536 := fun j => by
    match j with
    | 0 => exact uv.get k
    | j + 1 => exact ⟨by show (0 : Int) ≤ 0; omega, by show (0 : Int) < 65536; omega⟩
   obtain ⟨t, l', b', E', S, hc⟩ := SomeG_f1c7 N hN Ab ws hy (ids := idsJ A (k + 1)) (vals := idsJ V (k + 1)) rfl (by show 1 ≤ 1000; omega) hu1 (H.st (k + 1) (by omega)) (H.sclo (k + 1) (by omega)) hin (by omega) (Q := A) (q := k) (cap := A.length - k) c (by omega) rfl
   have H' := H.step (j := k + 1) (by omega) S
   have hin' : InC l' (srcJ (nonC l0) (updG G (k + 1) E') (k + 1 + 1)) t := by
    show InC l' (cs (updG G (k + 1) E' (k + 1))) t
    have : updG G (k + 1) E' (k + 1) = E' := by unfold updG; rw [if_pos rfl]
    rw [this]
    exact S.inn
   have hv' : ∀ env, val env l' t = val (putE (A.take (k + 1)) (V.take (k + 1)) env) l0 T := fun env => by
    rw [S.v, hv, putE_snoc hAV c]
    rfl
   obtain ⟨l2, b2, y2, G2, r1, r2, r3, r4, r5, r6⟩ := fq_l3 N hN hAV hA uv hl0 ws L e T q x hT n (k + 1) l' b' t _ (by omega) (by omega) S.ar (hle.trans S.le) H' S.tm hin' hv'
   refine ⟨l2, b2, y2, G2, r1, S.le.trans r2, r3, r4, r5, fun k0 => ?_⟩
   unfold Z8_l3 Z8_l3_T0
   have w1 : IntKind.wrap .i64 ((k : Int) + 1) = ((k + 1 : Nat) : Int) := by rw [w64 (by omega)]; omega
   rw [br_dec, if_pos (by omega), decide_eq_true rfl, br_true]
   have e1 : Int.toNat ((k + 1 : Nat) : Int) - Int.toNat (k : Int) = 1 := by omega
   have e2 : sub V k 1 = [V.getD k 0] := by
    unfold sub
    rw [List.getD_eq_getElem?_getD, List.getElem?_eq_getElem (by omega), List.drop_eq_getElem_cons (by omega)]
    rfl
   rw [w1, leB_of (by omega), br_true, leB_of (by omega), br_true, leB_of (by omega), br_true, br_true, e1, Int.toNat_natCast, e2]
   refine (hc _).trans ?_
   exact r6 k0
  ·have e1 : k = A.length := by omega
   subst e1
   refine ⟨l, b, y, G, Ab, Le.refl l, H, hy, fun env => ?_, fun k0 => ?_⟩
   ·rw [hv, List.take_length, hAV, List.take_length]
   ·unfold Z8_l3 Z8_l3_T0
    rw [decide_eq_false (by omega), br_false]

theorem fq_l2 (N : Nat) (hN : 70000 ≤ N ∧ N ≤ 2 ^ 62) {L : List Md} {l0 : List Nd} {b0 : By} {ws : Ws} {vs : List Int} {n0 : Nat} (I : BInv L l0 b0 ws vs n0) (hL : L.length ≤ 100) {A V : List Int} (hAV : A.length = V.length) (hA : A.length ≤ 20) (uv : U16s V) (e : List Int) (ue : U16s e) {R : Type} (k0 : Bool → Option R) (k1 : Option R) :
  ∀ (n q : Nat) (l : List Nd) (b : By) (G : Nat → List Put), q ≤ L.length → L.length - q < n → Ar l b → Le l0 l → Gh (nonC l0) A.length A V l0 l G → Z8_l2 N k0 k1 n V (q : Int) l b ws L e A = k1
 | 0, q, l, b, G, hq, h, _, _, _ => by omega
 | n + 1, q, l, b, G, hq, h, Ab, hle, H => by
  by_cases c : q < L.length
  ·have M := I.made q c
   have hfew := I.few
   have hl0 : l0.length ≤ 300 := by omega
   have ht0 : Tm l0 (L.getD q md0).t := M.tm
   have ht := ht0.le hle
   have hN0 := nonC_len l0
   have hf := H.few 0 (by omega)
   have htt := H.all A.length (Nat.le_refl _)
   have hcnt := H.cnt
   have hb1 : (A.length + 1) * (nonC l0).length ≤ 21 * 300 := Nat.mul_le_mul (by omega) (by omega)
   have hin0 : InC l (nonC l0) (L.getD q md0).t := (nonC_in ⟨by have := ht0.1; omega, ht0.2⟩).le hle
   obtain ⟨x, l1, b1, E', S, hc⟩ := SomeG_1f48 N hN Ab ws ht (ids := idsJ A 0) (vals := idsJ V 0) hAV (by show A.length ≤ 1000; omega) (fun j => uv.get j) (H.st 0 (by omega)) H.clo hin0 (by show l.length + 3 * (nonC l0).length + 3 ≤ 65536 + 3 * (G 0).length; omega)
   have H1 := H.step (j := 0) (by omega) S
   obtain ⟨l2, b2, y, G2, r1, r2, r3, r4, r5, r6⟩ := fq_l3 N hN hAV hA uv hl0 ws L e (L.getD q md0).t (q : Int) x ht0 N 0 l1 b1 (L.getD q md0).t _ (by omega) (by omega) S.ar (hle.trans S.le) H1 (ht.le S.le) (hin0.le S.le) (fun env => by
    rw [val_le ht.2 S.le, val_le ht0.2 hle]
    rfl)
   have ih := fq_l2 N hN I hL hAV hA uv e ue k0 k1 n (q + 1) l2 b2 G2 (by omega) (by omega) r1 ((hle.trans S.le).trans r2) r3
   have tx : Tm l2 x := S.tm.le r2
   obtain ⟨ys, C, hu⟩ := Under_eq N r1 ws tx hN
   have hpos : 1 ≤ ys.length := List.length_pos_of_mem C.has
   have bq : inB (q : Int) L.length = true := inB_of (by omega)
   unfold Z8_l2 Z8_l2_T0
   rw [br_dec, if_pos (by omega), bq, br_true, Int.toNat_natCast, decide_eq_true c, br_true]
   refine (hc _).trans ?_
   rw [br_true, br_true]
   refine (r6 _).trans ?_
   simp only [decide_true, Bool.not_true, Bool.not_false, br_true]
   refine (Eval_0112 N hN r1 ws e ue tx _).trans ?_
   refine (Eval_0112 N hN r1 ws e ue r4 _).trans ?_
   have ev : (val (envOf e e.length) l2 x : Int) = val (envOf e e.length) l2 y := by
    rw [r5, val_le S.tm.2 r2, S.v, val_le ht0.2 hle]
    rfl
   rw [ev]
   simp only [decide_true, Bool.not_true, Bool.not_false, br_true]
   unfold Z1 Z1_T
   rw [Node_eq N r1.len, decide_eq_true tx]
   simp only [Bool.not_true, br_false]
   rw [hu, decide_eq_false (by omega), br_false, w64_succ (by omega)]
   exact ih
  ·have e1 : q = L.length := by omega
   subst e1
   unfold Z8_l2 Z8_l2_T0
   rw [decide_eq_false (by omega), br_false]

theorem fixParts_true (M : Nat) (hM : 80000 ≤ M ∧ M ≤ 2 ^ 61) {R : Type} (rows : List Nd) (ids vals : List Int) (hr : RowsOk rows) (uv : U16s vals) (k : Bool → Option R) : Z8 (M + 3000) rows ids vals k = k true := by
 unfold Z8 Z8_T
 rw [awake_fq]
 have hN : 70000 ≤ M + 3000 ∧ M + 3000 ≤ 2 ^ 62 := by
  have e1 : (2 : Nat) ^ 61 = 2305843009213693952 := by decide
  have e2 : (2 : Nat) ^ 62 = 4611686018427387904 := by decide
  omega
 generalize M + 3000 = N at hN ⊢
 rw [Bool.not_true, br_false, br_ndec]
 by_cases c1 : (100 : Int) < (Nat.cast rows.length : Int)
 ·rw [if_pos c1]
 rw [if_neg c1, br_ndec]
 by_cases c2 : (20 : Int) < (Nat.cast ids.length : Int)
 ·rw [if_pos c2]
 rw [if_neg c2, br_ndec]
 by_cases c3 : (Nat.cast vals.length : Int) = (Nat.cast ids.length : Int)
 ·rw [if_pos c3]
  obtain ⟨L, l, b, ws, vs, I, hc⟩ := Build_eq N hN rows hr (by omega)
  have hbig : L.length ≤ 100 := by have := I.cnt; omega
  unfold Z32 Z32_T
  refine (hc _).trans ?_
  rw [Bool.not_true, br_false]
  obtain ⟨e, el, ue, h0⟩ := fq_l0 N ids vals l b ws L N 0 (List.replicate 64 0) (by omega) (by omega) (by simp) (U16s.rep 64)
  refine (h0 _).trans ?_
  obtain ⟨A, hA, h1⟩ := fq_l1 N ids vals (by omega) l b ws L e N 0 [] (by omega) (by omega) rfl
  refine (h1 _).trans ?_
  refine fq_l2 N hN I hbig (by omega) (by omega) uv e ue (fun b => k b) (k true) N 0 l b (fun _ => []) (by omega) (by omega) I.ar (Le.refl l) ⟨nonC_clo I.ar, fun j _ => St.nil _ _ _ _, ?_⟩
  omega
 ·rw [if_neg c3]

end Go.Proofs.Ytmgoeikbdikmdaa
