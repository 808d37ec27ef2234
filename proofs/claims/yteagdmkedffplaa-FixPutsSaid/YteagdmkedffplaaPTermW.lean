/-
  terms (chapter 2): the variables of a term.
-/
import Derived.Test.YteagdmkedffplaaPTermS
set_option linter.unusedSimpArgs false
set_option linter.unusedVariables false
namespace Go.Proofs.Yteagdmkedffplaa
open Go.Gx

def pickV (inn : List Bool) (i : Nat) : List Int := ((List.range i).filter (fun t => inn.getD t false)).map (fun t : Nat => (t : Int))
theorem pickV_succ (inn : List Bool) (i : Nat) : pickV inn (i + 1) = pickV inn i ++ (if inn.getD i false = true then [(i : Int)] else []) := by
  unfold pickV
  rw [List.range_succ, List.filter_append, List.map_append]
  congr 1
  rw [List.filter_cons]
  split <;> simp
theorem pickV_len (inn : List Bool) (i : Nat) : (pickV inn i).length ≤ i := by
  unfold pickV
  rw [List.length_map]
  exact Nat.le_trans (List.length_filter_le _ _) (by simp)
theorem mem_pickV {inn : List Bool} {i : Nat} {t : Int} : t ∈ pickV inn i ↔ 0 ≤ t ∧ t < (i : Int) ∧ inn.getD t.toNat false = true := by
  unfold pickV
  rw [List.mem_map]
  constructor
  · rintro ⟨n, h, rfl⟩
    rw [List.mem_filter, List.mem_range] at h
    exact ⟨by omega, by omega, h.2⟩
  · rintro ⟨h1, h2, h3⟩
    refine ⟨t.toNat, ?_, by omega⟩
    rw [List.mem_filter, List.mem_range]
    exact ⟨by omega, h3⟩
theorem pickV_up (inn : List Bool) (i : Nat) : (pickV inn i).Pairwise (· < ·) := by
  unfold pickV
  rw [List.pairwise_map]
  refine List.Pairwise.filter _ ?_
  exact List.pairwise_lt_range.imp (fun h => by omega)

theorem vars1 {R : Type} (N : Nat) (l : List Nd) (b : By) (ws : Ws) (inn : List Bool) (k : List Nd → By → Ws → List Int → Option R) :
    ∀ (n i : Nat), i ≤ 64 → 64 - i < n → term_Arena_Vars_43b4_l1 N k n inn (i : Int) l b ws (pickV inn i) = k l b ws (pickV inn 64)
  | 0, i, _, h => by omega
  | n + 1, i, hi, h => by
    unfold term_Arena_Vars_43b4_l1 term_Arena_Vars_43b4_l1_T0
    have pl := pickV_len inn i
    by_cases c : i < 64
    · have ih := vars1 N l b ws inn k n (i + 1) (by omega) (by omega)
      have ps := pickV_succ inn i
      rw [decide_eq_true (by omega), br_true, inB_of (by omega), br_true, Int.toNat_natCast, w64_succ (by omega)]
      cases e : inn.getD i false
      · rw [br_false]
        rw [if_neg (by rw [e]; simp), List.append_nil] at ps
        rw [ps] at ih
        exact ih
      · rw [br_true, fits_of (by omega), decide_eq_true (by omega), sub_all]
        rw [if_pos e] at ps
        rw [ps] at ih
        exact ih
    · have e : i = 64 := by omega
      rw [decide_eq_false (by omega), br_false, e]

theorem vars0 (N : Nat) {l : List Nd} {b : By} (A : Ar l b) (ws : Ws) {x : Int} {ys : List Int} (C : Cl l x ys) :
    ∀ (n i : Nat) (inn : List Bool), i ≤ ys.length → ys.length - i < n → inn.length = 64 → (∀ t ∈ ys.take i, (nd l t).op = 2 → inn.getD (nd l t).v.toNat false = true) →
      ∃ inn' : List Bool, inn'.length = 64 ∧ (∀ t ∈ ys, (nd l t).op = 2 → inn'.getD (nd l t).v.toNat false = true) ∧
        ∀ {R : Type} (k : List Nd → By → Ws → List Bool → Option R), term_Arena_Vars_43b4_l0 N k n (ys.length : Int) (i : Int) l b ws inn ys = k l b ws inn'
  | 0, i, inn, _, h, _, _ => by omega
  | n + 1, i, inn, hi, h, hlen, inv => by
    by_cases c : i < ys.length
    · have hy : ys.getD i 0 = ys[i] := by rw [List.getD_eq_getElem?_getD, List.getElem?_eq_getElem c]; rfl
      have hm : ys[i] ∈ ys := List.getElem_mem c
      obtain ⟨ht, hx⟩ := C.tm _ hm
      obtain ⟨K, _⟩ := A.nodeOk ht
      have hl := A.len
      have h1 := ht.1
      have h2 := ht.2
      have hg : l.getD (ys[i] - 1).toNat ((0 : Int) , ((0 : Int) , ((0 : Int) , ((0 : Int) , ((0 : Int) , (0 : Int)))))) = nd l ys[i] := by
        unfold nd
        rw [if_pos ht]
        rfl
      have wy : IntKind.wrap .i64 (ys[i] - 1) = ys[i] - 1 := w64 (by omega)
      have jy : inB (ys[i] - 1) l.length = true := inB_of (by omega)
      have ky : (ys[i] - 1).toNat < l.length := by omega
      have tk : ys.take (i + 1) = ys.take i ++ [ys[i]] := by rw [List.take_add_one, List.getElem?_eq_getElem c]; rfl
      by_cases h3 : (nd l ys[i]).op = 2
      · have hv := K.var h3
        obtain ⟨inn', q1, q2, q3⟩ := vars0 N A ws C n (i + 1) (inn.set (nd l ys[i]).v.toNat true) (by omega) (by omega) (by simpa using hlen) (fun t ht' h' => by
          rw [tk] at ht'
          rcases List.mem_append.1 ht' with q | q
          · exact (In.set _ _).2 _ (inv t q h')
          · rw [List.mem_singleton.1 q, getD_set, if_pos ⟨rfl, by omega⟩])
        refine ⟨inn', q1, q2, fun k => ?_⟩
        have iv : inB (nd l ys[i]).2.2.1 64 = true := inB_of ⟨hv.1, hv.2⟩
        have dv : (nd l ys[i]).2.2.1.toNat < 64 := by have := hv.2; have : (nd l ys[i]).2.2.1 < 64 := this; have : 0 ≤ (nd l ys[i]).2.2.1 := hv.1; omega
        have h3' : (nd l ys[i]).1 = 2 := h3
        unfold term_Arena_Vars_43b4_l0 term_Arena_Vars_43b4_l0_T0
        rw [decide_eq_true (by omega), br_true, inB_of (by omega), br_true, Int.toNat_natCast, decide_eq_true c, br_true]
        simp only [hy, wy, jy, ky, hg, h3', iv, dv, decide_true, br_true]
        rw [w64_succ (by have := C.len; omega)]
        exact q3 k
      · obtain ⟨inn', q1, q2, q3⟩ := vars0 N A ws C n (i + 1) inn (by omega) (by omega) hlen (fun t ht' h' => by
          rw [tk] at ht'
          rcases List.mem_append.1 ht' with q | q
          · exact inv t q h'
          · rw [List.mem_singleton.1 q] at h'
            exact absurd h' h3)
        refine ⟨inn', q1, q2, fun k => ?_⟩
        have h3' : ¬ (nd l ys[i]).1 = 2 := h3
        unfold term_Arena_Vars_43b4_l0 term_Arena_Vars_43b4_l0_T0
        rw [decide_eq_true (by omega), br_true, inB_of (by omega), br_true, Int.toNat_natCast, decide_eq_true c, br_true]
        simp only [hy, wy, jy, ky, hg, h3', decide_true, decide_false, br_true, br_false]
        rw [w64_succ (by have := C.len; omega)]
        exact q3 k
    · have e1 : i = ys.length := by omega
      refine ⟨inn, hlen, fun t ht => inv t (by rw [e1, List.take_length]; exact ht), fun k => ?_⟩
      unfold term_Arena_Vars_43b4_l0 term_Arena_Vars_43b4_l0_T0
      rw [decide_eq_false (by omega), br_false]

theorem Vars_eq (N : Nat) (hN : 70000 ≤ N ∧ N ≤ 2 ^ 62) {l : List Nd} {b : By} (A : Ar l b) (ws : Ws) {x : Int} (h : Tm l x) :
    ∃ ys inn, Cl l x ys ∧ inn.length = 64 ∧ (∀ t ∈ ys, (nd l t).op = 2 → inn.getD (nd l t).v.toNat false = true) ∧
      ∀ {R : Type} (k : List Nd → By → Ws → List Int → Option R), term_Arena_Vars_43b4 N x l b ws k = k l b ws (pickV inn 64) := by
  obtain ⟨ys, C, hu⟩ := Under_eq N A ws h hN
  obtain ⟨inn, q1, q2, q3⟩ := vars0 N A ws C N 0 (List.replicate 64 false) (by omega) (by have := C.len; omega) (by simp) (fun t ht => by simp at ht)
  refine ⟨ys, inn, C, q1, q2, fun k => ?_⟩
  unfold term_Arena_Vars_43b4 term_Arena_Vars_43b4_T
  rw [there1 N A.len b ws h (by omega), br_true, hu]
  refine (q3 _).trans ?_
  exact vars1 N l b ws inn _ N 0 (by omega) (by omega)

end Go.Proofs.Yteagdmkedffplaa
