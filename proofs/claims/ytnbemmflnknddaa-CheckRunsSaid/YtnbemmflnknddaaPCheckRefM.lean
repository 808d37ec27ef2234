/-
  the reference's check of programs (chapter 11): what is reached, the heights.
-/
import Derived.Test.YtnbemmflnknddaaPCheckRef
set_option linter.unusedSimpArgs false
set_option linter.unusedVariables false
namespace Go.Proofs.Ytnbemmflnknddaa
open Go.Gx

def nextsR (L : List Ins) (i : Nat) : List Int := (if jumpsI (opAt L i) then [aAt L i] else []) ++ (if endsI (opAt L i) then [] else [((i + 1 : Nat) : Int)])
theorem mem_nextsR {L : List Ins} {i : Nat} {t : Int} : t ∈ nextsR L i ↔ t ∈ nexts L i := by
  unfold nextsR nexts
  rw [List.mem_append, List.mem_append, Or.comm]

noncomputable def rstep (L : List Ins) (i : Nat) (s : Bool × List Bool) (h : Nat) : Bool × List Bool :=
  if at_ s.2 i h = true ∧ goes (opAt L i) h = true then (nextsR L i).foldl (mark (behind (opAt L i) h)) s else s
noncomputable def ristep (L : List Ins) (s : Bool × List Bool) (i : Nat) : Bool × List Bool := (List.range 17).foldl (rstep L i) s
noncomputable def rpass (L : List Ins) (s : Bool × List Bool) : Bool × List Bool := (List.range L.length).foldl (ristep L) s

theorem mark_cases (m : Nat) (g : Bool) (M : List Bool) (j : Nat) : mark m (g, M) (j : Int) = if at_ M j m = true then (g, M) else (true, M.set (j * 17 + m) true) := by
  unfold mark
  rw [Int.toNat_natCast]
  cases ha : at_ M j m with
  | true =>
    rw [if_pos rfl]
    have : M.getD (j * 17 + m) false = true := ha
    simp only [ha, set_same this, Bool.not_true, Bool.or_false]
  | false =>
    rw [if_neg (by simp)]
    simp

theorem foldl_len {L : List Ins} (m : Nat) : ∀ (T : List Int) (s : Bool × List Bool), (T.foldl (mark m) s).2.length = s.2.length
  | [], s => rfl
  | t :: T, s => by rw [List.foldl_cons, foldl_len (L := L) m T, mark_len]
theorem rstep_len (L : List Ins) (i : Nat) (s : Bool × List Bool) (h : Nat) : (rstep L i s h).2.length = s.2.length := by
  unfold rstep
  split
  · exact foldl_len (L := L) _ _ _
  · rfl

theorem ref_l6 {R : Type} (N : Nat) (k0 : Int → Bool → Int → List Ins → List ByteArray → List Int → List (List Bool) → Option R) {L : List Ins} (W : Well L) (names : List ByteArray) {i : Nat} (hi : i < L.length) :
    ∀ (n h : Nat), h ≤ 17 → 17 - h < n → ∀ (g : Bool) (M : List Bool), M.length = 1632 →
      ref12_Check_l6 N k0 n (L.length : Int) g (i : Int) (h : Int) L names (ixs L.length) (rowsOf L.length M) =
        k0 (L.length : Int) ((List.range' h (17 - h)).foldl (rstep L i) (g, M)).1 (i : Int) L names (ixs L.length) (rowsOf L.length ((List.range' h (17 - h)).foldl (rstep L i) (g, M)).2)
  | 0, h, _, hn, _, _, _ => by omega
  | n + 1, h, hh, hn, g, M, hM => by
    have h96 := W.len
    simp only [ref12_Check_l6, ref12_Check_l6_T0]
    by_cases hlt : h < 17
    · have hc : decide ((h : Int) ≤ 16) = true := decide_eq_true (by omega)
      have hr : List.range' h (17 - h) = h :: List.range' (h + 1) (17 - (h + 1)) := by
        rw [show 17 - h = (17 - (h + 1)) + 1 by omega, List.range'_succ]
      have ih := fun g M hM => ref_l6 N k0 W names hi n (h + 1) (by omega) (by omega) g M hM
      have hop := W.op i hi
      have e1 : (L.getD i (0, 0)).1 = opAt L i := rfl
      have e2 : (L.getD i (0, 0)).2 = aAt L i := rfl
      have hne : ∀ j : Nat, ¬ ((j : Int) < 0) := fun j => by omega
      have hsm := tb_small (opAt L i)
      have hw := w64_succ (show h < 9223372036854775807 by omega)
      rw [hr, List.foldl_cons]
      simp only [hc, br_true, inB_nat, ixs_len, hi, decide_true, Int.toNat_natCast, ixs_get hi, hne, if_false, rows_get M hi, row_len hM (show i < 96 by omega), hlt, row_at hlt, e1, e2, hw, Row_eq N hop, br_neg]
      cases ha : at_ M i h with
      | false =>
        have hs : rstep L i (g, M) h = (g, M) := by unfold rstep; rw [if_neg (by rw [ha]; simp)]
        rw [hs, br_false]
        exact ih g M hM
      | true =>
        rw [br_true]
        simp only [br_dec]
        by_cases c1 : (h : Int) < tk (opAt L i)
        · have hg : goes (opAt L i) h = false := by unfold goes; rw [decide_eq_false (by omega)]; rfl
          have hs : rstep L i (g, M) h = (g, M) := by unfold rstep; rw [if_neg (by rw [hg]; simp)]
          rw [if_pos c1, hs]
          exact ih g M hM
        rw [if_neg c1]
        have hwm : IntKind.wrap .i64 (IntKind.wrap .i64 ((h : Int) - tk (opAt L i)) + gv (opAt L i)) = (h : Int) - tk (opAt L i) + gv (opAt L i) := by rw [w64 (x := (h : Int) - tk (opAt L i)) (by omega), w64 (by omega)]
        simp only [hwm]
        by_cases c2 : (16 : Int) < (h : Int) - tk (opAt L i) + gv (opAt L i)
        · have hg : goes (opAt L i) h = false := by unfold goes; rw [decide_eq_false (p := (h : Int) - tk (opAt L i) + gv (opAt L i) ≤ 16) (by omega), Bool.and_false]
          have hs : rstep L i (g, M) h = (g, M) := by unfold rstep; rw [if_neg (by rw [hg]; simp)]
          rw [if_pos c2, hs]
          exact ih g M hM
        rw [if_neg c2]
        have hg : goes (opAt L i) h = true := by unfold goes; rw [decide_eq_true (show tk (opAt L i) ≤ (h : Int) by omega), decide_eq_true (by omega)]; rfl
        obtain ⟨g1, g2, g3⟩ := goes_spec hg
        have hs : rstep L i (g, M) h = (nextsR L i).foldl (mark (behind (opAt L i) h)) (g, M) := by unfold rstep; rw [if_pos ⟨ha, hg⟩]
        rw [hs, ← g1]
        generalize behind (opAt L i) h = m at g1 g2
        have hm : m < 17 := by omega
        -- a place that is looked at, and marked
        have hfall : endsI (opAt L i) = false → i + 1 < L.length := fun he => by
          have hmm : ((i + 1 : Nat) : Int) ∈ nexts L i := by unfold nexts; rw [he]; simp
          obtain ⟨j, e, hjl⟩ := W.nx i hi _ hmm
          omega
        have hjump : jumpsI (opAt L i) = true → ∃ j : Nat, aAt L i = (j : Int) ∧ j < L.length := fun hj => by
          have hmm : aAt L i ∈ nexts L i := by unfold nexts; rw [hj]; simp
          exact W.nx i hi _ hmm
        have hwi := w64_succ (show i < 9223372036854775807 by omega)
        have hsetl : ∀ x, (M.set x true).length = 1632 := fun x => by rw [List.length_set]; exact hM
        unfold jumpsI at hjump
        unfold endsI at hfall
        unfold nextsR jumpsI endsI
        by_cases q1 : opAt L i = 22
        · obtain ⟨j, ej, hj⟩ := hjump (by simp [q1])
          have hmk : [((j : Nat) : Int)].foldl (mark m) (g, M) = if at_ M j m = true then (g, M) else (true, M.set (j * 17 + m) true) := mark_cases m g M j
          simp only [q1, ej, Int.toNat_natCast, inB_nat, hj, hi, decide_true, br_true, br_false, if_true, ixs_len, ixs_get hj, hne, if_false, rows_get M hj, row_len hM (show j < 96 by omega), hm, row_at hm, hwi, Bool.not_true, Bool.not_false, decide_false, rows_set hM h96 hj hm, Bool.true_or, List.append_nil, Int.reduceEq]
          rw [hmk]
          cases hat : at_ M j m with
          | true => simpa using ih g M hM
          | false => simpa using ih true _ (hsetl _)
        · by_cases q2 : opAt L i = 23
          · obtain ⟨j, ej, hj⟩ := hjump (by simp [q2])
            have hf := hfall (by simp [q2])
            have hmk : [((j : Nat) : Int), ((i + 1 : Nat) : Int)].foldl (mark m) (g, M) = mark m (if at_ M j m = true then (g, M) else (true, M.set (j * 17 + m) true)) ((i + 1 : Nat) : Int) := by
              rw [List.foldl_cons, mark_cases]
              rfl
            simp only [q2, ej, Int.toNat_natCast, inB_nat, hj, hf, hi, decide_true, br_true, br_false, if_true, ixs_len, ixs_get hj, ixs_get hf, hne, if_false, rows_get M hj, rows_get M hf, row_len hM (show j < 96 by omega), row_len hM (show i + 1 < 96 by omega), hm, row_at hm, hwi, Bool.not_true, Bool.not_false, decide_false, rows_set hM h96 hj hm, rows_set hM h96 hf hm, Bool.true_or, Bool.false_or, Bool.or_false, Bool.or_self, List.append_nil, List.cons_append, List.nil_append, Int.reduceEq, Bool.false_eq_true]
            rw [hmk]
            cases hat : at_ M j m with
            | true =>
              simp only [Bool.not_true, br_false, if_true, Bool.not_false, br_true]
              rw [mark_cases]
              cases hat2 : at_ M (i + 1) m with
              | true => simpa using ih g M hM
              | false => simpa using ih true _ (hsetl _)
            | false =>
              have hM2 := hsetl (j * 17 + m)
              simp only [Bool.not_true, br_false, Bool.false_eq_true, if_false, Bool.not_false, br_true, rows_get _ hf, row_len hM2 (show i + 1 < 96 by omega), hm, decide_true, row_at hm, rows_set hM2 h96 hf hm]
              rw [mark_cases]
              cases hat2 : at_ (M.set (j * 17 + m) true) (i + 1) m with
              | true => simpa using ih true _ hM2
              | false => simpa using ih true _ (by rw [List.length_set]; exact hM2)
          · by_cases q3 : opAt L i = 26
            · simp only [q3, hi, inB_nat, decide_true, br_true, br_false, Bool.not_true, Bool.not_false, decide_false, if_true, if_false, Int.reduceEq, Bool.or_self, Bool.or_true, Bool.false_or, List.append_nil, List.foldl_nil, Bool.false_eq_true]
              simpa using ih g M hM
            · have hf := hfall (by simp [q1, q3])
              have d1 : decide (opAt L i = 22) = false := decide_eq_false q1
              have d2 : decide (opAt L i = 23) = false := decide_eq_false q2
              have d3 : decide (opAt L i = 26) = false := decide_eq_false q3
              have hmk : [((i + 1 : Nat) : Int)].foldl (mark m) (g, M) = if at_ M (i + 1) m = true then (g, M) else (true, M.set ((i + 1) * 17 + m) true) := mark_cases m g M (i + 1)
              simp only [q1, q2, q3, d1, d2, d3, decide_false, hi, hf, inB_nat, decide_true, br_true, br_false, Bool.not_true, Bool.not_false, if_true, if_false, Int.toNat_natCast, ixs_len, ixs_get hf, hne, rows_get M hf, row_len hM (show i + 1 < 96 by omega), hm, row_at hm, hwi, rows_set hM h96 hf hm, Bool.or_self, List.nil_append, Bool.false_eq_true, Bool.or_false, Bool.false_or]
              rw [hmk]
              cases hat : at_ M (i + 1) m with
              | true => simpa using ih g M hM
              | false => simpa using ih true _ (hsetl _)
    · have hc : decide ((h : Int) ≤ 16) = false := decide_eq_false (by omega)
      rw [hc, show 17 - h = 0 by omega]
      rfl

theorem rfold_len (L : List Ins) (i : Nat) : ∀ (T : List Nat) (s : Bool × List Bool), (T.foldl (rstep L i) s).2.length = s.2.length
  | [], s => rfl
  | t :: T, s => by rw [List.foldl_cons, rfold_len L i T, rstep_len]

theorem ref_l5 {R : Type} (N : Nat) (hN : 100 < N) (k0 : Int → Bool → List Ins → List ByteArray → List Int → List (List Bool) → Option R) {L : List Ins} (W : Well L) (names : List ByteArray) :
    ∀ (n i : Nat), i ≤ L.length → L.length - i < n → ∀ (g : Bool) (M : List Bool), M.length = 1632 →
      ref12_Check_l5 N k0 n (L.length : Int) g (i : Int) L names (ixs L.length) (rowsOf L.length M) =
        k0 (L.length : Int) ((List.range' i (L.length - i)).foldl (ristep L) (g, M)).1 L names (ixs L.length) (rowsOf L.length ((List.range' i (L.length - i)).foldl (ristep L) (g, M)).2)
  | 0, i, _, hn, _, _, _ => by omega
  | n + 1, i, hi, hn, g, M, hM => by
    have h96 := W.len
    simp only [ref12_Check_l5, ref12_Check_l5_T0, Int.ofNat_lt]
    by_cases hlt : i < L.length
    · rw [decide_eq_true hlt, br_true]
      refine (ref_l6 N _ W names hlt N 0 (by omega) (by omega) g M hM).trans ?_
      have e : ristep L (g, M) i = (List.range' 0 (17 - 0)).foldl (rstep L i) (g, M) := by unfold ristep; rw [List.range_eq_range']
      rw [← e]
      have hl : (ristep L (g, M) i).2.length = 1632 := by unfold ristep; rw [rfold_len]; exact hM
      rw [show L.length - i = (L.length - (i + 1)) + 1 by omega, List.range'_succ, List.foldl_cons, w64_succ (by omega)]
      clear e
      generalize ristep L (g, M) i = s at hl ⊢
      obtain ⟨g', M'⟩ := s
      exact ref_l5 N hN k0 W names n (i + 1) (by omega) (by omega) g' M' hl
    · rw [decide_eq_false hlt, br_false, show L.length - i = 0 by omega]
      rfl

theorem rstep_idle (L : List Ins) (i : Nat) : Idle (rstep L i) := fun s h e => by
  unfold rstep at e ⊢
  split
  · rename_i hc
    rw [if_pos hc] at e
    exact ((mark_idle _).fold _ _ e).1
  · rfl
theorem ristep_idle (L : List Ins) : Idle (ristep L) := fun s i e => ((rstep_idle L i).fold _ _ e).1

theorem rpass_closed {L : List Ins} {M : List Bool} (h : (rpass L (false, M)).1 = false) : rpass L (false, M) = (false, M) ∧ Closed L M := by
  obtain ⟨h1, h2⟩ := (ristep_idle L).fold _ _ h
  refine ⟨h1, fun i h j hi hh ha hg hj => ?_⟩
  have h3 := h2 i (List.mem_range.2 hi)
  have h4 : (ristep L (false, M) i).1 = false := by rw [h3]
  obtain ⟨_, h5⟩ := (rstep_idle L i).fold _ _ h4
  have h6 := h5 h (List.mem_range.2 (by omega))
  unfold rstep at h6
  rw [if_pos ⟨ha, hg⟩] at h6
  have h7 : ((nextsR L i).foldl (mark (behind (opAt L i) h)) (false, M)).1 = false := by rw [h6]
  obtain ⟨_, h8⟩ := (mark_idle _).fold _ _ h7
  have h9 := h8 (j : Int) (mem_nextsR.2 hj)
  rw [mark_cases] at h9
  cases hat : at_ M j (behind (opAt L i) h) with
  | true => rfl
  | false => rw [hat] at h9; simp at h9

theorem Fill.rpass {L : List Ins} (W : Well L) {c : Nat} {s : Bool × List Bool} (F : Fill L c s) : Fill L c (rpass L s) := by
  refine fold_inv (fun s i hi F => ?_) F
  have hi := List.mem_range.1 hi
  refine fold_inv (K := Fill L c) (fun s' h hh F' => ?_) F
  have hh := List.mem_range.1 hh
  unfold rstep
  split
  · rename_i hc
    obtain ⟨_, e2, _⟩ := goes_spec hc.2
    have hr := F'.snd i h hi (by omega) hc.1
    refine fold_inv (K := Fill L c) (fun s2 t ht F2 => ?_) F'
    have ht := mem_nextsR.1 ht
    obtain ⟨j, rfl, hj⟩ := W.nx i hi t ht
    exact F2.mark W.len hj e2 (.step hr hi (by omega) hc.2 ht)
  · exact F'

theorem ref_l4 (N : Nat) (hN : 100 < N) {L : List Ins} (W : Well L) (names : List ByteArray) : ∀ (n : Nat) (g : Bool) (M : List Bool), M.length = 1632 → at_ M 0 0 = true → (∀ i h, i < L.length → h ≤ 16 → at_ M i h = true → RR L i h) → (g = false → Closed L M) →
    1632 - M.count true + (if g then 2 else 1) ≤ n → ∃ M', Final L M' ∧ M'.length = 1632 ∧ ∀ {R : Type} (k0 : Int → List Ins → List ByteArray → List Int → List (List Bool) → Option R),
      ref12_Check_l4 N k0 n (L.length : Int) g L names (ixs L.length) (rowsOf L.length M) = k0 (L.length : Int) L names (ixs L.length) (rowsOf L.length M')
  | 0, g, M, _, _, _, _, hn => by cases g <;> simp at hn
  | n + 1, false, M, hl, hz, hs, hc, hn => ⟨M, ⟨hz, hs, hc rfl⟩, hl, fun k0 => rfl⟩
  | n + 1, true, M, hl, hz, hs, hc, hn => by
    have F : Fill L (M.count true) (rpass L (false, M)) := Fill.rpass W ⟨hl, Nat.le_refl _, (fun h => nomatch h), hz, hs⟩
    have hle : (rpass L (false, M)).2.count true ≤ 1632 := by rw [← F.len]; exact List.count_le_length
    have hcl : (rpass L (false, M)).1 = false → Closed L (rpass L (false, M)).2 := fun h => by
      obtain ⟨h1, h2⟩ := rpass_closed h
      rw [h1]
      exact h2
    have h1 := F.le
    have h2 := F.lt
    obtain ⟨M', h3, h3', h4⟩ := ref_l4 N hN W names n (rpass L (false, M)).1 (rpass L (false, M)).2 F.len F.zero F.snd hcl (by
      simp only [if_true] at hn
      cases hp : (rpass L (false, M)).1 with
      | false => simp; omega
      | true => have := h2 hp; simp; omega)
    refine ⟨M', h3, h3', fun k0 => ?_⟩
    have hL := W.len
    simp only [ref12_Check_l4, ref12_Check_l4_T0, br_true]
    refine (ref_l5 N hN _ W names N 0 (by omega) (by omega) false M hl).trans ?_
    rw [Nat.sub_zero, ← List.range_eq_range']
    exact h4 k0

/-! ### the rows are made -/
def ixsP (n q : Nat) : List Int := (List.range n).map fun (i : Nat) => if i < q then (i : Int) else -1
theorem ixsP_set {n q : Nat} (h : q < n) : (ixsP n q).set q (q : Int) = ixsP n (q + 1) := by
  unfold ixsP
  apply List.ext_getElem?
  intro j
  rw [List.getElem?_set, List.getElem?_map, List.getElem?_map, List.length_map, List.length_range]
  by_cases hj : j < n
  · rw [List.getElem?_range hj]
    simp only [Option.map_some]
    by_cases e : q = j
    · subst e
      rw [if_pos rfl, if_pos h, if_pos (by omega)]
    · rw [if_neg e]
      congr 1
      by_cases hq : j < q
      · rw [if_pos hq, if_pos (by omega)]
      · rw [if_neg hq, if_neg (by omega)]
  · have e1 : (List.range n)[j]? = none := List.getElem?_eq_none (by rw [List.length_range]; omega)
    rw [e1, if_neg (by omega)]
    rfl
theorem ixsP_full (n : Nat) : ixsP n n = ixs n := by
  unfold ixsP ixs
  exact List.map_congr_left fun i hi => by rw [if_pos (List.mem_range.1 hi)]
theorem ixsP_zero (n : Nat) : ixsP n 0 = List.replicate n (-1) := by
  unfold ixsP
  apply List.ext_getElem?
  intro j
  rw [List.getElem?_map, List.getElem?_replicate]
  by_cases hj : j < n
  · rw [List.getElem?_range hj, if_pos hj]; rfl
  · rw [List.getElem?_eq_none (by rw [List.length_range]; omega), if_neg hj]; rfl

def noM : List Bool := List.replicate 1632 false
theorem noM_len : noM.length = 1632 := List.length_replicate
theorem rows_new {q : Nat} (h : q < 96) : rowsOf q noM ++ [List.replicate 17 false] = rowsOf (q + 1) noM := by
  unfold rowsOf
  rw [List.range_succ, List.map_append]
  congr 1
  simp only [List.map_cons, List.map_nil]
  congr 1
  unfold noM
  rw [List.drop_replicate, List.take_replicate]
  congr 1
  omega

theorem ref_l3 {R : Type} (N : Nat) (k0 : Int → List Ins → List ByteArray → List Int → List (List Bool) → Option R) {L : List Ins} (hl : L.length ≤ 96) (names : List ByteArray) :
    ∀ (n q : Nat), q ≤ L.length → L.length - q < n → ref12_Check_l3 N k0 n (L.length : Int) (q : Int) L names (ixsP L.length q) (rowsOf q noM) = k0 (L.length : Int) L names (ixs L.length) (rowsOf L.length noM)
  | 0, q, _, hn => by omega
  | n + 1, q, hq, hn => by
    simp only [ref12_Check_l3, ref12_Check_l3_T0, Int.ofNat_lt]
    by_cases hlt : q < L.length
    · have h1 : (ixsP L.length q).length = L.length := by simp [ixsP]
      have h2 : (rowsOf q noM).length = q := by simp [rowsOf]
      simp only [hlt, decide_true, br_true, inB_nat, h1, h2, Int.toNat_natCast, w64_succ (show q < 9223372036854775807 by omega), ixsP_set hlt, rows_new (show q < 96 by omega)]
      exact ref_l3 N k0 hl names n (q + 1) (by omega) (by omega)
    · obtain rfl : q = L.length := by omega
      simp only [hlt, decide_false, br_false, ixsP_full]

/-! ### the heights -/
theorem hfold_false (L : List Ins) (i : Nat) (M : List Bool) : ∀ (T : List Nat) (v : Int), (T.foldl (hstepH L i M) (v, false)).2 = false
  | [], v => rfl
  | t :: T, v => by
    rw [List.foldl_cons]
    unfold hstepH
    split
    · exact hfold_false L i M T _
    · exact hfold_false L i M T _

theorem ref_l8 {R : Type} (N : Nat) (k0 : Int → Int → Int → Int → List Ins → List ByteArray → List Int → List (List Bool) → List Int → Option R) (k1 : Int → Int → List Ins → List ByteArray → List Int → List (List Bool) → List Int → Option R) {L : List Ins} (W : Well L) (names : List ByteArray)
    {M : List Bool} (hM : M.length = 1632) {i : Nat} (hi : i < L.length) (kk : Option R) (hk : ∀ hs, k0 (i : Int) 7 (L.length : Int) (i : Int) L names (ixs L.length) (rowsOf L.length M) hs = kk) :
    ∀ (n h : Nat), h ≤ 17 → 17 - h < n → ∀ (hs : List Int), hs.length = L.length → (hs.getD i 0 = -1 ∨ 0 ≤ hs.getD i 0) →
      ref12_Check_l8 N k0 k1 n (L.length : Int) (i : Int) (tk (opAt L i)) (gv (opAt L i)) (h : Int) L names (ixs L.length) (rowsOf L.length M) hs =
        if ((List.range' h (17 - h)).foldl (hstepH L i M) (hs.getD i 0, true)).2 then k1 (L.length : Int) (i : Int) L names (ixs L.length) (rowsOf L.length M) (hs.set i ((List.range' h (17 - h)).foldl (hstepH L i M) (hs.getD i 0, true)).1) else kk
  | 0, h, _, hn, _, _, _ => by omega
  | n + 1, h, hh, hn, hs, hl, hv => by
    have h96 := W.len
    simp only [ref12_Check_l8, ref12_Check_l8_T0]
    by_cases hlt : h < 17
    · have hc : decide ((h : Int) ≤ 16) = true := decide_eq_true (by omega)
      have hr : List.range' h (17 - h) = h :: List.range' (h + 1) (17 - (h + 1)) := by
        rw [show 17 - h = (17 - (h + 1)) + 1 by omega, List.range'_succ]
      have hne : ∀ j : Nat, ¬ ((j : Int) < 0) := fun j => by omega
      have hsm := tb_small (opAt L i)
      have hw := w64_succ (show h < 9223372036854775807 by omega)
      have hwm : IntKind.wrap .i64 (IntKind.wrap .i64 ((h : Int) - tk (opAt L i)) + gv (opAt L i)) = (h : Int) - tk (opAt L i) + gv (opAt L i) := by rw [w64 (x := (h : Int) - tk (opAt L i)) (by omega), w64 (by omega)]
      rw [hr, List.foldl_cons]
      simp only [hc, br_true, inB_nat, ixs_len, hi, hl, decide_true, Int.toNat_natCast, ixs_get hi, hne, if_false, rows_get M hi, row_len hM (show i < 96 by omega), hlt, row_at hlt, hw, hwm, br_neg, hk]
      cases ha : at_ M i h with
      | false =>
        have hs' : hstepH L i M (hs.getD i 0, true) h = (hs.getD i 0, true) := by unfold hstepH; rw [if_neg (by rw [ha]; simp)]
        rw [hs', br_false]
        exact ref_l8 N k0 k1 W names hM hi kk hk n (h + 1) (by omega) (by omega) hs hl hv
      | true =>
        have hs' : hstepH L i M (hs.getD i 0, true) h = ((h : Int), goes (opAt L i) h && decide (hs.getD i 0 = -1)) := by unfold hstepH; rw [if_pos ha]; simp
        rw [hs', br_true]
        simp only [br_dec]
        by_cases c0 : 0 ≤ hs.getD i 0
        · rw [if_pos c0, decide_eq_false (show ¬ hs.getD i 0 = -1 by omega), Bool.and_false, hfold_false]
          rfl
        rw [if_neg c0, decide_eq_true (show hs.getD i 0 = -1 by omega), Bool.and_true]
        by_cases c1 : (h : Int) < tk (opAt L i)
        · have hg : goes (opAt L i) h = false := by unfold goes; rw [decide_eq_false (by omega)]; rfl
          rw [if_pos c1, hg, hfold_false]
          rfl
        rw [if_neg c1]
        by_cases c2 : (16 : Int) < (h : Int) - tk (opAt L i) + gv (opAt L i)
        · have hg : goes (opAt L i) h = false := by unfold goes; rw [decide_eq_false (p := (h : Int) - tk (opAt L i) + gv (opAt L i) ≤ 16) (by omega), Bool.and_false]
          rw [if_pos c2, hg, hfold_false]
          rfl
        rw [if_neg c2]
        have hg : goes (opAt L i) h = true := by unfold goes; rw [decide_eq_true (show tk (opAt L i) ≤ (h : Int) by omega), decide_eq_true (by omega)]; rfl
        have hgs : (hs.set i (h : Int)).getD i 0 = (h : Int) := by rw [List.getD_eq_getElem?_getD, List.getElem?_set_self (by omega)]; rfl
        have ih := ref_l8 N k0 k1 W names hM hi kk hk n (h + 1) (by omega) (by omega) (hs.set i (h : Int)) (by rw [List.length_set]; exact hl) (.inr (by rw [hgs]; omega))
        rw [hgs, List.set_set] at ih
        rw [hg]
        exact ih
    · have hc : decide ((h : Int) ≤ 16) = false := decide_eq_false (by omega)
      have hgs : hs.set i (hs.getD i 0) = hs := by
        rw [getD_lt (by omega : i < hs.length)]
        exact List.set_getElem_self (by omega)
      rw [hc, show 17 - h = 0 by omega]
      simp only [br_false, List.range'_zero, List.foldl_nil, if_true]
      rw [hgs]

noncomputable def hList (L : List Ins) (M : List Bool) (q : Nat) : List Int := (List.range L.length).map fun j => if j < q then (hgt L M j).1 else 0
theorem hList_len (L : List Ins) (M : List Bool) (q : Nat) : (hList L M q).length = L.length := by simp [hList]
theorem hList_set {L : List Ins} {M : List Bool} {q : Nat} (h : q < L.length) : (hList L M q).set q (hgt L M q).1 = hList L M (q + 1) := by
  unfold hList
  apply List.ext_getElem?
  intro j
  rw [List.getElem?_set, List.getElem?_map, List.getElem?_map, List.length_map, List.length_range]
  by_cases hj : j < L.length
  · rw [List.getElem?_range hj]
    simp only [Option.map_some]
    by_cases e : q = j
    · subst e
      rw [if_pos rfl, if_pos h, if_pos (by omega)]
    · rw [if_neg e]
      congr 1
      by_cases hq : j < q
      · rw [if_pos hq, if_pos (by omega)]
      · rw [if_neg hq, if_neg (by omega)]
  · have e1 : (List.range L.length)[j]? = none := List.getElem?_eq_none (by rw [List.length_range]; omega)
    rw [e1, if_neg (by omega)]
    rfl

theorem ref_l7 {R : Type} (N : Nat) (hN : 100 < N) (k0 : Int → Int → List Int → Option R) (k1 : List Int → Option R) {L : List Ins} (W : Well L) (names : List ByteArray) {M : List Bool} (hM : M.length = 1632) (kk : Int → Option R) (hk : ∀ (i : Int) hs, k0 i 7 hs = kk i) :
    ∀ (n i : Nat), i ≤ L.length → L.length - i < n → ref12_Check_l7 N k0 k1 n (L.length : Int) (i : Int) L names (ixs L.length) (rowsOf L.length M) (hList L M i) =
      match (List.range' i (L.length - i)).find? (fun i => !(hgt L M i).2) with
      | some j => kk (j : Int)
      | none => k1 (hList L M L.length)
  | 0, i, _, hn => by omega
  | n + 1, i, hi, hn => by
    have h96 := W.len
    simp only [ref12_Check_l7, ref12_Check_l7_T0, Int.ofNat_lt]
    by_cases hlt : i < L.length
    · have ih := ref_l7 N hN k0 k1 W names hM kk hk n (i + 1) (by omega) (by omega)
      have e1 : (L.getD i (0, 0)).1 = opAt L i := rfl
      have hl : ((hList L M i).set i (-1)).length = L.length := by rw [List.length_set, hList_len]
      have hg : ((hList L M i).set i (-1)).getD i 0 = -1 := by rw [List.getD_eq_getElem?_getD, List.getElem?_set_self (by rw [hList_len]; exact hlt)]; rfl
      simp only [hlt, decide_true, br_true, inB_nat, hList_len, Int.toNat_natCast, e1, Row_eq N (W.op i hlt)]
      refine (ref_l8 N _ _ W names hM hlt (kk (i : Int)) (fun hs => hk _ hs) N 0 (by omega) (by omega) _ hl (.inl hg)).trans ?_
      rw [hg, Nat.sub_zero, ← List.range_eq_range', List.set_set]
      have eh : (List.range 17).foldl (hstepH L i M) (-1, true) = hgt L M i := rfl
      rw [eh, hList_set hlt, show L.length - i = (L.length - (i + 1)) + 1 by omega, find_range', w64_succ (by omega)]
      cases hv : (hgt L M i).2 with
      | true => simpa using ih
      | false => simp
    · obtain rfl : i = L.length := by omega
      simp only [hlt, decide_false, br_false, Nat.sub_self]
      rfl

/-! ### all of it -/
theorem at_no (i h : Nat) (ha : at_ (noM.set 0 true) i h = true) : i = 0 ∧ h = 0 := by
  unfold at_ noM at ha
  rw [List.getD_eq_getElem?_getD, List.getElem?_set] at ha
  split at ha
  · omega
  · rw [List.getElem?_replicate] at ha
    split at ha <;> simp at ha

theorem pow46 : (2 : Int) ^ (46 : Nat) = 70368744177664 := by decide

theorem CheckRef_eq (N : Nat) (hN : 2000 < N) {L : List Ins} {names : List ByteArray} {i e : Int} (h : RunIs L names i e) :
    ∃ H : List Int, (∀ {R : Type} (k : Int → Int → List Int → Option R), ref12_Check N L names k = k i e H) ∧ (e ≠ 0 → H = []) ∧ (e = 0 → ∃ M, Final L M ∧ H = hList L M L.length) := by
  by_cases h0 : L.length = 0
  · have : i = 0 ∧ e = 3 := by
      cases h with
      | size => exact ⟨rfl, rfl⟩
      | name h1 => omega
      | one j e h1 => omega
      | stack j M h1 => omega
      | ok M h1 => omega
    obtain ⟨rfl, rfl⟩ := this
    refine ⟨[], fun k => ?_, fun _ => rfl, fun h => absurd h (by decide)⟩
    unfold ref12_Check ref12_Check_T
    have e1 : decide ((L.length : Int) = 0) = true := decide_eq_true (by omega)
    simp only [e1, Bool.not_true, br_false]
  have e1 : decide ((L.length : Int) = 0) = false := decide_eq_false (by omega)
  by_cases h96 : 96 < L.length
  · have : i = 0 ∧ e = 3 := by
      cases h with
      | size => exact ⟨rfl, rfl⟩
      | name _ h2 => omega
      | one j e _ h2 => omega
      | stack j M _ _ _ W => have := W.len; omega
      | ok M _ _ _ W => have := W.len; omega
    obtain ⟨rfl, rfl⟩ := this
    refine ⟨[], fun k => ?_, fun _ => rfl, fun h => absurd h (by decide)⟩
    unfold ref12_Check ref12_Check_T
    have e2 : decide ((96 : Int) < (L.length : Int)) = true := decide_eq_true (by omega)
    simp only [e1, e2, Bool.not_true, Bool.not_false, br_true, br_false]
  have e2 : decide ((96 : Int) < (L.length : Int)) = false := decide_eq_false (by omega)
  by_cases h8 : 8 < names.length
  · have : i = 0 ∧ e = 3 := by
      cases h with
      | size => exact ⟨rfl, rfl⟩
      | name _ _ h3 => omega
      | one j e _ _ h3 => omega
      | stack j M _ h3 => omega
      | ok M _ h3 => omega
    obtain ⟨rfl, rfl⟩ := this
    refine ⟨[], fun k => ?_, fun _ => rfl, fun h => absurd h (by decide)⟩
    unfold ref12_Check ref12_Check_T
    have e3 : decide ((8 : Int) < (names.length : Int)) = true := decide_eq_true (by omega)
    simp only [e1, e2, e3, Bool.not_false, br_true]
  have e3 : decide ((8 : Int) < (names.length : Int)) = false := decide_eq_false (by omega)
  have c24 : ((((decide ((0 : Int) ≤ (L.length : Int))) && (decide ((L.length : Int) ≤ (L.length : Int)))) && (decide (((L.length : Int) * (24 : Int)) ≤ ((2 : Int) ^ (46 : Nat))))) && true) = true := by
    rw [pow46, decide_eq_true (by omega), decide_eq_true (by omega), decide_eq_true (by omega)]; rfl
  have c8 : ((((decide ((0 : Int) ≤ (L.length : Int))) && (decide ((L.length : Int) ≤ (L.length : Int)))) && (decide (((L.length : Int) * (8 : Int)) ≤ ((2 : Int) ^ (46 : Nat))))) && true) = true := by
    rw [pow46, decide_eq_true (by omega), decide_eq_true (by omega), decide_eq_true (by omega)]; rfl
  have run : ∀ {R : Type} (k : Int → Int → List Int → Option R), ref12_Check N L names k =
      if names.all nameA then (match (List.range' 0 L.length).find? (fun i => decide (oneV L (names.length : Int) i ≠ 0)) with
        | some j => k (j : Int) (oneV L (names.length : Int) j) []
        | none => ref12_Check_l4 N (fun i413 l414 l415 l416 l417 => br ((((decide ((0 : Int) ≤ i413)) && (decide (i413 ≤ i413))) && (decide ((i413 * (8 : Int)) ≤ ((2 : Int) ^ (46 : Nat))))) && true)
             (ref12_Check_l7 N
              (fun i439 i440 l441 => k i439 i440 ([] : List (Int)))
              (fun l442 => k (0 : Int) (0 : Int) l442)
              N i413 (0 : Int) l414 l415 l416 l417 (List.replicate (Int.toNat i413) (0 : Int)))
             (none)) N (L.length : Int) true L names (ixs L.length) (rowsOf L.length (noM.set 0 true))) else k 0 10 [] := fun k => by
    unfold ref12_Check ref12_Check_T
    simp only [e1, e2, e3, Bool.not_false, br_true, br_false]
    refine (ref_l0 N (by omega) _ _ names (by omega) _ L N 0 (by omega) (by omega)).trans ?_
    rw [List.drop_zero]
    split
    · refine (ref_l1 N (by omega) _ _ (by omega) names N 0 (by omega) (by omega)).trans ?_
      rw [Nat.sub_zero]
      cases (List.range' 0 L.length).find? (fun i => decide (oneV L (names.length : Int) i ≠ 0)) with
      | some j => rfl
      | none =>
        simp only []
        rw [c24, br_true, Int.toNat_natCast, ← ixsP_zero]
        refine (ref_l3 N _ (by omega) names N 0 (by omega) (by omega)).trans ?_
        have hp : 0 < L.length := by omega
        have hr0 : (rowsOf L.length noM).set 0 (((noM.drop (0 * 17)).take 17).set 0 true) = rowsOf L.length (noM.set (0 * 17 + 0) true) := rows_set noM_len (by omega) hp (by omega)
        have hz : inB 0 L.length = true := inB_of (by omega)
        have hl17 : ((noM.drop (0 * 17)).take 17).length = 17 := row_len noM_len (by omega)
        have h17 : inB 0 17 = true := by decide
        have hn0 : ¬ (((0 : Nat) : Int) < 0) := by omega
        simp only [ixs_len, hz, hp, decide_true, br_true, ixs_get hp, hn0, if_false, Int.toNat_natCast, rows_get noM hp, hl17, h17, hr0]
    · rfl
  cases hall : names.all nameA with
  | false =>
    have : i = 0 ∧ e = 10 := by
      cases h with
      | size h => omega
      | name => exact ⟨rfl, rfl⟩
      | one j e _ _ _ h4 => rw [hall] at h4; cases h4
      | stack j M _ _ h4 => rw [hall] at h4; cases h4
      | ok M _ _ h4 => rw [hall] at h4; cases h4
    obtain ⟨rfl, rfl⟩ := this
    exact ⟨[], fun k => by rw [run, hall]; rfl, fun _ => rfl, fun h => absurd h (by decide)⟩
  | true =>
    cases hf : (List.range' 0 L.length).find? (fun i => decide (oneV L (names.length : Int) i ≠ 0)) with
    | some j =>
      obtain ⟨h1, h2, h3⟩ := find_some hf
      have h2 : oneV L (names.length : Int) j ≠ 0 := by simpa using h2
      have : i = (j : Int) ∧ e = oneV L (names.length : Int) j := by
        cases h with
        | size h => omega
        | name _ _ _ h4 => rw [hall] at h4; cases h4
        | one q _ _ _ _ _ q1 q2 q3 q4 =>
          have : q = j := by
            rcases Nat.lt_trichotomy q j with hh | hh | hh
            · have := h3 q hh
              have : oneV L (names.length : Int) q = 0 := by simpa using this
              rw [q2] at this
              exact absurd this q3
            · exact hh
            · exact absurd (q4 j hh) h2
          subst this
          exact ⟨rfl, q2.symm⟩
        | stack q M _ _ _ _ h5 => exact absurd (h5 j h1) h2
        | ok M _ _ _ _ h5 => exact absurd (h5 j h1) h2
      obtain ⟨rfl, rfl⟩ := this
      exact ⟨[], fun k => by rw [run, hall, hf]; rfl, fun _ => rfl, fun h => absurd h h2⟩
    | none =>
      have hone : ∀ i, i < L.length → oneV L (names.length : Int) i = 0 := fun i hi => by have := find_none hf i hi; simpa using this
      have W := well_of (nn := (names.length : Int)) (by omega) hone
      have hz : at_ (noM.set 0 true) 0 0 = true := by
        unfold at_ noM
        rw [List.getD_eq_getElem?_getD, List.getElem?_set_self (by rw [List.length_replicate]; omega)]
        rfl
      have hlen : (noM.set 0 true).length = 1632 := by rw [List.length_set, noM_len]
      obtain ⟨M, FM, hM, hr⟩ := ref_l4 N (by omega) W names N true (noM.set 0 true) hlen hz (fun i h _ _ hx => by
        obtain ⟨rfl, rfl⟩ := at_no i h hx
        exact .start) (fun h => nomatch h) (by simp only [if_true]; omega)
      have hh0 : List.replicate L.length (0 : Int) = hList L M 0 := by
        unfold hList
        apply List.ext_getElem?
        intro j
        rw [List.getElem?_map, List.getElem?_replicate]
        by_cases hj : j < L.length
        · rw [List.getElem?_range hj, if_pos hj]; rfl
        · rw [List.getElem?_eq_none (l := List.range L.length) (by rw [List.length_range]; omega), if_neg hj]; rfl
      have run2 : ∀ {R : Type} (k : Int → Int → List Int → Option R), ref12_Check N L names k = match (List.range' 0 L.length).find? (fun i => !(hgt L M i).2) with
          | some j => k (j : Int) 7 []
          | none => k 0 0 (hList L M L.length) := fun k => by
        rw [run, hall, hf]
        simp only [if_true]
        refine (hr _).trans ?_
        rw [c8, br_true, Int.toNat_natCast, hh0]
        refine (ref_l7 N (by omega) _ _ W names hM (fun j => k j 7 []) (fun i hs => rfl) N 0 (by omega) (by omega)).trans ?_
        rw [Nat.sub_zero]
      have h0' : 0 < L.length := by omega
      cases hf2 : (List.range' 0 L.length).find? (fun i => !(hgt L M i).2) with
      | some j =>
        obtain ⟨h1, h2, h3⟩ := find_some hf2
        have h2 : (hgt L M j).2 = false := by simpa using h2
        have : i = (j : Int) ∧ e = 7 := by
          cases h with
          | size h => omega
          | name _ _ _ h4 => rw [hall] at h4; cases h4
          | one q _ _ _ _ _ q1 q2 q3 q4 => exact absurd (by rw [← q2]; exact hone q q1) q3
          | stack q M' _ _ _ _ _ F' q1 q2 q3 =>
            have : q = j := by
              rcases Nat.lt_trichotomy q j with hh | hh | hh
              · have := h3 q hh
                have : (hgt L M q).2 = true := by simpa using this
                rw [FM.same W h0' F' q1, q2] at this
                cases this
              · exact hh
              · have := q3 j hh
                rw [← FM.same W h0' F' h1, h2] at this
                cases this
            subst this
            exact ⟨rfl, rfl⟩
          | ok M' _ _ _ _ _ F' q3 =>
            have := q3 j h1
            rw [← FM.same W h0' F' h1, h2] at this
            cases this
        obtain ⟨rfl, rfl⟩ := this
        exact ⟨[], fun k => by rw [run2, hf2], fun _ => rfl, fun h => absurd h (by decide)⟩
      | none =>
        have hw : ∀ q, q < L.length → (hgt L M q).2 = true := fun q hq => by have := find_none hf2 q hq; simpa using this
        have : i = 0 ∧ e = 0 := by
          cases h with
          | size h => omega
          | name _ _ _ h4 => rw [hall] at h4; cases h4
          | one q _ _ _ _ _ q1 q2 q3 q4 => exact absurd (by rw [← q2]; exact hone q q1) q3
          | stack q M' _ _ _ _ _ F' q1 q2 q3 =>
            have := hw q q1
            rw [FM.same W h0' F' q1, q2] at this
            cases this
          | ok => exact ⟨rfl, rfl⟩
        obtain ⟨rfl, rfl⟩ := this
        exact ⟨hList L M L.length, fun k => by rw [run2, hf2], fun h => absurd rfl h, fun _ => ⟨M, FM, rfl⟩⟩

end Go.Proofs.Ytnbemmflnknddaa
