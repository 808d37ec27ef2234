/-
  the reference's check of programs (chapter 11): it comes to what the program's comes to.
-/
import Derived.Test.YtnbemmflnknddaaPCheckH
import Derived.Test.YtnbemmflnknddaaPRefName
set_option linter.unusedSimpArgs false
set_option linter.unusedVariables false
namespace Go.Proofs.Ytnbemmflnknddaa
open Go.Gx

/-! ### the rows of a matrix -/
def rowsOf (n : Nat) (M : List Bool) : List (List Bool) := (List.range n).map fun i => (M.drop (i * 17)).take 17
def ixs (n : Nat) : List Int := (List.range n).map fun (i : Nat) => (i : Int)

theorem ixs_len (n : Nat) : (ixs n).length = n := by simp [ixs]
theorem ixs_get {n j : Nat} (h : j < n) : (ixs n).getD j (-1) = (j : Int) := by
  unfold ixs
  rw [List.getD_eq_getElem?_getD, List.getElem?_map, List.getElem?_range h]
  rfl
theorem rows_get {n i : Nat} (M : List Bool) (h : i < n) : (rowsOf n M).getD i [] = (M.drop (i * 17)).take 17 := by
  unfold rowsOf
  rw [List.getD_eq_getElem?_getD, List.getElem?_map, List.getElem?_range h]
  rfl
theorem row_len {M : List Bool} {i : Nat} (hM : M.length = 1632) (hi : i < 96) : ((M.drop (i * 17)).take 17).length = 17 := by
  rw [List.length_take, List.length_drop]; omega

theorem rows_set {M : List Bool} {n i h : Nat} (hM : M.length = 1632) (hn : n ≤ 96) (hi : i < n) (hh : h < 17) :
    (rowsOf n M).set i (((M.drop (i * 17)).take 17).set h true) = rowsOf n (M.set (i * 17 + h) true) := by
  unfold rowsOf
  apply List.ext_getElem?
  intro j
  rw [List.getElem?_set, List.getElem?_map, List.getElem?_map, List.length_map, List.length_range]
  by_cases hj : j < n
  · rw [List.getElem?_range hj]
    simp only [Option.map_some]
    by_cases e : i = j
    · subst e
      rw [if_pos rfl, if_pos hi]
      congr 1
      apply List.ext_getElem?
      intro q
      by_cases hq : q < 17
      · rw [List.getElem?_set, List.getElem?_take_of_lt hq, List.getElem?_drop, List.getElem?_take_of_lt hq, List.getElem?_drop, List.getElem?_set, row_len hM (by omega), hM]
        by_cases e2 : h = q
        · subst e2
          rw [if_pos rfl, if_pos (by omega), if_pos rfl, if_pos (by omega)]
        · rw [if_neg e2, if_neg (by omega)]
      · rw [List.getElem?_eq_none (by rw [List.length_set, row_len hM (by omega)]; omega), List.getElem?_eq_none (by rw [List.length_take]; omega)]
    · rw [if_neg e]
      congr 1
      apply List.ext_getElem?
      intro q
      by_cases hq : q < 17
      · rw [List.getElem?_take_of_lt hq, List.getElem?_drop, List.getElem?_take_of_lt hq, List.getElem?_drop, List.getElem?_set, if_neg (by omega)]
      · rw [List.getElem?_eq_none (by rw [List.length_take]; omega), List.getElem?_eq_none (by rw [List.length_take]; omega)]
  · have e1 : (List.range n)[j]? = none := List.getElem?_eq_none (by rw [List.length_range]; omega)
    rw [e1, if_neg (by omega)]
    rfl

/-! ### instructions -/
theorem tblR_most {op : Int} (hv : (tb op).2.2.2 = true) : (tblR.getD op.toNat (bs [], 0, 0, 0)).2.2.2 + 1 = (tb op).2.2.1 := by
  exact tb_dec (P := fun op => (tblR.getD op.toNat (bs [], 0, 0, 0)).2.2.2 + 1 = (tb op).2.2.1) (by decide +kernel) op hv
theorem tb_ok {op : Int} (ho : 1 ≤ op ∧ op ≤ 41) : (tb op).2.2.2 = true := tb_in (P := fun op => (tb op).2.2.2 = true) (by decide +kernel) ho

theorem InstMay_eq {R : Type} (N : Nat) (op a : Int) (k : Bool → Option R) : ref12_InstMay N op a k = k (isI op a) := by
  unfold ref12_InstMay ref12_InstMay_T
  by_cases ho : 1 ≤ op ∧ op ≤ 41
  · have hv := tb_ok ho
    rw [Row_eq N hv]
    have hm := tblR_most hv
    unfold isI
    rw [hv, br_true, br_dec]
    by_cases h0 : 0 ≤ a
    · rw [if_pos h0, decide_eq_true h0, Bool.true_and, Bool.true_and]
      have e : (a ≤ (tblR.getD op.toNat (bs [], 0, 0, 0)).2.2.2) = (a < (tb op).2.2.1) := propext ⟨fun h => by omega, fun h => by omega⟩
      simp only [e]
    · rw [if_neg h0, decide_eq_false h0]
      simp
  · have hI : isI op a = false := by unfold isI; rw [tb_out ho]; rfl
    rw [hI]
    unfold ref12_Row ref12_Row_T
    rw [tblR_eq, tblR_len]
    by_cases h1 : op < 1
    · have e1 : decide (op < 1) = true := decide_eq_true h1
      simp only [e1, Bool.not_true, br_false]
    · have e1 : decide (op < 1) = false := decide_eq_false h1
      have e2 : decide (((42 : Nat) : Int) ≤ op) = true := decide_eq_true (by omega)
      simp only [e1, e2, Bool.not_false, br_true, br_false]

/-- the names that an instruction speaks of -/
def nmI (op a : Int) : List Int := if op = 27 ∨ op = 33 ∨ op = 35 ∨ op = 36 ∨ op = 37 then [a] else if op = 34 then [a / 8, a % 8] else []
theorem nm_eq {R : Type} (N : Nat) (op a : Int) (ha : 0 ≤ a ∧ a < 9223372036854775807) (k : List Int → Option R) : ref12_names N op a k = k (nmI op a) := by
  unfold ref12_names ref12_names_T nmI
  have h1 : Int.tdiv a 8 = a / 8 := Int.tdiv_eq_ediv_of_nonneg ha.1
  have h2 : Int.tmod a 8 = a % 8 := Int.tmod_eq_emod_of_nonneg ha.1
  rw [h1, h2, w64 (by omega)]
  simp only [br_dec]
  by_cases a1 : op = 27
  · simp [a1]
  by_cases a2 : op = 33
  · simp [a2]
  by_cases a3 : op = 35
  · simp [a3]
  by_cases a4 : op = 36
  · simp [a4]
  by_cases a5 : op = 37
  · simp [a5]
  by_cases a6 : op = 34
  · simp [a6]
  · simp [a1, a2, a3, a4, a5, a6]
theorem nmI_all (op a nn : Int) : (nmI op a).all (fun x => decide (x < nn)) = namesI op a nn := by
  unfold nmI namesI
  split
  · simp
  · split
    · simp
    · rfl
theorem nmI_len (op a : Int) : (nmI op a).length ≤ 2 := by
  unfold nmI
  split
  · simp
  · split <;> simp

theorem ref_l2 {R : Type} (N : Nat) (k0 : Int → Int → Int → Int → List Ins → List ByteArray → Int → Int → Option R) (k1 : Int → Int → List Ins → List ByteArray → Int → Int → Option R) (nI i : Int) (L : List Ins) (names : List ByteArray) (op a : Int) (T : List Int) (hT : T.length ≤ 2) :
    ∀ (n q : Nat), q ≤ T.length → T.length - q < n → ref12_Check_l2 N k0 k1 n nI i (q : Int) L names op a T =
      if (T.drop q).all (fun x => decide (x < (names.length : Int))) then k1 nI i L names op a else k0 i 10 nI i L names op a
  | 0, q, _, hn => by omega
  | n + 1, q, hq, hn => by
    simp only [ref12_Check_l2, ref12_Check_l2_T0, Int.ofNat_lt]
    by_cases hlt : q < T.length
    · have ih := ref_l2 N k0 k1 nI i L names op a T hT n (q + 1) (by omega) (by omega)
      have hd : T.drop q = T[q] :: T.drop (q + 1) := List.drop_eq_getElem_cons hlt
      simp only [hlt, decide_true, br_true, inB_nat, Int.toNat_natCast, getD_lt hlt, w64_succ (show q < 9223372036854775807 by omega), hd, List.all_cons, br_dec]
      by_cases hx : T[q] < (names.length : Int)
      · rw [if_neg (by omega), decide_eq_true hx, Bool.true_and]
        exact ih
      · rw [if_pos (by omega), decide_eq_false hx]
        simp
    · simp only [hlt, decide_false, br_false, List.drop_eq_nil_of_le (show T.length ≤ q by omega)]
      rfl

theorem ref_l0 {R : Type} (N : Nat) (hN : 10 < N) (k0 : Int → Int → Int → List Ins → List ByteArray → Option R) (k1 : Int → List Ins → List ByteArray → Option R) (names : List ByteArray) (hl : names.length ≤ 8) (nI : Int) (L : List Ins) :
    ∀ (n q : Nat), q ≤ names.length → names.length - q < n → ref12_Check_l0 N k0 k1 n nI (q : Int) L names = if (names.drop q).all nameA then k1 nI L names else k0 0 10 nI L names
  | 0, q, _, hn => by omega
  | n + 1, q, hq, hn => by
    simp only [ref12_Check_l0, ref12_Check_l0_T0, Int.ofNat_lt]
    by_cases hlt : q < names.length
    · have hd : names.drop q = names[q] :: names.drop (q + 1) := List.drop_eq_getElem_cons hlt
      have ih := ref_l0 N hN k0 k1 names hl nI L n (q + 1) (by omega) (by omega)
      have hnm : ∀ (k : Bool → Option R), ref12_NameMay N names[q] k = k (nameA names[q]) := fun k => by
        have := NameMay_eq N hN names[q].data.toList k
        rwa [bs_list] at this
      simp only [hlt, decide_true, br_true, inB_nat, Int.toNat_natCast, getD_lt hlt, hnm, w64_succ (show q < 9223372036854775807 by omega), hd, List.all_cons, br_neg]
      cases nameA names[q] with
      | false => rfl
      | true => simpa using ih
    · simp only [hlt, decide_false, br_false, List.drop_eq_nil_of_le (show names.length ≤ q by omega)]
      rfl

theorem ref_l1 {R : Type} (N : Nat) (hN : 10 < N) (k0 : Int → Int → Int → List Ins → List ByteArray → Option R) (k1 : Int → List Ins → List ByteArray → Option R) {L : List Ins} (hl : L.length ≤ 96) (names : List ByteArray) :
    ∀ (n i : Nat), i ≤ L.length → L.length - i < n → ref12_Check_l1 N k0 k1 n (L.length : Int) (i : Int) L names =
      match (List.range' i (L.length - i)).find? (fun i => decide (oneV L (names.length : Int) i ≠ 0)) with
      | some j => k0 (j : Int) (oneV L (names.length : Int) j) (L.length : Int) L names
      | none => k1 (L.length : Int) L names
  | 0, i, _, hn => by omega
  | n + 1, i, hi, hn => by
    simp only [ref12_Check_l1, ref12_Check_l1_T0, Int.ofNat_lt]
    by_cases hlt : i < L.length
    · have ih := ref_l1 N hN k0 k1 hl names n (i + 1) (by omega) (by omega)
      have e1 : (L.getD i (0, 0)).1 = opAt L i := rfl
      have e2 : (L.getD i (0, 0)).2 = aAt L i := rfl
      simp only [hlt, decide_true, br_true, inB_nat, Int.toNat_natCast, e1, e2, InstMay_eq, w64_succ (show i < 9223372036854775807 by omega), w64 (show -9223372036854775808 ≤ (L.length : Int) - 1 ∧ (L.length : Int) - 1 ≤ 9223372036854775807 by omega)]
      rw [show L.length - i = (L.length - (i + 1)) + 1 by omega, find_range']
      cases hI : isI (opAt L i) (aAt L i) with
      | false =>
        have hv : oneV L (names.length : Int) i = 5 := by unfold oneV; rw [if_pos hI]
        simp [hv]
      | true =>
        have ha := isI_a hI
        simp only [Bool.not_true, br_false, nm_eq N _ _ (show 0 ≤ aAt L i ∧ aAt L i < 9223372036854775807 by omega)]
        refine (ref_l2 N _ _ _ _ L names _ _ _ (nmI_len _ _) N 0 (by omega) (by have := nmI_len (opAt L i) (aAt L i); omega)).trans ?_
        rw [List.drop_zero, nmI_all]
        cases hnm : namesI (opAt L i) (aAt L i) (names.length : Int) with
        | false =>
          have hv : oneV L (names.length : Int) i = 10 := by unfold oneV; rw [if_neg (by rw [hI]; simp), if_pos hnm]
          simp [hv]
        | true =>
          rw [if_pos rfl]
          have hv : oneV L (names.length : Int) i = if jumpsI (opAt L i) = true ∧ (L.length : Int) ≤ aAt L i then 6 else if endsI (opAt L i) = false ∧ i + 1 = L.length then 8 else 0 := by
            unfold oneV; rw [if_neg (by rw [hI]; simp), if_neg (by rw [hnm]; simp)]
          have e : ((i : Int) = (L.length : Int) - 1) = (i + 1 = L.length) := propext ⟨fun h => by omega, fun h => by omega⟩
          have hk : ∀ v : Int, oneV L (names.length : Int) i = v → v ≠ 0 → (match (if decide (oneV L (names.length : Int) i ≠ 0) = true then some i else (List.range' (i + 1) (L.length - (i + 1))).find? (fun i => decide (oneV L (names.length : Int) i ≠ 0))) with
              | some j => k0 (j : Int) (oneV L (names.length : Int) j) (L.length : Int) L names
              | none => k1 (L.length : Int) L names) = k0 (i : Int) v (L.length : Int) L names := by
            intro v h1 h2
            rw [if_pos (decide_eq_true (by rw [h1]; exact h2)), ← h1]
          have hk0 : oneV L (names.length : Int) i = 0 → (match (if decide (oneV L (names.length : Int) i ≠ 0) = true then some i else (List.range' (i + 1) (L.length - (i + 1))).find? (fun i => decide (oneV L (names.length : Int) i ≠ 0))) with
              | some j => k0 (j : Int) (oneV L (names.length : Int) j) (L.length : Int) L names
              | none => k1 (L.length : Int) L names) = ref12_Check_l1 N k0 k1 n (L.length : Int) ((i + 1 : Nat) : Int) L names := by
            intro h1
            rw [if_neg (by rw [h1]; simp), ih]
          unfold jumpsI endsI at hv
          have w1 := w64 (x := (L.length : Int) - 1) (by omega)
          simp only [w1, e, w64_succ (show i < 9223372036854775807 by omega), br_ndec, br_dec]
          by_cases c1 : opAt L i = 22
          · by_cases c4 : (L.length : Int) ≤ aAt L i
            · rw [hk 6 (by rw [hv]; simp [c1, c4]) (by omega)]
              simp [c1, c4]
            · rw [hk0 (by rw [hv]; simp [c1, c4])]
              simp [c1, c4]
          · by_cases c2 : opAt L i = 23
            · by_cases c4 : (L.length : Int) ≤ aAt L i
              · rw [hk 6 (by rw [hv]; simp [c2, c4]) (by omega)]
                simp [c2, c4]
              · by_cases c5 : i + 1 = L.length
                · rw [hk 8 (by rw [hv, c2]; simp only [c4, c5]; simp) (by omega)]
                  simp [c2, c4, c5]
                · rw [hk0 (by rw [hv]; simp [c2, c4, c5])]
                  simp [c2, c4, c5]
            · by_cases c3 : opAt L i = 26
              · rw [hk0 (by rw [hv]; simp [c3])]
                simp [c3]
              · by_cases c5 : i + 1 = L.length
                · rw [hk 8 (by rw [hv]; simp [c1, c2, c3, c5]) (by omega)]
                  simp [c1, c2, c3, c5]
                · rw [hk0 (by rw [hv]; simp [c1, c2, c3, c5])]
                  simp [c1, c2, c3, c5]
    · simp only [hlt, decide_false, br_false]
      rw [show L.length - i = 0 by omega]
      rfl

end Go.Proofs.Ytnbemmflnknddaa
