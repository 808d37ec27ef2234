/-
  texts that are one row, as numbers (chapter 18): what the printed functions come to.
-/
import Derived.Test.YtlfhmecdgfennaaPCastE
set_option linter.unusedVariables false
set_option linter.unusedSimpArgs false
namespace Go.Proofs.Ytlfhmecdgfennaa
open Go.Gx

theorem envF_l1 {R : Type} (N : Nat) (t : List Int) (ht : Byt t) (ht1 : t.length ≤ 1000) (c : Int) (hc : 0 ≤ c ∧ c ≤ 3) (x1 x2 : Int) (x5 : List (List Int)) (x6 : List Bool) (x7 : List EN) (x8 : List Int) (x9 x10 x11 : Int) (x12 x13 x14 x15 : Nat) (x17 : List (List Int))
    (k : Int → Int → List (List Int) → List Bool → List EN → List Int → Int → Int → Int → Nat → Nat → Nat → Nat → List Int → List (List Int) → Option R) :
    ∀ (m i n : Nat), c.toNat - i = m → i ≤ c.toNat → m < n → ∀ E : List Int, E.length ≤ 900 → c_Env_5fa2_l1 N k n t x1 x2 c (i : Int) x5 x6 x7 x8 x9 x10 x11 x12 x13 x14 x15 (E ++ padT i t) x17 = k x1 x2 x5 x6 x7 x8 x9 x10 x11 x12 x13 x14 x15 (E ++ padT c.toNat t) x17 := by
  intro m
  induction m with
  | zero =>
    intro i n hm hi hn E hE
    obtain ⟨n, rfl⟩ : ∃ n', n = n' + 1 := ⟨n - 1, by omega⟩
    have : i = c.toNat := by omega
    subst this
    simp only [c_Env_5fa2_l1, c_Env_5fa2_l1_T0]
    rw [br_not (decide_eq_false (by omega))]
  | succ m ih =>
    intro i n hm hi hn E hE
    obtain ⟨n, rfl⟩ : ∃ n', n = n' + 1 := ⟨n - 1, by omega⟩
    have hlen : (E ++ padT i t).length ≤ 1000 := by rw [List.length_append, padT_len]; omega
    have hih := ih (i + 1) n (by omega) (by omega) (by omega) E hE
    rw [pad_snoc, ← List.append_assoc] at hih
    simp only [c_Env_5fa2_l1, c_Env_5fa2_l1_T0, Int.toNat_natCast]
    rw [br_of (decide_eq_true (by omega)), w64_succ (by omega), sub_all, br_dec]
    by_cases h : (i : Int) < (t.length : Int)
    · have hlt : i < t.length := by omega
      have hb := ht t[i] (List.getElem_mem hlt)
      rw [if_pos h, br_of (inB_of (by omega)), br_of (app2 hlen), getD_at hlt, u16_small (by omega)]
      rw [getD_at hlt] at hih
      exact hih
    · rw [if_neg h, br_of (app2 hlen)]
      have : t.getD i 0 = 0 := by simp [List.getD, show t.length ≤ i by omega]
      rw [this] at hih
      exact hih

theorem envF_l0 {R : Type} (N : Nat) (hN : 1000 < N) (L : List EN) (S : List Int) (a b c : Int) (hL : L.length ≤ 60) (hS : S.length ≤ 60) (x2 : List (List Int)) (X : List Bool) (p q r s : Nat) (T : List (List Int)) (hTl : T.length = (capsL L ++ S).length) (hT : ∀ t ∈ T, Byt t ∧ t.length ≤ 1000) (hfit : Fit (capsL L ++ S)) (h6 : (capsL L ++ S).length ≤ 6)
    (k : List (List Int) → List Bool → Nat → Nat → Nat → Nat → List Int → Option R) :
    ∀ (m i n : Nat), T.length - i = m → i ≤ T.length → m < n → ∀ E : List Int, E.length ≤ 4 * i → c_Env_5fa2_l0 N k n (T.length : Int) (i : Int) x2 X L S a b c p q r s E T = k x2 X p q r s (E ++ encT ((capsL L ++ S).drop i) (T.drop i)) := by
  intro m
  induction m with
  | zero =>
    intro i n hm hi hn E hE
    obtain ⟨n, rfl⟩ : ∃ n', n = n' + 1 := ⟨n - 1, by omega⟩
    have : i = T.length := by omega
    subst this
    simp only [c_Env_5fa2_l0, c_Env_5fa2_l0_T0]
    rw [br_not (decide_eq_false (by omega))]
    have : encT ((capsL L ++ S).drop T.length) (T.drop T.length) = [] := by rw [List.drop_length, hTl, List.drop_length]; rfl
    rw [this, List.append_nil]
  | succ m ih =>
    intro i n hm hi hn E hE
    obtain ⟨n, rfl⟩ : ∃ n', n = n' + 1 := ⟨n - 1, by omega⟩
    have hlt : i < T.length := by omega
    have hltC : i < (capsL L ++ S).length := by omega
    have hb := hT T[i] (List.getElem_mem hlt)
    have hc := hfit (capsL L ++ S)[i] (List.getElem_mem hltC)
    simp only [c_Env_5fa2_l0, c_Env_5fa2_l0_T0, Int.toNat_natCast, getD_at hlt]
    rw [br_of (decide_eq_true (by omega)), br_of (inB_of (by omega)), br_of (decide_eq_true hlt), br_of (app2 (by omega)), Caps_eq N (by omega) L (by omega) S (by omega)]
    simp only [getD_at hltC]
    rw [br_of (inB_of (by omega)), br_of (decide_eq_true hltC), sub_all, u16_small (by omega)]
    have h1 := envF_l1 (R := R) N T[i] hb.1 hb.2 (capsL L ++ S)[i] hc (T.length : Int) (i : Int) x2 X L S a b c p q r s T
      (fun i718 i719 l720 l721 l722 l723 i724 i725 i726 n727 n728 n729 n730 l731 l732 => c_Env_5fa2_l0 N k n i718 (IntKind.wrap .i64 (i719 + (1 : Int))) l720 l721 l722 l723 i724 i725 i726 n727 n728 n729 n730 l731 l732)
      ((capsL L ++ S)[i]).toNat 0 N (by omega) (by omega) (by omega) (E ++ [((T[i].length : Nat) : Int)]) (by simp; omega)
    rw [show padT 0 T[i] = [] from rfl, List.append_nil] at h1
    refine h1.trans ?_
    rw [w64_succ (by omega), ih (i + 1) n (by omega) (by omega) (by omega) _ (by simp [padT_len]; omega), enc_snoc i hltC hlt]
    congr 1
    simp

theorem envF_l2 {R : Type} (N : Nat) (x2 : List (List Int)) (X : List Bool) (hX : X.length ≤ 100) (k : List (List Int) → List Bool → List Int → Option R) :
    ∀ (m i n : Nat), X.length - i = m → i ≤ X.length → m < n → ∀ E : List Int, E.length ≤ 500 + i → c_Env_5fa2_l2 N k n (X.length : Int) (i : Int) x2 X E = k x2 X (E ++ encX (X.drop i)) := by
  intro m
  induction m with
  | zero =>
    intro i n hm hi hn E hE
    obtain ⟨n, rfl⟩ : ∃ n', n = n' + 1 := ⟨n - 1, by omega⟩
    have : i = X.length := by omega
    subst this
    simp only [c_Env_5fa2_l2, c_Env_5fa2_l2_T0]
    rw [br_not (decide_eq_false (by omega)), List.drop_length]
    show _ = k x2 X (E ++ [])
    rw [List.append_nil]
  | succ m ih =>
    intro i n hm hi hn E hE
    obtain ⟨n, rfl⟩ : ∃ n', n = n' + 1 := ⟨n - 1, by omega⟩
    have hlt : i < X.length := by omega
    have hE1 : E.length ≤ 1000 := by omega
    have hdr := List.drop_eq_getElem_cons hlt
    have ih1 := ih (i + 1) n (by omega) (by omega) (by omega)
    simp only [c_Env_5fa2_l2, c_Env_5fa2_l2_T0, Int.toNat_natCast, getD_at hlt]
    rw [br_of (decide_eq_true (by omega)), br_of (inB_of (by omega)), br_of (decide_eq_true hlt), w64_succ (by omega), sub_all, hdr]
    cases hx : X[i] with
    | true =>
      rw [br_true, br_of (app2 hE1), ih1 _ (by simp; omega)]
      congr 1
      simp [encX]
    | false =>
      rw [br_false, br_of (app2 hE1), ih1 _ (by simp; omega)]
      congr 1
      simp [encX]

theorem EnvF_eq {R : Type} (N : Nat) (hN : 1000 < N) (L : List EN) (S : List Int) (a b c : Int) (hL : L.length ≤ 60) (hS : S.length ≤ 60) (hm : mayB L S a b c = true) (T : List (List Int)) (hT : ∀ t ∈ T, Byt t) (hTl : T.length = (capsL L ++ S).length) (q : Nat) (X : List Bool) (hX : X.length ≤ 60)
    (k0 : Int → Nat → List (List Int) → List Bool → List Int → Option R) (k1 : Int → List (List Int) → List Bool → List Int → Option R) :
    c_Env_5fa2 N L S a b c (capsL L).length q (capsL L).length (T.length - (capsL L).length) T.length T X k0 k1 = if (failB X a b && fitT (capsL L ++ S) T) = true then k1 0 T X (envV (capsL L ++ S) T X) else k0 12 T.length T X [] := by
  unfold c_Env_5fa2 c_Env_5fa2_T
  obtain ⟨hf, hL8, hS2, hC6, ha0, ha6⟩ := may_fit hm
  rw [May_eq17 N (by omega), hm, br_not (b := !true) rfl, HasF_eq N hN L S a b c hL hS T X (by omega) q hTl, hm, Bool.true_and, br_neg]
  cases hh : failB X a b && fitT (capsL L ++ S) T with
  | false => rfl
  | true =>
    rw [Bool.and_eq_true] at hh
    have h3' := fit_len hf hh.2 hTl
    have hlen : (capsL L ++ S).length = (capsL L).length + S.length := List.length_append
    have hs1 : sub T 0 (capsL L).length = T.take (capsL L).length := by simp [sub]
    have hs2 : sub T (capsL L).length (T.length - (capsL L).length) = T.drop (capsL L).length := by
      unfold sub; rw [List.take_of_length_le (by simp)]
    have hcat : T.take (capsL L).length ++ T.drop (capsL L).length = T := List.take_append_drop _ _
    rw [br_true, if_pos rfl, br_of (fits_of (by omega)), br_of (fits_of (by omega)), hs1, hs2, concat_eq N (by omega) _ _ (by rw [List.length_take]; omega) (by rw [List.length_drop]; omega), hcat]
    refine (envF_l0 N hN L S a b c hL hS T X _ _ _ _ T hTl (fun t ht => ⟨hT t ht, by have := h3' t ht; omega⟩) hf hC6 _ T.length 0 N (by omega) (by omega) (by omega) [] (by simp)).trans ?_
    rw [List.nil_append, List.drop_zero, List.drop_zero]
    have he := enc_le hTl hf
    refine (envF_l2 N T X (by omega) _ X.length 0 N (by omega) (by omega) (by omega) _ (by omega)).trans ?_
    rw [List.drop_zero]
    rfl

/-! ### are two rows of numbers one -/
theorem eqC_l0 {R : Type} (N : Nat) (A B : List Int) (hl : B.length = A.length) (h1000 : B.length ≤ 1000) (k0 : Bool → List Int → Option R) (k1 : List Int → Option R) :
    ∀ (m i n : Nat), B.length - i = m → i ≤ B.length → m < n → sEq_c28d_l0 N k0 k1 n A (B.length : Int) (i : Int) B = if B.drop i = A.drop i then k1 B else k0 false B := by
  intro m
  induction m with
  | zero =>
    intro i n hm hi hn
    obtain ⟨n, rfl⟩ : ∃ n', n = n' + 1 := ⟨n - 1, by omega⟩
    have : i = B.length := by omega
    subst this
    simp only [sEq_c28d_l0, sEq_c28d_l0_T0]
    rw [br_not (decide_eq_false (by omega)), if_pos (by rw [List.drop_length, hl, List.drop_length])]
  | succ m ih =>
    intro i n hm hi hn
    obtain ⟨n, rfl⟩ : ∃ n', n = n' + 1 := ⟨n - 1, by omega⟩
    have hlt : i < B.length := by omega
    have hltA : i < A.length := by omega
    simp only [sEq_c28d_l0, sEq_c28d_l0_T0, Int.toNat_natCast, getD_at hlt, getD_at hltA]
    rw [br_of (decide_eq_true (by omega)), br_of (inB_of (by omega)), br_of (decide_eq_true hlt), br_of (inB_of (by omega)), w64_succ (by omega), ih (i + 1) n (by omega) (by omega) (by omega), List.drop_eq_getElem_cons hlt, List.drop_eq_getElem_cons hltA, br_ndec]
    by_cases h : B[i] = A[i]
    · rw [if_pos h]; simp only [List.cons.injEq, h, true_and]
    · rw [if_neg h, if_neg (fun e => h (List.cons.inj e).1)]

theorem eqC_eq {R : Type} (N : Nat) (hN : 1000 < N) (A B : List Int) (h1000 : B.length ≤ 1000) (k : Bool → List Int → Option R) : sEq_c28d N A B k = k (decide (B = A)) B := by
  unfold sEq_c28d sEq_c28d_T
  by_cases hl : B.length = A.length
  · rw [br_not (b := !decide _) (by rw [decide_eq_true (by omega)]; rfl)]
    refine (eqC_l0 N A B hl h1000 _ _ B.length 0 N (by omega) (by omega) (by omega)).trans ?_
    rw [List.drop_zero, List.drop_zero]
    by_cases h : B = A
    · rw [if_pos h, decide_eq_true h]
    · rw [if_neg h, decide_eq_false h]
  · rw [br_of (b := !decide _) (by rw [decide_eq_false (by omega)]; rfl), decide_eq_false (fun e => hl (by rw [e]))]

/-- one row against the first numbers of another -/
theorem eqB_l0 {R : Type} (N : Nat) (A B : List Int) (q : Nat) (hl : B.length ≤ A.length) (h1000 : B.length ≤ 1000) (k0 : Bool → List Int → Nat → List Int → Option R) (k1 : List Int → Nat → List Int → Option R) :
    ∀ (m i n : Nat), B.length - i = m → i ≤ B.length → m < n → sEq_b8c4_l0 N k0 k1 n B.length q (B.length : Int) (i : Int) B A.length A = if B.drop i = (A.take B.length).drop i then k1 B A.length A else k0 false B A.length A := by
  intro m
  induction m with
  | zero =>
    intro i n hm hi hn
    obtain ⟨n, rfl⟩ : ∃ n', n = n' + 1 := ⟨n - 1, by omega⟩
    have : i = B.length := by omega
    subst this
    simp only [sEq_b8c4_l0, sEq_b8c4_l0_T0]
    have h0 : (A.take B.length).drop B.length = [] := List.drop_eq_nil_of_le (by rw [List.length_take]; omega)
    rw [br_not (decide_eq_false (by omega)), if_pos (by rw [List.drop_length, h0])]
  | succ m ih =>
    intro i n hm hi hn
    obtain ⟨n, rfl⟩ : ∃ n', n = n' + 1 := ⟨n - 1, by omega⟩
    have hlt : i < B.length := by omega
    have hltA : i < A.length := by omega
    have hltT : i < (A.take B.length).length := by rw [List.length_take]; omega
    have hAt : (A.take B.length)[i] = A[i] := List.getElem_take
    simp only [sEq_b8c4_l0, sEq_b8c4_l0_T0, Int.toNat_natCast, getD_at hlt, getD_at hltA]
    rw [br_of (decide_eq_true (by omega)), br_of (inB_of (by omega)), br_of (decide_eq_true hlt), br_of (inB_of (by omega)), br_of (decide_eq_true hltA), w64_succ (by omega), ih (i + 1) n (by omega) (by omega) (by omega), List.drop_eq_getElem_cons hlt, List.drop_eq_getElem_cons hltT, hAt, br_ndec]
    by_cases h : B[i] = A[i]
    · rw [if_pos h]; simp only [List.cons.injEq, h, true_and]
    · rw [if_neg h, if_neg (fun e => h (List.cons.inj e).1)]

theorem eqB_eq {R : Type} (N : Nat) (hN : 1000 < N) (A B : List Int) (p q : Nat) (hp : p ≤ A.length) (h1000 : B.length ≤ 1000) (k : Bool → List Int → Nat → List Int → Option R) : sEq_b8c4 N p q B A.length A k = k (decide (B = A.take p)) B A.length A := by
  unfold sEq_b8c4 sEq_b8c4_T
  by_cases hl : B.length = p
  · subst hl
    rw [br_not (b := !decide _) (by rw [decide_eq_true rfl]; rfl)]
    refine (eqB_l0 N A B q hp h1000 _ _ B.length 0 N (by omega) (by omega) (by omega)).trans ?_
    rw [List.drop_zero, List.drop_zero]
    by_cases h : B = A.take B.length
    · rw [if_pos h, decide_eq_true h]
    · rw [if_neg h, decide_eq_false h]
  · rw [br_of (b := !decide _) (by rw [decide_eq_false (by omega)]; rfl), decide_eq_false (fun e => hl (by rw [e, List.length_take]; omega))]

end Go.Proofs.Ytlfhmecdgfennaa
