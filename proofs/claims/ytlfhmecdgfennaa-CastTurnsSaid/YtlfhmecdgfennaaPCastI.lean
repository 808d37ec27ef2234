/-
  has a class an input: the document's own (chapter 17).
-/
import Derived.Test.YtlfhmecdgfennaaPCastH
set_option linter.unusedVariables false
set_option linter.unusedSimpArgs false
namespace Go.Proofs.Ytlfhmecdgfennaa
open Go.Gx

theorem fit_cut : ∀ (C D : List Int) (T : List (List Int)), T.length = C.length → fitT (C ++ D) T = fitT C T
  | [], D, [], _ => by cases D <;> rfl
  | c :: C, D, t :: T, h => by
    show (decide _ && fitT (C ++ D) T) = (decide _ && fitT C T)
    rw [fit_cut C D T (by simpa using h)]
theorem fit_app : ∀ (C D : List Int) (T U : List (List Int)), T.length = C.length → fitT (C ++ D) (T ++ U) = (fitT C T && fitT D U)
  | [], D, [], U, _ => by simp [fitT]
  | c :: C, D, t :: T, U, h => by
    show (decide _ && fitT (C ++ D) (T ++ U)) = (decide _ && fitT C T && fitT D U)
    rw [fit_app C D T U (by simpa using h), Bool.and_assoc]
theorem fit_nil (C : List Int) : fitT C [] = true := by cases C <;> rfl

theorem rhas_l0 {R : Type} (N : Nat) (L : List EN) (S : List Int) (a b c : Int) (F A : List (List Int)) (X : List Bool) (C : List Int) (hC : F.length ≤ C.length) (h1000 : C.length ≤ 1000)
    (k0 : Bool → List EN → List Int → Int → Int → Int → List (List Int) → List (List Int) → List Bool → Option R) (k1 : List EN → List Int → Int → Int → Int → List (List Int) → List (List Int) → List Bool → Option R) :
    ∀ (m i n : Nat), F.length - i = m → i ≤ F.length → m < n → r_Has_l0 N k0 k1 n (i : Int) L S a b c F A X C = if fitT (C.drop i) (F.drop i) = true then k1 L S a b c F A X else k0 false L S a b c F A X := by
  intro m
  induction m with
  | zero =>
    intro i n hm hi hn
    obtain ⟨n, rfl⟩ : ∃ n', n = n' + 1 := ⟨n - 1, by omega⟩
    have : i = F.length := by omega
    subst this
    simp only [r_Has_l0, r_Has_l0_T0, List.drop_length, fit_nil]
    rw [br_not (decide_eq_false (by omega)), if_pos trivial]
  | succ m ih =>
    intro i n hm hi hn
    obtain ⟨n, rfl⟩ : ∃ n', n = n' + 1 := ⟨n - 1, by omega⟩
    have hlt : i < F.length := by omega
    have hltC : i < C.length := by omega
    have hfit : fitT (C[i] :: C.drop (i + 1)) (F[i] :: F.drop (i + 1)) = (decide ((F[i].length : Int) ≤ C[i]) && fitT (C.drop (i + 1)) (F.drop (i + 1))) := rfl
    have hih := ih (i + 1) n (by omega) (by omega) (by omega)
    rw [List.drop_eq_getElem_cons hltC, List.drop_eq_getElem_cons hlt, hfit]
    simp only [r_Has_l0, r_Has_l0_T0, Int.toNat_natCast, getD_at hlt, getD_at hltC]
    rw [br_of (decide_eq_true (by omega)), br_of (inB_of (by omega)), br_of (inB_of (by omega)), br_of (decide_eq_true hltC), w64_succ (by omega), hih, br_dec]
    by_cases hle : (F[i].length : Int) ≤ C[i]
    · rw [if_neg (by omega), decide_eq_true hle, Bool.true_and]
    · rw [if_pos (by omega), decide_eq_false hle]; rfl

theorem rhas_l1 {R : Type} (N : Nat) (L : List EN) (S : List Int) (a b c : Int) (F A : List (List Int)) (X : List Bool) (hC : A.length ≤ S.length) (h1000 : S.length ≤ 1000)
    (k0 : Bool → List EN → List Int → Int → Int → Int → List (List Int) → List (List Int) → List Bool → Option R) (k1 : List EN → List Int → Int → Int → Int → List (List Int) → List (List Int) → List Bool → Option R) :
    ∀ (m i n : Nat), A.length - i = m → i ≤ A.length → m < n → r_Has_l1 N k0 k1 n (i : Int) L S a b c F A X = if fitT (S.drop i) (A.drop i) = true then k1 L S a b c F A X else k0 false L S a b c F A X := by
  intro m
  induction m with
  | zero =>
    intro i n hm hi hn
    obtain ⟨n, rfl⟩ : ∃ n', n = n' + 1 := ⟨n - 1, by omega⟩
    have : i = A.length := by omega
    subst this
    simp only [r_Has_l1, r_Has_l1_T0, List.drop_length, fit_nil]
    rw [br_not (decide_eq_false (by omega)), if_pos trivial]
  | succ m ih =>
    intro i n hm hi hn
    obtain ⟨n, rfl⟩ : ∃ n', n = n' + 1 := ⟨n - 1, by omega⟩
    have hlt : i < A.length := by omega
    have hltC : i < S.length := by omega
    have hfit : fitT (S[i] :: S.drop (i + 1)) (A[i] :: A.drop (i + 1)) = (decide ((A[i].length : Int) ≤ S[i]) && fitT (S.drop (i + 1)) (A.drop (i + 1))) := rfl
    have hih := ih (i + 1) n (by omega) (by omega) (by omega)
    rw [List.drop_eq_getElem_cons hltC, List.drop_eq_getElem_cons hlt, hfit]
    simp only [r_Has_l1, r_Has_l1_T0, Int.toNat_natCast, getD_at hlt, getD_at hltC]
    rw [br_of (decide_eq_true (by omega)), br_of (inB_of (by omega)), br_of (inB_of (by omega)), w64_succ (by omega), hih, br_dec]
    by_cases hle : (A[i].length : Int) ≤ S[i]
    · rw [if_neg (by omega), decide_eq_true hle, Bool.true_and]
    · rw [if_pos (by omega), decide_eq_false hle]; rfl

theorem rhas_l2 {R : Type} (N : Nat) (L : List EN) (S : List Int) (a b c : Int) (F A : List (List Int)) (X : List Bool) (hX : X.length ≤ 1000)
    (k : Int → List EN → List Int → Int → Int → Int → Option R) :
    ∀ (m i n : Nat), X.length - i = m → i ≤ X.length → m < n → ∀ s : Int, 0 ≤ s → s ≤ (i : Int) → r_Has_l2 N k n s (i : Int) L S a b c F A X = k (s + cnt (X.drop i)) L S a b c := by
  intro m
  induction m with
  | zero =>
    intro i n hm hi hn s hs0 hs1
    obtain ⟨n, rfl⟩ : ∃ n', n = n' + 1 := ⟨n - 1, by omega⟩
    have : i = X.length := by omega
    subst this
    simp only [r_Has_l2, r_Has_l2_T0, List.drop_length, cnt, Int.add_zero]
    rw [br_not (decide_eq_false (by omega))]
  | succ m ih =>
    intro i n hm hi hn s hs0 hs1
    obtain ⟨n, rfl⟩ : ∃ n', n = n' + 1 := ⟨n - 1, by omega⟩
    have hlt : i < X.length := by omega
    simp only [r_Has_l2, r_Has_l2_T0, Int.toNat_natCast, getD_at hlt]
    rw [br_of (decide_eq_true (by omega)), br_of (inB_of (by omega)), w64_succ (by omega), List.drop_eq_getElem_cons hlt, w64 (x := s + 1) (by omega)]
    unfold cnt
    cases hx : X[i] with
    | true =>
      refine (ih (i + 1) n (by omega) (by omega) (by omega) (s + 1) (by omega) (by omega)).trans ?_
      rw [if_pos rfl, Int.add_assoc]
    | false =>
      refine (ih (i + 1) n (by omega) (by omega) (by omega) s (by omega) (by omega)).trans ?_
      rw [if_neg (by decide), Int.zero_add]

theorem rHas_eq {R : Type} (N : Nat) (hN : 1000 < N) (L : List EN) (S : List Int) (a b c : Int) (hL : L.length ≤ 60) (hS : S.length ≤ 60) (F A : List (List Int)) (X : List Bool) (hX : X.length ≤ 1000) (k : Bool → Option R) :
    r_Has N L S a b c F A X k = k (hasB L S a b c F A X) := by
  unfold r_Has r_Has_T hasB
  rw [refMay_eq17 N (by omega) L S (by omega)]
  cases hm : mayB L S a b c with
  | false => rfl
  | true =>
    obtain ⟨hf, hL8, hS2, hC6, ha0, ha6⟩ := may_fit hm
    have hcl := caps_len L
    rw [br_of (b := !(!true)) rfl]
    unfold r_files r_files_T
    rw [refCaps_eq N (by omega) L (by omega) S (by omega)]
    have hw : IntKind.wrap .i64 (((capsL L ++ S).length : Int) - (S.length : Int)) = ((capsL L).length : Int) := by
      rw [List.length_append, w64 (by omega)]; omega
    rw [br_of (listDec_int .i64 S), br_of (decide_eq_true rfl), hw]
    dsimp only
    rw [br_of (listDec_dec (.isl (.int .u8)) F), br_of (decide_eq_true rfl)]
    by_cases h1 : F.length = (capsL L).length
    · rw [br_of (b := !(!decide _)) (by rw [decide_eq_true (by omega)]; rfl), decide_eq_true h1]
      by_cases h2 : A.length = S.length
      · rw [br_of (b := !(!decide _)) (by rw [decide_eq_true (by omega)]; rfl), decide_eq_true h2]
        by_cases h3 : (X.length : Int) = a
        · rw [br_not (b := !decide _) (by rw [decide_eq_true h3]; rfl), refCaps_eq N (by omega) L (by omega) S (by omega)]
          refine (rhas_l0 N L S a b c F A X (capsL L ++ S) (by rw [List.length_append]; omega) (by omega) _ _ F.length 0 N (by omega) (by omega) (by omega)).trans ?_
          rw [List.drop_zero, List.drop_zero, fit_cut _ _ _ h1, fit_app _ _ _ _ h1]
          cases fitT (capsL L) F with
          | false => simp
          | true =>
            rw [if_pos rfl]
            refine (rhas_l1 N L S a b c F A X (by omega) (by omega) _ _ A.length 0 N (by omega) (by omega) (by omega)).trans ?_
            rw [List.drop_zero, List.drop_zero]
            cases fitT S A with
            | false => simp
            | true =>
              rw [if_pos rfl]
              refine (rhas_l2 N L S a b c F A X (by omega) _ X.length 0 N (by omega) (by omega) (by omega) 0 (by omega) (by omega)).trans ?_
              rw [List.drop_zero, Int.zero_add]
              unfold failB
              rw [decide_eq_true h3, decide_eq_true ha6]
              simp
        · rw [br_of (b := !decide _) (by rw [decide_eq_false h3]; rfl)]
          unfold failB
          rw [decide_eq_false h3]
          simp
      · rw [br_not (b := !(!decide _)) (by rw [decide_eq_false (by omega)]; rfl), decide_eq_false h2]
        rfl
    · rw [br_not (b := !(!decide _)) (by rw [decide_eq_false (by omega)]; rfl), decide_eq_false h1]
      rfl

theorem rhasF_l0 {R : Type} (N : Nat) (L : List EN) (S : List Int) (a b c : Int) (F A : List (List Int)) (X : List Bool) (C : List Int) (hC : F.length ≤ C.length) (h1000 : C.length ≤ 1000)
    (k0 : Bool → List (List Int) → List (List Int) → List Bool → List EN → List Int → Int → Int → Int → Option R) (k1 : List (List Int) → List (List Int) → List Bool → List EN → List Int → Int → Int → Int → Option R) :
    ∀ (m i n : Nat), F.length - i = m → i ≤ F.length → m < n → r_Has_fd41_l0 N k0 k1 n (i : Int) F A X L S a b c C = if fitT (C.drop i) (F.drop i) = true then k1 F A X L S a b c else k0 false F A X L S a b c := by
  intro m
  induction m with
  | zero =>
    intro i n hm hi hn
    obtain ⟨n, rfl⟩ : ∃ n', n = n' + 1 := ⟨n - 1, by omega⟩
    have : i = F.length := by omega
    subst this
    simp only [r_Has_fd41_l0, r_Has_fd41_l0_T0, List.drop_length, fit_nil]
    rw [br_not (decide_eq_false (by omega)), if_pos trivial]
  | succ m ih =>
    intro i n hm hi hn
    obtain ⟨n, rfl⟩ : ∃ n', n = n' + 1 := ⟨n - 1, by omega⟩
    have hlt : i < F.length := by omega
    have hltC : i < C.length := by omega
    have hfit : fitT (C[i] :: C.drop (i + 1)) (F[i] :: F.drop (i + 1)) = (decide ((F[i].length : Int) ≤ C[i]) && fitT (C.drop (i + 1)) (F.drop (i + 1))) := rfl
    have hih := ih (i + 1) n (by omega) (by omega) (by omega)
    rw [List.drop_eq_getElem_cons hltC, List.drop_eq_getElem_cons hlt, hfit]
    simp only [r_Has_fd41_l0, r_Has_fd41_l0_T0, Int.toNat_natCast, getD_at hlt, getD_at hltC]
    rw [br_of (decide_eq_true (by omega)), br_of (inB_of (by omega)), br_of (decide_eq_true hlt), br_of (inB_of (by omega)), br_of (decide_eq_true hltC), w64_succ (by omega), hih, br_dec]
    by_cases hle : (F[i].length : Int) ≤ C[i]
    · rw [if_neg (by omega), decide_eq_true hle, Bool.true_and]
    · rw [if_pos (by omega), decide_eq_false hle]; rfl

theorem rhasF_l1 {R : Type} (N : Nat) (L : List EN) (S : List Int) (a b c : Int) (F A : List (List Int)) (X : List Bool) (hC : A.length ≤ S.length) (h1000 : S.length ≤ 1000)
    (k0 : Bool → List (List Int) → List (List Int) → List Bool → List EN → List Int → Int → Int → Int → Option R) (k1 : List (List Int) → List (List Int) → List Bool → List EN → List Int → Int → Int → Int → Option R) :
    ∀ (m i n : Nat), A.length - i = m → i ≤ A.length → m < n → r_Has_fd41_l1 N k0 k1 n (i : Int) F A X L S a b c = if fitT (S.drop i) (A.drop i) = true then k1 F A X L S a b c else k0 false F A X L S a b c := by
  intro m
  induction m with
  | zero =>
    intro i n hm hi hn
    obtain ⟨n, rfl⟩ : ∃ n', n = n' + 1 := ⟨n - 1, by omega⟩
    have : i = A.length := by omega
    subst this
    simp only [r_Has_fd41_l1, r_Has_fd41_l1_T0, List.drop_length, fit_nil]
    rw [br_not (decide_eq_false (by omega)), if_pos trivial]
  | succ m ih =>
    intro i n hm hi hn
    obtain ⟨n, rfl⟩ : ∃ n', n = n' + 1 := ⟨n - 1, by omega⟩
    have hlt : i < A.length := by omega
    have hltC : i < S.length := by omega
    have hfit : fitT (S[i] :: S.drop (i + 1)) (A[i] :: A.drop (i + 1)) = (decide ((A[i].length : Int) ≤ S[i]) && fitT (S.drop (i + 1)) (A.drop (i + 1))) := rfl
    have hih := ih (i + 1) n (by omega) (by omega) (by omega)
    rw [List.drop_eq_getElem_cons hltC, List.drop_eq_getElem_cons hlt, hfit]
    simp only [r_Has_fd41_l1, r_Has_fd41_l1_T0, Int.toNat_natCast, getD_at hlt, getD_at hltC]
    rw [br_of (decide_eq_true (by omega)), br_of (inB_of (by omega)), br_of (decide_eq_true hlt), br_of (inB_of (by omega)), w64_succ (by omega), hih, br_dec]
    by_cases hle : (A[i].length : Int) ≤ S[i]
    · rw [if_neg (by omega), decide_eq_true hle, Bool.true_and]
    · rw [if_pos (by omega), decide_eq_false hle]; rfl

theorem rhasF_l2 {R : Type} (N : Nat) (L : List EN) (S : List Int) (a b c : Int) (F A : List (List Int)) (X : List Bool) (hX : X.length ≤ 1000)
    (k : Int → List (List Int) → List (List Int) → List Bool → List EN → List Int → Int → Int → Int → Option R) :
    ∀ (m i n : Nat), X.length - i = m → i ≤ X.length → m < n → ∀ s : Int, 0 ≤ s → s ≤ (i : Int) → r_Has_fd41_l2 N k n s (i : Int) F A X L S a b c = k (s + cnt (X.drop i)) F A X L S a b c := by
  intro m
  induction m with
  | zero =>
    intro i n hm hi hn s hs0 hs1
    obtain ⟨n, rfl⟩ : ∃ n', n = n' + 1 := ⟨n - 1, by omega⟩
    have : i = X.length := by omega
    subst this
    simp only [r_Has_fd41_l2, r_Has_fd41_l2_T0, List.drop_length, cnt, Int.add_zero]
    rw [br_not (decide_eq_false (by omega))]
  | succ m ih =>
    intro i n hm hi hn s hs0 hs1
    obtain ⟨n, rfl⟩ : ∃ n', n = n' + 1 := ⟨n - 1, by omega⟩
    have hlt : i < X.length := by omega
    simp only [r_Has_fd41_l2, r_Has_fd41_l2_T0, Int.toNat_natCast, getD_at hlt]
    rw [br_of (decide_eq_true (by omega)), br_of (inB_of (by omega)), br_of (decide_eq_true hlt), w64_succ (by omega), List.drop_eq_getElem_cons hlt, w64 (x := s + 1) (by omega)]
    unfold cnt
    cases hx : X[i] with
    | true =>
      refine (ih (i + 1) n (by omega) (by omega) (by omega) (s + 1) (by omega) (by omega)).trans ?_
      rw [if_pos rfl, Int.add_assoc]
    | false =>
      refine (ih (i + 1) n (by omega) (by omega) (by omega) s (by omega) (by omega)).trans ?_
      rw [if_neg (by decide), Int.zero_add]

theorem rHasF_eq {R : Type} (N : Nat) (hN : 1000 < N) (L : List EN) (S : List Int) (a b c : Int) (hL : L.length ≤ 60) (hS : S.length ≤ 60) (F A : List (List Int)) (X : List Bool) (hX : X.length ≤ 1000) (k : Bool → List (List Int) → List (List Int) → List Bool → Option R) :
    r_Has_fd41 N L S a b c F A X k = k (hasB L S a b c F A X) F A X := by
  unfold r_Has_fd41 r_Has_fd41_T hasB
  rw [refMay_eq17 N (by omega) L S (by omega)]
  cases hm : mayB L S a b c with
  | false => rfl
  | true =>
    obtain ⟨hf, hL8, hS2, hC6, ha0, ha6⟩ := may_fit hm
    have hcl := caps_len L
    rw [br_of (b := !(!true)) rfl]
    unfold r_files r_files_T
    rw [refCaps_eq N (by omega) L (by omega) S (by omega)]
    have hw : IntKind.wrap .i64 (((capsL L ++ S).length : Int) - (S.length : Int)) = ((capsL L).length : Int) := by
      rw [List.length_append, w64 (by omega)]; omega
    rw [br_of (listDec_int .i64 S), br_of (decide_eq_true rfl), hw]
    dsimp only
    rw [br_of (decide_eq_true rfl)]
    by_cases h1 : F.length = (capsL L).length
    · rw [br_of (b := !(!decide _)) (by rw [decide_eq_true (by omega)]; rfl), decide_eq_true h1]
      by_cases h2 : A.length = S.length
      · rw [br_of (b := !(!decide _)) (by rw [decide_eq_true (by omega)]; rfl), decide_eq_true h2]
        by_cases h3 : (X.length : Int) = a
        · rw [br_not (b := !decide _) (by rw [decide_eq_true h3]; rfl), refCaps_eq N (by omega) L (by omega) S (by omega)]
          refine (rhasF_l0 N L S a b c F A X (capsL L ++ S) (by rw [List.length_append]; omega) (by omega) _ _ F.length 0 N (by omega) (by omega) (by omega)).trans ?_
          rw [List.drop_zero, List.drop_zero, fit_cut _ _ _ h1, fit_app _ _ _ _ h1]
          cases fitT (capsL L) F with
          | false => simp
          | true =>
            rw [if_pos rfl]
            refine (rhasF_l1 N L S a b c F A X (by omega) (by omega) _ _ A.length 0 N (by omega) (by omega) (by omega)).trans ?_
            rw [List.drop_zero, List.drop_zero]
            cases fitT S A with
            | false => simp
            | true =>
              rw [if_pos rfl]
              refine (rhasF_l2 N L S a b c F A X (by omega) _ X.length 0 N (by omega) (by omega) (by omega) 0 (by omega) (by omega)).trans ?_
              rw [List.drop_zero, Int.zero_add]
              unfold failB
              rw [decide_eq_true h3, decide_eq_true ha6]
              simp
        · rw [br_of (b := !decide _) (by rw [decide_eq_false h3]; rfl)]
          unfold failB
          rw [decide_eq_false h3]
          simp
      · rw [br_not (b := !(!decide _)) (by rw [decide_eq_false (by omega)]; rfl), decide_eq_false h2]
        rfl
    · rw [br_not (b := !(!decide _)) (by rw [decide_eq_false (by omega)]; rfl), decide_eq_false h1]
      rfl

end Go.Proofs.Ytlfhmecdgfennaa
