/-
  has a class an input; an input as numbers (chapters 17, 18): what the printed functions come to.
-/
import Derived.Test.YtlfhmecdgfennaaPCastB
import Derived.Test.YtlfhmecdgfennaaPCastC
set_option linter.unusedVariables false
set_option linter.unusedSimpArgs false
namespace Go.Proofs.Ytlfhmecdgfennaa
open Go.Gx

theorem app2 {α : Type} {l : List α} (h : l.length ≤ 1000) : (((fits (0 : Nat) (List.length l) l) && (decide ((((List.length l) + (1 : Nat)) * (2 : Nat)) ≤ (70368744177664 : Nat)))) && true) = true := by
  rw [fits_of (by omega), decide_eq_true (by omega)]; rfl
theorem getD_at {α : Type} {l : List α} {i : Nat} (h : i < l.length) (d : α) : l.getD i d = l[i] := by simp [List.getD, h]

/-! ### how many fail -/
def cnt : List Bool → Int
  | [] => 0
  | b :: r => (if b = true then 1 else 0) + cnt r
theorem cnt_le : ∀ X : List Bool, 0 ≤ cnt X ∧ cnt X ≤ (X.length : Int)
  | [] => by simp [cnt]
  | b :: r => by
    have := cnt_le r
    unfold cnt
    rw [List.length_cons]
    cases b
    · simp only [Bool.false_eq_true, if_false]; omega
    · simp only [if_true]; omega
def failB (X : List Bool) (a b : Int) : Bool := decide ((X.length : Int) = a) && decide (a ≤ 6) && decide (cnt X ≤ b)

theorem fail_l0 {R : Type} (N : Nat) (X : List Bool) (hX : X.length ≤ 1000) (a b : Int) (k : List Bool → Int → Int → Int → Option R) :
    ∀ (m i n : Nat), X.length - i = m → i ≤ X.length → m < n → ∀ s : Int, 0 ≤ s → s ≤ (i : Int) → fails_May_l0 N k n X a b s X (X.length : Int) (i : Int) = k X a b (s + cnt (X.drop i)) := by
  intro m
  induction m with
  | zero =>
    intro i n hm hi hn s hs0 hs1
    obtain ⟨n, rfl⟩ : ∃ n', n = n' + 1 := ⟨n - 1, by omega⟩
    have : i = X.length := by omega
    subst this
    simp only [fails_May_l0, fails_May_l0_T0, List.drop_length, cnt, Int.add_zero]
    rw [br_not (decide_eq_false (by omega))]
  | succ m ih =>
    intro i n hm hi hn s hs0 hs1
    obtain ⟨n, rfl⟩ : ∃ n', n = n' + 1 := ⟨n - 1, by omega⟩
    have hlt : i < X.length := by omega
    simp only [fails_May_l0, fails_May_l0_T0, Int.toNat_natCast, getD_at hlt]
    rw [br_of (decide_eq_true (by omega)), br_of (inB_of (by omega)), w64_succ (by omega), List.drop_eq_getElem_cons hlt, w64 (x := s + 1) (by omega)]
    unfold cnt
    cases X[i] with
    | true =>
      refine (ih (i + 1) n (by omega) (by omega) (by omega) (s + 1) (by omega) (by omega)).trans ?_
      rw [if_pos rfl, Int.add_assoc]
    | false =>
      refine (ih (i + 1) n (by omega) (by omega) (by omega) s (by omega) (by omega)).trans ?_
      rw [if_neg (by decide), Int.zero_add]

theorem fail_eq {R : Type} (N : Nat) (X : List Bool) (hX : X.length ≤ 1000) (hN : 1000 < N) (a b : Int) (k : Bool → Option R) : fails_May N X a b k = k (failB X a b) := by
  unfold fails_May fails_May_T failB
  refine (fail_l0 N X hX a b _ X.length 0 N (by omega) (by omega) (by omega) 0 (by omega) (by omega)).trans ?_
  rw [List.drop_zero, Int.zero_add]
  cases decide ((X.length : Int) = a) <;> cases decide (a ≤ 6) <;> rfl

theorem failF_l0 {R : Type} (N : Nat) (X : List Bool) (hX : X.length ≤ 1000) (a b : Int) (k : Int → Int → Int → List Bool → Option R) :
    ∀ (m i n : Nat), X.length - i = m → i ≤ X.length → m < n → ∀ s : Int, 0 ≤ s → s ≤ (i : Int) → fails_May_e7e3_l0 N k n a b s (X.length : Int) (i : Int) X = k a b (s + cnt (X.drop i)) X := by
  intro m
  induction m with
  | zero =>
    intro i n hm hi hn s hs0 hs1
    obtain ⟨n, rfl⟩ : ∃ n', n = n' + 1 := ⟨n - 1, by omega⟩
    have : i = X.length := by omega
    subst this
    simp only [fails_May_e7e3_l0, fails_May_e7e3_l0_T0, List.drop_length, cnt, Int.add_zero]
    rw [br_not (decide_eq_false (by omega))]
  | succ m ih =>
    intro i n hm hi hn s hs0 hs1
    obtain ⟨n, rfl⟩ : ∃ n', n = n' + 1 := ⟨n - 1, by omega⟩
    have hlt : i < X.length := by omega
    simp only [fails_May_e7e3_l0, fails_May_e7e3_l0_T0, Int.toNat_natCast, getD_at hlt]
    rw [br_of (decide_eq_true (by omega)), br_of (inB_of (by omega)), br_of (decide_eq_true hlt), w64_succ (by omega), List.drop_eq_getElem_cons hlt, w64 (x := s + 1) (by omega)]
    unfold cnt
    cases X[i] with
    | true =>
      refine (ih (i + 1) n (by omega) (by omega) (by omega) (s + 1) (by omega) (by omega)).trans ?_
      rw [if_pos rfl, Int.add_assoc]
    | false =>
      refine (ih (i + 1) n (by omega) (by omega) (by omega) s (by omega) (by omega)).trans ?_
      rw [if_neg (by decide), Int.zero_add]

theorem failF_eq {R : Type} (N : Nat) (X : List Bool) (hX : X.length ≤ 1000) (hN : 1000 < N) (a b : Int) (k : Bool → List Bool → Option R) : fails_May_e7e3 N a b X k = k (failB X a b) X := by
  unfold fails_May_e7e3 fails_May_e7e3_T failB
  refine (failF_l0 N X hX a b _ X.length 0 N (by omega) (by omega) (by omega) 0 (by omega) (by omega)).trans ?_
  rw [List.drop_zero, Int.zero_add]
  cases decide ((X.length : Int) = a) <;> cases decide (a ≤ 6) <;> rfl

/-! ### the texts' lengths -/
def fitT : List Int → List (List Int) → Bool
  | c :: C, t :: T => decide ((t.length : Int) ≤ c) && fitT C T
  | _, _ => true
theorem fitT_at : ∀ {C : List Int} {T : List (List Int)}, fitT C T = true → T.length = C.length → ∀ i (h : i < T.length), (T[i].length : Int) ≤ C.getD i 0
  | [], [], _, _, _, hi => absurd hi (by simp)
  | [], t :: T, _, hl, _, _ => by simp at hl
  | c :: C, [], _, _, _, hi => absurd hi (by simp)
  | c :: C, t :: T, h, hl, 0, _ => by
    unfold fitT at h
    simp only [Bool.and_eq_true, decide_eq_true_eq] at h
    exact h.1
  | c :: C, t :: T, h, hl, i + 1, hi => by
    unfold fitT at h
    simp only [Bool.and_eq_true] at h
    exact fitT_at h.2 (by simpa using hl) i (by simpa using hi)

def hasB (L : List EN) (S : List Int) (a b c : Int) (F A : List (List Int)) (X : List Bool) : Bool :=
  mayB L S a b c && decide (F.length = (capsL L).length) && decide (A.length = S.length) && failB X a b && fitT (capsL L ++ S) (F ++ A)

theorem has_l0 {R : Type} (N : Nat) (k0 : Bool → Option R) (k1 : Option R) (F A : List (List Int)) (X : List Bool) (C : List Int) (hC : C.length = F.length + A.length) (h1000 : C.length ≤ 1000) :
    ∀ (m i n : Nat), C.length - i = m → i ≤ C.length → m < n → k_Has_l0 N k0 k1 n (F.length : Int) (C.length : Int) (i : Int) F A X C = if fitT (C.drop i) ((F ++ A).drop i) = true then k1 else k0 false := by
  intro m
  induction m with
  | zero =>
    intro i n hm hi hn
    obtain ⟨n, rfl⟩ : ∃ n', n = n' + 1 := ⟨n - 1, by omega⟩
    have : i = C.length := by omega
    subst this
    simp only [k_Has_l0, k_Has_l0_T0, List.drop_length]
    rw [br_not (decide_eq_false (by omega))]
    rfl
  | succ m ih =>
    intro i n hm hi hn
    obtain ⟨n, rfl⟩ : ∃ n', n = n' + 1 := ⟨n - 1, by omega⟩
    have hlt : i < C.length := by omega
    have hltT : i < (F ++ A).length := by rw [List.length_append]; omega
    rw [List.drop_eq_getElem_cons hlt, List.drop_eq_getElem_cons hltT]
    have hfit : fitT (C[i] :: C.drop (i + 1)) ((F ++ A)[i] :: (F ++ A).drop (i + 1)) = (decide (((F ++ A)[i].length : Int) ≤ C[i]) && fitT (C.drop (i + 1)) ((F ++ A).drop (i + 1))) := rfl
    have hih := ih (i + 1) n (by omega) (by omega) (by omega)
    simp only [k_Has_l0, k_Has_l0_T0, Int.toNat_natCast, getD_at hlt]
    rw [hfit, br_of (decide_eq_true (by omega)), br_of (inB_of (by omega)), br_of (decide_eq_true hlt), w64_succ (by omega), hih]
    by_cases hiF : i < F.length
    · have hg : F.getD i (Sh.zero (.isl (.int .u8))) = (F ++ A)[i] := by rw [getD_at hiF, List.getElem_append_left]
      rw [hg, br_of (decide_eq_true (by omega)), br_of (inB_of (by omega)), br_not (b := decide ((F.length : Int) ≤ (i : Int))) (decide_eq_false (by omega)), br_ndec]
      by_cases hle : ((F ++ A)[i].length : Int) ≤ C[i]
      · rw [if_neg (by omega), decide_eq_true hle, Bool.true_and]
      · rw [if_pos (by omega), decide_eq_false hle]; rfl
    · have hw : IntKind.wrap .i64 ((i : Int) - (F.length : Int)) = ((i - F.length : Nat) : Int) := by rw [w64 (by omega)]; omega
      have hltA : i - F.length < A.length := by omega
      have hg : A.getD (i - F.length) (Sh.zero (.isl (.int .u8))) = (F ++ A)[i] := by rw [getD_at hltA, List.getElem_append_right (by omega)]
      rw [br_not (decide_eq_false (by omega)), br_of (decide_eq_true (by omega)), hw, br_of (inB_of (by omega)), Int.toNat_natCast, hg, br_dec]
      by_cases hle : ((F ++ A)[i].length : Int) ≤ C[i]
      · rw [if_neg (by omega), decide_eq_true hle, Bool.true_and]
      · rw [if_pos (by omega), decide_eq_false hle]; rfl

theorem Has_eq {R : Type} (N : Nat) (hN : 1000 < N) (L : List EN) (S : List Int) (a b c : Int) (hL : L.length ≤ 60) (hS : S.length ≤ 60) (F A : List (List Int)) (X : List Bool) (hX : X.length ≤ 1000) (k : Bool → Option R) :
    k_Has N L S a b c F A X k = k (hasB L S a b c F A X) := by
  unfold k_Has k_Has_T hasB
  rw [Files_eq N (by omega) L (by omega), May_eq17 N (by omega), files_len]
  cases hm : mayB L S a b c with
  | false => rfl
  | true =>
    obtain ⟨hf, hL8, hS2, hC6, ha0, ha6⟩ := may_fit hm
    rw [br_of (b := !(!true)) rfl]
    by_cases h1 : F.length = (capsL L).length
    · rw [br_of (b := !(!decide _)) (by rw [decide_eq_true (by omega)]; rfl), decide_eq_true h1]
      by_cases h2 : A.length = S.length
      · rw [br_of (b := !(!decide _)) (by rw [decide_eq_true (by omega)]; rfl), decide_eq_true h2, fail_eq N X hX (by omega)]
        cases failB X a b with
        | false => rfl
        | true =>
          rw [br_not (b := !true) rfl, Caps_eq N (by omega) L (by omega) S (by omega), ← h1]
          refine (has_l0 N _ _ F A X (capsL L ++ S) (by rw [List.length_append]; omega) (by omega) (capsL L ++ S).length 0 N (by omega) (by omega) (by omega)).trans ?_
          rw [List.drop_zero, List.drop_zero]
          cases fitT (capsL L ++ S) (F ++ A) <;> rfl
      · rw [br_not (b := !(!decide _)) (by rw [decide_eq_false (by omega)]; rfl), decide_eq_false h2]
        rfl
    · rw [br_not (b := !(!decide _)) (by rw [decide_eq_false (by omega)]; rfl), decide_eq_false h1]
      rfl

theorem addLo_eq (n : Nat) (i : Int) : addLo n i = (n : Int) + i := by
  cases n with
  | zero => show i = _; simp
  | succ n => rfl

theorem hasF_l0 {R : Type} (N : Nat) (k0 : Bool → Nat → List (List Int) → List Bool → Option R) (k1 : Nat → List (List Int) → List Bool → Option R) (T : List (List Int)) (X : List Bool) (C : List Int) (nf q : Nat) (hnf : nf ≤ T.length) (hC : C.length = T.length) (h1000 : C.length ≤ 1000) :
    ∀ (m i n : Nat), C.length - i = m → i ≤ C.length → m < n → k_Has_5fa2_l0 N k0 k1 n (nf : Int) (C.length : Int) (i : Int) T.length T X nf q nf (T.length - nf) C = if fitT (C.drop i) (T.drop i) = true then k1 T.length T X else k0 false T.length T X := by
  intro m
  induction m with
  | zero =>
    intro i n hm hi hn
    obtain ⟨n, rfl⟩ : ∃ n', n = n' + 1 := ⟨n - 1, by omega⟩
    have : i = C.length := by omega
    subst this
    simp only [k_Has_5fa2_l0, k_Has_5fa2_l0_T0, List.drop_length]
    rw [br_not (decide_eq_false (by omega))]
    rfl
  | succ m ih =>
    intro i n hm hi hn
    obtain ⟨n, rfl⟩ : ∃ n', n = n' + 1 := ⟨n - 1, by omega⟩
    have hlt : i < C.length := by omega
    have hltT : i < T.length := by omega
    rw [List.drop_eq_getElem_cons hlt, List.drop_eq_getElem_cons hltT]
    have hfit : fitT (C[i] :: C.drop (i + 1)) (T[i] :: T.drop (i + 1)) = (decide ((T[i].length : Int) ≤ C[i]) && fitT (C.drop (i + 1)) (T.drop (i + 1))) := rfl
    have hih := ih (i + 1) n (by omega) (by omega) (by omega)
    simp only [k_Has_5fa2_l0, k_Has_5fa2_l0_T0, Int.toNat_natCast, getD_at hlt, getD_at hltT, addLo_eq]
    rw [hfit, br_of (decide_eq_true (by omega)), br_of (inB_of (by omega)), br_of (decide_eq_true hlt), w64_succ (by omega), hih]
    by_cases hiF : i < nf
    · rw [br_of (decide_eq_true (by omega)), br_of (inB_of (by omega)), br_of (decide_eq_true hltT), br_not (b := decide ((nf : Int) ≤ (i : Int))) (decide_eq_false (by omega)), br_ndec]
      by_cases hle : (T[i].length : Int) ≤ C[i]
      · rw [if_neg (by omega), decide_eq_true hle, Bool.true_and]
      · rw [if_pos (by omega), decide_eq_false hle]; rfl
    · have hw : IntKind.wrap .i64 ((i : Int) - (nf : Int)) = ((i - nf : Nat) : Int) := by rw [w64 (by omega)]; omega
      have hw2 : ((nf : Int) + ((i - nf : Nat) : Int)) = (i : Int) := by omega
      rw [br_not (decide_eq_false (by omega)), br_of (decide_eq_true (by omega)), hw, hw2, br_of (inB_of (by omega)), Int.toNat_natCast, br_of (decide_eq_true hltT), getD_at hltT, br_dec]
      by_cases hle : (T[i].length : Int) ≤ C[i]
      · rw [if_neg (by omega), decide_eq_true hle, Bool.true_and]
      · rw [if_pos (by omega), decide_eq_false hle]; rfl

theorem HasF_eq {R : Type} (N : Nat) (hN : 1000 < N) (L : List EN) (S : List Int) (a b c : Int) (hL : L.length ≤ 60) (hS : S.length ≤ 60) (T : List (List Int)) (X : List Bool) (hX : X.length ≤ 1000) (q : Nat) (hT : T.length = (capsL L ++ S).length) (k : Bool → Nat → List (List Int) → List Bool → Option R) :
    k_Has_5fa2 N L S a b c (capsL L).length q (capsL L).length (T.length - (capsL L).length) T.length T X k = k (mayB L S a b c && failB X a b && fitT (capsL L ++ S) T) T.length T X := by
  rw [List.length_append] at hT
  unfold k_Has_5fa2 k_Has_5fa2_T
  rw [Files_eq N (by omega) L (by omega), May_eq17 N (by omega), files_len]
  cases hm : mayB L S a b c with
  | false => rfl
  | true =>
    obtain ⟨hf, hL8, hS2, hC6, ha0, ha6⟩ := may_fit hm
    rw [br_of (b := !(!true)) rfl, br_of (b := !(!decide _)) (by rw [decide_eq_true (by omega)]; rfl), br_of (b := !(!decide _)) (by rw [decide_eq_true (by omega)]; rfl), failF_eq N X hX (by omega)]
    cases failB X a b with
    | false => rfl
    | true =>
      rw [br_not (b := !true) rfl, Caps_eq N (by omega) L (by omega) S (by omega)]
      refine (hasF_l0 N _ _ T X (capsL L ++ S) (capsL L).length q (by omega) (by rw [List.length_append]; omega) (by omega) (capsL L ++ S).length 0 N (by omega) (by omega) (by omega)).trans ?_
      rw [List.drop_zero, List.drop_zero]
      cases fitT (capsL L ++ S) T <;> rfl

end Go.Proofs.Ytlfhmecdgfennaa
