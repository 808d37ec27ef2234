/-
  what CastWhole needs of the texts of chapter 18 (made by castw.py)
-/
import Derived.Test.YtlfhmecdgfennaaPCastB
import Derived.Test.YtlfhmecdgfennaaPCastC
set_option linter.unusedVariables false
set_option linter.unusedSimpArgs false
namespace Go.Proofs.Ytlfhmecdgfennaa
open Go.Gx

theorem app2 {α : Type} {l : List α} (h : l.length ≤ 1000) : (((fits (0 : Nat) (List.length l) l) && (decide ((((List.length l) + (1 : Nat)) * (2 : Nat)) ≤ (70368744177664 : Nat)))) && true) = true := by
  rw [fits_of (by omega), decide_eq_true (by omega)]; rfl
theorem getD_at {α : Type} {l : List α} {i : Nat} (h : i < l.length) (d : α) : l.getD i d = l[i] := by simp [List.getD, h]
def cnt : List Bool → Int
  | [] => 0
  | b :: r => (if b = true then 1 else 0) + cnt r
theorem cnt_le : ∀ X : List Bool, 0 ≤ cnt X ∧ cnt X ≤ (X.length : Int)
  | [] => by simp [cnt]
  | b :: r => by
    have := cnt_le r
    unfold cnt
    rw [List.length_cons]
    cases b
    · simp only [Bool.false_eq_true, if_false]; omega
    · simp only [if_true]; omega
def failB (X : List Bool) (a b : Int) : Bool := decide ((X.length : Int) = a) && decide (a ≤ 6) && decide (cnt X ≤ b)
theorem fail_l0 {R : Type} (N : Nat) (X : List Bool) (hX : X.length ≤ 1000) (a b : Int) (k : List Bool → Int → Int → Int → Option R) :
    ∀ (m i n : Nat), X.length - i = m → i ≤ X.length → m < n → ∀ s : Int, 0 ≤ s → s ≤ (i : Int) → Z31_l0 N k n X a b s X (X.length : Int) (i : Int) = k X a b (s + cnt (X.drop i)) := by
  intro m
  induction m with
  | zero =>
    intro i n hm hi hn s hs0 hs1
    obtain ⟨n, rfl⟩ : ∃ n', n = n' + 1 := ⟨n - 1, by omega⟩
    have : i = X.length := by omega
    subst this
    simp only [Z31_l0, Z31_l0_T0, List.drop_length, cnt, Int.add_zero]
    rw [br_not (decide_eq_false (by omega))]
  | succ m ih =>
    intro i n hm hi hn s hs0 hs1
    obtain ⟨n, rfl⟩ : ∃ n', n = n' + 1 := ⟨n - 1, by omega⟩
    have hlt : i < X.length := by omega
    simp only [Z31_l0, Z31_l0_T0, Int.toNat_natCast, getD_at hlt]
    rw [br_of (decide_eq_true (by omega)), br_of (inB_of (by omega)), w64_succ (by omega), List.drop_eq_getElem_cons hlt, w64 (x := s + 1) (by omega)]
    unfold cnt
    cases X[i] with
    | true =>
      refine (ih (i + 1) n (by omega) (by omega) (by omega) (s + 1) (by omega) (by omega)).trans ?_
      rw [if_pos rfl, Int.add_assoc]
    | false =>
      refine (ih (i + 1) n (by omega) (by omega) (by omega) s (by omega) (by omega)).trans ?_
      rw [if_neg (by decide), Int.zero_add]
theorem fail_eq {R : Type} (N : Nat) (X : List Bool) (hX : X.length ≤ 1000) (hN : 1000 < N) (a b : Int) (k : Bool → Option R) : Z31 N X a b k = k (failB X a b) := by
  unfold Z31 Z31_T failB
  refine (fail_l0 N X hX a b _ X.length 0 N (by omega) (by omega) (by omega) 0 (by omega) (by omega)).trans ?_
  rw [List.drop_zero, Int.zero_add]
  cases decide ((X.length : Int) = a) <;> cases decide (a ≤ 6) <;> rfl
theorem failF_l0 {R : Type} (N : Nat) (X : List Bool) (hX : X.length ≤ 1000) (a b : Int) (k : Int → Int → Int → List Bool → Option R) :
    ∀ (m i n : Nat), X.length - i = m → i ≤ X.length → m < n → ∀ s : Int, 0 ≤ s → s ≤ (i : Int) → Z32_l0 N k n a b s (X.length : Int) (i : Int) X = k a b (s + cnt (X.drop i)) X := by
  intro m
  induction m with
  | zero =>
    intro i n hm hi hn s hs0 hs1
    obtain ⟨n, rfl⟩ : ∃ n', n = n' + 1 := ⟨n - 1, by omega⟩
    have : i = X.length := by omega
    subst this
    simp only [Z32_l0, Z32_l0_T0, List.drop_length, cnt, Int.add_zero]
    rw [br_not (decide_eq_false (by omega))]
  | succ m ih =>
    intro i n hm hi hn s hs0 hs1
    obtain ⟨n, rfl⟩ : ∃ n', n = n' + 1 := ⟨n - 1, by omega⟩
    have hlt : i < X.length := by omega
    simp only [Z32_l0, Z32_l0_T0, Int.toNat_natCast, getD_at hlt]
    rw [br_of (decide_eq_true (by omega)), br_of (inB_of (by omega)), br_of (decide_eq_true hlt), w64_succ (by omega), List.drop_eq_getElem_cons hlt, w64 (x := s + 1) (by omega)]
    unfold cnt
    cases X[i] with
    | true =>
      refine (ih (i + 1) n (by omega) (by omega) (by omega) (s + 1) (by omega) (by omega)).trans ?_
      rw [if_pos rfl, Int.add_assoc]
    | false =>
      refine (ih (i + 1) n (by omega) (by omega) (by omega) s (by omega) (by omega)).trans ?_
      rw [if_neg (by decide), Int.zero_add]
theorem failF_eq {R : Type} (N : Nat) (X : List Bool) (hX : X.length ≤ 1000) (hN : 1000 < N) (a b : Int) (k : Bool → List Bool → Option R) : Z32 N a b X k = k (failB X a b) X := by
  unfold Z32 Z32_T failB
  refine (failF_l0 N X hX a b _ X.length 0 N (by omega) (by omega) (by omega) 0 (by omega) (by omega)).trans ?_
  rw [List.drop_zero, Int.zero_add]
  cases decide ((X.length : Int) = a) <;> cases decide (a ≤ 6) <;> rfl
def fitT : List Int → List (List Int) → Bool
  | c :: C, t :: T => decide ((t.length : Int) ≤ c) && fitT C T
  | _, _ => true
theorem fitT_at : ∀ {C : List Int} {T : List (List Int)}, fitT C T = true → T.length = C.length → ∀ i (h : i < T.length), (T[i].length : Int) ≤ C.getD i 0
  | [], [], _, _, _, hi => absurd hi (by simp)
  | [], t :: T, _, hl, _, _ => by simp at hl
  | c :: C, [], _, _, _, hi => absurd hi (by simp)
  | c :: C, t :: T, h, hl, 0, _ => by
    unfold fitT at h
    simp only [Bool.and_eq_true, decide_eq_true_eq] at h
    exact h.1
  | c :: C, t :: T, h, hl, i + 1, hi => by
    unfold fitT at h
    simp only [Bool.and_eq_true] at h
    exact fitT_at h.2 (by simpa using hl) i (by simpa using hi)
def hasB (L : List EN) (S : List Int) (a b c : Int) (F A : List (List Int)) (X : List Bool) : Bool :=
  mayB L S a b c && decide (F.length = (capsL L).length) && decide (A.length = S.length) && failB X a b && fitT (capsL L ++ S) (F ++ A)
theorem addLo_eq (n : Nat) (i : Int) : addLo n i = (n : Int) + i := by
  cases n with
  | zero => show i = _; simp
  | succ n => rfl
theorem hasF_l0 {R : Type} (N : Nat) (k0 : Bool → Nat → List (List Int) → List Bool → Option R) (k1 : Nat → List (List Int) → List Bool → Option R) (T : List (List Int)) (X : List Bool) (C : List Int) (nf q : Nat) (hnf : nf ≤ T.length) (hC : C.length = T.length) (h1000 : C.length ≤ 1000) :
    ∀ (m i n : Nat), C.length - i = m → i ≤ C.length → m < n → Z26_l0 N k0 k1 n (nf : Int) (C.length : Int) (i : Int) T.length T X nf q nf (T.length - nf) C = if fitT (C.drop i) (T.drop i) = true then k1 T.length T X else k0 false T.length T X := by
  intro m
  induction m with
  | zero =>
    intro i n hm hi hn
    obtain ⟨n, rfl⟩ : ∃ n', n = n' + 1 := ⟨n - 1, by omega⟩
    have : i = C.length := by omega
    subst this
    simp only [Z26_l0, Z26_l0_T0, List.drop_length]
    rw [br_not (decide_eq_false (by omega))]
    rfl
  | succ m ih =>
    intro i n hm hi hn
    obtain ⟨n, rfl⟩ : ∃ n', n = n' + 1 := ⟨n - 1, by omega⟩
    have hlt : i < C.length := by omega
    have hltT : i < T.length := by omega
    rw [List.drop_eq_getElem_cons hlt, List.drop_eq_getElem_cons hltT]
    have hfit : fitT (C[i] :: C.drop (i + 1)) (T[i] :: T.drop (i + 1)) = (decide ((T[i].length : Int) ≤ C[i]) && fitT (C.drop (i + 1)) (T.drop (i + 1))) := rfl
    have hih := ih (i + 1) n (by omega) (by omega) (by omega)
    simp only [Z26_l0, Z26_l0_T0, Int.toNat_natCast, getD_at hlt, getD_at hltT, addLo_eq]
    rw [hfit, br_of (decide_eq_true (by omega)), br_of (inB_of (by omega)), br_of (decide_eq_true hlt), w64_succ (by omega), hih]
    by_cases hiF : i < nf
    · rw [br_of (decide_eq_true (by omega)), br_of (inB_of (by omega)), br_of (decide_eq_true hltT), br_not (b := decide ((nf : Int) ≤ (i : Int))) (decide_eq_false (by omega)), br_ndec]
      by_cases hle : (T[i].length : Int) ≤ C[i]
      · rw [if_neg (by omega), decide_eq_true hle, Bool.true_and]
      · rw [if_pos (by omega), decide_eq_false hle]; rfl
    · have hw : IntKind.wrap .i64 ((i : Int) - (nf : Int)) = ((i - nf : Nat) : Int) := by rw [w64 (by omega)]; omega
      have hw2 : ((nf : Int) + ((i - nf : Nat) : Int)) = (i : Int) := by omega
      rw [br_not (decide_eq_false (by omega)), br_of (decide_eq_true (by omega)), hw, hw2, br_of (inB_of (by omega)), Int.toNat_natCast, br_of (decide_eq_true hltT), getD_at hltT, br_dec]
      by_cases hle : (T[i].length : Int) ≤ C[i]
      · rw [if_neg (by omega), decide_eq_true hle, Bool.true_and]
      · rw [if_pos (by omega), decide_eq_false hle]; rfl
theorem HasF_eq {R : Type} (N : Nat) (hN : 1000 < N) (L : List EN) (S : List Int) (a b c : Int) (hL : L.length ≤ 60) (hS : S.length ≤ 60) (T : List (List Int)) (X : List Bool) (hX : X.length ≤ 1000) (q : Nat) (hT : T.length = (capsL L ++ S).length) (k : Bool → Nat → List (List Int) → List Bool → Option R) :
    Z26 N L S a b c (capsL L).length q (capsL L).length (T.length - (capsL L).length) T.length T X k = k (mayB L S a b c && failB X a b && fitT (capsL L ++ S) T) T.length T X := by
  rw [List.length_append] at hT
  unfold Z26 Z26_T
  rw [Files_eq N (by omega) L (by omega), May_eq17 N (by omega), files_len]
  cases hm : mayB L S a b c with
  | false => rfl
  | true =>
    obtain ⟨hf, hL8, hS2, hC6, ha0, ha6⟩ := may_fit hm
    rw [br_of (b := !(!true)) rfl, br_of (b := !(!decide _)) (by rw [decide_eq_true (by omega)]; rfl), br_of (b := !(!decide _)) (by rw [decide_eq_true (by omega)]; rfl), failF_eq N X hX (by omega)]
    cases failB X a b with
    | false => rfl
    | true =>
      rw [br_not (b := !true) rfl, Caps_eq N (by omega) L (by omega) S (by omega)]
      refine (hasF_l0 N _ _ T X (capsL L ++ S) (capsL L).length q (by omega) (by rw [List.length_append]; omega) (by omega) (capsL L ++ S).length 0 N (by omega) (by omega) (by omega)).trans ?_
      rw [List.drop_zero, List.drop_zero]
      cases fitT (capsL L ++ S) T <;> rfl
theorem app24 {α : Type} {l : List α} {z : Nat} (h : l.length ≤ 1000) (hz : z ≤ 1000) : (((fits (0 : Nat) (List.length l) l) && (decide ((((List.length l) + z) * (24 : Nat)) ≤ (70368744177664 : Nat)))) && true) = true := by
  rw [fits_of (by omega), decide_eq_true (by omega)]; rfl
theorem grow_eq {R : Type} (N : Nat) (n : Nat) (hn : n ≤ 1000) (k : List (List Int) → Option R) : Z53 N (n : Int) k = k [] := by
  unfold Z53 Z53_T
  have e : IntKind.wrap .i64 ((n : Int) - IntKind.wrap .i64 (0 - 0)) = (n : Int) := by
    rw [show IntKind.wrap .i64 (0 - 0) = 0 from rfl, w64 (by omega)]; omega
  rw [br_not (decide_eq_false (by omega)), e]
  by_cases h0 : n = 0
  · rw [br_not (decide_eq_false (by omega))]
  · rw [br_of (decide_eq_true (by omega)), br_of (by rw [decide_eq_true (by omega), decide_eq_true (by omega)]; rfl), br_of (leB_of (by omega)), br_of (fits_of (by simp))]
    rfl
theorem concat_eq {R : Type} (N : Nat) (hN : 10 < N) (F A : List (List Int)) (hF : F.length ≤ 400) (hA : A.length ≤ 400) (k : List (List (List Int)) → List (List Int) → Option R) :
    Z51 N [F, A] k = k [F, A] (F ++ A) := by
  obtain ⟨n, rfl⟩ : ∃ n, N = n + 5 := ⟨N - 5, by omega⟩
  unfold Z51 Z51_T
  have s1 : IntKind.wrap .i64 (0 + (F.length : Int)) = (F.length : Int) := by rw [Int.zero_add, w64 (by omega)]
  have s2 : IntKind.wrap .i64 ((F.length : Int) + (A.length : Int)) = ((F.length + A.length : Nat) : Int) := by rw [w64 (by omega)]; omega
  have hl0 : ∀ (k0 : Int → List (List (List Int)) → Option R), Z51_l0 (n + 5) k0 (n + 5) 0 (2 : Int) 0 [F, A] = k0 ((F.length + A.length : Nat) : Int) [F, A] := by
    intro k0
    have e1 : Z51_l0 (n + 5) k0 (n + 5) 0 (2 : Int) 0 [F, A] = br (decide (IntKind.wrap .i64 (0 + (F.length : Int)) < 0)) none (Z51_l0 (n + 5) k0 (n + 4) (IntKind.wrap .i64 (0 + (F.length : Int))) 2 1 [F, A]) := rfl
    have e2 : ∀ z, Z51_l0 (n + 5) k0 (n + 4) z (2 : Int) 1 [F, A] = br (decide (IntKind.wrap .i64 (z + (A.length : Int)) < 0)) none (Z51_l0 (n + 5) k0 (n + 3) (IntKind.wrap .i64 (z + (A.length : Int))) 2 2 [F, A]) := fun _ => rfl
    have e3 : ∀ z, Z51_l0 (n + 5) k0 (n + 3) z (2 : Int) 2 [F, A] = k0 z [F, A] := fun _ => rfl
    rw [e1, s1, br_not (decide_eq_false (by omega)), e2, s2, br_not (decide_eq_false (by omega)), e3]
  have hl1 : ∀ (k0 : List (List (List Int)) → List (List Int) → Option R), Z51_l1 (n + 5) k0 (n + 5) (2 : Int) 0 [F, A] [] = k0 [F, A] (F ++ A) := by
    intro k0
    have e1 : Z51_l1 (n + 5) k0 (n + 5) (2 : Int) 0 [F, A] [] = br (((fits (0 : Nat) ([] : List (List Int)).length ([] : List (List Int))) && decide ((([] : List (List Int)).length + F.length) * 24 ≤ 70368744177664)) && true) (Z51_l1 (n + 5) k0 (n + 4) (2 : Int) 1 [F, A] (([] : List (List Int)) ++ F)) none := rfl
    have e2 : ∀ z, Z51_l1 (n + 5) k0 (n + 4) (2 : Int) 1 [F, A] z = br (((fits (0 : Nat) z.length z) && decide ((z.length + A.length) * 24 ≤ 70368744177664)) && true) (Z51_l1 (n + 5) k0 (n + 3) (2 : Int) 2 [F, A] (sub z 0 z.length ++ A)) none := fun _ => rfl
    have e3 : ∀ z, Z51_l1 (n + 5) k0 (n + 3) (2 : Int) 2 [F, A] z = k0 [F, A] z := fun _ => rfl
    rw [e1, br_of (app24 (by simp) (by omega)), e2, List.nil_append, br_of (app24 (by omega) (by omega)), e3, sub_all]
  refine (hl0 _).trans ?_
  rw [grow_eq _ _ (by omega)]
  exact hl1 _
theorem u16_small {x : Int} (h : 0 ≤ x ∧ x ≤ 65535) : IntKind.wrap .u16 x = x := by
  rw [show IntKind.wrap .u16 x = x % 65536 from rfl]; omega
theorem pad_snoc (t : List Int) (k : Nat) : padT (k + 1) t = padT k t ++ [t.getD k 0] := by
  unfold padT
  rw [List.range_succ, List.map_append]
  rfl
theorem enc_snoc : ∀ {C : List Int} {T : List (List Int)} (i : Nat) (hC : i < C.length) (hT : i < T.length), encT (C.drop i) (T.drop i) = ((T[i].length : Nat) : Int) :: (padT (C[i]).toNat T[i] ++ encT (C.drop (i + 1)) (T.drop (i + 1))) := by
  intro C T i hC hT
  rw [List.drop_eq_getElem_cons hC, List.drop_eq_getElem_cons hT]
  rfl
theorem enc_le {C : List Int} {T : List (List Int)} (h : T.length = C.length) (hf : Fit C) : (encT C T).length ≤ 4 * C.length := by
  rw [enc_len h]
  clear h
  induction C with
  | nil => simp [offN]
  | cons c C ih =>
    have := ih fun z hz => hf z (List.mem_cons_of_mem _ hz)
    have hc := hf c List.mem_cons_self
    unfold offN
    rw [List.length_cons]
    omega
theorem fit_len {C : List Int} {T : List (List Int)} (hf : Fit C) (h : fitT C T = true) (hl : T.length = C.length) : ∀ t ∈ T, t.length ≤ 3 := by
  intro t ht
  obtain ⟨i, hi, rfl⟩ := List.getElem_of_mem ht
  have h1 := fitT_at h hl i hi
  have hlt : i < C.length := by omega
  rw [getD_at hlt] at h1
  have := hf C[i] (List.getElem_mem hlt)
  omega
def envV (C : List Int) (T : List (List Int)) (X : List Bool) : List Int := encT C T ++ encX X
theorem hasB_iff {L : List EN} {S : List Int} {a b c : Int} {F A : List (List Int)} {X : List Bool} (h : hasB L S a b c F A X = true) :
    mayB L S a b c = true ∧ F.length = (capsL L).length ∧ A.length = S.length ∧ failB X a b = true ∧ fitT (capsL L ++ S) (F ++ A) = true := by
  unfold hasB at h
  simp only [Bool.and_eq_true, decide_eq_true_eq] at h
  exact ⟨h.1.1.1.1, h.1.1.1.2, h.1.1.2, h.1.2, h.2⟩
theorem failB_len {X : List Bool} {a b : Int} (h : failB X a b = true) : (X.length : Int) = a ∧ a ≤ 6 ∧ cnt X ≤ b := by
  unfold failB at h
  simp only [Bool.and_eq_true, decide_eq_true_eq] at h
  exact ⟨h.1.1, h.1.2, h.2⟩
theorem envF_l1 {R : Type} (N : Nat) (t : List Int) (ht : Byt t) (ht1 : t.length ≤ 1000) (c : Int) (hc : 0 ≤ c ∧ c ≤ 3) (x1 x2 : Int) (x5 : List (List Int)) (x6 : List Bool) (x7 : List EN) (x8 : List Int) (x9 x10 x11 : Int) (x12 x13 x14 x15 : Nat) (x17 : List (List Int))
    (k : Int → Int → List (List Int) → List Bool → List EN → List Int → Int → Int → Int → Nat → Nat → Nat → Nat → List Int → List (List Int) → Option R) :
    ∀ (m i n : Nat), c.toNat - i = m → i ≤ c.toNat → m < n → ∀ E : List Int, E.length ≤ 900 → Z2_l1 N k n t x1 x2 c (i : Int) x5 x6 x7 x8 x9 x10 x11 x12 x13 x14 x15 (E ++ padT i t) x17 = k x1 x2 x5 x6 x7 x8 x9 x10 x11 x12 x13 x14 x15 (E ++ padT c.toNat t) x17 := by
  intro m
  induction m with
  | zero =>
    intro i n hm hi hn E hE
    obtain ⟨n, rfl⟩ : ∃ n', n = n' + 1 := ⟨n - 1, by omega⟩
    have : i = c.toNat := by omega
    subst this
    simp only [Z2_l1, Z2_l1_T0]
    rw [br_not (decide_eq_false (by omega))]
  | succ m ih =>
    intro i n hm hi hn E hE
    obtain ⟨n, rfl⟩ : ∃ n', n = n' + 1 := ⟨n - 1, by omega⟩
    have hlen : (E ++ padT i t).length ≤ 1000 := by rw [List.length_append, padT_len]; omega
    have hih := ih (i + 1) n (by omega) (by omega) (by omega) E hE
    rw [pad_snoc, ← List.append_assoc] at hih
    simp only [Z2_l1, Z2_l1_T0, Int.toNat_natCast]
    rw [br_of (decide_eq_true (by omega)), w64_succ (by omega), sub_all, br_dec]
    by_cases h : (i : Int) < (t.length : Int)
    · have hlt : i < t.length := by omega
      have hb := ht t[i] (List.getElem_mem hlt)
      rw [if_pos h, br_of (inB_of (by omega)), br_of (app2 hlen), getD_at hlt, u16_small (by omega)]
      rw [getD_at hlt] at hih
      exact hih
    · rw [if_neg h, br_of (app2 hlen)]
      have : t.getD i 0 = 0 := by simp [List.getD, show t.length ≤ i by omega]
      rw [this] at hih
      exact hih
theorem envF_l0 {R : Type} (N : Nat) (hN : 1000 < N) (L : List EN) (S : List Int) (a b c : Int) (hL : L.length ≤ 60) (hS : S.length ≤ 60) (x2 : List (List Int)) (X : List Bool) (p q r s : Nat) (T : List (List Int)) (hTl : T.length = (capsL L ++ S).length) (hT : ∀ t ∈ T, Byt t ∧ t.length ≤ 1000) (hfit : Fit (capsL L ++ S)) (h6 : (capsL L ++ S).length ≤ 6)
    (k : List (List Int) → List Bool → Nat → Nat → Nat → Nat → List Int → Option R) :
    ∀ (m i n : Nat), T.length - i = m → i ≤ T.length → m < n → ∀ E : List Int, E.length ≤ 4 * i → Z2_l0 N k n (T.length : Int) (i : Int) x2 X L S a b c p q r s E T = k x2 X p q r s (E ++ encT ((capsL L ++ S).drop i) (T.drop i)) := by
  intro m
  induction m with
  | zero =>
    intro i n hm hi hn E hE
    obtain ⟨n, rfl⟩ : ∃ n', n = n' + 1 := ⟨n - 1, by omega⟩
    have : i = T.length := by omega
    subst this
    simp only [Z2_l0, Z2_l0_T0]
    rw [br_not (decide_eq_false (by omega))]
    have : encT ((capsL L ++ S).drop T.length) (T.drop T.length) = [] := by rw [List.drop_length, hTl, List.drop_length]; rfl
    rw [this, List.append_nil]
  | succ m ih =>
    intro i n hm hi hn E hE
    obtain ⟨n, rfl⟩ : ∃ n', n = n' + 1 := ⟨n - 1, by omega⟩
    have hlt : i < T.length := by omega
    have hltC : i < (capsL L ++ S).length := by omega
    have hb := hT T[i] (List.getElem_mem hlt)
    have hc := hfit (capsL L ++ S)[i] (List.getElem_mem hltC)
    simp only [Z2_l0, Z2_l0_T0, Int.toNat_natCast, getD_at hlt]
    rw [br_of (decide_eq_true (by omega)), br_of (inB_of (by omega)), br_of (decide_eq_true hlt), br_of (app2 (by omega)), Caps_eq N (by omega) L (by omega) S (by omega)]
    simp only [getD_at hltC]
    rw [br_of (inB_of (by omega)), br_of (decide_eq_true hltC), sub_all, u16_small (by omega)]
    have h1 := envF_l1 (R := R) N T[i] hb.1 hb.2 (capsL L ++ S)[i] hc (T.length : Int) (i : Int) x2 X L S a b c p q r s T
      (fun i718 i719 l720 l721 l722 l723 i724 i725 i726 n727 n728 n729 n730 l731 l732 => Z2_l0 N k n i718 (IntKind.wrap .i64 (i719 + (1 : Int))) l720 l721 l722 l723 i724 i725 i726 n727 n728 n729 n730 l731 l732)
      ((capsL L ++ S)[i]).toNat 0 N (by omega) (by omega) (by omega) (E ++ [((T[i].length : Nat) : Int)]) (by simp; omega)
    rw [show padT 0 T[i] = [] from rfl, List.append_nil] at h1
    refine h1.trans ?_
    rw [w64_succ (by omega), ih (i + 1) n (by omega) (by omega) (by omega) _ (by simp [padT_len]; omega), enc_snoc i hltC hlt]
    congr 1
    simp
theorem envF_l2 {R : Type} (N : Nat) (x2 : List (List Int)) (X : List Bool) (hX : X.length ≤ 100) (k : List (List Int) → List Bool → List Int → Option R) :
    ∀ (m i n : Nat), X.length - i = m → i ≤ X.length → m < n → ∀ E : List Int, E.length ≤ 500 + i → Z2_l2 N k n (X.length : Int) (i : Int) x2 X E = k x2 X (E ++ encX (X.drop i)) := by
  intro m
  induction m with
  | zero =>
    intro i n hm hi hn E hE
    obtain ⟨n, rfl⟩ : ∃ n', n = n' + 1 := ⟨n - 1, by omega⟩
    have : i = X.length := by omega
    subst this
    simp only [Z2_l2, Z2_l2_T0]
    rw [br_not (decide_eq_false (by omega)), List.drop_length]
    show _ = k x2 X (E ++ [])
    rw [List.append_nil]
  | succ m ih =>
    intro i n hm hi hn E hE
    obtain ⟨n, rfl⟩ : ∃ n', n = n' + 1 := ⟨n - 1, by omega⟩
    have hlt : i < X.length := by omega
    have hE1 : E.length ≤ 1000 := by omega
    have hdr := List.drop_eq_getElem_cons hlt
    have ih1 := ih (i + 1) n (by omega) (by omega) (by omega)
    simp only [Z2_l2, Z2_l2_T0, Int.toNat_natCast, getD_at hlt]
    rw [br_of (decide_eq_true (by omega)), br_of (inB_of (by omega)), br_of (decide_eq_true hlt), w64_succ (by omega), sub_all, hdr]
    cases hx : X[i] with
    | true =>
      rw [br_true, br_of (app2 hE1), ih1 _ (by simp; omega)]
      congr 1
      simp [encX]
    | false =>
      rw [br_false, br_of (app2 hE1), ih1 _ (by simp; omega)]
      congr 1
      simp [encX]
theorem EnvF_eq {R : Type} (N : Nat) (hN : 1000 < N) (L : List EN) (S : List Int) (a b c : Int) (hL : L.length ≤ 60) (hS : S.length ≤ 60) (hm : mayB L S a b c = true) (T : List (List Int)) (hT : ∀ t ∈ T, Byt t) (hTl : T.length = (capsL L ++ S).length) (q : Nat) (X : List Bool) (hX : X.length ≤ 60)
    (k0 : Int → Nat → List (List Int) → List Bool → List Int → Option R) (k1 : Int → List (List Int) → List Bool → List Int → Option R) :
    Z2 N L S a b c (capsL L).length q (capsL L).length (T.length - (capsL L).length) T.length T X k0 k1 = if (failB X a b && fitT (capsL L ++ S) T) = true then k1 0 T X (envV (capsL L ++ S) T X) else k0 12 T.length T X [] := by
  unfold Z2 Z2_T
  obtain ⟨hf, hL8, hS2, hC6, ha0, ha6⟩ := may_fit hm
  rw [May_eq17 N (by omega), hm, br_not (b := !true) rfl, HasF_eq N hN L S a b c hL hS T X (by omega) q hTl, hm, Bool.true_and, br_neg]
  cases hh : failB X a b && fitT (capsL L ++ S) T with
  | false => rfl
  | true =>
    rw [Bool.and_eq_true] at hh
    have h3' := fit_len hf hh.2 hTl
    have hlen : (capsL L ++ S).length = (capsL L).length + S.length := List.length_append
    have hs1 : sub T 0 (capsL L).length = T.take (capsL L).length := by simp [sub]
    have hs2 : sub T (capsL L).length (T.length - (capsL L).length) = T.drop (capsL L).length := by
      unfold sub; rw [List.take_of_length_le (by simp)]
    have hcat : T.take (capsL L).length ++ T.drop (capsL L).length = T := List.take_append_drop _ _
    rw [br_true, if_pos rfl, br_of (fits_of (by omega)), br_of (fits_of (by omega)), hs1, hs2, concat_eq N (by omega) _ _ (by rw [List.length_take]; omega) (by rw [List.length_drop]; omega), hcat]
    refine (envF_l0 N hN L S a b c hL hS T X _ _ _ _ T hTl (fun t ht => ⟨hT t ht, by have := h3' t ht; omega⟩) hf hC6 _ T.length 0 N (by omega) (by omega) (by omega) [] (by simp)).trans ?_
    rw [List.nil_append, List.drop_zero, List.drop_zero]
    have he := enc_le hTl hf
    refine (envF_l2 N T X (by omega) _ X.length 0 N (by omega) (by omega) (by omega) _ (by omega)).trans ?_
    rw [List.drop_zero]
    rfl
/-- one row against the first numbers of another -/
theorem eqB_l0 {R : Type} (N : Nat) (A B : List Int) (q : Nat) (hl : B.length ≤ A.length) (h1000 : B.length ≤ 1000) (k0 : Bool → List Int → Nat → List Int → Option R) (k1 : List Int → Nat → List Int → Option R) :
    ∀ (m i n : Nat), B.length - i = m → i ≤ B.length → m < n → Z52_l0 N k0 k1 n B.length q (B.length : Int) (i : Int) B A.length A = if B.drop i = (A.take B.length).drop i then k1 B A.length A else k0 false B A.length A := by
  intro m
  induction m with
  | zero =>
    intro i n hm hi hn
    obtain ⟨n, rfl⟩ : ∃ n', n = n' + 1 := ⟨n - 1, by omega⟩
    have : i = B.length := by omega
    subst this
    simp only [Z52_l0, Z52_l0_T0]
    have h0 : (A.take B.length).drop B.length = [] := List.drop_eq_nil_of_le (by rw [List.length_take]; omega)
    rw [br_not (decide_eq_false (by omega)), if_pos (by rw [List.drop_length, h0])]
  | succ m ih =>
    intro i n hm hi hn
    obtain ⟨n, rfl⟩ : ∃ n', n = n' + 1 := ⟨n - 1, by omega⟩
    have hlt : i < B.length := by omega
    have hltA : i < A.length := by omega
    have hltT : i < (A.take B.length).length := by rw [List.length_take]; omega
    have hAt : (A.take B.length)[i] = A[i] := List.getElem_take
    simp only [Z52_l0, Z52_l0_T0, Int.toNat_natCast, getD_at hlt, getD_at hltA]
    rw [br_of (decide_eq_true (by omega)), br_of (inB_of (by omega)), br_of (decide_eq_true hlt), br_of (inB_of (by omega)), br_of (decide_eq_true hltA), w64_succ (by omega), ih (i + 1) n (by omega) (by omega) (by omega), List.drop_eq_getElem_cons hlt, List.drop_eq_getElem_cons hltT, hAt, br_ndec]
    by_cases h : B[i] = A[i]
    · rw [if_pos h]; simp only [List.cons.injEq, h, true_and]
    · rw [if_neg h, if_neg (fun e => h (List.cons.inj e).1)]
theorem eqB_eq {R : Type} (N : Nat) (hN : 1000 < N) (A B : List Int) (p q : Nat) (hp : p ≤ A.length) (h1000 : B.length ≤ 1000) (k : Bool → List Int → Nat → List Int → Option R) : Z52 N p q B A.length A k = k (decide (B = A.take p)) B A.length A := by
  unfold Z52 Z52_T
  by_cases hl : B.length = p
  · subst hl
    rw [br_not (b := !decide _) (by rw [decide_eq_true rfl]; rfl)]
    refine (eqB_l0 N A B q hp h1000 _ _ B.length 0 N (by omega) (by omega) (by omega)).trans ?_
    rw [List.drop_zero, List.drop_zero]
    by_cases h : B = A.take B.length
    · rw [if_pos h, decide_eq_true h]
    · rw [if_neg h, decide_eq_false h]
  · rw [br_of (b := !decide _) (by rw [decide_eq_false (by omega)]; rfl), decide_eq_false (fun e => hl (by rw [e, List.length_take]; omega))]
/-! ### of an own row of texts -/
theorem hasN_l0 {R : Type} (N : Nat) (k0 : Bool → Nat → List (List Int) → Option R) (k1 : Nat → List (List Int) → Option R) (T : List (List Int)) (X : List Bool) (C : List Int) (nf q : Nat) (hnf : nf ≤ T.length) (hC : C.length = T.length) (h1000 : C.length ≤ 1000) :
    ∀ (m i n : Nat), C.length - i = m → i ≤ C.length → m < n → Z27_l0 N k0 k1 n (nf : Int) (C.length : Int) (i : Int) T.length T nf q nf (T.length - nf) X C = if fitT (C.drop i) (T.drop i) = true then k1 T.length T else k0 false T.length T := by
  intro m
  induction m with
  | zero =>
    intro i n hm hi hn
    obtain ⟨n, rfl⟩ : ∃ n', n = n' + 1 := ⟨n - 1, by omega⟩
    have : i = C.length := by omega
    subst this
    simp only [Z27_l0, Z27_l0_T0, List.drop_length]
    rw [br_not (decide_eq_false (by omega))]
    rfl
  | succ m ih =>
    intro i n hm hi hn
    obtain ⟨n, rfl⟩ : ∃ n', n = n' + 1 := ⟨n - 1, by omega⟩
    have hlt : i < C.length := by omega
    have hltT : i < T.length := by omega
    rw [List.drop_eq_getElem_cons hlt, List.drop_eq_getElem_cons hltT]
    have hfit : fitT (C[i] :: C.drop (i + 1)) (T[i] :: T.drop (i + 1)) = (decide ((T[i].length : Int) ≤ C[i]) && fitT (C.drop (i + 1)) (T.drop (i + 1))) := rfl
    have hih := ih (i + 1) n (by omega) (by omega) (by omega)
    simp only [Z27_l0, Z27_l0_T0, Int.toNat_natCast, getD_at hlt, getD_at hltT, addLo_eq]
    rw [hfit, br_of (decide_eq_true (by omega)), br_of (inB_of (by omega)), br_of (decide_eq_true hlt), w64_succ (by omega), hih]
    by_cases hiF : i < nf
    · rw [br_of (decide_eq_true (by omega)), br_of (inB_of (by omega)), br_of (decide_eq_true hltT), br_not (b := decide ((nf : Int) ≤ (i : Int))) (decide_eq_false (by omega)), br_ndec]
      by_cases hle : (T[i].length : Int) ≤ C[i]
      · rw [if_neg (by omega), decide_eq_true hle, Bool.true_and]
      · rw [if_pos (by omega), decide_eq_false hle]; rfl
    · have hw : IntKind.wrap .i64 ((i : Int) - (nf : Int)) = ((i - nf : Nat) : Int) := by rw [w64 (by omega)]; omega
      have hw2 : ((nf : Int) + ((i - nf : Nat) : Int)) = (i : Int) := by omega
      rw [br_not (decide_eq_false (by omega)), br_of (decide_eq_true (by omega)), hw, hw2, br_of (inB_of (by omega)), Int.toNat_natCast, br_of (decide_eq_true hltT), getD_at hltT, br_dec]
      by_cases hle : (T[i].length : Int) ≤ C[i]
      · rw [if_neg (by omega), decide_eq_true hle, Bool.true_and]
      · rw [if_pos (by omega), decide_eq_false hle]; rfl

theorem HasN_eq {R : Type} (N : Nat) (hN : 1000 < N) (L : List EN) (S : List Int) (a b c : Int) (hL : L.length ≤ 60) (hS : S.length ≤ 60) (T : List (List Int)) (X : List Bool) (hX : X.length ≤ 1000) (q : Nat) (hT : T.length = (capsL L ++ S).length) (k : Bool → Nat → List (List Int) → Option R) :
    Z27 N L S a b c (capsL L).length q (capsL L).length (T.length - (capsL L).length) X T.length T k = k (mayB L S a b c && failB X a b && fitT (capsL L ++ S) T) T.length T := by
  rw [List.length_append] at hT
  unfold Z27 Z27_T
  rw [Files_eq N (by omega) L (by omega), May_eq17 N (by omega), files_len]
  cases hm : mayB L S a b c with
  | false => rfl
  | true =>
    obtain ⟨hf, hL8, hS2, hC6, ha0, ha6⟩ := may_fit hm
    rw [br_of (b := !(!true)) rfl, br_of (b := !(!decide _)) (by rw [decide_eq_true (by omega)]; rfl), br_of (b := !(!decide _)) (by rw [decide_eq_true (by omega)]; rfl), fail_eq N X hX (by omega)]
    cases failB X a b with
    | false => rfl
    | true =>
      rw [br_not (b := !true) rfl, Caps_eq N (by omega) L (by omega) S (by omega)]
      refine (hasN_l0 N _ _ T X (capsL L ++ S) (capsL L).length q (by omega) (by rw [List.length_append]; omega) (by omega) (capsL L ++ S).length 0 N (by omega) (by omega) (by omega)).trans ?_
      rw [List.drop_zero, List.drop_zero]
      cases fitT (capsL L ++ S) T <;> rfl

theorem envN_l1 {R : Type} (N : Nat) (t : List Int) (ht : Byt t) (ht1 : t.length ≤ 1000) (c : Int) (hc : 0 ≤ c ∧ c ≤ 3) (x1 x2 : Int) (x5 : List (List Int)) (x7 : List EN) (x8 : List Int) (x9 x10 x11 : Int) (x12 x13 x14 x15 : Nat) (x6 : List Bool) (x17 : List (List Int))
    (k : Int → Int → List (List Int) → List EN → List Int → Int → Int → Int → Nat → Nat → Nat → Nat → List Bool → List Int → List (List Int) → Option R) :
    ∀ (m i n : Nat), c.toNat - i = m → i ≤ c.toNat → m < n → ∀ E : List Int, E.length ≤ 900 → Z4_l1 N k n t x1 x2 c (i : Int) x5 x7 x8 x9 x10 x11 x12 x13 x14 x15 x6 (E ++ padT i t) x17 = k x1 x2 x5 x7 x8 x9 x10 x11 x12 x13 x14 x15 x6 (E ++ padT c.toNat t) x17 := by
  intro m
  induction m with
  | zero =>
    intro i n hm hi hn E hE
    obtain ⟨n, rfl⟩ : ∃ n', n = n' + 1 := ⟨n - 1, by omega⟩
    have : i = c.toNat := by omega
    subst this
    simp only [Z4_l1, Z4_l1_T0]
    rw [br_not (decide_eq_false (by omega))]
  | succ m ih =>
    intro i n hm hi hn E hE
    obtain ⟨n, rfl⟩ : ∃ n', n = n' + 1 := ⟨n - 1, by omega⟩
    have hlen : (E ++ padT i t).length ≤ 1000 := by rw [List.length_append, padT_len]; omega
    have hih := ih (i + 1) n (by omega) (by omega) (by omega) E hE
    rw [pad_snoc, ← List.append_assoc] at hih
    simp only [Z4_l1, Z4_l1_T0, Int.toNat_natCast]
    rw [br_of (decide_eq_true (by omega)), w64_succ (by omega), sub_all, br_dec]
    by_cases h : (i : Int) < (t.length : Int)
    · have hlt : i < t.length := by omega
      have hb := ht t[i] (List.getElem_mem hlt)
      rw [if_pos h, br_of (inB_of (by omega)), br_of (app2 hlen), getD_at hlt, u16_small (by omega)]
      rw [getD_at hlt] at hih
      exact hih
    · rw [if_neg h, br_of (app2 hlen)]
      have : t.getD i 0 = 0 := by simp [List.getD, show t.length ≤ i by omega]
      rw [this] at hih
      exact hih

theorem envN_l0 {R : Type} (N : Nat) (hN : 1000 < N) (L : List EN) (S : List Int) (a b c : Int) (hL : L.length ≤ 60) (hS : S.length ≤ 60) (x2 : List (List Int)) (X : List Bool) (p q r s : Nat) (T : List (List Int)) (hTl : T.length = (capsL L ++ S).length) (hT : ∀ t ∈ T, Byt t ∧ t.length ≤ 1000) (hfit : Fit (capsL L ++ S)) (h6 : (capsL L ++ S).length ≤ 6)
    (k : List (List Int) → Nat → Nat → Nat → Nat → List Bool → List Int → Option R) :
    ∀ (m i n : Nat), T.length - i = m → i ≤ T.length → m < n → ∀ E : List Int, E.length ≤ 4 * i → Z4_l0 N k n (T.length : Int) (i : Int) x2 L S a b c p q r s X E T = k x2 p q r s X (E ++ encT ((capsL L ++ S).drop i) (T.drop i)) := by
  intro m
  induction m with
  | zero =>
    intro i n hm hi hn E hE
    obtain ⟨n, rfl⟩ : ∃ n', n = n' + 1 := ⟨n - 1, by omega⟩
    have : i = T.length := by omega
    subst this
    simp only [Z4_l0, Z4_l0_T0]
    rw [br_not (decide_eq_false (by omega))]
    have : encT ((capsL L ++ S).drop T.length) (T.drop T.length) = [] := by rw [List.drop_length, hTl, List.drop_length]; rfl
    rw [this, List.append_nil]
  | succ m ih =>
    intro i n hm hi hn E hE
    obtain ⟨n, rfl⟩ : ∃ n', n = n' + 1 := ⟨n - 1, by omega⟩
    have hlt : i < T.length := by omega
    have hltC : i < (capsL L ++ S).length := by omega
    have hb := hT T[i] (List.getElem_mem hlt)
    have hc := hfit (capsL L ++ S)[i] (List.getElem_mem hltC)
    simp only [Z4_l0, Z4_l0_T0, Int.toNat_natCast, getD_at hlt]
    rw [br_of (decide_eq_true (by omega)), br_of (inB_of (by omega)), br_of (decide_eq_true hlt), br_of (app2 (by omega)), Caps_eq N (by omega) L (by omega) S (by omega)]
    simp only [getD_at hltC]
    rw [br_of (inB_of (by omega)), br_of (decide_eq_true hltC), sub_all, u16_small (by omega)]
    have h1 := envN_l1 (R := R) N T[i] hb.1 hb.2 (capsL L ++ S)[i] hc (T.length : Int) (i : Int) x2 L S a b c p q r s X T
      (fun i718 i719 l720 l722 l723 i724 i725 i726 n727 n728 n729 n730 l721 l731 l732 => Z4_l0 N k n i718 (IntKind.wrap .i64 (i719 + (1 : Int))) l720 l722 l723 i724 i725 i726 n727 n728 n729 n730 l721 l731 l732)
      ((capsL L ++ S)[i]).toNat 0 N (by omega) (by omega) (by omega) (E ++ [((T[i].length : Nat) : Int)]) (by simp; omega)
    rw [show padT 0 T[i] = [] from rfl, List.append_nil] at h1
    refine h1.trans ?_
    rw [w64_succ (by omega), ih (i + 1) n (by omega) (by omega) (by omega) _ (by simp [padT_len]; omega), enc_snoc i hltC hlt]
    congr 1
    simp

theorem envN_l2 {R : Type} (N : Nat) (x2 : List (List Int)) (X : List Bool) (hX : X.length ≤ 100) (k : List (List Int) → List Int → Option R) :
    ∀ (m i n : Nat), X.length - i = m → i ≤ X.length → m < n → ∀ E : List Int, E.length ≤ 500 + i → Z4_l2 N k n X (X.length : Int) (i : Int) x2 E = k x2 (E ++ encX (X.drop i)) := by
  intro m
  induction m with
  | zero =>
    intro i n hm hi hn E hE
    obtain ⟨n, rfl⟩ : ∃ n', n = n' + 1 := ⟨n - 1, by omega⟩
    have : i = X.length := by omega
    subst this
    simp only [Z4_l2, Z4_l2_T0]
    rw [br_not (decide_eq_false (by omega)), List.drop_length]
    show _ = k x2 (E ++ [])
    rw [List.append_nil]
  | succ m ih =>
    intro i n hm hi hn E hE
    obtain ⟨n, rfl⟩ : ∃ n', n = n' + 1 := ⟨n - 1, by omega⟩
    have hlt : i < X.length := by omega
    have hE1 : E.length ≤ 1000 := by omega
    have hdr := List.drop_eq_getElem_cons hlt
    have ih1 := ih (i + 1) n (by omega) (by omega) (by omega)
    simp only [Z4_l2, Z4_l2_T0, Int.toNat_natCast, getD_at hlt]
    rw [br_of (decide_eq_true (by omega)), br_of (inB_of (by omega)), w64_succ (by omega), sub_all, hdr]
    cases hx : X[i] with
    | true =>
      rw [br_true, br_of (app2 hE1), ih1 _ (by simp; omega)]
      congr 1
      simp [encX]
    | false =>
      rw [br_false, br_of (app2 hE1), ih1 _ (by simp; omega)]
      congr 1
      simp [encX]

theorem EnvN_eq {R : Type} (N : Nat) (hN : 1000 < N) (L : List EN) (S : List Int) (a b c : Int) (hL : L.length ≤ 60) (hS : S.length ≤ 60) (hm : mayB L S a b c = true) (T : List (List Int)) (hT : ∀ t ∈ T, Byt t) (hTl : T.length = (capsL L ++ S).length) (q : Nat) (X : List Bool) (hX : X.length ≤ 60)
    (k0 : Int → Nat → List (List Int) → List Int → Option R) (k1 : Int → List (List Int) → List Int → Option R) :
    Z4 N L S a b c (capsL L).length q (capsL L).length (T.length - (capsL L).length) X T.length T k0 k1 = if (failB X a b && fitT (capsL L ++ S) T) = true then k1 0 T (envV (capsL L ++ S) T X) else k0 12 T.length T [] := by
  unfold Z4 Z4_T
  obtain ⟨hf, hL8, hS2, hC6, ha0, ha6⟩ := may_fit hm
  rw [May_eq17 N (by omega), hm, br_not (b := !true) rfl, HasN_eq N hN L S a b c hL hS T X (by omega) q hTl, hm, Bool.true_and, br_neg]
  cases hh : failB X a b && fitT (capsL L ++ S) T with
  | false => rfl
  | true =>
    rw [Bool.and_eq_true] at hh
    have h3' := fit_len hf hh.2 hTl
    have hlen : (capsL L ++ S).length = (capsL L).length + S.length := List.length_append
    have hs1 : sub T 0 (capsL L).length = T.take (capsL L).length := by simp [sub]
    have hs2 : sub T (capsL L).length (T.length - (capsL L).length) = T.drop (capsL L).length := by
      unfold sub; rw [List.take_of_length_le (by simp)]
    have hcat : T.take (capsL L).length ++ T.drop (capsL L).length = T := List.take_append_drop _ _
    rw [br_true, if_pos rfl, br_of (fits_of (by omega)), br_of (fits_of (by omega)), hs1, hs2, concat_eq N (by omega) _ _ (by rw [List.length_take]; omega) (by rw [List.length_drop]; omega), hcat]
    refine (envN_l0 N hN L S a b c hL hS T X _ _ _ _ T hTl (fun t ht => ⟨hT t ht, by have := h3' t ht; omega⟩) hf hC6 _ T.length 0 N (by omega) (by omega) (by omega) [] (by simp)).trans ?_
    rw [List.nil_append, List.drop_zero, List.drop_zero]
    have he := enc_le hTl hf
    refine (envN_l2 N T X (by omega) _ X.length 0 N (by omega) (by omega) (by omega) _ (by omega)).trans ?_
    rw [List.drop_zero]
    rfl


theorem app1 {α : Type} {l : List α} (h : l.length ≤ 1000) : (((fits (0 : Nat) (List.length l) l) && (decide ((((List.length l) + (1 : Nat)) * (1 : Nat)) ≤ (70368744177664 : Nat)))) && true) = true := by
  rw [fits_of (by omega), decide_eq_true (by omega)]; rfl
theorem offs_offN : ∀ {C : List Int}, Fit C → offs C = (offN C : Int)
  | [], _ => rfl
  | c :: C, h => by
    have := offs_offN (C := C) fun z hz => h z (List.mem_cons_of_mem _ hz)
    have hc := h c List.mem_cons_self
    rw [offs_cons, this]
    show _ = ((1 + c.toNat + offN C : Nat) : Int)
    omega
theorem offN_app : ∀ (A B : List Int), offN (A ++ B) = offN A + offN B
  | [], B => by simp [offN]
  | x :: r, B => by
    have := offN_app r B
    rw [List.cons_append]
    show 1 + x.toNat + offN (r ++ B) = 1 + x.toNat + offN r + offN B
    rw [this]; omega
theorem offN_take {C : List Int} {i : Nat} (h : i < C.length) : offN (C.take (i + 1)) = offN (C.take i) + (1 + (C[i]).toNat) := by
  rw [List.take_succ_eq_append_getElem h, offN_app]
  rfl
theorem offN_le {C : List Int} (i : Nat) : offN (C.take i) ≤ offN C := by
  conv => rhs; rw [← List.take_append_drop i C, offN_app]
  omega
theorem decB_snoc (E : List Int) (d k : Nat) : decB E d (k + 1) = decB E d k ++ [w8 (E.getD (d + 1 + k) 0)] := by
  unfold decB
  rw [List.range_succ, List.map_append]
  rfl
theorem dec_snoc (E : List Int) (c : Int) : ∀ (A : List Int) (d : Nat), decT E d (A ++ [c]) = decT E d A ++ [decB E (d + offN A) (min c (E.getD (d + offN A) 0)).toNat]
  | [], d => by simp [decT, offN]
  | x :: r, d => by
    have := dec_snoc E c r (d + 1 + x.toNat)
    rw [List.cons_append]
    show decB E d _ :: decT E (d + 1 + x.toNat) (r ++ [c]) = decB E d _ :: (decT E (d + 1 + x.toNat) r ++ _)
    rw [this]
    have e : d + 1 + x.toNat + offN r = d + offN (x :: r) := by
      show _ = d + (1 + x.toNat + offN r)
      omega
    rw [e]
/-- numbers of sixteen bits -/
def W16 (E : List Int) : Prop := ∀ x ∈ E, 0 ≤ x ∧ x ≤ 65535
theorem W16.at {E : List Int} (h : W16 E) (j : Nat) : 0 ≤ E.getD j 0 ∧ E.getD j 0 ≤ 65535 := by
  by_cases hj : j < E.length
  · rw [getD_at hj]; exact h _ (List.getElem_mem hj)
  · have : E.getD j 0 = 0 := by simp [List.getD, show E.length ≤ j by omega]
    omega
theorem min_if (x y : Int) : (if x < y then x else y) = min x y := by
  by_cases h : x < y
  · rw [if_pos h]; omega
  · rw [if_neg h]; omega
theorem inpE_l2 {R : Type} (N : Nat) (x0 : Int) (o l q : Nat) (E : List Int) (hE : o + l ≤ E.length) (hl : l ≤ 100) (h300 : E.length ≤ 400) (x5 : List EN) (x6 : List Int) (x7 x8 x9 : Int) (x10 x11 : List (List Int)) (x12 : List Bool) (x13 x14 x15 x16 x17 : Nat) (x18 : List (List Int))
    (k : Int → List Int → List EN → List Int → Int → Int → Int → List (List Int) → List (List Int) → List Bool → Nat → Nat → Nat → Nat → Nat → List (List Int) → List Bool → Option R) :
    ∀ (m i n : Nat), l - i = m → i ≤ l → m < n → Z7_l2 N k n x0 o l q (l : Int) (i : Int) E x5 x6 x7 x8 x9 x10 x11 x12 x13 x14 x15 x16 x17 x18 (decX E o i) = k x0 E x5 x6 x7 x8 x9 x10 x11 x12 x13 x14 x15 x16 x17 x18 (decX E o l) := by
  intro m
  induction m with
  | zero =>
    intro i n hm hi hn
    obtain ⟨n, rfl⟩ : ∃ n', n = n' + 1 := ⟨n - 1, by omega⟩
    have : i = l := by omega
    subst this
    simp only [Z7_l2, Z7_l2_T0]
    rw [br_not (decide_eq_false (by omega))]
  | succ m ih =>
    intro i n hm hi hn
    obtain ⟨n, rfl⟩ : ∃ n', n = n' + 1 := ⟨n - 1, by omega⟩
    have hlen : (decX E o i).length ≤ 1000 := by simp [decX]; omega
    have hih := ih (i + 1) n (by omega) (by omega) (by omega)
    have hs : decX E o (i + 1) = decX E o i ++ [decide (E.getD (o + i) 0 = 1)] := by
      unfold decX
      rw [List.range_succ, List.map_append, List.map_cons, List.map_nil]
    rw [hs] at hih
    have hw : ((o : Int) + (i : Int)) = ((o + i : Nat) : Int) := by omega
    simp only [Z7_l2, Z7_l2_T0, addLo_eq, hw, Int.toNat_natCast]
    rw [br_of (decide_eq_true (by omega)), br_of (inB_of (by omega)), br_of (decide_eq_true (by omega)), br_of (app1 hlen), w64_succ (by omega), sub_all]
    exact hih
/-- the numbers are an input's -/
def inpB (C : List Int) (a b : Int) (E : List Int) : Bool :=
  failB (decX E (offN C) a.toNat) a b && decide (envV C (decT E 0 C) (decX E (offN C) a.toNat) = E.take (offN C + a.toNat))
theorem fitT_dec (E : List Int) (hW : W16 E) : ∀ (C : List Int) (d : Nat), (∀ z ∈ C, 0 ≤ z) → fitT C (decT E d C) = true
  | [], d, _ => rfl
  | c :: C, d, h => by
    have hc := h c List.mem_cons_self
    have hE := hW.at d
    show (decide (((decB E d _).length : Int) ≤ c) && fitT C (decT E (d + 1 + c.toNat) C)) = true
    rw [fitT_dec E hW C _ fun z hz => h z (List.mem_cons_of_mem _ hz), decide_eq_true (by simp [decB]; omega)]
    rfl
theorem Byt_decB (E : List Int) (d n : Nat) : Byt (decB E d n) := by
  intro x hx
  unfold decB at hx
  obtain ⟨k, _, rfl⟩ := List.mem_map.1 hx
  unfold w8
  rw [show IntKind.wrap .u8 (E.getD (d + 1 + k) 0) = E.getD (d + 1 + k) 0 % 256 from rfl]
  omega
theorem Byt_dec (E : List Int) : ∀ (C : List Int) (d : Nat), ∀ t ∈ decT E d C, Byt t
  | [], _, t, h => nomatch h
  | c :: C, d, t, h => by
    rcases List.mem_cons.1 h with h | h
    · rw [h]; exact Byt_decB _ _ _
    · exact Byt_dec E C _ t h
theorem decX_sub (E : List Int) (o n : Nat) (h : o + n ≤ E.length) : decX (sub E o n) 0 n = decX E o n := by
  unfold decX
  apply List.map_congr_left
  intro j hj
  have hj := List.mem_range.1 hj
  have : (sub E o n).getD j 0 = E.getD (o + j) 0 := by
    unfold sub
    simp [List.getD, List.getElem?_take, hj]
  rw [Nat.zero_add, this]
theorem inpE_l1 {R : Type} (N : Nat) (E : List Int) (x1 : Int) (d : Nat) (x3 x4 : Int) (lim : Nat) (hE : d + 1 + lim ≤ E.length) (h300 : E.length ≤ 400)
    (x7 : List EN) (x8 : List Int) (x9 x10 x11 : Int) (x12 x13 : List (List Int)) (x14 : List Bool) (x15 x16 : List (List Int)) (x17 : List Bool) (x18 : List (List Int)) (x20 : List Int)
    (k : Int → Int → Int → List Int → List EN → List Int → Int → Int → Int → List (List Int) → List (List Int) → List Bool → List (List Int) → List (List Int) → List Bool → List (List Int) → List Int → List Int → Option R) :
    ∀ (m i n : Nat), lim - i = m → i ≤ lim → m < n → Z7_l1 N k n x1 (d : Int) x3 x4 (lim : Int) (i : Int) E x7 x8 x9 x10 x11 x12 x13 x14 x15 x16 x17 x18 (decB E d i) x20 = k x1 x3 x4 E x7 x8 x9 x10 x11 x12 x13 x14 x15 x16 x17 x18 (decB E d lim) x20 := by
  intro m
  induction m with
  | zero =>
    intro i n hm hi hn
    obtain ⟨n, rfl⟩ : ∃ n', n = n' + 1 := ⟨n - 1, by omega⟩
    have : i = lim := by omega
    subst this
    simp only [Z7_l1, Z7_l1_T0]
    rw [br_not (decide_eq_false (by omega))]
  | succ m ih =>
    intro i n hm hi hn
    obtain ⟨n, rfl⟩ : ∃ n', n = n' + 1 := ⟨n - 1, by omega⟩
    have hlen : (decB E d i).length ≤ 1000 := by simp [decB]; omega
    have hw : IntKind.wrap .i64 (IntKind.wrap .i64 ((d : Int) + 1) + (i : Int)) = ((d + 1 + i : Nat) : Int) := by
      rw [w64 (x := (d : Int) + 1) (by omega), w64 (by omega)]; omega
    have hih := ih (i + 1) n (by omega) (by omega) (by omega)
    rw [decB_snoc] at hih
    simp only [Z7_l1, Z7_l1_T0]
    rw [br_of (decide_eq_true (by omega)), hw, br_of (inB_of (by omega)), br_of (decide_eq_true (by omega)), br_of (app1 hlen), w64_succ (by omega), sub_all, Int.toNat_natCast]
    exact hih
theorem inpE_l0 {R : Type} (N : Nat) (hN : 1000 < N) (L : List EN) (S : List Int) (a b c : Int) (H : mayB L S a b c = true) (E : List Int) (hW : W16 E) (h300 : E.length ≤ 400) (hV : offN (capsL L ++ S) ≤ E.length) (x1 : Int)
    (x9 x10 : List (List Int)) (x11 : List Bool) (x12 x13 : List (List Int)) (x14 : List Bool)
    (k : Int → List Int → List EN → List Int → Int → Int → Int → List (List Int) → List (List Int) → List Bool → List (List Int) → List (List Int) → List Bool → List (List Int) → Option R) :
    ∀ (m i n : Nat), (capsL L ++ S).length - i = m → i ≤ (capsL L ++ S).length → m < n →
      Z7_l0 N k n x1 ((capsL L ++ S).length : Int) (i : Int) E L S a b c x9 x10 x11 x12 x13 x14 (decT E 0 ((capsL L ++ S).take i)) (capsL L ++ S) = k x1 E L S a b c x9 x10 x11 x12 x13 x14 (decT E 0 (capsL L ++ S)) := by
  obtain ⟨hf, hL, hS, hC, ha⟩ := may_fit H
  intro m
  induction m with
  | zero =>
    intro i n hm hi hn
    obtain ⟨n, rfl⟩ : ∃ n', n = n' + 1 := ⟨n - 1, by omega⟩
    have : i = (capsL L ++ S).length := by omega
    subst this
    simp only [Z7_l0, Z7_l0_T0, List.take_length]
    rw [br_not (decide_eq_false (by omega))]
  | succ m ih =>
    intro i n hm hi hn
    obtain ⟨n, rfl⟩ : ∃ n', n = n' + 1 := ⟨n - 1, by omega⟩
    have hlt : i < (capsL L ++ S).length := by omega
    have hfi := hf (capsL L ++ S)[i] (List.getElem_mem hlt)
    have ho : offs ((capsL L ++ S).take i) = (offN ((capsL L ++ S).take i) : Int) := offs_offN (hf.sub i)
    have hnext := offN_take hlt
    have hle := offN_le (C := capsL L ++ S) (i + 1)
    generalize hd : offN ((capsL L ++ S).take i) = d at ho hnext
    have hEd := hW.at d
    have hlim : min (capsL L ++ S)[i] (E.getD d 0) = ((min (capsL L ++ S)[i] (E.getD d 0)).toNat : Int) := by omega
    simp only [Z7_l0, Z7_l0_T0, Int.toNat_natCast, getD_at hlt]
    rw [br_of (decide_eq_true (by omega)), br_of (inB_of (by omega)), br_of (decide_eq_true hlt), Size_eq N (by omega) L S a b c H, if_neg (by omega), Int.toNat_natCast, ho, Int.toNat_natCast, br_of (inB_of (by omega)), br_of (decide_eq_true (by omega)), w64 (x := E.getD d 0) (by omega), min_if, hlim]
    have h1 := inpE_l1 (R := R) N E x1 d ((capsL L ++ S).length : Int) (i : Int) (min (capsL L ++ S)[i] (E.getD d 0)).toNat (by omega) h300 L S a b c x9 x10 x11 x12 x13 x14 (decT E 0 ((capsL L ++ S).take i)) (capsL L ++ S)
      (fun i593 i594 i595 l592 l596 l597 i598 i599 i600 l601 l602 l603 l604 l605 l606 l607 l608 l609 => br (fits (0 : Nat) (List.length l608) l608)
        (br (fits (0 : Nat) (List.length l608) l608)
         (br (((fits (0 : Nat) (List.length l607) l607) && (decide ((((List.length l607) + (1 : Nat)) * (24 : Nat)) ≤ (70368744177664 : Nat)))) && true)
          (Z7_l0 N k n i593 i594 (IntKind.wrap .i64 (i595 + (1 : Int))) l592 l596 l597 i598 i599 i600 l601 l602 l603 l604 l605 l606 ((sub l607 (0 : Nat) (List.length l607)) ++ ((sub l608 (0 : Nat) (List.length l608)) :: ([] : List ((Sh.int IntKind.u8).isl.T)))) l609)
          (none))
         (none))
        (none)) _ 0 N rfl (by omega) (by omega)
    refine h1.trans ?_
    have hdl : (decT E 0 ((capsL L ++ S).take i)).length ≤ 1000 := by rw [dec_len, List.length_take]; omega
    rw [br_of (fits_of (by omega)), br_of (fits_of (by omega)), br_of (app24 hdl (by omega)), w64_succ (by omega), sub_all, sub_all]
    have h2 := ih (i + 1) n (by omega) (by omega) (by omega)
    rw [List.take_succ_eq_append_getElem hlt, dec_snoc, Nat.zero_add, hd] at h2
    exact h2
theorem Input18_eq {R : Type} (N : Nat) (hN : 1000 < N) (L : List EN) (S : List Int) (a b c : Int) (hL : L.length ≤ 60) (hS : S.length ≤ 60) (E : List Int) (hW : W16 E) (h300 : E.length ≤ 400)
    (k0 : Int → List Int → List (List Int) → List (List Int) → List Bool → Option R) (k1 : Nat → Nat → Nat → Nat → Int → List Int → Nat → List (List Int) → List Bool → Option R) (k2 : Nat → Nat → Nat → Nat → Int → List Int → List (List Int) → List Bool → Option R) :
    Z7 N L S a b c E k0 k1 k2 = if mayB L S a b c = true then (if (E.length : Int) < a + offs (capsL L ++ S) then k0 12 E [] [] [] else if inpB (capsL L ++ S) a b E = true then
      k2 (capsL L).length (capsL L).length (capsL L).length ((capsL L ++ S).length - (capsL L).length) 0 E (decT E 0 (capsL L ++ S)) (decX E (offN (capsL L ++ S)) a.toNat) else k0 12 E [] [] []) else k0 11 E [] [] [] := by
  unfold Z7 Z7_T
  rw [May_eq17 N (by omega), br_neg]
  cases hm : mayB L S a b c with
  | false => rfl
  | true =>
    obtain ⟨hf, hL8, hS2, hC6, ha0, ha6⟩ := may_fit hm
    have ho := offs_offN hf
    rw [br_true, if_pos rfl, Vars_eq N (by omega) L S a b c hm, br_dec]
    by_cases hlt : (E.length : Int) < a + offs (capsL L ++ S)
    · rw [if_pos hlt, if_pos hlt]
    · rw [if_neg hlt, if_neg hlt, Caps_eq N (by omega) L (by omega) S (by omega)]
      rw [ho] at hlt ⊢
      have hlenC : (capsL L ++ S).length = (capsL L).length + S.length := List.length_append
      refine (inpE_l0 N hN L S a b c hm E hW h300 (by omega) _ _ _ _ _ _ _ _ (capsL L ++ S).length 0 N (by omega) (by omega) (by omega)).trans ?_
      have hfl := files_len 0 L
      rw [Files_eq N (by omega) L (by omega)]
      simp only [hfl, Int.toNat_natCast, dec_len]
      have hw : IntKind.wrap .i64 (a + (offN (capsL L ++ S) : Int) - a) = (offN (capsL L ++ S) : Int) := by rw [w64 (by omega)]; omega
      have hV : (a + (offN (capsL L ++ S) : Int)).toNat = offN (capsL L ++ S) + a.toNat := by omega
      rw [br_of (leB_of (by omega)), br_of (leB_of (by omega)), br_of (leB_of (by omega)), br_of (by simp), br_of (leB_of (by omega)), br_of (by simp), br_of (leB_of (by omega)), hw, hV, br_of (leB_of (by omega)), Int.toNat_natCast,
        Nat.add_sub_cancel_left, Nat.sub_zero]
      refine (inpE_l2 N _ (offN (capsL L ++ S)) a.toNat _ E (by omega) (by omega) h300 L S a b c _ _ _ _ _ _ _ _ _ _ _ 0 N rfl (by omega) (by omega)).trans ?_
      have hXl : (decX E (offN (capsL L ++ S)) a.toNat).length = a.toNat := by simp [decX]
      have hTl := dec_len E 0 (capsL L ++ S)
      have hfE := EnvF_eq (R := R) N hN L S a b c hL hS hm (decT E 0 (capsL L ++ S)) (Byt_dec E _ _) hTl (capsL L).length (decX E (offN (capsL L ++ S)) a.toNat) (by omega)
      rw [hTl] at hfE
      rw [hfE, fitT_dec E hW _ _ (fun z hz => (hf z hz).1), Bool.and_true]
      unfold inpB
      cases hfa : failB (decX E (offN (capsL L ++ S)) a.toNat) a b with
      | false => rfl
      | true =>
        rw [if_pos rfl, br_of (b := !(!decide ((0 : Int) = 0))) rfl, br_of (leB_of (by omega)), hV, Nat.sub_zero]
        have hel : (envV (capsL L ++ S) (decT E 0 (capsL L ++ S)) (decX E (offN (capsL L ++ S)) a.toNat)).length ≤ 1000 := by
          have := enc_le hTl hf
          unfold envV encX
          rw [List.length_append, List.length_map]
          omega
        rw [eqB_eq N hN E _ _ _ (by omega) hel, br_neg, Bool.true_and]
        cases decide (envV (capsL L ++ S) (decT E 0 (capsL L ++ S)) (decX E (offN (capsL L ++ S)) a.toNat) = E.take (offN (capsL L ++ S) + a.toNat)) <;> rfl
theorem enc_w16 : ∀ {C : List Int} {T : List (List Int)}, (∀ t ∈ T, Byt t ∧ t.length ≤ 3) → W16 (encT C T)
  | [], [], _ => fun x hx => nomatch hx
  | [], _ :: _, _ => fun x hx => nomatch hx
  | _ :: _, [], _ => fun x hx => nomatch hx
  | c :: C, t :: T, h => by
    intro x hx
    have ht := h t List.mem_cons_self
    have hx : x ∈ ((t.length : Nat) : Int) :: (padT c.toNat t ++ encT C T) := hx
    rcases List.mem_cons.1 hx with hx | hx
    · rw [hx]; omega
    · rcases List.mem_append.1 hx with hx | hx
      · unfold padT at hx
        obtain ⟨j, _, rfl⟩ := List.mem_map.1 hx
        by_cases hj : j < t.length
        · rw [getD_at hj]
          have := ht.1 t[j] (List.getElem_mem hj)
          omega
        · have : t.getD j 0 = 0 := by simp [List.getD, show t.length ≤ j by omega]
          omega
      · exact enc_w16 (fun u hu => h u (List.mem_cons_of_mem _ hu)) x hx
theorem env_inp {L : List EN} {S : List Int} {a b c : Int} {F A : List (List Int)} {X : List Bool} (hh : hasB L S a b c F A X = true) (hB : ∀ t ∈ F ++ A, Byt t) :
    W16 (envV (capsL L ++ S) (F ++ A) X) ∧ (envV (capsL L ++ S) (F ++ A) X).length = offN (capsL L ++ S) + a.toNat ∧ inpB (capsL L ++ S) a b (envV (capsL L ++ S) (F ++ A) X) = true ∧
      decT (envV (capsL L ++ S) (F ++ A) X) 0 (capsL L ++ S) = F ++ A ∧ decX (envV (capsL L ++ S) (F ++ A) X) (offN (capsL L ++ S)) a.toNat = X := by
  obtain ⟨hm, h1, h2, h3, h4⟩ := hasB_iff hh
  obtain ⟨hf, hL8, hS2, hC6, ha0, ha6⟩ := may_fit hm
  obtain ⟨hXl, _, _⟩ := failB_len h3
  have hTl : (F ++ A).length = (capsL L ++ S).length := by rw [List.length_append, List.length_append, h1, h2]
  have hl3 := fit_len hf h4 hTl
  have hel := enc_len hTl
  have hxl : (encX X).length = a.toNat := by unfold encX; rw [List.length_map]; omega
  have hEl : (envV (capsL L ++ S) (F ++ A) X).length = offN (capsL L ++ S) + a.toNat := by unfold envV; rw [List.length_append, hel, hxl]
  have hs := sl_take (envV (capsL L ++ S) (F ++ A) X) _ (Nat.le_of_eq hEl.symm)
  rw [List.take_of_length_le (by omega), sl_add, Nat.zero_add] at hs
  have hs2 : sl (envV (capsL L ++ S) (F ++ A) X) 0 (offN (capsL L ++ S)) = encT (capsL L ++ S) (F ++ A) ∧ sl (envV (capsL L ++ S) (F ++ A) X) (offN (capsL L ++ S)) a.toNat = encX X :=
    (app_iff (by rw [sl_len, hel])).1 hs
  have hXn : a.toNat = X.length := by omega
  have d1 := dec_enc (capsL L ++ S) (F ++ A) 0 hTl (fun z hz => (hf z hz).1) hB (fun i hi => fitT_at h4 hTl i hi) hs2.1
  have d2 : decX (envV (capsL L ++ S) (F ++ A) X) (offN (capsL L ++ S)) a.toNat = X := by
    rw [hXn]
    exact decX_encX (by rw [← hXn]; exact hs2.2)
  refine ⟨?_, hEl, ?_, d1, d2⟩
  · intro x hx
    rcases List.mem_append.1 hx with hx | hx
    · exact enc_w16 (fun t ht => ⟨hB t ht, hl3 t ht⟩) x hx
    · unfold encX at hx
      obtain ⟨w, _, rfl⟩ := List.mem_map.1 hx
      cases w <;> simp
  · unfold inpB
    rw [d1, d2, h3, List.take_of_length_le (by omega), decide_eq_true rfl]
    rfl
theorem enc_b8 : ∀ {C : List Int} {T : List (List Int)}, (∀ t ∈ T, Byt t ∧ t.length ≤ 3) → (∀ x ∈ encT C T, 0 ≤ x ∧ x ≤ 255)
  | [], [], _ => fun x hx => nomatch hx
  | [], _ :: _, _ => fun x hx => nomatch hx
  | _ :: _, [], _ => fun x hx => nomatch hx
  | c :: C, t :: T, h => by
    intro x hx
    have ht := h t List.mem_cons_self
    have hx : x ∈ ((t.length : Nat) : Int) :: (padT c.toNat t ++ encT C T) := hx
    rcases List.mem_cons.1 hx with hx | hx
    · rw [hx]; omega
    · rcases List.mem_append.1 hx with hx | hx
      · unfold padT at hx
        obtain ⟨j, _, rfl⟩ := List.mem_map.1 hx
        by_cases hj : j < t.length
        · rw [getD_at hj]
          have := ht.1 t[j] (List.getElem_mem hj)
          omega
        · have : t.getD j 0 = 0 := by simp [List.getD, show t.length ≤ j by omega]
          omega
      · exact enc_b8 (fun u hu => h u (List.mem_cons_of_mem _ hu)) x hx
/-- one byte may be -/
def byB (E : List Int) (d : Nat) (j : Nat) : Bool := decide (E.getD (d + 1 + j) 0 ≤ 255) && (decide ((j : Int) < E.getD d 0) || decide (E.getD (d + 1 + j) 0 = 0))
theorem okB_by (E : List Int) (d : Nat) (c : Int) : okB E d c = (decide (E.getD d 0 ≤ c) && (List.range' 0 (c.toNat - 0)).all (byB E d)) := by
  unfold okB
  rw [Nat.sub_zero, List.range_eq_range']
  rfl
section
variable {R : Type} (N : Nat) (hN : 300 < N) (L : List EN) (S : List Int) (a b c : Int) (H : mayB L S a b c = true)
include hN H
theorem Fail_eq (j : Int) (hj : 0 ≤ j ∧ j ≤ 100) (k : Int → Bool → Option R) : Z5 N L S a b c j k = if j < a then k (offs (capsL L ++ S) + j) true else k 0 false := by
  obtain ⟨hf, hL, hS, hC, ha⟩ := may_fit H
  have hb := offs_le hf
  unfold Z5 Z5_T
  rw [May_eq17 N (by omega), H, Vars_eq N hN L S a b c H]
  rw [Bool.not_true, Bool.not_false, br_true, br_of (by rw [decide_eq_false (by omega)]; rfl), br_dec, br_of (decide_eq_true rfl), br_of (decide_eq_true rfl)]
  by_cases h : j < a
  · rw [if_pos h, if_neg (by omega)]
    congr 1
    rw [w64 (x := a + offs (capsL L ++ S) - a) (by omega), w64 (by omega)]
    omega
  · rw [if_neg h, if_pos (by omega)]

end

end Go.Proofs.Ytlfhmecdgfennaa
