/-
  has a class an input; an input as numbers (chapters 17, 18), for the inputs that the document counts.
-/
import Derived.Test.YtlfhmecdgfennaaPCastNB
import Derived.Test.YtlfhmecdgfennaaPCastC
set_option linter.unusedVariables false
set_option linter.unusedSimpArgs false
namespace Go.Proofs.Ytlfhmecdgfennaa
open Go.Gx

theorem app2 {α : Type} {l : List α} (h : l.length ≤ 1000) : (((fits (0 : Nat) (List.length l) l) && (decide ((((List.length l) + (1 : Nat)) * (2 : Nat)) ≤ (70368744177664 : Nat)))) && true) = true := by
  rw [fits_of (by omega), decide_eq_true (by omega)]; rfl
theorem getD_at {α : Type} {l : List α} {i : Nat} (h : i < l.length) (d : α) : l.getD i d = l[i] := by simp [List.getD, h]

/-! ### how many fail -/
def cnt : List Bool → Int
  | [] => 0
  | b :: r => (if b = true then 1 else 0) + cnt r
theorem cnt_le : ∀ X : List Bool, 0 ≤ cnt X ∧ cnt X ≤ (X.length : Int)
  | [] => by simp [cnt]
  | b :: r => by
    have := cnt_le r
    unfold cnt
    rw [List.length_cons]
    cases b
    · simp only [Bool.false_eq_true, if_false]; omega
    · simp only [if_true]; omega
def failB (X : List Bool) (a b : Int) : Bool := decide ((X.length : Int) = a) && decide (a ≤ 6) && decide (cnt X ≤ b)

theorem fail_l0 {R : Type} (N : Nat) (X : List Bool) (hX : X.length ≤ 1000) (a b : Int) (k : List Bool → Int → Int → Int → Option R) :
    ∀ (m i n : Nat), X.length - i = m → i ≤ X.length → m < n → ∀ s : Int, 0 ≤ s → s ≤ (i : Int) → fails_May_l0 N k n X a b s X (X.length : Int) (i : Int) = k X a b (s + cnt (X.drop i)) := by
  intro m
  induction m with
  | zero =>
    intro i n hm hi hn s hs0 hs1
    obtain ⟨n, rfl⟩ : ∃ n', n = n' + 1 := ⟨n - 1, by omega⟩
    have : i = X.length := by omega
    subst this
    simp only [fails_May_l0, fails_May_l0_T0, List.drop_length, cnt, Int.add_zero]
    rw [br_not (decide_eq_false (by omega))]
  | succ m ih =>
    intro i n hm hi hn s hs0 hs1
    obtain ⟨n, rfl⟩ : ∃ n', n = n' + 1 := ⟨n - 1, by omega⟩
    have hlt : i < X.length := by omega
    simp only [fails_May_l0, fails_May_l0_T0, Int.toNat_natCast, getD_at hlt]
    rw [br_of (decide_eq_true (by omega)), br_of (inB_of (by omega)), w64_succ (by omega), List.drop_eq_getElem_cons hlt, w64 (x := s + 1) (by omega)]
    unfold cnt
    cases X[i] with
    | true =>
      refine (ih (i + 1) n (by omega) (by omega) (by omega) (s + 1) (by omega) (by omega)).trans ?_
      rw [if_pos rfl, Int.add_assoc]
    | false =>
      refine (ih (i + 1) n (by omega) (by omega) (by omega) s (by omega) (by omega)).trans ?_
      rw [if_neg (by decide), Int.zero_add]

theorem fail_eq {R : Type} (N : Nat) (X : List Bool) (hX : X.length ≤ 1000) (hN : 1000 < N) (a b : Int) (k : Bool → Option R) : fails_May N X a b k = k (failB X a b) := by
  unfold fails_May fails_May_T failB
  refine (fail_l0 N X hX a b _ X.length 0 N (by omega) (by omega) (by omega) 0 (by omega) (by omega)).trans ?_
  rw [List.drop_zero, Int.zero_add]
  cases decide ((X.length : Int) = a) <;> cases decide (a ≤ 6) <;> rfl

/-! ### how long the texts are -/
def fitT : List Int → List (List Int) → Bool
  | c :: C, t :: T => decide ((t.length : Int) ≤ c) && fitT C T
  | _, _ => true
theorem fitT_at : ∀ {C : List Int} {T : List (List Int)}, fitT C T = true → T.length = C.length → ∀ i (h : i < T.length), (T[i].length : Int) ≤ C.getD i 0
  | [], [], _, _, _, hi => absurd hi (by simp)
  | [], t :: T, _, hl, _, _ => by simp at hl
  | c :: C, [], _, _, _, hi => absurd hi (by simp)
  | c :: C, t :: T, h, hl, 0, _ => by
    unfold fitT at h
    simp only [Bool.and_eq_true, decide_eq_true_eq] at h
    exact h.1
  | c :: C, t :: T, h, hl, i + 1, hi => by
    unfold fitT at h
    simp only [Bool.and_eq_true] at h
    exact fitT_at h.2 (by simpa using hl) i (by simpa using hi)

def hasB (L : List EN) (S : List Int) (a b c : Int) (F A : List (List Int)) (X : List Bool) : Bool :=
  mayB L S a b c && decide (F.length = (capsL L).length) && decide (A.length = S.length) && failB X a b && fitT (capsL L ++ S) (F ++ A)

theorem addLo_eq (n : Nat) (i : Int) : addLo n i = (n : Int) + i := by
  cases n with
  | zero => show i = _; simp
  | succ n => rfl


/-! ### two lists behind one another -/
theorem app24 {α : Type} {l : List α} {z : Nat} (h : l.length ≤ 1000) (hz : z ≤ 1000) : (((fits (0 : Nat) (List.length l) l) && (decide ((((List.length l) + z) * (24 : Nat)) ≤ (70368744177664 : Nat)))) && true) = true := by
  rw [fits_of (by omega), decide_eq_true (by omega)]; rfl
theorem grow_eq {R : Type} (N : Nat) (n : Nat) (hn : n ≤ 1000) (k : List (List Int) → Option R) : slices_Grow___byte__byte_06c2 N (n : Int) k = k [] := by
  unfold slices_Grow___byte__byte_06c2 slices_Grow___byte__byte_06c2_T
  have e : IntKind.wrap .i64 ((n : Int) - IntKind.wrap .i64 (0 - 0)) = (n : Int) := by
    rw [show IntKind.wrap .i64 (0 - 0) = 0 from rfl, w64 (by omega)]; omega
  rw [br_not (decide_eq_false (by omega)), e]
  by_cases h0 : n = 0
  · rw [br_not (decide_eq_false (by omega))]
  · rw [br_of (decide_eq_true (by omega)), br_of (by rw [decide_eq_true (by omega), decide_eq_true (by omega)]; rfl), br_of (leB_of (by omega)), br_of (fits_of (by simp))]
    rfl
theorem concat_eq {R : Type} (N : Nat) (hN : 10 < N) (F A : List (List Int)) (hF : F.length ≤ 400) (hA : A.length ≤ 400) (k : List (List (List Int)) → List (List Int) → Option R) :
    slices_Concat___byte__byte_1789 N [F, A] k = k [F, A] (F ++ A) := by
  obtain ⟨n, rfl⟩ : ∃ n, N = n + 5 := ⟨N - 5, by omega⟩
  unfold slices_Concat___byte__byte_1789 slices_Concat___byte__byte_1789_T
  have s1 : IntKind.wrap .i64 (0 + (F.length : Int)) = (F.length : Int) := by rw [Int.zero_add, w64 (by omega)]
  have s2 : IntKind.wrap .i64 ((F.length : Int) + (A.length : Int)) = ((F.length + A.length : Nat) : Int) := by rw [w64 (by omega)]; omega
  have hl0 : ∀ (k0 : Int → List (List (List Int)) → Option R), slices_Concat___byte__byte_1789_l0 (n + 5) k0 (n + 5) 0 (2 : Int) 0 [F, A] = k0 ((F.length + A.length : Nat) : Int) [F, A] := by
    intro k0
    have e1 : slices_Concat___byte__byte_1789_l0 (n + 5) k0 (n + 5) 0 (2 : Int) 0 [F, A] = br (decide (IntKind.wrap .i64 (0 + (F.length : Int)) < 0)) none (slices_Concat___byte__byte_1789_l0 (n + 5) k0 (n + 4) (IntKind.wrap .i64 (0 + (F.length : Int))) 2 1 [F, A]) := rfl
    have e2 : ∀ z, slices_Concat___byte__byte_1789_l0 (n + 5) k0 (n + 4) z (2 : Int) 1 [F, A] = br (decide (IntKind.wrap .i64 (z + (A.length : Int)) < 0)) none (slices_Concat___byte__byte_1789_l0 (n + 5) k0 (n + 3) (IntKind.wrap .i64 (z + (A.length : Int))) 2 2 [F, A]) := fun _ => rfl
    have e3 : ∀ z, slices_Concat___byte__byte_1789_l0 (n + 5) k0 (n + 3) z (2 : Int) 2 [F, A] = k0 z [F, A] := fun _ => rfl
    rw [e1, s1, br_not (decide_eq_false (by omega)), e2, s2, br_not (decide_eq_false (by omega)), e3]
  have hl1 : ∀ (k0 : List (List (List Int)) → List (List Int) → Option R), slices_Concat___byte__byte_1789_l1 (n + 5) k0 (n + 5) (2 : Int) 0 [F, A] [] = k0 [F, A] (F ++ A) := by
    intro k0
    have e1 : slices_Concat___byte__byte_1789_l1 (n + 5) k0 (n + 5) (2 : Int) 0 [F, A] [] = br (((fits (0 : Nat) ([] : List (List Int)).length ([] : List (List Int))) && decide ((([] : List (List Int)).length + F.length) * 24 ≤ 70368744177664)) && true) (slices_Concat___byte__byte_1789_l1 (n + 5) k0 (n + 4) (2 : Int) 1 [F, A] (([] : List (List Int)) ++ F)) none := rfl
    have e2 : ∀ z, slices_Concat___byte__byte_1789_l1 (n + 5) k0 (n + 4) (2 : Int) 1 [F, A] z = br (((fits (0 : Nat) z.length z) && decide ((z.length + A.length) * 24 ≤ 70368744177664)) && true) (slices_Concat___byte__byte_1789_l1 (n + 5) k0 (n + 3) (2 : Int) 2 [F, A] (sub z 0 z.length ++ A)) none := fun _ => rfl
    have e3 : ∀ z, slices_Concat___byte__byte_1789_l1 (n + 5) k0 (n + 3) (2 : Int) 2 [F, A] z = k0 [F, A] z := fun _ => rfl
    rw [e1, br_of (app24 (by simp) (by omega)), e2, List.nil_append, br_of (app24 (by omega) (by omega)), e3, sub_all]
  refine (hl0 _).trans ?_
  rw [grow_eq _ _ (by omega)]
  exact hl1 _

/-! ### the numbers -/
theorem u16_small {x : Int} (h : 0 ≤ x ∧ x ≤ 65535) : IntKind.wrap .u16 x = x := by
  rw [show IntKind.wrap .u16 x = x % 65536 from rfl]; omega

theorem pad_snoc (t : List Int) (k : Nat) : padT (k + 1) t = padT k t ++ [t.getD k 0] := by
  unfold padT
  rw [List.range_succ, List.map_append]
  rfl

theorem enc_snoc : ∀ {C : List Int} {T : List (List Int)} (i : Nat) (hC : i < C.length) (hT : i < T.length), encT (C.drop i) (T.drop i) = ((T[i].length : Nat) : Int) :: (padT (C[i]).toNat T[i] ++ encT (C.drop (i + 1)) (T.drop (i + 1))) := by
  intro C T i hC hT
  rw [List.drop_eq_getElem_cons hC, List.drop_eq_getElem_cons hT]
  rfl

theorem enc_le {C : List Int} {T : List (List Int)} (h : T.length = C.length) (hf : Fit C) : (encT C T).length ≤ 4 * C.length := by
  rw [enc_len h]
  clear h
  induction C with
  | nil => simp [offN]
  | cons c C ih =>
    have := ih fun z hz => hf z (List.mem_cons_of_mem _ hz)
    have hc := hf c List.mem_cons_self
    unfold offN
    rw [List.length_cons]
    omega

theorem fit_len {C : List Int} {T : List (List Int)} (hf : Fit C) (h : fitT C T = true) (hl : T.length = C.length) : ∀ t ∈ T, t.length ≤ 3 := by
  intro t ht
  obtain ⟨i, hi, rfl⟩ := List.getElem_of_mem ht
  have h1 := fitT_at h hl i hi
  have hlt : i < C.length := by omega
  rw [getD_at hlt] at h1
  have := hf C[i] (List.getElem_mem hlt)
  omega

def envV (C : List Int) (T : List (List Int)) (X : List Bool) : List Int := encT C T ++ encX X

theorem hasB_iff {L : List EN} {S : List Int} {a b c : Int} {F A : List (List Int)} {X : List Bool} (h : hasB L S a b c F A X = true) :
    mayB L S a b c = true ∧ F.length = (capsL L).length ∧ A.length = S.length ∧ failB X a b = true ∧ fitT (capsL L ++ S) (F ++ A) = true := by
  unfold hasB at h
  simp only [Bool.and_eq_true, decide_eq_true_eq] at h
  exact ⟨h.1.1.1.1, h.1.1.1.2, h.1.1.2, h.1.2, h.2⟩
theorem failB_len {X : List Bool} {a b : Int} (h : failB X a b = true) : (X.length : Int) = a ∧ a ≤ 6 ∧ cnt X ≤ b := by
  unfold failB at h
  simp only [Bool.and_eq_true, decide_eq_true_eq] at h
  exact ⟨h.1.1, h.1.2, h.2⟩


/-! ### of an own row of texts -/
theorem hasF_l0 {R : Type} (N : Nat) (k0 : Bool → Nat → List (List Int) → Option R) (k1 : Nat → List (List Int) → Option R) (T : List (List Int)) (X : List Bool) (C : List Int) (nf q : Nat) (hnf : nf ≤ T.length) (hC : C.length = T.length) (h1000 : C.length ≤ 1000) :
    ∀ (m i n : Nat), C.length - i = m → i ≤ C.length → m < n → class_Has_e92d_l0 N k0 k1 n (nf : Int) (C.length : Int) (i : Int) T.length T nf q nf (T.length - nf) X C = if fitT (C.drop i) (T.drop i) = true then k1 T.length T else k0 false T.length T := by
  intro m
  induction m with
  | zero =>
    intro i n hm hi hn
    obtain ⟨n, rfl⟩ : ∃ n', n = n' + 1 := ⟨n - 1, by omega⟩
    have : i = C.length := by omega
    subst this
    simp only [class_Has_e92d_l0, class_Has_e92d_l0_T0, List.drop_length]
    rw [br_not (decide_eq_false (by omega))]
    rfl
  | succ m ih =>
    intro i n hm hi hn
    obtain ⟨n, rfl⟩ : ∃ n', n = n' + 1 := ⟨n - 1, by omega⟩
    have hlt : i < C.length := by omega
    have hltT : i < T.length := by omega
    rw [List.drop_eq_getElem_cons hlt, List.drop_eq_getElem_cons hltT]
    have hfit : fitT (C[i] :: C.drop (i + 1)) (T[i] :: T.drop (i + 1)) = (decide ((T[i].length : Int) ≤ C[i]) && fitT (C.drop (i + 1)) (T.drop (i + 1))) := rfl
    have hih := ih (i + 1) n (by omega) (by omega) (by omega)
    simp only [class_Has_e92d_l0, class_Has_e92d_l0_T0, Int.toNat_natCast, getD_at hlt, getD_at hltT, addLo_eq]
    rw [hfit, br_of (decide_eq_true (by omega)), br_of (inB_of (by omega)), br_of (decide_eq_true hlt), w64_succ (by omega), hih]
    by_cases hiF : i < nf
    · rw [br_of (decide_eq_true (by omega)), br_of (inB_of (by omega)), br_of (decide_eq_true hltT), br_not (b := decide ((nf : Int) ≤ (i : Int))) (decide_eq_false (by omega)), br_ndec]
      by_cases hle : (T[i].length : Int) ≤ C[i]
      · rw [if_neg (by omega), decide_eq_true hle, Bool.true_and]
      · rw [if_pos (by omega), decide_eq_false hle]; rfl
    · have hw : IntKind.wrap .i64 ((i : Int) - (nf : Int)) = ((i - nf : Nat) : Int) := by rw [w64 (by omega)]; omega
      have hw2 : ((nf : Int) + ((i - nf : Nat) : Int)) = (i : Int) := by omega
      rw [br_not (decide_eq_false (by omega)), br_of (decide_eq_true (by omega)), hw, hw2, br_of (inB_of (by omega)), Int.toNat_natCast, br_of (decide_eq_true hltT), getD_at hltT, br_dec]
      by_cases hle : (T[i].length : Int) ≤ C[i]
      · rw [if_neg (by omega), decide_eq_true hle, Bool.true_and]
      · rw [if_pos (by omega), decide_eq_false hle]; rfl

theorem HasF_eq {R : Type} (N : Nat) (hN : 1000 < N) (L : List EN) (S : List Int) (a b c : Int) (hL : L.length ≤ 60) (hS : S.length ≤ 60) (T : List (List Int)) (X : List Bool) (hX : X.length ≤ 1000) (q : Nat) (hT : T.length = (capsL L ++ S).length) (k : Bool → Nat → List (List Int) → Option R) :
    class_Has_e92d N L S a b c (capsL L).length q (capsL L).length (T.length - (capsL L).length) X T.length T k = k (mayB L S a b c && failB X a b && fitT (capsL L ++ S) T) T.length T := by
  rw [List.length_append] at hT
  unfold class_Has_e92d class_Has_e92d_T
  rw [Files_eq N (by omega) L (by omega), May_eq17 N (by omega), files_len]
  cases hm : mayB L S a b c with
  | false => rfl
  | true =>
    obtain ⟨hf, hL8, hS2, hC6, ha0, ha6⟩ := may_fit hm
    rw [br_of (b := !(!true)) rfl, br_of (b := !(!decide _)) (by rw [decide_eq_true (by omega)]; rfl), br_of (b := !(!decide _)) (by rw [decide_eq_true (by omega)]; rfl), fail_eq N X hX (by omega)]
    cases failB X a b with
    | false => rfl
    | true =>
      rw [br_not (b := !true) rfl, Caps_eq N (by omega) L (by omega) S (by omega)]
      refine (hasF_l0 N _ _ T X (capsL L ++ S) (capsL L).length q (by omega) (by rw [List.length_append]; omega) (by omega) (capsL L ++ S).length 0 N (by omega) (by omega) (by omega)).trans ?_
      rw [List.drop_zero, List.drop_zero]
      cases fitT (capsL L ++ S) T <;> rfl

theorem envF_l1 {R : Type} (N : Nat) (t : List Int) (ht : Byt t) (ht1 : t.length ≤ 1000) (c : Int) (hc : 0 ≤ c ∧ c ≤ 3) (x1 x2 : Int) (x5 : List (List Int)) (x7 : List EN) (x8 : List Int) (x9 x10 x11 : Int) (x12 x13 x14 x15 : Nat) (x6 : List Bool) (x17 : List (List Int))
    (k : Int → Int → List (List Int) → List EN → List Int → Int → Int → Int → Nat → Nat → Nat → Nat → List Bool → List Int → List (List Int) → Option R) :
    ∀ (m i n : Nat), c.toNat - i = m → i ≤ c.toNat → m < n → ∀ E : List Int, E.length ≤ 900 → cast_Env_e92d_l1 N k n t x1 x2 c (i : Int) x5 x7 x8 x9 x10 x11 x12 x13 x14 x15 x6 (E ++ padT i t) x17 = k x1 x2 x5 x7 x8 x9 x10 x11 x12 x13 x14 x15 x6 (E ++ padT c.toNat t) x17 := by
  intro m
  induction m with
  | zero =>
    intro i n hm hi hn E hE
    obtain ⟨n, rfl⟩ : ∃ n', n = n' + 1 := ⟨n - 1, by omega⟩
    have : i = c.toNat := by omega
    subst this
    simp only [cast_Env_e92d_l1, cast_Env_e92d_l1_T0]
    rw [br_not (decide_eq_false (by omega))]
  | succ m ih =>
    intro i n hm hi hn E hE
    obtain ⟨n, rfl⟩ : ∃ n', n = n' + 1 := ⟨n - 1, by omega⟩
    have hlen : (E ++ padT i t).length ≤ 1000 := by rw [List.length_append, padT_len]; omega
    have hih := ih (i + 1) n (by omega) (by omega) (by omega) E hE
    rw [pad_snoc, ← List.append_assoc] at hih
    simp only [cast_Env_e92d_l1, cast_Env_e92d_l1_T0, Int.toNat_natCast]
    rw [br_of (decide_eq_true (by omega)), w64_succ (by omega), sub_all, br_dec]
    by_cases h : (i : Int) < (t.length : Int)
    · have hlt : i < t.length := by omega
      have hb := ht t[i] (List.getElem_mem hlt)
      rw [if_pos h, br_of (inB_of (by omega)), br_of (app2 hlen), getD_at hlt, u16_small (by omega)]
      rw [getD_at hlt] at hih
      exact hih
    · rw [if_neg h, br_of (app2 hlen)]
      have : t.getD i 0 = 0 := by simp [List.getD, show t.length ≤ i by omega]
      rw [this] at hih
      exact hih

theorem envF_l0 {R : Type} (N : Nat) (hN : 1000 < N) (L : List EN) (S : List Int) (a b c : Int) (hL : L.length ≤ 60) (hS : S.length ≤ 60) (x2 : List (List Int)) (X : List Bool) (p q r s : Nat) (T : List (List Int)) (hTl : T.length = (capsL L ++ S).length) (hT : ∀ t ∈ T, Byt t ∧ t.length ≤ 1000) (hfit : Fit (capsL L ++ S)) (h6 : (capsL L ++ S).length ≤ 6)
    (k : List (List Int) → Nat → Nat → Nat → Nat → List Bool → List Int → Option R) :
    ∀ (m i n : Nat), T.length - i = m → i ≤ T.length → m < n → ∀ E : List Int, E.length ≤ 4 * i → cast_Env_e92d_l0 N k n (T.length : Int) (i : Int) x2 L S a b c p q r s X E T = k x2 p q r s X (E ++ encT ((capsL L ++ S).drop i) (T.drop i)) := by
  intro m
  induction m with
  | zero =>
    intro i n hm hi hn E hE
    obtain ⟨n, rfl⟩ : ∃ n', n = n' + 1 := ⟨n - 1, by omega⟩
    have : i = T.length := by omega
    subst this
    simp only [cast_Env_e92d_l0, cast_Env_e92d_l0_T0]
    rw [br_not (decide_eq_false (by omega))]
    have : encT ((capsL L ++ S).drop T.length) (T.drop T.length) = [] := by rw [List.drop_length, hTl, List.drop_length]; rfl
    rw [this, List.append_nil]
  | succ m ih =>
    intro i n hm hi hn E hE
    obtain ⟨n, rfl⟩ : ∃ n', n = n' + 1 := ⟨n - 1, by omega⟩
    have hlt : i < T.length := by omega
    have hltC : i < (capsL L ++ S).length := by omega
    have hb := hT T[i] (List.getElem_mem hlt)
    have hc := hfit (capsL L ++ S)[i] (List.getElem_mem hltC)
    simp only [cast_Env_e92d_l0, cast_Env_e92d_l0_T0, Int.toNat_natCast, getD_at hlt]
    rw [br_of (decide_eq_true (by omega)), br_of (inB_of (by omega)), br_of (decide_eq_true hlt), br_of (app2 (by omega)), Caps_eq N (by omega) L (by omega) S (by omega)]
    simp only [getD_at hltC]
    rw [br_of (inB_of (by omega)), br_of (decide_eq_true hltC), sub_all, u16_small (by omega)]
    have h1 := envF_l1 (R := R) N T[i] hb.1 hb.2 (capsL L ++ S)[i] hc (T.length : Int) (i : Int) x2 L S a b c p q r s X T
      (fun i718 i719 l720 l722 l723 i724 i725 i726 n727 n728 n729 n730 l721 l731 l732 => cast_Env_e92d_l0 N k n i718 (IntKind.wrap .i64 (i719 + (1 : Int))) l720 l722 l723 i724 i725 i726 n727 n728 n729 n730 l721 l731 l732)
      ((capsL L ++ S)[i]).toNat 0 N (by omega) (by omega) (by omega) (E ++ [((T[i].length : Nat) : Int)]) (by simp; omega)
    rw [show padT 0 T[i] = [] from rfl, List.append_nil] at h1
    refine h1.trans ?_
    rw [w64_succ (by omega), ih (i + 1) n (by omega) (by omega) (by omega) _ (by simp [padT_len]; omega), enc_snoc i hltC hlt]
    congr 1
    simp

theorem envF_l2 {R : Type} (N : Nat) (x2 : List (List Int)) (X : List Bool) (hX : X.length ≤ 100) (k : List (List Int) → List Int → Option R) :
    ∀ (m i n : Nat), X.length - i = m → i ≤ X.length → m < n → ∀ E : List Int, E.length ≤ 500 + i → cast_Env_e92d_l2 N k n X (X.length : Int) (i : Int) x2 E = k x2 (E ++ encX (X.drop i)) := by
  intro m
  induction m with
  | zero =>
    intro i n hm hi hn E hE
    obtain ⟨n, rfl⟩ : ∃ n', n = n' + 1 := ⟨n - 1, by omega⟩
    have : i = X.length := by omega
    subst this
    simp only [cast_Env_e92d_l2, cast_Env_e92d_l2_T0]
    rw [br_not (decide_eq_false (by omega)), List.drop_length]
    show _ = k x2 (E ++ [])
    rw [List.append_nil]
  | succ m ih =>
    intro i n hm hi hn E hE
    obtain ⟨n, rfl⟩ : ∃ n', n = n' + 1 := ⟨n - 1, by omega⟩
    have hlt : i < X.length := by omega
    have hE1 : E.length ≤ 1000 := by omega
    have hdr := List.drop_eq_getElem_cons hlt
    have ih1 := ih (i + 1) n (by omega) (by omega) (by omega)
    simp only [cast_Env_e92d_l2, cast_Env_e92d_l2_T0, Int.toNat_natCast, getD_at hlt]
    rw [br_of (decide_eq_true (by omega)), br_of (inB_of (by omega)), w64_succ (by omega), sub_all, hdr]
    cases hx : X[i] with
    | true =>
      rw [br_true, br_of (app2 hE1), ih1 _ (by simp; omega)]
      congr 1
      simp [encX]
    | false =>
      rw [br_false, br_of (app2 hE1), ih1 _ (by simp; omega)]
      congr 1
      simp [encX]

theorem EnvF_eq {R : Type} (N : Nat) (hN : 1000 < N) (L : List EN) (S : List Int) (a b c : Int) (hL : L.length ≤ 60) (hS : S.length ≤ 60) (hm : mayB L S a b c = true) (T : List (List Int)) (hT : ∀ t ∈ T, Byt t) (hTl : T.length = (capsL L ++ S).length) (q : Nat) (X : List Bool) (hX : X.length ≤ 60)
    (k0 : Int → Nat → List (List Int) → List Int → Option R) (k1 : Int → List (List Int) → List Int → Option R) :
    cast_Env_e92d N L S a b c (capsL L).length q (capsL L).length (T.length - (capsL L).length) X T.length T k0 k1 = if (failB X a b && fitT (capsL L ++ S) T) = true then k1 0 T (envV (capsL L ++ S) T X) else k0 12 T.length T [] := by
  unfold cast_Env_e92d cast_Env_e92d_T
  obtain ⟨hf, hL8, hS2, hC6, ha0, ha6⟩ := may_fit hm
  rw [May_eq17 N (by omega), hm, br_not (b := !true) rfl, HasF_eq N hN L S a b c hL hS T X (by omega) q hTl, hm, Bool.true_and, br_neg]
  cases hh : failB X a b && fitT (capsL L ++ S) T with
  | false => rfl
  | true =>
    rw [Bool.and_eq_true] at hh
    have h3' := fit_len hf hh.2 hTl
    have hlen : (capsL L ++ S).length = (capsL L).length + S.length := List.length_append
    have hs1 : sub T 0 (capsL L).length = T.take (capsL L).length := by simp [sub]
    have hs2 : sub T (capsL L).length (T.length - (capsL L).length) = T.drop (capsL L).length := by
      unfold sub; rw [List.take_of_length_le (by simp)]
    have hcat : T.take (capsL L).length ++ T.drop (capsL L).length = T := List.take_append_drop _ _
    rw [br_true, if_pos rfl, br_of (fits_of (by omega)), br_of (fits_of (by omega)), hs1, hs2, concat_eq N (by omega) _ _ (by rw [List.length_take]; omega) (by rw [List.length_drop]; omega), hcat]
    refine (envF_l0 N hN L S a b c hL hS T X _ _ _ _ T hTl (fun t ht => ⟨hT t ht, by have := h3' t ht; omega⟩) hf hC6 _ T.length 0 N (by omega) (by omega) (by omega) [] (by simp)).trans ?_
    rw [List.nil_append, List.drop_zero, List.drop_zero]
    have he := enc_le hTl hf
    refine (envF_l2 N T X (by omega) _ X.length 0 N (by omega) (by omega) (by omega) _ (by omega)).trans ?_
    rw [List.drop_zero]
    rfl


end Go.Proofs.Ytlfhmecdgfennaa
