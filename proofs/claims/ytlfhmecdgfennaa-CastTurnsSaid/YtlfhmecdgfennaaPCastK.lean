/-
  the document's own Env; are two inputs one (chapter 18).
-/
import Derived.Test.YtlfhmecdgfennaaPCastJ
set_option linter.unusedVariables false
set_option linter.unusedSimpArgs false
namespace Go.Proofs.Ytlfhmecdgfennaa
open Go.Gx

theorem renv_l1 {R : Type} (N : Nat) (i0 : Nat) (F A : List (List Int)) (X : List Bool) (C : List Int) (T : List (List Int)) (hi : i0 < C.length) (hiT : i0 < T.length) (hc : 0 ≤ C[i0] ∧ C[i0] ≤ 3) (ht : Byt T[i0]) (ht1 : T[i0].length ≤ 1000)
    (k : Int → List (List Int) → List (List Int) → List Bool → List Int → List Int → List (List Int) → Option R) :
    ∀ (m i n : Nat), (C[i0]).toNat - i = m → i ≤ (C[i0]).toNat → m < n → ∀ E : List Int, E.length ≤ 900 → r_Env_l1 N k n (i0 : Int) (i : Int) F A X (E ++ padT i T[i0]) C T = k (i0 : Int) F A X (E ++ padT (C[i0]).toNat T[i0]) C T := by
  intro m
  induction m with
  | zero =>
    intro i n hm hi' hn E hE
    obtain ⟨n, rfl⟩ : ∃ n', n = n' + 1 := ⟨n - 1, by omega⟩
    have : i = (C[i0]).toNat := by omega
    subst this
    simp only [r_Env_l1, r_Env_l1_T0, Int.toNat_natCast, getD_at hi]
    rw [br_of (inB_of (by omega)), br_of (decide_eq_true hi), br_not (decide_eq_false (by omega))]
  | succ m ih =>
    intro i n hm hi' hn E hE
    obtain ⟨n, rfl⟩ : ∃ n', n = n' + 1 := ⟨n - 1, by omega⟩
    have hlen : (E ++ padT i T[i0]).length ≤ 1000 := by rw [List.length_append, padT_len]; omega
    have hih := ih (i + 1) n (by omega) (by omega) (by omega) E hE
    rw [pad_snoc, ← List.append_assoc] at hih
    simp only [r_Env_l1, r_Env_l1_T0, Int.toNat_natCast, getD_at hi, getD_at hiT]
    rw [br_of (inB_of (by omega)), br_of (decide_eq_true hi), br_of (decide_eq_true (by omega)), br_of (inB_of (by omega)), br_of (decide_eq_true hiT), w64_succ (by omega), sub_all, br_dec]
    by_cases h : (i : Int) < (T[i0].length : Int)
    · have hlt : i < T[i0].length := by omega
      have hb := ht T[i0][i] (List.getElem_mem hlt)
      rw [if_pos h, br_of (inB_of (by omega)), br_of (decide_eq_true hiT), br_of (inB_of (by omega)), br_of (app2 hlen), getD_at hlt, u16_small (by omega)]
      rw [getD_at hlt] at hih
      exact hih
    · rw [if_neg h, br_of (app2 hlen)]
      have : T[i0].getD i 0 = 0 := by simp [List.getD, show T[i0].length ≤ i by omega]
      rw [this] at hih
      exact hih

theorem renv_l0 {R : Type} (N : Nat) (hN : 1000 < N) (F A : List (List Int)) (X : List Bool) (C : List Int) (T : List (List Int)) (hTl : T.length = C.length) (hT : ∀ t ∈ T, Byt t ∧ t.length ≤ 1000) (hfit : Fit C) (h6 : C.length ≤ 6)
    (k : List (List Int) → List (List Int) → List Bool → List Int → Option R) :
    ∀ (m i n : Nat), C.length - i = m → i ≤ C.length → m < n → ∀ E : List Int, E.length ≤ 4 * i → r_Env_l0 N k n (i : Int) F A X E C T = k F A X (E ++ encT (C.drop i) (T.drop i)) := by
  intro m
  induction m with
  | zero =>
    intro i n hm hi hn E hE
    obtain ⟨n, rfl⟩ : ∃ n', n = n' + 1 := ⟨n - 1, by omega⟩
    have : i = C.length := by omega
    subst this
    simp only [r_Env_l0, r_Env_l0_T0]
    rw [br_not (decide_eq_false (by omega))]
    have : encT (C.drop C.length) (T.drop C.length) = [] := by rw [List.drop_length, ← hTl, List.drop_length]; rfl
    rw [this, List.append_nil]
  | succ m ih =>
    intro i n hm hi hn E hE
    obtain ⟨n, rfl⟩ : ∃ n', n = n' + 1 := ⟨n - 1, by omega⟩
    have hltC : i < C.length := by omega
    have hlt : i < T.length := by omega
    have hb := hT T[i] (List.getElem_mem hlt)
    have hc := hfit C[i] (List.getElem_mem hltC)
    simp only [r_Env_l0, r_Env_l0_T0, Int.toNat_natCast, getD_at hlt]
    rw [br_of (decide_eq_true (by omega)), br_of (inB_of (by omega)), br_of (decide_eq_true hlt), br_of (app2 (by omega)), sub_all, u16_small (by omega)]
    have h1 := renv_l1 (R := R) N i F A X C T hltC hlt hc hb.1 hb.2
      (fun i1212 l1213 l1214 l1215 l1216 l1217 l1218 => r_Env_l0 N k n (IntKind.wrap .i64 (i1212 + (1 : Int))) l1213 l1214 l1215 l1216 l1217 l1218)
      (C[i]).toNat 0 N (by omega) (by omega) (by omega) (E ++ [((T[i].length : Nat) : Int)]) (by simp; omega)
    rw [show padT 0 T[i] = [] from rfl, List.append_nil] at h1
    refine h1.trans ?_
    rw [w64_succ (by omega), ih (i + 1) n (by omega) (by omega) (by omega) _ (by simp [padT_len]; omega), enc_snoc i hltC hlt]
    congr 1
    simp

theorem renv_l2 {R : Type} (N : Nat) (F A : List (List Int)) (X : List Bool) (hX : X.length ≤ 100) (k : List Int → Option R) :
    ∀ (m i n : Nat), X.length - i = m → i ≤ X.length → m < n → ∀ E : List Int, E.length ≤ 500 + i → r_Env_l2 N k n (i : Int) F A X E = k (E ++ encX (X.drop i)) := by
  intro m
  induction m with
  | zero =>
    intro i n hm hi hn E hE
    obtain ⟨n, rfl⟩ : ∃ n', n = n' + 1 := ⟨n - 1, by omega⟩
    have : i = X.length := by omega
    subst this
    simp only [r_Env_l2, r_Env_l2_T0]
    rw [br_not (decide_eq_false (by omega)), List.drop_length]
    show _ = k (E ++ [])
    rw [List.append_nil]
  | succ m ih =>
    intro i n hm hi hn E hE
    obtain ⟨n, rfl⟩ : ∃ n', n = n' + 1 := ⟨n - 1, by omega⟩
    have hlt : i < X.length := by omega
    have hE1 : E.length ≤ 1000 := by omega
    have ih1 := ih (i + 1) n (by omega) (by omega) (by omega)
    have hdr := List.drop_eq_getElem_cons hlt
    simp only [r_Env_l2, r_Env_l2_T0, Int.toNat_natCast, getD_at hlt]
    rw [br_of (decide_eq_true (by omega)), br_of (inB_of (by omega)), w64_succ (by omega), sub_all, hdr]
    cases hx : X[i] with
    | true =>
      rw [br_true, br_of (app2 hE1), ih1 _ (by simp; omega)]
      congr 1
      simp [encX]
    | false =>
      rw [br_false, br_of (app2 hE1), ih1 _ (by simp; omega)]
      congr 1
      simp [encX]

theorem refEnv_eq {R : Type} (N : Nat) (hN : 1000 < N) (L : List EN) (S : List Int) (a b c : Int) (hL : L.length ≤ 60) (hS : S.length ≤ 60) (F A : List (List Int)) (X : List Bool) (hh : hasB L S a b c F A X = true) (hB : ∀ t ∈ F ++ A, Byt t) (hX : X.length ≤ 60) (k : List Int → Option R) :
    r_Env N L S a b c F A X k = k (envV (capsL L ++ S) (F ++ A) X) := by
  obtain ⟨hm, h1, h2, h3, h4⟩ := hasB_iff hh
  obtain ⟨hf, hL8, hS2, hC6, ha0, ha6⟩ := may_fit hm
  have hTl : (F ++ A).length = (capsL L ++ S).length := by rw [List.length_append, List.length_append, h1, h2]
  have hlen : (F ++ A).length = F.length + A.length := List.length_append
  have h3' := fit_len hf h4 hTl
  unfold r_Env r_Env_T
  rw [refCaps_eq N (by omega) L (by omega) S (by omega), br_of (by rw [decide_eq_true (by omega)]; rfl), br_of (listDec_dec (.isl (.int .u8)) A), br_of (app24 (by omega) (by omega)), sub_all]
  refine (renv_l0 N hN F A X (capsL L ++ S) (F ++ A) hTl (fun t ht => ⟨hB t ht, by have := h3' t ht; omega⟩) hf hC6 _ (capsL L ++ S).length 0 N (by omega) (by omega) (by omega) [] (by simp)).trans ?_
  rw [List.nil_append, List.drop_zero, List.drop_zero]
  have he := enc_le hTl hf
  refine (renv_l2 N F A X (by omega) _ X.length 0 N (by omega) (by omega) (by omega) _ (by omega)).trans ?_
  rw [List.drop_zero]
  rfl

theorem sf1_l0 {R : Type} (N : Nat) (X : List Bool) (hX : X.length ≤ 1000) (k0 : Bool → List Bool → List Bool → Option R) (k1 : List Bool → List Bool → Option R) :
    ∀ (m i n : Nat), X.length - i = m → i ≤ X.length → m < n → rsF_7a38_l0 N k0 k1 n (i : Int) X X = k1 X X := by
  intro m
  induction m with
  | zero =>
    intro i n hm hi hn
    obtain ⟨n, rfl⟩ : ∃ n', n = n' + 1 := ⟨n - 1, by omega⟩
    simp only [rsF_7a38_l0, rsF_7a38_l0_T0]
    rw [br_not (decide_eq_false (by omega))]
  | succ m ih =>
    intro i n hm hi hn
    obtain ⟨n, rfl⟩ : ∃ n', n = n' + 1 := ⟨n - 1, by omega⟩
    have hlt : i < X.length := by omega
    have hih := ih (i + 1) n (by omega) (by omega) (by omega)
    simp only [rsF_7a38_l0, rsF_7a38_l0_T0, Int.toNat_natCast]
    rw [br_of (decide_eq_true (by omega)), br_of (inB_of (by omega)), br_of (decide_eq_true hlt), br_of (inB_of (by omega)), br_of (decide_eq_true hlt), br_not (by rw [beq_self_eq_true]; rfl), w64_succ (by omega)]
    exact hih

theorem sf2_l0 {R : Type} (N : Nat) (X : List Bool) (hX : X.length ≤ 1000) (k0 : Bool → List Bool → Option R) (k1 : List Bool → Option R) :
    ∀ (m i n : Nat), X.length - i = m → i ≤ X.length → m < n → rsF_ec84_l0 N k0 k1 n X (i : Int) X = k1 X := by
  intro m
  induction m with
  | zero =>
    intro i n hm hi hn
    obtain ⟨n, rfl⟩ : ∃ n', n = n' + 1 := ⟨n - 1, by omega⟩
    simp only [rsF_ec84_l0, rsF_ec84_l0_T0]
    rw [br_not (decide_eq_false (by omega))]
  | succ m ih =>
    intro i n hm hi hn
    obtain ⟨n, rfl⟩ : ∃ n', n = n' + 1 := ⟨n - 1, by omega⟩
    have hlt : i < X.length := by omega
    have hih := ih (i + 1) n (by omega) (by omega) (by omega)
    simp only [rsF_ec84_l0, rsF_ec84_l0_T0, Int.toNat_natCast]
    rw [br_of (decide_eq_true (by omega)), br_of (inB_of (by omega)), br_of (inB_of (by omega)), br_of (decide_eq_true hlt), br_not (by rw [beq_self_eq_true]; rfl), w64_succ (by omega)]
    exact hih

theorem sn_l0 {R : Type} (N : Nat) (E : List Int) (hX : E.length ≤ 1000) (k0 : Bool → List Int → List Int → Option R) (k1 : List Int → List Int → Option R) :
    ∀ (m i n : Nat), E.length - i = m → i ≤ E.length → m < n → law18_same_894e_l0 N k0 k1 n (i : Int) E E = k1 E E := by
  intro m
  induction m with
  | zero =>
    intro i n hm hi hn
    obtain ⟨n, rfl⟩ : ∃ n', n = n' + 1 := ⟨n - 1, by omega⟩
    simp only [law18_same_894e_l0, law18_same_894e_l0_T0]
    rw [br_not (decide_eq_false (by omega))]
  | succ m ih =>
    intro i n hm hi hn
    obtain ⟨n, rfl⟩ : ∃ n', n = n' + 1 := ⟨n - 1, by omega⟩
    have hlt : i < E.length := by omega
    have hih := ih (i + 1) n (by omega) (by omega) (by omega)
    simp only [law18_same_894e_l0, law18_same_894e_l0_T0, Int.toNat_natCast]
    rw [br_of (decide_eq_true (by omega)), br_of (inB_of (by omega)), br_of (decide_eq_true hlt), br_of (inB_of (by omega)), br_of (decide_eq_true hlt), br_not (by simp), w64_succ (by omega)]
    exact hih

theorem t1_l0 {R : Type} (N : Nat) (F A : List (List Int)) (q : Nat) (hX : F.length ≤ 1000) (k0 : Bool → List (List Int) → List (List Int) → Option R) (k1 : List (List Int) → List (List Int) → Option R) :
    ∀ (m i n : Nat), F.length - i = m → i ≤ F.length → m < n → rsT_6688_l0 N k0 k1 n F.length q (i : Int) (F ++ A) F = k1 (F ++ A) F := by
  intro m
  induction m with
  | zero =>
    intro i n hm hi hn
    obtain ⟨n, rfl⟩ : ∃ n', n = n' + 1 := ⟨n - 1, by omega⟩
    simp only [rsT_6688_l0, rsT_6688_l0_T0]
    rw [br_not (decide_eq_false (by omega))]
  | succ m ih =>
    intro i n hm hi hn
    obtain ⟨n, rfl⟩ : ∃ n', n = n' + 1 := ⟨n - 1, by omega⟩
    have hlt : i < F.length := by omega
    have hih := ih (i + 1) n (by omega) (by omega) (by omega)
    have hlT : i < (F ++ A).length := by rw [List.length_append]; omega
    have hg : (F ++ A)[i] = F[i] := List.getElem_append_left hlt
    simp only [rsT_6688_l0, rsT_6688_l0_T0, Int.toNat_natCast, getD_at hlt, getD_at hlT, hg]
    rw [br_of (decide_eq_true (by omega)), br_of (inB_of (by omega)), br_of (decide_eq_true hlT), br_of (inB_of (by omega)), br_of (decide_eq_true hlt), br_not (by simp), w64_succ (by omega)]
    exact hih

theorem t2_l0 {R : Type} (N : Nat) (F A : List (List Int)) (hX : A.length ≤ 1000) (k0 : Bool → List (List Int) → List (List Int) → Option R) (k1 : List (List Int) → List (List Int) → Option R) :
    ∀ (m i n : Nat), A.length - i = m → i ≤ A.length → m < n → rsT_1859_l0 N k0 k1 n F.length A.length (i : Int) (F ++ A) A = k1 (F ++ A) A := by
  intro m
  induction m with
  | zero =>
    intro i n hm hi hn
    obtain ⟨n, rfl⟩ : ∃ n', n = n' + 1 := ⟨n - 1, by omega⟩
    simp only [rsT_1859_l0, rsT_1859_l0_T0]
    rw [br_not (decide_eq_false (by omega))]
  | succ m ih =>
    intro i n hm hi hn
    obtain ⟨n, rfl⟩ : ∃ n', n = n' + 1 := ⟨n - 1, by omega⟩
    have hlt : i < A.length := by omega
    have hih := ih (i + 1) n (by omega) (by omega) (by omega)
    have hlT : F.length + i < (F ++ A).length := by rw [List.length_append]; omega
    have hg : (F ++ A)[F.length + i] = A[i] := by rw [List.getElem_append_right (by omega)]; congr 1; omega
    have hw : ((F.length : Int) + (i : Int)) = ((F.length + i : Nat) : Int) := by omega
    simp only [rsT_1859_l0, rsT_1859_l0_T0, addLo_eq, hw, Int.toNat_natCast, getD_at hlt, getD_at hlT, hg]
    rw [br_of (decide_eq_true (by omega)), br_of (inB_of (by omega)), br_of (decide_eq_true hlT), br_of (inB_of (by omega)), br_of (decide_eq_true hlt), br_not (by simp), w64_succ (by omega)]
    exact hih

theorem t3_l0 {R : Type} (N : Nat) (F A : List (List Int)) (q : Nat) (hX : F.length ≤ 1000) (k0 : Bool → List (List Int) → Option R) (k1 : List (List Int) → Option R) :
    ∀ (m i n : Nat), F.length - i = m → i ≤ F.length → m < n → rsT_4c6f_l0 N k0 k1 n F F.length q (i : Int) (F ++ A) = k1 (F ++ A) := by
  intro m
  induction m with
  | zero =>
    intro i n hm hi hn
    obtain ⟨n, rfl⟩ : ∃ n', n = n' + 1 := ⟨n - 1, by omega⟩
    simp only [rsT_4c6f_l0, rsT_4c6f_l0_T0]
    rw [br_not (decide_eq_false (by omega))]
  | succ m ih =>
    intro i n hm hi hn
    obtain ⟨n, rfl⟩ : ∃ n', n = n' + 1 := ⟨n - 1, by omega⟩
    have hlt : i < F.length := by omega
    have hih := ih (i + 1) n (by omega) (by omega) (by omega)
    have hlT : i < (F ++ A).length := by rw [List.length_append]; omega
    have hg : (F ++ A)[i] = F[i] := List.getElem_append_left hlt
    simp only [rsT_4c6f_l0, rsT_4c6f_l0_T0, Int.toNat_natCast, getD_at hlt, getD_at hlT, hg]
    rw [br_of (decide_eq_true (by omega)), br_of (inB_of (by omega)), br_of (inB_of (by omega)), br_of (decide_eq_true hlT), br_not (by simp), w64_succ (by omega)]
    exact hih

theorem t4_l0 {R : Type} (N : Nat) (F A : List (List Int)) (hX : A.length ≤ 1000) (k0 : Bool → List (List Int) → Option R) (k1 : List (List Int) → Option R) :
    ∀ (m i n : Nat), A.length - i = m → i ≤ A.length → m < n → rsT_bfa0_l0 N k0 k1 n A F.length A.length (i : Int) (F ++ A) = k1 (F ++ A) := by
  intro m
  induction m with
  | zero =>
    intro i n hm hi hn
    obtain ⟨n, rfl⟩ : ∃ n', n = n' + 1 := ⟨n - 1, by omega⟩
    simp only [rsT_bfa0_l0, rsT_bfa0_l0_T0]
    rw [br_not (decide_eq_false (by omega))]
  | succ m ih =>
    intro i n hm hi hn
    obtain ⟨n, rfl⟩ : ∃ n', n = n' + 1 := ⟨n - 1, by omega⟩
    have hlt : i < A.length := by omega
    have hih := ih (i + 1) n (by omega) (by omega) (by omega)
    have hlT : F.length + i < (F ++ A).length := by rw [List.length_append]; omega
    have hg : (F ++ A)[F.length + i] = A[i] := by rw [List.getElem_append_right (by omega)]; congr 1; omega
    have hw : ((F.length : Int) + (i : Int)) = ((F.length + i : Nat) : Int) := by omega
    simp only [rsT_bfa0_l0, rsT_bfa0_l0_T0, addLo_eq, hw, Int.toNat_natCast, getD_at hlt, getD_at hlT, hg]
    rw [br_of (decide_eq_true (by omega)), br_of (inB_of (by omega)), br_of (inB_of (by omega)), br_of (decide_eq_true hlT), br_not (by simp), w64_succ (by omega)]
    exact hih

theorem sf1_eq {R : Type} (N : Nat) (hN : 1000 < N) (X : List Bool) (hX : X.length ≤ 1000) (k : Bool → List Bool → List Bool → Option R) : rsF_7a38 N X X k = k true X X := by
  unfold rsF_7a38 rsF_7a38_T
  rw [br_not (b := !decide _) (by rw [decide_eq_true rfl]; rfl)]
  exact sf1_l0 N X hX _ _ X.length 0 N (by omega) (by omega) (by omega)

theorem sf2_eq {R : Type} (N : Nat) (hN : 1000 < N) (X : List Bool) (hX : X.length ≤ 1000) (k : Bool → List Bool → Option R) : rsF_ec84 N X X k = k true X := by
  unfold rsF_ec84 rsF_ec84_T
  rw [br_not (b := !decide _) (by rw [decide_eq_true rfl]; rfl)]
  exact sf2_l0 N X hX _ _ X.length 0 N (by omega) (by omega) (by omega)

theorem sn_eq {R : Type} (N : Nat) (hN : 1000 < N) (E : List Int) (hX : E.length ≤ 1000) (k : Bool → List Int → List Int → Option R) : law18_same_894e N E E k = k true E E := by
  unfold law18_same_894e law18_same_894e_T
  rw [br_not (b := !decide _) (by rw [decide_eq_true rfl]; rfl)]
  exact sn_l0 N E hX _ _ E.length 0 N (by omega) (by omega) (by omega)

theorem t1_eq {R : Type} (N : Nat) (hN : 1000 < N) (F A : List (List Int)) (q : Nat) (hX : F.length ≤ 1000) (k : Bool → List (List Int) → List (List Int) → Option R) : rsT_6688 N F.length q (F ++ A) F k = k true (F ++ A) F := by
  unfold rsT_6688 rsT_6688_T
  rw [br_not (b := !decide _) (by rw [decide_eq_true rfl]; rfl)]
  exact t1_l0 N F A q hX _ _ F.length 0 N (by omega) (by omega) (by omega)

theorem t2_eq {R : Type} (N : Nat) (hN : 1000 < N) (F A : List (List Int)) (hX : A.length ≤ 1000) (k : Bool → List (List Int) → List (List Int) → Option R) : rsT_1859 N F.length A.length (F ++ A) A k = k true (F ++ A) A := by
  unfold rsT_1859 rsT_1859_T
  rw [br_not (b := !decide _) (by rw [decide_eq_true rfl]; rfl)]
  exact t2_l0 N F A hX _ _ A.length 0 N (by omega) (by omega) (by omega)

theorem t3_eq {R : Type} (N : Nat) (hN : 1000 < N) (F A : List (List Int)) (q : Nat) (hX : F.length ≤ 1000) (k : Bool → List (List Int) → Option R) : rsT_4c6f N F F.length q (F ++ A) k = k true (F ++ A) := by
  unfold rsT_4c6f rsT_4c6f_T
  rw [br_not (b := !decide _) (by rw [decide_eq_true rfl]; rfl)]
  exact t3_l0 N F A q hX _ _ F.length 0 N (by omega) (by omega) (by omega)

theorem t4_eq {R : Type} (N : Nat) (hN : 1000 < N) (F A : List (List Int)) (hX : A.length ≤ 1000) (k : Bool → List (List Int) → Option R) : rsT_bfa0 N A F.length A.length (F ++ A) k = k true (F ++ A) := by
  unfold rsT_bfa0 rsT_bfa0_T
  rw [br_not (b := !decide _) (by rw [decide_eq_true rfl]; rfl)]
  exact t4_l0 N F A hX _ _ A.length 0 N (by omega) (by omega) (by omega)

theorem sameD_eq {R : Type} (N : Nat) (hN : 1000 < N) (F A : List (List Int)) (X : List Bool) (q : Nat) (hF : F.length ≤ 1000) (hA : A.length ≤ 1000) (hX : X.length ≤ 1000) (k : Bool → List (List Int) → List Bool → List (List Int) → List (List Int) → List Bool → Option R) :
    r_Same_d123 N F.length q F.length A.length (F ++ A) X F A X k = k true (F ++ A) X F A X := by
  unfold r_Same_d123 r_Same_d123_T
  rw [t1_eq N hN F A q hF, br_true, t2_eq N hN F A hA, br_true, sf1_eq N hN X hX]

theorem sameO_eq {R : Type} (N : Nat) (hN : 1000 < N) (F A : List (List Int)) (X : List Bool) (q : Nat) (hF : F.length ≤ 1000) (hA : A.length ≤ 1000) (hX : X.length ≤ 1000) (k : Bool → List (List Int) → List Bool → Option R) :
    r_Same_0654 N F A X F.length q F.length A.length (F ++ A) X k = k true (F ++ A) X := by
  unfold r_Same_0654 r_Same_0654_T
  rw [t3_eq N hN F A q hF, br_true, t4_eq N hN F A hA, br_true, sf2_eq N hN X hX]

theorem sameE_eq {R : Type} (n : Nat) (k : Bool → List (List Int) → List (List Int) → List Bool → List (List Int) → List (List Int) → List Bool → Option R) :
    r_Same_efae (n + 3000) [] [] [] [] [] [] k = k true [] [] [] [] [] [] := rfl

end Go.Proofs.Ytlfhmecdgfennaa
