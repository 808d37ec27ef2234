/-
  an input as numbers (chapter 18): what the printed functions come to.
-/
import Derived.Test.YtlfhmecdgfennaaPCastD
set_option linter.unusedVariables false
set_option linter.unusedSimpArgs false
namespace Go.Proofs.Ytlfhmecdgfennaa
open Go.Gx

/-! ### two lists behind one another -/
theorem app24 {α : Type} {l : List α} {z : Nat} (h : l.length ≤ 1000) (hz : z ≤ 1000) : (((fits (0 : Nat) (List.length l) l) && (decide ((((List.length l) + z) * (24 : Nat)) ≤ (70368744177664 : Nat)))) && true) = true := by
  rw [fits_of (by omega), decide_eq_true (by omega)]; rfl
theorem grow_eq {R : Type} (N : Nat) (n : Nat) (hn : n ≤ 1000) (k : List (List Int) → Option R) : sGw_06c2 N (n : Int) k = k [] := by
  unfold sGw_06c2 sGw_06c2_T
  have e : IntKind.wrap .i64 ((n : Int) - IntKind.wrap .i64 (0 - 0)) = (n : Int) := by
    rw [show IntKind.wrap .i64 (0 - 0) = 0 from rfl, w64 (by omega)]; omega
  rw [br_not (decide_eq_false (by omega)), e]
  by_cases h0 : n = 0
  · rw [br_not (decide_eq_false (by omega))]
  · rw [br_of (decide_eq_true (by omega)), br_of (by rw [decide_eq_true (by omega), decide_eq_true (by omega)]; rfl), br_of (leB_of (by omega)), br_of (fits_of (by simp))]
    rfl
theorem concat_eq {R : Type} (N : Nat) (hN : 10 < N) (F A : List (List Int)) (hF : F.length ≤ 400) (hA : A.length ≤ 400) (k : List (List (List Int)) → List (List Int) → Option R) :
    sCt_1789 N [F, A] k = k [F, A] (F ++ A) := by
  obtain ⟨n, rfl⟩ : ∃ n, N = n + 5 := ⟨N - 5, by omega⟩
  unfold sCt_1789 sCt_1789_T
  have s1 : IntKind.wrap .i64 (0 + (F.length : Int)) = (F.length : Int) := by rw [Int.zero_add, w64 (by omega)]
  have s2 : IntKind.wrap .i64 ((F.length : Int) + (A.length : Int)) = ((F.length + A.length : Nat) : Int) := by rw [w64 (by omega)]; omega
  have hl0 : ∀ (k0 : Int → List (List (List Int)) → Option R), sCt_1789_l0 (n + 5) k0 (n + 5) 0 (2 : Int) 0 [F, A] = k0 ((F.length + A.length : Nat) : Int) [F, A] := by
    intro k0
    have e1 : sCt_1789_l0 (n + 5) k0 (n + 5) 0 (2 : Int) 0 [F, A] = br (decide (IntKind.wrap .i64 (0 + (F.length : Int)) < 0)) none (sCt_1789_l0 (n + 5) k0 (n + 4) (IntKind.wrap .i64 (0 + (F.length : Int))) 2 1 [F, A]) := rfl
    have e2 : ∀ z, sCt_1789_l0 (n + 5) k0 (n + 4) z (2 : Int) 1 [F, A] = br (decide (IntKind.wrap .i64 (z + (A.length : Int)) < 0)) none (sCt_1789_l0 (n + 5) k0 (n + 3) (IntKind.wrap .i64 (z + (A.length : Int))) 2 2 [F, A]) := fun _ => rfl
    have e3 : ∀ z, sCt_1789_l0 (n + 5) k0 (n + 3) z (2 : Int) 2 [F, A] = k0 z [F, A] := fun _ => rfl
    rw [e1, s1, br_not (decide_eq_false (by omega)), e2, s2, br_not (decide_eq_false (by omega)), e3]
  have hl1 : ∀ (k0 : List (List (List Int)) → List (List Int) → Option R), sCt_1789_l1 (n + 5) k0 (n + 5) (2 : Int) 0 [F, A] [] = k0 [F, A] (F ++ A) := by
    intro k0
    have e1 : sCt_1789_l1 (n + 5) k0 (n + 5) (2 : Int) 0 [F, A] [] = br (((fits (0 : Nat) ([] : List (List Int)).length ([] : List (List Int))) && decide ((([] : List (List Int)).length + F.length) * 24 ≤ 70368744177664)) && true) (sCt_1789_l1 (n + 5) k0 (n + 4) (2 : Int) 1 [F, A] (([] : List (List Int)) ++ F)) none := rfl
    have e2 : ∀ z, sCt_1789_l1 (n + 5) k0 (n + 4) (2 : Int) 1 [F, A] z = br (((fits (0 : Nat) z.length z) && decide ((z.length + A.length) * 24 ≤ 70368744177664)) && true) (sCt_1789_l1 (n + 5) k0 (n + 3) (2 : Int) 2 [F, A] (sub z 0 z.length ++ A)) none := fun _ => rfl
    have e3 : ∀ z, sCt_1789_l1 (n + 5) k0 (n + 3) (2 : Int) 2 [F, A] z = k0 [F, A] z := fun _ => rfl
    rw [e1, br_of (app24 (by simp) (by omega)), e2, List.nil_append, br_of (app24 (by omega) (by omega)), e3, sub_all]
  refine (hl0 _).trans ?_
  rw [grow_eq _ _ (by omega)]
  exact hl1 _

/-! ### the numbers -/
theorem u16_small {x : Int} (h : 0 ≤ x ∧ x ≤ 65535) : IntKind.wrap .u16 x = x := by
  rw [show IntKind.wrap .u16 x = x % 65536 from rfl]; omega

theorem pad_snoc (t : List Int) (k : Nat) : padT (k + 1) t = padT k t ++ [t.getD k 0] := by
  unfold padT
  rw [List.range_succ, List.map_append]
  rfl

theorem env_l1 {R : Type} (N : Nat) (t : List Int) (ht : Byt t) (ht1 : t.length ≤ 1000) (c : Int) (hc : 0 ≤ c ∧ c ≤ 3) (x1 x2 : Int) (x5 : List EN) (x6 : List Int) (x7 x8 x9 : Int) (x10 x11 : List (List Int)) (x12 : List Bool) (x14 : List (List Int))
    (k : Int → Int → List EN → List Int → Int → Int → Int → List (List Int) → List (List Int) → List Bool → List Int → List (List Int) → Option R) :
    ∀ (m i n : Nat), c.toNat - i = m → i ≤ c.toNat → m < n → ∀ E : List Int, E.length ≤ 900 → c_Env_l1 N k n t x1 x2 c (i : Int) x5 x6 x7 x8 x9 x10 x11 x12 (E ++ padT i t) x14 = k x1 x2 x5 x6 x7 x8 x9 x10 x11 x12 (E ++ padT c.toNat t) x14 := by
  intro m
  induction m with
  | zero =>
    intro i n hm hi hn E hE
    obtain ⟨n, rfl⟩ : ∃ n', n = n' + 1 := ⟨n - 1, by omega⟩
    have : i = c.toNat := by omega
    subst this
    simp only [c_Env_l1, c_Env_l1_T0]
    rw [br_not (decide_eq_false (by omega))]
  | succ m ih =>
    intro i n hm hi hn E hE
    obtain ⟨n, rfl⟩ : ∃ n', n = n' + 1 := ⟨n - 1, by omega⟩
    have hlen : (E ++ padT i t).length ≤ 1000 := by rw [List.length_append, padT_len]; omega
    have hih := ih (i + 1) n (by omega) (by omega) (by omega) E hE
    rw [pad_snoc, ← List.append_assoc] at hih
    simp only [c_Env_l1, c_Env_l1_T0, Int.toNat_natCast]
    rw [br_of (decide_eq_true (by omega)), w64_succ (by omega), sub_all, br_dec]
    by_cases h : (i : Int) < (t.length : Int)
    · have hlt : i < t.length := by omega
      have hb := ht t[i] (List.getElem_mem hlt)
      rw [if_pos h, br_of (inB_of (by omega)), br_of (app2 hlen), getD_at hlt, u16_small (by omega)]
      rw [getD_at hlt] at hih
      exact hih
    · rw [if_neg h, br_of (app2 hlen)]
      have : t.getD i 0 = 0 := by simp [List.getD, show t.length ≤ i by omega]
      rw [this] at hih
      exact hih

theorem enc_snoc : ∀ {C : List Int} {T : List (List Int)} (i : Nat) (hC : i < C.length) (hT : i < T.length), encT (C.drop i) (T.drop i) = ((T[i].length : Nat) : Int) :: (padT (C[i]).toNat T[i] ++ encT (C.drop (i + 1)) (T.drop (i + 1))) := by
  intro C T i hC hT
  rw [List.drop_eq_getElem_cons hC, List.drop_eq_getElem_cons hT]
  rfl

theorem env_l0 {R : Type} (N : Nat) (hN : 1000 < N) (L : List EN) (S : List Int) (a b c : Int) (hL : L.length ≤ 60) (hS : S.length ≤ 60) (F A : List (List Int)) (X : List Bool) (T : List (List Int)) (hTl : T.length = (capsL L ++ S).length) (hT : ∀ t ∈ T, Byt t ∧ t.length ≤ 1000) (hfit : Fit (capsL L ++ S)) (h6 : (capsL L ++ S).length ≤ 6)
    (k : List (List Int) → List (List Int) → List Bool → List Int → Option R) :
    ∀ (m i n : Nat), T.length - i = m → i ≤ T.length → m < n → ∀ E : List Int, E.length ≤ 4 * i → c_Env_l0 N k n (T.length : Int) (i : Int) L S a b c F A X E T = k F A X (E ++ encT ((capsL L ++ S).drop i) (T.drop i)) := by
  intro m
  induction m with
  | zero =>
    intro i n hm hi hn E hE
    obtain ⟨n, rfl⟩ : ∃ n', n = n' + 1 := ⟨n - 1, by omega⟩
    have : i = T.length := by omega
    subst this
    simp only [c_Env_l0, c_Env_l0_T0]
    rw [br_not (decide_eq_false (by omega))]
    have : encT ((capsL L ++ S).drop T.length) (T.drop T.length) = [] := by rw [List.drop_length, hTl, List.drop_length]; rfl
    rw [this, List.append_nil]
  | succ m ih =>
    intro i n hm hi hn E hE
    obtain ⟨n, rfl⟩ : ∃ n', n = n' + 1 := ⟨n - 1, by omega⟩
    have hlt : i < T.length := by omega
    have hltC : i < (capsL L ++ S).length := by omega
    have hb := hT T[i] (List.getElem_mem hlt)
    have hc := hfit (capsL L ++ S)[i] (List.getElem_mem hltC)
    simp only [c_Env_l0, c_Env_l0_T0, Int.toNat_natCast, getD_at hlt]
    rw [br_of (decide_eq_true (by omega)), br_of (inB_of (by omega)), br_of (decide_eq_true hlt), br_of (app2 (by omega)), Caps_eq N (by omega) L (by omega) S (by omega)]
    simp only [getD_at hltC]
    rw [br_of (inB_of (by omega)), br_of (decide_eq_true hltC), sub_all, u16_small (by omega)]
    have h1 := env_l1 (R := R) N T[i] hb.1 hb.2 (capsL L ++ S)[i] hc (T.length : Int) (i : Int) L S a b c F A X T
      (fun i467 i468 l469 l470 i471 i472 i473 l474 l475 l476 l477 l478 => c_Env_l0 N k n i467 (IntKind.wrap .i64 (i468 + (1 : Int))) l469 l470 i471 i472 i473 l474 l475 l476 l477 l478)
      ((capsL L ++ S)[i]).toNat 0 N (by omega) (by omega) (by omega) (E ++ [((T[i].length : Nat) : Int)]) (by simp; omega)
    rw [show padT 0 T[i] = [] from rfl, List.append_nil] at h1
    refine h1.trans ?_
    rw [w64_succ (by omega), ih (i + 1) n (by omega) (by omega) (by omega) _ (by simp [padT_len]; omega), enc_snoc i hltC hlt]
    congr 1
    simp

theorem env_l2 {R : Type} (N : Nat) (X : List Bool) (hX : X.length ≤ 100) (k : List Int → Option R) :
    ∀ (m i n : Nat), X.length - i = m → i ≤ X.length → m < n → ∀ E : List Int, E.length ≤ 500 + i → c_Env_l2 N k n X (X.length : Int) (i : Int) E = k (E ++ encX (X.drop i)) := by
  intro m
  induction m with
  | zero =>
    intro i n hm hi hn E hE
    obtain ⟨n, rfl⟩ : ∃ n', n = n' + 1 := ⟨n - 1, by omega⟩
    have : i = X.length := by omega
    subst this
    simp only [c_Env_l2, c_Env_l2_T0]
    rw [br_not (decide_eq_false (by omega)), List.drop_length]
    show _ = k (E ++ [])
    rw [List.append_nil]
  | succ m ih =>
    intro i n hm hi hn E hE
    obtain ⟨n, rfl⟩ : ∃ n', n = n' + 1 := ⟨n - 1, by omega⟩
    have hlt : i < X.length := by omega
    have hE1 : E.length ≤ 1000 := by omega
    simp only [c_Env_l2, c_Env_l2_T0, Int.toNat_natCast, getD_at hlt]
    rw [br_of (decide_eq_true (by omega)), br_of (inB_of (by omega)), w64_succ (by omega), sub_all, List.drop_eq_getElem_cons hlt]
    cases X[i] with
    | true =>
      rw [br_true, br_of (app2 hE1), ih (i + 1) n (by omega) (by omega) (by omega) _ (by simp; omega)]
      congr 1
      simp [encX]
    | false =>
      rw [br_false, br_of (app2 hE1), ih (i + 1) n (by omega) (by omega) (by omega) _ (by simp; omega)]
      congr 1
      simp [encX]

theorem enc_le {C : List Int} {T : List (List Int)} (h : T.length = C.length) (hf : Fit C) : (encT C T).length ≤ 4 * C.length := by
  rw [enc_len h]
  clear h
  induction C with
  | nil => simp [offN]
  | cons c C ih =>
    have := ih fun z hz => hf z (List.mem_cons_of_mem _ hz)
    have hc := hf c List.mem_cons_self
    unfold offN
    rw [List.length_cons]
    omega

theorem fit_len {C : List Int} {T : List (List Int)} (hf : Fit C) (h : fitT C T = true) (hl : T.length = C.length) : ∀ t ∈ T, t.length ≤ 3 := by
  intro t ht
  obtain ⟨i, hi, rfl⟩ := List.getElem_of_mem ht
  have h1 := fitT_at h hl i hi
  have hlt : i < C.length := by omega
  rw [getD_at hlt] at h1
  have := hf C[i] (List.getElem_mem hlt)
  omega

def envV (C : List Int) (T : List (List Int)) (X : List Bool) : List Int := encT C T ++ encX X

theorem hasB_iff {L : List EN} {S : List Int} {a b c : Int} {F A : List (List Int)} {X : List Bool} (h : hasB L S a b c F A X = true) :
    mayB L S a b c = true ∧ F.length = (capsL L).length ∧ A.length = S.length ∧ failB X a b = true ∧ fitT (capsL L ++ S) (F ++ A) = true := by
  unfold hasB at h
  simp only [Bool.and_eq_true, decide_eq_true_eq] at h
  exact ⟨h.1.1.1.1, h.1.1.1.2, h.1.1.2, h.1.2, h.2⟩
theorem failB_len {X : List Bool} {a b : Int} (h : failB X a b = true) : (X.length : Int) = a ∧ a ≤ 6 ∧ cnt X ≤ b := by
  unfold failB at h
  simp only [Bool.and_eq_true, decide_eq_true_eq] at h
  exact ⟨h.1.1, h.1.2, h.2⟩

theorem Env_eq18 {R : Type} (N : Nat) (hN : 1000 < N) (L : List EN) (S : List Int) (a b c : Int) (hL : L.length ≤ 60) (hS : S.length ≤ 60) (F A : List (List Int)) (hF : ∀ t ∈ F ++ A, Byt t) (X : List Bool) (hX : X.length ≤ 60) (k : Int → List Int → Option R) :
    c_Env N L S a b c F A X k = if mayB L S a b c = true then (if hasB L S a b c F A X = true then k 0 (envV (capsL L ++ S) (F ++ A) X) else k 12 []) else k 11 [] := by
  unfold c_Env c_Env_T
  rw [May_eq17 N (by omega), br_neg]
  cases hm : mayB L S a b c with
  | false => rfl
  | true =>
    obtain ⟨hf, hL8, hS2, hC6, ha0, ha6⟩ := may_fit hm
    rw [br_true, Has_eq N hN L S a b c hL hS F A X (by omega), br_neg, if_pos rfl]
    cases hh : hasB L S a b c F A X with
    | false => rfl
    | true =>
      obtain ⟨_, h1, h2, h3, h4⟩ := hasB_iff hh
      have hTl : (F ++ A).length = (capsL L ++ S).length := by rw [List.length_append, List.length_append, h1, h2]
      have h3' := fit_len hf h4 hTl
      have hlen : (F ++ A).length = F.length + A.length := List.length_append
      rw [br_true, if_pos rfl, concat_eq N (by omega) F A (by omega) (by omega)]
      refine (env_l0 N hN L S a b c hL hS F A X (F ++ A) hTl (fun t ht => ⟨hF t ht, by have := h3' t ht; omega⟩) hf hC6 _ (F ++ A).length 0 N (by omega) (by omega) (by omega) [] (by simp)).trans ?_
      rw [List.nil_append, List.drop_zero, List.drop_zero]
      have he := enc_le hTl hf
      refine (env_l2 N X (by omega) _ X.length 0 N (by omega) (by omega) (by omega) _ (by omega)).trans ?_
      rw [List.drop_zero]
      rfl

end Go.Proofs.Ytlfhmecdgfennaa
