/-
  what CastPremise needs of the texts of chapter 18 (made by castp.py)
-/
import Derived.Test.YtlfhmecdgfennaaPCastB
import Derived.Test.YtlfhmecdgfennaaPCastC
set_option linter.unusedVariables false
set_option linter.unusedSimpArgs false
namespace Go.Proofs.Ytlfhmecdgfennaa
open Go.Gx

theorem getD_at {α : Type} {l : List α} {i : Nat} (h : i < l.length) (d : α) : l.getD i d = l[i] := by simp [List.getD, h]
def cnt : List Bool → Int
  | [] => 0
  | b :: r => (if b = true then 1 else 0) + cnt r
theorem cnt_le : ∀ X : List Bool, 0 ≤ cnt X ∧ cnt X ≤ (X.length : Int)
  | [] => by simp [cnt]
  | b :: r => by
    have := cnt_le r
    unfold cnt
    rw [List.length_cons]
    cases b
    · simp only [Bool.false_eq_true, if_false]; omega
    · simp only [if_true]; omega
def failB (X : List Bool) (a b : Int) : Bool := decide ((X.length : Int) = a) && decide (a ≤ 6) && decide (cnt X ≤ b)
def fitT : List Int → List (List Int) → Bool
  | c :: C, t :: T => decide ((t.length : Int) ≤ c) && fitT C T
  | _, _ => true
theorem fitT_at : ∀ {C : List Int} {T : List (List Int)}, fitT C T = true → T.length = C.length → ∀ i (h : i < T.length), (T[i].length : Int) ≤ C.getD i 0
  | [], [], _, _, _, hi => absurd hi (by simp)
  | [], t :: T, _, hl, _, _ => by simp at hl
  | c :: C, [], _, _, _, hi => absurd hi (by simp)
  | c :: C, t :: T, h, hl, 0, _ => by
    unfold fitT at h
    simp only [Bool.and_eq_true, decide_eq_true_eq] at h
    exact h.1
  | c :: C, t :: T, h, hl, i + 1, hi => by
    unfold fitT at h
    simp only [Bool.and_eq_true] at h
    exact fitT_at h.2 (by simpa using hl) i (by simpa using hi)
def hasB (L : List EN) (S : List Int) (a b c : Int) (F A : List (List Int)) (X : List Bool) : Bool :=
  mayB L S a b c && decide (F.length = (capsL L).length) && decide (A.length = S.length) && failB X a b && fitT (capsL L ++ S) (F ++ A)
theorem app24 {α : Type} {l : List α} {z : Nat} (h : l.length ≤ 1000) (hz : z ≤ 1000) : (((fits (0 : Nat) (List.length l) l) && (decide ((((List.length l) + z) * (24 : Nat)) ≤ (70368744177664 : Nat)))) && true) = true := by
  rw [fits_of (by omega), decide_eq_true (by omega)]; rfl
def envV (C : List Int) (T : List (List Int)) (X : List Bool) : List Int := encT C T ++ encX X
theorem app1 {α : Type} {l : List α} (h : l.length ≤ 1000) : (((fits (0 : Nat) (List.length l) l) && (decide ((((List.length l) + (1 : Nat)) * (1 : Nat)) ≤ (70368744177664 : Nat)))) && true) = true := by
  rw [fits_of (by omega), decide_eq_true (by omega)]; rfl
theorem offs_offN : ∀ {C : List Int}, Fit C → offs C = (offN C : Int)
  | [], _ => rfl
  | c :: C, h => by
    have := offs_offN (C := C) fun z hz => h z (List.mem_cons_of_mem _ hz)
    have hc := h c List.mem_cons_self
    rw [offs_cons, this]
    show _ = ((1 + c.toNat + offN C : Nat) : Int)
    omega
theorem offN_app : ∀ (A B : List Int), offN (A ++ B) = offN A + offN B
  | [], B => by simp [offN]
  | x :: r, B => by
    have := offN_app r B
    rw [List.cons_append]
    show 1 + x.toNat + offN (r ++ B) = 1 + x.toNat + offN r + offN B
    rw [this]; omega
theorem offN_take {C : List Int} {i : Nat} (h : i < C.length) : offN (C.take (i + 1)) = offN (C.take i) + (1 + (C[i]).toNat) := by
  rw [List.take_succ_eq_append_getElem h, offN_app]
  rfl
theorem offN_le {C : List Int} (i : Nat) : offN (C.take i) ≤ offN C := by
  conv => rhs; rw [← List.take_append_drop i C, offN_app]
  omega
theorem decB_snoc (E : List Int) (d k : Nat) : decB E d (k + 1) = decB E d k ++ [w8 (E.getD (d + 1 + k) 0)] := by
  unfold decB
  rw [List.range_succ, List.map_append]
  rfl
theorem dec_snoc (E : List Int) (c : Int) : ∀ (A : List Int) (d : Nat), decT E d (A ++ [c]) = decT E d A ++ [decB E (d + offN A) (min c (E.getD (d + offN A) 0)).toNat]
  | [], d => by simp [decT, offN]
  | x :: r, d => by
    have := dec_snoc E c r (d + 1 + x.toNat)
    rw [List.cons_append]
    show decB E d _ :: decT E (d + 1 + x.toNat) (r ++ [c]) = decB E d _ :: (decT E (d + 1 + x.toNat) r ++ _)
    rw [this]
    have e : d + 1 + x.toNat + offN r = d + offN (x :: r) := by
      show _ = d + (1 + x.toNat + offN r)
      omega
    rw [e]
/-- numbers of sixteen bits -/
def W16 (E : List Int) : Prop := ∀ x ∈ E, 0 ≤ x ∧ x ≤ 65535
theorem W16.at {E : List Int} (h : W16 E) (j : Nat) : 0 ≤ E.getD j 0 ∧ E.getD j 0 ≤ 65535 := by
  by_cases hj : j < E.length
  · rw [getD_at hj]; exact h _ (List.getElem_mem hj)
  · have : E.getD j 0 = 0 := by simp [List.getD, show E.length ≤ j by omega]
    omega
theorem min_if (x y : Int) : (if x < y then x else y) = min x y := by
  by_cases h : x < y
  · rw [if_pos h]; omega
  · rw [if_neg h]; omega
/-- the numbers are an input's -/
def inpB (C : List Int) (a b : Int) (E : List Int) : Bool :=
  failB (decX E (offN C) a.toNat) a b && decide (envV C (decT E 0 C) (decX E (offN C) a.toNat) = E.take (offN C + a.toNat))
theorem fitT_dec (E : List Int) (hW : W16 E) : ∀ (C : List Int) (d : Nat), (∀ z ∈ C, 0 ≤ z) → fitT C (decT E d C) = true
  | [], d, _ => rfl
  | c :: C, d, h => by
    have hc := h c List.mem_cons_self
    have hE := hW.at d
    show (decide (((decB E d _).length : Int) ≤ c) && fitT C (decT E (d + 1 + c.toNat) C)) = true
    rw [fitT_dec E hW C _ fun z hz => h z (List.mem_cons_of_mem _ hz), decide_eq_true (by simp [decB]; omega)]
    rfl
theorem Byt_decB (E : List Int) (d n : Nat) : Byt (decB E d n) := by
  intro x hx
  unfold decB at hx
  obtain ⟨k, _, rfl⟩ := List.mem_map.1 hx
  unfold w8
  rw [show IntKind.wrap .u8 (E.getD (d + 1 + k) 0) = E.getD (d + 1 + k) 0 % 256 from rfl]
  omega
theorem Byt_dec (E : List Int) : ∀ (C : List Int) (d : Nat), ∀ t ∈ decT E d C, Byt t
  | [], _, t, h => nomatch h
  | c :: C, d, t, h => by
    rcases List.mem_cons.1 h with h | h
    · rw [h]; exact Byt_decB _ _ _
    · exact Byt_dec E C _ t h
theorem fit_cut : ∀ (C D : List Int) (T : List (List Int)), T.length = C.length → fitT (C ++ D) T = fitT C T
  | [], D, [], _ => by cases D <;> rfl
  | c :: C, D, t :: T, h => by
    show (decide _ && fitT (C ++ D) T) = (decide _ && fitT C T)
    rw [fit_cut C D T (by simpa using h)]
theorem fit_app : ∀ (C D : List Int) (T U : List (List Int)), T.length = C.length → fitT (C ++ D) (T ++ U) = (fitT C T && fitT D U)
  | [], D, [], U, _ => by simp [fitT]
  | c :: C, D, t :: T, U, h => by
    show (decide _ && fitT (C ++ D) (T ++ U)) = (decide _ && fitT C T && fitT D U)
    rw [fit_app C D T U (by simpa using h), Bool.and_assoc]
theorem fit_nil (C : List Int) : fitT C [] = true := by cases C <;> rfl
theorem rhasF_l0 {R : Type} (N : Nat) (L : List EN) (S : List Int) (a b c : Int) (F A : List (List Int)) (X : List Bool) (C : List Int) (hC : F.length ≤ C.length) (h1000 : C.length ≤ 1000)
    (k0 : Bool → List (List Int) → List (List Int) → List Bool → List EN → List Int → Int → Int → Int → Option R) (k1 : List (List Int) → List (List Int) → List Bool → List EN → List Int → Int → Int → Int → Option R) :
    ∀ (m i n : Nat), F.length - i = m → i ≤ F.length → m < n → ref17_Has_fd41_l0 N k0 k1 n (i : Int) F A X L S a b c C = if fitT (C.drop i) (F.drop i) = true then k1 F A X L S a b c else k0 false F A X L S a b c := by
  intro m
  induction m with
  | zero =>
    intro i n hm hi hn
    obtain ⟨n, rfl⟩ : ∃ n', n = n' + 1 := ⟨n - 1, by omega⟩
    have : i = F.length := by omega
    subst this
    simp only [ref17_Has_fd41_l0, ref17_Has_fd41_l0_T0, List.drop_length, fit_nil]
    rw [br_not (decide_eq_false (by omega)), if_pos trivial]
  | succ m ih =>
    intro i n hm hi hn
    obtain ⟨n, rfl⟩ : ∃ n', n = n' + 1 := ⟨n - 1, by omega⟩
    have hlt : i < F.length := by omega
    have hltC : i < C.length := by omega
    have hfit : fitT (C[i] :: C.drop (i + 1)) (F[i] :: F.drop (i + 1)) = (decide ((F[i].length : Int) ≤ C[i]) && fitT (C.drop (i + 1)) (F.drop (i + 1))) := rfl
    have hih := ih (i + 1) n (by omega) (by omega) (by omega)
    rw [List.drop_eq_getElem_cons hltC, List.drop_eq_getElem_cons hlt, hfit]
    simp only [ref17_Has_fd41_l0, ref17_Has_fd41_l0_T0, Int.toNat_natCast, getD_at hlt, getD_at hltC]
    rw [br_of (decide_eq_true (by omega)), br_of (inB_of (by omega)), br_of (decide_eq_true hlt), br_of (inB_of (by omega)), br_of (decide_eq_true hltC), w64_succ (by omega), hih, br_dec]
    by_cases hle : (F[i].length : Int) ≤ C[i]
    · rw [if_neg (by omega), decide_eq_true hle, Bool.true_and]
    · rw [if_pos (by omega), decide_eq_false hle]; rfl
theorem rhasF_l1 {R : Type} (N : Nat) (L : List EN) (S : List Int) (a b c : Int) (F A : List (List Int)) (X : List Bool) (hC : A.length ≤ S.length) (h1000 : S.length ≤ 1000)
    (k0 : Bool → List (List Int) → List (List Int) → List Bool → List EN → List Int → Int → Int → Int → Option R) (k1 : List (List Int) → List (List Int) → List Bool → List EN → List Int → Int → Int → Int → Option R) :
    ∀ (m i n : Nat), A.length - i = m → i ≤ A.length → m < n → ref17_Has_fd41_l1 N k0 k1 n (i : Int) F A X L S a b c = if fitT (S.drop i) (A.drop i) = true then k1 F A X L S a b c else k0 false F A X L S a b c := by
  intro m
  induction m with
  | zero =>
    intro i n hm hi hn
    obtain ⟨n, rfl⟩ : ∃ n', n = n' + 1 := ⟨n - 1, by omega⟩
    have : i = A.length := by omega
    subst this
    simp only [ref17_Has_fd41_l1, ref17_Has_fd41_l1_T0, List.drop_length, fit_nil]
    rw [br_not (decide_eq_false (by omega)), if_pos trivial]
  | succ m ih =>
    intro i n hm hi hn
    obtain ⟨n, rfl⟩ : ∃ n', n = n' + 1 := ⟨n - 1, by omega⟩
    have hlt : i < A.length := by omega
    have hltC : i < S.length := by omega
    have hfit : fitT (S[i] :: S.drop (i + 1)) (A[i] :: A.drop (i + 1)) = (decide ((A[i].length : Int) ≤ S[i]) && fitT (S.drop (i + 1)) (A.drop (i + 1))) := rfl
    have hih := ih (i + 1) n (by omega) (by omega) (by omega)
    rw [List.drop_eq_getElem_cons hltC, List.drop_eq_getElem_cons hlt, hfit]
    simp only [ref17_Has_fd41_l1, ref17_Has_fd41_l1_T0, Int.toNat_natCast, getD_at hlt, getD_at hltC]
    rw [br_of (decide_eq_true (by omega)), br_of (inB_of (by omega)), br_of (decide_eq_true hlt), br_of (inB_of (by omega)), w64_succ (by omega), hih, br_dec]
    by_cases hle : (A[i].length : Int) ≤ S[i]
    · rw [if_neg (by omega), decide_eq_true hle, Bool.true_and]
    · rw [if_pos (by omega), decide_eq_false hle]; rfl
theorem rhasF_l2 {R : Type} (N : Nat) (L : List EN) (S : List Int) (a b c : Int) (F A : List (List Int)) (X : List Bool) (hX : X.length ≤ 1000)
    (k : Int → List (List Int) → List (List Int) → List Bool → List EN → List Int → Int → Int → Int → Option R) :
    ∀ (m i n : Nat), X.length - i = m → i ≤ X.length → m < n → ∀ s : Int, 0 ≤ s → s ≤ (i : Int) → ref17_Has_fd41_l2 N k n s (i : Int) F A X L S a b c = k (s + cnt (X.drop i)) F A X L S a b c := by
  intro m
  induction m with
  | zero =>
    intro i n hm hi hn s hs0 hs1
    obtain ⟨n, rfl⟩ : ∃ n', n = n' + 1 := ⟨n - 1, by omega⟩
    have : i = X.length := by omega
    subst this
    simp only [ref17_Has_fd41_l2, ref17_Has_fd41_l2_T0, List.drop_length, cnt, Int.add_zero]
    rw [br_not (decide_eq_false (by omega))]
  | succ m ih =>
    intro i n hm hi hn s hs0 hs1
    obtain ⟨n, rfl⟩ : ∃ n', n = n' + 1 := ⟨n - 1, by omega⟩
    have hlt : i < X.length := by omega
    simp only [ref17_Has_fd41_l2, ref17_Has_fd41_l2_T0, Int.toNat_natCast, getD_at hlt]
    rw [br_of (decide_eq_true (by omega)), br_of (inB_of (by omega)), br_of (decide_eq_true hlt), w64_succ (by omega), List.drop_eq_getElem_cons hlt, w64 (x := s + 1) (by omega)]
    unfold cnt
    cases hx : X[i] with
    | true =>
      refine (ih (i + 1) n (by omega) (by omega) (by omega) (s + 1) (by omega) (by omega)).trans ?_
      rw [if_pos rfl, Int.add_assoc]
    | false =>
      refine (ih (i + 1) n (by omega) (by omega) (by omega) s (by omega) (by omega)).trans ?_
      rw [if_neg (by decide), Int.zero_add]
theorem rHasF_eq {R : Type} (N : Nat) (hN : 1000 < N) (L : List EN) (S : List Int) (a b c : Int) (hL : L.length ≤ 60) (hS : S.length ≤ 60) (F A : List (List Int)) (X : List Bool) (hX : X.length ≤ 1000) (k : Bool → List (List Int) → List (List Int) → List Bool → Option R) :
    ref17_Has_fd41 N L S a b c F A X k = k (hasB L S a b c F A X) F A X := by
  unfold ref17_Has_fd41 ref17_Has_fd41_T hasB
  rw [refMay_eq17 N (by omega) L S (by omega)]
  cases hm : mayB L S a b c with
  | false => rfl
  | true =>
    obtain ⟨hf, hL8, hS2, hC6, ha0, ha6⟩ := may_fit hm
    have hcl := caps_len L
    rw [br_of (b := !(!true)) rfl]
    unfold ref17_files ref17_files_T
    rw [refCaps_eq N (by omega) L (by omega) S (by omega)]
    have hw : IntKind.wrap .i64 (((capsL L ++ S).length : Int) - (S.length : Int)) = ((capsL L).length : Int) := by
      rw [List.length_append, w64 (by omega)]; omega
    rw [br_of (listDec_int .i64 S), br_of (decide_eq_true rfl), hw]
    dsimp only
    rw [br_of (decide_eq_true rfl)]
    by_cases h1 : F.length = (capsL L).length
    · rw [br_of (b := !(!decide _)) (by rw [decide_eq_true (by omega)]; rfl), decide_eq_true h1]
      by_cases h2 : A.length = S.length
      · rw [br_of (b := !(!decide _)) (by rw [decide_eq_true (by omega)]; rfl), decide_eq_true h2]
        by_cases h3 : (X.length : Int) = a
        · rw [br_not (b := !decide _) (by rw [decide_eq_true h3]; rfl), refCaps_eq N (by omega) L (by omega) S (by omega)]
          refine (rhasF_l0 N L S a b c F A X (capsL L ++ S) (by rw [List.length_append]; omega) (by omega) _ _ F.length 0 N (by omega) (by omega) (by omega)).trans ?_
          rw [List.drop_zero, List.drop_zero, fit_cut _ _ _ h1, fit_app _ _ _ _ h1]
          cases fitT (capsL L) F with
          | false => simp
          | true =>
            rw [if_pos rfl]
            refine (rhasF_l1 N L S a b c F A X (by omega) (by omega) _ _ A.length 0 N (by omega) (by omega) (by omega)).trans ?_
            rw [List.drop_zero, List.drop_zero]
            cases fitT S A with
            | false => simp
            | true =>
              rw [if_pos rfl]
              refine (rhasF_l2 N L S a b c F A X (by omega) _ X.length 0 N (by omega) (by omega) (by omega) 0 (by omega) (by omega)).trans ?_
              rw [List.drop_zero, Int.zero_add]
              unfold failB
              rw [decide_eq_true h3, decide_eq_true ha6]
              simp
        · rw [br_of (b := !decide _) (by rw [decide_eq_false h3]; rfl)]
          unfold failB
          rw [decide_eq_false h3]
          simp
      · rw [br_not (b := !(!decide _)) (by rw [decide_eq_false (by omega)]; rfl), decide_eq_false h2]
        rfl
    · rw [br_not (b := !(!decide _)) (by rw [decide_eq_false (by omega)]; rfl), decide_eq_false h1]
      rfl
theorem rinp_l0 {R : Type} (N : Nat) (E : List Int) (L : List EN) (S : List Int) (a b c : Int) (x8 x9 : List (List Int)) (x10 : List Bool) (C : List Int) (hC : Fit C) (hl : C.length ≤ 1000)
    (k : Int → List Int → List EN → List Int → Int → Int → Int → List (List Int) → List (List Int) → List Bool → List Int → Option R) :
    ∀ (m i n : Nat), C.length - i = m → i ≤ C.length → m < n → ∀ s : Int, 0 ≤ s → s ≤ 100000 + 4 * (i : Int) → ref17_Input_ed18_l0 N k n s (i : Int) E L S a b c x8 x9 x10 C = k (s + offs (C.drop i)) E L S a b c x8 x9 x10 C := by
  intro m
  induction m with
  | zero =>
    intro i n hm hi hn s hs0 hs1
    obtain ⟨n, rfl⟩ : ∃ n', n = n' + 1 := ⟨n - 1, by omega⟩
    have : i = C.length := by omega
    subst this
    simp only [ref17_Input_ed18_l0, ref17_Input_ed18_l0_T0, List.drop_length, offs, Int.add_zero]
    rw [br_not (decide_eq_false (by omega))]
  | succ m ih =>
    intro i n hm hi hn s hs0 hs1
    obtain ⟨n, rfl⟩ : ∃ n', n = n' + 1 := ⟨n - 1, by omega⟩
    have hlt : i < C.length := by omega
    have hb := hC C[i] (List.getElem_mem hlt)
    have hw : IntKind.wrap .i64 (IntKind.wrap .i64 (s + 1) + C[i]) = s + (1 + C[i]) := by
      rw [w64 (x := s + 1) (by omega), w64 (by omega)]; omega
    simp only [ref17_Input_ed18_l0, ref17_Input_ed18_l0_T0, Int.toNat_natCast, getD_at hlt]
    rw [br_of (decide_eq_true (by omega)), br_of (inB_of (by omega)), br_of (decide_eq_true hlt), w64_succ (by omega), hw, ih (i + 1) n (by omega) (by omega) (by omega) _ (by omega) (by omega), List.drop_eq_getElem_cons hlt, offs_cons, Int.add_assoc]

/-- one byte may be -/
def byB (E : List Int) (d : Nat) (j : Nat) : Bool := decide (E.getD (d + 1 + j) 0 ≤ 255) && (decide ((j : Int) < E.getD d 0) || decide (E.getD (d + 1 + j) 0 = 0))

theorem rinp_l2 {R : Type} (N : Nat) (E : List Int) (d i0 : Nat) (L : List EN) (S : List Int) (a b c : Int) (x10 x11 : List (List Int)) (x12 : List Bool) (C : List Int) (hi0 : i0 < C.length) (h3 : 0 ≤ C[i0] ∧ C[i0] ≤ 3) (hE : d + 1 + (C[i0]).toNat ≤ E.length) (h300 : E.length ≤ 400) (hs : 0 ≤ E.getD d 0 ∧ E.getD d 0 ≤ C[i0])
    (x14 x15 : List (List Int)) (x16 : List Bool)
    (k0 : Int → Int → Int → List Int → List EN → List Int → Int → Int → Int → List (List Int) → List (List Int) → List Bool → List Int → List (List Int) → List (List Int) → List Bool → List Int → Option R)
    (k1 : Int → Int → List Int → List EN → List Int → Int → Int → Int → List (List Int) → List (List Int) → List Bool → List Int → List (List Int) → List (List Int) → List Bool → List Int → Option R)
    (KF : Option R) (hk0 : ∀ B, k0 12 (d : Int) (i0 : Int) E L S a b c [] [] [] C x14 x15 x16 B = KF) :
    ∀ (m i n : Nat), (C[i0]).toNat - i = m → i ≤ (C[i0]).toNat → m < n → ref17_Input_ed18_l2 N k0 k1 n (d : Int) (i0 : Int) (E.getD d 0) (i : Int) E L S a b c x10 x11 x12 C x14 x15 x16 (decB E d (min i (E.getD d 0).toNat)) =
      if ((List.range' i ((C[i0]).toNat - i)).all (byB E d)) = true then k1 (d : Int) (i0 : Int) E L S a b c x10 x11 x12 C x14 x15 x16 (decB E d (E.getD d 0).toNat) else KF := by
  intro m
  induction m with
  | zero =>
    intro i n hm hi hn
    obtain ⟨n, rfl⟩ : ∃ n', n = n' + 1 := ⟨n - 1, by omega⟩
    have : i = (C[i0]).toNat := by omega
    simp only [ref17_Input_ed18_l2, ref17_Input_ed18_l2_T0, Int.toNat_natCast, getD_at hi0]
    rw [br_of (inB_of (by omega)), br_of (decide_eq_true hi0), br_not (decide_eq_false (by omega)), hm, show min i (E.getD d 0).toNat = (E.getD d 0).toNat by omega]
    rfl
  | succ m ih =>
    intro i n hm hi hn
    obtain ⟨n, rfl⟩ : ∃ n', n = n' + 1 := ⟨n - 1, by omega⟩
    have hw : IntKind.wrap .i64 (IntKind.wrap .i64 ((d : Int) + 1) + (i : Int)) = ((d + 1 + i : Nat) : Int) := by
      rw [w64 (x := (d : Int) + 1) (by omega), w64 (by omega)]; omega
    have hlen : (decB E d (min i (E.getD d 0).toNat)).length ≤ 1000 := by simp [decB]; omega
    have hih := ih (i + 1) n (by omega) (by omega) (by omega)
    have hr : List.range' i ((C[i0]).toNat - i) = i :: List.range' (i + 1) ((C[i0]).toNat - (i + 1)) := by
      rw [show (C[i0]).toNat - i = ((C[i0]).toNat - (i + 1)) + 1 by omega, List.range'_succ]
    rw [hr, List.all_cons]
    have hby : byB E d i = (decide (E.getD (d + 1 + i) 0 ≤ 255) && (decide ((i : Int) < E.getD d 0) || decide (E.getD (d + 1 + i) 0 = 0))) := rfl
    simp only [ref17_Input_ed18_l2, ref17_Input_ed18_l2_T0, hw, Int.toNat_natCast, getD_at hi0]
    rw [br_of (inB_of (by omega)), br_of (decide_eq_true hi0), br_of (decide_eq_true (by omega)), br_of (inB_of (by omega)), br_of (decide_eq_true (by omega)), br_ndec, hby, w64_succ (by omega), sub_all, hk0]
    by_cases h255 : E.getD (d + 1 + i) 0 ≤ 255
    · rw [if_neg (by omega), decide_eq_true h255, Bool.true_and]
      by_cases hsz : (i : Int) < E.getD d 0
      · rw [br_not (b := decide (E.getD d 0 ≤ (i : Int))) (decide_eq_false (by omega)), br_of (decide_eq_true hsz), decide_eq_true hsz, Bool.true_or, Bool.true_and, br_of (app1 hlen)]
        rw [show min (i + 1) (E.getD d 0).toNat = min i (E.getD d 0).toNat + 1 by omega, decB_snoc] at hih
        rw [show d + 1 + min i (E.getD d 0).toNat = d + 1 + i by omega] at hih
        exact hih
      · rw [br_of (b := decide (E.getD d 0 ≤ (i : Int))) (decide_eq_true (by omega)), br_ndec, br_not (b := decide ((i : Int) < E.getD d 0)) (decide_eq_false hsz), decide_eq_false hsz, Bool.false_or]
        by_cases h0 : E.getD (d + 1 + i) 0 = 0
        · rw [if_pos h0, decide_eq_true h0, Bool.true_and]
          rw [show min (i + 1) (E.getD d 0).toNat = min i (E.getD d 0).toNat by omega] at hih
          exact hih
        · rw [if_neg h0, decide_eq_false h0]
          rfl
    · rw [if_pos (by omega), decide_eq_false h255]
      rfl

theorem okB_by (E : List Int) (d : Nat) (c : Int) : okB E d c = (decide (E.getD d 0 ≤ c) && (List.range' 0 (c.toNat - 0)).all (byB E d)) := by
  unfold okB
  rw [Nat.sub_zero, List.range_eq_range']
  rfl

theorem rinp_l1 {R : Type} (N : Nat) (hN : 1000 < N) (E : List Int) (hW : W16 E) (h300 : E.length ≤ 400) (L : List EN) (S : List Int) (a b c : Int) (H : mayB L S a b c = true) (hV : offN (capsL L ++ S) ≤ E.length) (X : List Bool)
    (k0 : Int → Int → List Int → List EN → List Int → Int → Int → Int → List (List Int) → List (List Int) → List Bool → List (List Int) → List (List Int) → List Bool → Option R)
    (k1 : Int → List Int → List EN → List Int → Int → Int → Int → List (List Int) → List (List Int) → List Bool → List (List Int) → List (List Int) → List Bool → Option R)
    (KF : Option R) (hk0 : ∀ d F A, k0 12 d E L S a b c [] [] [] F A X = KF) :
    ∀ (m i n : Nat), (capsL L ++ S).length - i = m → i ≤ (capsL L ++ S).length → m < n → ref17_Input_ed18_l1 N k0 k1 n (offN ((capsL L ++ S).take i) : Int) (i : Int) E L S a b c [] [] [] (capsL L ++ S) ((decT E 0 ((capsL L ++ S).take i)).take (capsL L).length) ((decT E 0 ((capsL L ++ S).take i)).drop (capsL L).length) X =
      if okR E (offN ((capsL L ++ S).take i)) ((capsL L ++ S).drop i) = true then k1 (offN (capsL L ++ S) : Int) E L S a b c [] [] [] ((decT E 0 (capsL L ++ S)).take (capsL L).length) ((decT E 0 (capsL L ++ S)).drop (capsL L).length) X else KF := by
  obtain ⟨hf, hL8, hS2, hC6, ha0, ha6⟩ := may_fit H
  have hlenC : (capsL L ++ S).length = (capsL L).length + S.length := List.length_append
  intro m
  induction m with
  | zero =>
    intro i n hm hi hn
    obtain ⟨n, rfl⟩ : ∃ n', n = n' + 1 := ⟨n - 1, by omega⟩
    have : i = (capsL L ++ S).length := by omega
    subst this
    simp only [ref17_Input_ed18_l1, ref17_Input_ed18_l1_T0, List.take_length, List.drop_length]
    rw [br_not (decide_eq_false (by omega))]
    rfl
  | succ m ih =>
    intro i n hm hi hn
    obtain ⟨n, rfl⟩ : ∃ n', n = n' + 1 := ⟨n - 1, by omega⟩
    have hlt : i < (capsL L ++ S).length := by omega
    have hfi := hf (capsL L ++ S)[i] (List.getElem_mem hlt)
    have hnext := offN_take hlt
    have hle := offN_le (C := capsL L ++ S) (i + 1)
    have hEd := hW.at (offN ((capsL L ++ S).take i))
    have hih := ih (i + 1) n (by omega) (by omega) (by omega)
    rw [List.drop_eq_getElem_cons hlt]
    have hokR : okR E (offN ((capsL L ++ S).take i)) ((capsL L ++ S)[i] :: (capsL L ++ S).drop (i + 1)) = (okB E (offN ((capsL L ++ S).take i)) (capsL L ++ S)[i] && okR E (offN ((capsL L ++ S).take (i + 1))) ((capsL L ++ S).drop (i + 1))) := by
      rw [hnext, ← Nat.add_assoc]
      rfl
    have hDl : (decT E 0 ((capsL L ++ S).take i)).length = i := by rw [dec_len, List.length_take]; omega
    rw [hokR, okB_by]
    rw [List.take_succ_eq_append_getElem hlt, dec_snoc, Nat.zero_add, ← List.take_succ_eq_append_getElem hlt, hnext] at hih
    generalize hd : offN ((capsL L ++ S).take i) = d at hnext hEd hih ⊢
    generalize hDD : decT E 0 ((capsL L ++ S).take i) = DD at hDl hih ⊢
    simp only [ref17_Input_ed18_l1, ref17_Input_ed18_l1_T0, Int.toNat_natCast, getD_at hlt]
    rw [br_of (decide_eq_true (by omega)), br_of (inB_of (by omega)), br_of (decide_eq_true (by omega)), br_of (inB_of (by omega)), br_of (decide_eq_true hlt), w64 (x := E.getD d 0) (by omega), br_dec]
    by_cases hsz : E.getD d 0 ≤ (capsL L ++ S)[i]
    · rw [if_neg (by omega), decide_eq_true hsz, Bool.true_and]
      have h2 := rinp_l2 (R := R) N E d i L S a b c [] [] [] (capsL L ++ S) hlt hfi (by omega) h300 ⟨hEd.1, hsz⟩ (DD.take (capsL L).length) (DD.drop (capsL L).length) X
        (fun i1696 i1697 i1698 l1699 l1700 l1701 i1702 i1703 i1704 l1705 l1706 l1707 l1708 l1709 l1710 l1711 l1712 => k0 i1696 i1697 l1699 l1700 l1701 i1702 i1703 i1704 l1705 l1706 l1707 l1709 l1710 l1711)
        (fun i1713 i1714 l1715 l1716 l1717 i1718 i1719 i1720 l1721 l1722 l1723 l1724 l1725 l1726 l1727 l1728 => br (inB i1714 (List.length l1724))
         (br (decide ((Int.toNat i1714) < (List.length l1724)))
          (ref17_files N l1716 l1717 i1718 i1719 i1720
           (fun i1729 => br (decide (i1714 < i1729))
            (br (fits (0 : Nat) (List.length l1728) l1728)
             (br (fits (0 : Nat) (List.length l1728) l1728)
              (br (((fits (0 : Nat) (List.length l1725) l1725) && (decide ((((List.length l1725) + (1 : Nat)) * (24 : Nat)) ≤ (70368744177664 : Nat)))) && true)
               (ref17_Input_ed18_l1 N k0 k1 n (IntKind.wrap .i64 ((IntKind.wrap .i64 (i1713 + (1 : Int))) + (List.getD l1724 (Int.toNat i1714) (0 : Int)))) (IntKind.wrap .i64 (i1714 + (1 : Int))) l1715 l1716 l1717 i1718 i1719 i1720 l1721 l1722 l1723 l1724 ((sub l1725 (0 : Nat) (List.length l1725)) ++ ((sub l1728 (0 : Nat) (List.length l1728)) :: ([] : List ((Sh.int IntKind.u8).isl.T)))) l1726 l1727)
               (none))
              (none))
             (none))
            (br (fits (0 : Nat) (List.length l1728) l1728)
             (br (fits (0 : Nat) (List.length l1728) l1728)
              (br (((fits (0 : Nat) (List.length l1726) l1726) && (decide ((((List.length l1726) + (1 : Nat)) * (24 : Nat)) ≤ (70368744177664 : Nat)))) && true)
               (ref17_Input_ed18_l1 N k0 k1 n (IntKind.wrap .i64 ((IntKind.wrap .i64 (i1713 + (1 : Int))) + (List.getD l1724 (Int.toNat i1714) (0 : Int)))) (IntKind.wrap .i64 (i1714 + (1 : Int))) l1715 l1716 l1717 i1718 i1719 i1720 l1721 l1722 l1723 l1724 l1725 ((sub l1726 (0 : Nat) (List.length l1726)) ++ ((sub l1728 (0 : Nat) (List.length l1728)) :: ([] : List ((Sh.int IntKind.u8).isl.T)))) l1727)
               (none))
              (none))
             (none))))
          (none))
         (none)) KF (fun B => hk0 _ _ _) ((capsL L ++ S)[i]).toNat 0 N (by omega) (by omega) (by omega)
      rw [Nat.zero_min] at h2
      refine h2.trans ?_
      cases (List.range' 0 (((capsL L ++ S)[i]).toNat - 0)).all (byB E d) with
      | false => rfl
      | true =>
        rw [if_pos rfl, Bool.true_and]
        have hcl := caps_len L
        have hmin : (min (capsL L ++ S)[i] (E.getD d 0)).toNat = (E.getD d 0).toNat := by omega
        rw [hmin] at hih
        unfold ref17_files ref17_files_T
        rw [refCaps_eq N (by omega) L (by omega) S (by omega)]
        have hw : IntKind.wrap .i64 (((capsL L ++ S).length : Int) - (S.length : Int)) = ((capsL L).length : Int) := by
          rw [List.length_append, w64 (by omega)]; omega
        have hw2 : IntKind.wrap .i64 (IntKind.wrap .i64 ((d : Int) + 1) + (capsL L ++ S)[i]) = ((d + (1 + ((capsL L ++ S)[i]).toNat) : Nat) : Int) := by
          rw [w64 (x := (d : Int) + 1) (by omega), w64 (by omega)]; omega
        rw [br_of (inB_of (by omega)), br_of (decide_eq_true (by simpa using hlt)), br_of (listDec_int .i64 S), br_of (decide_eq_true rfl), hw]
        simp only [Int.toNat_natCast, getD_at hlt]
        rw [hw2, w64_succ (by omega), sub_all, sub_all, sub_all]
        have hDt : (DD.take (capsL L).length).length ≤ 1000 := by rw [List.length_take]; omega
        have hDd : (DD.drop (capsL L).length).length ≤ 1000 := by rw [List.length_drop]; omega
        by_cases hif : i < (capsL L).length
        · rw [br_of (decide_eq_true (by omega)), br_of (fits_of (by omega)), br_of (fits_of (by omega)), br_of (app24 hDt (by omega))]
          have e1 : (DD ++ [decB E d (E.getD d 0).toNat]).take (capsL L).length = DD.take (capsL L).length ++ [decB E d (E.getD d 0).toNat] := by
            rw [List.take_of_length_le (by simp; omega), List.take_of_length_le (by omega)]
          have e2 : (DD ++ [decB E d (E.getD d 0).toNat]).drop (capsL L).length = DD.drop (capsL L).length := by
            rw [List.drop_eq_nil_of_le (by simp; omega), List.drop_eq_nil_of_le (by omega)]
          rw [e1, e2] at hih
          rw [hnext]
          exact hih
        · rw [br_not (b := decide ((i : Int) < ((capsL L).length : Int))) (decide_eq_false (by omega)), br_of (fits_of (by omega)), br_of (fits_of (by omega)), br_of (app24 hDd (by omega))]
          have e1 : (DD ++ [decB E d (E.getD d 0).toNat]).take (capsL L).length = DD.take (capsL L).length := by
            rw [List.take_append_of_le_length (by omega)]
          have e2 : (DD ++ [decB E d (E.getD d 0).toNat]).drop (capsL L).length = DD.drop (capsL L).length ++ [decB E d (E.getD d 0).toNat] := by
            rw [List.drop_append_of_le_length (by omega)]
          rw [e1, e2] at hih
          rw [hnext]
          exact hih
    · rw [if_pos (by omega), decide_eq_false hsz, hk0]
      rfl

theorem rinp_l3 {R : Type} (N : Nat) (E : List Int) (o : Nat) (L : List EN) (S : List Int) (a b c : Int) (ha : 0 ≤ a ∧ a ≤ 6) (hE : o + a.toNat ≤ E.length) (h300 : E.length ≤ 400) (x11 x12 : List (List Int))
    (k0 : Int → List Int → List EN → List Int → Int → Int → Int → List (List Int) → List (List Int) → List Bool → List (List Int) → List (List Int) → List Bool → Option R)
    (k1 : List Int → List EN → List Int → Int → Int → Int → List (List Int) → List (List Int) → List Bool → List (List Int) → List (List Int) → List Bool → Option R)
    (KF : Option R) (hk0 : ∀ X, k0 12 E L S a b c [] [] [] x11 x12 X = KF) :
    ∀ (m i n : Nat), a.toNat - i = m → i ≤ a.toNat → m < n → ref17_Input_ed18_l3 N k0 k1 n (o : Int) (i : Int) E L S a b c [] [] [] x11 x12 (decX E o i) =
      if ((List.range' i (a.toNat - i)).all fun j => decide (E.getD (o + j) 0 ≤ 1)) = true then k1 E L S a b c [] [] [] x11 x12 (decX E o a.toNat) else KF := by
  intro m
  induction m with
  | zero =>
    intro i n hm hi hn
    obtain ⟨n, rfl⟩ : ∃ n', n = n' + 1 := ⟨n - 1, by omega⟩
    have : i = a.toNat := by omega
    simp only [ref17_Input_ed18_l3, ref17_Input_ed18_l3_T0]
    rw [br_not (decide_eq_false (by omega)), hm, this]
    rfl
  | succ m ih =>
    intro i n hm hi hn
    obtain ⟨n, rfl⟩ : ∃ n', n = n' + 1 := ⟨n - 1, by omega⟩
    have hlen : (decX E o i).length ≤ 1000 := by simp [decX]; omega
    have hih := ih (i + 1) n (by omega) (by omega) (by omega)
    have hs : decX E o (i + 1) = decX E o i ++ [decide (E.getD (o + i) 0 = 1)] := by
      unfold decX
      rw [List.range_succ, List.map_append, List.map_cons, List.map_nil]
    rw [hs] at hih
    have hw : IntKind.wrap .i64 ((o : Int) + (i : Int)) = ((o + i : Nat) : Int) := by rw [w64 (by omega)]; omega
    have hr : List.range' i (a.toNat - i) = i :: List.range' (i + 1) (a.toNat - (i + 1)) := by
      rw [show a.toNat - i = (a.toNat - (i + 1)) + 1 by omega, List.range'_succ]
    rw [hr, List.all_cons]
    simp only [ref17_Input_ed18_l3, ref17_Input_ed18_l3_T0, hw, Int.toNat_natCast]
    rw [br_of (decide_eq_true (by omega)), br_of (inB_of (by omega)), br_of (b := decide (o + i < E.length)) (decide_eq_true (by omega)), br_dec, br_of (app1 hlen), br_of (inB_of (by omega)), br_of (b := decide (o + i < E.length)) (decide_eq_true (by omega)), w64_succ (by omega), sub_all, hk0]
    by_cases h1 : E.getD (o + i) 0 ≤ 1
    · rw [if_neg (by omega), decide_eq_true h1, Bool.true_and]
      exact hih
    · rw [if_pos (by omega), decide_eq_false h1]
      rfl

theorem inpB_iff {L : List EN} {S : List Int} {a b c : Int} (H : mayB L S a b c = true) {E : List Int} (hW : W16 E) (hV : offN (capsL L ++ S) + a.toNat ≤ E.length) :
    inpB (capsL L ++ S) a b E = (okR E 0 (capsL L ++ S) && ((List.range' 0 (a.toNat - 0)).all fun j => decide (E.getD (offN (capsL L ++ S) + j) 0 ≤ 1)) && hasB L S a b c ((decT E 0 (capsL L ++ S)).take (capsL L).length) ((decT E 0 (capsL L ++ S)).drop (capsL L).length) (decX E (offN (capsL L ++ S)) a.toNat)) := by
  obtain ⟨hf, hL8, hS2, hC6, ha0, ha6⟩ := may_fit H
  have hlenC : (capsL L ++ S).length = (capsL L).length + S.length := List.length_append
  have hE : ∀ j, 0 ≤ E.getD j 0 := fun j => (hW.at j).1
  have hh : hasB L S a b c ((decT E 0 (capsL L ++ S)).take (capsL L).length) ((decT E 0 (capsL L ++ S)).drop (capsL L).length) (decX E (offN (capsL L ++ S)) a.toNat) = failB (decX E (offN (capsL L ++ S)) a.toNat) a b := by
    unfold hasB
    rw [H, List.take_append_drop, fitT_dec E hW _ _ (fun z hz => (hf z hz).1), decide_eq_true (by rw [List.length_take, dec_len]; omega), decide_eq_true (by rw [List.length_drop, dec_len]; omega)]
    simp
  rw [hh]
  unfold inpB envV
  rw [Bool.eq_iff_iff]
  simp only [Bool.and_eq_true, decide_eq_true_eq]
  rw [← sl_take E _ hV, sl_add, app_iff (by rw [enc_len (dec_len _ _ _), sl_len]), Nat.zero_add, enc_dec hE _ _ (fun z hz => (hf z hz).1), encX_decX hE, List.all_eq_true]
  constructor
  · rintro ⟨h1, h2, h3⟩
    refine ⟨⟨h2, fun j hj => decide_eq_true (h3 j ?_)⟩, h1⟩
    simp [List.mem_range'_1] at hj
    omega
  · rintro ⟨⟨h2, h3⟩, h1⟩
    exact ⟨h1, h2, fun j hj => of_decide_eq_true (h3 j (by simp [List.mem_range'_1]; omega))⟩

theorem refInput_eq {R : Type} (N : Nat) (hN : 1000 < N) (L : List EN) (S : List Int) (a b c : Int) (hL : L.length ≤ 60) (hS : S.length ≤ 60) (E : List Int) (hW : W16 E) (h300 : E.length ≤ 400) (k0 : Int → List Int → List (List Int) → List (List Int) → List Bool → Option R) :
    ref17_Input_ed18 N L S a b c E k0 = if mayB L S a b c = true then (if (E.length : Int) < a + offs (capsL L ++ S) then k0 12 E [] [] [] else if inpB (capsL L ++ S) a b E = true then
      k0 0 E ((decT E 0 (capsL L ++ S)).take (capsL L).length) ((decT E 0 (capsL L ++ S)).drop (capsL L).length) (decX E (offN (capsL L ++ S)) a.toNat) else k0 12 E [] [] []) else k0 11 E [] [] [] := by
  unfold ref17_Input_ed18 ref17_Input_ed18_T
  rw [refMay_eq17 N (by omega) L S (by omega), br_neg]
  cases hm : mayB L S a b c with
  | false => rfl
  | true =>
    obtain ⟨hf, hL8, hS2, hC6, ha0, ha6⟩ := may_fit hm
    have ho := offs_offN hf
    rw [br_true, if_pos rfl, refCaps_eq N (by omega) L (by omega) S (by omega)]
    refine (rinp_l0 N E L S a b c [] [] [] (capsL L ++ S) hf (by omega) _ (capsL L ++ S).length 0 N (by omega) (by omega) (by omega) a (by omega) (by omega)).trans ?_
    rw [List.drop_zero, br_dec]
    by_cases hlt : (E.length : Int) < a + offs (capsL L ++ S)
    · rw [if_pos hlt, if_pos hlt]
    · rw [if_neg hlt, if_neg hlt]
      rw [ho] at hlt
      have hV : offN (capsL L ++ S) + a.toNat ≤ E.length := by omega
      have h1 := rinp_l1 (R := R) N hN E hW h300 L S a b c hm (by omega) [] (fun i1730 i1731 l1732 l1733 l1734 i1735 i1736 i1737 l1738 l1739 l1740 l1741 l1742 l1743 => k0 i1730 l1732 l1738 l1739 l1740)
       (fun i1744 l1745 l1746 l1747 i1748 i1749 i1750 l1751 l1752 l1753 l1754 l1755 l1756 => ref17_Input_ed18_l3 N
        (fun i1757 l1758 l1759 l1760 i1761 i1762 i1763 l1764 l1765 l1766 l1767 l1768 l1769 => k0 i1757 l1758 l1764 l1765 l1766)
        (fun l1770 l1771 l1772 i1773 i1774 i1775 l1776 l1777 l1778 l1779 l1780 l1781 => ref17_Has_fd41 N l1771 l1772 i1773 i1774 i1775 l1779 l1780 l1781
         (fun b1828 l1829 l1830 l1831 => br (!b1828)
          (k0 (12 : Int) l1770 ([] : List ((Sh.int IntKind.u8).isl.T)) ([] : List ((Sh.int IntKind.u8).isl.T)) ([] : List (Sh.bool.T)))
          (k0 (0 : Int) l1770 l1829 l1830 l1831)))
        N i1744 (0 : Int) l1745 l1746 l1747 i1748 i1749 i1750 l1751 l1752 l1753 l1754 l1755 l1756)
        (k0 12 E [] [] []) (fun _ _ _ => rfl) (capsL L ++ S).length 0 N (by omega) (by omega) (by omega)
      have hz : decT E 0 ((capsL L ++ S).take 0) = [] := by rw [List.take_zero]; rfl
      rw [hz, List.take_nil, List.drop_nil] at h1
      refine h1.trans ?_
      rw [List.drop_zero, inpB_iff hm hW hV, show offN ((capsL L ++ S).take 0) = 0 from rfl]
      cases okR E 0 (capsL L ++ S) with
      | false => rfl
      | true =>
        rw [if_pos rfl, Bool.true_and]
        refine (rinp_l3 N E (offN (capsL L ++ S)) L S a b c ⟨ha0, ha6⟩ hV h300 _ _ (fun e E' _ _ _ _ _ f g x _ _ _ => k0 e E' f g x) _ (k0 12 E [] [] []) (fun _ => rfl) a.toNat 0 N (by omega) (by omega) (by omega)).trans ?_
        cases (List.range' 0 (a.toNat - 0)).all fun j => decide (E.getD (offN (capsL L ++ S) + j) 0 ≤ 1) with
        | false => rfl
        | true =>
          rw [if_pos rfl, Bool.true_and, rHasF_eq N hN L S a b c hL hS _ _ _ (by simp [decX]; omega)]
          cases hasB L S a b c ((decT E 0 (capsL L ++ S)).take (capsL L).length) ((decT E 0 (capsL L ++ S)).drop (capsL L).length) (decX E (offN (capsL L ++ S)) a.toNat) <;> rfl

section
variable {R : Type} (N : Nat) (hN : 300 < N) (L : List EN) (S : List Int) (a b c : Int) (H : mayB L S a b c = true)
include hN H
theorem Fail_eq (j : Int) (hj : 0 ≤ j ∧ j ≤ 100) (k : Int → Bool → Option R) : cast_Fail N L S a b c j k = if j < a then k (offs (capsL L ++ S) + j) true else k 0 false := by
  obtain ⟨hf, hL, hS, hC, ha⟩ := may_fit H
  have hb := offs_le hf
  unfold cast_Fail cast_Fail_T
  rw [May_eq17 N (by omega), H, Vars_eq N hN L S a b c H]
  rw [Bool.not_true, Bool.not_false, br_true, br_of (by rw [decide_eq_false (by omega)]; rfl), br_dec, br_of (decide_eq_true rfl), br_of (decide_eq_true rfl)]
  by_cases h : j < a
  · rw [if_pos h, if_neg (by omega)]
    congr 1
    rw [w64 (x := a + offs (capsL L ++ S) - a) (by omega), w64 (by omega)]
    omega
  · rw [if_neg h, if_pos (by omega)]

end

end Go.Proofs.Ytlfhmecdgfennaa
