/-
  when is a class of runs given well (chapters 17, 18): what the printed functions come to.
-/
import Derived.Test.YtlfhmecdgfennaaPTreeO
set_option linter.unusedVariables false
set_option linter.unusedSimpArgs false
namespace Go.Proofs.Ytlfhmecdgfennaa
open Go.Gx

theorem app8 {α : Type} {l : List α} (h : l.length ≤ 1000) : (((fits (0 : Nat) (List.length l) l) && (decide ((((List.length l) + (1 : Nat)) * (8 : Nat)) ≤ (70368744177664 : Nat)))) && true) = true := by
  rw [fits_of (by omega), decide_eq_true (by omega)]; rfl
theorem app8n {α : Type} {l : List α} {z : Nat} (h : l.length ≤ 1000) (hz : z ≤ 1000) : (((fits (0 : Nat) (List.length l) l) && (decide ((((List.length l) + z) * (8 : Nat)) ≤ (70368744177664 : Nat)))) && true) = true := by
  rw [fits_of (by omega), decide_eq_true (by omega)]; rfl

def filesI : Nat → List EN → List Int
  | _, [] => []
  | i, x :: r => if x.2.1 = true then filesI (i + 1) r else (i : Int) :: filesI (i + 1) r
def capsL : List EN → List Int
  | [] => []
  | x :: r => if x.2.1 = true then capsL r else x.2.2 :: capsL r
theorem files_len : ∀ (i : Nat) (L : List EN), (filesI i L).length = (capsL L).length
  | _, [] => rfl
  | i, x :: r => by
    unfold filesI capsL
    by_cases h : x.2.1 = true
    · rw [if_pos h, if_pos h]; exact files_len (i + 1) r
    · rw [if_neg h, if_neg h, List.length_cons, List.length_cons, files_len (i + 1) r]
theorem caps_len : ∀ (L : List EN), (capsL L).length ≤ L.length
  | [] => Nat.le_refl _
  | x :: r => by
    unfold capsL
    have := caps_len r
    by_cases h : x.2.1 = true
    · rw [if_pos h, List.length_cons]; omega
    · rw [if_neg h, List.length_cons, List.length_cons]; omega
theorem files_lt : ∀ (L : List EN) (i : Nat) (z : Int), z ∈ filesI i L → ∃ j : Nat, z = (j : Int) ∧ i ≤ j ∧ j < i + L.length
  | [], i, z, h => nomatch h
  | x :: r, i, z, h => by
    unfold filesI at h
    have := files_lt r (i + 1) z
    by_cases hx : x.2.1 = true
    · rw [if_pos hx] at h
      obtain ⟨j, a, b, c⟩ := this h
      exact ⟨j, a, by omega, by simp; omega⟩
    · rw [if_neg hx] at h
      rcases List.mem_cons.1 h with h | h
      · exact ⟨i, h, Nat.le_refl _, by simp⟩
      · obtain ⟨j, a, b, c⟩ := this h
        exact ⟨j, a, by omega, by simp; omega⟩
theorem files_caps : ∀ (r A : List EN), (filesI A.length r).map (fun z => ((A ++ r).getD z.toNat (bs [], false, 0)).2.2) = capsL r
  | [], A => rfl
  | x :: r, A => by
    unfold filesI capsL
    have := files_caps r (A ++ [x])
    rw [List.append_assoc, List.length_append] at this
    by_cases hx : x.2.1 = true
    · rw [if_pos hx, if_pos hx]; exact this
    · rw [if_neg hx, if_neg hx, List.map_cons]
      congr 1
      simp [List.getD]

/-! ### the files -/
theorem files_l0 {R : Type} (N : Nat) (k : List Int → Option R) (L : List EN) (hL : L.length ≤ 100) :
    ∀ (m i n : Nat), L.length - i = m → i ≤ L.length → m < n → ∀ A : List Int, A.length ≤ i → Z22_l0 N k n L (L.length : Int) (i : Int) A = k (A ++ filesI i (L.drop i)) := by
  intro m
  induction m with
  | zero =>
    intro i n hm hi hn A hA
    obtain ⟨n, rfl⟩ : ∃ n', n = n' + 1 := ⟨n - 1, by omega⟩
    have : i = L.length := by omega
    subst this
    simp only [Z22_l0, Z22_l0_T0, br_dec, List.drop_length, filesI, List.append_nil]
    rw [if_neg (by omega)]
  | succ m ih =>
    intro i n hm hi hn A hA
    obtain ⟨n, rfl⟩ : ∃ n', n = n' + 1 := ⟨n - 1, by omega⟩
    have hlt : i < L.length := by omega
    have hg0 : L.getD i (bs [], false, 0) = L[i] := by simp [List.getD, hlt]
    simp only [Z22_l0, Z22_l0_T0, Int.toNat_natCast, hg0]
    rw [br_of (decide_eq_true (by omega)), br_of (inB_of (by omega)), br_of (app8 (by omega)), w64_succ (by omega), sub_all, List.drop_eq_getElem_cons hlt]
    unfold filesI
    cases L[i].2.1 with
    | true => exact ih (i + 1) n (by omega) (by omega) (by omega) A (by omega)
    | false =>
      refine (ih (i + 1) n (by omega) (by omega) (by omega) (A ++ [(i : Int)]) (by simp; omega)).trans ?_
      rw [List.append_assoc]
      rfl

theorem Files_eq {R : Type} (N : Nat) (hN : 100 < N) (L : List EN) (hL : L.length ≤ 100) (S : List Int) (a b c : Int) (k : List Int → Option R) : Z22 N L S a b c k = k (filesI 0 L) := by
  unfold Z22 Z22_T
  exact (files_l0 N _ L hL L.length 0 N (by omega) (by omega) (by omega) [] (by simp)).trans rfl

/-! ### the caps -/
theorem caps_l0 {R : Type} (N : Nat) (L : List EN) (hL : L.length ≤ 100) (S : List Int) (a b c : Int) (k : List EN → List Int → Int → Int → Int → List Int → Option R) (F : List Int) (hF : ∀ z ∈ F, ∃ j : Nat, z = (j : Int) ∧ j < L.length) (hF2 : F.length ≤ 100) :
    ∀ (m i n : Nat), F.length - i = m → i ≤ F.length → m < n → ∀ A : List Int, A.length ≤ i → Z20_l0 N k n (F.length : Int) (i : Int) L S a b c A F = k L S a b c (A ++ (F.drop i).map fun z => (L.getD z.toNat (bs [], false, 0)).2.2) := by
  intro m
  induction m with
  | zero =>
    intro i n hm hi hn A hA
    obtain ⟨n, rfl⟩ : ∃ n', n = n' + 1 := ⟨n - 1, by omega⟩
    have : i = F.length := by omega
    subst this
    simp only [Z20_l0, Z20_l0_T0, br_dec, List.drop_length, List.map_nil, List.append_nil]
    rw [if_neg (by omega)]
  | succ m ih =>
    intro i n hm hi hn A hA
    obtain ⟨n, rfl⟩ : ∃ n', n = n' + 1 := ⟨n - 1, by omega⟩
    have hlt : i < F.length := by omega
    have hg0 : F.getD i 0 = F[i] := by simp [List.getD, hlt]
    obtain ⟨j, hj, hjl⟩ := hF F[i] (List.getElem_mem hlt)
    simp only [Z20_l0, Z20_l0_T0, Int.toNat_natCast, hg0]
    rw [br_of (decide_eq_true (by omega)), br_of (inB_of (by omega)), br_of (decide_eq_true hlt), br_of (inB_of (by omega)), br_of (app8 (by omega)), w64_succ (by omega), sub_all, List.drop_eq_getElem_cons hlt]
    refine (ih (i + 1) n (by omega) (by omega) (by omega) _ (by simp; omega)).trans ?_
    rw [List.append_assoc]
    rfl

theorem Caps_eq {R : Type} (N : Nat) (hN : 200 < N) (L : List EN) (hL : L.length ≤ 100) (S : List Int) (hS : S.length ≤ 100) (a b c : Int) (k : List Int → Option R) : Z20 N L S a b c k = k (capsL L ++ S) := by
  unfold Z20 Z20_T
  rw [Files_eq N (by omega) L hL]
  have hlen := files_len 0 L
  have hlen2 := caps_len L
  refine (caps_l0 N L hL S a b c _ (filesI 0 L) (fun z hz => ?_) (by omega) (filesI 0 L).length 0 N (by omega) (by omega) (by omega) [] (by simp)).trans ?_
  · obtain ⟨j, h1, _, h2⟩ := files_lt L 0 z hz
    exact ⟨j, h1, by omega⟩
  · have hfc := files_caps L []
    simp only [List.nil_append, List.length_nil] at hfc
    rw [List.nil_append, List.drop_zero, hfc, sub_all, br_of (app8n (by omega) (by omega))]

theorem refCaps_l0 {R : Type} (N : Nat) (L : List EN) (hL : L.length ≤ 100) (S : List Int) (a b c : Int) (k : List EN → List Int → Int → Int → Int → List Int → Option R) :
    ∀ (m i n : Nat), L.length - i = m → i ≤ L.length → m < n → ∀ A : List Int, A.length ≤ i → Z43_l0 N k n (i : Int) L S a b c A = k L S a b c (A ++ capsL (L.drop i)) := by
  intro m
  induction m with
  | zero =>
    intro i n hm hi hn A hA
    obtain ⟨n, rfl⟩ : ∃ n', n = n' + 1 := ⟨n - 1, by omega⟩
    have : i = L.length := by omega
    subst this
    simp only [Z43_l0, Z43_l0_T0, br_dec, List.drop_length, capsL, List.append_nil]
    rw [if_neg (by omega)]
  | succ m ih =>
    intro i n hm hi hn A hA
    obtain ⟨n, rfl⟩ : ∃ n', n = n' + 1 := ⟨n - 1, by omega⟩
    have hlt : i < L.length := by omega
    have hg0 : L.getD i (bs [], false, 0) = L[i] := by simp [List.getD, hlt]
    simp only [Z43_l0, Z43_l0_T0, Int.toNat_natCast, hg0]
    rw [br_of (decide_eq_true (by omega)), br_of (inB_of (by omega)), br_of (inB_of (by omega)), br_of (app8 (by omega)), w64_succ (by omega), sub_all, List.drop_eq_getElem_cons hlt]
    unfold capsL
    cases L[i].2.1 with
    | true => exact ih (i + 1) n (by omega) (by omega) (by omega) A (by omega)
    | false =>
      refine (ih (i + 1) n (by omega) (by omega) (by omega) _ (by simp; omega)).trans ?_
      rw [List.append_assoc]
      rfl

theorem refCaps_eq {R : Type} (N : Nat) (hN : 200 < N) (L : List EN) (hL : L.length ≤ 100) (S : List Int) (hS : S.length ≤ 100) (a b c : Int) (k : List Int → Option R) : Z43 N L S a b c k = k (capsL L ++ S) := by
  unfold Z43 Z43_T
  have hlen2 := caps_len L
  refine (refCaps_l0 N L hL S a b c _ L.length 0 N (by omega) (by omega) (by omega) [] (by simp)).trans ?_
  rw [List.nil_append, List.drop_zero, sub_all, br_of (app8n (by omega) (by omega))]

/-! ### may it be -/
def fitB (x m : Int) : Bool := decide (0 ≤ x) && decide (x ≤ m)
theorem fitB_iff {x m : Int} : fitB x m = true ↔ 0 ≤ x ∧ x ≤ m := by simp [fitB]
theorem fits_eq {R : Type} (N : Nat) (x m : Int) (k : Bool → Option R) : Z30 N x m k = k (fitB x m) := by
  unfold Z30 Z30_T fitB
  rw [br_push]
  cases decide (0 ≤ x) <;> rfl

def okE (x : EN) : Bool := fitB x.2.2 3 && (!x.2.1 || decide (x.2.2 = 0))
def mayB (L : List EN) (S : List Int) (a b c : Int) : Bool :=
  okT L && decide ((capsL L).length ≤ 4) && decide (S.length ≤ 2) && L.all okE && S.all (fitB · 3) && fitB a 6 && fitB b a && fitB c 400

theorem may_l0 {R : Type} (N : Nat) (k0 : Bool → List EN → List Int → Int → Int → Int → Option R) (k1 : List EN → List Int → Int → Int → Int → Option R) (L : List EN) (hL : L.length ≤ 100) (S : List Int) (a b c : Int) :
    ∀ (m i n : Nat), L.length - i = m → i ≤ L.length → m < n → Z28_l0 N k0 k1 n L (L.length : Int) (i : Int) L S a b c = if (L.drop i).all okE = true then k1 L S a b c else k0 false L S a b c := by
  intro m
  induction m with
  | zero =>
    intro i n hm hi hn
    obtain ⟨n, rfl⟩ : ∃ n', n = n' + 1 := ⟨n - 1, by omega⟩
    have : i = L.length := by omega
    subst this
    simp only [Z28_l0, Z28_l0_T0, br_dec, List.drop_length, List.all_nil, if_true]
    rw [if_neg (by omega)]
  | succ m ih =>
    intro i n hm hi hn
    obtain ⟨n, rfl⟩ : ∃ n', n = n' + 1 := ⟨n - 1, by omega⟩
    have hlt : i < L.length := by omega
    have hg0 : L.getD i (bs [], false, 0) = L[i] := by simp [List.getD, hlt]
    simp only [Z28_l0, Z28_l0_T0, Int.toNat_natCast, hg0, fits_eq]
    rw [br_of (decide_eq_true (by omega)), br_of (inB_of (by omega)), w64_succ (by omega), ih (i + 1) n (by omega) (by omega) (by omega), List.drop_eq_getElem_cons hlt, List.all_cons]
    have : okE L[i] = (fitB L[i].2.2 3 && (!L[i].2.1 || decide (L[i].2.2 = 0))) := rfl
    rw [this, Bool.not_not]
    cases fitB L[i].2.2 3 with
    | false => rfl
    | true =>
      cases L[i].2.1 with
      | false => rfl
      | true =>
        cases decide (L[i].2.2 = 0) <;> rfl

theorem may_l1 {R : Type} (N : Nat) (k0 : Bool → List EN → List Int → Int → Int → Int → Option R) (k1 : List EN → List Int → Int → Int → Int → Option R) (L : List EN) (S : List Int) (hS : S.length ≤ 100) (a b c : Int) :
    ∀ (m i n : Nat), S.length - i = m → i ≤ S.length → m < n → Z28_l1 N k0 k1 n S (S.length : Int) (i : Int) L S a b c = if (S.drop i).all (fitB · 3) = true then k1 L S a b c else k0 false L S a b c := by
  intro m
  induction m with
  | zero =>
    intro i n hm hi hn
    obtain ⟨n, rfl⟩ : ∃ n', n = n' + 1 := ⟨n - 1, by omega⟩
    have : i = S.length := by omega
    subst this
    simp only [Z28_l1, Z28_l1_T0, br_dec, List.drop_length, List.all_nil, if_true]
    rw [if_neg (by omega)]
  | succ m ih =>
    intro i n hm hi hn
    obtain ⟨n, rfl⟩ : ∃ n', n = n' + 1 := ⟨n - 1, by omega⟩
    have hlt : i < S.length := by omega
    have hg0 : S.getD i 0 = S[i] := by simp [List.getD, hlt]
    simp only [Z28_l1, Z28_l1_T0, Int.toNat_natCast, hg0, fits_eq]
    rw [br_of (decide_eq_true (by omega)), br_of (inB_of (by omega)), w64_succ (by omega), ih (i + 1) n (by omega) (by omega) (by omega), List.drop_eq_getElem_cons hlt, List.all_cons]
    cases fitB S[i] 3 <;> rfl

theorem okT_len {L : List EN} (h : okT L = true) : L.length ≤ 8 := by
  unfold okT at h
  simp only [Bool.and_eq_true, decide_eq_true_eq] at h
  exact h.1

theorem May_eq17 {R : Type} (N : Nat) (hN : 200 < N) (L : List EN) (S : List Int) (a b c : Int) (k : Bool → Option R) : Z28 N L S a b c k = k (mayB L S a b c) := by
  unfold Z28 Z28_T
  refine (new_eq N (by omega) L _ _ _ _ rfl (fun _ _ => rfl)).trans ?_
  by_cases h : okT L = true
  · have hL := okT_len h
    rw [if_pos h]
    show Z22 N L S a b c _ = _
    rw [Files_eq N (by omega) L (by omega), files_len]
    unfold mayB
    rw [h, Bool.true_and]
    by_cases h1 : (capsL L).length ≤ 4
    · rw [br_ndec, if_neg (by omega), decide_eq_true h1, Bool.true_and]
      by_cases h2 : S.length ≤ 2
      · rw [br_dec, if_neg (by omega), decide_eq_true h2, Bool.true_and]
        refine (may_l0 N _ _ L (by omega) S a b c L.length 0 N (by omega) (by omega) (by omega)).trans ?_
        rw [List.drop_zero]
        cases L.all okE with
        | false => rfl
        | true =>
          rw [if_pos rfl]
          refine (may_l1 N _ _ L S (by omega) a b c S.length 0 N (by omega) (by omega) (by omega)).trans ?_
          rw [List.drop_zero]
          cases S.all (fitB · 3) with
          | false => rfl
          | true =>
            simp only [fits_eq]
            cases fitB a 6 <;> cases fitB b a <;> rfl
      · rw [br_dec, if_pos (by omega), decide_eq_false h2]
        rfl
    · rw [br_ndec, if_pos (by omega), decide_eq_false h1]
      rfl
  · have h' : okT L = false := by simpa using h
    rw [if_neg h]
    unfold mayB
    rw [h']
    rfl

/-! ### the document's own -/
theorem refMay_l0 {R : Type} (N : Nat) (k0 : Bool → List EN → List Int → Int → Int → Int → Option R) (k1 : List EN → List Int → Int → Int → Int → Option R) (L : List EN) (hL : L.length ≤ 100) (S : List Int) (a b c : Int) :
    ∀ (m i n : Nat), L.length - i = m → i ≤ L.length → m < n → Z45_l0 N k0 k1 n (i : Int) L S a b c = if (L.drop i).all (fun x => !x.2.1 || decide (x.2.2 = 0)) = true then k1 L S a b c else k0 false L S a b c := by
  intro m
  induction m with
  | zero =>
    intro i n hm hi hn
    obtain ⟨n, rfl⟩ : ∃ n', n = n' + 1 := ⟨n - 1, by omega⟩
    have : i = L.length := by omega
    subst this
    simp only [Z45_l0, Z45_l0_T0, br_dec, List.drop_length, List.all_nil, if_true]
    rw [if_neg (by omega)]
  | succ m ih =>
    intro i n hm hi hn
    obtain ⟨n, rfl⟩ : ∃ n', n = n' + 1 := ⟨n - 1, by omega⟩
    have hlt : i < L.length := by omega
    have hg0 : L.getD i (bs [], false, 0) = L[i] := by simp [List.getD, hlt]
    simp only [Z45_l0, Z45_l0_T0, Int.toNat_natCast, hg0]
    rw [br_of (decide_eq_true (by omega)), br_of (inB_of (by omega)), w64_succ (by omega), ih (i + 1) n (by omega) (by omega) (by omega), List.drop_eq_getElem_cons hlt, List.all_cons]
    cases L[i].2.1 with
    | false => rfl
    | true => 
      rw [br_true, br_of (inB_of (by omega))]
      cases decide (L[i].2.2 = 0) <;> rfl

theorem refMay_l1 {R : Type} (N : Nat) (k0 : Bool → Option R) (k1 : Option R) (S : List Int) (hS : S.length ≤ 1000) :
    ∀ (m i n : Nat), S.length - i = m → i ≤ S.length → m < n → Z45_l1 N k0 k1 n (i : Int) S = if (S.drop i).all (fitB · 3) = true then k1 else k0 false := by
  intro m
  induction m with
  | zero =>
    intro i n hm hi hn
    obtain ⟨n, rfl⟩ : ∃ n', n = n' + 1 := ⟨n - 1, by omega⟩
    have : i = S.length := by omega
    subst this
    simp only [Z45_l1, Z45_l1_T0, br_dec, List.drop_length, List.all_nil, if_true]
    rw [if_neg (by omega)]
  | succ m ih =>
    intro i n hm hi hn
    obtain ⟨n, rfl⟩ : ∃ n', n = n' + 1 := ⟨n - 1, by omega⟩
    have hlt : i < S.length := by omega
    have hg0 : S.getD i 0 = S[i] := by simp [List.getD, hlt]
    simp only [Z45_l1, Z45_l1_T0, Int.toNat_natCast, hg0]
    rw [br_of (decide_eq_true (by omega)), br_of (inB_of (by omega)), br_of (decide_eq_true hlt), br_of (inB_of (by omega)), br_of (decide_eq_true hlt), w64_succ (by omega), ih (i + 1) n (by omega) (by omega) (by omega), List.drop_eq_getElem_cons hlt, List.all_cons, br_ndec, br_dec]
    unfold fitB
    by_cases h1 : S[i] < 0
    · rw [if_pos h1, decide_eq_false (by omega)]; rfl
    · rw [if_neg h1, decide_eq_true (p := 0 ≤ S[i]) (by omega), Bool.true_and]
      by_cases h2 : 3 < S[i]
      · rw [if_pos h2, decide_eq_false (by omega)]; rfl
      · rw [if_neg h2, decide_eq_true (by omega)]; rfl

theorem capsL_all : ∀ (L : List EN), (L.all (fun x => !x.2.1 || decide (x.2.2 = 0)) && (capsL L).all (fitB · 3)) = L.all okE
  | [] => rfl
  | x :: r => by
    have ih := capsL_all r
    have e : capsL (x :: r) = if x.2.1 = true then capsL r else x.2.2 :: capsL r := rfl
    rw [List.all_cons, List.all_cons, ← ih, e]
    unfold okE
    cases h : x.2.1 with
    | true =>
      rw [if_pos rfl]
      by_cases h0 : x.2.2 = 0
      · simp [h0, fitB]
      · simp [h0]
    | false =>
      rw [if_neg (by decide), List.all_cons]
      cases fitB x.2.2 3 <;> simp

theorem refMay_eq17 {R : Type} (N : Nat) (hN : 300 < N) (L : List EN) (S : List Int) (hS : S.length ≤ 100) (a b c : Int) (k : Bool → Option R) : Z45 N L S a b c k = k (mayB L S a b c) := by
  unfold Z45 Z45_T
  refine (refNew_eq N (by omega) L _ _ _ _ rfl (fun _ _ => rfl)).trans ?_
  by_cases h : okT L = true
  · have hL := okT_len h
    rw [if_pos h]
    show Z47 N L S a b c _ = _
    unfold Z47 Z47_T
    have hcl := caps_len L
    rw [refCaps_eq N (by omega) L (by omega) S (by omega)]
    have hld : listDec (Sh.dec (.int .i64)) S S = true := listDec_int .i64 S
    have hw : IntKind.wrap .i64 (((capsL L ++ S).length : Int) - (S.length : Int)) = ((capsL L).length : Int) := by
      rw [List.length_append, w64 (by omega)]; omega
    rw [br_of hld, br_of (decide_eq_true rfl), hw]
    unfold mayB
    rw [h, Bool.true_and]
    dsimp only
    have q1 : decide ((4 : Int) < ((capsL L).length : Int)) = !decide ((capsL L).length ≤ 4) := by
      rw [← decide_not, decide_eq_decide]; omega
    have q2 : decide ((2 : Int) < (S.length : Int)) = !decide (S.length ≤ 2) := by
      rw [← decide_not, decide_eq_decide]; omega
    have q3 : decide ((6 : Int) < a) = !decide (a ≤ 6) := by rw [← decide_not, decide_eq_decide]; omega
    have q4 : decide (a < 0) = !decide (0 ≤ a) := by rw [← decide_not, decide_eq_decide]; omega
    have q5 : decide (b < 0) = !decide (0 ≤ b) := by rw [← decide_not, decide_eq_decide]; omega
    have q6 : decide (a < b) = !decide (b ≤ a) := by rw [← decide_not, decide_eq_decide]; omega
    have q7 : decide (c < 0) = !decide (0 ≤ c) := by rw [← decide_not, decide_eq_decide]; omega
    have q8 : decide (400 < c) = !decide (c ≤ 400) := by rw [← decide_not, decide_eq_decide]; omega
    rw [q1, q2, q3, q4, q5, q6, q7, q8]
    have hbody : ∀ (k2 : List EN → List Int → Int → Int → Int → Option R), (∀ l s x y z, k2 l s x y z = Z43 N l s x y z fun l392 => Z45_l1 N (fun b393 => k b393) (k true) N 0 l392) →
        Z45_l0 N (fun b381 l382 l383 i384 i385 i386 => k b381) k2 N 0 L S a b c = k (L.all okE && S.all (fitB · 3)) := by
      intro k2 hk2
      refine (refMay_l0 N _ _ L (by omega) S a b c L.length 0 N (by omega) (by omega) (by omega)).trans ?_
      rw [List.drop_zero, hk2, refCaps_eq N (by omega) L (by omega) S (by omega)]
      have := refMay_l1 N (fun b393 => k b393) (k true) (capsL L ++ S) (by rw [List.length_append]; omega) (capsL L ++ S).length 0 N (by omega) (by omega) (by rw [List.length_append]; omega)
      rw [List.drop_zero] at this
      have this : Z45_l1 N (fun b393 => k b393) (k true) N 0 (capsL L ++ S) = _ := this
      rw [this, List.all_append, ← capsL_all]
      cases L.all (fun x => !x.2.1 || decide (x.2.2 = 0)) <;> cases (capsL L).all (fitB · 3) <;> cases S.all (fitB · 3) <;> rfl
    rw [hbody _ (fun _ _ _ _ _ => rfl)]
    unfold fitB
    cases decide ((capsL L).length ≤ 4) <;> cases decide (S.length ≤ 2) <;> cases decide (0 ≤ a) <;> cases decide (a ≤ 6) <;> cases decide (0 ≤ b) <;> cases decide (b ≤ a) <;> cases decide (0 ≤ c) <;> cases decide (c ≤ 400) <;> simp
  · have h' : okT L = false := by simpa using h
    rw [if_neg h]
    unfold mayB
    rw [h']
    rfl

end Go.Proofs.Ytlfhmecdgfennaa
