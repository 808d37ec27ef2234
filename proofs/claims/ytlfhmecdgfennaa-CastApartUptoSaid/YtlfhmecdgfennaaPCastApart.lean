/-
  the law CastApart of chapter 18, as a printed function: it comes to true.
-/
import Derived.Test.YtlfhmecdgfennaaPCastNW
set_option linter.unusedVariables false
set_option linter.unusedSimpArgs false
namespace Go.Proofs.Ytlfhmecdgfennaa
open Go.Gx

theorem same_l0 {R : Type} (N : Nat) (A B : List Int) (hl : B.length = A.length) (h1000 : A.length ≤ 1000) (k0 : Bool → List Int → List Int → Option R) (k1 : List Int → List Int → Option R) :
    ∀ (m i n : Nat), A.length - i = m → i ≤ A.length → m < n → law18_same_894e_l0 N k0 k1 n (i : Int) A B = if A.drop i = B.drop i then k1 A B else k0 false A B := by
  intro m
  induction m with
  | zero =>
    intro i n hm hi hn
    obtain ⟨n, rfl⟩ : ∃ n', n = n' + 1 := ⟨n - 1, by omega⟩
    have : i = A.length := by omega
    subst this
    simp only [law18_same_894e_l0, law18_same_894e_l0_T0]
    rw [br_not (decide_eq_false (by omega)), if_pos (by rw [List.drop_length, ← hl, List.drop_length])]
  | succ m ih =>
    intro i n hm hi hn
    obtain ⟨n, rfl⟩ : ∃ n', n = n' + 1 := ⟨n - 1, by omega⟩
    have hlt : i < A.length := by omega
    have hltB : i < B.length := by omega
    simp only [law18_same_894e_l0, law18_same_894e_l0_T0, Int.toNat_natCast, getD_at hlt, getD_at hltB]
    rw [br_of (decide_eq_true (by omega)), br_of (inB_of (by omega)), br_of (decide_eq_true hlt), br_of (inB_of (by omega)), br_of (decide_eq_true hltB), w64_succ (by omega), ih (i + 1) n (by omega) (by omega) (by omega), List.drop_eq_getElem_cons hlt, List.drop_eq_getElem_cons hltB, br_ndec]
    by_cases h : A[i] = B[i]
    · rw [if_pos h, h]
      by_cases h2 : A.drop (i + 1) = B.drop (i + 1)
      · rw [if_pos h2, if_pos (by rw [h2])]
      · rw [if_neg h2, if_neg (by rw [List.cons.injEq]; exact fun e => h2 e.2)]
    · rw [if_neg h, if_neg (by rw [List.cons.injEq]; exact fun e => h e.1)]

theorem same_eq {R : Type} (N : Nat) (hN : 1000 < N) (A B : List Int) (h1000 : A.length ≤ 1000) (k : Bool → List Int → List Int → Option R) : law18_same_894e N A B k = k (decide (A = B)) A B := by
  unfold law18_same_894e law18_same_894e_T
  rw [br_ndec]
  by_cases h : A.length = B.length
  · rw [if_pos (by omega)]
    refine (same_l0 N A B h.symm h1000 _ _ A.length 0 N (by omega) (by omega) (by omega)).trans ?_
    rw [List.drop_zero, List.drop_zero]
    by_cases e : A = B
    · rw [if_pos e, decide_eq_true e]
    · rw [if_neg e, decide_eq_false e]
  · rw [if_neg (by omega), decide_eq_false (fun e => h (by rw [e]))]

/-! ### numbers tell inputs apart -/
theorem encT_inj {C : List Int} {T U : List (List Int)} (hf : Fit C) (hT : T.length = C.length) (hU : U.length = C.length) (bT : ∀ t ∈ T, Byt t) (bU : ∀ t ∈ U, Byt t) (fT : fitT C T = true) (fU : fitT C U = true) (h : encT C T = encT C U) : T = U := by
  have hC : ∀ c ∈ C, 0 ≤ c := fun c hc => (hf c hc).1
  have e : sl (encT C T) 0 (offN C) = encT C T := by
    rw [sl_take _ _ (Nat.le_of_eq (enc_len hT).symm), List.take_of_length_le (Nat.le_of_eq (enc_len hT))]
  have d1 := dec_enc (E := encT C T) C T 0 hT hC bT (fun i hi => fitT_at fT hT i hi) e
  have d2 := dec_enc (E := encT C T) C U 0 hU hC bU (fun i hi => fitT_at fU hU i hi) (e.trans h)
  rw [← d1, d2]
theorem encX_inj : ∀ {X Y : List Bool}, encX X = encX Y → X = Y
  | [], [], _ => rfl
  | [], _ :: _, h => by simp [encX] at h
  | _ :: _, [], h => by simp [encX] at h
  | x :: X, y :: Y, h => by
    have h : (if x = true then (1 : Int) else 0) :: encX X = (if y = true then (1 : Int) else 0) :: encX Y := h
    rw [List.cons.injEq] at h
    rw [encX_inj h.2]
    congr 1
    cases x <;> cases y <;> simp at h ⊢

theorem row_mem {a b n : Int} (hn : 0 ≤ n) : rowAt a b n ∈ rowsF a.toNat b ∧ (n % ((rowsF a.toNat b).length : Int)).toNat < (rowsF a.toNat b).length := by
  have hrl := rowsF_len a.toNat b
  have m0 := Int.emod_nonneg n (show ((rowsF a.toNat b).length : Int) ≠ 0 by omega)
  have m1 := Int.emod_lt_of_pos n (show 0 < ((rowsF a.toNat b).length : Int) by omega)
  have h : (n % ((rowsF a.toNat b).length : Int)).toNat < (rowsF a.toNat b).length := by omega
  refine ⟨?_, h⟩
  unfold rowAt
  rw [getD_at h]
  exact List.getElem_mem h

/-- of a class an input by its number: it is one -/
theorem nth_has {L : List EN} {S : List Int} {a b c n : Int} (H : mayB L S a b c = true) (hn : 0 ≤ n) :
    (rowAt a b n).length = a.toNat ∧ failB (rowAt a b n) a b = true ∧ (txtAt L S a b n).length = (capsL L ++ S).length ∧ (∀ t ∈ txtAt L S a b n, Byt t) ∧ fitT (capsL L ++ S) (txtAt L S a b n) = true := by
  obtain ⟨hf, hL8, hS2, hC6, ha0, ha6⟩ := may_fit H
  have hb := may_rows H
  obtain ⟨h1, h2⟩ := rowsF_mem a.toNat b hb.1 _ (row_mem (a := a) (b := b) hn).1
  obtain ⟨h3, h4⟩ := nthT_ok (capsL L ++ S) hf (n / ((rowsF a.toNat b).length : Int))
  refine ⟨h1, ?_, nthT_len _ _, h3, h4⟩
  unfold failB
  rw [decide_eq_true (by omega), decide_eq_true ha6, decide_eq_true h2]
  rfl

theorem nth_apart {L : List EN} {S : List Int} {a b c x y : Int} (H : mayB L S a b c = true) (hx : 0 ≤ x) (hy : 0 ≤ y) (hx1 : x < manyT L S a b) (hy1 : y < manyT L S a b)
    (h : envV (capsL L ++ S) (txtAt L S a b x) (rowAt a b x) = envV (capsL L ++ S) (txtAt L S a b y) (rowAt a b y)) : x = y := by
  obtain ⟨hf, hL8, hS2, hC6, ha0, ha6⟩ := may_fit H
  obtain ⟨a1, a2, a3, a4, a5⟩ := nth_has H hx
  obtain ⟨b1, b2, b3, b4, b5⟩ := nth_has H hy
  unfold envV at h
  obtain ⟨e1, e2⟩ := List.append_inj h (by rw [enc_len a3, enc_len b3])
  have e1 := encT_inj hf a3 b3 a4 b4 a5 b5 e1
  have e2 := encX_inj e2
  have hrl := rowsF_len a.toNat b
  have hpos : (0 : Int) < ((rowsF a.toNat b).length : Int) := by omega
  have q1 := nthT_inj (capsL L ++ S) _ _ (Int.ediv_nonneg hx (Int.le_of_lt hpos)) (Int.ediv_nonneg hy (Int.le_of_lt hpos)) (Int.ediv_lt_of_lt_mul hpos (by rw [Int.mul_comm]; exact hx1)) (Int.ediv_lt_of_lt_mul hpos (by rw [Int.mul_comm]; exact hy1)) e1
  have i1 := (row_mem (a := a) (b := b) hx).2
  have i2 := (row_mem (a := a) (b := b) hy).2
  have e3 : (rowsF a.toNat b)[(x % ((rowsF a.toNat b).length : Int)).toNat] = (rowsF a.toNat b)[(y % ((rowsF a.toNat b).length : Int)).toNat] := by
    unfold rowAt at e2
    rw [getD_at i1, getD_at i2] at e2
    exact e2
  have q2 := (List.getElem_inj (rowsF_nodup a.toNat b)).1 e3
  have m0 := Int.emod_nonneg x (show ((rowsF a.toNat b).length : Int) ≠ 0 by omega)
  have m1 := Int.emod_nonneg y (show ((rowsF a.toNat b).length : Int) ≠ 0 by omega)
  have q3 : x % ((rowsF a.toNat b).length : Int) = y % ((rowsF a.toNat b).length : Int) := by omega
  rw [← Int.mul_ediv_add_emod x ((rowsF a.toNat b).length : Int), ← Int.mul_ediv_add_emod y ((rowsF a.toNat b).length : Int), q1, q3]

theorem castApart_N {R : Type} (N : Nat) (hN0 : 1000 < N) (hA : ∀ (k : Bool → Option R), law18_awake N k = k true) (L : List EN) (S : List Int) (a b c x y : Int) (hl : L.length ≤ 10000000) (hN : L.length < N) (hS : S.length ≤ 10000000) (hx : 0 ≤ x ∧ x ≤ 65535) (hy : 0 ≤ y ∧ y ≤ 65535) (k : Bool → Option R) :
    law18_CastApart N L S a b c x y k = k true := by
  unfold law18_CastApart law18_CastApart_T
  obtain ⟨w, hw, hsm⟩ := small_ex N L S a b c (by omega) hN
  obtain ⟨o1, h1, e1⟩ := Nth_eq N (by omega) L S hS a b c x hx
  obtain ⟨o2, h2, e2⟩ := Nth_eq N (by omega) L S hS a b c y hy
  simp only [hA, w64 (show -9223372036854775808 ≤ x ∧ x ≤ 9223372036854775807 by omega), w64 (show -9223372036854775808 ≤ y ∧ y ≤ 9223372036854775807 by omega), e1, e2, hsm]
  cases w with
  | false => cases o1 <;> cases o2 <;> rfl
  | true =>
    cases o1 with
    | false => cases o2 <;> rfl
    | true =>
      cases o2 with
      | false => rfl
      | true =>
        obtain ⟨H, hx1⟩ := h1 rfl
        obtain ⟨_, hy1⟩ := h2 rfl
        obtain ⟨hf, hL8, hS2, hC6, ha0, ha6⟩ := may_fit H
        obtain ⟨a1, a2, a3, a4, a5⟩ := nth_has H hx.1
        obtain ⟨b1, b2, b3, b4, b5⟩ := nth_has H hy.1
        have hle := enc_le a3 hf
        have hX : (rowAt a b x).length ≤ 60 := by omega
        have hY : (rowAt a b y).length ≤ 60 := by omega
        simp only [if_true, Bool.not_true, Bool.not_false, br_true, br_false]
        rw [EnvF_eq N (by omega) L S a b c (by omega) (by omega) H _ a4 a3 _ _ hX, a2, a5, if_pos (show (true && true) = true from rfl), EnvF_eq N (by omega) L S a b c (by omega) (by omega) H _ b4 b3 _ _ hY, b2, b5, if_pos (show (true && true) = true from rfl),
          br_of (decide_eq_true rfl), br_of (decide_eq_true rfl), same_eq N (by omega) _ _ (by unfold envV; rw [List.length_append]; unfold encX; rw [List.length_map]; omega)]
        congr 1
        by_cases e : x = y
        · subst e
          rw [decide_eq_true rfl, decide_eq_true rfl]; rfl
        · rw [decide_eq_false e, decide_eq_false (fun h => e (nth_apart H hx.1 hy.1 hx1 hy1 h))]; rfl

theorem castApart_true {R : Type} (n : Nat) (L : List EN) (S : List Int) (a b c x y : Int) (hl : L.length ≤ 10000000) (hN : L.length < n + 3000) (hS : S.length ≤ 10000000) (hx : 0 ≤ x ∧ x ≤ 65535) (hy : 0 ≤ y ∧ y ≤ 65535) (k : Bool → Option R) :
    law18_CastApart (n + 3000) L S a b c x y k = k true :=
  castApart_N (n + 3000) (by omega) (fun k => awake18 n k) L S a b c x y hl hN hS hx hy k

end Go.Proofs.Ytlfhmecdgfennaa
