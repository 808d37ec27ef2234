/-
  numbers as an input: the document's own (chapter 18).
-/
import Derived.Test.YtlfhmecdgfennaaPCastI
set_option linter.unusedVariables false
set_option linter.unusedSimpArgs false
namespace Go.Proofs.Ytlfhmecdgfennaa
open Go.Gx

theorem rinp_l0 {R : Type} (N : Nat) (E : List Int) (L : List EN) (S : List Int) (a b c : Int) (x8 x9 : List (List Int)) (x10 : List Bool) (C : List Int) (hC : Fit C) (hl : C.length ≤ 1000)
    (k : List Int → Int → List EN → List Int → Int → Int → Int → List (List Int) → List (List Int) → List Bool → List Int → Option R) :
    ∀ (m i n : Nat), C.length - i = m → i ≤ C.length → m < n → ∀ s : Int, 0 ≤ s → s ≤ 100000 + 4 * (i : Int) → r_Input_l0 N k n E s (i : Int) L S a b c x8 x9 x10 C = k E (s + offs (C.drop i)) L S a b c x8 x9 x10 C := by
  intro m
  induction m with
  | zero =>
    intro i n hm hi hn s hs0 hs1
    obtain ⟨n, rfl⟩ : ∃ n', n = n' + 1 := ⟨n - 1, by omega⟩
    have : i = C.length := by omega
    subst this
    simp only [r_Input_l0, r_Input_l0_T0, List.drop_length, offs, Int.add_zero]
    rw [br_not (decide_eq_false (by omega))]
  | succ m ih =>
    intro i n hm hi hn s hs0 hs1
    obtain ⟨n, rfl⟩ : ∃ n', n = n' + 1 := ⟨n - 1, by omega⟩
    have hlt : i < C.length := by omega
    have hb := hC C[i] (List.getElem_mem hlt)
    have hw : IntKind.wrap .i64 (IntKind.wrap .i64 (s + 1) + C[i]) = s + (1 + C[i]) := by
      rw [w64 (x := s + 1) (by omega), w64 (by omega)]; omega
    simp only [r_Input_l0, r_Input_l0_T0, Int.toNat_natCast, getD_at hlt]
    rw [br_of (decide_eq_true (by omega)), br_of (inB_of (by omega)), br_of (decide_eq_true hlt), w64_succ (by omega), hw, ih (i + 1) n (by omega) (by omega) (by omega) _ (by omega) (by omega), List.drop_eq_getElem_cons hlt, offs_cons, Int.add_assoc]

/-- one byte may be -/
def byB (E : List Int) (d : Nat) (j : Nat) : Bool := decide (E.getD (d + 1 + j) 0 ≤ 255) && (decide ((j : Int) < E.getD d 0) || decide (E.getD (d + 1 + j) 0 = 0))

theorem rinp_l2 {R : Type} (N : Nat) (E : List Int) (d i0 : Nat) (L : List EN) (S : List Int) (a b c : Int) (x10 x11 : List (List Int)) (x12 : List Bool) (C : List Int) (hi0 : i0 < C.length) (h3 : 0 ≤ C[i0] ∧ C[i0] ≤ 3) (hE : d + 1 + (C[i0]).toNat ≤ E.length) (h300 : E.length ≤ 400) (hs : 0 ≤ E.getD d 0 ∧ E.getD d 0 ≤ C[i0])
    (x14 x15 : List (List Int)) (x16 : List Bool)
    (k0 : List Int → Int → Int → Int → List EN → List Int → Int → Int → Int → List (List Int) → List (List Int) → List Bool → List Int → List (List Int) → List (List Int) → List Bool → List Int → Option R)
    (k1 : List Int → Int → Int → List EN → List Int → Int → Int → Int → List (List Int) → List (List Int) → List Bool → List Int → List (List Int) → List (List Int) → List Bool → List Int → Option R)
    (KF : Option R) (hk0 : ∀ B, k0 E 12 (d : Int) (i0 : Int) L S a b c [] [] [] C x14 x15 x16 B = KF) :
    ∀ (m i n : Nat), (C[i0]).toNat - i = m → i ≤ (C[i0]).toNat → m < n → r_Input_l2 N k0 k1 n E (d : Int) (i0 : Int) (E.getD d 0) (i : Int) L S a b c x10 x11 x12 C x14 x15 x16 (decB E d (min i (E.getD d 0).toNat)) =
      if ((List.range' i ((C[i0]).toNat - i)).all (byB E d)) = true then k1 E (d : Int) (i0 : Int) L S a b c x10 x11 x12 C x14 x15 x16 (decB E d (E.getD d 0).toNat) else KF := by
  intro m
  induction m with
  | zero =>
    intro i n hm hi hn
    obtain ⟨n, rfl⟩ : ∃ n', n = n' + 1 := ⟨n - 1, by omega⟩
    have : i = (C[i0]).toNat := by omega
    simp only [r_Input_l2, r_Input_l2_T0, Int.toNat_natCast, getD_at hi0]
    rw [br_of (inB_of (by omega)), br_of (decide_eq_true hi0), br_not (decide_eq_false (by omega)), hm, show min i (E.getD d 0).toNat = (E.getD d 0).toNat by omega]
    rfl
  | succ m ih =>
    intro i n hm hi hn
    obtain ⟨n, rfl⟩ : ∃ n', n = n' + 1 := ⟨n - 1, by omega⟩
    have hw : IntKind.wrap .i64 (IntKind.wrap .i64 ((d : Int) + 1) + (i : Int)) = ((d + 1 + i : Nat) : Int) := by
      rw [w64 (x := (d : Int) + 1) (by omega), w64 (by omega)]; omega
    have hlen : (decB E d (min i (E.getD d 0).toNat)).length ≤ 1000 := by simp [decB]; omega
    have hih := ih (i + 1) n (by omega) (by omega) (by omega)
    have hr : List.range' i ((C[i0]).toNat - i) = i :: List.range' (i + 1) ((C[i0]).toNat - (i + 1)) := by
      rw [show (C[i0]).toNat - i = ((C[i0]).toNat - (i + 1)) + 1 by omega, List.range'_succ]
    rw [hr, List.all_cons]
    have hby : byB E d i = (decide (E.getD (d + 1 + i) 0 ≤ 255) && (decide ((i : Int) < E.getD d 0) || decide (E.getD (d + 1 + i) 0 = 0))) := rfl
    simp only [r_Input_l2, r_Input_l2_T0, hw, Int.toNat_natCast, getD_at hi0]
    rw [br_of (inB_of (by omega)), br_of (decide_eq_true hi0), br_of (decide_eq_true (by omega)), br_of (inB_of (by omega)), br_ndec, hby, w64_succ (by omega), sub_all, hk0]
    by_cases h255 : E.getD (d + 1 + i) 0 ≤ 255
    · rw [if_neg (by omega), decide_eq_true h255, Bool.true_and]
      by_cases hsz : (i : Int) < E.getD d 0
      · rw [br_not (b := decide (E.getD d 0 ≤ (i : Int))) (decide_eq_false (by omega)), br_of (decide_eq_true hsz), decide_eq_true hsz, Bool.true_or, Bool.true_and, br_of (app1 hlen)]
        rw [show min (i + 1) (E.getD d 0).toNat = min i (E.getD d 0).toNat + 1 by omega, decB_snoc] at hih
        rw [show d + 1 + min i (E.getD d 0).toNat = d + 1 + i by omega] at hih
        exact hih
      · rw [br_of (b := decide (E.getD d 0 ≤ (i : Int))) (decide_eq_true (by omega)), br_ndec, br_not (b := decide ((i : Int) < E.getD d 0)) (decide_eq_false hsz), decide_eq_false hsz, Bool.false_or]
        by_cases h0 : E.getD (d + 1 + i) 0 = 0
        · rw [if_pos h0, decide_eq_true h0, Bool.true_and]
          rw [show min (i + 1) (E.getD d 0).toNat = min i (E.getD d 0).toNat by omega] at hih
          exact hih
        · rw [if_neg h0, decide_eq_false h0]
          rfl
    · rw [if_pos (by omega), decide_eq_false h255]
      rfl

theorem okB_by (E : List Int) (d : Nat) (c : Int) : okB E d c = (decide (E.getD d 0 ≤ c) && (List.range' 0 (c.toNat - 0)).all (byB E d)) := by
  unfold okB
  rw [Nat.sub_zero, List.range_eq_range']
  rfl

theorem rinp_l1 {R : Type} (N : Nat) (hN : 1000 < N) (E : List Int) (hW : W16 E) (h300 : E.length ≤ 400) (L : List EN) (S : List Int) (a b c : Int) (H : mayB L S a b c = true) (hV : offN (capsL L ++ S) ≤ E.length) (X : List Bool)
    (k0 : List Int → Int → Int → List EN → List Int → Int → Int → Int → List (List Int) → List (List Int) → List Bool → List (List Int) → List (List Int) → List Bool → Option R)
    (k1 : List Int → Int → List EN → List Int → Int → Int → Int → List (List Int) → List (List Int) → List Bool → List (List Int) → List (List Int) → List Bool → Option R)
    (KF : Option R) (hk0 : ∀ d F A, k0 E 12 d L S a b c [] [] [] F A X = KF) :
    ∀ (m i n : Nat), (capsL L ++ S).length - i = m → i ≤ (capsL L ++ S).length → m < n → r_Input_l1 N k0 k1 n E (offN ((capsL L ++ S).take i) : Int) (i : Int) L S a b c [] [] [] (capsL L ++ S) ((decT E 0 ((capsL L ++ S).take i)).take (capsL L).length) ((decT E 0 ((capsL L ++ S).take i)).drop (capsL L).length) X =
      if okR E (offN ((capsL L ++ S).take i)) ((capsL L ++ S).drop i) = true then k1 E (offN (capsL L ++ S) : Int) L S a b c [] [] [] ((decT E 0 (capsL L ++ S)).take (capsL L).length) ((decT E 0 (capsL L ++ S)).drop (capsL L).length) X else KF := by
  obtain ⟨hf, hL8, hS2, hC6, ha0, ha6⟩ := may_fit H
  have hlenC : (capsL L ++ S).length = (capsL L).length + S.length := List.length_append
  intro m
  induction m with
  | zero =>
    intro i n hm hi hn
    obtain ⟨n, rfl⟩ : ∃ n', n = n' + 1 := ⟨n - 1, by omega⟩
    have : i = (capsL L ++ S).length := by omega
    subst this
    simp only [r_Input_l1, r_Input_l1_T0, List.take_length, List.drop_length]
    rw [br_not (decide_eq_false (by omega))]
    rfl
  | succ m ih =>
    intro i n hm hi hn
    obtain ⟨n, rfl⟩ : ∃ n', n = n' + 1 := ⟨n - 1, by omega⟩
    have hlt : i < (capsL L ++ S).length := by omega
    have hfi := hf (capsL L ++ S)[i] (List.getElem_mem hlt)
    have hnext := offN_take hlt
    have hle := offN_le (C := capsL L ++ S) (i + 1)
    have hEd := hW.at (offN ((capsL L ++ S).take i))
    have hih := ih (i + 1) n (by omega) (by omega) (by omega)
    rw [List.drop_eq_getElem_cons hlt]
    have hokR : okR E (offN ((capsL L ++ S).take i)) ((capsL L ++ S)[i] :: (capsL L ++ S).drop (i + 1)) = (okB E (offN ((capsL L ++ S).take i)) (capsL L ++ S)[i] && okR E (offN ((capsL L ++ S).take (i + 1))) ((capsL L ++ S).drop (i + 1))) := by
      rw [hnext, ← Nat.add_assoc]
      rfl
    have hDl : (decT E 0 ((capsL L ++ S).take i)).length = i := by rw [dec_len, List.length_take]; omega
    rw [hokR, okB_by]
    rw [List.take_succ_eq_append_getElem hlt, dec_snoc, Nat.zero_add, ← List.take_succ_eq_append_getElem hlt, hnext] at hih
    generalize hd : offN ((capsL L ++ S).take i) = d at hnext hEd hih ⊢
    generalize hDD : decT E 0 ((capsL L ++ S).take i) = DD at hDl hih ⊢
    simp only [r_Input_l1, r_Input_l1_T0, Int.toNat_natCast, getD_at hlt]
    rw [br_of (decide_eq_true (by omega)), br_of (inB_of (by omega)), br_of (inB_of (by omega)), br_of (decide_eq_true hlt), w64 (x := E.getD d 0) (by omega), br_dec]
    by_cases hsz : E.getD d 0 ≤ (capsL L ++ S)[i]
    · rw [if_neg (by omega), decide_eq_true hsz, Bool.true_and]
      have h2 := rinp_l2 (R := R) N E d i L S a b c [] [] [] (capsL L ++ S) hlt hfi (by omega) h300 ⟨hEd.1, hsz⟩ (DD.take (capsL L).length) (DD.drop (capsL L).length) X
        (fun l855 i856 i857 i858 l859 l860 i861 i862 i863 l864 l865 l866 l867 l868 l869 l870 l871 => k0 l855 i856 i857 l859 l860 i861 i862 i863 l864 l865 l866 l868 l869 l870)
        (fun l872 i873 i874 l875 l876 i877 i878 i879 l880 l881 l882 l883 l884 l885 l886 l887 => br (inB i874 (List.length l883))
        (br (decide ((Int.toNat i874) < (List.length l883)))
         (r_files N l875 l876 i877 i878 i879
          (fun i888 => br (decide (i874 < i888))
           (br (fits (0 : Nat) (List.length l887) l887)
            (br (fits (0 : Nat) (List.length l887) l887)
             (br (((fits (0 : Nat) (List.length l884) l884) && (decide ((((List.length l884) + (1 : Nat)) * (24 : Nat)) ≤ (70368744177664 : Nat)))) && true)
              (r_Input_l1 N k0 k1 n l872 (IntKind.wrap .i64 ((IntKind.wrap .i64 (i873 + (1 : Int))) + (List.getD l883 (Int.toNat i874) (0 : Int)))) (IntKind.wrap .i64 (i874 + (1 : Int))) l875 l876 i877 i878 i879 l880 l881 l882 l883 ((sub l884 (0 : Nat) (List.length l884)) ++ ((sub l887 (0 : Nat) (List.length l887)) :: ([] : List ((Sh.int IntKind.u8).isl.T)))) l885 l886)
              (none))
             (none))
            (none))
           (br (fits (0 : Nat) (List.length l887) l887)
            (br (fits (0 : Nat) (List.length l887) l887)
             (br (((fits (0 : Nat) (List.length l885) l885) && (decide ((((List.length l885) + (1 : Nat)) * (24 : Nat)) ≤ (70368744177664 : Nat)))) && true)
              (r_Input_l1 N k0 k1 n l872 (IntKind.wrap .i64 ((IntKind.wrap .i64 (i873 + (1 : Int))) + (List.getD l883 (Int.toNat i874) (0 : Int)))) (IntKind.wrap .i64 (i874 + (1 : Int))) l875 l876 i877 i878 i879 l880 l881 l882 l883 l884 ((sub l885 (0 : Nat) (List.length l885)) ++ ((sub l887 (0 : Nat) (List.length l887)) :: ([] : List ((Sh.int IntKind.u8).isl.T)))) l886)
              (none))
             (none))
            (none))))
         (none))
        (none)) KF (fun B => hk0 _ _ _) ((capsL L ++ S)[i]).toNat 0 N (by omega) (by omega) (by omega)
      rw [Nat.zero_min] at h2
      refine h2.trans ?_
      cases (List.range' 0 (((capsL L ++ S)[i]).toNat - 0)).all (byB E d) with
      | false => rfl
      | true =>
        rw [if_pos rfl, Bool.true_and]
        have hcl := caps_len L
        have hmin : (min (capsL L ++ S)[i] (E.getD d 0)).toNat = (E.getD d 0).toNat := by omega
        rw [hmin] at hih
        unfold r_files r_files_T
        rw [refCaps_eq N (by omega) L (by omega) S (by omega)]
        have hw : IntKind.wrap .i64 (((capsL L ++ S).length : Int) - (S.length : Int)) = ((capsL L).length : Int) := by
          rw [List.length_append, w64 (by omega)]; omega
        have hw2 : IntKind.wrap .i64 (IntKind.wrap .i64 ((d : Int) + 1) + (capsL L ++ S)[i]) = ((d + (1 + ((capsL L ++ S)[i]).toNat) : Nat) : Int) := by
          rw [w64 (x := (d : Int) + 1) (by omega), w64 (by omega)]; omega
        rw [br_of (inB_of (by omega)), br_of (decide_eq_true (by simpa using hlt)), br_of (listDec_int .i64 S), br_of (decide_eq_true rfl), hw]
        simp only [Int.toNat_natCast, getD_at hlt]
        rw [hw2, w64_succ (by omega), sub_all, sub_all, sub_all]
        have hDt : (DD.take (capsL L).length).length ≤ 1000 := by rw [List.length_take]; omega
        have hDd : (DD.drop (capsL L).length).length ≤ 1000 := by rw [List.length_drop]; omega
        by_cases hif : i < (capsL L).length
        · rw [br_of (decide_eq_true (by omega)), br_of (fits_of (by omega)), br_of (fits_of (by omega)), br_of (app24 hDt (by omega))]
          have e1 : (DD ++ [decB E d (E.getD d 0).toNat]).take (capsL L).length = DD.take (capsL L).length ++ [decB E d (E.getD d 0).toNat] := by
            rw [List.take_of_length_le (by simp; omega), List.take_of_length_le (by omega)]
          have e2 : (DD ++ [decB E d (E.getD d 0).toNat]).drop (capsL L).length = DD.drop (capsL L).length := by
            rw [List.drop_eq_nil_of_le (by simp; omega), List.drop_eq_nil_of_le (by omega)]
          rw [e1, e2] at hih
          rw [hnext]
          exact hih
        · rw [br_not (b := decide ((i : Int) < ((capsL L).length : Int))) (decide_eq_false (by omega)), br_of (fits_of (by omega)), br_of (fits_of (by omega)), br_of (app24 hDd (by omega))]
          have e1 : (DD ++ [decB E d (E.getD d 0).toNat]).take (capsL L).length = DD.take (capsL L).length := by
            rw [List.take_append_of_le_length (by omega)]
          have e2 : (DD ++ [decB E d (E.getD d 0).toNat]).drop (capsL L).length = DD.drop (capsL L).length ++ [decB E d (E.getD d 0).toNat] := by
            rw [List.drop_append_of_le_length (by omega)]
          rw [e1, e2] at hih
          rw [hnext]
          exact hih
    · rw [if_pos (by omega), decide_eq_false hsz, hk0]
      rfl

theorem rinp_l3 {R : Type} (N : Nat) (E : List Int) (o : Nat) (L : List EN) (S : List Int) (a b c : Int) (ha : 0 ≤ a ∧ a ≤ 6) (hE : o + a.toNat ≤ E.length) (h300 : E.length ≤ 400) (x11 x12 : List (List Int))
    (k0 : Int → List EN → List Int → Int → Int → Int → List (List Int) → List (List Int) → List Bool → List (List Int) → List (List Int) → List Bool → Option R)
    (k1 : List EN → List Int → Int → Int → Int → List (List Int) → List (List Int) → List Bool → List (List Int) → List (List Int) → List Bool → Option R)
    (KF : Option R) (hk0 : ∀ X, k0 12 L S a b c [] [] [] x11 x12 X = KF) :
    ∀ (m i n : Nat), a.toNat - i = m → i ≤ a.toNat → m < n → r_Input_l3 N k0 k1 n E (o : Int) (i : Int) L S a b c [] [] [] x11 x12 (decX E o i) =
      if ((List.range' i (a.toNat - i)).all fun j => decide (E.getD (o + j) 0 ≤ 1)) = true then k1 L S a b c [] [] [] x11 x12 (decX E o a.toNat) else KF := by
  intro m
  induction m with
  | zero =>
    intro i n hm hi hn
    obtain ⟨n, rfl⟩ : ∃ n', n = n' + 1 := ⟨n - 1, by omega⟩
    have : i = a.toNat := by omega
    simp only [r_Input_l3, r_Input_l3_T0]
    rw [br_not (decide_eq_false (by omega)), hm, this]
    rfl
  | succ m ih =>
    intro i n hm hi hn
    obtain ⟨n, rfl⟩ : ∃ n', n = n' + 1 := ⟨n - 1, by omega⟩
    have hlen : (decX E o i).length ≤ 1000 := by simp [decX]; omega
    have hih := ih (i + 1) n (by omega) (by omega) (by omega)
    have hs : decX E o (i + 1) = decX E o i ++ [decide (E.getD (o + i) 0 = 1)] := by
      unfold decX
      rw [List.range_succ, List.map_append, List.map_cons, List.map_nil]
    rw [hs] at hih
    have hw : IntKind.wrap .i64 ((o : Int) + (i : Int)) = ((o + i : Nat) : Int) := by rw [w64 (by omega)]; omega
    have hr : List.range' i (a.toNat - i) = i :: List.range' (i + 1) (a.toNat - (i + 1)) := by
      rw [show a.toNat - i = (a.toNat - (i + 1)) + 1 by omega, List.range'_succ]
    rw [hr, List.all_cons]
    simp only [r_Input_l3, r_Input_l3_T0, hw, Int.toNat_natCast]
    rw [br_of (decide_eq_true (by omega)), br_of (inB_of (by omega)), br_dec, br_of (app1 hlen), br_of (inB_of (by omega)), w64_succ (by omega), sub_all, hk0]
    by_cases h1 : E.getD (o + i) 0 ≤ 1
    · rw [if_neg (by omega), decide_eq_true h1, Bool.true_and]
      exact hih
    · rw [if_pos (by omega), decide_eq_false h1]
      rfl

theorem inpB_iff {L : List EN} {S : List Int} {a b c : Int} (H : mayB L S a b c = true) {E : List Int} (hW : W16 E) (hV : offN (capsL L ++ S) + a.toNat ≤ E.length) :
    inpB (capsL L ++ S) a b E = (okR E 0 (capsL L ++ S) && ((List.range' 0 (a.toNat - 0)).all fun j => decide (E.getD (offN (capsL L ++ S) + j) 0 ≤ 1)) && hasB L S a b c ((decT E 0 (capsL L ++ S)).take (capsL L).length) ((decT E 0 (capsL L ++ S)).drop (capsL L).length) (decX E (offN (capsL L ++ S)) a.toNat)) := by
  obtain ⟨hf, hL8, hS2, hC6, ha0, ha6⟩ := may_fit H
  have hlenC : (capsL L ++ S).length = (capsL L).length + S.length := List.length_append
  have hE : ∀ j, 0 ≤ E.getD j 0 := fun j => (hW.at j).1
  have hh : hasB L S a b c ((decT E 0 (capsL L ++ S)).take (capsL L).length) ((decT E 0 (capsL L ++ S)).drop (capsL L).length) (decX E (offN (capsL L ++ S)) a.toNat) = failB (decX E (offN (capsL L ++ S)) a.toNat) a b := by
    unfold hasB
    rw [H, List.take_append_drop, fitT_dec E hW _ _ (fun z hz => (hf z hz).1), decide_eq_true (by rw [List.length_take, dec_len]; omega), decide_eq_true (by rw [List.length_drop, dec_len]; omega)]
    simp
  rw [hh]
  unfold inpB envV
  rw [Bool.eq_iff_iff]
  simp only [Bool.and_eq_true, decide_eq_true_eq]
  rw [← sl_take E _ hV, sl_add, app_iff (by rw [enc_len (dec_len _ _ _), sl_len]), Nat.zero_add, enc_dec hE _ _ (fun z hz => (hf z hz).1), encX_decX hE, List.all_eq_true]
  constructor
  · rintro ⟨h1, h2, h3⟩
    refine ⟨⟨h2, fun j hj => decide_eq_true (h3 j ?_)⟩, h1⟩
    simp [List.mem_range'_1] at hj
    omega
  · rintro ⟨⟨h2, h3⟩, h1⟩
    exact ⟨h1, h2, fun j hj => of_decide_eq_true (h3 j (by simp [List.mem_range'_1]; omega))⟩

theorem refInput_eq {R : Type} (N : Nat) (hN : 1000 < N) (L : List EN) (S : List Int) (a b c : Int) (hL : L.length ≤ 60) (hS : S.length ≤ 60) (E : List Int) (hW : W16 E) (h300 : E.length ≤ 400) (k0 : Int → List (List Int) → List (List Int) → List Bool → Option R) :
    r_Input N L S a b c E k0 = if mayB L S a b c = true then (if (E.length : Int) < a + offs (capsL L ++ S) then k0 12 [] [] [] else if inpB (capsL L ++ S) a b E = true then
      k0 0 ((decT E 0 (capsL L ++ S)).take (capsL L).length) ((decT E 0 (capsL L ++ S)).drop (capsL L).length) (decX E (offN (capsL L ++ S)) a.toNat) else k0 12 [] [] []) else k0 11 [] [] [] := by
  unfold r_Input r_Input_T
  rw [refMay_eq17 N (by omega) L S (by omega), br_neg]
  cases hm : mayB L S a b c with
  | false => rfl
  | true =>
    obtain ⟨hf, hL8, hS2, hC6, ha0, ha6⟩ := may_fit hm
    have ho := offs_offN hf
    rw [br_true, if_pos rfl, refCaps_eq N (by omega) L (by omega) S (by omega)]
    refine (rinp_l0 N E L S a b c [] [] [] (capsL L ++ S) hf (by omega) _ (capsL L ++ S).length 0 N (by omega) (by omega) (by omega) a (by omega) (by omega)).trans ?_
    rw [List.drop_zero, br_dec]
    by_cases hlt : (E.length : Int) < a + offs (capsL L ++ S)
    · rw [if_pos hlt, if_pos hlt]
    · rw [if_neg hlt, if_neg hlt]
      rw [ho] at hlt
      have hV : offN (capsL L ++ S) + a.toNat ≤ E.length := by omega
      have h1 := rinp_l1 (R := R) N hN E hW h300 L S a b c hm (by omega) [] (fun _ e _ _ _ _ _ _ f g x _ _ _ => k0 e f g x)
        (fun l903 i904 l905 l906 i907 i908 i909 l910 l911 l912 l913 l914 l915 =>
          r_Input_l3 N (fun i916 l917 l918 i919 i920 i921 l922 l923 l924 l925 l926 l927 => k0 i916 l922 l923 l924)
            (fun l928 l929 i930 i931 i932 l933 l934 l935 l936 l937 l938 =>
              r_Has_fd41 N l928 l929 i930 i931 i932 l936 l937 l938 fun b985 l986 l987 l988 =>
                br (!b985) (k0 12 [] [] []) (k0 0 l986 l987 l988))
            N l903 i904 0 l905 l906 i907 i908 i909 l910 l911 l912 l913 l914 l915)
        (k0 12 [] [] []) (fun _ _ _ => rfl) (capsL L ++ S).length 0 N (by omega) (by omega) (by omega)
      have hz : decT E 0 ((capsL L ++ S).take 0) = [] := by rw [List.take_zero]; rfl
      rw [hz, List.take_nil, List.drop_nil] at h1
      refine h1.trans ?_
      rw [List.drop_zero, inpB_iff hm hW hV, show offN ((capsL L ++ S).take 0) = 0 from rfl]
      cases okR E 0 (capsL L ++ S) with
      | false => rfl
      | true =>
        rw [if_pos rfl, Bool.true_and]
        refine (rinp_l3 N E (offN (capsL L ++ S)) L S a b c ⟨ha0, ha6⟩ hV h300 _ _ (fun e _ _ _ _ _ f g x _ _ _ => k0 e f g x) _ (k0 12 [] [] []) (fun _ => rfl) a.toNat 0 N (by omega) (by omega) (by omega)).trans ?_
        cases (List.range' 0 (a.toNat - 0)).all fun j => decide (E.getD (offN (capsL L ++ S) + j) 0 ≤ 1) with
        | false => rfl
        | true =>
          rw [if_pos rfl, Bool.true_and, rHasF_eq N hN L S a b c hL hS _ _ _ (by simp [decX]; omega)]
          cases hasB L S a b c ((decT E 0 (capsL L ++ S)).take (capsL L).length) ((decT E 0 (capsL L ++ S)).drop (capsL L).length) (decX E (offN (capsL L ++ S)) a.toNat) <;> rfl

end Go.Proofs.Ytlfhmecdgfennaa
