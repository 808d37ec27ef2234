/-
  numbers of one's own as an input (chapter 18): what the printed functions come to.
-/
import Derived.Test.YtlfhmecdgfennaaPCastG
set_option linter.unusedVariables false
set_option linter.unusedSimpArgs false
namespace Go.Proofs.Ytlfhmecdgfennaa
open Go.Gx

theorem inpE_l1 {R : Type} (N : Nat) (E : List Int) (x1 : Int) (d : Nat) (x3 x4 : Int) (lim : Nat) (hE : d + 1 + lim ≤ E.length) (h300 : E.length ≤ 400)
    (x7 : List EN) (x8 : List Int) (x9 x10 x11 : Int) (x12 x13 : List (List Int)) (x14 : List Bool) (x15 x16 : List (List Int)) (x17 : List Bool) (x18 : List (List Int)) (x20 : List Int)
    (k : Int → Int → Int → List Int → List EN → List Int → Int → Int → Int → List (List Int) → List (List Int) → List Bool → List (List Int) → List (List Int) → List Bool → List (List Int) → List Int → List Int → Option R) :
    ∀ (m i n : Nat), lim - i = m → i ≤ lim → m < n → c_Input_ed18_l1 N k n x1 (d : Int) x3 x4 (lim : Int) (i : Int) E x7 x8 x9 x10 x11 x12 x13 x14 x15 x16 x17 x18 (decB E d i) x20 = k x1 x3 x4 E x7 x8 x9 x10 x11 x12 x13 x14 x15 x16 x17 x18 (decB E d lim) x20 := by
  intro m
  induction m with
  | zero =>
    intro i n hm hi hn
    obtain ⟨n, rfl⟩ : ∃ n', n = n' + 1 := ⟨n - 1, by omega⟩
    have : i = lim := by omega
    subst this
    simp only [c_Input_ed18_l1, c_Input_ed18_l1_T0]
    rw [br_not (decide_eq_false (by omega))]
  | succ m ih =>
    intro i n hm hi hn
    obtain ⟨n, rfl⟩ : ∃ n', n = n' + 1 := ⟨n - 1, by omega⟩
    have hlen : (decB E d i).length ≤ 1000 := by simp [decB]; omega
    have hw : IntKind.wrap .i64 (IntKind.wrap .i64 ((d : Int) + 1) + (i : Int)) = ((d + 1 + i : Nat) : Int) := by
      rw [w64 (x := (d : Int) + 1) (by omega), w64 (by omega)]; omega
    have hih := ih (i + 1) n (by omega) (by omega) (by omega)
    rw [decB_snoc] at hih
    simp only [c_Input_ed18_l1, c_Input_ed18_l1_T0]
    rw [br_of (decide_eq_true (by omega)), hw, br_of (inB_of (by omega)), br_of (decide_eq_true (by omega)), br_of (app1 hlen), w64_succ (by omega), sub_all, Int.toNat_natCast]
    exact hih

theorem inpE_l0 {R : Type} (N : Nat) (hN : 1000 < N) (L : List EN) (S : List Int) (a b c : Int) (H : mayB L S a b c = true) (E : List Int) (hW : W16 E) (h300 : E.length ≤ 400) (hV : offN (capsL L ++ S) ≤ E.length) (x1 : Int)
    (x9 x10 : List (List Int)) (x11 : List Bool) (x12 x13 : List (List Int)) (x14 : List Bool)
    (k : Int → List Int → List EN → List Int → Int → Int → Int → List (List Int) → List (List Int) → List Bool → List (List Int) → List (List Int) → List Bool → List (List Int) → Option R) :
    ∀ (m i n : Nat), (capsL L ++ S).length - i = m → i ≤ (capsL L ++ S).length → m < n →
      c_Input_ed18_l0 N k n x1 ((capsL L ++ S).length : Int) (i : Int) E L S a b c x9 x10 x11 x12 x13 x14 (decT E 0 ((capsL L ++ S).take i)) (capsL L ++ S) = k x1 E L S a b c x9 x10 x11 x12 x13 x14 (decT E 0 (capsL L ++ S)) := by
  obtain ⟨hf, hL, hS, hC, ha⟩ := may_fit H
  intro m
  induction m with
  | zero =>
    intro i n hm hi hn
    obtain ⟨n, rfl⟩ : ∃ n', n = n' + 1 := ⟨n - 1, by omega⟩
    have : i = (capsL L ++ S).length := by omega
    subst this
    simp only [c_Input_ed18_l0, c_Input_ed18_l0_T0, List.take_length]
    rw [br_not (decide_eq_false (by omega))]
  | succ m ih =>
    intro i n hm hi hn
    obtain ⟨n, rfl⟩ : ∃ n', n = n' + 1 := ⟨n - 1, by omega⟩
    have hlt : i < (capsL L ++ S).length := by omega
    have hfi := hf (capsL L ++ S)[i] (List.getElem_mem hlt)
    have ho : offs ((capsL L ++ S).take i) = (offN ((capsL L ++ S).take i) : Int) := offs_offN (hf.sub i)
    have hnext := offN_take hlt
    have hle := offN_le (C := capsL L ++ S) (i + 1)
    generalize hd : offN ((capsL L ++ S).take i) = d at ho hnext
    have hEd := hW.at d
    have hlim : min (capsL L ++ S)[i] (E.getD d 0) = ((min (capsL L ++ S)[i] (E.getD d 0)).toNat : Int) := by omega
    simp only [c_Input_ed18_l0, c_Input_ed18_l0_T0, Int.toNat_natCast, getD_at hlt]
    rw [br_of (decide_eq_true (by omega)), br_of (inB_of (by omega)), br_of (decide_eq_true hlt), Size_eq N (by omega) L S a b c H, if_neg (by omega), Int.toNat_natCast, ho, Int.toNat_natCast, br_of (inB_of (by omega)), br_of (decide_eq_true (by omega)), w64 (x := E.getD d 0) (by omega), min_if, hlim]
    have h1 := inpE_l1 (R := R) N E x1 d ((capsL L ++ S).length : Int) (i : Int) (min (capsL L ++ S)[i] (E.getD d 0)).toNat (by omega) h300 L S a b c x9 x10 x11 x12 x13 x14 (decT E 0 ((capsL L ++ S).take i)) (capsL L ++ S)
      (fun i593 i594 i595 l592 l596 l597 i598 i599 i600 l601 l602 l603 l604 l605 l606 l607 l608 l609 => br (fits (0 : Nat) (List.length l608) l608)
        (br (fits (0 : Nat) (List.length l608) l608)
         (br (((fits (0 : Nat) (List.length l607) l607) && (decide ((((List.length l607) + (1 : Nat)) * (24 : Nat)) ≤ (70368744177664 : Nat)))) && true)
          (c_Input_ed18_l0 N k n i593 i594 (IntKind.wrap .i64 (i595 + (1 : Int))) l592 l596 l597 i598 i599 i600 l601 l602 l603 l604 l605 l606 ((sub l607 (0 : Nat) (List.length l607)) ++ ((sub l608 (0 : Nat) (List.length l608)) :: ([] : List ((Sh.int IntKind.u8).isl.T)))) l609)
          (none))
         (none))
        (none)) _ 0 N rfl (by omega) (by omega)
    refine h1.trans ?_
    have hdl : (decT E 0 ((capsL L ++ S).take i)).length ≤ 1000 := by rw [dec_len, List.length_take]; omega
    rw [br_of (fits_of (by omega)), br_of (fits_of (by omega)), br_of (app24 hdl (by omega)), w64_succ (by omega), sub_all, sub_all]
    have h2 := ih (i + 1) n (by omega) (by omega) (by omega)
    rw [List.take_succ_eq_append_getElem hlt, dec_snoc, Nat.zero_add, hd] at h2
    exact h2

theorem Input18_eq {R : Type} (N : Nat) (hN : 1000 < N) (L : List EN) (S : List Int) (a b c : Int) (hL : L.length ≤ 60) (hS : S.length ≤ 60) (E : List Int) (hW : W16 E) (h300 : E.length ≤ 400)
    (k0 : Int → List Int → List (List Int) → List (List Int) → List Bool → Option R) (k1 : Nat → Nat → Nat → Nat → Int → List Int → Nat → List (List Int) → List Bool → Option R) (k2 : Nat → Nat → Nat → Nat → Int → List Int → List (List Int) → List Bool → Option R) :
    c_Input_ed18 N L S a b c E k0 k1 k2 = if mayB L S a b c = true then (if (E.length : Int) < a + offs (capsL L ++ S) then k0 12 E [] [] [] else if inpB (capsL L ++ S) a b E = true then
      k2 (capsL L).length (capsL L).length (capsL L).length ((capsL L ++ S).length - (capsL L).length) 0 E (decT E 0 (capsL L ++ S)) (decX E (offN (capsL L ++ S)) a.toNat) else k0 12 E [] [] []) else k0 11 E [] [] [] := by
  unfold c_Input_ed18 c_Input_ed18_T
  rw [May_eq17 N (by omega), br_neg]
  cases hm : mayB L S a b c with
  | false => rfl
  | true =>
    obtain ⟨hf, hL8, hS2, hC6, ha0, ha6⟩ := may_fit hm
    have ho := offs_offN hf
    rw [br_true, if_pos rfl, Vars_eq N (by omega) L S a b c hm, br_dec]
    by_cases hlt : (E.length : Int) < a + offs (capsL L ++ S)
    · rw [if_pos hlt, if_pos hlt]
    · rw [if_neg hlt, if_neg hlt, Caps_eq N (by omega) L (by omega) S (by omega)]
      rw [ho] at hlt ⊢
      have hlenC : (capsL L ++ S).length = (capsL L).length + S.length := List.length_append
      refine (inpE_l0 N hN L S a b c hm E hW h300 (by omega) _ _ _ _ _ _ _ _ (capsL L ++ S).length 0 N (by omega) (by omega) (by omega)).trans ?_
      have hfl := files_len 0 L
      rw [Files_eq N (by omega) L (by omega)]
      simp only [hfl, Int.toNat_natCast, dec_len]
      have hw : IntKind.wrap .i64 (a + (offN (capsL L ++ S) : Int) - a) = (offN (capsL L ++ S) : Int) := by rw [w64 (by omega)]; omega
      have hV : (a + (offN (capsL L ++ S) : Int)).toNat = offN (capsL L ++ S) + a.toNat := by omega
      rw [br_of (leB_of (by omega)), br_of (leB_of (by omega)), br_of (leB_of (by omega)), br_of (by simp), br_of (leB_of (by omega)), br_of (by simp), br_of (leB_of (by omega)), hw, hV, br_of (leB_of (by omega)), Int.toNat_natCast,
        Nat.add_sub_cancel_left, Nat.sub_zero]
      refine (inpE_l2 N _ (offN (capsL L ++ S)) a.toNat _ E (by omega) (by omega) h300 L S a b c _ _ _ _ _ _ _ _ _ _ _ 0 N rfl (by omega) (by omega)).trans ?_
      have hXl : (decX E (offN (capsL L ++ S)) a.toNat).length = a.toNat := by simp [decX]
      have hTl := dec_len E 0 (capsL L ++ S)
      have hfE := EnvF_eq (R := R) N hN L S a b c hL hS hm (decT E 0 (capsL L ++ S)) (Byt_dec E _ _) hTl (capsL L).length (decX E (offN (capsL L ++ S)) a.toNat) (by omega)
      rw [hTl] at hfE
      rw [hfE, fitT_dec E hW _ _ (fun z hz => (hf z hz).1), Bool.and_true]
      unfold inpB
      cases hfa : failB (decX E (offN (capsL L ++ S)) a.toNat) a b with
      | false => rfl
      | true =>
        rw [if_pos rfl, br_of (b := !(!decide ((0 : Int) = 0))) rfl, br_of (leB_of (by omega)), hV, Nat.sub_zero]
        have hel : (envV (capsL L ++ S) (decT E 0 (capsL L ++ S)) (decX E (offN (capsL L ++ S)) a.toNat)).length ≤ 1000 := by
          have := enc_le hTl hf
          unfold envV encX
          rw [List.length_append, List.length_map]
          omega
        rw [eqB_eq N hN E _ _ _ (by omega) hel, br_neg, Bool.true_and]
        cases decide (envV (capsL L ++ S) (decT E 0 (capsL L ++ S)) (decX E (offN (capsL L ++ S)) a.toNat) = E.take (offN (capsL L ++ S) + a.toNat)) <;> rfl

end Go.Proofs.Ytlfhmecdgfennaa
