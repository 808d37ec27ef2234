/-
  numbers as an input (chapter 18): what the printed functions come to.
-/
import Derived.Test.YtlfhmecdgfennaaPCastF
set_option linter.unusedVariables false
set_option linter.unusedSimpArgs false
namespace Go.Proofs.Ytlfhmecdgfennaa
open Go.Gx

theorem app1 {α : Type} {l : List α} (h : l.length ≤ 1000) : (((fits (0 : Nat) (List.length l) l) && (decide ((((List.length l) + (1 : Nat)) * (1 : Nat)) ≤ (70368744177664 : Nat)))) && true) = true := by
  rw [fits_of (by omega), decide_eq_true (by omega)]; rfl
theorem offs_offN : ∀ {C : List Int}, Fit C → offs C = (offN C : Int)
  | [], _ => rfl
  | c :: C, h => by
    have := offs_offN (C := C) fun z hz => h z (List.mem_cons_of_mem _ hz)
    have hc := h c List.mem_cons_self
    rw [offs_cons, this]
    show _ = ((1 + c.toNat + offN C : Nat) : Int)
    omega
theorem offN_app : ∀ (A B : List Int), offN (A ++ B) = offN A + offN B
  | [], B => by simp [offN]
  | x :: r, B => by
    have := offN_app r B
    rw [List.cons_append]
    show 1 + x.toNat + offN (r ++ B) = 1 + x.toNat + offN r + offN B
    rw [this]; omega
theorem offN_take {C : List Int} {i : Nat} (h : i < C.length) : offN (C.take (i + 1)) = offN (C.take i) + (1 + (C[i]).toNat) := by
  rw [List.take_succ_eq_append_getElem h, offN_app]
  rfl
theorem offN_le {C : List Int} (i : Nat) : offN (C.take i) ≤ offN C := by
  conv => rhs; rw [← List.take_append_drop i C, offN_app]
  omega

theorem decB_snoc (E : List Int) (d k : Nat) : decB E d (k + 1) = decB E d k ++ [w8 (E.getD (d + 1 + k) 0)] := by
  unfold decB
  rw [List.range_succ, List.map_append]
  rfl
theorem dec_snoc (E : List Int) (c : Int) : ∀ (A : List Int) (d : Nat), decT E d (A ++ [c]) = decT E d A ++ [decB E (d + offN A) (min c (E.getD (d + offN A) 0)).toNat]
  | [], d => by simp [decT, offN]
  | x :: r, d => by
    have := dec_snoc E c r (d + 1 + x.toNat)
    rw [List.cons_append]
    show decB E d _ :: decT E (d + 1 + x.toNat) (r ++ [c]) = decB E d _ :: (decT E (d + 1 + x.toNat) r ++ _)
    rw [this]
    have e : d + 1 + x.toNat + offN r = d + offN (x :: r) := by
      show _ = d + (1 + x.toNat + offN r)
      omega
    rw [e]

/-- numbers of sixteen bits -/
def W16 (E : List Int) : Prop := ∀ x ∈ E, 0 ≤ x ∧ x ≤ 65535
theorem W16.at {E : List Int} (h : W16 E) (j : Nat) : 0 ≤ E.getD j 0 ∧ E.getD j 0 ≤ 65535 := by
  by_cases hj : j < E.length
  · rw [getD_at hj]; exact h _ (List.getElem_mem hj)
  · have : E.getD j 0 = 0 := by simp [List.getD, show E.length ≤ j by omega]
    omega

theorem min_if (x y : Int) : (if x < y then x else y) = min x y := by
  by_cases h : x < y
  · rw [if_pos h]; omega
  · rw [if_neg h]; omega

theorem inp_l1 {R : Type} (N : Nat) (E : List Int) (x1 : Int) (d : Nat) (x3 x4 : Int) (lim : Nat) (hE : d + 1 + lim ≤ E.length) (h300 : E.length ≤ 400)
    (x7 : List EN) (x8 : List Int) (x9 x10 x11 : Int) (x12 x13 : List (List Int)) (x14 : List Bool) (x15 x16 : List (List Int)) (x17 : List Bool) (x18 : List (List Int)) (x20 : List Int)
    (k : List Int → Int → Int → Int → List EN → List Int → Int → Int → Int → List (List Int) → List (List Int) → List Bool → List (List Int) → List (List Int) → List Bool → List (List Int) → List Int → List Int → Option R) :
    ∀ (m i n : Nat), lim - i = m → i ≤ lim → m < n → c_Input_l1 N k n E x1 (d : Int) x3 x4 (lim : Int) (i : Int) x7 x8 x9 x10 x11 x12 x13 x14 x15 x16 x17 x18 (decB E d i) x20 = k E x1 x3 x4 x7 x8 x9 x10 x11 x12 x13 x14 x15 x16 x17 x18 (decB E d lim) x20 := by
  intro m
  induction m with
  | zero =>
    intro i n hm hi hn
    obtain ⟨n, rfl⟩ : ∃ n', n = n' + 1 := ⟨n - 1, by omega⟩
    have : i = lim := by omega
    subst this
    simp only [c_Input_l1, c_Input_l1_T0]
    rw [br_not (decide_eq_false (by omega))]
  | succ m ih =>
    intro i n hm hi hn
    obtain ⟨n, rfl⟩ : ∃ n', n = n' + 1 := ⟨n - 1, by omega⟩
    have hlen : (decB E d i).length ≤ 1000 := by simp [decB]; omega
    have hw : IntKind.wrap .i64 (IntKind.wrap .i64 ((d : Int) + 1) + (i : Int)) = ((d + 1 + i : Nat) : Int) := by
      rw [w64 (x := (d : Int) + 1) (by omega), w64 (by omega)]; omega
    have hih := ih (i + 1) n (by omega) (by omega) (by omega)
    rw [decB_snoc] at hih
    simp only [c_Input_l1, c_Input_l1_T0]
    rw [br_of (decide_eq_true (by omega)), hw, br_of (inB_of (by omega)), br_of (app1 hlen), w64_succ (by omega), sub_all, Int.toNat_natCast]
    exact hih

theorem inp_l0 {R : Type} (N : Nat) (hN : 1000 < N) (L : List EN) (S : List Int) (a b c : Int) (H : mayB L S a b c = true) (E : List Int) (hW : W16 E) (h300 : E.length ≤ 400) (hV : offN (capsL L ++ S) ≤ E.length) (x1 : Int)
    (x9 x10 : List (List Int)) (x11 : List Bool) (x12 x13 : List (List Int)) (x14 : List Bool)
    (k : List Int → Int → List EN → List Int → Int → Int → Int → List (List Int) → List (List Int) → List Bool → List (List Int) → List (List Int) → List Bool → List (List Int) → Option R) :
    ∀ (m i n : Nat), (capsL L ++ S).length - i = m → i ≤ (capsL L ++ S).length → m < n →
      c_Input_l0 N k n E x1 ((capsL L ++ S).length : Int) (i : Int) L S a b c x9 x10 x11 x12 x13 x14 (decT E 0 ((capsL L ++ S).take i)) (capsL L ++ S) = k E x1 L S a b c x9 x10 x11 x12 x13 x14 (decT E 0 (capsL L ++ S)) := by
  obtain ⟨hf, hL, hS, hC, ha⟩ := may_fit H
  intro m
  induction m with
  | zero =>
    intro i n hm hi hn
    obtain ⟨n, rfl⟩ : ∃ n', n = n' + 1 := ⟨n - 1, by omega⟩
    have : i = (capsL L ++ S).length := by omega
    subst this
    simp only [c_Input_l0, c_Input_l0_T0, List.take_length]
    rw [br_not (decide_eq_false (by omega))]
  | succ m ih =>
    intro i n hm hi hn
    obtain ⟨n, rfl⟩ : ∃ n', n = n' + 1 := ⟨n - 1, by omega⟩
    have hlt : i < (capsL L ++ S).length := by omega
    have hfi := hf (capsL L ++ S)[i] (List.getElem_mem hlt)
    have ho : offs ((capsL L ++ S).take i) = (offN ((capsL L ++ S).take i) : Int) := offs_offN (hf.sub i)
    have hnext := offN_take hlt
    have hle := offN_le (C := capsL L ++ S) (i + 1)
    generalize hd : offN ((capsL L ++ S).take i) = d at ho hnext
    have hEd := hW.at d
    have hlim : min (capsL L ++ S)[i] (E.getD d 0) = ((min (capsL L ++ S)[i] (E.getD d 0)).toNat : Int) := by omega
    simp only [c_Input_l0, c_Input_l0_T0, Int.toNat_natCast, getD_at hlt]
    rw [br_of (decide_eq_true (by omega)), br_of (inB_of (by omega)), br_of (decide_eq_true hlt), Size_eq N (by omega) L S a b c H, if_neg (by omega), Int.toNat_natCast, ho, Int.toNat_natCast, br_of (inB_of (by omega)), w64 (x := E.getD d 0) (by omega), min_if, hlim]
    have h1 := inp_l1 (R := R) N E x1 d ((capsL L ++ S).length : Int) (i : Int) (min (capsL L ++ S)[i] (E.getD d 0)).toNat (by omega) h300 L S a b c x9 x10 x11 x12 x13 x14 (decT E 0 ((capsL L ++ S).take i)) (capsL L ++ S)
      (fun l592 i593 i594 i595 l596 l597 i598 i599 i600 l601 l602 l603 l604 l605 l606 l607 l608 l609 => br (fits (0 : Nat) (List.length l608) l608)
        (br (fits (0 : Nat) (List.length l608) l608)
         (br (((fits (0 : Nat) (List.length l607) l607) && (decide ((((List.length l607) + (1 : Nat)) * (24 : Nat)) ≤ (70368744177664 : Nat)))) && true)
          (c_Input_l0 N k n l592 i593 i594 (IntKind.wrap .i64 (i595 + (1 : Int))) l596 l597 i598 i599 i600 l601 l602 l603 l604 l605 l606 ((sub l607 (0 : Nat) (List.length l607)) ++ ((sub l608 (0 : Nat) (List.length l608)) :: ([] : List ((Sh.int IntKind.u8).isl.T)))) l609)
          (none))
         (none))
        (none)) _ 0 N rfl (by omega) (by omega)
    refine h1.trans ?_
    have hdl : (decT E 0 ((capsL L ++ S).take i)).length ≤ 1000 := by rw [dec_len, List.length_take]; omega
    rw [br_of (fits_of (by omega)), br_of (fits_of (by omega)), br_of (app24 hdl (by omega)), w64_succ (by omega), sub_all, sub_all]
    have h2 := ih (i + 1) n (by omega) (by omega) (by omega)
    rw [List.take_succ_eq_append_getElem hlt, dec_snoc, Nat.zero_add, hd] at h2
    exact h2

theorem inp_l2 {R : Type} (N : Nat) (x0 : List Int) (x1 : Int) (Z : List Int) (hZ : Z.length ≤ 100) (x5 : List EN) (x6 : List Int) (x7 x8 x9 : Int) (x10 x11 : List (List Int)) (x12 : List Bool) (x13 x14 x15 x16 x17 : Nat) (x18 : List (List Int))
    (k : List Int → Int → List EN → List Int → Int → Int → Int → List (List Int) → List (List Int) → List Bool → Nat → Nat → Nat → Nat → Nat → List (List Int) → List Bool → Option R) :
    ∀ (m i n : Nat), Z.length - i = m → i ≤ Z.length → m < n → c_Input_l2 N k n x0 x1 Z (Z.length : Int) (i : Int) x5 x6 x7 x8 x9 x10 x11 x12 x13 x14 x15 x16 x17 x18 (decX Z 0 i) = k x0 x1 x5 x6 x7 x8 x9 x10 x11 x12 x13 x14 x15 x16 x17 x18 (decX Z 0 Z.length) := by
  intro m
  induction m with
  | zero =>
    intro i n hm hi hn
    obtain ⟨n, rfl⟩ : ∃ n', n = n' + 1 := ⟨n - 1, by omega⟩
    have : i = Z.length := by omega
    subst this
    simp only [c_Input_l2, c_Input_l2_T0]
    rw [br_not (decide_eq_false (by omega))]
  | succ m ih =>
    intro i n hm hi hn
    obtain ⟨n, rfl⟩ : ∃ n', n = n' + 1 := ⟨n - 1, by omega⟩
    have hlt : i < Z.length := by omega
    have hlen : (decX Z 0 i).length ≤ 1000 := by simp [decX]; omega
    have hih := ih (i + 1) n (by omega) (by omega) (by omega)
    have hs : decX Z 0 (i + 1) = decX Z 0 i ++ [decide (Z.getD i 0 = 1)] := by
      unfold decX
      rw [List.range_succ, List.map_append, List.map_cons, List.map_nil, Nat.zero_add]
    rw [hs] at hih
    simp only [c_Input_l2, c_Input_l2_T0, Int.toNat_natCast]
    rw [br_of (decide_eq_true (by omega)), br_of (inB_of (by omega)), br_of (app1 hlen), w64_succ (by omega), sub_all]
    exact hih

theorem inpE_l2 {R : Type} (N : Nat) (x0 : Int) (o l q : Nat) (E : List Int) (hE : o + l ≤ E.length) (hl : l ≤ 100) (h300 : E.length ≤ 400) (x5 : List EN) (x6 : List Int) (x7 x8 x9 : Int) (x10 x11 : List (List Int)) (x12 : List Bool) (x13 x14 x15 x16 x17 : Nat) (x18 : List (List Int))
    (k : Int → List Int → List EN → List Int → Int → Int → Int → List (List Int) → List (List Int) → List Bool → Nat → Nat → Nat → Nat → Nat → List (List Int) → List Bool → Option R) :
    ∀ (m i n : Nat), l - i = m → i ≤ l → m < n → c_Input_ed18_l2 N k n x0 o l q (l : Int) (i : Int) E x5 x6 x7 x8 x9 x10 x11 x12 x13 x14 x15 x16 x17 x18 (decX E o i) = k x0 E x5 x6 x7 x8 x9 x10 x11 x12 x13 x14 x15 x16 x17 x18 (decX E o l) := by
  intro m
  induction m with
  | zero =>
    intro i n hm hi hn
    obtain ⟨n, rfl⟩ : ∃ n', n = n' + 1 := ⟨n - 1, by omega⟩
    have : i = l := by omega
    subst this
    simp only [c_Input_ed18_l2, c_Input_ed18_l2_T0]
    rw [br_not (decide_eq_false (by omega))]
  | succ m ih =>
    intro i n hm hi hn
    obtain ⟨n, rfl⟩ : ∃ n', n = n' + 1 := ⟨n - 1, by omega⟩
    have hlen : (decX E o i).length ≤ 1000 := by simp [decX]; omega
    have hih := ih (i + 1) n (by omega) (by omega) (by omega)
    have hs : decX E o (i + 1) = decX E o i ++ [decide (E.getD (o + i) 0 = 1)] := by
      unfold decX
      rw [List.range_succ, List.map_append, List.map_cons, List.map_nil]
    rw [hs] at hih
    have hw : ((o : Int) + (i : Int)) = ((o + i : Nat) : Int) := by omega
    simp only [c_Input_ed18_l2, c_Input_ed18_l2_T0, addLo_eq, hw, Int.toNat_natCast]
    rw [br_of (decide_eq_true (by omega)), br_of (inB_of (by omega)), br_of (decide_eq_true (by omega)), br_of (app1 hlen), w64_succ (by omega), sub_all]
    exact hih

/-- the numbers are an input's -/
def inpB (C : List Int) (a b : Int) (E : List Int) : Bool :=
  failB (decX E (offN C) a.toNat) a b && decide (envV C (decT E 0 C) (decX E (offN C) a.toNat) = E.take (offN C + a.toNat))

theorem fitT_dec (E : List Int) (hW : W16 E) : ∀ (C : List Int) (d : Nat), (∀ z ∈ C, 0 ≤ z) → fitT C (decT E d C) = true
  | [], d, _ => rfl
  | c :: C, d, h => by
    have hc := h c List.mem_cons_self
    have hE := hW.at d
    show (decide (((decB E d _).length : Int) ≤ c) && fitT C (decT E (d + 1 + c.toNat) C)) = true
    rw [fitT_dec E hW C _ fun z hz => h z (List.mem_cons_of_mem _ hz), decide_eq_true (by simp [decB]; omega)]
    rfl
theorem Byt_decB (E : List Int) (d n : Nat) : Byt (decB E d n) := by
  intro x hx
  unfold decB at hx
  obtain ⟨k, _, rfl⟩ := List.mem_map.1 hx
  unfold w8
  rw [show IntKind.wrap .u8 (E.getD (d + 1 + k) 0) = E.getD (d + 1 + k) 0 % 256 from rfl]
  omega
theorem Byt_dec (E : List Int) : ∀ (C : List Int) (d : Nat), ∀ t ∈ decT E d C, Byt t
  | [], _, t, h => nomatch h
  | c :: C, d, t, h => by
    rcases List.mem_cons.1 h with h | h
    · rw [h]; exact Byt_decB _ _ _
    · exact Byt_dec E C _ t h

theorem decX_sub (E : List Int) (o n : Nat) (h : o + n ≤ E.length) : decX (sub E o n) 0 n = decX E o n := by
  unfold decX
  apply List.map_congr_left
  intro j hj
  have hj := List.mem_range.1 hj
  have : (sub E o n).getD j 0 = E.getD (o + j) 0 := by
    unfold sub
    simp [List.getD, List.getElem?_take, hj]
  rw [Nat.zero_add, this]

theorem Input_eq {R : Type} (N : Nat) (hN : 1000 < N) (L : List EN) (S : List Int) (a b c : Int) (hL : L.length ≤ 60) (hS : S.length ≤ 60) (E : List Int) (hW : W16 E) (h300 : E.length ≤ 400)
    (k0 : Int → List (List Int) → List (List Int) → List Bool → Option R) (k1 : Nat → Nat → Nat → Nat → Int → Nat → List (List Int) → List Bool → Option R) (k2 : Nat → Nat → Nat → Nat → Int → List (List Int) → List Bool → Option R) :
    c_Input N L S a b c E k0 k1 k2 = if mayB L S a b c = true then (if (E.length : Int) < a + offs (capsL L ++ S) then k0 12 [] [] [] else if inpB (capsL L ++ S) a b E = true then
      k2 (capsL L).length (capsL L).length (capsL L).length ((capsL L ++ S).length - (capsL L).length) 0 (decT E 0 (capsL L ++ S)) (decX E (offN (capsL L ++ S)) a.toNat) else k0 12 [] [] []) else k0 11 [] [] [] := by
  unfold c_Input c_Input_T
  rw [May_eq17 N (by omega), br_neg]
  cases hm : mayB L S a b c with
  | false => rfl
  | true =>
    obtain ⟨hf, hL8, hS2, hC6, ha0, ha6⟩ := may_fit hm
    have ho := offs_offN hf
    rw [br_true, if_pos rfl, Vars_eq N (by omega) L S a b c hm, br_dec]
    by_cases hlt : (E.length : Int) < a + offs (capsL L ++ S)
    · rw [if_pos hlt, if_pos hlt]
    · rw [if_neg hlt, if_neg hlt, Caps_eq N (by omega) L (by omega) S (by omega)]
      rw [ho] at hlt ⊢
      have hlenC : (capsL L ++ S).length = (capsL L).length + S.length := List.length_append
      refine (inp_l0 N hN L S a b c hm E hW h300 (by omega) _ _ _ _ _ _ _ _ (capsL L ++ S).length 0 N (by omega) (by omega) (by omega)).trans ?_
      have hfl := files_len 0 L
      rw [Files_eq N (by omega) L (by omega)]
      simp only [hfl, Int.toNat_natCast, dec_len]
      have hw : IntKind.wrap .i64 (a + (offN (capsL L ++ S) : Int) - a) = (offN (capsL L ++ S) : Int) := by rw [w64 (by omega)]; omega
      have hV : (a + (offN (capsL L ++ S) : Int)).toNat = offN (capsL L ++ S) + a.toNat := by omega
      rw [br_of (leB_of (by omega)), br_of (leB_of (by omega)), br_of (leB_of (by omega)), br_of (by simp), br_of (leB_of (by omega)), br_of (by simp), br_of (leB_of (by omega)), hw, hV, br_of (leB_of (by omega)), Int.toNat_natCast,
        Nat.add_sub_cancel_left, Nat.sub_zero]
      have hsl : (sub E (offN (capsL L ++ S)) a.toNat).length = a.toNat := by unfold sub; rw [List.length_take, List.length_drop]; omega
      refine (inp_l2 N E _ (sub E (offN (capsL L ++ S)) a.toNat) (by omega) L S a b c _ _ _ _ _ _ _ _ _ _ _ 0 N rfl (by omega) (by omega)).trans ?_
      rw [hsl, decX_sub E _ _ (by omega)]
      have hXl : (decX E (offN (capsL L ++ S)) a.toNat).length = a.toNat := by simp [decX]
      have hTl := dec_len E 0 (capsL L ++ S)
      have hfE := EnvF_eq (R := R) N hN L S a b c hL hS hm (decT E 0 (capsL L ++ S)) (Byt_dec E _ _) hTl (capsL L).length (decX E (offN (capsL L ++ S)) a.toNat) (by omega)
      rw [hTl] at hfE
      rw [hfE, fitT_dec E hW _ _ (fun z hz => (hf z hz).1), Bool.and_true]
      unfold inpB
      cases hfa : failB (decX E (offN (capsL L ++ S)) a.toNat) a b with
      | false => rfl
      | true =>
        rw [if_pos rfl, br_of (b := !(!decide ((0 : Int) = 0))) rfl, br_of (leB_of (by omega)), hV, Nat.sub_zero]
        have hs : sub E 0 (offN (capsL L ++ S) + a.toNat) = E.take (offN (capsL L ++ S) + a.toNat) := by simp [sub]
        have hel : (envV (capsL L ++ S) (decT E 0 (capsL L ++ S)) (decX E (offN (capsL L ++ S)) a.toNat)).length ≤ 1000 := by
          have := enc_le hTl hf
          unfold envV encX
          rw [List.length_append, List.length_map]
          omega
        rw [hs, eqC_eq N hN _ _ hel, br_neg, Bool.true_and]
        cases decide (envV (capsL L ++ S) (decT E 0 (capsL L ++ S)) (decX E (offN (capsL L ++ S)) a.toNat) = E.take (offN (capsL L ++ S) + a.toNat)) <;> rfl

end Go.Proofs.Ytlfhmecdgfennaa
