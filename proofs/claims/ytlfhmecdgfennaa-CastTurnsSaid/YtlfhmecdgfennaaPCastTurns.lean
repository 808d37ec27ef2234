/-
  the law CastTurns of chapter 18, as a printed function: it comes to true.
-/
import Derived.Test.YtlfhmecdgfennaaPCastK
import Derived.KernelRfl
set_option linter.unusedVariables false
set_option linter.unusedSimpArgs false
namespace Go.Proofs.Ytlfhmecdgfennaa
open Go.Gx

set_option maxRecDepth 100000 in
theorem awake18 {R : Type} (n : Nat) (k : Bool → Option R) : law18_awake (n + 3000) k = k true := by kernel_rfl

theorem small_l0 (N : Nat) (L : List EN) (S : List Int) (a b c : Int) (hl : L.length ≤ 9223372036854775807) : ∀ (n q : Nat), q ≤ L.length → L.length - q < n → ∀ (s : Int), ∃ s' : Int, ∀ {R : Type} (k : Int → List EN → List Int → Int → Int → Int → Option R),
    law17_Small_l0 N k n s (q : Int) L S a b c = k s' L S a b c
  | 0, q, _, hn, _ => by omega
  | n + 1, q, hq, hn, s => by
    by_cases hlt : q < L.length
    · obtain ⟨s', hc⟩ := small_l0 N L S a b c hl n (q + 1) (by omega) (by omega) (IntKind.wrap .i64 (s + (L[q].1.size : Int)))
      refine ⟨s', fun k => ?_⟩
      have hg0 : L.getD q (bs [], false, 0) = L[q] := by simp [List.getD, hlt]
      simp only [law17_Small_l0, law17_Small_l0_T0, Int.toNat_natCast, hg0]
      rw [br_of (decide_eq_true (by omega)), br_of (inB_of (by omega)), w64_succ (by omega)]
      exact hc k
    · refine ⟨s, fun k => ?_⟩
      simp only [law17_Small_l0, law17_Small_l0_T0]
      rw [br_not (decide_eq_false (by omega))]

theorem small_ex (N : Nat) (L : List EN) (S : List Int) (a b c : Int) (hl : L.length ≤ 9223372036854775807) (hN : L.length < N) : ∃ w : Bool, (w = true → L.length ≤ 60 ∧ S.length ≤ 60) ∧ ∀ {R : Type} (k : Bool → Option R), law17_Small N L S a b c k = k w := by
  obtain ⟨s, hs⟩ := small_l0 N L S a b c hl N 0 (by omega) (by omega) 0
  refine ⟨decide ((L.length : Int) ≤ 60) && (decide (s ≤ 2000) && decide ((S.length : Int) ≤ 60)), fun h => ?_, fun k => ?_⟩
  · simp only [Bool.and_eq_true, decide_eq_true_eq] at h
    omega
  · unfold law17_Small law17_Small_T
    refine (hs _).trans ?_
    cases decide ((L.length : Int) ≤ 60) <;> cases decide (s ≤ 2000) <;> rfl

theorem vars_none {R : Type} (N : Nat) (hN : 300 < N) (L : List EN) (S : List Int) (a b c : Int) (H : mayB L S a b c = false) (k : Int → Option R) : c_Vars N L S a b c k = k 0 := by
  unfold c_Vars c_Vars_T
  rw [May_eq17 N (by omega), H]
  rfl

/-- any numbers: the program's answer is the document's -/
theorem tail_eq {R : Type} (n : Nat) (L : List EN) (S : List Int) (a b c : Int) (hL : L.length ≤ 60) (hS : S.length ≤ 60) (H : mayB L S a b c = true) (E : List Int) (hW : W16 E) (h300 : E.length ≤ 400) (k : Bool → Option R)
    (K1 : Nat → Nat → Nat → Nat → Int → Nat → List (List Int) → List Bool → Option R) :
    c_Input (n + 3000) L S a b c E
      (fun i825 l826 l827 l828 => r_Input (n + 3000) L S a b c E
        (fun i989 l990 l991 l992 => br (decide (i825 = i989))
          (r_Same_efae (n + 3000) l826 l827 l828 l990 l991 l992 (fun b1012 l1013 l1014 l1015 l1016 l1017 l1018 => k b1012))
          (k false)))
      K1
      (fun n1063 n1064 n1065 n1066 i1067 l1068 l1069 => r_Input (n + 3000) L S a b c E
        (fun i1070 l1071 l1072 l1073 => br (decide (i1067 = i1070))
          (r_Same_d123 (n + 3000) n1063 n1064 n1065 n1066 l1068 l1069 l1071 l1072 l1073 (fun b1093 l1094 l1095 l1096 l1097 l1098 => k b1093))
          (k false))) = k true := by
  obtain ⟨hf, hL8, hS2, hC6, ha0, ha6⟩ := may_fit H
  have hlenC : (capsL L ++ S).length = (capsL L).length + S.length := List.length_append
  rw [Input_eq (n + 3000) (by omega) L S a b c hL hS E hW h300, if_pos H]
  simp only [refInput_eq (n + 3000) (by omega) L S a b c hL hS E hW h300, if_pos H]
  by_cases h1 : (E.length : Int) < a + offs (capsL L ++ S)
  · rw [if_pos h1, if_pos h1, br_of (by simp), sameE_eq]
  · rw [if_neg h1]
    by_cases h2 : inpB (capsL L ++ S) a b E = true
    · rw [if_pos h2, if_neg h1, if_pos h2, br_of (by simp)]
      have hF : ((decT E 0 (capsL L ++ S)).take (capsL L).length).length = (capsL L).length := by rw [List.length_take, dec_len]; omega
      have hA : ((decT E 0 (capsL L ++ S)).drop (capsL L).length).length = (capsL L ++ S).length - (capsL L).length := by rw [List.length_drop, dec_len]
      have hcat : (decT E 0 (capsL L ++ S)).take (capsL L).length ++ (decT E 0 (capsL L ++ S)).drop (capsL L).length = decT E 0 (capsL L ++ S) := List.take_append_drop _ _
      have h3 := sameD_eq (R := R) (n + 3000) (by omega) ((decT E 0 (capsL L ++ S)).take (capsL L).length) ((decT E 0 (capsL L ++ S)).drop (capsL L).length) (decX E (offN (capsL L ++ S)) a.toNat) (capsL L).length (by omega) (by omega) (by simp [decX]; omega)
        (fun b1093 l1094 l1095 l1096 l1097 l1098 => k b1093)
      rw [hF, hA, hcat] at h3
      exact h3
    · rw [if_neg h2, if_neg h1, if_neg h2, br_of (by simp), sameE_eq]

theorem enc_w16 : ∀ {C : List Int} {T : List (List Int)}, (∀ t ∈ T, Byt t ∧ t.length ≤ 3) → W16 (encT C T)
  | [], [], _ => fun x hx => nomatch hx
  | [], _ :: _, _ => fun x hx => nomatch hx
  | _ :: _, [], _ => fun x hx => nomatch hx
  | c :: C, t :: T, h => by
    intro x hx
    have ht := h t List.mem_cons_self
    have hx : x ∈ ((t.length : Nat) : Int) :: (padT c.toNat t ++ encT C T) := hx
    rcases List.mem_cons.1 hx with hx | hx
    · rw [hx]; omega
    · rcases List.mem_append.1 hx with hx | hx
      · unfold padT at hx
        obtain ⟨j, _, rfl⟩ := List.mem_map.1 hx
        by_cases hj : j < t.length
        · rw [getD_at hj]
          have := ht.1 t[j] (List.getElem_mem hj)
          omega
        · have : t.getD j 0 = 0 := by simp [List.getD, show t.length ≤ j by omega]
          omega
      · exact enc_w16 (fun u hu => h u (List.mem_cons_of_mem _ hu)) x hx

theorem env_inp {L : List EN} {S : List Int} {a b c : Int} {F A : List (List Int)} {X : List Bool} (hh : hasB L S a b c F A X = true) (hB : ∀ t ∈ F ++ A, Byt t) :
    W16 (envV (capsL L ++ S) (F ++ A) X) ∧ (envV (capsL L ++ S) (F ++ A) X).length = offN (capsL L ++ S) + a.toNat ∧ inpB (capsL L ++ S) a b (envV (capsL L ++ S) (F ++ A) X) = true ∧
      decT (envV (capsL L ++ S) (F ++ A) X) 0 (capsL L ++ S) = F ++ A ∧ decX (envV (capsL L ++ S) (F ++ A) X) (offN (capsL L ++ S)) a.toNat = X := by
  obtain ⟨hm, h1, h2, h3, h4⟩ := hasB_iff hh
  obtain ⟨hf, hL8, hS2, hC6, ha0, ha6⟩ := may_fit hm
  obtain ⟨hXl, _, _⟩ := failB_len h3
  have hTl : (F ++ A).length = (capsL L ++ S).length := by rw [List.length_append, List.length_append, h1, h2]
  have hl3 := fit_len hf h4 hTl
  have hel := enc_len hTl
  have hxl : (encX X).length = a.toNat := by unfold encX; rw [List.length_map]; omega
  have hEl : (envV (capsL L ++ S) (F ++ A) X).length = offN (capsL L ++ S) + a.toNat := by unfold envV; rw [List.length_append, hel, hxl]
  have hs := sl_take (envV (capsL L ++ S) (F ++ A) X) _ (Nat.le_of_eq hEl.symm)
  rw [List.take_of_length_le (by omega), sl_add, Nat.zero_add] at hs
  have hs2 : sl (envV (capsL L ++ S) (F ++ A) X) 0 (offN (capsL L ++ S)) = encT (capsL L ++ S) (F ++ A) ∧ sl (envV (capsL L ++ S) (F ++ A) X) (offN (capsL L ++ S)) a.toNat = encX X :=
    (app_iff (by rw [sl_len, hel])).1 hs
  have hXn : a.toNat = X.length := by omega
  have d1 := dec_enc (capsL L ++ S) (F ++ A) 0 hTl (fun z hz => (hf z hz).1) hB (fun i hi => fitT_at h4 hTl i hi) hs2.1
  have d2 : decX (envV (capsL L ++ S) (F ++ A) X) (offN (capsL L ++ S)) a.toNat = X := by
    rw [hXn]
    exact decX_encX (by rw [← hXn]; exact hs2.2)
  refine ⟨?_, hEl, ?_, d1, d2⟩
  · intro x hx
    rcases List.mem_append.1 hx with hx | hx
    · exact enc_w16 (fun t ht => ⟨hB t ht, hl3 t ht⟩) x hx
    · unfold encX at hx
      obtain ⟨w, _, rfl⟩ := List.mem_map.1 hx
      cases w <;> simp
  · unfold inpB
    rw [d1, d2, h3, List.take_of_length_le (by omega), decide_eq_true rfl]
    rfl

theorem castTurns_true {R : Type} (n : Nat) (L : List EN) (S : List Int) (a b c : Int) (F A : List (List Int)) (X : List Bool) (E : List Int) (hl : L.length ≤ 9223372036854775807) (hN : L.length < n + 3000) (hF : ∀ t ∈ F, Byt t) (hA : ∀ t ∈ A, Byt t) (hE : W16 E) (k : Bool → Option R) :
    law18_CastTurns (n + 3000) L S a b c F A X E k = k true := by
  unfold law18_CastTurns law18_CastTurns_T
  rw [awake18]
  obtain ⟨w, hw, hsm⟩ := small_ex (n + 3000) L S a b c hl hN
  rw [hsm]
  cases w with
  | false => rfl
  | true =>
    obtain ⟨hL60, hS60⟩ := hw rfl
    rw [br_not (b := !true) rfl, br_of (b := !(!true)) rfl, br_ndec, br_ndec, br_ndec, br_dec]
    by_cases h1 : (60 : Int) < (F.length : Int)
    · rw [if_pos h1]
    rw [if_neg h1]
    by_cases h2 : (60 : Int) < (A.length : Int)
    · rw [if_pos h2]
    rw [if_neg h2]
    by_cases h3 : (60 : Int) < (X.length : Int)
    · rw [if_pos h3]
    rw [if_neg h3]
    by_cases h4 : (300 : Int) < (E.length : Int)
    · rw [if_pos h4]
    rw [if_neg h4]
    have hB : ∀ t ∈ F ++ A, Byt t := fun t ht => by
      rcases List.mem_append.1 ht with h | h
      · exact hF t h
      · exact hA t h
    rw [Env_eq18 (n + 3000) (by omega) L S a b c hL60 hS60 F A hB X (by omega)]
    cases hm : mayB L S a b c with
    | false =>
      rw [if_neg (by decide), refMay_eq17 (n + 3000) (by omega) L S (by omega), hm, br_of (b := !false) rfl, Input_eq (n + 3000) (by omega) L S a b c hL60 hS60 E hE (by omega), hm, if_neg (by decide),
        br_of (decide_eq_true rfl), br_of (decide_eq_true rfl), vars_none (n + 3000) (by omega) L S a b c hm, br_of (decide_eq_true rfl)]
      rfl
    | true =>
      obtain ⟨hf, hL8, hS2, hC6, ha0, ha6⟩ := may_fit hm
      rw [if_pos rfl]
      cases hh : hasB L S a b c F A X with
      | false =>
        rw [if_neg (by decide), refMay_eq17 (n + 3000) (by omega) L S (by omega), hm, br_not (b := !true) rfl, rHas_eq (n + 3000) (by omega) L S a b c hL60 hS60 F A X (by omega), hh, br_of (b := !false) rfl,
          br_of (b := !(!decide ((12 : Int) = 12))) rfl, br_not (b := !decide _) rfl]
        exact tail_eq n L S a b c hL60 hS60 hm E hE (by omega) k _
      | true =>
        obtain ⟨_, hFl, hAl, hX, hfit⟩ := hasB_iff hh
        obtain ⟨e1, e2, e3, e4, e5⟩ := env_inp hh hB
        have hlenC : (capsL L ++ S).length = (capsL L).length + S.length := List.length_append
        have ho := offs_offN hf
        have hob := offs_le hf
        rw [if_pos rfl, refMay_eq17 (n + 3000) (by omega) L S (by omega), hm, br_not (b := !true) rfl, rHas_eq (n + 3000) (by omega) L S a b c hL60 hS60 F A X (by omega), hh, br_not (b := !true) rfl,
          Input18_eq (n + 3000) (by omega) L S a b c hL60 hS60 _ e1 (by rw [e2]; omega), if_pos hm, if_neg (by rw [e2]; omega), if_pos e3, e4, e5,
          br_of (b := !(!decide ((0 : Int) = 0))) rfl, br_of (b := !(!decide ((0 : Int) = 0))) rfl, refEnv_eq (n + 3000) (by omega) L S a b c hL60 hS60 F A X hh hB (by omega), sn_eq (n + 3000) (by omega) _ (by rw [e2]; omega),
          br_of (b := !(!true)) rfl]
        have h5 := fun K => sameO_eq (R := R) (n + 3000) (by omega) F A X (capsL L).length (by omega) (by omega) (by omega) K
        rw [hFl, show A.length = (capsL L ++ S).length - (capsL L).length by omega] at h5
        rw [h5, br_of (b := !(!true)) rfl, Vars_eq (n + 3000) (by omega) L S a b c hm, br_not (by rw [decide_eq_true (by rw [e2]; omega)]; rfl)]
        exact tail_eq n L S a b c hL60 hS60 hm E hE (by omega) k _

end Go.Proofs.Ytlfhmecdgfennaa
