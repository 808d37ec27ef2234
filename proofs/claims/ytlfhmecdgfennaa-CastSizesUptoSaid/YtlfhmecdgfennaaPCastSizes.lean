/-
  the law CastSizes of chapter 18, as a printed function: it comes to true.
-/
import Derived.Test.YtlfhmecdgfennaaPCastNW
import Derived.Test.YtlfhmecdgfennaaPCastNP
set_option linter.unusedVariables false
set_option linter.unusedSimpArgs false
namespace Go.Proofs.Ytlfhmecdgfennaa
open Go.Gx

/-! ### what stands where -/
theorem offs_nat : ∀ {C : List Int}, Fit C → offs C = (offN C : Int)
  | [], _ => rfl
  | c :: C, h => by
    have := offs_nat (C := C) fun z hz => h z (List.mem_cons_of_mem _ hz)
    have hc := h c List.mem_cons_self
    simp only [offs, offN, this]
    omega
theorem offN_take_le : ∀ (C : List Int) (i : Nat), offN (C.take i) ≤ offN C
  | [], i => by simp [offN]
  | c :: C, 0 => by simp [offN]
  | c :: C, i + 1 => by
    have := offN_take_le C i
    simp only [List.take_succ_cons, offN]
    omega
theorem enc_split : ∀ {C : List Int} {T : List (List Int)} (i : Nat) (hC : i < C.length) (hT : i < T.length), ∃ A B, encT C T = A ++ ((T[i].length : Int) :: (padT (C[i]).toNat T[i] ++ B)) ∧ A.length = offN (C.take i)
  | c :: C, t :: T, 0, _, _ => ⟨[], encT C T, rfl, rfl⟩
  | c :: C, t :: T, i + 1, hC, hT => by
    obtain ⟨A, B, h1, h2⟩ := enc_split (C := C) (T := T) i (by simpa using hC) (by simpa using hT)
    refine ⟨(t.length : Int) :: (padT c.toNat t ++ A), B, ?_, ?_⟩
    · show (t.length : Int) :: (padT c.toNat t ++ encT C T) = _
      rw [h1]
      simp
    · simp only [List.length_cons, List.length_append, padT_len, h2, List.take_succ_cons, offN]
      omega
theorem pad_get {c k : Nat} {t : List Int} (h : k < c) : (padT c t).getD k 0 = t.getD k 0 := by
  unfold padT
  simp only [List.getD, List.getElem?_map, List.getElem?_range h, Option.map_some, Option.getD_some]
theorem get_app {A B : List Int} {k : Nat} : (A ++ B).getD (A.length + k) 0 = B.getD k 0 := by
  simp [List.getD, List.getElem?_append_right]
theorem enc_at {C : List Int} {T : List (List Int)} {Y : List Int} (i : Nat) (hC : i < C.length) (hT : i < T.length) :
    (encT C T ++ Y).getD (offN (C.take i)) 0 = (T[i].length : Int) ∧ offN (C.take i) < (encT C T ++ Y).length ∧
    ∀ k, k < (C[i]).toNat → (encT C T ++ Y).getD (offN (C.take i) + 1 + k) 0 = T[i].getD k 0 ∧ offN (C.take i) + 1 + k < (encT C T ++ Y).length := by
  obtain ⟨A, B, h1, h2⟩ := enc_split i hC hT
  rw [h1, ← h2, List.append_assoc]
  refine ⟨?_, by simp, fun k hk => ⟨?_, by simp [padT_len]; omega⟩⟩
  · have := get_app (A := A) (B := ((T[i].length : Int) :: (padT (C[i]).toNat T[i] ++ B)) ++ Y) (k := 0)
    rw [Nat.add_zero] at this
    rw [this]
    rfl
  · rw [Nat.add_assoc, get_app, Nat.add_comm 1 k]
    show ((padT (C[i]).toNat T[i] ++ B) ++ Y).getD k 0 = _
    rw [List.append_assoc, List.getD, List.getElem?_append_left (by rw [padT_len]; exact hk)]
    exact pad_get hk
theorem encX_at {A : List Int} {X : List Bool} (j : Nat) (h : j < X.length) : (A ++ encX X).getD (A.length + j) 0 = if X[j] = true then 1 else 0 := by
  rw [get_app]
  unfold encX
  simp only [List.getD, List.getElem?_map, List.getElem?_eq_getElem h, Option.map_some, Option.getD_some]

section
variable {R : Type} (N : Nat) (hN : 1000 < N) (L : List EN) (S : List Int) (a b c : Int) (H : mayB L S a b c = true)
include hN H

theorem sz_l1 (k0 k1 k2 k3 k4 k5 k6 k7) (p q r s : Nat) (X : List Bool) (U : List (List Int)) (E : List Int) (T : List (List Int)) (i : Nat) (hi : i < (capsL L ++ S).length) (hT : i < T.length) (hB : Byt T[i])
    (hE : ∀ j, j < ((capsL L ++ S)[i]).toNat → E.getD (offN ((capsL L ++ S).take i) + 1 + j) 0 = T[i].getD j 0 ∧ offN ((capsL L ++ S).take i) + 1 + j < E.length) :
    ∀ (m j n : Nat), ((capsL L ++ S)[i]).toNat - j = m → j ≤ ((capsL L ++ S)[i]).toNat → m < n → law18_CastSizes_l1 (R := R) N k0 k1 k2 k3 k4 k5 k6 k7 n (.v3 (i : Int) (j : Int) L S a b c p q r s X U E T (capsL L ++ S)) = k7 (i : Int) L S a b c p q r s X U E T (capsL L ++ S) := by
  obtain ⟨hf, hL8, hS2, hC6, ha0, ha6⟩ := may_fit H
  have hc := hf _ (List.getElem_mem hi)
  have hob := offs_le (hf.sub i)
  have hon := offs_nat (hf.sub i)
  have hil : ((capsL L ++ S).take i).length ≤ 6 := by rw [List.length_take]; omega
  intro m
  induction m with
  | zero =>
    intro j n hm hj hn
    obtain ⟨n, rfl⟩ : ∃ n', n = n' + 1 := ⟨n - 1, by omega⟩
    simp only [law18_CastSizes_l1, law18_CastSizes_l1_T3, Int.toNat_natCast, getD_at hi]
    rw [br_of (inB_of (by omega)), br_of (decide_eq_true hi), br_not (decide_eq_false (by omega))]
  | succ m ih =>
    intro j n hm hj hn
    obtain ⟨n, rfl⟩ : ∃ n', n = n' + 1 := ⟨n - 1, by omega⟩
    obtain ⟨e1, e2⟩ := hE j (by omega)
    have ih := ih (j + 1) n (by omega) (by omega) (by omega)
    have hid : (offs ((capsL L ++ S).take i) + 1 + (j : Int)) = ((offN ((capsL L ++ S).take i) + 1 + j : Nat) : Int) := by rw [hon]; omega
    simp only [law18_CastSizes_l1, law18_CastSizes_l1_T3, Int.toNat_natCast, getD_at hi, getD_at hT]
    rw [br_of (inB_of (by omega)), br_of (decide_eq_true hi), br_of (decide_eq_true (by omega)), Byte_eq N (by omega) L S a b c H i hi j (by omega), if_pos (by omega), hid, br_of (inB_of (by omega)), br_of (decide_eq_true hT), br_dec, w64_succ (by omega)]
    simp only [Int.toNat_natCast, e1]
    by_cases h : (j : Int) < (T[i].length : Int)
    · have hlt : j < T[i].length := by omega
      have hb := hB T[i][j] (List.getElem_mem hlt)
      rw [if_pos h, br_of (inB_of (by omega)), br_of (decide_eq_true hT), br_of (inB_of (by omega)), br_of (b := !(!true)) rfl, br_of (inB_of (by omega)), br_of (decide_eq_true e2), getD_at hlt, u16_small (by omega), br_not (by rw [decide_eq_true rfl]; rfl)]
      exact ih
    · have : T[i].getD j 0 = 0 := by simp [List.getD, show T[i].length ≤ j by omega]
      rw [if_neg h, br_of (b := !(!true)) rfl, br_of (inB_of (by omega)), br_of (decide_eq_true e2), this, br_not (by rw [decide_eq_true rfl]; rfl)]
      exact ih

theorem sz_l0 (k0 k1 k2 k3 k4 k5 k6 k7) (p q r s : Nat) (X : List Bool) (U : List (List Int)) (E : List Int) (T : List (List Int)) (hT : T.length = (capsL L ++ S).length) (hB : ∀ t ∈ T, Byt t ∧ t.length ≤ 1000)
    (hE0 : ∀ i (h : i < T.length), E.getD (offN ((capsL L ++ S).take i)) 0 = (T[i].length : Int) ∧ offN ((capsL L ++ S).take i) < E.length)
    (hE : ∀ i (h : i < (capsL L ++ S).length) (h' : i < T.length) j, j < ((capsL L ++ S)[i]).toNat → E.getD (offN ((capsL L ++ S).take i) + 1 + j) 0 = T[i].getD j 0 ∧ offN ((capsL L ++ S).take i) + 1 + j < E.length) :
    ∀ (m i n : Nat), T.length - i = m → i ≤ T.length → m < n → law18_CastSizes_l0 (R := R) N k0 k1 k2 k3 k4 k5 k6 k7 n (.v3 (i : Int) L S a b c p q r s X U E T (capsL L ++ S)) = k7 L S a b c p q r s X U E := by
  obtain ⟨hf, hL8, hS2, hC6, ha0, ha6⟩ := may_fit H
  intro m
  induction m with
  | zero =>
    intro i n hm hi hn
    obtain ⟨n, rfl⟩ : ∃ n', n = n' + 1 := ⟨n - 1, by omega⟩
    simp only [law18_CastSizes_l0, law18_CastSizes_l0_T3]
    rw [br_not (decide_eq_false (by omega))]
  | succ m ih =>
    intro i n hm hi hn
    obtain ⟨n, rfl⟩ : ∃ n', n = n' + 1 := ⟨n - 1, by omega⟩
    have hlt : i < T.length := by omega
    have hltC : i < (capsL L ++ S).length := by omega
    obtain ⟨e1, e2⟩ := hE0 i hlt
    have hob := offs_le (hf.sub i)
    have hon := offs_nat (hf.sub i)
    have hb := hB T[i] (List.getElem_mem hlt)
    have hc := hf _ (List.getElem_mem hltC)
    have ih := ih (i + 1) n (by omega) (by omega) (by omega)
    simp only [law18_CastSizes_l0, law18_CastSizes_l0_T3, Int.toNat_natCast, getD_at hlt]
    rw [br_of (decide_eq_true (by omega)), Size_eq N (by omega) L S a b c H, if_neg (by omega)]
    simp only [Int.toNat_natCast, hon, e1]
    rw [br_of (by rw [decide_eq_false (by omega)]; rfl), br_of (by rw [decide_eq_false (by omega)]; rfl), br_of (inB_of (by omega)), br_of (decide_eq_true e2),
      br_of (inB_of (by omega)), br_of (decide_eq_true hlt), w64 (x := (T[i].length : Int)) (by omega), br_not (by rw [decide_eq_true rfl]; rfl)]
    refine (sz_l1 N hN L S a b c H _ _ _ _ _ _ _ _ p q r s X U E T i hltC hlt hb.1 (hE i hltC hlt) _ 0 N rfl (by omega) (by omega)).trans ?_
    rw [w64_succ (by omega)]
    exact ih

theorem sz_l2 (k0 : Bool → Option R) (k1 : Option R) (p q r s : Nat) (X : List Bool) (U : List (List Int)) (E : List Int) (hX : (X.length : Int) = a)
    (hE : ∀ j (h : j < X.length), E.getD (offN (capsL L ++ S) + j) 0 = (if X[j] = true then 1 else 0) ∧ offN (capsL L ++ S) + j < E.length) :
    ∀ (m j n : Nat), X.length - j = m → j ≤ X.length → m < n → law18_CastSizes_l2 (R := R) N k0 k1 n (.v3 (j : Int) L S a b c p q r s X U E) = k1 := by
  obtain ⟨hf, hL8, hS2, hC6, ha0, ha6⟩ := may_fit H
  intro m
  induction m with
  | zero =>
    intro j n hm hj hn
    obtain ⟨n, rfl⟩ : ∃ n', n = n' + 1 := ⟨n - 1, by omega⟩
    simp only [law18_CastSizes_l2, law18_CastSizes_l2_T3]
    rw [br_not (decide_eq_false (by omega))]
  | succ m ih =>
    intro j n hm hj hn
    obtain ⟨n, rfl⟩ : ∃ n', n = n' + 1 := ⟨n - 1, by omega⟩
    have hlt : j < X.length := by omega
    obtain ⟨e1, e2⟩ := hE j hlt
    have hob := offs_le hf
    have hon := offs_nat hf
    have ih := ih (j + 1) n (by omega) (by omega) (by omega)
    have hid : offs (capsL L ++ S) + (j : Int) = ((offN (capsL L ++ S) + j : Nat) : Int) := by rw [hon]; omega
    simp only [law18_CastSizes_l2, law18_CastSizes_l2_T3]
    rw [br_of (decide_eq_true (by omega)), Fail_eq N (by omega) L S a b c H (j : Int) (by omega), if_pos (by omega), hid, br_of (b := !(!true)) rfl, w64_succ (by omega)]
    simp only [Int.toNat_natCast, getD_at hlt, e1]
    rw [br_of (inB_of (by omega)), br_of (decide_eq_true e2), br_of (inB_of (by omega))]
    cases X[j] with
    | true =>
      rw [if_pos rfl, br_of (b := !(!(decide ((1 : Int) = 1) == true))) rfl, br_of (inB_of (by omega)), br_of (decide_eq_true e2), br_not (decide_eq_false (by omega))]
      exact ih
    | false =>
      rw [if_neg (by decide), br_of (b := !(!(decide ((0 : Int) = 1) == false))) rfl, br_of (inB_of (by omega)), br_of (decide_eq_true e2), br_not (decide_eq_false (by omega))]
      exact ih
end

theorem castSizes_N {R : Type} (N : Nat) (hN0 : 1000 < N) (hA : ∀ (k : Bool → Option R), law18_awake N k = k true) (L : List EN) (S : List Int) (a b c x : Int) (hl : L.length ≤ 10000000) (hN : L.length < N) (hS : S.length ≤ 10000000) (hx : 0 ≤ x ∧ x ≤ 65535) (k : Bool → Option R) :
    law18_CastSizes N L S a b c x k = k true := by
  unfold law18_CastSizes law18_CastSizes_T
  obtain ⟨w, hw, hsm⟩ := small_ex N L S a b c (by omega) hN
  obtain ⟨o1, h1, e1⟩ := Nth_eq N (by omega) L S hS a b c x hx
  simp only [hA, w64 (show -9223372036854775808 ≤ x ∧ x ≤ 9223372036854775807 by omega), e1, hsm]
  cases w with
  | false => cases o1 <;> rfl
  | true =>
    cases o1 with
    | false => rfl
    | true =>
      obtain ⟨H, hx1⟩ := h1 rfl
      obtain ⟨hf, hL8, hS2, hC6, ha0, ha6⟩ := may_fit H
      obtain ⟨a1, a2, a3, a4, a5⟩ := nth_has H hx.1
      have hle := enc_le a3 hf
      have hel := enc_len a3
      have hX : (rowAt a b x).length ≤ 60 := by omega
      have hon := offs_nat hf
      have hlenC : (capsL L ++ S).length = (capsL L).length + S.length := List.length_append
      have h3 := fit_len hf a5 a3
      have hs1 : sub (txtAt L S a b x) 0 (capsL L).length = (txtAt L S a b x).take (capsL L).length := by simp [sub]
      have hs2 : sub (txtAt L S a b x) (capsL L).length ((txtAt L S a b x).length - (capsL L).length) = (txtAt L S a b x).drop (capsL L).length := by
        unfold sub; rw [List.take_of_length_le (by simp)]
      have htl : ((txtAt L S a b x).take (capsL L).length).length = (capsL L).length := by rw [List.length_take]; omega
      have hdl : ((txtAt L S a b x).drop (capsL L).length).length = (txtAt L S a b x).length - (capsL L).length := List.length_drop
      have hcat : (txtAt L S a b x).take (capsL L).length ++ (txtAt L S a b x).drop (capsL L).length = txtAt L S a b x := List.take_append_drop _ _
      have hxl : (encX (rowAt a b x)).length = (rowAt a b x).length := by unfold encX; rw [List.length_map]
      have hEl : (envV (capsL L ++ S) (txtAt L S a b x) (rowAt a b x)).length = offN (capsL L ++ S) + a.toNat := by unfold envV; rw [List.length_append, hel, hxl, a1]
      simp only [if_true, Bool.not_true, Bool.not_false, br_true, br_false]
      rw [EnvF_eq N (by omega) L S a b c (by omega) (by omega) H _ a4 a3 _ _ hX, a2, a5, if_pos (show (true && true) = true from rfl), br_of (b := !(!decide ((0 : Int) = 0))) rfl, Vars_eq N (by omega) L S a b c H, hon, br_not (by rw [decide_eq_true (by rw [hEl]; omega)]; rfl)]
      have hse : sub (([] : List (List Int)) ++ (txtAt L S a b x).take (capsL L).length) 0 (0 + ((txtAt L S a b x).take (capsL L).length).length) = (txtAt L S a b x).take (capsL L).length := by
        rw [List.nil_append, Nat.zero_add, sub_all]
      rw [br_of (fits_of (by omega)), hs1, hs2, htl, br_of (by rw [decide_eq_true (by omega)]; rfl), br_of (b := decide True && decide True) (by simp), br_of (fits_of (by omega)), br_of (by rw [hdl, decide_eq_true (by omega), fits_of (by simp; omega)]; rfl), refCaps_eq N (by omega) L (by omega) S (by omega)]
      rw [htl] at hse
      rw [hse, hcat]
      have hat := fun i (h1 : i < (capsL L ++ S).length) (h2 : i < (txtAt L S a b x).length) => enc_at (Y := encX (rowAt a b x)) i h1 h2
      refine (sz_l0 N (by omega) L S a b c H _ _ _ _ _ _ _ _ _ _ _ _ (rowAt a b x) (txtAt L S a b x) (envV (capsL L ++ S) (txtAt L S a b x) (rowAt a b x)) (txtAt L S a b x) a3 (fun t ht => ⟨a4 t ht, by have := h3 t ht; omega⟩)
        (fun i h => ⟨(hat i (by omega) h).1, (hat i (by omega) h).2.1⟩) (fun i h h' j hj => (hat i h h').2.2 j hj) _ 0 N rfl (by omega) (by omega)).trans ?_
      refine (sz_l2 N (by omega) L S a b c H _ _ _ _ _ _ (rowAt a b x) (txtAt L S a b x) (envV (capsL L ++ S) (txtAt L S a b x) (rowAt a b x)) (by omega) (fun j h => ⟨?_, by rw [hEl]; omega⟩) _ 0 N rfl (by omega) (by omega)).trans rfl
      have := encX_at (A := encT (capsL L ++ S) (txtAt L S a b x)) j h
      rw [hel] at this
      exact this

theorem castSizes_true {R : Type} (n : Nat) (L : List EN) (S : List Int) (a b c x : Int) (hl : L.length ≤ 10000000) (hN : L.length < n + 3000) (hS : S.length ≤ 10000000) (hx : 0 ≤ x ∧ x ≤ 65535) (k : Bool → Option R) :
    law18_CastSizes (n + 3000) L S a b c x k = k true :=
  castSizes_N (n + 3000) (by omega) (fun k => awake18 n k) L S a b c x hl hN hS hx k

end Go.Proofs.Ytlfhmecdgfennaa
