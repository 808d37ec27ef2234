/-
  the law CastPlaces of chapter 18, as a printed function: it comes to true.
-/
import Derived.Test.YtlfhmecdgfennaaPCastB
import Derived.KernelRfl
set_option linter.unusedVariables false
set_option linter.unusedSimpArgs false
namespace Go.Proofs.Ytlfhmecdgfennaa
open Go.Gx

set_option maxRecDepth 100000 in
theorem awake18 {R : Type} (n : Nat) (k : Bool → Option R) : law18_awake (n + 3000) k = k true := by kernel_rfl

theorem small_l0 (N : Nat) (L : List EN) (S : List Int) (a b c : Int) (hl : L.length ≤ 9223372036854775807) : ∀ (n q : Nat), q ≤ L.length → L.length - q < n → ∀ (s : Int), ∃ s' : Int, ∀ {R : Type} (k : Int → List EN → List Int → Int → Int → Int → Option R),
    law17_Small_l0 N k n s (q : Int) L S a b c = k s' L S a b c
  | 0, q, _, hn, _ => by omega
  | n + 1, q, hq, hn, s => by
    by_cases hlt : q < L.length
    · obtain ⟨s', hc⟩ := small_l0 N L S a b c hl n (q + 1) (by omega) (by omega) (IntKind.wrap .i64 (s + (L[q].1.size : Int)))
      refine ⟨s', fun k => ?_⟩
      have hg0 : L.getD q (bs [], false, 0) = L[q] := by simp [List.getD, hlt]
      simp only [law17_Small_l0, law17_Small_l0_T0, Int.toNat_natCast, hg0]
      rw [br_of (decide_eq_true (by omega)), br_of (inB_of (by omega)), w64_succ (by omega)]
      exact hc k
    · refine ⟨s, fun k => ?_⟩
      simp only [law17_Small_l0, law17_Small_l0_T0]
      rw [br_not (decide_eq_false (by omega))]

theorem small_ex (N : Nat) (L : List EN) (S : List Int) (a b c : Int) (hl : L.length ≤ 9223372036854775807) (hN : L.length < N) : ∃ w : Bool, (w = true → L.length ≤ 60 ∧ S.length ≤ 60) ∧ ∀ {R : Type} (k : Bool → Option R), law17_Small N L S a b c k = k w := by
  obtain ⟨s, hs⟩ := small_l0 N L S a b c hl N 0 (by omega) (by omega) 0
  refine ⟨decide ((L.length : Int) ≤ 60) && (decide (s ≤ 2000) && decide ((S.length : Int) ≤ 60)), fun h => ?_, fun k => ?_⟩
  · simp only [Bool.and_eq_true, decide_eq_true_eq] at h
    omega
  · unfold law17_Small law17_Small_T
    refine (hs _).trans ?_
    cases decide ((L.length : Int) ≤ 60) <;> cases decide (s ≤ 2000) <;> rfl

section
variable {R : Type} (N : Nat) (hN : 300 < N) (L : List EN) (S : List Int) (a b c : Int) (H : mayB L S a b c = true)
include hN H

theorem places_l1 (k0 : Bool → Int → Int → List EN → List Int → Int → Int → Int → List Int → Option R) (k1 : Int → Int → List EN → List Int → Int → Int → Int → List Int → Option R) (i : Nat) (hi : i < (capsL L ++ S).length) :
    ∀ (m o n : Nat), ((capsL L ++ S)[i]).toNat - o = m → (o : Int) ≤ (capsL L ++ S)[i] → m < n →
      law18_CastPlaces_l1 N k0 k1 n (offs ((capsL L ++ S).take i) + 1 + (o : Int)) (i : Int) (o : Int) L S a b c (capsL L ++ S) = k1 (offs ((capsL L ++ S).take (i + 1))) (i : Int) L S a b c (capsL L ++ S) := by
  obtain ⟨hf, hL, hS, hC, ha⟩ := may_fit H
  have hb := offs_le (hf.sub i)
  have hlen : ((capsL L ++ S).take i).length ≤ 6 := by rw [List.length_take]; omega
  have hg0 : (capsL L ++ S).getD i 0 = (capsL L ++ S)[i] := by simp only [List.getD, List.getElem?_eq_getElem hi, Option.getD_some]
  have hfi := hf (capsL L ++ S)[i] (List.getElem_mem hi)
  intro m
  induction m with
  | zero =>
    intro o n hm ho hn
    obtain ⟨n, rfl⟩ : ∃ n', n = n' + 1 := ⟨n - 1, by omega⟩
    simp only [law18_CastPlaces_l1, law18_CastPlaces_l1_T0, Int.toNat_natCast, hg0]
    rw [br_of (inB_of (by omega)), br_of (decide_eq_true hi), br_not (decide_eq_false (by omega))]
    congr 1
    rw [List.take_succ_eq_append_getElem hi, offs_app]
    show _ = _ + ((1 + _) + 0)
    omega
  | succ m ih =>
    intro o n hm ho hn
    obtain ⟨n, rfl⟩ : ∃ n', n = n' + 1 := ⟨n - 1, by omega⟩
    have hlt : (o : Int) < (capsL L ++ S)[i] := by omega
    simp only [law18_CastPlaces_l1, law18_CastPlaces_l1_T0, Int.toNat_natCast, hg0]
    rw [br_of (inB_of (by omega)), br_of (decide_eq_true hi), br_of (decide_eq_true hlt), Byte_eq N hN L S a b c H i hi o (by omega), if_pos hlt, w64_succ (by omega), w64 (by omega)]
    rw [br_of (b := !(!true)) rfl, br_not (b := !decide _) (by rw [decide_eq_true rfl]; rfl)]
    have := ih (o + 1) n (by omega) (by omega) (by omega)
    rw [← this]
    congr 1
    omega

theorem places_l0 (k0 : Bool → Int → List EN → List Int → Int → Int → Int → List Int → Option R) (k1 : Int → List EN → List Int → Int → Int → Int → List Int → Option R) :
    ∀ (m i n : Nat), (capsL L ++ S).length - i = m → i ≤ (capsL L ++ S).length → m < n →
      law18_CastPlaces_l0 N k0 k1 n (offs ((capsL L ++ S).take i)) (i : Int) L S a b c (capsL L ++ S) = k1 (offs (capsL L ++ S)) L S a b c (capsL L ++ S) := by
  obtain ⟨hf, hL, hS, hC, ha⟩ := may_fit H
  intro m
  induction m with
  | zero =>
    intro i n hm hi hn
    obtain ⟨n, rfl⟩ : ∃ n', n = n' + 1 := ⟨n - 1, by omega⟩
    have : i = (capsL L ++ S).length := by omega
    subst this
    simp only [law18_CastPlaces_l0, law18_CastPlaces_l0_T0, List.take_length]
    rw [br_not (decide_eq_false (by omega))]
  | succ m ih =>
    intro i n hm hi hn
    obtain ⟨n, rfl⟩ : ∃ n', n = n' + 1 := ⟨n - 1, by omega⟩
    have hlt : i < (capsL L ++ S).length := by omega
    have hb := offs_le (hf.sub i)
    have hlen : ((capsL L ++ S).take i).length ≤ 6 := by rw [List.length_take]; omega
    have hg0 : (capsL L ++ S).getD i 0 = (capsL L ++ S)[i] := by simp only [List.getD, List.getElem?_eq_getElem hlt, Option.getD_some]
    have hfi := hf (capsL L ++ S)[i] (List.getElem_mem hlt)
    simp only [law18_CastPlaces_l0, law18_CastPlaces_l0_T0]
    rw [br_of (decide_eq_true (by omega)), Size_eq N hN L S a b c H, if_neg (by omega), Int.toNat_natCast, br_not (by rw [decide_eq_true rfl]; rfl), w64 (x := offs ((capsL L ++ S).take i) + 1) (by omega)]
    have h1 := places_l1 (R := R) N hN L S a b c H (fun b498 i499 i500 l501 l502 i503 i504 i505 l506 => k0 b498 i499 l501 l502 i503 i504 i505 l506)
      (fun i507 i508 l509 l510 i511 i512 i513 l514 => br (inB i508 (List.length l514))
        (br (decide ((Int.toNat i508) < (List.length l514)))
         (cast_Byte N l509 l510 i511 i512 i513 i508 (List.getD l514 (Int.toNat i508) (0 : Int))
          (fun i515 b516 => br b516
           (k0 false i507 l509 l510 i511 i512 i513 l514)
           (law18_CastPlaces_l0 N k0 k1 n i507 (IntKind.wrap .i64 (i508 + (1 : Int))) l509 l510 i511 i512 i513 l514)))
         (none))
        (none)) i hlt ((capsL L ++ S)[i]).toNat 0 N (by omega) (by omega) (by omega)
    rw [show offs ((capsL L ++ S).take i) + 1 + ((0 : Nat) : Int) = offs ((capsL L ++ S).take i) + 1 by omega] at h1
    refine h1.trans ?_
    have hcast : (((capsL L ++ S)[i]).toNat : Int) = (capsL L ++ S)[i] := by omega
    simp only [Int.toNat_natCast, hg0]
    have h2 := Byte_eq (R := R) N hN L S a b c H i hlt ((capsL L ++ S)[i]).toNat (by omega)
    rw [hcast] at h2
    rw [br_of (inB_of (by omega)), br_of (decide_eq_true hlt), h2, if_neg (by omega), br_not rfl, w64_succ (by omega)]
    exact ih (i + 1) n (by omega) (by omega) (by omega)

theorem places_l2 (k0 : Bool → Int → List EN → List Int → Int → Int → Int → List Int → Option R) (k1 : Int → List EN → List Int → Int → Int → Int → List Int → Option R) :
    ∀ (m j n : Nat), a.toNat - j = m → (j : Int) ≤ a → m < n →
      law18_CastPlaces_l2 N k0 k1 n (offs (capsL L ++ S) + (j : Int)) (j : Int) L S a b c (capsL L ++ S) = k1 (offs (capsL L ++ S) + a) L S a b c (capsL L ++ S) := by
  obtain ⟨hf, hL, hS, hC, ha0, ha⟩ := may_fit H
  have hb := offs_le hf
  intro m
  induction m with
  | zero =>
    intro j n hm hj hn
    obtain ⟨n, rfl⟩ : ∃ n', n = n' + 1 := ⟨n - 1, by omega⟩
    have : (j : Int) = a := by omega
    simp only [law18_CastPlaces_l2, law18_CastPlaces_l2_T0]
    rw [br_not (decide_eq_false (by omega)), this]
  | succ m ih =>
    intro j n hm hj hn
    obtain ⟨n, rfl⟩ : ∃ n', n = n' + 1 := ⟨n - 1, by omega⟩
    have hlt : (j : Int) < a := by omega
    simp only [law18_CastPlaces_l2, law18_CastPlaces_l2_T0]
    rw [br_of (decide_eq_true hlt), Fail_eq N hN L S a b c H (j : Int) (by omega), if_pos hlt, w64_succ (by omega), w64 (by omega)]
    rw [br_of (b := !(!true)) rfl, br_not (b := !decide _) (by rw [decide_eq_true rfl]; rfl)]
    have := ih (j + 1) n (by omega) (by omega) (by omega)
    rw [← this]
    congr 1
    omega

end

theorem castPlaces_true {R : Type} (n : Nat) (L : List EN) (S : List Int) (a b c : Int) (hl : L.length ≤ 9223372036854775807) (hN : L.length < n + 3000) (k : Bool → Option R) : law18_CastPlaces (n + 3000) L S a b c k = k true := by
  unfold law18_CastPlaces law18_CastPlaces_T
  rw [awake18]
  obtain ⟨w, hw, hsm⟩ := small_ex (n + 3000) L S a b c hl hN
  rw [hsm]
  cases w with
  | false => rfl
  | true =>
    obtain ⟨hL60, hS60⟩ := hw rfl
    rw [br_not (b := !true) rfl, br_of (b := !(!true)) rfl, refMay_eq17 (n + 3000) (by omega) L S (by omega)]
    cases H : mayB L S a b c with
    | false => rfl
    | true =>
      obtain ⟨hf, hL, hS, hC, ha0, ha⟩ := may_fit H
      have hb := offs_le hf
      rw [br_not (b := !true) rfl, refCaps_eq (n + 3000) (by omega) L (by omega) S (by omega)]
      refine (places_l0 (n + 3000) (by omega) L S a b c H _ _ (capsL L ++ S).length 0 (n + 3000) (by omega) (by omega) (by omega)).trans ?_
      have h2 := places_l2 (R := R) (n + 3000) (by omega) L S a b c H (fun b539 i540 l541 l542 i543 i544 i545 l546 => k b539)
        (fun i547 l548 l549 i550 i551 i552 l553 => cast_Fail (n + 3000) l548 l549 i550 i551 i552 i550
           (fun i554 b555 => cast_Byte (n + 3000) l548 l549 i550 i551 i552 (Nat.cast (List.length l553) : Int) (0 : Int)
            (fun i556 b557 => cast_Vars (n + 3000) l548 l549 i550 i551 i552
             (fun i558 => br (decide (i547 = i558))
              (br (!b555)
               (br (!b557)
                (cast_Size (n + 3000) l548 l549 i550 i551 i552 (Nat.cast (List.length l553) : Int)
                 (fun i559 => br (decide (i559 = (-1 : Int)))
                  (cast_Size (n + 3000) l548 l549 i550 i551 i552 (-1 : Int)
                   (fun i560 => k (decide (i560 = (-1 : Int)))))
                  (k false)))
                (k false))
               (k false))
              (k false))))) a.toNat 0 (n + 3000) (by omega) (by omega) (by omega)
      rw [show offs (capsL L ++ S) + ((0 : Nat) : Int) = offs (capsL L ++ S) by omega] at h2
      refine h2.trans ?_
      rw [Fail_eq (n + 3000) (by omega) L S a b c H a (by omega), if_neg (by omega), Byte_out (n + 3000) (by omega) L S a b c H, Vars_eq (n + 3000) (by omega) L S a b c H, br_of (decide_eq_true (by omega)), br_of (b := !false) rfl, br_of (b := !false) rfl,
        Size_eq (n + 3000) (by omega) L S a b c H, if_pos (by omega), br_of (decide_eq_true rfl), Size_eq (n + 3000) (by omega) L S a b c H, if_pos (by omega)]
      rfl

end Go.Proofs.Ytlfhmecdgfennaa
