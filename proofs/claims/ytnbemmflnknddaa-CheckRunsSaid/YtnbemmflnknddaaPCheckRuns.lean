/-
  the law CheckRuns of chapter 11, as a printed function: it comes to true.
-/
import Derived.Test.YtnbemmflnknddaaPCheckRefM
set_option linter.unusedSimpArgs false
set_option linter.unusedVariables false
namespace Go.Proofs.Ytnbemmflnknddaa
open Go.Gx

theorem same_l0 {R : Type} (N : Nat) (k0 : Bool → List Int → List Int → Option R) (k1 : List Int → List Int → Option R) (H : List Int) (hH : H.length ≤ 96) :
    ∀ (n q : Nat), q ≤ H.length → H.length - q < n → law11_same_9dd3_l0 N k0 k1 n (q : Int) H H = k1 H H
  | 0, q, _, hn => by omega
  | n + 1, q, hq, hn => by
    simp only [law11_same_9dd3_l0, law11_same_9dd3_l0_T0, Int.ofNat_lt]
    by_cases hlt : q < H.length
    · simp only [hlt, decide_true, br_true, inB_nat, Int.toNat_natCast, w64_succ (show q < 9223372036854775807 by omega), Bool.not_true, br_false]
      exact same_l0 N k0 k1 H hH n (q + 1) (by omega) (by omega)
    · simp only [hlt, decide_false, br_false]
theorem same_eq {R : Type} (N : Nat) (hN : 100 < N) (H : List Int) (hH : H.length ≤ 96) (k : Bool → List Int → List Int → Option R) : law11_same_9dd3 N H H k = k true H H := by
  unfold law11_same_9dd3 law11_same_9dd3_T
  simp only [decide_true, Bool.not_true, br_false]
  exact same_l0 N _ _ H hH N 0 (by omega) (by omega)

theorem Heights_ex (N : Nat) (hN : 2000 < N) {L : List Ins} {names : List ByteArray} {i e : Int} (h : RunIs L names i e) (hrun : ∀ {R : Type} (k : Int → Int → Option R), check_Run N L names k = k i e) :
    (e ≠ 0 → ∀ {R : Type} (k : List Int → Option R), check_Heights N L names k = k []) ∧ (e = 0 → ∀ M, Final L M → ∀ {R : Type} (k : List Int → Option R), check_Heights N L names k = k (hList L M L.length)) := by
  constructor
  · intro he R k
    unfold check_Heights check_Heights_T
    rw [hrun, br_ndec, if_neg he]
  · intro he M F R k
    subst he
    have hh : 0 < L.length ∧ Well L := by
      cases h with
      | one j _ _ _ _ _ _ _ h => exact absurd rfl h
      | ok M h0 _ _ W _ F hw => exact ⟨h0, W⟩
    obtain ⟨h0, W⟩ := hh
    obtain ⟨M', F', hreach⟩ := reach_ex N hN W h0 names
    have h96 := W.len
    unfold check_Heights check_Heights_T
    rw [hrun, hreach]
    simp only [decide_true, Bool.not_true, br_false]
    refine (Heights_l0 N (by omega) _ W names M' N 0 (by omega) (by omega) [] rfl).trans ?_
    rw [List.nil_append, Nat.sub_zero, ← List.range_eq_range']
    congr 1
    unfold hList
    exact List.map_congr_left fun j hj => by
      have hj := List.mem_range.1 hj
      rw [if_pos hj, F.same W h0 F' hj]

theorem checkRuns_true {R : Type} (n : Nat) (L : List Ins) (names : List ByteArray) (hl : names.length ≤ 9223372036854775807) (hN : names.length < n + 3000) (k : Bool → Option R) : law11_CheckRuns (n + 3000) L names k = k true := by
  unfold law11_CheckRuns law11_CheckRuns_T
  rw [awake11, Bool.not_true, br_false]
  obtain ⟨b, hb⟩ := Small_ex (n + 3000) L names hl hN
  rw [hb]
  cases b with
  | false => rfl
  | true =>
    rw [Bool.not_true, br_false]
    obtain ⟨i, e, hR, hrun⟩ := Run_ex (n + 3000) (by omega) L names
    obtain ⟨H, href, he0, he1⟩ := CheckRef_eq (n + 3000) (by omega) hR
    obtain ⟨hh1, hh2⟩ := Heights_ex (n + 3000) (by omega) hR hrun
    rw [hrun, href]
    simp only [decide_true, br_true]
    have hH : H.length ≤ 96 ∧ ∀ {R : Type} (k : List Int → Option R), check_Heights (n + 3000) L names k = k H := by
      by_cases he : e = 0
      · obtain ⟨M, F, rfl⟩ := he1 he
        refine ⟨?_, fun k => hh2 he M F k⟩
        rw [hList_len]
        cases hR with
        | size h => omega
        | name _ h => omega
        | one j e _ h => omega
        | stack j M _ _ _ W => exact W.len
        | ok M _ _ _ W => exact W.len
      · rw [he0 he]
        exact ⟨by simp, fun k => hh1 he k⟩
    rw [hH.2, same_eq (n + 3000) (by omega) H hH.1]

theorem checkRuns_run {R : Type} (L : List Ins) (names : List ByteArray) (hl : names.length ≤ 9223372036854775807) (k : Bool → Option R) : law11_CheckRuns (names.length + 3000) L names k = k true :=
  checkRuns_true names.length L names hl (by omega) k

end Go.Proofs.Ytnbemmflnknddaa
