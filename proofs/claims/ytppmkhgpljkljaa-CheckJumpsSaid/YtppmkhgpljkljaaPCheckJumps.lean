/-
  the law CheckJumps of chapter 11, as a printed function: it comes to true.
-/
import Derived.Test.YtppmkhgpljkljaaPCheckO
import Derived.KernelRfl
set_option linter.unusedSimpArgs false
set_option linter.unusedVariables false
namespace Go.Proofs.Ytppmkhgpljkljaa
open Go.Gx

theorem t1 : tk 1 = 0 ∧ gv 1 = 1 := by decide +kernel
theorem t22 : tk 22 = 0 ∧ gv 22 = 0 := by decide +kernel
theorem t26 : tk 26 = 1 ∧ gv 26 = 0 := by decide +kernel
theorem i1 : isI 1 0 = true ∧ isI 26 0 = true := by decide +kernel
theorem i22 : ∀ a : Fin 96, isI 22 ((a.val : Nat) : Int) = true := by decide +kernel

/-- a program of jumps, and its end -/
structure Jumps (P : List Ins) (n : Nat) (exit : Bool) (A : Nat → Nat) : Prop where
  n60 : n ≤ 60
  len : P.length = if exit then n + 2 else n
  jump : ∀ i, i < n → P.getD i (0, 0) = (22, ((A i : Nat) : Int)) ∧ A i < 96
  push : exit = true → P.getD n (0, 0) = (1, 0)
  stop : exit = true → P.getD (n + 1) (0, 0) = (26, 0)

theorem Jumps.ones {P : List Ins} {n : Nat} {exit : Bool} {A : Nat → Nat} (J : Jumps P n exit A) {i : Nat} (hi : i < P.length) : oneV P 0 i = if i < n ∧ P.length ≤ A i then 6 else 0 := by
  have hl := J.len
  unfold oneV opAt aAt
  by_cases h : i < n
  · obtain ⟨h1, h2⟩ := J.jump i h
    rw [h1]
    simp only [i22 ⟨A i, h2⟩]
    have hnm : ∀ a : Int, namesI 22 a 0 = true := fun a => rfl
    rw [if_neg (by decide), if_neg (by rw [hnm]; decide)]
    by_cases hA : P.length ≤ A i
    · rw [if_pos ⟨by decide, by omega⟩, if_pos ⟨h, hA⟩]
    · rw [if_neg (fun h => by have := h.2; omega), if_neg (fun h => by have := h.1; revert this; decide), if_neg (fun h => hA h.2)]
  · rw [if_neg (c := i < n ∧ P.length ≤ A i) (fun h' => h h'.1)]
    cases hx : exit with
    | false => rw [hx] at hl; simp at hl; omega
    | true =>
      rw [hx] at hl
      simp at hl
      rcases Nat.lt_or_ge n i with h1 | h1
      · obtain rfl : i = n + 1 := by omega
        rw [J.stop hx]
        simp only [i1.2]
        rw [if_neg (by decide), if_neg (by decide), if_neg (fun h => by have := h.1; revert this; decide), if_neg (fun h => by have := h.1; revert this; decide)]
      · obtain rfl : i = n := by omega
        rw [J.push hx]
        simp only [i1.1]
        rw [if_neg (by decide), if_neg (by decide), if_neg (fun h => by have := h.1; revert this; decide), if_neg (fun h => by have := h.2; omega)]

/-- where the jumps lead -/
inductive Ch (n : Nat) (A : Nat → Nat) : Nat → Prop
  | zero : Ch n A 0
  | next {i : Nat} : Ch n A i → i < n → Ch n A (A i)

theorem Jumps.nexts {P : List Ins} {n : Nat} {exit : Bool} {A : Nat → Nat} (J : Jumps P n exit A) {i : Nat} (hi : i < n) : nexts P i = [((A i : Nat) : Int)] := by
  unfold Go.Proofs.Ytppmkhgpljkljaa.nexts opAt aAt
  rw [(J.jump i hi).1]
  rfl
theorem Jumps.nexts1 {P : List Ins} {n : Nat} {A : Nat → Nat} (J : Jumps P n true A) : Go.Proofs.Ytppmkhgpljkljaa.nexts P n = [((n + 1 : Nat) : Int)] := by
  unfold Go.Proofs.Ytppmkhgpljkljaa.nexts opAt aAt
  rw [J.push rfl]
  rfl
theorem Jumps.nexts2 {P : List Ins} {n : Nat} {A : Nat → Nat} (J : Jumps P n true A) : Go.Proofs.Ytppmkhgpljkljaa.nexts P (n + 1) = [] := by
  unfold Go.Proofs.Ytppmkhgpljkljaa.nexts opAt aAt
  rw [J.stop rfl]
  rfl

theorem Jumps.rr {P : List Ins} {n : Nat} {exit : Bool} {A : Nat → Nat} (J : Jumps P n exit A) {i q : Nat} (r : RR P i q) :
    (Ch n A i ∧ q = 0) ∨ (exit = true ∧ Ch n A n ∧ i = n + 1 ∧ q = 1) := by
  have hl := J.len
  induction r with
  | start => exact .inl ⟨.zero, rfl⟩
  | @step i h j r hi hh hg hj ih =>
    have hb := (goes_spec hg).1
    rcases ih with ⟨hc, h0⟩ | ⟨hx, hc, hi1, h1⟩
    · subst h0
      by_cases h : i < n
      · rw [J.nexts h] at hj
        simp only [List.mem_singleton] at hj
        have hop : opAt P i = 22 := by unfold opAt; rw [(J.jump i h).1]
        rw [hop, t22.1, t22.2] at hb
        rw [hop]
        left
        refine ⟨?_, by omega⟩
        have : j = A i := by omega
        rw [this]
        exact .next hc h
      · cases hx : exit with
        | false => rw [hx] at hl; simp at hl; omega
        | true =>
          subst hx
          simp at hl
          rcases Nat.lt_or_ge n i with h1 | h1
          · obtain rfl : i = n + 1 := by omega
            rw [J.nexts2] at hj
            cases hj
          · obtain rfl : i = n := by omega
            rw [J.nexts1] at hj
            simp only [List.mem_singleton] at hj
            have hop : opAt P i = 1 := by unfold opAt; rw [J.push rfl]
            rw [hop, t1.1, t1.2] at hb
            rw [hop]
            exact .inr ⟨rfl, hc, by omega, by omega⟩
    · subst hx
      subst hi1
      rw [J.nexts2] at hj
      cases hj

theorem Jumps.ch {P : List Ins} {n : Nat} {exit : Bool} {A : Nat → Nat} (J : Jumps P n exit A) {i : Nat} (c : Ch n A i) : RR P i 0 := by
  have hl := J.len
  induction c with
  | zero => exact .start
  | @next i c hi ih =>
    have hop : opAt P i = 22 := by unfold opAt; rw [(J.jump i hi).1]
    have hg : goes (opAt P i) 0 = true := by
      unfold goes
      rw [hop, t22.1, t22.2]
      rfl
    have := RR.step (j := A i) ih (by rw [hl]; split <;> omega) (by omega) hg (by rw [J.nexts hi]; simp)
    have hb : behind (opAt P i) 0 = 0 := by
      unfold behind
      rw [hop, t22.1, t22.2]
      rfl
    rwa [hb] at this

theorem Jumps.run {P : List Ins} {n : Nat} {exit : Bool} {A : Nat → Nat} (J : Jumps P n exit A) (h0 : 0 < P.length) (hA : ∀ i, i < n → A i < P.length) {i e : Int} (r : RunIs P [] i e) :
    (e = 0 ∧ i = 0 ∧ ¬ (exit = true ∧ Ch n A (n + 1))) ∨ (e = 7 ∧ i = ((n + 1 : Nat) : Int) ∧ exit = true ∧ Ch n A (n + 1)) := by
  have hl := J.len
  have hn60 := J.n60
  have hle : P.length ≤ n + 2 := by rw [hl]; split <;> omega
  have hone : ∀ j, j < P.length → oneV P 0 j = 0 := fun j hj => by
    rw [J.ones hj, if_neg (fun h => by have := hA j h.1; have := h.2; omega)]
  -- who is well
  have well : ∀ {M : List Bool} (W : Well P) (F : Final P M) (j : Nat), j < P.length → ((hgt P M j).2 = true ↔ ¬ (exit = true ∧ j = n + 1 ∧ Ch n A (n + 1))) := by
    intro M W F j hj
    have T := told P M j
    have hrr : ∀ q, q < 17 → at_ M j q = true → (Ch n A j ∧ q = 0) ∨ (exit = true ∧ Ch n A n ∧ j = n + 1 ∧ q = 1) := fun q hq ha => J.rr ((F.iff W h0 hj (by omega)).1 ha)
    constructor
    · intro ht ⟨hx, hj1, hc⟩
      have ha : at_ M j 0 = true := (F.iff W h0 hj (by omega)).2 (by rw [hj1]; exact J.ch hc)
      have hg := (T.well ht 0 (by omega) ha).1
      have hop : opAt P j = 26 := by rw [hj1]; unfold opAt; rw [J.stop hx]
      have := (goes_spec hg).2.2
      rw [hop, t26.1] at this
      omega
    · intro hn
      apply T.back
      intro q hq ha
      have hq' := hrr q hq ha
      by_cases h : j < n
      · have hop : opAt P j = 22 := by unfold opAt; rw [(J.jump j h).1]
        have z : ∀ q, q < 17 → at_ M j q = true → q = 0 := fun q hq ha => by
          rcases hrr q hq ha with h1 | h1
          · exact h1.2
          · have := h1.2.2.1; omega
        have := z q hq ha
        subst this
        refine ⟨?_, fun q' hq' ha' => z q' hq' ha'⟩
        unfold goes
        rw [hop, t22.1, t22.2]
        rfl
      · cases hx : exit with
        | false => rw [hx] at hl; simp at hl; omega
        | true =>
          have hl2 := hl
          rw [hx] at hl2
          simp at hl2
          rcases Nat.lt_or_ge n j with h1 | h1
          · obtain rfl : j = n + 1 := by omega
            have hop : opAt P (n + 1) = 26 := by unfold opAt; rw [J.stop hx]
            have z : ∀ q, q < 17 → at_ M (n + 1) q = true → q = 1 := fun q hq ha => by
              rcases hrr q hq ha with h2 | h2
              · exact absurd ⟨hx, rfl, h2.1⟩ hn
              · exact h2.2.2.2
            have := z q hq ha
            subst this
            refine ⟨?_, fun q' hq' ha' => z q' hq' ha'⟩
            unfold goes
            rw [hop, t26.1, t26.2]
            rfl
          · obtain rfl : j = n := by omega
            have hop : opAt P j = 1 := by unfold opAt; rw [J.push hx]
            have z : ∀ q, q < 17 → at_ M j q = true → q = 0 := fun q hq ha => by
              rcases hrr q hq ha with h2 | h2
              · exact h2.2
              · have := h2.2.2.1; omega
            have := z q hq ha
            subst this
            refine ⟨?_, fun q' hq' ha' => z q' hq' ha'⟩
            unfold goes
            rw [hop, t1.1, t1.2]
            rfl
  cases r with
  | size h =>
    rcases h with h | h | h
    · omega
    · omega
    · exact absurd h (by decide)
  | name _ _ _ h => simp at h
  | one i e _ _ _ _ hi hv hne _ => exact absurd ((hone i hi).symm.trans hv).symm hne
  | stack i M _ _ _ W _ F hi hf hp =>
    have := (well W F i hi)
    rw [hf] at this
    have hbad : exit = true ∧ i = n + 1 ∧ Ch n A (n + 1) := by
      apply Classical.byContradiction
      intro hc
      have := this.2 hc
      cases this
    exact .inr ⟨rfl, by rw [hbad.2.1], hbad.1, hbad.2.2⟩
  | ok M _ _ _ W _ F hp =>
    refine .inl ⟨rfl, rfl, fun h => ?_⟩
    have hlt : n + 1 < P.length := by rw [hl, if_pos h.1]; omega
    exact (well W F (n + 1) hlt).1 (hp (n + 1) hlt) ⟨h.1, rfl, h.2⟩

/-! ### the law's walk -/
theorem seek_loop {R : Type} (N : Nat) (k0 : List Int → Bool → Int → Int → Int → List Ins → List ByteArray → Option R) (l : List Int) {P : List Ins} {n : Nat} {exit : Bool} {A : Nat → Nat} (J : Jumps P n exit A) (hn : l.length = n) (hA : ∀ i, i < n → A i < P.length) (at' : Int) :
    ∀ (m fuel h : Nat) (seen : List Bool), seen.length = P.length + 1 → P.length + 1 - seen.count true = m → m < fuel → Ch n A h → (∀ s, seen.getD s false = true → s < n) →
      (∀ s, seen.getD s false = true → seen.getD (A s) false = true ∨ A s = h) → (seen.getD 0 false = true ∨ h = 0) →
      ∃ h' : Nat, (Ch n A (n + 1) ↔ h' = n + 1) ∧ law11_CheckJumps_l2 N k0 fuel l exit at' 0 (h : Int) P [] seen = k0 l exit at' 0 (h' : Int) P [] := by
  intro m
  induction m using Nat.strongRecOn with
  | _ m ih =>
    intro fuel h seen hlen hm hf hc hs hcl hz
    obtain ⟨fuel, rfl⟩ : ∃ n', fuel = n' + 1 := ⟨fuel - 1, by omega⟩
    have hl := J.len
    have hn60 := J.n60
    have hle : P.length ≤ n + 2 := by rw [hl]; split <;> omega
    have hle2 : n ≤ P.length := by rw [hl]; split <;> omega
    have hhn : Int.toNat (h : Int) = h := by omega
    simp only [law11_CheckJumps_l2, law11_CheckJumps_l2_T0, hhn]
    rw [br_of (decide_eq_true trivial)]
    -- where the jumps lead is seen, or it is this
    have all : ∀ i, Ch n A i → h ≥ n ∨ seen.getD h false = true → seen.getD i false = true ∨ i = h := by
      intro i c hh
      induction c with
      | zero => exact hz.imp id (fun h => h.symm)
      | @next i c hi ih' =>
        rcases ih' with h1 | h1
        · exact hcl i h1
        · subst h1
          rcases hh with h2 | h2
          · omega
          · exact hcl i h2
    by_cases hlt : h < n
    · rw [br_of (decide_eq_true (by omega)), br_of (inB_of (by omega)), br_of (decide_eq_true (by omega))]
      cases hsn : seen.getD h false with
      | true =>
        refine ⟨h, ?_, by simp⟩
        constructor
        · intro c
          rcases all _ c (.inr hsn) with h1 | h1
          · have := hs _ h1; omega
          · omega
        · intro e; omega
      | false =>
        simp only [Bool.not_false, br_true]
        have hj := J.jump h hlt
        rw [br_of (inB_of (by omega)), br_of (decide_eq_true (by omega)), br_of (inB_of (by omega)), br_of (decide_eq_true (by omega)), hj.1]
        have hcnt := cnt_set (M := seen) (x := h) (by omega) hsn
        have hcl2 : (seen.set h true).count true ≤ P.length + 1 := by
          have := List.count_le_length (a := true) (l := seen.set h true)
          rw [List.length_set, hlen] at this
          exact this
        have gs : ∀ s, (seen.set h true).getD s false = if h = s then true else seen.getD s false := by
          intro s
          simp only [List.getD_eq_getElem?_getD, List.getElem?_set]
          split
          · rename_i e; subst e; rw [if_pos (by omega)]; rfl
          · rfl
        refine ih (P.length + 1 - (seen.set h true).count true) (by omega) fuel (A h) (seen.set h true) (by simp [hlen]) rfl (by omega) (.next hc hlt) ?_ ?_ ?_
        · intro s hss
          rw [gs] at hss
          split at hss
          · omega
          · exact hs s hss
        · intro s hss
          rw [gs] at hss
          split at hss
          · rename_i e; subst e; exact .inr rfl
          · rw [gs]
            rcases hcl s hss with h1 | h1
            · left; split
              · rfl
              · exact h1
            · left; rw [if_pos h1.symm]
        · left
          rw [gs]
          split
          · rfl
          · rename_i e
            rcases hz with h1 | h1
            · exact h1
            · exact absurd h1 e
    · rw [br_not (decide_eq_false (by omega))]
      refine ⟨h, ?_, rfl⟩
      constructor
      · intro c
        rcases all _ c (.inl (by omega)) with h1 | h1
        · have := hs _ h1; omega
        · exact h1.symm
      · intro e; rw [← e]; exact hc

theorem far_loop {R : Type} (N : Nat) (k0 : List Int → Bool → Int → Int → List Ins → List ByteArray → Option R) (l : List Int) {P : List Ins} {n : Nat} {exit : Bool} {A : Nat → Nat} (J : Jumps P n exit A) (hn : l.length = n) :
    ∀ (e i fuel : Nat), n - i = e → i ≤ n → e < fuel → (∀ j, j < i → A j < P.length) →
      ((∀ j, j < n → A j < P.length) ∧ law11_CheckJumps_l1 N k0 fuel l exit 0 0 (i : Int) P [] = k0 l exit 0 0 P []) ∨
      (∃ t, t < n ∧ P.length ≤ A t ∧ (∀ j, j < t → A j < P.length) ∧ law11_CheckJumps_l1 N k0 fuel l exit 0 0 (i : Int) P [] = k0 l exit (t : Int) 6 P []) := by
  intro e
  have hl := J.len
  have hn60 := J.n60
  have hle2 : n ≤ P.length := by rw [hl]; split <;> omega
  induction e with
  | zero =>
    intro i fuel he hi hf hb
    obtain ⟨fuel, rfl⟩ : ∃ n', fuel = n' + 1 := ⟨fuel - 1, by omega⟩
    left
    refine ⟨fun j hj => hb j (by omega), ?_⟩
    simp only [law11_CheckJumps_l1, law11_CheckJumps_l1_T0]
    rw [br_not (decide_eq_false (by omega))]
  | succ e ih =>
    intro i fuel he hi hf hb
    obtain ⟨fuel, rfl⟩ : ∃ n', fuel = n' + 1 := ⟨fuel - 1, by omega⟩
    have hin : IntKind.wrap .i64 ((i : Int) + 1) = ((i + 1 : Nat) : Int) := by rw [w64 (by omega)]; omega
    have hkn : Int.toNat (i : Int) = i := by omega
    have hj := J.jump i (by omega)
    simp only [law11_CheckJumps_l1, law11_CheckJumps_l1_T0, hkn, hin]
    rw [br_of (decide_eq_true (by omega)), br_of (decide_eq_true trivial), br_of (inB_of (by omega)), br_of (decide_eq_true (by omega)), hj.1]
    by_cases hA : P.length ≤ A i
    · right
      refine ⟨i, by omega, hA, hb, ?_⟩
      rw [br_of (decide_eq_true (by show ((P.length : Nat) : Int) ≤ ((A i : Nat) : Int); omega))]
      -- one round more: it stops
      obtain ⟨fuel, rfl⟩ : ∃ n', fuel = n' + 1 := ⟨fuel - 1, by omega⟩
      simp only [law11_CheckJumps_l1, law11_CheckJumps_l1_T0]
      by_cases hq : ((i + 1 : Nat) : Int) < (l.length : Int)
      · rw [br_of (decide_eq_true hq), br_not (by decide)]
      · rw [br_not (decide_eq_false hq)]
    · rw [br_not (decide_eq_false (by show ¬ ((P.length : Nat) : Int) ≤ ((A i : Nat) : Int); omega))]
      exact ih (i + 1) fuel (by omega) (by omega) (by omega) (fun j hj => by
        rcases Nat.lt_or_ge j i with h | h
        · exact hb j h
        · obtain rfl : j = i := by omega
          omega)

set_option maxRecDepth 1000000 in
theorem awake11 {R : Type} (k : Bool → Option R) : law11_awake 3000 k = k true := by kernel_rfl

def jmpOf (x : Int) : Ins := (22, Int.tmod (IntKind.wrap .i64 x) 96)

theorem build_loop {R : Type} (N : Nat) (k0 : List Int → Bool → List Ins → List ByteArray → Option R) (l : List Int) (hl : l.length ≤ 60) (exit : Bool) :
    ∀ (e i n : Nat), l.length - i = e → i ≤ l.length → e < n → law11_CheckJumps_l0 N k0 n l exit (i : Int) ((l.take i).map jmpOf) [] = k0 l exit (l.map jmpOf) [] := by
  intro e
  induction e with
  | zero =>
    intro i n he hi hn
    obtain ⟨n, rfl⟩ : ∃ n', n = n' + 1 := ⟨n - 1, by omega⟩
    obtain rfl : i = l.length := by omega
    simp only [law11_CheckJumps_l0, law11_CheckJumps_l0_T0]
    rw [br_not (decide_eq_false (by omega)), List.take_of_length_le (Nat.le_refl _)]
  | succ e ih =>
    intro i n he hi hn
    obtain ⟨n, rfl⟩ : ∃ n', n = n' + 1 := ⟨n - 1, by omega⟩
    have hlt : i < l.length := by omega
    have hin : IntKind.wrap .i64 ((i : Int) + 1) = ((i + 1 : Nat) : Int) := by rw [w64 (by omega)]; omega
    have hkn : Int.toNat (i : Int) = i := by omega
    have hlen : ((l.take i).map jmpOf).length = i := by simp; omega
    have hfit : (((fits 0 ((l.take i).map jmpOf).length ((l.take i).map jmpOf)) && (decide (((((l.take i).map jmpOf).length + 1) * 16) ≤ 70368744177664))) && true) = true := by
      rw [fits_of (by omega), decide_eq_true (by omega)]; rfl
    have htk : (l.take i).map jmpOf ++ [jmpOf (l.getD i 0)] = (l.take (i + 1)).map jmpOf := by
      rw [List.take_add_one, List.map_append, List.getElem?_eq_getElem hlt, List.getD_eq_getElem?_getD, List.getElem?_eq_getElem hlt]
      rfl
    have htk : (l.take i).map jmpOf ++ [((22 : Int), Int.tmod (IntKind.wrap .i64 (l.getD i 0)) 96)] = (l.take (i + 1)).map jmpOf := htk
    simp only [law11_CheckJumps_l0, law11_CheckJumps_l0_T0, hkn, hin, hfit, sub_all, htk]
    rw [br_of (decide_eq_true (by omega)), br_of (inB_of (by omega)), br_true]
    exact ih (i + 1) n (by omega) (by omega) (by omega)

/-- what the law does when the walk is done -/
noncomputable def jEnd {R : Type} (N : Nat) (k : Bool → Option R) (l : List Int) (b : Bool) (at' want h : Int) (P : List Ins) (names : List ByteArray) : Option R :=
  br (decide (want = 0))
    (br b
      (br (decide (h = IntKind.wrap .i64 (((l.length : Nat) : Int) + 1)))
        (check_Run_87f1 N P names (fun i e _ _ => br (decide (i = h)) (k (decide (e = 7))) (k false)))
        (check_Run_87f1 N P names (fun i e _ _ => br (decide (i = at')) (k (decide (e = want))) (k false))))
      (check_Run_87f1 N P names (fun i e _ _ => br (decide (i = at')) (k (decide (e = want))) (k false))))
    (check_Run_87f1 N P names (fun i e _ _ => br (decide (i = at')) (k (decide (e = want))) (k false)))

noncomputable def jSeek {R : Type} (N : Nat) (k : Bool → Option R) (l : List Int) (b : Bool) (at' want : Int) (P : List Ins) (names : List ByteArray) : Option R :=
  br ((((decide (0 ≤ (IntKind.wrap .i64 (((P.length : Nat) : Int) + 1)))) && (decide ((IntKind.wrap .i64 (((P.length : Nat) : Int) + 1)) ≤ (IntKind.wrap .i64 (((P.length : Nat) : Int) + 1))))) && (decide (((IntKind.wrap .i64 (((P.length : Nat) : Int) + 1)) * 1) ≤ (2 ^ 46)))) && true)
    (law11_CheckJumps_l2 N (jEnd N k) N l b at' want 0 P names (List.replicate (Int.toNat (IntKind.wrap .i64 (((P.length : Nat) : Int) + 1))) false)) none

theorem jumps_T {R : Type} (N : Nat) (l : List Int) (b : Bool) (k : Bool → Option R) :
    law11_CheckJumps N l b k = law11_awake N (fun w => br (!w) (k false) (br (decide (60 < ((l.length : Nat) : Int))) (k true)
      (law11_CheckJumps_l0 N (fun l b L names => br b
        (br (((fits 0 L.length L) && (decide (((L.length + 2) * 16) ≤ 70368744177664))) && true)
          (br (decide (((L.length + 2 : Nat) : Int) = 0))
            (law11_CheckJumps_l1 N (jSeek N k) N l b 0 3 0 (sub L 0 L.length ++ [(1, 0), (26, 0)]) names)
            (law11_CheckJumps_l1 N (jSeek N k) N l b 0 0 0 (sub L 0 L.length ++ [(1, 0), (26, 0)]) names)) none)
        (br (decide (((L.length : Nat) : Int) = 0))
          (law11_CheckJumps_l1 N (jSeek N k) N l b 0 3 0 L names)
          (law11_CheckJumps_l1 N (jSeek N k) N l b 0 0 0 L names))) N l b 0 [] []))) := rfl

/-- the law, from the program on -/
theorem jumps_from {R : Type} (k : Bool → Option R) (l : List Int) {P : List Ins} {exit : Bool} {A : Nat → Nat} (J : Jumps P l.length exit A) (h0 : 0 < P.length) :
    law11_CheckJumps_l1 3000 (jSeek 3000 k) 3000 l exit 0 0 0 P [] = k true := by
  have hl := J.len
  have hn60 := J.n60
  have hle : P.length ≤ l.length + 2 := by rw [hl]; split <;> omega
  obtain ⟨i, e, hr, hk⟩ := Run_ex 3000 (by omega) P []
  have hP : IntKind.wrap .i64 (((P.length : Nat) : Int) + 1) = ((P.length + 1 : Nat) : Int) := by rw [w64 (by omega)]; omega
  have hPn : Int.toNat ((P.length + 1 : Nat) : Int) = P.length + 1 := by omega
  rcases far_loop 3000 (jSeek 3000 k) l J rfl l.length 0 3000 (by omega) (by omega) (by omega) (fun j hj => by omega) with ⟨hA, hrun⟩ | ⟨t, ht, hAt, hb, hrun⟩
  · refine Eq.trans hrun ?_
    unfold jSeek
    rw [hP, hPn, br_of (by rw [decide_eq_true (by omega), decide_eq_true (by omega), decide_eq_true (by omega)]; rfl)]
    have hg0 : ∀ s, (List.replicate (P.length + 1) false).getD s false = false := by
      intro s
      rw [List.getD_eq_getElem?_getD, List.getElem?_replicate]
      split <;> rfl
    obtain ⟨h', hch, hrun2⟩ := seek_loop 3000 (jEnd 3000 k) l J rfl hA 0 (P.length + 1 - (List.replicate (P.length + 1) false).count true) 3000 0 (List.replicate (P.length + 1) false) (by simp) rfl (by omega) .zero
      (fun s hs => by rw [hg0] at hs; cases hs) (fun s hs => by rw [hg0] at hs; cases hs) (.inr rfl)
    refine Eq.trans hrun2 ?_
    unfold jEnd
    simp only [hk]
    rw [br_of (decide_eq_true trivial), w64 (by omega)]
    have hst := J.run h0 hA hr
    cases hx : exit with
    | false =>
      rw [br_false]
      rcases hst with ⟨he, hi, _⟩ | ⟨_, _, hx', _⟩
      · rw [br_of (decide_eq_true hi), decide_eq_true he]
      · rw [hx] at hx'; cases hx'
    | true =>
      rw [br_true]
      by_cases hh : h' = l.length + 1
      · rw [br_of (decide_eq_true (by omega))]
        rcases hst with ⟨_, _, hno⟩ | ⟨he, hi, _, _⟩
        · exact absurd ⟨hx, hch.2 hh⟩ hno
        · rw [br_of (decide_eq_true (by omega)), decide_eq_true he]
      · rw [br_not (decide_eq_false (by omega))]
        rcases hst with ⟨he, hi, _⟩ | ⟨_, _, _, hc⟩
        · rw [br_of (decide_eq_true hi), decide_eq_true he]
        · exact absurd (hch.1 hc) hh
  · refine Eq.trans hrun ?_
    unfold jSeek
    rw [hP, hPn, br_of (by rw [decide_eq_true (by omega), decide_eq_true (by omega), decide_eq_true (by omega)]; rfl)]
    have hstop : law11_CheckJumps_l2 3000 (jEnd 3000 k) (2999 + 1) l exit (t : Int) 6 0 P [] (List.replicate (P.length + 1) false) = jEnd 3000 k l exit (t : Int) 6 0 P [] := rfl
    refine Eq.trans hstop ?_
    unfold jEnd
    simp only [hk]
    rw [br_not (by decide)]
    have hle2 : l.length ≤ P.length := by rw [hl]; split <;> omega
    have h6 : oneV P 0 t = 6 := by rw [J.ones (by omega), if_pos ⟨ht, hAt⟩]
    have hz : ∀ j, j < t → oneV P 0 j = 0 := fun j hj => by rw [J.ones (by omega), if_neg (fun h => by have := hb j hj; have := h.2; omega)]
    have fin : e = 6 ∧ i = (t : Int) := by
      cases hr with
      | size h =>
        exfalso
        rcases h with h | h | h
        · omega
        · omega
        · exact absurd h (by decide)
      | name _ _ _ h => simp at h
      | one i e _ _ _ _ hi hv hne hp =>
        have hp' : ∀ j, j < i → oneV P 0 j = 0 := hp
        have hv' : oneV P 0 i = e := hv
        rcases Nat.lt_trichotomy i t with h | h | h
        · exact absurd ((hz i h).symm.trans hv').symm hne
        · subst h
          exact ⟨hv'.symm.trans h6, rfl⟩
        · have := hp' t h
          omega
      | stack i M _ _ _ W ho F hi hf hp =>
        have : oneV P 0 t = 0 := ho t (by omega)
        omega
      | ok M _ _ _ W ho F hp =>
        have : oneV P 0 t = 0 := ho t (by omega)
        omega
    rw [br_of (decide_eq_true fin.2), decide_eq_true fin.1]

theorem jmp_at {l : List Int} (hs : ∀ x ∈ l, 0 ≤ x ∧ x ≤ 255) {i : Nat} (hi : i < l.length) : jmpOf (l.getD i 0) = (22, ((((l.getD i 0) % 96).toNat : Nat) : Int)) ∧ ((l.getD i 0) % 96).toNat < 96 := by
  have hx : 0 ≤ l.getD i 0 ∧ l.getD i 0 ≤ 255 := by
    have : l.getD i 0 = l[i] := by simp [List.getD_eq_getElem?_getD, List.getElem?_eq_getElem hi]
    rw [this]
    exact hs _ (List.getElem_mem hi)
  unfold jmpOf
  rw [w64 (by omega), Int.tmod_eq_emod_of_nonneg (by omega)]
  refine ⟨?_, by omega⟩
  congr 1
  omega

theorem jumps_of (l : List Int) (hs : ∀ x ∈ l, 0 ≤ x ∧ x ≤ 255) (hl : l.length ≤ 60) (exit : Bool) : Jumps (l.map jmpOf ++ (if exit then [(1, 0), (26, 0)] else [])) l.length exit (fun i => ((l.getD i 0) % 96).toNat) := by
  refine { n60 := hl, len := by cases exit <;> simp, jump := ?_, push := ?_, stop := ?_ }
  · intro i hi
    have h := jmp_at hs hi
    refine ⟨?_, h.2⟩
    rw [← h.1, List.getD_eq_getElem?_getD, List.getElem?_append_left (by simpa using hi), List.getElem?_map, List.getD_eq_getElem?_getD, List.getElem?_eq_getElem hi]
    rfl
  · intro hx
    subst hx
    rw [List.getD_eq_getElem?_getD, List.getElem?_append_right (by simp)]
    simp
  · intro hx
    subst hx
    rw [List.getD_eq_getElem?_getD, List.getElem?_append_right (by simp)]
    simp

theorem checkJumps_true {R : Type} (l : List Int) (hs : ∀ x ∈ l, 0 ≤ x ∧ x ≤ 255) (exit : Bool) (k : Bool → Option R) : law11_CheckJumps 3000 l exit k = k true := by
  refine (jumps_T 3000 l exit k).trans ((awake11 _).trans ?_)
  refine Eq.trans (br_false _ _) ?_
  by_cases h60 : 60 < ((l.length : Nat) : Int)
  · rw [br_of (decide_eq_true h60)]
  rw [br_not (decide_eq_false h60)]
  refine (build_loop 3000 _ l (by omega) exit l.length 0 3000 (by omega) (by omega) (by omega)).trans ?_
  have J := jumps_of l hs (by omega) exit
  have hlen : (l.map jmpOf).length = l.length := by simp
  have hfit : (((fits 0 (l.map jmpOf).length (l.map jmpOf)) && (decide ((((l.map jmpOf).length + 2) * 16) ≤ 70368744177664))) && true) = true := by
    rw [fits_of (by omega), decide_eq_true (by omega)]; rfl
  cases exit with
  | true =>
    rw [br_true, br_of hfit, sub_all, br_not (decide_eq_false (by omega))]
    exact jumps_from k l J (by simp)
  | false =>
    rw [br_false]
    have J' : Jumps (l.map jmpOf) l.length false (fun i => ((l.getD i 0) % 96).toNat) := by
      have e : l.map jmpOf ++ (if false = true then [((1 : Int), (0 : Int)), (26, 0)] else []) = l.map jmpOf := by simp
      rwa [e] at J
    by_cases h0 : l.length = 0
    · rw [br_of (decide_eq_true (by omega))]
      obtain rfl : l = [] := List.length_eq_zero_iff.1 h0
      obtain ⟨i, e, hr, hk⟩ := Run_ex 3000 (by omega) [] []
      have hstop : law11_CheckJumps_l1 3000 (jSeek 3000 k) (2999 + 1) [] false 0 3 0 [] [] = jSeek 3000 k [] false 0 3 [] [] := rfl
      refine Eq.trans hstop ?_
      unfold jSeek
      rw [br_of (by decide)]
      have hstop2 : law11_CheckJumps_l2 3000 (jEnd 3000 k) (2999 + 1) [] false 0 3 0 [] [] (List.replicate 1 false) = jEnd 3000 k [] false 0 3 0 [] [] := rfl
      refine Eq.trans hstop2 ?_
      unfold jEnd
      simp only [hk]
      rw [br_not (by decide)]
      have fin : e = 3 ∧ i = 0 := by
        cases hr with
        | size h => exact ⟨rfl, rfl⟩
        | name h => exact absurd h (by decide)
        | one i e h => exact absurd h (by decide)
        | stack i M h => exact absurd h (by decide)
        | ok M h => exact absurd h (by decide)
      rw [br_of (decide_eq_true fin.2), decide_eq_true fin.1]
    · rw [br_not (decide_eq_false (by omega))]
      exact jumps_from k l J' (by omega)

end Go.Proofs.Ytppmkhgpljkljaa
