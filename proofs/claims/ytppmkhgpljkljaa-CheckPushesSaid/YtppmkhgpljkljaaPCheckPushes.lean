/-
  the law CheckPushes of chapter 11, as a printed function: it comes to true.
-/
import Derived.Test.YtppmkhgpljkljaaPCheckO
import Derived.KernelRfl
set_option linter.unusedSimpArgs false
set_option linter.unusedVariables false
namespace Go.Proofs.Ytppmkhgpljkljaa
open Go.Gx

/-! ### programs that go straight on -/
/-- the height ahead of an instruction -/
noncomputable def Hx (L : List Ins) : Nat → Int
  | 0 => 0
  | i + 1 => Hx L i - tk (opAt L i) + gv (opAt L i)
def OK (L : List Ins) (j : Nat) : Prop := tk (opAt L j) ≤ Hx L j ∧ Hx L j - tk (opAt L j) + gv (opAt L j) ≤ 16

structure Straight (L : List Ins) : Prop where
  next : ∀ i, i + 1 < L.length → nexts L i = [((i + 1 : Nat) : Int)]
  last : ∀ i, i + 1 = L.length → nexts L i = []

theorem Hx_in {L : List Ins} : ∀ {i : Nat}, (∀ j, j < i → OK L j) → 0 ≤ Hx L i ∧ Hx L i ≤ 16
  | 0, _ => by simp [Hx]
  | i + 1, h => by
    have h1 := h i (by omega)
    have h2 := tb_small (opAt L i)
    unfold OK at h1
    unfold Hx
    omega

theorem RR.line {L : List Ins} (S : Straight L) {i h : Nat} (r : RR L i h) : (h : Int) = Hx L i ∧ ∀ j, j < i → OK L j := by
  induction r with
  | start => exact ⟨rfl, fun j hj => by omega⟩
  | @step i h j r hi hh hg hj ih =>
    obtain ⟨e, ho⟩ := ih
    have hj' : j = i + 1 := by
      rcases Nat.lt_or_ge (i + 1) L.length with hlt | hge
      · rw [S.next i hlt] at hj
        simp only [List.mem_singleton] at hj
        omega
      · rw [S.last i (by omega)] at hj
        cases hj
    subst hj'
    obtain ⟨g1, g2, g3⟩ := goes_spec hg
    refine ⟨?_, fun q hq => ?_⟩
    · rw [g1, e]; rfl
    · rcases Nat.lt_or_ge q i with hlt | hge
      · exact ho q hlt
      · obtain rfl : q = i := by omega
        unfold OK
        rw [← e]
        omega

theorem RR.way {L : List Ins} (S : Straight L) : ∀ {i : Nat}, i < L.length → (∀ j, j < i → OK L j) → RR L i (Hx L i).toNat
  | 0, _, _ => RR.start
  | i + 1, hi, h => by
    have r := RR.way S (i := i) (by omega) (fun j hj => h j (by omega))
    have hin := Hx_in (i := i) (fun j hj => h j (by omega))
    have ho := h i (by omega)
    unfold OK at ho
    have e : (((Hx L i).toNat : Nat) : Int) = Hx L i := by omega
    have hg : goes (opAt L i) (Hx L i).toNat = true := by
      unfold goes
      rw [e, decide_eq_true ho.1, decide_eq_true ho.2]
      rfl
    have := RR.step (j := i + 1) r (by omega) (by omega) hg (by rw [S.next i hi]; simp)
    have hb : behind (opAt L i) (Hx L i).toNat = (Hx L (i + 1)).toNat := by
      unfold behind
      rw [e]
      rfl
    rwa [hb] at this

theorem hgt_iff {L : List Ins} (W : Well L) (S : Straight L) (h0 : 0 < L.length) {M : List Bool} (F : Final L M) {i : Nat} (hi : i < L.length) (h : ∀ j, j < i → OK L j) : (hgt L M i).2 = true ↔ OK L i := by
  have T := told L M i
  have hin := Hx_in h
  have e : (((Hx L i).toNat : Nat) : Int) = Hx L i := by omega
  have hat : at_ M i (Hx L i).toNat = true := (F.iff W h0 hi (by omega)).2 (RR.way S hi h)
  constructor
  · intro ht
    obtain ⟨hg, _⟩ := T.well ht _ (by omega) hat
    obtain ⟨g1, g2, g3⟩ := goes_spec hg
    unfold OK
    omega
  · intro ho
    apply T.back
    intro q hq hqa
    have hr := ((F.iff W h0 hi (by omega)).1 hqa).line S
    have hg : goes (opAt L i) q = true := by
      unfold goes
      unfold OK at ho
      rw [hr.1, decide_eq_true ho.1, decide_eq_true ho.2]
      rfl
    refine ⟨hg, fun q' hq' hqa' => ?_⟩
    have hr' := ((F.iff W h0 hi (by omega)).1 hqa').line S
    have h1 := hr.1
    have h2 := hr'.1
    omega

theorem run_straight {L : List Ins} (S : Straight L) (h0 : 0 < L.length) (h96 : L.length ≤ 96) (h1 : ∀ j, j < L.length → oneV L 0 j = 0) {i e : Int} (r : RunIs L [] i e) :
    (e = 0 ∧ i = 0 ∧ ∀ j, j < L.length → OK L j) ∨ (e = 7 ∧ ∃ n : Nat, i = n ∧ n < L.length ∧ (∀ j, j < n → OK L j) ∧ ¬ OK L n) := by
  have allOK : ∀ {M : List Bool} (W : Well L) (F : Final L M) (n : Nat), n ≤ L.length → (∀ j, j < n → (hgt L M j).2 = true) → ∀ j, j < n → OK L j := by
    intro M W F n
    induction n with
    | zero => intro _ _ j hj; omega
    | succ n ih =>
      intro hn ht j hj
      have hp := ih (by omega) (fun j hj => ht j (by omega))
      rcases Nat.lt_or_ge j n with hlt | hge
      · exact hp j hlt
      · obtain rfl : j = n := by omega
        exact (hgt_iff W S h0 F (by omega) hp).1 (ht j (by omega))
  cases r with
  | size h =>
    rcases h with h | h | h
    · omega
    · omega
    · exact absurd h (by decide)
  | name _ _ _ h => simp at h
  | one i e _ _ _ _ hi hv hne _ => exact absurd ((h1 i hi).symm.trans hv).symm hne
  | stack i M _ _ _ W _ F hi hf hp =>
    have ho := allOK W F i (by omega) hp
    refine .inr ⟨rfl, i, rfl, hi, ho, fun h => ?_⟩
    rw [(hgt_iff W S h0 F hi ho).2 h] at hf
    cases hf
  | ok M _ _ _ W _ F hp => exact .inl ⟨rfl, rfl, allOK W F L.length (Nat.le_refl _) hp⟩

/-! ### pushes and pops -/
theorem t1 : tk 1 = 0 ∧ gv 1 = 1 := by decide +kernel
theorem t2 : tk 2 = 1 ∧ gv 2 = 0 := by decide +kernel
theorem t26 : tk 26 = 1 ∧ gv 26 = 0 := by decide +kernel
theorem i1 : isI 1 0 = true ∧ isI 2 0 = true ∧ isI 26 0 = true := by decide +kernel

def insOf (b : Bool) : Ins := if b then (1, 0) else (2, 0)
def prog (l : List Bool) : List Ins := l.map insOf ++ [(1, 0), (26, 0)]
theorem prog_len (l : List Bool) : (prog l).length = l.length + 2 := by simp [prog]

theorem prog_at {l : List Bool} {i : Nat} (h : i < l.length) : (prog l).getD i (0, 0) = insOf (l.getD i false) := by
  unfold prog
  rw [List.getD_eq_getElem?_getD, List.getElem?_append_left (by simpa using h), List.getElem?_map, List.getD_eq_getElem?_getD, List.getElem?_eq_getElem h]
  rfl
theorem prog_push (l : List Bool) : (prog l).getD l.length (0, 0) = (1, 0) := by
  unfold prog
  rw [List.getD_eq_getElem?_getD, List.getElem?_append_right (by simp)]
  simp
theorem prog_exit (l : List Bool) : (prog l).getD (l.length + 1) (0, 0) = (26, 0) := by
  unfold prog
  rw [List.getD_eq_getElem?_getD, List.getElem?_append_right (by simp)]
  simp

theorem prog_op (l : List Bool) (i : Nat) (h : i < l.length + 2) : ((prog l).getD i (0, 0) = (1, 0) ∨ (prog l).getD i (0, 0) = (2, 0)) ∧ i < l.length + 1 ∨ (prog l).getD i (0, 0) = (26, 0) ∧ i = l.length + 1 := by
  rcases Nat.lt_trichotomy i l.length with h1 | h1 | h1
  · left
    refine ⟨?_, by omega⟩
    rw [prog_at h1]
    unfold insOf
    cases l.getD i false <;> simp
  · subst h1
    left
    exact ⟨.inl (prog_push l), by omega⟩
  · right
    obtain rfl : i = l.length + 1 := by omega
    exact ⟨prog_exit l, rfl⟩

theorem prog_straight (l : List Bool) : Straight (prog l) := by
  constructor
  · intro i hi
    rw [prog_len] at hi
    unfold nexts opAt aAt
    rcases prog_op l i (by omega) with ⟨h | h, _⟩ | ⟨h, h'⟩
    · rw [h]; rfl
    · rw [h]; rfl
    · omega
  · intro i hi
    rw [prog_len] at hi
    unfold nexts opAt aAt
    obtain rfl : i = l.length + 1 := by omega
    rw [prog_exit]
    rfl

theorem prog_one (l : List Bool) : ∀ j, j < (prog l).length → oneV (prog l) 0 j = 0 := by
  intro j hj
  rw [prog_len] at hj
  unfold oneV opAt aAt
  rw [prog_len]
  rcases prog_op l j (by omega) with ⟨h | h, h'⟩ | ⟨h, h'⟩
  · rw [h]
    simp only [i1.1]
    rw [if_neg (by decide), if_neg (by decide), if_neg (fun h => by have := h.1; revert this; decide), if_neg (fun h => by have := h.2; omega)]
  · rw [h]
    simp only [i1.2.1]
    rw [if_neg (by decide), if_neg (by decide), if_neg (fun h => by have := h.1; revert this; decide), if_neg (fun h => by have := h.2; omega)]
  · rw [h]
    simp only [i1.2.2]
    rw [if_neg (by decide), if_neg (by decide), if_neg (fun h => by have := h.1; revert this; decide), if_neg (fun h => by have := h.1; revert this; decide)]

/-- what the law has told so far -/
def Sofar (l : List Bool) (i : Nat) (h at' : Int) : Prop :=
  (at' = -1 ∧ (∀ j, j < i → OK (prog l) j) ∧ h = Hx (prog l) i) ∨ (∃ n : Nat, at' = n ∧ n < i ∧ (∀ j, j < n → OK (prog l) j) ∧ ¬ OK (prog l) n)

theorem pushes_loop {R : Type} (N : Nat) (k0 : List Bool → Int → Int → List Ins → List ByteArray → Option R) (l : List Bool) (hl : l.length ≤ 80) :
    ∀ (e i n : Nat) (h at' : Int), l.length - i = e → i ≤ l.length → e < n → Sofar l i h at' →
      ∃ h' at'', Sofar l l.length h' at'' ∧ law11_CheckPushes_l0 N k0 n l h at' (i : Int) ((l.take i).map insOf) [] = k0 l h' at'' (l.map insOf) [] := by
  intro e
  induction e with
  | zero =>
    intro i n h at' he hi hn S
    obtain ⟨n, rfl⟩ : ∃ n', n = n' + 1 := ⟨n - 1, by omega⟩
    obtain rfl : i = l.length := by omega
    refine ⟨h, at', S, ?_⟩
    simp only [law11_CheckPushes_l0, law11_CheckPushes_l0_T0]
    rw [br_not (decide_eq_false (by omega)), List.take_of_length_le (Nat.le_refl _)]
  | succ e ih =>
    intro i n h at' he hi hn S
    obtain ⟨n, rfl⟩ : ∃ n', n = n' + 1 := ⟨n - 1, by omega⟩
    have hlt : i < l.length := by omega
    have hin : IntKind.wrap .i64 ((i : Int) + 1) = ((i + 1 : Nat) : Int) := by rw [w64 (by omega)]; omega
    have hkn : Int.toNat (i : Int) = i := by omega
    have hlen : ((l.take i).map insOf).length = i := by simp; omega
    have hfit : (((fits 0 ((l.take i).map insOf).length ((l.take i).map insOf)) && (decide (((((l.take i).map insOf).length + 1) * 16) ≤ 70368744177664))) && true) = true := by
      rw [fits_of (by omega), decide_eq_true (by omega)]; rfl
    have htk : (l.take i).map insOf ++ [insOf (l.getD i false)] = (l.take (i + 1)).map insOf := by
      rw [List.take_add_one, List.map_append, List.getElem?_eq_getElem hlt, List.getD_eq_getElem?_getD, List.getElem?_eq_getElem hlt]
      rfl
    have hop := prog_at hlt
    simp only [law11_CheckPushes_l0, law11_CheckPushes_l0_T0, hkn, hin, hfit, sub_all]
    rw [br_of (decide_eq_true (by omega)), br_of (inB_of (by omega))]
    have go : ∀ h at', Sofar l (i + 1) h at' → ∃ h' at'', Sofar l l.length h' at'' ∧ law11_CheckPushes_l0 N k0 n l h at' ((i + 1 : Nat) : Int) ((l.take (i + 1)).map insOf) [] = k0 l h' at'' (l.map insOf) [] :=
      fun h at' S => ih (i + 1) n h at' (by omega) (by omega) (by omega) S
    rcases S with ⟨ha, ho, hh⟩ | ⟨m, ha, hm, ho, hno⟩
    · have hin2 := Hx_in ho
      have hnx : Hx (prog l) (i + 1) = Hx (prog l) i - tk (opAt (prog l) i) + gv (opAt (prog l) i) := rfl
      have good : OK (prog l) i → ∀ j, j < i + 1 → OK (prog l) j := by
        intro hi' j hj
        rcases Nat.lt_or_ge j i with h1 | h1
        · exact ho j h1
        · obtain rfl : j = i := by omega
          exact hi'
      subst ha
      subst hh
      cases hb : l.getD i false with
      | true =>
        rw [hb] at hop htk
        have hopp : opAt (prog l) i = 1 := by unfold opAt; rw [hop]; rfl
        have hOK : OK (prog l) i ↔ Hx (prog l) i + 1 ≤ 16 := by
          unfold OK
          rw [hopp, t1.1, t1.2]
          omega
        rw [hopp, t1.1, t1.2] at hnx
        have htk : (l.take i).map insOf ++ [((1 : Int), (0 : Int))] = (l.take (i + 1)).map insOf := htk
        simp only [br_true, htk]
        rw [br_not (decide_eq_false (by omega)), br_of (inB_of (by omega)), w64 (x := Hx (prog l) i + 1) (by omega), br_of (by rw [decide_eq_false (by omega)]; rfl)]
        by_cases h16 : 16 < Hx (prog l) i + 1
        · rw [br_of (decide_eq_true h16)]
          exact go _ _ (.inr ⟨i, rfl, by omega, ho, fun h => by have := hOK.1 h; omega⟩)
        · rw [br_not (decide_eq_false h16)]
          exact go _ _ (.inl ⟨rfl, good (hOK.2 (by omega)), by omega⟩)
      | false =>
        rw [hb] at hop htk
        have hopp : opAt (prog l) i = 2 := by unfold opAt; rw [hop]; rfl
        have hOK : OK (prog l) i ↔ 1 ≤ Hx (prog l) i := by
          unfold OK
          rw [hopp, t2.1, t2.2]
          omega
        rw [hopp, t2.1, t2.2] at hnx
        have htk : (l.take i).map insOf ++ [((2 : Int), (0 : Int))] = (l.take (i + 1)).map insOf := htk
        simp only [br_true, br_false, htk]
        rw [br_not (decide_eq_false (by omega)), br_of (inB_of (by omega)), w64 (x := Hx (prog l) i - 1) (by omega)]
        by_cases h16 : Hx (prog l) i - 1 < 0
        · rw [br_not (by rw [decide_eq_true h16]; rfl)]
          exact go _ _ (.inr ⟨i, rfl, by omega, ho, fun h => by have := hOK.1 h; omega⟩)
        · rw [br_of (by rw [decide_eq_false h16]; rfl), br_not (decide_eq_false (by omega))]
          exact go _ _ (.inl ⟨rfl, good (hOK.2 (by omega)), by omega⟩)
    · subst ha
      have S' : Sofar l (i + 1) h (m : Int) := .inr ⟨m, rfl, by omega, ho, hno⟩
      have hm0 : decide ((0 : Int) ≤ (m : Int)) = true := decide_eq_true (by omega)
      cases hb : l.getD i false with
      | true =>
        rw [hb] at htk
        have htk : (l.take i).map insOf ++ [((1 : Int), (0 : Int))] = (l.take (i + 1)).map insOf := htk
        simp only [br_true, htk, hm0]
        exact go _ _ S'
      | false =>
        rw [hb] at htk
        have htk : (l.take i).map insOf ++ [((2 : Int), (0 : Int))] = (l.take (i + 1)).map insOf := htk
        simp only [br_true, br_false, htk, hm0]
        exact go _ _ S'

set_option maxRecDepth 1000000 in
theorem awake11 {R : Type} (k : Bool → Option R) : law11_awake 3000 k = k true := by kernel_rfl

theorem checkPushes_true {R : Type} (l : List Bool) (k : Bool → Option R) : law11_CheckPushes 3000 l k = k true := by
  unfold law11_CheckPushes law11_CheckPushes_T
  rw [awake11]
  simp only [Bool.not_true, br_false]
  by_cases h80 : 80 < (l.length : Int)
  · rw [br_of (decide_eq_true h80)]
  rw [br_not (decide_eq_false h80)]
  obtain ⟨h, a, S, hrun⟩ := pushes_loop (R := R) 3000 _ l (by omega) l.length 0 3000 0 (-1) (by omega) (by omega) (by omega) (.inl ⟨rfl, fun j hj => by omega, rfl⟩)
  refine Eq.trans hrun ?_
  have hlen : (l.map insOf).length = l.length := by simp
  have hfit : (((fits 0 (l.map insOf).length (l.map insOf)) && (decide ((((l.map insOf).length + 2) * 16) ≤ 70368744177664))) && true) = true := by
    rw [fits_of (by omega), decide_eq_true (by omega)]; rfl
  have hp : l.map insOf ++ [((1 : Int), (0 : Int)), (26, 0)] = prog l := rfl
  obtain ⟨i, e, hr, hk⟩ := Run_ex 3000 (by omega) (prog l) []
  rw [br_of hfit]
  simp only [sub_all, hp, hk]
  have hpl := prog_len l
  have hst := run_straight (prog_straight l) (by omega) (by omega) (prog_one l) hr
  have hpush : opAt (prog l) l.length = 1 := by unfold opAt; rw [prog_push]
  have hexit : opAt (prog l) (l.length + 1) = 26 := by unfold opAt; rw [prog_exit]
  -- the first that is not well is one
  have uniq : ∀ {a b : Nat}, (∀ j, j < a → OK (prog l) j) → ¬ OK (prog l) a → (∀ j, j < b → OK (prog l) j) → ¬ OK (prog l) b → a = b := by
    intro a b h1 h2 h3 h4
    rcases Nat.lt_trichotomy a b with h | h | h
    · exact absurd (h3 a h) h2
    · exact h
    · exact absurd (h1 b h) h4
  rcases S with ⟨ha, ho, hh⟩ | ⟨m, ha, hm, ho, hno⟩
  · subst ha
    subst hh
    have hin := Hx_in ho
    have hOKp : OK (prog l) l.length ↔ Hx (prog l) l.length + 1 ≤ 16 := by
      unfold OK
      rw [hpush, t1.1, t1.2]
      omega
    rw [br_of (decide_eq_true (by omega))]
    by_cases h16 : Hx (prog l) l.length = 16
    · rw [br_of (decide_eq_true h16)]
      have hnot : ¬ OK (prog l) l.length := fun h => by have := hOKp.1 h; omega
      rcases hst with ⟨_, _, hall⟩ | ⟨he, n, hn, hnl, hno, hnn⟩
      · exact absurd (hall l.length (by omega)) hnot
      · have := uniq hno hnn ho hnot
        rw [br_of (decide_eq_true (by omega)), decide_eq_true he]
    · rw [br_not (decide_eq_false h16)]
      have hyes : OK (prog l) l.length := hOKp.2 (by omega)
      have hx1 : Hx (prog l) (l.length + 1) = Hx (prog l) l.length + 1 := by
        show Hx (prog l) l.length - tk (opAt (prog l) l.length) + gv (opAt (prog l) l.length) = _
        rw [hpush, t1.1, t1.2]
        omega
      have hyes2 : OK (prog l) (l.length + 1) := by
        unfold OK
        rw [hexit, t26.1, t26.2, hx1]
        omega
      rw [br_not (decide_eq_false (by omega))]
      rcases hst with ⟨he, hi, _⟩ | ⟨he, n, hn, hnl, hno, hnn⟩
      · rw [br_of (decide_eq_true he), decide_eq_true hi]
      · exfalso
        apply hnn
        rcases Nat.lt_trichotomy n l.length with h | h | h
        · exact ho n h
        · rw [h]; exact hyes
        · have : n = l.length + 1 := by omega
          rw [this]; exact hyes2
  · subst ha
    rw [br_not (decide_eq_false (by omega)), br_of (decide_eq_true (by omega))]
    rcases hst with ⟨_, _, hall⟩ | ⟨he, n, hn, hnl, hno', hnn⟩
    · exact absurd (hall m (by omega)) hno
    · have := uniq hno' hnn ho hno
      rw [br_of (decide_eq_true (by omega)), decide_eq_true he]

end Go.Proofs.Ytppmkhgpljkljaa
