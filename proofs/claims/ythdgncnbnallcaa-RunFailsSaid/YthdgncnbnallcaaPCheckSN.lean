/-
  programs that go straight on: they may run
-/
import Derived.Test.YthdgncnbnallcaaPCheckO
import Derived.KernelRfl
set_option linter.unusedSimpArgs false
set_option linter.unusedVariables false
namespace Go.Proofs.Ythdgncnbnallcaa
open Go.Gx

/-! ### programs that go straight on -/
/-- the height ahead of an instruction -/
noncomputable def Hx (L : List Ins) : Nat → Int
  | 0 => 0
  | i + 1 => Hx L i - tk (opAt L i) + gv (opAt L i)
def OK (L : List Ins) (j : Nat) : Prop := tk (opAt L j) ≤ Hx L j ∧ Hx L j - tk (opAt L j) + gv (opAt L j) ≤ 16

structure Straight (L : List Ins) : Prop where
  next : ∀ i, i + 1 < L.length → nexts L i = [((i + 1 : Nat) : Int)]
  last : ∀ i, i + 1 = L.length → nexts L i = []

theorem Hx_in {L : List Ins} : ∀ {i : Nat}, (∀ j, j < i → OK L j) → 0 ≤ Hx L i ∧ Hx L i ≤ 16
  | 0, _ => by simp [Hx]
  | i + 1, h => by
    have h1 := h i (by omega)
    have h2 := tb_small (opAt L i)
    unfold OK at h1
    unfold Hx
    omega

theorem RR.line {L : List Ins} (S : Straight L) {i h : Nat} (r : RR L i h) : (h : Int) = Hx L i ∧ ∀ j, j < i → OK L j := by
  induction r with
  | start => exact ⟨rfl, fun j hj => by omega⟩
  | @step i h j r hi hh hg hj ih =>
    obtain ⟨e, ho⟩ := ih
    have hj' : j = i + 1 := by
      rcases Nat.lt_or_ge (i + 1) L.length with hlt | hge
      · rw [S.next i hlt] at hj
        simp only [List.mem_singleton] at hj
        omega
      · rw [S.last i (by omega)] at hj
        cases hj
    subst hj'
    obtain ⟨g1, g2, g3⟩ := goes_spec hg
    refine ⟨?_, fun q hq => ?_⟩
    · rw [g1, e]; rfl
    · rcases Nat.lt_or_ge q i with hlt | hge
      · exact ho q hlt
      · obtain rfl : q = i := by omega
        unfold OK
        rw [← e]
        omega

theorem RR.way {L : List Ins} (S : Straight L) : ∀ {i : Nat}, i < L.length → (∀ j, j < i → OK L j) → RR L i (Hx L i).toNat
  | 0, _, _ => RR.start
  | i + 1, hi, h => by
    have r := RR.way S (i := i) (by omega) (fun j hj => h j (by omega))
    have hin := Hx_in (i := i) (fun j hj => h j (by omega))
    have ho := h i (by omega)
    unfold OK at ho
    have e : (((Hx L i).toNat : Nat) : Int) = Hx L i := by omega
    have hg : goes (opAt L i) (Hx L i).toNat = true := by
      unfold goes
      rw [e, decide_eq_true ho.1, decide_eq_true ho.2]
      rfl
    have := RR.step (j := i + 1) r (by omega) (by omega) hg (by rw [S.next i hi]; simp)
    have hb : behind (opAt L i) (Hx L i).toNat = (Hx L (i + 1)).toNat := by
      unfold behind
      rw [e]
      rfl
    rwa [hb] at this

theorem hgt_iff {L : List Ins} (W : Well L) (S : Straight L) (h0 : 0 < L.length) {M : List Bool} (F : Final L M) {i : Nat} (hi : i < L.length) (h : ∀ j, j < i → OK L j) : (hgt L M i).2 = true ↔ OK L i := by
  have T := told L M i
  have hin := Hx_in h
  have e : (((Hx L i).toNat : Nat) : Int) = Hx L i := by omega
  have hat : at_ M i (Hx L i).toNat = true := (F.iff W h0 hi (by omega)).2 (RR.way S hi h)
  constructor
  · intro ht
    obtain ⟨hg, _⟩ := T.well ht _ (by omega) hat
    obtain ⟨g1, g2, g3⟩ := goes_spec hg
    unfold OK
    omega
  · intro ho
    apply T.back
    intro q hq hqa
    have hr := ((F.iff W h0 hi (by omega)).1 hqa).line S
    have hg : goes (opAt L i) q = true := by
      unfold goes
      unfold OK at ho
      rw [hr.1, decide_eq_true ho.1, decide_eq_true ho.2]
      rfl
    refine ⟨hg, fun q' hq' hqa' => ?_⟩
    have hr' := ((F.iff W h0 hi (by omega)).1 hqa').line S
    have h1 := hr.1
    have h2 := hr'.1
    omega

theorem run_straight {L : List Ins} (S : Straight L) (h0 : 0 < L.length) (h96 : L.length ≤ 96) {names : List ByteArray} (hn8 : names.length ≤ 8) (hna : names.all nameA = true) (h1 : ∀ j, j < L.length → oneV L (names.length : Int) j = 0) {i e : Int} (r : RunIs L names i e) :
    (e = 0 ∧ i = 0 ∧ ∀ j, j < L.length → OK L j) ∨ (e = 7 ∧ ∃ n : Nat, i = n ∧ n < L.length ∧ (∀ j, j < n → OK L j) ∧ ¬ OK L n) := by
  have allOK : ∀ {M : List Bool} (W : Well L) (F : Final L M) (n : Nat), n ≤ L.length → (∀ j, j < n → (hgt L M j).2 = true) → ∀ j, j < n → OK L j := by
    intro M W F n
    induction n with
    | zero => intro _ _ j hj; omega
    | succ n ih =>
      intro hn ht j hj
      have hp := ih (by omega) (fun j hj => ht j (by omega))
      rcases Nat.lt_or_ge j n with hlt | hge
      · exact hp j hlt
      · obtain rfl : j = n := by omega
        exact (hgt_iff W S h0 F (by omega) hp).1 (ht j (by omega))
  cases r with
  | size h =>
    rcases h with h | h | h
    · omega
    · omega
    · omega
  | name _ _ _ h => rw [hna] at h; cases h
  | one i e _ _ _ _ hi hv hne _ => exact absurd ((h1 i hi).symm.trans hv).symm hne
  | stack i M _ _ _ W _ F hi hf hp =>
    have ho := allOK W F i (by omega) hp
    refine .inr ⟨rfl, i, rfl, hi, ho, fun h => ?_⟩
    rw [(hgt_iff W S h0 F hi ho).2 h] at hf
    cases hf
  | ok M _ _ _ W _ F hp => exact .inl ⟨rfl, rfl, allOK W F L.length (Nat.le_refl _) hp⟩

/-! ### told by a row of instructions -/
/-- one that goes on, and takes and leaves what it may -/
noncomputable def goOn (nn : Int) (x : Ins) (h : Int) : Prop := isI x.1 x.2 = true ∧ namesI x.1 x.2 nn = true ∧ jumpsI x.1 = false ∧ endsI x.1 = false ∧ tk x.1 ≤ h ∧ h - tk x.1 + gv x.1 ≤ 16

/-- a way from a height to a height -/
inductive Way (nn : Int) : List Ins → Int → Int → Prop
  | nil {h : Int} : Way nn [] h h
  | cons {x : Ins} {l : List Ins} {h h' h'' : Int} (g : goOn nn x h) (e : h' = h - tk x.1 + gv x.1) (w : Way nn l h' h'') : Way nn (x :: l) h h''

theorem Way.append {nn : Int} {l m : List Ins} {a b c : Int} (w : Way nn l a b) (v : Way nn m b c) : Way nn (l ++ m) a c := by
  induction w with
  | nil => exact v
  | cons g e _ ih => exact .cons g e (ih v)

theorem way_at {nn : Int} {L post : List Ins} : ∀ {l pre : List Ins} {a b : Int}, Way nn l a b → L = pre ++ l ++ post → Hx L pre.length = a →
    (∀ j, pre.length ≤ j → j < pre.length + l.length → goOn nn (L.getD j (0, 0)) (Hx L j)) ∧ Hx L (pre.length + l.length) = b := by
  intro l
  induction l with
  | nil =>
    intro pre a b w e h
    cases w
    exact ⟨fun j h1 h2 => by simp at h2; omega, by simpa using h⟩
  | cons x l ih =>
    intro pre a b w e h
    cases w with
    | cons g eh w =>
      have hx : L.getD pre.length (0, 0) = x := by rw [e]; simp [List.getD_eq_getElem?_getD]
      have hn : Hx L (pre ++ [x]).length = Hx L pre.length - tk x.1 + gv x.1 := by
        rw [List.length_append, List.length_singleton]
        show Hx L pre.length - tk (opAt L pre.length) + gv (opAt L pre.length) = _
        unfold opAt
        rw [hx]
      obtain ⟨i1, i2⟩ := ih (pre := pre ++ [x]) w (by rw [e]; simp) (by rw [hn, h, eh])
      rw [List.length_append, List.length_singleton] at i1 i2
      refine ⟨fun j h1 h2 => ?_, by rw [List.length_cons, show pre.length + (l.length + 1) = pre.length + 1 + l.length by omega]; exact i2⟩
      rw [List.length_cons] at h2
      by_cases he : j = pre.length
      · subst he
        rw [hx, h]
        exact g
      · exact i1 j (by omega) (by omega)

/-- a row that ends with an exit may run -/
theorem straight_okN {names : List ByteArray} (hn8 : names.length ≤ 8) (hna : names.all nameA = true) {l : List Ins} (w : Way (names.length : Int) l 0 1) (hl : l.length ≤ 95) {R : Type} (N : Nat) (hN : 2000 < N) (k : Int → Int → List Ins → List ByteArray → Option R) :
    Z1 N (l ++ [(26, 0)]) names k = k 0 0 (l ++ [(26, 0)]) names := by
  obtain ⟨L, hL⟩ : ∃ L, L = l ++ [((26 : Int), (0 : Int))] := ⟨_, rfl⟩
  rw [← hL]
  have hlen : L.length = l.length + 1 := by rw [hL]; simp
  obtain ⟨h1, h2⟩ := way_at (L := L) (pre := []) (post := [(26, 0)]) w (by rw [hL]; rfl) rfl
  have h1' : ∀ j, j < l.length → goOn (names.length : Int) (L.getD j (0, 0)) (Hx L j) := fun j hj => h1 j (by simp) (by simpa using hj)
  have h2' : Hx L l.length = 1 := by simpa using h2
  have hx : L.getD l.length (0, 0) = (26, 0) := by rw [hL]; simp [List.getD_eq_getElem?_getD]
  have f26 : tk 26 = 1 ∧ gv 26 = 0 ∧ isI 26 0 = true := by decide +kernel
  have S : Straight L := by
    constructor
    · intro i hi
      obtain ⟨_, _, g3, g4, _⟩ := h1' i (by omega)
      unfold nexts opAt aAt
      rw [g3, g4]
      rfl
    · intro i hi
      obtain rfl : i = l.length := by omega
      unfold nexts opAt aAt
      rw [hx]
      rfl
  have one : ∀ j, j < L.length → oneV L (names.length : Int) j = 0 := by
    intro j hj
    unfold oneV opAt aAt
    by_cases he : j = l.length
    · subst he
      rw [hx]
      simp only [f26.2.2]
      have hn26 : namesI 26 0 (names.length : Int) = true := rfl
      rw [hn26]
      rw [if_neg (by decide), if_neg (by decide), if_neg (fun h => by have := h.1; revert this; decide), if_neg (fun h => by have := h.1; revert this; decide)]
    · obtain ⟨g1, g2, g3, g4, _⟩ := h1' j (by omega)
      rw [g1, g2, g3, g4]
      rw [if_neg (by decide), if_neg (by decide), if_neg (fun h => by have := h.1; revert this; decide), if_neg (fun h => by have := h.2; omega)]
  have ok : ∀ j, j < L.length → OK L j := by
    intro j hj
    unfold OK opAt
    by_cases he : j = l.length
    · subst he
      rw [hx, h2']
      simp only [f26.1, f26.2.1]
      decide
    · obtain ⟨_, _, _, _, g5, g6⟩ := h1' j (by omega)
      exact ⟨g5, g6⟩
  obtain ⟨i, e, r, hr⟩ := Run_ex N hN L names
  rw [hr]
  rcases run_straight S (by omega) (by omega) hn8 hna one r with ⟨e1, e2, _⟩ | ⟨_, n, _, hn, _, hno⟩
  · rw [e1, e2]
  · exact absurd (ok n hn) hno

end Go.Proofs.Ythdgncnbnallcaa
