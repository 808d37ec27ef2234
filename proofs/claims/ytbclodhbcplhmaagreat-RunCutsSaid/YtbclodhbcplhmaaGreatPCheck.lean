/-
 the check of programs (chapter 11): instructions, what is reached, heights: what the printed functions come to.
-/
import Derived.Test.YtbclodhbcplhmaaGreatPCName
set_option linter.unusedSimpArgs false
set_option linter.unusedVariables false
namespace Go.Proofs.YtbclodhbcplhmaaGreat
open Go.Gx

/-! ### plain words -/
theorem br_bind {A R : Type} (b : Bool) (x y : Option A) (f : A → Option R) : (br b x y).bind f = br b (x.bind f) (y.bind f) := by cases b <;> rfl
theorem br_ex {A : Type} (b : Bool) {x y : Option A} (h : ∃ t, x = some t) (k : ∃ t, y = some t) : ∃ t, br b x y = some t := by cases b <;> assumption
theorem inB_nat (i n : Nat) : inB (i : Int) n = decide (i < n) := by
 unfold inB
 rw [Bool.eq_iff_iff]
 simp only [Bool.and_eq_true, decide_eq_true_eq]
 omega
theorem getD_lt {α : Type} {l : List α} {i : Nat} (h : i < l.length) (d : α) : l.getD i d = l[i] := by simp [List.getD_eq_getElem?_getD, List.getElem?_eq_getElem h]

/-! ### instructions -/
/-- what an operator takes, gives, how many As there are; is there one -/
noncomputable def tb (op : Int) : Int × Int × Int × Bool := (Z45 0 op (fun a b c d => some (a, b, c, d))).getD (0, 0, 0, false)

theorem tb_some (op : Int) : ∃ t, Z45 0 op (fun a b c d => some (a, b, c, d)) = some t := by
 unfold Z45 Z45_T
 repeat first
  | exact ⟨_, rfl⟩
  | refine br_ex _ ⟨_, rfl⟩ ?_

theorem table_eq {R : Type} (N : Nat) (op : Int) (k : Int → Int → Int → Bool → Option R) : Z45 N op k = k (tb op).1 (tb op).2.1 (tb op).2.2.1 (tb op).2.2.2 := by
 have h : Z45 N op k = (Z45 0 op (fun a b c d => some (a, b, c, d))).bind fun t => k t.1 t.2.1 t.2.2.1 t.2.2.2 := by
  unfold Z45 Z45_T
  simp only [br_bind, Option.bind_some]
 obtain ⟨t, ht⟩ := tb_some op
 rw [h]
 unfold tb
 rw [ht]
 rfl

theorem tb_out {op : Int} (h : ¬ (1 ≤ op ∧ op ≤ 41)) : tb op = (0, 0, 0, false) := by
 unfold tb Z45 Z45_T
 simp only [br_dec]
 repeat rw [if_neg (by omega)]
 rfl

theorem tb_in {P : Int → Prop} (h : ∀ n : Fin 42, 0 < n.val → P (n.val : Int)) {op : Int} (ho : 1 ≤ op ∧ op ≤ 41) : P op := by
 have := h ⟨op.toNat, by omega⟩ (by show 0 < op.toNat; omega)
 simp only at this
 rwa [show ((op.toNat : Nat) : Int) = op by omega] at this

theorem tb_dec {P : Int → Prop} (h : ∀ n : Fin 42, 0 < n.val → P (n.val : Int)) (op : Int) (hv : (tb op).2.2.2 = true) : P op := by
 refine tb_in h ?_
 by_cases ho : 1 ≤ op ∧ op ≤ 41
 ·exact ho
 ·rw [tb_out ho] at hv; cases hv

noncomputable def tk (op : Int) : Int := (tb op).1
noncomputable def gv (op : Int) : Int := (tb op).2.1
noncomputable def isI (op a : Int) : Bool := (tb op).2.2.2 && decide (0 ≤ a) && decide (a < (tb op).2.2.1)
def jumpsI (op : Int) : Bool := decide (op = 22) || decide (op = 23)
def endsI (op : Int) : Bool := decide (op = 22) || decide (op = 26)

theorem tb_small (op : Int) : 0 ≤ tk op ∧ tk op ≤ 3 ∧ 0 ≤ gv op ∧ gv op ≤ 2 := by
 by_cases ho : 1 ≤ op ∧ op ≤ 41
 ·exact tb_in (P := fun op => 0 ≤ tk op ∧ tk op ≤ 3 ∧ 0 ≤ gv op ∧ gv op ≤ 2) (by decide +kernel) ho
 ·unfold tk gv; rw [tb_out ho]; decide

theorem isI_op {op a : Int} (h : isI op a = true) : (tb op).2.2.2 = true := by
 unfold isI at h
 simp only [Bool.and_eq_true] at h
 exact h.1.1

theorem May_eq {R : Type} (N : Nat) (op a : Int) (k : Bool → Option R) : Z43 N op a k = k (isI op a) := by
 unfold Z43 Z43_T isI
 rw [table_eq]
 cases (tb op).2.2.2 with
 | false => rfl
 | true =>
  simp only [br_true, Bool.true_and]
  cases decide (0 ≤ a) <;> rfl

theorem Takes_eq {R : Type} (N : Nat) (op : Int) (hv : (tb op).2.2.2 = true) (k : Int → Option R) : Z44 N op k = k (tk op) := by
 unfold Z44 Z44_T
 rw [table_eq, hv]
 rfl

theorem Gives_eq {R : Type} (N : Nat) (op : Int) (hv : (tb op).2.2.2 = true) (k : Int → Option R) : Z41 N op k = k (gv op) := by
 unfold Z41 Z41_T
 rw [table_eq, hv]
 rfl

theorem Jumps_eq {R : Type} (N : Nat) (op : Int) (k : Bool → Option R) : Z42 N op k = k (jumpsI op) := by
 unfold Z42 Z42_T jumpsI
 simp only [br_ndec, br_dec]
 by_cases h : op = 22 <;> by_cases h' : op = 23 <;> simp [h, h']

theorem Ends_eq {R : Type} (N : Nat) (op : Int) (k : Bool → Option R) : Z39 N op k = k (endsI op) := by
 unfold Z39 Z39_T endsI
 simp only [br_ndec, br_dec]
 by_cases h : op = 22 <;> by_cases h' : op = 26 <;> simp [h, h']

/-! ### what is reached -/
abbrev Ins := Int × Int
def opAt (L : List Ins) (i : Nat) : Int := (L.getD i (0, 0)).1
def aAt (L : List Ins) (i : Nat) : Int := (L.getD i (0, 0)).2
/-- what stands behind an instruction -/
def nexts (L : List Ins) (i : Nat) : List Int := (if endsI (opAt L i) then [] else [((i + 1 : Nat) : Int)]) ++ (if jumpsI (opAt L i) then [aAt L i] else [])
noncomputable def goes (op : Int) (h : Nat) : Bool := decide (tk op ≤ h) && decide ((h : Int) - tk op + gv op ≤ 16)
noncomputable def behind (op : Int) (h : Nat) : Nat := ((h : Int) - tk op + gv op).toNat

/-- a program each of whose instructions may be -/
structure Well (L : List Ins) : Prop where
 len : L.length ≤ 96
 op : ∀ i, i < L.length → (tb (opAt L i)).2.2.2 = true
 nx : ∀ i, i < L.length → ∀ t ∈ nexts L i, ∃ j : Nat, t = (j : Int) ∧ j < L.length

theorem next_eq {R : Type} (N : Nat) {L : List Ins} (names : List ByteArray) (hl : L.length ≤ 96) {i : Nat} (hi : i < L.length) (k : List Int → Option R) : Z8 N L names (i : Int) k = k (nexts L i) := by
 unfold Z8 Z8_T nexts opAt aAt
 simp only [inB_nat, hi, decide_true, br_true, Int.toNat_natCast, Ends_eq, Jumps_eq, w64_succ (show i < 9223372036854775807 by omega)]
 generalize L.getD i (0, 0) = x
 cases endsI x.1 <;> cases jumpsI x.1 <;> rfl

theorem behind_eq {R : Type} (N : Nat) (op a : Int) (hv : (tb op).2.2.2 = true) (h : Nat) (hh : h ≤ 16) (k : Int → Bool → Option R) :
  Z3 N op a (h : Int) k = k ((h : Int) - tk op + gv op) (goes op h) := by
 unfold Z3 Z3_T goes
 rw [Takes_eq N op hv, Gives_eq N op hv]
 have := tb_small op
 rw [w64 (by omega), w64 (by omega), br_dec]
 by_cases h1 : tk op ≤ h
 ·rw [if_pos (by omega)]
  simp [h1]
 ·rw [if_neg (by omega)]
  simp [h1]

theorem goes_spec {op : Int} {h : Nat} (hg : goes op h = true) : ((behind op h : Nat) : Int) = (h : Int) - tk op + gv op ∧ behind op h ≤ 16 ∧ tk op ≤ h := by
 unfold goes at hg
 simp only [Bool.and_eq_true, decide_eq_true_eq] at hg
 have := tb_small op
 unfold behind
 omega

def at_ (M : List Bool) (i h : Nat) : Bool := M.getD (i * 17 + h) false
def mark (m : Nat) (s : Bool × List Bool) (t : Int) : Bool × List Bool := (s.1 || !at_ s.2 t.toNat m, s.2.set (t.toNat * 17 + m) true)

theorem mark_len (m : Nat) (s : Bool × List Bool) (t : Int) : (mark m s t).2.length = s.2.length := by simp [mark]

theorem reach_l3 {R : Type} (N : Nat) (k0 : Bool → Int → List Ins → Int → Int → List Bool → Int → List Ins → List ByteArray → List Bool → Int → Int → Option R) (i : Int) (m : Nat) (hm : m ≤ 16) (L' : List Ins) (len idx : Int) (row : List Bool) (h : Int)
  (L : List Ins) (names : List ByteArray) (op a : Int) (T : List Int) (hT : T.length ≤ 96) (hTj : ∀ t ∈ T, ∃ j : Nat, t = (j : Int) ∧ j < 96) :
  ∀ (n q : Nat), q ≤ T.length → T.length - q < n → ∀ (g : Bool) (M : List Bool),
   Z13_l3 N k0 n g i (m : Int) L' len idx row h (T.length : Int) (q : Int) L names M op a T = k0 ((T.drop q).foldl (mark m) (g, M)).1 i L' len idx row h L names ((T.drop q).foldl (mark m) (g, M)).2 op a
 | 0, q, _, hn, _, _ => by omega
 | n + 1, q, hq, hn, g, M => by
  simp only [Z13_l3, Z13_l3_T0, inB_nat, Int.toNat_natCast, Int.ofNat_lt]
  by_cases hlt : q < T.length
  ·obtain ⟨j, hj, hj96⟩ := hTj T[q] (List.getElem_mem hlt)
   have hd : T.drop q = T[q] :: T.drop (q + 1) := List.drop_eq_getElem_cons hlt
   have hx : ((j : Int) * 17 + (m : Int)).toNat = j * 17 + m := by omega
   have hidx : j * 17 + m < 1632 := by omega
   have ih := reach_l3 N k0 i m hm L' len idx row h L names op a T hT hTj n (q + 1) (by omega) (by omega)
   have hmm : m < 17 := by omega
   have hjn : (0 : Int) ≤ (j : Int) := by omega
   simp only [hlt, decide_true, br_true, getD_lt hlt, hj, inB_nat, hj96, hmm, hx, hidx, hjn, Bool.and_self, w64_succ (show q < 9223372036854775807 by omega), hd, List.foldl_cons, ih]
   cases g with
   | true => simp [mark, at_]
   | false => simp [mark, at_]
  ·have : T.drop q = [] := List.drop_eq_nil_of_le (by omega)
   simp only [hlt, decide_false, br_false, this, List.foldl_nil]

/-- what is done for a height of an instruction -/
noncomputable def hstep (L : List Ins) (i : Nat) (row : List Bool) (s : Bool × List Bool) (h : Nat) : Bool × List Bool :=
 if row.getD h false = true ∧ goes (opAt L i) h = true then (nexts L i).foldl (mark (behind (opAt L i) h)) s else s

theorem nexts_len (L : List Ins) (i : Nat) : (nexts L i).length ≤ 2 := by
 unfold nexts
 split <;> split <;> simp

theorem reach_l2 {R : Type} (N : Nat) (hN : 100 < N) (k0 : Bool → List Ins → Int → Int → List Ins → List ByteArray → List Bool → Option R) {L : List Ins} (W : Well L) (names : List ByteArray) {i : Nat} (hi : i < L.length) (L' : List Ins) (len idx : Int) (row : List Bool) :
  ∀ (n h : Nat), h ≤ 17 → 17 - h < n → ∀ (g : Bool) (M : List Bool),
   Z13_l2 N k0 n g (i : Int) L' len idx row (h : Int) L names M (opAt L i) (aAt L i) =
    k0 ((List.range' h (17 - h)).foldl (hstep L i row) (g, M)).1 L' len idx L names ((List.range' h (17 - h)).foldl (hstep L i row) (g, M)).2
 | 0, h, _, hn, _, _ => by omega
 | n + 1, h, hh, hn, g, M => by
  simp only [Z13_l2, Z13_l2_T0]
  by_cases hlt : h < 17
  ·have hc : decide ((h : Int) < 17) = true := decide_eq_true (by omega)
   have hr : List.range' h (17 - h) = h :: List.range' (h + 1) (17 - (h + 1)) := by
    rw [show 17 - h = (17 - (h + 1)) + 1 by omega, List.range'_succ]
   have ih := reach_l2 N hN k0 W names hi L' len idx row n (h + 1) (by omega) (by omega)
   have hnl := nexts_len L i
   have hl := W.len
   simp only [hc, inB_nat, hlt, decide_true, br_true, Int.toNat_natCast, behind_eq N _ _ (W.op i hi) h (by omega), hr, List.foldl_cons, w64_succ (show h < 9223372036854775807 by omega), next_eq N names W.len hi, Bool.not_not, br_neg]
   cases hrow : row.getD h false with
   | false =>
    have hs : hstep L i row (g, M) h = (g, M) := by unfold hstep; rw [if_neg (by rw [hrow]; simp)]
    rw [hs]
    exact ih g M
   | true =>
    cases hg : goes (opAt L i) h with
    | false =>
     have hs : hstep L i row (g, M) h = (g, M) := by unfold hstep; rw [if_neg (by rw [hg]; simp)]
     rw [hs]
     exact ih g M
    | true =>
     obtain ⟨e1, e2, e3⟩ := goes_spec hg
     have hs : hstep L i row (g, M) h = (nexts L i).foldl (mark (behind (opAt L i) h)) (g, M) := by unfold hstep; rw [if_pos ⟨hrow, hg⟩]
     rw [hs]
     simp only [br_true, ← e1]
     have := reach_l3 N (fun b i L len idx row h L_1 names M op a => Z13_l2 N k0 n b i L len idx row (IntKind.wrap .i64 (h + 1)) L_1 names M op a) (i : Int) (behind (opAt L i) h) e2 L' len idx row (h : Int) L names (opAt L i) (aAt L i) (nexts L i) (by omega)
      (fun t ht => by obtain ⟨j, h1, h2⟩ := W.nx i hi t ht; exact ⟨j, h1, by omega⟩) N 0 (by omega) (by omega) g M
     simp only [List.drop_zero, w64_succ (show h < 9223372036854775807 by omega)] at this
     exact this.trans (ih _ _)
  ·have hc : decide ((h : Int) < 17) = false := decide_eq_false (by omega)
   rw [hc, show 17 - h = 0 by omega]
   rfl

/-- what is done for an instruction -/
noncomputable def istep (L : List Ins) (s : Bool × List Bool) (i : Nat) : Bool × List Bool := (List.range 17).foldl (hstep L i ((s.2.drop (i * 17)).take 17)) s
noncomputable def pass (L : List Ins) (s : Bool × List Bool) : Bool × List Bool := (List.range L.length).foldl (istep L) s

theorem reach_l1 {R : Type} (N : Nat) (hN : 100 < N) (k0 : Bool → List Ins → List ByteArray → List Bool → Option R) {L : List Ins} (W : Well L) (names : List ByteArray) :
  ∀ (n i : Nat), i ≤ L.length → L.length - i < n → ∀ (g : Bool) (M : List Bool),
   Z13_l1 N k0 n g L (L.length : Int) (i : Int) L names M =
    k0 ((List.range' i (L.length - i)).foldl (istep L) (g, M)).1 L names ((List.range' i (L.length - i)).foldl (istep L) (g, M)).2
 | 0, i, _, hn, _, _ => by omega
 | n + 1, i, hi, hn, g, M => by
  simp only [Z13_l1, Z13_l1_T0, Int.ofNat_lt]
  by_cases hlt : i < L.length
  ·have hl := W.len
   have hr : List.range' i (L.length - i) = i :: List.range' (i + 1) (L.length - (i + 1)) := by
    rw [show L.length - i = (L.length - (i + 1)) + 1 by omega, List.range'_succ]
   have ih := reach_l1 N hN k0 W names n (i + 1) (by omega) (by omega)
   have h1 : (i + 1) * 17 ≤ 1632 := by omega
   have h96 : i < 96 := by omega
   simp only [hlt, decide_true, br_true, inB_nat, h96, Int.toNat_natCast, h1, hr, List.foldl_cons]
   have := reach_l2 N hN (fun b L' len idx L names M => Z13_l1 N k0 n b L' len (IntKind.wrap .i64 (idx + 1)) L names M) W names hlt L (L.length : Int) (i : Int) ((M.drop (i * 17)).take 17) N 0 (by omega) (by omega) g M
   simp only [w64_succ (show i < 9223372036854775807 by omega)] at this
   refine this.trans ?_
   rw [← List.range_eq_range']
   exact ih _ _
  ·simp only [hlt, decide_false, br_false]
   rw [show L.length - i = 0 by omega]
   rfl

/-! ### the fixpoint -/
/-- which heights an instruction is reached with -/
inductive RR (L : List Ins) : Nat → Nat → Prop
 | start : RR L 0 0
 | step {i h j : Nat} : RR L i h → i < L.length → h ≤ 16 → goes (opAt L i) h = true → (j : Int) ∈ nexts L i → RR L j (behind (opAt L i) h)

/-- a step that changes the flag or nothing -/
def Idle {A : Type} (f : Bool × List Bool → A → Bool × List Bool) : Prop := ∀ s x, (f s x).1 = false → f s x = s

theorem Idle.fold {A : Type} {f : Bool × List Bool → A → Bool × List Bool} (hf : Idle f) : ∀ (l : List A) (s : Bool × List Bool), (l.foldl f s).1 = false → l.foldl f s = s ∧ ∀ x ∈ l, f s x = s
 | [], s, _ => ⟨rfl, fun _ h => nomatch h⟩
 | x :: l, s, h => by
  obtain ⟨h1, h2⟩ := Idle.fold hf l (f s x) h
  simp only [List.foldl_cons] at h ⊢
  rw [h1] at h
  have h3 := hf s x h
  rw [h3] at h1 h2
  rw [h3]
  exact ⟨h1, fun y hy => by
   rcases List.mem_cons.1 hy with rfl | hy
   ·exact h3
   ·exact h2 y hy⟩

theorem set_same {M : List Bool} {x : Nat} (h : M.getD x false = true) : M.set x true = M := by
 apply List.ext_getElem?
 intro i
 rw [List.getElem?_set]
 split
 ·rename_i e
  subst e
  rw [List.getD_eq_getElem?_getD] at h
  cases hx : M[x]? with
  | none => rw [hx] at h; cases h
  | some b =>
   rw [hx] at h
   have : b = true := h
   subst this
   have := (List.getElem?_eq_some_iff.1 hx).1
   simp [this]
 ·rfl

theorem mark_idle (m : Nat) : Idle (mark m) := fun s t h => by
 simp only [mark, Bool.or_eq_false_iff, Bool.not_eq_false'] at h
 obtain ⟨h1, h2⟩ := h
 have h2 : s.2.getD (t.toNat * 17 + m) false = true := h2
 show ((s.1 || !at_ s.2 t.toNat m, s.2.set (t.toNat * 17 + m) true) : Bool × List Bool) = s
 rw [set_same h2]
 unfold at_
 rw [h2, h1, ← h1]
 simp

theorem hstep_idle (L : List Ins) (i : Nat) (row : List Bool) : Idle (hstep L i row) := fun s h e => by
 unfold hstep at e ⊢
 split at e
 ·rename_i hc
  rw [if_pos hc]
  exact ((mark_idle _).fold _ _ e).1
 ·rename_i hc
  rw [if_neg hc]

theorem istep_idle (L : List Ins) : Idle (istep L) := fun s i e => ((hstep_idle L i _).fold _ _ e).1

theorem row_at {M : List Bool} {i h : Nat} (hh : h < 17) : ((M.drop (i * 17)).take 17).getD h false = at_ M i h := by
 unfold at_
 rw [List.getD_eq_getElem?_getD, List.getD_eq_getElem?_getD, List.getElem?_take_of_lt hh, List.getElem?_drop]

/-- nothing more is reached -/
def Closed (L : List Ins) (M : List Bool) : Prop := ∀ i h j : Nat, i < L.length → h ≤ 16 → at_ M i h = true → goes (opAt L i) h = true → (j : Int) ∈ nexts L i → at_ M j (behind (opAt L i) h) = true

theorem pass_closed {L : List Ins} {M : List Bool} (h : (pass L (false, M)).1 = false) : pass L (false, M) = (false, M) ∧ Closed L M := by
 obtain ⟨h1, h2⟩ := (istep_idle L).fold _ _ h
 refine ⟨h1, fun i hh j hi hle hat hg hj => ?_⟩
 have h3 := h2 i (List.mem_range.2 hi)
 have h4 : (istep L (false, M) i).1 = false := by rw [h3]
 obtain ⟨_, h5⟩ := (hstep_idle L i _).fold _ _ h4
 have h6 := h5 hh (List.mem_range.2 (by omega))
 have h7 : (hstep L i ((M.drop (i * 17)).take 17) (false, M) hh).1 = false := by rw [h6]
 unfold hstep at h7
 rw [if_pos ⟨by rw [row_at (by omega)]; exact hat, hg⟩] at h7
 obtain ⟨_, h8⟩ := (mark_idle _).fold _ _ h7
 have h9 := congrArg Prod.fst (h8 _ hj)
 simpa [mark] using h9

theorem fold_inv {A B : Type} {f : B → A → B} {K : B → Prop} : ∀ {l : List A} {s : B}, (∀ s x, x ∈ l → K s → K (f s x)) → K s → K (l.foldl f s)
 | [], _, _, h => h
 | x :: l, s, hf, h => fold_inv (l := l) (fun s y hy => hf s y (List.mem_cons_of_mem _ hy)) (hf s x (List.mem_cons_self ..) h)

theorem cnt_set : ∀ {M : List Bool} {x : Nat}, x < M.length → M.getD x false = false → (M.set x true).count true = M.count true + 1
 | [], x, h, _ => by simp at h
 | b :: M, 0, _, h => by
  have : b = false := h
  subst this
  simp
 | b :: M, x + 1, hx, h => by
  have := cnt_set (M := M) (x := x) (by simpa using hx) h
  simp only [List.set_cons_succ, List.count_cons, this]
  omega

/-- what holds while a matrix is filled -/
structure Fill (L : List Ins) (c : Nat) (s : Bool × List Bool) : Prop where
 len : s.2.length = 1632
 le : c ≤ s.2.count true
 lt : s.1 = true → c < s.2.count true
 zero : at_ s.2 0 0 = true
 snd : ∀ i h, i < L.length → h ≤ 16 → at_ s.2 i h = true → RR L i h

theorem at_set {M : List Bool} {j m i h : Nat} (hM : M.length = 1632) (hj : j < 96) (hm : m ≤ 16) (hh : h ≤ 16) : at_ (M.set (j * 17 + m) true) i h = if i = j ∧ h = m then true else at_ M i h := by
 unfold at_
 rw [List.getD_eq_getElem?_getD, List.getElem?_set, List.getD_eq_getElem?_getD]
 by_cases e : j * 17 + m = i * 17 + h
 ·have e1 : i = j ∧ h = m := by omega
  rw [if_pos e, if_pos e1, if_pos (by omega)]
  rfl
 ·rw [if_neg e, if_neg (by omega)]

theorem Fill.mark {L : List Ins} {c : Nat} {s : Bool × List Bool} (F : Fill L c s) {j m : Nat} (hL : L.length ≤ 96) (hj : j < L.length) (hm : m ≤ 16) (hr : RR L j m) : Fill L c (mark m s (j : Int)) := by
 have hx : j * 17 + m < s.2.length := by rw [F.len]; omega
 have hc : (s.2.set (j * 17 + m) true).count true = s.2.count true + (if at_ s.2 j m = true then 0 else 1) := by
  cases ha : at_ s.2 j m with
  | true => rw [set_same ha]; simp
  | false => rw [cnt_set hx ha]; simp
 refine ⟨by show (s.2.set _ true).length = _; simp [F.len], ?_, ?_, ?_, ?_⟩
 ·show c ≤ (s.2.set ((j : Int).toNat * 17 + m) true).count true
  rw [Int.toNat_natCast, hc]
  have := F.le
  omega
 ·intro h
  have h : (s.1 || !at_ s.2 (j : Int).toNat m) = true := h
  show c < (s.2.set ((j : Int).toNat * 17 + m) true).count true
  rw [Int.toNat_natCast] at h ⊢
  rw [hc]
  have h1 := F.le
  have h2 := F.lt
  cases hs : s.1 with
  | true => have := h2 hs; omega
  | false =>
   rw [hs] at h
   have : at_ s.2 j m = false := by simpa using h
   rw [this]
   simp
   omega
 ·show at_ (s.2.set ((j : Int).toNat * 17 + m) true) 0 0 = true
  rw [Int.toNat_natCast, at_set F.len (by omega) hm (by omega)]
  split
  ·rfl
  ·exact F.zero
 ·intro i h hi hh ha
  have ha : at_ (s.2.set ((j : Int).toNat * 17 + m) true) i h = true := ha
  rw [Int.toNat_natCast, at_set F.len (by omega) hm hh] at ha
  split at ha
  ·rename_i e
   rw [e.1, e.2]
   exact hr
  ·exact F.snd i h hi hh ha

theorem Fill.pass {L : List Ins} (W : Well L) {c : Nat} {s : Bool × List Bool} (F : Fill L c s) : Fill L c (pass L s) := by
 refine fold_inv (fun s i hi F => ?_) F
 have hi := List.mem_range.1 hi
 have hrow : ∀ h, h ≤ 16 → ((s.2.drop (i * 17)).take 17).getD h false = true → RR L i h := fun h hh ha => F.snd i h hi hh (by rw [row_at (by omega)] at ha; exact ha)
 refine fold_inv (K := Fill L c) (fun s' h hh F' => ?_) F
 have hh := List.mem_range.1 hh
 unfold hstep
 split
 ·rename_i hc
  obtain ⟨_, e2, _⟩ := goes_spec hc.2
  refine fold_inv (K := Fill L c) (fun s2 t ht F2 => ?_) F'
  obtain ⟨j, rfl, hj⟩ := W.nx i hi t ht
  exact F2.mark W.len hj e2 (.step (hrow h (by omega) hc.1) hi (by omega) hc.2 ht)
 ·exact F'

/-- the matrix of what is reached -/
structure Final (L : List Ins) (M : List Bool) : Prop where
 zero : at_ M 0 0 = true
 snd : ∀ i h, i < L.length → h ≤ 16 → at_ M i h = true → RR L i h
 closed : Closed L M

theorem RR.at {L : List Ins} (W : Well L) (h0 : 0 < L.length) {M : List Bool} (F : Final L M) {i h : Nat} (r : RR L i h) : i < L.length ∧ h ≤ 16 ∧ at_ M i h = true := by
 induction r with
 | start => exact ⟨h0, by omega, F.zero⟩
 | step r hi hh hg hj ih =>
  obtain ⟨h1, h2, h3⟩ := ih
  obtain ⟨j', e, hj'⟩ := W.nx _ hi _ hj
  exact ⟨by omega, (goes_spec hg).2.1, F.closed _ _ _ hi hh h3 hg hj⟩

theorem Final.iff {L : List Ins} (W : Well L) (h0 : 0 < L.length) {M : List Bool} (F : Final L M) {i h : Nat} (hi : i < L.length) (hh : h ≤ 16) : at_ M i h = true ↔ RR L i h :=
 ⟨F.snd i h hi hh, fun r => (r.at W h0 F).2.2⟩

theorem reach_l0 (N : Nat) (hN : 100 < N) {L : List Ins} (W : Well L) (names : List ByteArray) : ∀ (n : Nat) (g : Bool) (M : List Bool), M.length = 1632 → at_ M 0 0 = true → (∀ i h, i < L.length → h ≤ 16 → at_ M i h = true → RR L i h) → (g = false → Closed L M) →
  1632 - M.count true + (if g then 2 else 1) ≤ n → ∃ M', Final L M' ∧ ∀ {R : Type} (k0 : List Bool → Option R), Z13_l0 N k0 n g L names M = k0 M'
 | 0, g, M, _, _, _, _, hn => by cases g <;> simp at hn
 | n + 1, false, M, hl, hz, hs, hc, hn => ⟨M, ⟨hz, hs, hc rfl⟩, fun k0 => rfl⟩
 | n + 1, true, M, hl, hz, hs, hc, hn => by
  have F : Fill L (M.count true) (pass L (false, M)) := Fill.pass W ⟨hl, Nat.le_refl _, (fun h => nomatch h), hz, hs⟩
  have hle : (pass L (false, M)).2.count true ≤ 1632 := by rw [← F.len]; exact List.count_le_length
  have hcl : (pass L (false, M)).1 = false → Closed L (pass L (false, M)).2 := fun h => by
   obtain ⟨h1, h2⟩ := pass_closed h
   rw [h1]
   exact h2
  have h1 := F.le
  have h2 := F.lt
  obtain ⟨M', h3, h4⟩ := reach_l0 N hN W names n (pass L (false, M)).1 (pass L (false, M)).2 F.len F.zero F.snd hcl (by
   simp only [if_true] at hn
   cases hp : (pass L (false, M)).1 with
   | false => simp; omega
   | true => have := h2 hp; simp; omega)
  refine ⟨M', h3, fun k0 => ?_⟩
  have hl := W.len
  have := reach_l1 N hN (fun b L names M => Z13_l0 N k0 n b L names M) W names N 0 (by omega) (by omega) false M
  simp only [Z13_l0, Z13_l0_T0, br_true]
  refine this.trans ?_
  rw [Nat.sub_zero, ← List.range_eq_range']
  exact h4 k0

theorem reach_ex (N : Nat) (hN : 2000 < N) {L : List Ins} (W : Well L) (h0 : 0 < L.length) (names : List ByteArray) : ∃ M, Final L M ∧ ∀ {R : Type} (k : List Bool → Option R), Z13 N L names k = k M := by
 have hi : List.set (List.replicate 1632 false) (Int.toNat ((0 : Int) * 17 + 0)) true = List.set (List.replicate 1632 false) 0 true := rfl
 have ha : ∀ i h, at_ (List.set (List.replicate 1632 false) 0 true) i h = true → i = 0 ∧ h = 0 := fun i h ha => by
  unfold at_ at ha
  rw [List.getD_eq_getElem?_getD, List.getElem?_set] at ha
  split at ha
  ·omega
  ·rw [List.getElem?_replicate] at ha
   split at ha <;> simp at ha
 have hlen : (List.set (List.replicate 1632 false) 0 true).length = 1632 := by rw [List.length_set, List.length_replicate]
 have hz : at_ (List.set (List.replicate 1632 false) 0 true) 0 0 = true := by
  unfold at_
  rw [List.getD_eq_getElem?_getD, List.getElem?_set_self (by rw [List.length_replicate]; omega)]
  rfl
 obtain ⟨M, h1, h2⟩ := reach_l0 N (by omega) W names N true (List.set (List.replicate 1632 false) 0 true) hlen hz (fun i h _ _ hx => by
  obtain ⟨rfl, rfl⟩ := ha i h hx
  exact .start) (fun h => nomatch h) (by simp only [if_true]; omega)
 refine ⟨M, h1, fun k => ?_⟩
 unfold Z13 Z13_T
 rw [hi]
 exact h2 k

/-! ### heights -/
noncomputable def hstepH (L : List Ins) (i : Nat) (M : List Bool) (s : Int × Bool) (h : Nat) : Int × Bool :=
 if at_ M i h = true then ((h : Int), s.2 && goes (opAt L i) h && decide (s.1 = -1)) else s
/-- an instruction's height; is it well -/
noncomputable def hgt (L : List Ins) (M : List Bool) (i : Nat) : Int × Bool := (List.range 17).foldl (hstepH L i M) (-1, true)

theorem height_l0 {R : Type} (N : Nat) (k0 : Int → Bool → List Bool → Option R) {L : List Ins} (W : Well L) (names : List ByteArray) (M : List Bool) {i : Nat} (hi : i < L.length) :
  ∀ (n h : Nat), h ≤ 17 → 17 - h < n → ∀ (o : Int) (b : Bool),
   Z5_l0 N k0 n (i : Int) o b ((M.drop (i * 17)).take 17) (h : Int) M L names = k0 ((List.range' h (17 - h)).foldl (hstepH L i M) (o, b)).1 ((List.range' h (17 - h)).foldl (hstepH L i M) (o, b)).2 M
 | 0, h, _, hn, _, _ => by omega
 | n + 1, h, hh, hn, o, b => by
  simp only [Z5_l0, Z5_l0_T0]
  by_cases hlt : h < 17
  ·have hc : decide ((h : Int) < 17) = true := decide_eq_true (by omega)
   have hr : List.range' h (17 - h) = h :: List.range' (h + 1) (17 - (h + 1)) := by
    rw [show 17 - h = (17 - (h + 1)) + 1 by omega, List.range'_succ]
   have ih := height_l0 N k0 W names M hi n (h + 1) (by omega) (by omega)
   have hop : (tb (L.getD i (0, 0)).1).2.2.2 = true := W.op i hi
   simp only [hc, inB_nat, hlt, hi, decide_true, br_true, Int.toNat_natCast, row_at hlt, behind_eq N _ _ hop h (by omega), hr, List.foldl_cons, w64_succ (show h < 9223372036854775807 by omega), br_neg]
   cases ha : at_ M i h with
   | false =>
    have hs : hstepH L i M (o, b) h = (o, b) := by unfold hstepH; rw [if_neg (by rw [ha]; simp)]
    rw [hs]
    exact ih o b
   | true =>
    have hs : hstepH L i M (o, b) h = ((h : Int), b && goes (opAt L i) h && decide (o = -1)) := by unfold hstepH; rw [if_pos ha]
    rw [hs]
    simp only [br_true]
    have hg : goes (L.getD i (0, 0)).1 h = goes (opAt L i) h := rfl
    rw [hg]
    cases b <;> cases goes (opAt L i) h <;> exact ih _ _
  ·have hc : decide ((h : Int) < 17) = false := decide_eq_false (by omega)
   rw [hc, show 17 - h = 0 by omega]
   rfl

theorem height_eq {R : Type} (N : Nat) (hN : 100 < N) {L : List Ins} (W : Well L) (names : List ByteArray) (M : List Bool) {i : Nat} (hi : i < L.length) (k : Int → Bool → List Bool → Option R) :
  Z5 N L names (i : Int) M k = k (hgt L M i).1 (hgt L M i).2 M := by
 unfold Z5 Z5_T hgt
 have hl := W.len
 have h1 : (i + 1) * 17 ≤ 1632 := by omega
 have h96 : i < 96 := by omega
 simp only [inB_nat, h96, decide_true, br_true, Int.toNat_natCast, h1]
 have := height_l0 N (fun o b M => k o b M) W names M hi N 0 (by omega) (by omega) (-1) true
 refine this.trans ?_
 rw [Nat.sub_zero, ← List.range_eq_range']

/-- what the heights tell -/
structure Told (L : List Ins) (M : List Bool) (i : Nat) (q : Nat) (s : Int × Bool) : Prop where
 out : s.1 = -1 ∨ ∃ h, h < q ∧ at_ M i h = true ∧ s.1 = (h : Int)
 none : s.1 = -1 → ∀ h, h < q → at_ M i h = false
 well : s.2 = true → ∀ h, h < q → at_ M i h = true → goes (opAt L i) h = true ∧ s.1 = (h : Int)
 back : (∀ h, h < q → at_ M i h = true → goes (opAt L i) h = true ∧ ∀ h', h' < q → at_ M i h' = true → h' = h) → s.2 = true

theorem told_fold (L : List Ins) (M : List Bool) (i : Nat) : ∀ q, Told L M i q ((List.range q).foldl (hstepH L i M) (-1, true))
 | 0 => ⟨.inl rfl, fun _ h hh => by omega, fun _ h hh => by omega, fun _ => rfl⟩
 | q + 1 => by
  have T := told_fold L M i q
  rw [List.range_succ, List.foldl_append]
  simp only [List.foldl_cons, List.foldl_nil]
  revert T
  generalize (List.range q).foldl (hstepH L i M) (-1, true) = s
  intro T
  unfold hstepH
  by_cases ha : at_ M i q = true
  ·rw [if_pos ha]
   refine ⟨.inr ⟨q, by omega, ha, rfl⟩, fun h => ?_, fun h => ?_, fun h => ?_⟩
   ·simp only at h; omega
   ·simp only [Bool.and_eq_true, decide_eq_true_eq] at h
    obtain ⟨⟨h1, h2⟩, h3⟩ := h
    intro j hj hja
    rcases Nat.lt_or_ge j q with hlt | hge
    ·rw [T.none h3 j hlt] at hja; cases hja
    ·obtain rfl : j = q := by omega
     exact ⟨h2, rfl⟩
   ·simp only [Bool.and_eq_true, decide_eq_true_eq]
    obtain ⟨g1, g2⟩ := h q (by omega) ha
    refine ⟨⟨T.back fun j hj hja => ⟨(h j (by omega) hja).1, fun j' hj' hja' => (h j (by omega) hja).2 j' (by omega) hja'⟩, g1⟩, ?_⟩
    rcases T.out with h1 | ⟨j, h1, h2, h3⟩
    ·exact h1
    ·have := g2 j (by omega) h2
     omega
  ·rw [if_neg ha]
   have ha : at_ M i q = false := by simpa using ha
   refine ⟨?_, fun h j hj => ?_, fun h j hj hja => ?_, fun h => T.back fun j hj hja => ⟨(h j (by omega) hja).1, fun j' hj' hja' => (h j (by omega) hja).2 j' (by omega) hja'⟩⟩
   ·rcases T.out with h1 | ⟨j, h1, h2, h3⟩
    ·exact .inl h1
    ·exact .inr ⟨j, by omega, h2, h3⟩
   ·rcases Nat.lt_or_ge j q with hlt | hge
    ·exact T.none h j hlt
    ·obtain rfl : j = q := by omega
     exact ha
   ·rcases Nat.lt_or_ge j q with hlt | hge
    ·exact T.well h j hlt hja
    ·obtain rfl : j = q := by omega
     rw [ha] at hja; cases hja

theorem told (L : List Ins) (M : List Bool) (i : Nat) : Told L M i 17 (hgt L M i) := told_fold L M i 17

/-! ### why an instruction may not be -/
def namesI (op a nn : Int) : Bool :=
 if op = 27 ∨ op = 33 ∨ op = 35 ∨ op = 36 ∨ op = 37 then decide (a < nn) else if op = 34 then decide (a / 8 < nn) && decide (a % 8 < nn) else true

theorem names_eq {R : Type} (N : Nat) (op a nn : Int) (ha : 0 ≤ a ∧ a < 9223372036854775807) (k : Bool → Option R) : Z7 N op a nn k = k (namesI op a nn) := by
 unfold Z7 Z7_T namesI
 have h1 : Int.tdiv a 8 = a / 8 := Int.tdiv_eq_ediv_of_nonneg ha.1
 have h2 : Int.tmod a 8 = a % 8 := Int.tmod_eq_emod_of_nonneg ha.1
 rw [h1, h2, w64 (by omega)]
 simp only [br_dec]
 by_cases a1 : op = 27
 ·simp [a1]
 by_cases a2 : op = 33
 ·simp [a2]
 by_cases a3 : op = 35
 ·simp [a3]
 by_cases a4 : op = 36
 ·simp [a4]
 by_cases a5 : op = 37
 ·simp [a5]
 simp only [a1, a2, a3, a4, a5, or_self, if_false]
 by_cases a6 : op = 34
 ·simp only [a6, if_true]
  by_cases h : a / 8 < nn
  ·simp [h]
  ·simp [h]
 ·simp [a6]

noncomputable def oneV (L : List Ins) (nn : Int) (i : Nat) : Int :=
 if isI (opAt L i) (aAt L i) = false then 5 else if namesI (opAt L i) (aAt L i) nn = false then 10
 else if jumpsI (opAt L i) = true ∧ (L.length : Int) ≤ aAt L i then 6 else if endsI (opAt L i) = false ∧ i + 1 = L.length then 8 else 0

theorem tb_as (op : Int) : (tb op).2.2.1 ≤ 65536 := by
 by_cases ho : 1 ≤ op ∧ op ≤ 41
 ·exact tb_in (P := fun op => (tb op).2.2.1 ≤ 65536) (by decide +kernel) ho
 ·rw [tb_out ho]; decide

theorem isI_a {op a : Int} (h : isI op a = true) : 0 ≤ a ∧ a < 65536 := by
 unfold isI at h
 simp only [Bool.and_eq_true, decide_eq_true_eq] at h
 have := tb_as op
 omega

theorem one_eq {R : Type} (N : Nat) (L : List Ins) (names : List ByteArray) (hl : L.length ≤ 96) {i : Nat} (hi : i < L.length) (k : Int → Option R) : Z10 N L names (i : Int) k = k (oneV L (names.length : Int) i) := by
 unfold Z10 Z10_T oneV
 simp only [inB_nat, hi, decide_true, br_true, Int.toNat_natCast, May_eq, Jumps_eq, Ends_eq, w64_succ (show i < 9223372036854775807 by omega), br_neg]
 have h1 : (L.getD i (0, 0)).1 = opAt L i := rfl
 have h2 : (L.getD i (0, 0)).2 = aAt L i := rfl
 simp only [h1, h2]
 cases hI : isI (opAt L i) (aAt L i) with
 | false => simp
 | true =>
  have ha := isI_a hI
  simp only [br_true, names_eq N _ _ _ (show 0 ≤ aAt L i ∧ aAt L i < 9223372036854775807 by omega), br_neg]
  cases namesI (opAt L i) (aAt L i) (names.length : Int) with
  | false => simp
  | true =>
   simp only [br_true, br_dec]
   have e : (((i + 1 : Nat) : Int) = (L.length : Int)) = (i + 1 = L.length) := propext ⟨fun h => by omega, fun h => by omega⟩
   simp only [e]
   cases jumpsI (opAt L i) with
   | true =>
    simp only [br_true]
    by_cases hj : (L.length : Int) ≤ aAt L i
    ·simp [hj]
    ·cases endsI (opAt L i) <;> by_cases he : i + 1 = L.length <;> simp [hj, he]
   | false =>
    simp only [br_false]
    cases endsI (opAt L i) <;> by_cases he : i + 1 = L.length <;> simp [he]

theorem well_of {L : List Ins} {nn : Int} (hl : L.length ≤ 96) (h : ∀ i, i < L.length → oneV L nn i = 0) : Well L := by
 have hop : ∀ i, i < L.length → isI (opAt L i) (aAt L i) = true ∧ ¬ (jumpsI (opAt L i) = true ∧ (L.length : Int) ≤ aAt L i) ∧ ¬ (endsI (opAt L i) = false ∧ i + 1 = L.length) := fun i hi => by
  have := h i hi
  unfold oneV at this
  split at this
  ·cases this
  ·rename_i h1
   split at this
   ·cases this
   ·split at this
    ·cases this
    ·rename_i h3
     split at this
     ·cases this
     ·rename_i h4
      exact ⟨by simpa using h1, h3, h4⟩
 refine ⟨hl, fun i hi => isI_op (hop i hi).1, fun i hi t ht => ?_⟩
 obtain ⟨h1, h2, h3⟩ := hop i hi
 have ha := isI_a h1
 unfold nexts at ht
 rcases List.mem_append.1 ht with ht | ht
 ·split at ht
  ·cases ht
  ·rename_i he
   rw [List.mem_singleton] at ht
   exact ⟨i + 1, ht, by
    have : i + 1 ≠ L.length := fun e => h3 ⟨by simpa using he, e⟩
    omega⟩
 ·split at ht
  ·rename_i hj
   rw [List.mem_singleton] at ht
   have : ¬ (L.length : Int) ≤ aAt L i := fun e => h2 ⟨hj, e⟩
   exact ⟨(aAt L i).toNat, by omega, by omega⟩
  ·cases ht

/-! ### all of it -/
def nameA (s : ByteArray) : Bool := nameB s.data.toList
theorem Name_eq {R : Type} (N : Nat) (hN : 8 < N) (s : ByteArray) (k : Bool → Option R) : Z0 N s k = k (nameA s) := by
 have := Z0_eq' N hN s.data.toList k
 rwa [bs_list] at this

theorem Run_l0 {R : Type} (N : Nat) (hN : 8 < N) (k0 : Int → Int → List Ins → List ByteArray → Option R) (k1 : List Ins → List ByteArray → Option R) (names : List ByteArray) (hl : names.length ≤ 8) (L : List Ins) (names' : List ByteArray) :
  ∀ (n q : Nat), q ≤ names.length → names.length - q < n → Z1_l0 N k0 k1 n names (names.length : Int) (q : Int) L names' = if (names.drop q).all nameA then k1 L names' else k0 0 10 L names'
 | 0, q, _, hn => by omega
 | n + 1, q, hq, hn => by
  simp only [Z1_l0, Z1_l0_T0, Int.ofNat_lt]
  by_cases hlt : q < names.length
  ·have hd : names.drop q = names[q] :: names.drop (q + 1) := List.drop_eq_getElem_cons hlt
   have ih := Run_l0 N hN k0 k1 names hl L names' n (q + 1) (by omega) (by omega)
   simp only [hlt, decide_true, br_true, inB_nat, Int.toNat_natCast, getD_lt hlt, Name_eq N hN, w64_succ (show q < 9223372036854775807 by omega), hd, List.all_cons, br_neg]
   cases nameA names[q] with
   | false => rfl
   | true => simpa using ih
  ·simp only [hlt, decide_false, br_false, List.drop_eq_nil_of_le (show names.length ≤ q by omega)]
   rfl

theorem find_range' (q m : Nat) (p : Nat → Bool) : (List.range' q (m + 1)).find? p = if p q then some q else (List.range' (q + 1) m).find? p := by
 rw [List.range'_succ, List.find?_cons]
 cases p q <;> rfl

theorem Run_l1 {R : Type} (N : Nat) (k0 : Int → Int → List Ins → List ByteArray → Option R) (k1 : List Ins → List ByteArray → Option R) {L : List Ins} (hl : L.length ≤ 96) (names : List ByteArray) :
  ∀ (n i : Nat), i ≤ L.length → L.length - i < n → Z1_l1 N k0 k1 n (L.length : Int) (i : Int) L names =
   match (List.range' i (L.length - i)).find? (fun i => decide (oneV L (names.length : Int) i ≠ 0)) with
   | some j => k0 (j : Int) (oneV L (names.length : Int) j) L names
   | none => k1 L names
 | 0, i, _, hn => by omega
 | n + 1, i, hi, hn => by
  simp only [Z1_l1, Z1_l1_T0, Int.ofNat_lt]
  by_cases hlt : i < L.length
  ·have ih := Run_l1 N k0 k1 hl names n (i + 1) (by omega) (by omega)
   simp only [hlt, decide_true, br_true, one_eq N L names hl hlt, w64_succ (show i < 9223372036854775807 by omega), br_ndec]
   rw [show L.length - i = (L.length - (i + 1)) + 1 by omega, find_range']
   by_cases hv : oneV L (names.length : Int) i = 0
   ·simpa [hv] using ih
   ·simp [hv]
  ·simp only [hlt, decide_false, br_false]
   rw [show L.length - i = 0 by omega]
   rfl

theorem Run_l2 {R : Type} (N : Nat) (hN : 100 < N) (k0 : Int → Int → Option R) (k1 : Option R) {L : List Ins} (W : Well L) (names : List ByteArray) (M : List Bool) :
  ∀ (n i : Nat), i ≤ L.length → L.length - i < n → Z1_l2 N k0 k1 n (L.length : Int) (i : Int) L names M =
   match (List.range' i (L.length - i)).find? (fun i => !(hgt L M i).2) with
   | some j => k0 (j : Int) 7
   | none => k1
 | 0, i, _, hn => by omega
 | n + 1, i, hi, hn => by
  have hl := W.len
  simp only [Z1_l2, Z1_l2_T0, Int.ofNat_lt]
  by_cases hlt : i < L.length
  ·have ih := Run_l2 N hN k0 k1 W names M n (i + 1) (by omega) (by omega)
   simp only [hlt, decide_true, br_true, height_eq N hN W names M hlt, w64_succ (show i < 9223372036854775807 by omega), br_neg]
   rw [show L.length - i = (L.length - (i + 1)) + 1 by omega, find_range']
   cases hv : (hgt L M i).2 with
   | true => simpa using ih
   | false => simp
  ·simp only [hlt, decide_false, br_false]
   rw [show L.length - i = 0 by omega]
   rfl

/-- what the check of a program comes to, with the matrix of what is reached -/
inductive RunIs (L : List Ins) (names : List ByteArray) : Int → Int → Prop
 | size : L.length = 0 ∨ 96 < L.length ∨ 8 < names.length → RunIs L names 0 3
 | name : 0 < L.length → L.length ≤ 96 → names.length ≤ 8 → names.all nameA = false → RunIs L names 0 10
 | one (i : Nat) (e : Int) : 0 < L.length → L.length ≤ 96 → names.length ≤ 8 → names.all nameA = true → i < L.length → oneV L (names.length : Int) i = e → e ≠ 0 → (∀ j, j < i → oneV L (names.length : Int) j = 0) → RunIs L names (i : Int) e
 | stack (i : Nat) (M : List Bool) : 0 < L.length → names.length ≤ 8 → names.all nameA = true → Well L → (∀ j, j < L.length → oneV L (names.length : Int) j = 0) → Final L M → i < L.length → (hgt L M i).2 = false → (∀ j, j < i → (hgt L M j).2 = true) → RunIs L names (i : Int) 7
 | ok (M : List Bool) : 0 < L.length → names.length ≤ 8 → names.all nameA = true → Well L → (∀ j, j < L.length → oneV L (names.length : Int) j = 0) → Final L M → (∀ j, j < L.length → (hgt L M j).2 = true) → RunIs L names 0 0

theorem find_some {n : Nat} {p : Nat → Bool} {j : Nat} (h : (List.range' 0 n).find? p = some j) : j < n ∧ p j = true ∧ ∀ i, i < j → p i = false := by
 rw [← List.range_eq_range'] at h
 have h1 := List.find?_some h
 have h2 := List.mem_range.1 (List.mem_of_find?_eq_some h)
 refine ⟨h2, h1, fun i hi => ?_⟩
 obtain ⟨_, pre, post, e, hn⟩ := List.find?_eq_some_iff_append.1 h
 have hm : i ∈ pre := by
  have h3 : (List.range n)[i]? = some i := List.getElem?_range (by omega)
  have h4 : (List.range n)[pre.length]? = some j := by rw [e, List.getElem?_append_right (Nat.le_refl _), Nat.sub_self]; rfl
  have h5 : pre.length = j := by
   have hlt := (List.getElem?_eq_some_iff.1 h4).1
   rw [List.length_range] at hlt
   rw [List.getElem?_range hlt] at h4
   exact Option.some.inj h4
  rw [e, List.getElem?_append_left (by omega)] at h3
  exact List.mem_of_getElem? h3
 simpa using hn i hm

theorem find_none {n : Nat} {p : Nat → Bool} (h : (List.range' 0 n).find? p = none) : ∀ i, i < n → p i = false := fun i hi => by
 rw [← List.range_eq_range', List.find?_eq_none] at h
 simpa using h i (List.mem_range.2 hi)

theorem Run_ex (N : Nat) (hN : 2000 < N) (L : List Ins) (names : List ByteArray) : ∃ i e, RunIs L names i e ∧ ∀ {R : Type} (k : Int → Int → Option R), Z1 N L names k = k i e := by
 by_cases h0 : L.length = 0
 ·exact ⟨0, 3, .size (.inl h0), fun k => by
   unfold Z1 Z1_T
   have e1 : decide ((L.length : Int) = 0) = true := decide_eq_true (by omega)
   simp only [e1, Bool.not_true, br_false]⟩
 have e1 : decide ((L.length : Int) = 0) = false := decide_eq_false (by omega)
 by_cases h96 : 96 < L.length
 ·refine ⟨0, 3, .size (.inr (.inl h96)), fun k => ?_⟩
  unfold Z1 Z1_T
  have e2 : decide ((96 : Int) < (L.length : Int)) = true := decide_eq_true (by omega)
  simp only [e1, e2, Bool.not_true, Bool.not_false, br_true, br_false]
 have e2 : decide ((96 : Int) < (L.length : Int)) = false := decide_eq_false (by omega)
 by_cases h8 : 8 < names.length
 ·refine ⟨0, 3, .size (.inr (.inr h8)), fun k => ?_⟩
  unfold Z1 Z1_T
  have e3 : decide ((8 : Int) < (names.length : Int)) = true := decide_eq_true (by omega)
  simp only [e1, e2, e3, Bool.not_false, br_true]
 have e3 : decide ((8 : Int) < (names.length : Int)) = false := decide_eq_false (by omega)
 have run : ∀ {R : Type} (k : Int → Int → Option R), Z1 N L names k =
   if names.all nameA then (match (List.range' 0 L.length).find? (fun i => decide (oneV L (names.length : Int) i ≠ 0)) with
    | some j => k (j : Int) (oneV L (names.length : Int) j)
    | none => Z13 N L names fun M => Z1_l2 N (fun i e => k i e) (k 0 0) N (L.length : Int) 0 L names M) else k 0 10 := fun k => by
  unfold Z1 Z1_T
  simp only [e1, e2, e3, Bool.not_false, br_true, br_false]
  refine (Run_l0 N (by omega) _ _ names (by omega) L names N 0 (by omega) (by omega)).trans ?_
  rw [List.drop_zero]
  split
  ·refine (Run_l1 N _ _ (by omega) names N 0 (by omega) (by omega)).trans ?_
   rfl
  ·rfl
 cases hall : names.all nameA with
 | false => exact ⟨0, 10, .name (by omega) (by omega) (by omega) hall, fun k => by rw [run, hall]; rfl⟩
 | true =>
  cases hf : (List.range' 0 L.length).find? (fun i => decide (oneV L (names.length : Int) i ≠ 0)) with
  | some j =>
   obtain ⟨h1, h2, h3⟩ := find_some hf
   exact ⟨_, _, .one j _ (by omega) (by omega) (by omega) hall h1 rfl (by simpa using h2) (fun i hi => by simpa using h3 i hi), fun k => by rw [run, hall, hf]; rfl⟩
  | none =>
   have hone := fun i hi => by have := find_none hf i hi; simpa using this
   have W := well_of (nn := (names.length : Int)) (by omega) hone
   obtain ⟨M, hM, hr⟩ := reach_ex N hN W (by omega) names
   cases hf2 : (List.range' 0 L.length).find? (fun i => !(hgt L M i).2) with
   | some j =>
    obtain ⟨h1, h2, h3⟩ := find_some hf2
    refine ⟨_, _, .stack j M (by omega) (by omega) hall W hone hM h1 (by simpa using h2) (fun i hi => by simpa using h3 i hi), fun k => ?_⟩
    rw [run, hall, hf]
    simp only [if_true, hr]
    refine (Run_l2 N (by omega) _ _ W names M N 0 (by omega) (by have := W.len; omega)).trans ?_
    rw [Nat.sub_zero, hf2]
   | none =>
    refine ⟨_, _, .ok M (by omega) (by omega) hall W hone hM (fun i hi => by have := find_none hf2 i hi; simpa using this), fun k => ?_⟩
    rw [run, hall, hf]
    simp only [if_true, hr]
    refine (Run_l2 N (by omega) _ _ W names M N 0 (by omega) (by have := W.len; omega)).trans ?_
    rw [Nat.sub_zero, hf2]

end Go.Proofs.YtbclodhbcplhmaaGreat
