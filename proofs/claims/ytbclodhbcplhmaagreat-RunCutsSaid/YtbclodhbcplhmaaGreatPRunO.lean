/-
 the machine (chapter 16): each call, and an instruction, whichever it is.
-/
import Derived.Test.YtbclodhbcplhmaaGreatPRunN
set_option linter.unusedSimpArgs false
set_option linter.unusedVariables false
set_option linter.unusedSectionVars false
namespace Go.Proofs.YtbclodhbcplhmaaGreat
open Go.Gx

abbrev AK (R : Type) := Int → List Int → Int → TM → DM → OL → Option R
theorem sub_len {l : List Int} {i n : Nat} (h : i + n ≤ l.length) : (sub l i n).length = n := by
 rw [sub_nat, List.length_take, List.length_drop]; omega

section
variable (N : Nat) (hN : 500 < N) (p : List Ins) (nm : List ByteArray) (at' : Int) (lo me : List Int) (ar : List (List Int)) (st : Int) (sk f : List Int) (nx : Int) (m : TM) (d : DM) (l : OL) (o : EV) (a : Int) (c : Nat)
 (hc : c ≤ 900) (S : FV c f nx d l)
 (hlo : lo.length = 8) (hlu : ∀ x ∈ lo, U16 x) (hme : me.length = 32) (hsk : ∀ x ∈ sk, U16 x) (hs : sk.length ≤ 900) (ho : o.length ≤ 900)
include hN hc S

/-- bytes of the memory are written -/
theorem a_write (fd i n : Nat) (hfd : fd ≤ 65535) (hi : i + n ≤ 32) (hme : me.length = 32) : ∃ r f2 nx2 m2 d2 l2, U16 r ∧ FV (c + 1) f2 nx2 d2 l2 ∧ ∀ {R : Type} (fi : Int) (fl : List Bool) k, Z30 (R := R) N (fd : Int) i n (32 - i) f nx m d l p nm at' lo me ar 0 0 st sk fi fl o k = k r f2 nx2 m2 d2 l2 p nm at' lo me ar 0 0 st sk fi fl o := by
 have hll := S.llen
 rcases S.slot fd with h | ⟨h4, j, id, a, hj, hl, hat, ha⟩
 ·exact ⟨65289, f, nx, m, d, l, ⟨by omega, by omega⟩, S.more, fun fi fl k => by unfold Z30 Z30_T; rw [file_no N fd hfd f h]⟩
 have hjn : Int.toNat (j : Int) = j := by omega
 by_cases h0 : n = 0
 ·refine ⟨0, f, nx, m, d, l, ⟨by omega, by omega⟩, S.more, fun fi fl k => ?_⟩
  unfold Z30 Z30_T
  rw [file_open N fd j h4 f hj nx m d l hl (by omega), br_of (decide_eq_true (by omega))]
 by_cases h8 : 8 ≤ a
 ·refine ⟨65308, f, nx, m, d, l, ⟨by omega, by omega⟩, S.more, fun fi fl k => ?_⟩
  unfold Z30 Z30_T
  rw [file_open N fd j h4 f hj nx m d l hl (by omega), br_not (decide_eq_false (by omega))]
  simp only [hjn, hat]
  rw [br_of (decide_eq_true hl), br_of (decide_eq_true (by omega))]
 have hb := S.row id
 have hcl : (sub me i (min (8 - a) n)).length = min (8 - a) n := sub_len (by omega)
 refine ⟨((sub me i (min (8 - a) n)).length : Int), f, nx, m, mput (.int .i64) (.isl (.int .u8)) d id (overV (dgetV d id) a (sub me i (min (8 - a) n))), l.set j (id, ((a + (sub me i (min (8 - a) n)).length : Nat) : Int)), ⟨by omega, by omega⟩, (S.seek hl id (by omega)).put id (by rw [overV_len]; omega), fun fi fl k => ?_⟩
 unfold Z30 Z30_T
 rw [file_open N fd j h4 f hj nx m d l hl (by omega)]
 have hb0 : Option.getD (mfind (.int .i64) (.isl (.int .u8)) d id) (Sh.zero (.isl (.int .u8))) = dgetV d id := rfl
 rw [br_not (decide_eq_false (by omega))]
 simp only [hjn, hat, hb0]
 rw [br_of (decide_eq_true hl), br_not (decide_eq_false (by omega)), br_of (decide_eq_true hl)]
 generalize hB : dgetV d id = B at hb
 have e3 : ∀ x : Nat, Int.toNat (x : Int) = x := fun x => by omega
 have e1 : (if IntKind.wrap .i64 (8 - (a : Int)) < (n : Int) then IntKind.wrap .i64 (8 - (a : Int)) else (n : Int)) = ((min (8 - a) n : Nat) : Int) := by
  rw [w64 (by omega)]
  split <;> omega
 have e4 : addN i 0 = i := by cases i <;> simp [addN]
 simp only [e1, e3, e4, Nat.sub_zero]
 rw [br_of (leB_of (by omega)), br_of (decide_eq_true hl), br_of (decide_eq_true hl)]
 have hfit : fits i (min (8 - a) n) me = true := fits_of (by omega)
 rw [← hcl] at hfit ⊢
 rw [hcl] at hfit ⊢
 generalize hQ : min (8 - a) n = q at *
 generalize hC : sub me i q = C at hcl
 have e6 : (if (B.length : Int) < IntKind.wrap .i64 ((a : Int) + (q : Int)) then IntKind.wrap .i64 ((a : Int) + (q : Int)) else (B.length : Int)) = ((max B.length (a + C.length) : Nat) : Int) := by
  rw [w64 (by omega)]
  split <;> omega
 rw [e6, sized_eq N B (by omega) _ (by omega) (by omega)]
 have hsz := sizedV_len B (max B.length (a + C.length))
 generalize hS : sizedV B (max B.length (a + C.length)) = V at hsz
 have hmin : min C.length (V.length - a) = C.length := by omega
 have hov : V.take a ++ (C ++ V.drop (a + C.length)) = overV B a C := by unfold overV; rw [hS]
 have hol : (overV B a C).length = V.length := by rw [overV_len, hsz]
 have e7 : IntKind.wrap .i64 ((a : Int) + (q : Int)) = ((a + C.length : Nat) : Int) := by rw [w64 (by omega)]; omega
 have hsub : sub (overV B a C) 0 V.length = overV B a C := by rw [← hol, sub_all]
 simp only [hmin, List.take_length, hov, e7, hsub]
 rw [br_of (decide_eq_true hl), br_of (leB_of (by omega)), br_of hfit, br_of (fits_of (by omega)), br_of (decide_eq_true hl), br_of (fits_of (by omega)), br_of (decide_eq_true hl), br_of (decide_eq_true hl), wu16 (by omega), hcl]

/-! ### calls with names -/
def NmT (op : Int) : Prop := ∃ r f2 nx2 m2 d2 l2, U16 r ∧ FV (c + 1) f2 nx2 d2 l2 ∧ ∀ {R : Type} (fi : Int) (fl : List Bool) k, Z76 (R := R) N op a p nm at' lo me ar 0 0 st sk f nx m d l fi fl o k = k p nm at' lo me ar 0 0 st f2 nx2 m2 d2 fi fl (sk ++ [r]) (o ++ [(false, r)]) l2
include hs ho
theorem nm_27 (i : Nat) (hi : i < nm.length) : NmT N p nm at' lo me ar st sk f nx m d l o (i : Int) c 27 := by
 obtain ⟨r, f2, nx2, m2, d2, l2, hr, S2, e⟩ := a_open (m := m) N hN (by omega) S (pth (nm.getD i (bs [])))
 rw [bs_pth] at e
 have e : ∀ {R : Type} (K : AK R), Z21 N (nm.getD i (bs [])) f nx m d l K = K r f2 nx2 m2 d2 l2 := fun K => e K
 refine ⟨r, f2, nx2, m2, d2, l2, hr, S2, fun fi fl k => ?_⟩
 have h0 : sk.length ≤ 1000 := by omega
 have h1 : o.length ≤ 1000 := by omega
 unfold Z76 Z76_T
 simp only [Int.reduceEq, decide_true, decide_false, br_true, br_false, Bool.not_true, Bool.not_false, name_eq (h := hi), e, answer_eq (hs := h0) (ho := h1)]
theorem nm_33 (i : Nat) (hi : i < nm.length) : NmT N p nm at' lo me ar st sk f nx m d l o (i : Int) c 33 := by
 obtain ⟨r, f2, nx2, m2, d2, l2, hr, S2, e⟩ := a_unlink (m := m) N hN (by omega) S (pth (nm.getD i (bs [])))
 rw [bs_pth] at e
 have e : ∀ {R : Type} (K : AK R), Z29 N (nm.getD i (bs [])) f nx m d l K = K r f2 nx2 m2 d2 l2 := fun K => e K
 refine ⟨r, f2, nx2, m2, d2, l2, hr, S2, fun fi fl k => ?_⟩
 have h0 : sk.length ≤ 1000 := by omega
 have h1 : o.length ≤ 1000 := by omega
 unfold Z76 Z76_T
 simp only [Int.reduceEq, decide_true, decide_false, br_true, br_false, Bool.not_true, Bool.not_false, name_eq (h := hi), e, answer_eq (hs := h0) (ho := h1)]
theorem nm_35 (i : Nat) (hi : i < nm.length) : NmT N p nm at' lo me ar st sk f nx m d l o (i : Int) c 35 := by
 obtain ⟨r, f2, nx2, m2, d2, l2, hr, S2, e⟩ := a_mkdir (m := m) N hN (by omega) S (pth (nm.getD i (bs [])))
 rw [bs_pth] at e
 have e : ∀ {R : Type} (K : AK R), Z20 N (nm.getD i (bs [])) f nx m d l K = K r f2 nx2 m2 d2 l2 := fun K => e K
 refine ⟨r, f2, nx2, m2, d2, l2, hr, S2, fun fi fl k => ?_⟩
 have h0 : sk.length ≤ 1000 := by omega
 have h1 : o.length ≤ 1000 := by omega
 unfold Z76 Z76_T
 simp only [Int.reduceEq, decide_true, decide_false, br_true, br_false, Bool.not_true, Bool.not_false, name_eq (h := hi), e, answer_eq (hs := h0) (ho := h1)]
theorem nm_36 (i : Nat) (hi : i < nm.length) : NmT N p nm at' lo me ar st sk f nx m d l o (i : Int) c 36 := by
 obtain ⟨r, f2, nx2, m2, d2, l2, hr, S2, e⟩ := a_rmdir (m := m) N hN (by omega) S (pth (nm.getD i (bs [])))
 rw [bs_pth] at e
 have e : ∀ {R : Type} (K : AK R), Z24 N (nm.getD i (bs [])) f nx m d l K = K r f2 nx2 m2 d2 l2 := fun K => e K
 refine ⟨r, f2, nx2, m2, d2, l2, hr, S2, fun fi fl k => ?_⟩
 have h0 : sk.length ≤ 1000 := by omega
 have h1 : o.length ≤ 1000 := by omega
 unfold Z76 Z76_T
 simp only [Int.reduceEq, decide_true, decide_false, br_true, br_false, Bool.not_true, Bool.not_false, name_eq (h := hi), e, answer_eq (hs := h0) (ho := h1)]
theorem nm_37 (i : Nat) (hi : i < nm.length) : NmT N p nm at' lo me ar st sk f nx m d l o (i : Int) c 37 := by
 obtain ⟨r, f2, nx2, m2, d2, l2, hr, S2, e⟩ := a_list (m := m) N hN (by omega) S (pth (nm.getD i (bs [])))
 rw [bs_pth] at e
 have e : ∀ {R : Type} (K : AK R), Z19 N (nm.getD i (bs [])) f nx m d l K = K r f2 nx2 m2 d2 l2 := fun K => e K
 refine ⟨r, f2, nx2, m2, d2, l2, hr, S2, fun fi fl k => ?_⟩
 have h0 : sk.length ≤ 1000 := by omega
 have h1 : o.length ≤ 1000 := by omega
 unfold Z76 Z76_T
 simp only [Int.reduceEq, decide_true, decide_false, br_true, br_false, Bool.not_true, Bool.not_false, name_eq (h := hi), e, answer_eq (hs := h0) (ho := h1)]
theorem nm_34 (i : Nat) (hi : i < 65536) (h8 : i / 8 < nm.length) (h9 : i % 8 < nm.length) : NmT N p nm at' lo me ar st sk f nx m d l o (i : Int) c 34 := by
 obtain ⟨r, f2, nx2, m2, d2, l2, hr, S2, e⟩ := a_rename (m := m) N hN (by omega) S (pth (nm.getD (i / 8) (bs []))) (pth (nm.getD (i % 8) (bs [])))
 rw [bs_pth, bs_pth] at e
 have e : ∀ {R : Type} (K : AK R), Z23 N (nm.getD (i / 8) (bs [])) (nm.getD (i % 8) (bs [])) f nx m d l K = K r f2 nx2 m2 d2 l2 := fun K => e K
 refine ⟨r, f2, nx2, m2, d2, l2, hr, S2, fun fi fl k => ?_⟩
 have h0 : sk.length ≤ 1000 := by omega
 have h1 : o.length ≤ 1000 := by omega
 have q1 : IntKind.wrap .i64 (Int.tdiv (i : Int) 8) = ((i / 8 : Nat) : Int) := by
  rw [Int.tdiv_eq_ediv_of_nonneg (by omega), w64 (by omega)]; omega
 have q2 : Int.tmod (i : Int) 8 = ((i % 8 : Nat) : Int) := by
  rw [Int.tmod_eq_emod_of_nonneg (by omega)]; omega
 unfold Z76 Z76_T
 simp only [Int.reduceEq, decide_true, decide_false, br_true, br_false, Bool.not_true, Bool.not_false, q1, q2, name_eq (h := h8), name_eq (h := h9), e, answer_eq (hs := h0) (ho := h1)]
omit hN hc S hs ho in
theorem nm_no (op : Int) (h : ¬ (op = 27 ∨ op = 33 ∨ op = 34 ∨ op = 35 ∨ op = 36 ∨ op = 37)) {R : Type} (fi : Int) (fl : List Bool) (k) : Z76 (R := R) N op a p nm at' lo me ar 0 0 st sk f nx m d l fi fl o k = k p nm at' lo me ar 0 0 st f nx m d fi fl sk o l := by
 have h1 : ¬ op = 27 := by omega
 have h2 : ¬ op = 33 := by omega
 have h3 : ¬ op = 34 := by omega
 have h4 : ¬ op = 35 := by omega
 have h5 : ¬ op = 36 := by omega
 have h6 : ¬ op = 37 := by omega
 unfold Z76 Z76_T
 simp only [h1, h2, h3, h4, h5, h6, decide_false, br_false]

/-! ### other calls -/
def ClT (op : Int) : Prop := ∃ me2 en2 sk2 f2 nx2 m2 d2 l2 o2, Pl op a at' sk.length o at' lo me2 en2 0 sk2 o2 ∧ FV (c + 1) f2 nx2 d2 l2 ∧ ∀ {R : Type} (fi : Int) (fl : List Bool) k, Z69 (R := R) N op p nm at' lo me ar 0 0 st sk f nx m d l fi fl o k = k p nm at' lo me2 ar en2 0 st f2 nx2 m2 d2 l2 fi fl sk2 o2
omit hN hc S hs ho in
theorem cl_no (op : Int) (h : ¬ (28 ≤ op ∧ op ≤ 32 ∨ 38 ≤ op ∧ op ≤ 41)) {R : Type} (fi : Int) (fl : List Bool) (k) : Z69 (R := R) N op p nm at' lo me ar 0 0 st sk f nx m d l fi fl o k = k p nm at' lo me ar 0 0 st f nx m d l fi fl sk o := by
 have h1 : ¬ op = 28 := by omega
 have h2 : ¬ op = 29 := by omega
 have h3 : ¬ op = 30 := by omega
 have h4 : ¬ op = 31 := by omega
 have h5 : ¬ op = 32 := by omega
 have h6 : ¬ op = 38 := by omega
 have h7 : ¬ op = 39 := by omega
 have h8 : ¬ op = 40 := by omega
 have h9 : ¬ op = 41 := by omega
 unfold Z69 Z69_T
 simp only [h1, h2, h3, h4, h5, h6, h7, h8, h9, decide_false, br_false]
include hlo hlu hme hsk
theorem cl_28 (hk : tk 28 ≤ sk.length) : ClT N p nm at' lo me ar st sk f nx m d l o a c 28 := by
 rw [show tk 28 = 1 by decide +kernel] at hk
 obtain ⟨t, x, rfl, ht⟩ := snoc1 (s := sk) (by omega)
 obtain ⟨hst, hx⟩ := all_snoc hsk
 obtain ⟨x, rfl, hx'⟩ := hx.nat
 have h1 : t.length ≤ 1000 := by omega
 have ho1 : o.length ≤ 1000 := by omega
 obtain ⟨r, f2, nx2, m2, d2, l2, hr, S2, e⟩ := a_close (m := m) N hN (by omega) S x hx'
 have e : ∀ {R : Type} (K : AK R), Z18 N (x : Int) f nx m d l K = K r f2 nx2 m2 d2 l2 := fun K => e K
 refine ⟨me, 0, t ++ [r], f2, nx2, m2, d2, l2, _, ⟨hlo, hlu, hme, by decide, snoc_all hst hr, ⟨[(false, r)], by simp, rfl⟩, fun _ => ⟨rfl, .inl ⟨rfl, rfl⟩, by rw [show tk 28 = 1 by decide +kernel, show gv 28 = 1 by decide +kernel]; simp only [List.length_append, List.length_singleton]; omega⟩⟩, S2, fun fi fl k => ?_⟩
 unfold Z69 Z69_T
 simp only [Int.reduceEq, decide_true, decide_false, br_true, br_false, Bool.not_true, Bool.not_false, pop_eq (hs := h1), e, answer_eq (hs := h1) (ho := ho1)]
theorem cl_32 (hk : tk 32 ≤ sk.length) : ClT N p nm at' lo me ar st sk f nx m d l o a c 32 := by
 rw [show tk 32 = 1 by decide +kernel] at hk
 obtain ⟨t, x, rfl, ht⟩ := snoc1 (s := sk) (by omega)
 obtain ⟨hst, hx⟩ := all_snoc hsk
 obtain ⟨x, rfl, hx'⟩ := hx.nat
 have h1 : t.length ≤ 1000 := by omega
 have ho1 : o.length ≤ 1000 := by omega
 obtain ⟨r, f2, nx2, m2, d2, l2, hr, S2, e⟩ := a_size (m := m) N hN (by omega) S x hx'
 have e : ∀ {R : Type} (K : AK R), Z26 N (x : Int) f nx m d l K = K r f2 nx2 m2 d2 l2 := fun K => e K
 refine ⟨me, 0, t ++ [r], f2, nx2, m2, d2, l2, _, ⟨hlo, hlu, hme, by decide, snoc_all hst hr, ⟨[(false, r)], by simp, rfl⟩, fun _ => ⟨rfl, .inl ⟨rfl, rfl⟩, by rw [show tk 32 = 1 by decide +kernel, show gv 32 = 1 by decide +kernel]; simp only [List.length_append, List.length_singleton]; omega⟩⟩, S2, fun fi fl k => ?_⟩
 unfold Z69 Z69_T
 simp only [Int.reduceEq, decide_true, decide_false, br_true, br_false, Bool.not_true, Bool.not_false, pop_eq (hs := h1), e, answer_eq (hs := h1) (ho := ho1)]
theorem cl_39 (hk : tk 39 ≤ sk.length) : ClT N p nm at' lo me ar st sk f nx m d l o a c 39 := by
 rw [show tk 39 = 1 by decide +kernel] at hk
 obtain ⟨t, x, rfl, ht⟩ := snoc1 (s := sk) (by omega)
 obtain ⟨hst, hx⟩ := all_snoc hsk
 obtain ⟨x, rfl, hx'⟩ := hx.nat
 have h1 : t.length ≤ 1000 := by omega
 have ho1 : o.length ≤ 1000 := by omega
 obtain ⟨r, f2, nx2, m2, d2, l2, hr, S2, e⟩ := a_twin (m := m) N hN (by omega) S x hx'
 have e : ∀ {R : Type} (K : AK R), Z28 N (x : Int) f nx m d l K = K r f2 nx2 m2 d2 l2 := fun K => e K
 refine ⟨me, 0, t ++ [r], f2, nx2, m2, d2, l2, _, ⟨hlo, hlu, hme, by decide, snoc_all hst hr, ⟨[(false, r)], by simp, rfl⟩, fun _ => ⟨rfl, .inl ⟨rfl, rfl⟩, by rw [show tk 39 = 1 by decide +kernel, show gv 39 = 1 by decide +kernel]; simp only [List.length_append, List.length_singleton]; omega⟩⟩, S2, fun fi fl k => ?_⟩
 unfold Z69 Z69_T
 simp only [Int.reduceEq, decide_true, decide_false, br_true, br_false, Bool.not_true, Bool.not_false, pop_eq (hs := h1), e, answer_eq (hs := h1) (ho := ho1)]
theorem cl_31 (hk : tk 31 ≤ sk.length) : ClT N p nm at' lo me ar st sk f nx m d l o a c 31 := by
 rw [show tk 31 = 2 by decide +kernel] at hk
 obtain ⟨t, x, y, rfl, ht⟩ := snoc2 (s := sk) (by omega)
 obtain ⟨hsx, hy⟩ := all_snoc hsk
 obtain ⟨hst, hx⟩ := all_snoc hsx
 obtain ⟨x, rfl, hx'⟩ := hx.nat
 obtain ⟨y, rfl, hy'⟩ := hy.nat
 have h1 : t.length ≤ 1000 := by omega
 have h2 : (t ++ [(x : Int)]).length ≤ 1000 := by simp; omega
 have ho1 : o.length ≤ 1000 := by omega
 obtain ⟨r, f2, nx2, m2, d2, l2, hr, S2, e⟩ := a_seek (m := m) N hN (by omega) S x y hx' hy'
 have e : ∀ {R : Type} (K : AK R), Z25 N (x : Int) (y : Int) f nx m d l K = K r f2 nx2 m2 d2 l2 := fun K => e K
 refine ⟨me, 0, t ++ [r], f2, nx2, m2, d2, l2, _, ⟨hlo, hlu, hme, by decide, snoc_all hst hr, ⟨[(false, r)], by simp, rfl⟩, fun _ => ⟨rfl, .inl ⟨rfl, rfl⟩, by rw [show tk 31 = 2 by decide +kernel, show gv 31 = 1 by decide +kernel]; simp only [List.length_append, List.length_singleton]; omega⟩⟩, S2, fun fi fl k => ?_⟩
 unfold Z69 Z69_T
 simp only [Int.reduceEq, decide_true, decide_false, br_true, br_false, Bool.not_true, Bool.not_false, pop_eq (hs := h2), pop_eq (hs := h1), e, answer_eq (hs := h1) (ho := ho1)]
theorem cl_38 (hk : tk 38 ≤ sk.length) : ClT N p nm at' lo me ar st sk f nx m d l o a c 38 := by
 rw [show tk 38 = 2 by decide +kernel] at hk
 obtain ⟨t, x, y, rfl, ht⟩ := snoc2 (s := sk) (by omega)
 obtain ⟨hsx, hy⟩ := all_snoc hsk
 obtain ⟨hst, hx⟩ := all_snoc hsx
 obtain ⟨x, rfl, hx'⟩ := hx.nat
 obtain ⟨y, rfl, hy'⟩ := hy.nat
 have h1 : t.length ≤ 1000 := by omega
 have h2 : (t ++ [(x : Int)]).length ≤ 1000 := by simp; omega
 have ho1 : o.length ≤ 1000 := by omega
 obtain ⟨r, f2, nx2, m2, d2, l2, hr, S2, e⟩ := a_trunc (m := m) N hN (by omega) S x y hx' hy'
 have e : ∀ {R : Type} (K : AK R), Z27 N (x : Int) (y : Int) f nx m d l K = K r f2 nx2 m2 d2 l2 := fun K => e K
 refine ⟨me, 0, t ++ [r], f2, nx2, m2, d2, l2, _, ⟨hlo, hlu, hme, by decide, snoc_all hst hr, ⟨[(false, r)], by simp, rfl⟩, fun _ => ⟨rfl, .inl ⟨rfl, rfl⟩, by rw [show tk 38 = 2 by decide +kernel, show gv 38 = 1 by decide +kernel]; simp only [List.length_append, List.length_singleton]; omega⟩⟩, S2, fun fi fl k => ?_⟩
 unfold Z69 Z69_T
 simp only [Int.reduceEq, decide_true, decide_false, br_true, br_false, Bool.not_true, Bool.not_false, pop_eq (hs := h2), pop_eq (hs := h1), e, answer_eq (hs := h1) (ho := ho1)]
theorem cl_40 : ClT N p nm at' lo me ar st sk f nx m d l o a c 40 := by
 have h1 : sk.length ≤ 1000 := by omega
 refine ⟨me, 0, sk ++ [IntKind.wrap .u16 (ar.length : Int)], f, nx, m, d, l, o, ⟨hlo, hlu, hme, by decide, snoc_all hsk (u16_wrap _), ⟨[], by simp, by simp⟩, fun _ => ⟨rfl, .inl ⟨rfl, rfl⟩, by rw [show tk 40 = 0 by decide +kernel, show gv 40 = 1 by decide +kernel]; simp only [List.length_append, List.length_singleton]; omega⟩⟩, S.more, fun fi fl k => ?_⟩
 unfold Z69 Z69_T
 simp only [Int.reduceEq, decide_true, decide_false, br_true, br_false, Bool.not_true, Bool.not_false, push_eq (hs := h1)]
theorem cl_41 (hal : ar.length ≤ 1000) (har : ∀ b ∈ ar, b.length ≤ 1000) (hk : tk 41 ≤ sk.length) : ClT N p nm at' lo me ar st sk f nx m d l o a c 41 := by
 rw [show tk 41 = 2 by decide +kernel] at hk
 obtain ⟨t, x, y, rfl, ht⟩ := snoc2 (s := sk) (by omega)
 obtain ⟨hsx, hy⟩ := all_snoc hsk
 obtain ⟨hst, hx⟩ := all_snoc hsx
 obtain ⟨x, rfl, hx'⟩ := hx.nat
 obtain ⟨y, rfl, hy'⟩ := hy.nat
 have h1 : t.length ≤ 1000 := by omega
 have h2 : (t ++ [(x : Int)]).length ≤ 1000 := by simp; omega
 have ho1 : o.length ≤ 1000 := by omega
 have wx : IntKind.wrap .i64 (x : Int) = (x : Int) := w64 (by omega)
 have wy : IntKind.wrap .i64 (y : Int) = (y : Int) := w64 (by omega)
 have z0 : (Sh.zero (.isl (.int .u8))) = ([] : List Int) := rfl
 by_cases hx1 : (ar.length : Int) ≤ (x : Int)
 ·refine ⟨me, 0, t ++ [65535], f, nx, m, d, l, o, ⟨hlo, hlu, hme, by decide, snoc_all hst ⟨by omega, by omega⟩, ⟨[], by simp, by simp⟩, fun _ => ⟨rfl, .inl ⟨rfl, rfl⟩, by rw [show tk 41 = 2 by decide +kernel, show gv 41 = 1 by decide +kernel]; simp only [List.length_append, List.length_singleton]; omega⟩⟩, S.more, fun fi fl k => ?_⟩
  unfold Z69 Z69_T Z67 Z67_T
  simp only [Int.reduceEq, decide_true, decide_false, br_true, br_false, Bool.not_true, Bool.not_false, pop_eq (hs := h2), pop_eq (hs := h1), wx, hx1, push_eq (hs := h1)]
 ·have hin : inB (x : Int) ar.length = true := inB_of (by omega)
  by_cases hy1 : ((ar.getD x []).length : Int) ≤ (y : Int)
  ·refine ⟨me, 0, t ++ [65535], f, nx, m, d, l, o, ⟨hlo, hlu, hme, by decide, snoc_all hst ⟨by omega, by omega⟩, ⟨[], by simp, by simp⟩, fun _ => ⟨rfl, .inl ⟨rfl, rfl⟩, by rw [show tk 41 = 2 by decide +kernel, show gv 41 = 1 by decide +kernel]; simp only [List.length_append, List.length_singleton]; omega⟩⟩, S.more, fun fi fl k => ?_⟩
   unfold Z69 Z69_T Z67 Z67_T
   simp only [Int.reduceEq, decide_true, decide_false, br_true, br_false, Bool.not_true, Bool.not_false, pop_eq (hs := h2), pop_eq (hs := h1), wx, wy, hx1, hin, z0, Int.toNat_natCast, hy1, push_eq (hs := h1)]
  ·have hin2 : inB (y : Int) (ar.getD x []).length = true := inB_of (by omega)
   refine ⟨me, 0, t ++ [IntKind.wrap .u16 ((ar.getD x []).getD y 0)], f, nx, m, d, l, o, ⟨hlo, hlu, hme, by decide, snoc_all hst (u16_wrap _), ⟨[], by simp, by simp⟩, fun _ => ⟨rfl, .inl ⟨rfl, rfl⟩, by rw [show tk 41 = 2 by decide +kernel, show gv 41 = 1 by decide +kernel]; simp only [List.length_append, List.length_singleton]; omega⟩⟩, S.more, fun fi fl k => ?_⟩
   unfold Z69 Z69_T Z67 Z67_T
   simp only [Int.reduceEq, decide_true, decide_false, br_true, br_false, Bool.not_true, Bool.not_false, pop_eq (hs := h2), pop_eq (hs := h1), wx, wy, hx1, hin, hin2, z0, Int.toNat_natCast, hy1, push_eq (hs := h1)]
theorem cl_29 (hk : tk 29 ≤ sk.length) : ClT N p nm at' lo me ar st sk f nx m d l o a c 29 := by
 rw [show tk 29 = 3 by decide +kernel] at hk
 obtain ⟨t, x, y, z, rfl, ht⟩ := snoc3 (s := sk) (by omega)
 obtain ⟨hsy, hz⟩ := all_snoc hsk
 obtain ⟨hsx, hy⟩ := all_snoc hsy
 obtain ⟨hst, hx⟩ := all_snoc hsx
 obtain ⟨x, rfl, hx'⟩ := hx.nat
 obtain ⟨y, rfl, hy'⟩ := hy.nat
 obtain ⟨z, rfl, hz'⟩ := hz.nat
 have h1 : t.length ≤ 1000 := by omega
 have h2 : (t ++ [(x : Int)]).length ≤ 1000 := by simp; omega
 have h3 : (t ++ [(x : Int)] ++ [(y : Int)]).length ≤ 1000 := by simp; omega
 have ho1 : o.length ≤ 1000 := by omega
 obtain ⟨r, f2, nx2, m2, d2, l2, b, hr, S2, hb, e⟩ := a_read (m := m) N hN (by omega) S x z hx' hz'
 have wy : IntKind.wrap .i64 (y : Int) = (y : Int) := w64 (by omega)
 have wb : IntKind.wrap .i64 ((y : Int) + (b.length : Int)) = ((y + b.length : Nat) : Int) := by rw [w64 (by omega)]; omega
 by_cases hb0 : (0 : Int) < (b.length : Int)
 ·by_cases h32 : (32 : Int) < ((y + b.length : Nat) : Int)
  ·refine ⟨me, 3, t, f2, nx2, m2, d2, l2, o, ⟨hlo, hlu, hme, by decide, hst, ⟨[], by simp, by simp⟩, fun h => absurd h (by decide)⟩, S2, fun fi fl k => ?_⟩
   unfold Z69 Z69_T Z87 Z87_T
   simp only [Int.reduceEq, decide_true, decide_false, br_true, br_false, Bool.not_true, Bool.not_false, pop_eq (hs := h3), pop_eq (hs := h2), pop_eq (hs := h1), e, hb0, wy, wb, h32, end_eq]
  ·have k1 : leB (y : Int) 32 = true := leB_of (by omega)
   have k2 : fits 0 b.length b = true := fits_of (by omega)
   have k3 : fits y (32 - y) me = true := fits_of (by omega)
   have k4 : min b.length (32 - y) = b.length := by omega
   refine ⟨me.take y ++ (b ++ me.drop (y + b.length)), 0, t ++ [r], f2, nx2, m2, d2, l2, _, ⟨hlo, hlu, by simp only [List.length_append, List.length_take, List.length_drop]; omega, by decide, snoc_all hst hr, ⟨[(false, r)], by simp, rfl⟩, fun _ => ⟨rfl, .inl ⟨rfl, rfl⟩, by rw [show tk 29 = 3 by decide +kernel, show gv 29 = 1 by decide +kernel]; simp only [List.length_append, List.length_singleton]; omega⟩⟩, S2, fun fi fl k => ?_⟩
   unfold Z69 Z69_T Z87 Z87_T
   simp only [Int.reduceEq, decide_true, decide_false, br_true, br_false, Bool.not_true, Bool.not_false, pop_eq (hs := h3), pop_eq (hs := h2), pop_eq (hs := h1), e, hb0, wy, wb, h32, Int.toNat_natCast, k1, k2, k3, sub_all, k4, List.take_length, answer_eq (hs := h1) (ho := ho1)]
 ·refine ⟨me, 0, t ++ [r], f2, nx2, m2, d2, l2, _, ⟨hlo, hlu, hme, by decide, snoc_all hst hr, ⟨[(false, r)], by simp, rfl⟩, fun _ => ⟨rfl, .inl ⟨rfl, rfl⟩, by rw [show tk 29 = 3 by decide +kernel, show gv 29 = 1 by decide +kernel]; simp only [List.length_append, List.length_singleton]; omega⟩⟩, S2, fun fi fl k => ?_⟩
  unfold Z69 Z69_T Z87 Z87_T
  simp only [Int.reduceEq, decide_true, decide_false, br_true, br_false, Bool.not_true, Bool.not_false, pop_eq (hs := h3), pop_eq (hs := h2), pop_eq (hs := h1), e, hb0, answer_eq (hs := h1) (ho := ho1)]
theorem cl_30 (hk : tk 30 ≤ sk.length) : ClT N p nm at' lo me ar st sk f nx m d l o a c 30 := by
 rw [show tk 30 = 3 by decide +kernel] at hk
 obtain ⟨t, x, y, z, rfl, ht⟩ := snoc3 (s := sk) (by omega)
 obtain ⟨hsy, hz⟩ := all_snoc hsk
 obtain ⟨hsx, hy⟩ := all_snoc hsy
 obtain ⟨hst, hx⟩ := all_snoc hsx
 obtain ⟨x, rfl, hx'⟩ := hx.nat
 obtain ⟨y, rfl, hy'⟩ := hy.nat
 obtain ⟨z, rfl, hz'⟩ := hz.nat
 have h1 : t.length ≤ 1000 := by omega
 have h2 : (t ++ [(x : Int)]).length ≤ 1000 := by simp; omega
 have h3 : (t ++ [(x : Int)] ++ [(y : Int)]).length ≤ 1000 := by simp; omega
 have ho1 : o.length ≤ 1000 := by omega
 have wy : IntKind.wrap .i64 (y : Int) = (y : Int) := w64 (by omega)
 have wz : IntKind.wrap .i64 (z : Int) = (z : Int) := w64 (by omega)
 have wb : IntKind.wrap .i64 ((y : Int) + (z : Int)) = ((y + z : Nat) : Int) := by rw [w64 (by omega)]; omega
 by_cases hb0 : (0 : Int) < (z : Int)
 ·by_cases h32 : (32 : Int) < ((y + z : Nat) : Int)
  ·refine ⟨me, 3, t, f, nx, m, d, l, o, ⟨hlo, hlu, hme, by decide, hst, ⟨[], by simp, by simp⟩, fun h => absurd h (by decide)⟩, S.more, fun fi fl k => ?_⟩
   unfold Z69 Z69_T Z93 Z93_T
   simp only [Int.reduceEq, decide_true, decide_false, br_true, br_false, Bool.not_true, Bool.not_false, pop_eq (hs := h3), pop_eq (hs := h2), pop_eq (hs := h1), hb0, wy, wz, wb, h32, end_eq]
  ·obtain ⟨r, f2, nx2, m2, d2, l2, hr, S2, e⟩ := a_write N hN p nm at' lo me ar st t f nx m d l o c hc S x y z hx' (by omega) hme
   have wu : IntKind.wrap .u16 ((y : Int) + (z : Int)) = ((y + z : Nat) : Int) := by rw [wu16 (by omega)]; omega
   have k1 : leB ((y + z : Nat) : Int) 32 = true := leB_of (by omega)
   have k2 : leB (y : Int) (y + z) = true := leB_of (by omega)
   refine ⟨me, 0, t ++ [r], f2, nx2, m2, d2, l2, _, ⟨hlo, hlu, hme, by decide, snoc_all hst hr, ⟨[(false, r)], by simp, rfl⟩, fun _ => ⟨rfl, .inl ⟨rfl, rfl⟩, by rw [show tk 30 = 3 by decide +kernel, show gv 30 = 1 by decide +kernel]; simp only [List.length_append, List.length_singleton]; omega⟩⟩, S2, fun fi fl k => ?_⟩
   unfold Z69 Z69_T Z93 Z93_T
   simp only [Int.reduceEq, decide_true, decide_false, br_true, br_false, Bool.not_true, Bool.not_false, pop_eq (hs := h3), pop_eq (hs := h2), pop_eq (hs := h1), hb0, wy, wz, wb, h32, wu, k1, k2, Int.toNat_natCast, Nat.add_sub_cancel_left, e, answer_eq (hs := h1) (ho := ho1)]
 ·obtain ⟨r, f2, nx2, m2, d2, l2, hr, S2, e⟩ := a_write0 (m := m) N hN (by omega) S x hx'
  have e : ∀ {R : Type} (K : AK R), Z32 N (x : Int) f nx m d l K = K r f2 nx2 m2 d2 l2 := fun K => e K
  refine ⟨me, 0, t ++ [r], f2, nx2, m2, d2, l2, _, ⟨hlo, hlu, hme, by decide, snoc_all hst hr, ⟨[(false, r)], by simp, rfl⟩, fun _ => ⟨rfl, .inl ⟨rfl, rfl⟩, by rw [show tk 30 = 3 by decide +kernel, show gv 30 = 1 by decide +kernel]; simp only [List.length_append, List.length_singleton]; omega⟩⟩, S2, fun fi fl k => ?_⟩
  unfold Z69 Z69_T Z93 Z93_T
  simp only [Int.reduceEq, decide_true, decide_false, br_true, br_false, Bool.not_true, Bool.not_false, pop_eq (hs := h3), pop_eq (hs := h2), pop_eq (hs := h1), e, hb0, answer_eq (hs := h1) (ho := ho1)]
end

end Go.Proofs.YtbclodhbcplhmaaGreat
