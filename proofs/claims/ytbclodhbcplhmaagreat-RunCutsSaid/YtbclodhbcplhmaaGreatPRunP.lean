/-
 the machine (chapter 16): an instruction, whichever it is.
-/
import Derived.Test.YtbclodhbcplhmaaGreatPRunO
set_option linter.unusedSimpArgs false
set_option linter.unusedVariables false
set_option linter.unusedSectionVars false
namespace Go.Proofs.YtbclodhbcplhmaaGreat
open Go.Gx

def falls (op : Int) : Bool := decide (op = 27) || decide (op = 29) || decide (op = 30) || decide (op = 33) || decide (op = 34) || decide (op = 35) || decide (op = 36) || decide (op = 38)
theorem Falls_eq {R : Type} (N : Nat) (op : Int) (k : Bool → Option R) : Z40 N op k = k (falls op) := by
 unfold Z40 Z40_T falls
 cases decide (op = 27) <;> cases decide (op = 29) <;> cases decide (op = 30) <;> cases decide (op = 33) <;> cases decide (op = 34) <;> cases decide (op = 35) <;> cases decide (op = 36) <;> cases decide (op = 38) <;> rfl
theorem Next_eq {R : Type} (N : Nat) (j : Nat) (fl : List Bool) (hfl : fl.length ≤ 1000) (k : Bool → Int → List Bool → Option R) : Z15 N ((min j fl.length : Nat) : Int) fl k = k (fl.getD j false) ((min (j + 1) fl.length : Nat) : Int) fl := by
 unfold Z15 Z15_T
 by_cases h : j < fl.length
 ·rw [Nat.min_eq_left (by omega), Nat.min_eq_left (by omega), br_not (decide_eq_false (by omega)), w64_succ (by omega)]
  have e : IntKind.wrap .i64 (((j + 1 : Nat) : Int) - 1) = (j : Int) := by rw [w64 (by omega)]; omega
  rw [e, br_of (inB_of (by omega)), Int.toNat_natCast, br_of (decide_eq_true h)]
 ·rw [Nat.min_eq_right (by omega), Nat.min_eq_right (by omega), br_of (decide_eq_true rfl), List.getD_eq_getElem?_getD, List.getElem?_eq_none (by omega)]
  rfl

section
variable (N : Nat) (hN : 500 < N) (p : List Ins) (nm : List ByteArray) (i : Nat) (hi : i < p.length) (h96 : p.length ≤ 96) (lo me : List Int) (ar : List (List Int)) (s : Nat) (hs4 : s ≤ 1000) (sk f : List Int) (nx : Int) (m : TM) (d : DM) (l : OL) (o : EV) (a : Int) (c j : Nat)
 (hc : c ≤ 900) (S : FV c f nx d l)
 (hlo : lo.length = 8) (hlu : ∀ x ∈ lo, U16 x) (hme : me.length = 32) (hsk : ∀ x ∈ sk, U16 x) (hs : sk.length ≤ 900) (ho : o.length ≤ 900)

def StT (op : Int) (b : Bool) : Prop := ∃ at2 lo2 me2 en2 co2 sk2 f2 nx2 m2 d2 l2 o2 j2, j2 ≤ j + 1 ∧ Pl op a ((i + 1 : Nat) : Int) sk.length o at2 lo2 me2 en2 co2 sk2 o2 ∧ FV (c + 1) f2 nx2 d2 l2 ∧
 ∀ {R : Type} (fl : List Bool) (hfl : fl.length ≤ 1000) (hb : fl.getD j false = b) k, Z91 (R := R) N p nm (i : Int) lo me ar 0 0 (s : Int) sk f nx m d l ((min j fl.length : Nat) : Int) fl o k = k p nm at2 lo2 me2 ar en2 co2 ((s + 1 : Nat) : Int) f2 nx2 m2 d2 ((min j2 fl.length : Nat) : Int) fl sk2 o2 l2
include hN hi h96 hs4 hc S hlo hlu hme hsk hs ho

theorem st_reckon (op : Int) (hg : p.getD i (0, 0) = (op, a)) (hop : 5 ≤ op ∧ op ≤ 16) (hk : tk op ≤ sk.length) (b : Bool) : StT N p nm i lo me ar s sk f nx m d l o a c j op b := by
 obtain ⟨en2, co2, sk2, hp, e⟩ := reckon_tot N p nm ((i + 1 : Nat) : Int) lo me ar ((s + 1 : Nat) : Int) sk f nx m d l o a hlo hlu hme hsk hs ho op hop hk
 refine ⟨_, lo, me, en2, co2, sk2, f, nx, m, d, l, o, j, by omega, hp, S.more, fun fl hfl hb k => ?_⟩
 have hf : falls op = false := by unfold falls; simp; omega
 have w1 := w64_succ (show i < 9223372036854775807 by omega)
 have w2 := w64_succ (show s < 9223372036854775807 by omega)
 have hin : inB (i : Int) p.length = true := inB_of (by omega)
 unfold Z91 Z91_T
 simp only [Int.toNat_natCast, hg, w1, w2]
 rw [br_of hin, Falls_eq, hf]
 rw [br_false, br_of (decide_eq_true hop.1), br_of (decide_eq_true hop.2), e]

theorem st_plain (op : Int) (hg : p.getD i (0, 0) = (op, a)) (hop : 1 ≤ op ∧ op ≤ 4 ∨ 17 ≤ op ∧ op ≤ 26) (hk : tk op ≤ sk.length) (hI : isI op a = true) (b : Bool) : StT N p nm i lo me ar s sk f nx m d l o a c j op b := by
 obtain ⟨at2, lo2, me2, en2, co2, sk2, o2, hp, e⟩ := plain_tot N p nm ((i + 1 : Nat) : Int) lo me ar ((s + 1 : Nat) : Int) sk f nx m d l o a hlo hlu hme hsk hs ho op hop hk hI
 refine ⟨at2, lo2, me2, en2, co2, sk2, f, nx, m, d, l, o2, j, by omega, hp, S.more, fun fl hfl hb k => ?_⟩
 have hf : falls op = false := by unfold falls; simp; omega
 have w1 := w64_succ (show i < 9223372036854775807 by omega)
 have w2 := w64_succ (show s < 9223372036854775807 by omega)
 have hin : inB (i : Int) p.length = true := inB_of (by omega)
 unfold Z91 Z91_T
 simp only [Int.toNat_natCast, hg, w1, w2]
 rw [br_of hin, Falls_eq, hf]
 rcases hop with hop | hop
 ·have h5 : ¬ 5 ≤ op := by omega
  rw [br_false, br_not (decide_eq_false h5), e, br_true]
 ·have h5 : 5 ≤ op := by omega
  have h16 : ¬ op ≤ 16 := by omega
  rw [br_false, br_of (decide_eq_true h5), br_not (decide_eq_false h16), e, br_true]

omit hN hi h96 hs4 hc S hlo hlu hme hsk hs ho in
theorem pl_no (op : Int) (h : 27 ≤ op) (at' st : Int) {R : Type} (fi : Int) (fl : List Bool) (k) : Z78 (R := R) N op a p nm at' lo me ar 0 0 st sk f nx m d l fi fl o k = k false p nm at' lo me ar 0 0 st f nx m d l fi fl sk o := by
 have n1 : ¬ op = 1 := by omega
 have n2 : ¬ op = 2 := by omega
 have n3 : ¬ op = 3 := by omega
 have n4 : ¬ op = 4 := by omega
 have n17 : ¬ op = 17 := by omega
 have n18 : ¬ op = 18 := by omega
 have n19 : ¬ op = 19 := by omega
 have n20 : ¬ op = 20 := by omega
 have n21 : ¬ op = 21 := by omega
 have n22 : ¬ op = 22 := by omega
 have n23 : ¬ op = 23 := by omega
 have n24 : ¬ op = 24 := by omega
 have n25 : ¬ op = 25 := by omega
 have n26 : ¬ op = 26 := by omega
 unfold Z78 Z78_T
 simp only [n1, n2, n3, n4, n17, n18, n19, n20, n21, n22, n23, n24, n25, n26, decide_false, br_false]

/-- a call that fails as it is told to -/
theorem st_fail (op : Int) (hg : p.getD i (0, 0) = (op, a)) (hf : falls op = true) (hop : (tb op).2.2.2 = true) (hk : tk op ≤ sk.length) (hgv : gv op = 1) (he : endsI op = false) : StT N p nm i lo me ar s sk f nx m d l o a c j op true := by
 have ht := tb_small op
 obtain ⟨t, ht'⟩ : ∃ t : Nat, tk op = (t : Int) := ⟨(tk op).toNat, by omega⟩
 refine ⟨((i + 1 : Nat) : Int), lo, me, 0, 0, sk.take (sk.length - t) ++ [65285], f, nx, m, d, l, o ++ [(false, 65285)], j + 1, by omega, ⟨hlo, hlu, hme, by decide, snoc_all (fun x hx => hsk x (List.mem_of_mem_take hx)) ⟨by omega, by omega⟩, ⟨_, by simp, rfl⟩, fun _ => ⟨rfl, .inl ⟨rfl, he⟩, by rw [hgv]; simp only [List.length_append, List.length_take, List.length_singleton]; omega⟩⟩, S.more, fun fl hfl hb k => ?_⟩
 have w1 := w64_succ (show i < 9223372036854775807 by omega)
 have w2 := w64_succ (show s < 9223372036854775807 by omega)
 have hin : inB (i : Int) p.length = true := inB_of (by omega)
 unfold Z91 Z91_T
 simp only [Int.toNat_natCast, hg, w1, w2]
 rw [br_of hin, Falls_eq, hf]
 have w3 : IntKind.wrap .i64 ((sk.length : Int) - (t : Int)) = ((sk.length - t : Nat) : Int) := by rw [w64 (by omega)]; omega
 have k1 : leB ((sk.length - t : Nat) : Int) sk.length = true := leB_of (by omega)
 have h1 : sk.length - t ≤ sk.length := by omega
 have h2 : sk.length ≤ 1000 := by omega
 have h3 : o.length ≤ 1000 := by omega
 rw [br_true, Next_eq N j fl hfl, hb, br_true, Takes_eq N op hop, ht', br_of (decide_eq_true trivial), w3, br_of k1, Int.toNat_natCast, Nat.sub_zero, answer_cut (h := h1) (hs := h2) (ho := h3)]

theorem st_27 (q : Nat) (hq : q < nm.length) (hg : p.getD i (0, 0) = (27, (q : Int))) : StT N p nm i lo me ar s sk f nx m d l o (q : Int) c j 27 false := by
 obtain ⟨r, f2, nx2, m2, d2, l2, hr, S2, e⟩ := nm_27 N hN p nm ((i + 1 : Nat) : Int) lo me ar ((s + 1 : Nat) : Int) sk f nx m d l o c hc S hs ho q hq
 have hp : Pl 27 (q : Int) ((i + 1 : Nat) : Int) sk.length o ((i + 1 : Nat) : Int) lo me 0 0 (sk ++ [r]) (o ++ [(false, r)]) := ⟨hlo, hlu, hme, by decide, snoc_all hsk hr, ⟨_, by simp, rfl⟩, fun _ => ⟨rfl, .inl ⟨rfl, rfl⟩, by rw [show tk 27 = 0 by decide +kernel, show gv 27 = 1 by decide +kernel]; simp only [List.length_append, List.length_singleton]; omega⟩⟩
 refine ⟨_, lo, me, 0, 0, _, f2, nx2, m2, d2, l2, _, j + 1, by omega, hp, S2, fun fl hfl hb k => ?_⟩
 have hf : falls 27 = true := rfl
 have nc : ¬ (28 ≤ (27 : Int) ∧ (27 : Int) ≤ 32 ∨ 38 ≤ (27 : Int) ∧ (27 : Int) ≤ 41) := by omega
 have g27 : (27 : Int) ≤ 27 := by omega
 have w1 := w64_succ (show i < 9223372036854775807 by omega)
 have w2 := w64_succ (show s < 9223372036854775807 by omega)
 have hin : inB (i : Int) p.length = true := inB_of (by omega)
 unfold Z91 Z91_T
 simp only [Int.toNat_natCast, hg, w1, w2]
 rw [br_of hin, Falls_eq, hf]
 rw [br_true, Next_eq N j fl hfl, hb, br_false, br_of (by decide), br_not (by decide), pl_no (h := g27), br_false, e, cl_no (h := nc)]
theorem st_33 (q : Nat) (hq : q < nm.length) (hg : p.getD i (0, 0) = (33, (q : Int))) : StT N p nm i lo me ar s sk f nx m d l o (q : Int) c j 33 false := by
 obtain ⟨r, f2, nx2, m2, d2, l2, hr, S2, e⟩ := nm_33 N hN p nm ((i + 1 : Nat) : Int) lo me ar ((s + 1 : Nat) : Int) sk f nx m d l o c hc S hs ho q hq
 have hp : Pl 33 (q : Int) ((i + 1 : Nat) : Int) sk.length o ((i + 1 : Nat) : Int) lo me 0 0 (sk ++ [r]) (o ++ [(false, r)]) := ⟨hlo, hlu, hme, by decide, snoc_all hsk hr, ⟨_, by simp, rfl⟩, fun _ => ⟨rfl, .inl ⟨rfl, rfl⟩, by rw [show tk 33 = 0 by decide +kernel, show gv 33 = 1 by decide +kernel]; simp only [List.length_append, List.length_singleton]; omega⟩⟩
 refine ⟨_, lo, me, 0, 0, _, f2, nx2, m2, d2, l2, _, j + 1, by omega, hp, S2, fun fl hfl hb k => ?_⟩
 have hf : falls 33 = true := rfl
 have nc : ¬ (28 ≤ (33 : Int) ∧ (33 : Int) ≤ 32 ∨ 38 ≤ (33 : Int) ∧ (33 : Int) ≤ 41) := by omega
 have g27 : (27 : Int) ≤ 33 := by omega
 have w1 := w64_succ (show i < 9223372036854775807 by omega)
 have w2 := w64_succ (show s < 9223372036854775807 by omega)
 have hin : inB (i : Int) p.length = true := inB_of (by omega)
 unfold Z91 Z91_T
 simp only [Int.toNat_natCast, hg, w1, w2]
 rw [br_of hin, Falls_eq, hf]
 rw [br_true, Next_eq N j fl hfl, hb, br_false, br_of (by decide), br_not (by decide), pl_no (h := g27), br_false, e, cl_no (h := nc)]
theorem st_35 (q : Nat) (hq : q < nm.length) (hg : p.getD i (0, 0) = (35, (q : Int))) : StT N p nm i lo me ar s sk f nx m d l o (q : Int) c j 35 false := by
 obtain ⟨r, f2, nx2, m2, d2, l2, hr, S2, e⟩ := nm_35 N hN p nm ((i + 1 : Nat) : Int) lo me ar ((s + 1 : Nat) : Int) sk f nx m d l o c hc S hs ho q hq
 have hp : Pl 35 (q : Int) ((i + 1 : Nat) : Int) sk.length o ((i + 1 : Nat) : Int) lo me 0 0 (sk ++ [r]) (o ++ [(false, r)]) := ⟨hlo, hlu, hme, by decide, snoc_all hsk hr, ⟨_, by simp, rfl⟩, fun _ => ⟨rfl, .inl ⟨rfl, rfl⟩, by rw [show tk 35 = 0 by decide +kernel, show gv 35 = 1 by decide +kernel]; simp only [List.length_append, List.length_singleton]; omega⟩⟩
 refine ⟨_, lo, me, 0, 0, _, f2, nx2, m2, d2, l2, _, j + 1, by omega, hp, S2, fun fl hfl hb k => ?_⟩
 have hf : falls 35 = true := rfl
 have nc : ¬ (28 ≤ (35 : Int) ∧ (35 : Int) ≤ 32 ∨ 38 ≤ (35 : Int) ∧ (35 : Int) ≤ 41) := by omega
 have g27 : (27 : Int) ≤ 35 := by omega
 have w1 := w64_succ (show i < 9223372036854775807 by omega)
 have w2 := w64_succ (show s < 9223372036854775807 by omega)
 have hin : inB (i : Int) p.length = true := inB_of (by omega)
 unfold Z91 Z91_T
 simp only [Int.toNat_natCast, hg, w1, w2]
 rw [br_of hin, Falls_eq, hf]
 rw [br_true, Next_eq N j fl hfl, hb, br_false, br_of (by decide), br_not (by decide), pl_no (h := g27), br_false, e, cl_no (h := nc)]
theorem st_36 (q : Nat) (hq : q < nm.length) (hg : p.getD i (0, 0) = (36, (q : Int))) : StT N p nm i lo me ar s sk f nx m d l o (q : Int) c j 36 false := by
 obtain ⟨r, f2, nx2, m2, d2, l2, hr, S2, e⟩ := nm_36 N hN p nm ((i + 1 : Nat) : Int) lo me ar ((s + 1 : Nat) : Int) sk f nx m d l o c hc S hs ho q hq
 have hp : Pl 36 (q : Int) ((i + 1 : Nat) : Int) sk.length o ((i + 1 : Nat) : Int) lo me 0 0 (sk ++ [r]) (o ++ [(false, r)]) := ⟨hlo, hlu, hme, by decide, snoc_all hsk hr, ⟨_, by simp, rfl⟩, fun _ => ⟨rfl, .inl ⟨rfl, rfl⟩, by rw [show tk 36 = 0 by decide +kernel, show gv 36 = 1 by decide +kernel]; simp only [List.length_append, List.length_singleton]; omega⟩⟩
 refine ⟨_, lo, me, 0, 0, _, f2, nx2, m2, d2, l2, _, j + 1, by omega, hp, S2, fun fl hfl hb k => ?_⟩
 have hf : falls 36 = true := rfl
 have nc : ¬ (28 ≤ (36 : Int) ∧ (36 : Int) ≤ 32 ∨ 38 ≤ (36 : Int) ∧ (36 : Int) ≤ 41) := by omega
 have g27 : (27 : Int) ≤ 36 := by omega
 have w1 := w64_succ (show i < 9223372036854775807 by omega)
 have w2 := w64_succ (show s < 9223372036854775807 by omega)
 have hin : inB (i : Int) p.length = true := inB_of (by omega)
 unfold Z91 Z91_T
 simp only [Int.toNat_natCast, hg, w1, w2]
 rw [br_of hin, Falls_eq, hf]
 rw [br_true, Next_eq N j fl hfl, hb, br_false, br_of (by decide), br_not (by decide), pl_no (h := g27), br_false, e, cl_no (h := nc)]
theorem st_37 (q : Nat) (hq : q < nm.length) (hg : p.getD i (0, 0) = (37, (q : Int))) (b : Bool) : StT N p nm i lo me ar s sk f nx m d l o (q : Int) c j 37 b := by
 obtain ⟨r, f2, nx2, m2, d2, l2, hr, S2, e⟩ := nm_37 N hN p nm ((i + 1 : Nat) : Int) lo me ar ((s + 1 : Nat) : Int) sk f nx m d l o c hc S hs ho q hq
 have hp : Pl 37 (q : Int) ((i + 1 : Nat) : Int) sk.length o ((i + 1 : Nat) : Int) lo me 0 0 (sk ++ [r]) (o ++ [(false, r)]) := ⟨hlo, hlu, hme, by decide, snoc_all hsk hr, ⟨_, by simp, rfl⟩, fun _ => ⟨rfl, .inl ⟨rfl, rfl⟩, by rw [show tk 37 = 0 by decide +kernel, show gv 37 = 1 by decide +kernel]; simp only [List.length_append, List.length_singleton]; omega⟩⟩
 refine ⟨_, lo, me, 0, 0, _, f2, nx2, m2, d2, l2, _, j, by omega, hp, S2, fun fl hfl hb k => ?_⟩
 have hf : falls 37 = false := rfl
 have nc : ¬ (28 ≤ (37 : Int) ∧ (37 : Int) ≤ 32 ∨ 38 ≤ (37 : Int) ∧ (37 : Int) ≤ 41) := by omega
 have g27 : (27 : Int) ≤ 37 := by omega
 have w1 := w64_succ (show i < 9223372036854775807 by omega)
 have w2 := w64_succ (show s < 9223372036854775807 by omega)
 have hin : inB (i : Int) p.length = true := inB_of (by omega)
 unfold Z91 Z91_T
 simp only [Int.toNat_natCast, hg, w1, w2]
 rw [br_of hin, Falls_eq, hf]
 rw [br_false, br_of (by decide), br_not (by decide), pl_no (h := g27), br_false, e, cl_no (h := nc)]
theorem st_34 (q : Nat) (hq0 : q < 65536) (hq : q / 8 < nm.length) (hq2 : q % 8 < nm.length) (hg : p.getD i (0, 0) = (34, (q : Int))) : StT N p nm i lo me ar s sk f nx m d l o (q : Int) c j 34 false := by
 obtain ⟨r, f2, nx2, m2, d2, l2, hr, S2, e⟩ := nm_34 N hN p nm ((i + 1 : Nat) : Int) lo me ar ((s + 1 : Nat) : Int) sk f nx m d l o c hc S hs ho q hq0 hq hq2
 have hp : Pl 34 (q : Int) ((i + 1 : Nat) : Int) sk.length o ((i + 1 : Nat) : Int) lo me 0 0 (sk ++ [r]) (o ++ [(false, r)]) := ⟨hlo, hlu, hme, by decide, snoc_all hsk hr, ⟨_, by simp, rfl⟩, fun _ => ⟨rfl, .inl ⟨rfl, rfl⟩, by rw [show tk 34 = 0 by decide +kernel, show gv 34 = 1 by decide +kernel]; simp only [List.length_append, List.length_singleton]; omega⟩⟩
 refine ⟨_, lo, me, 0, 0, _, f2, nx2, m2, d2, l2, _, j + 1, by omega, hp, S2, fun fl hfl hb k => ?_⟩
 have hf : falls 34 = true := rfl
 have nc : ¬ (28 ≤ (34 : Int) ∧ (34 : Int) ≤ 32 ∨ 38 ≤ (34 : Int) ∧ (34 : Int) ≤ 41) := by omega
 have g27 : (27 : Int) ≤ 34 := by omega
 have w1 := w64_succ (show i < 9223372036854775807 by omega)
 have w2 := w64_succ (show s < 9223372036854775807 by omega)
 have hin : inB (i : Int) p.length = true := inB_of (by omega)
 unfold Z91 Z91_T
 simp only [Int.toNat_natCast, hg, w1, w2]
 rw [br_of hin, Falls_eq, hf]
 rw [br_true, Next_eq N j fl hfl, hb, br_false, br_of (by decide), br_not (by decide), pl_no (h := g27), br_false, e, cl_no (h := nc)]
theorem st_28 (hg : p.getD i (0, 0) = (28, a)) (hk : tk 28 ≤ sk.length) (b : Bool) : StT N p nm i lo me ar s sk f nx m d l o a c j 28 b := by
 obtain ⟨me2, en2, sk2, f2, nx2, m2, d2, l2, o2, hp, S2, e⟩ := cl_28 N hN p nm ((i + 1 : Nat) : Int) lo me ar ((s + 1 : Nat) : Int) sk f nx m d l o a c hc S hlo hlu hme hsk hs ho hk
 refine ⟨_, lo, me2, en2, 0, sk2, f2, nx2, m2, d2, l2, o2, j, by omega, hp, S2, fun fl hfl hb k => ?_⟩
 have hf : falls 28 = false := rfl
 have nc : ¬ ((28 : Int) = 27 ∨ (28 : Int) = 33 ∨ (28 : Int) = 34 ∨ (28 : Int) = 35 ∨ (28 : Int) = 36 ∨ (28 : Int) = 37) := by omega
 have g27 : (27 : Int) ≤ 28 := by omega
 have w1 := w64_succ (show i < 9223372036854775807 by omega)
 have w2 := w64_succ (show s < 9223372036854775807 by omega)
 have hin : inB (i : Int) p.length = true := inB_of (by omega)
 unfold Z91 Z91_T
 simp only [Int.toNat_natCast, hg, w1, w2]
 rw [br_of hin, Falls_eq, hf]
 rw [br_false, br_of (by decide), br_not (by decide), pl_no (h := g27), br_false, nm_no (h := nc), e]
theorem st_31 (hg : p.getD i (0, 0) = (31, a)) (hk : tk 31 ≤ sk.length) (b : Bool) : StT N p nm i lo me ar s sk f nx m d l o a c j 31 b := by
 obtain ⟨me2, en2, sk2, f2, nx2, m2, d2, l2, o2, hp, S2, e⟩ := cl_31 N hN p nm ((i + 1 : Nat) : Int) lo me ar ((s + 1 : Nat) : Int) sk f nx m d l o a c hc S hlo hlu hme hsk hs ho hk
 refine ⟨_, lo, me2, en2, 0, sk2, f2, nx2, m2, d2, l2, o2, j, by omega, hp, S2, fun fl hfl hb k => ?_⟩
 have hf : falls 31 = false := rfl
 have nc : ¬ ((31 : Int) = 27 ∨ (31 : Int) = 33 ∨ (31 : Int) = 34 ∨ (31 : Int) = 35 ∨ (31 : Int) = 36 ∨ (31 : Int) = 37) := by omega
 have g27 : (27 : Int) ≤ 31 := by omega
 have w1 := w64_succ (show i < 9223372036854775807 by omega)
 have w2 := w64_succ (show s < 9223372036854775807 by omega)
 have hin : inB (i : Int) p.length = true := inB_of (by omega)
 unfold Z91 Z91_T
 simp only [Int.toNat_natCast, hg, w1, w2]
 rw [br_of hin, Falls_eq, hf]
 rw [br_false, br_of (by decide), br_not (by decide), pl_no (h := g27), br_false, nm_no (h := nc), e]
theorem st_32 (hg : p.getD i (0, 0) = (32, a)) (hk : tk 32 ≤ sk.length) (b : Bool) : StT N p nm i lo me ar s sk f nx m d l o a c j 32 b := by
 obtain ⟨me2, en2, sk2, f2, nx2, m2, d2, l2, o2, hp, S2, e⟩ := cl_32 N hN p nm ((i + 1 : Nat) : Int) lo me ar ((s + 1 : Nat) : Int) sk f nx m d l o a c hc S hlo hlu hme hsk hs ho hk
 refine ⟨_, lo, me2, en2, 0, sk2, f2, nx2, m2, d2, l2, o2, j, by omega, hp, S2, fun fl hfl hb k => ?_⟩
 have hf : falls 32 = false := rfl
 have nc : ¬ ((32 : Int) = 27 ∨ (32 : Int) = 33 ∨ (32 : Int) = 34 ∨ (32 : Int) = 35 ∨ (32 : Int) = 36 ∨ (32 : Int) = 37) := by omega
 have g27 : (27 : Int) ≤ 32 := by omega
 have w1 := w64_succ (show i < 9223372036854775807 by omega)
 have w2 := w64_succ (show s < 9223372036854775807 by omega)
 have hin : inB (i : Int) p.length = true := inB_of (by omega)
 unfold Z91 Z91_T
 simp only [Int.toNat_natCast, hg, w1, w2]
 rw [br_of hin, Falls_eq, hf]
 rw [br_false, br_of (by decide), br_not (by decide), pl_no (h := g27), br_false, nm_no (h := nc), e]
theorem st_39 (hg : p.getD i (0, 0) = (39, a)) (hk : tk 39 ≤ sk.length) (b : Bool) : StT N p nm i lo me ar s sk f nx m d l o a c j 39 b := by
 obtain ⟨me2, en2, sk2, f2, nx2, m2, d2, l2, o2, hp, S2, e⟩ := cl_39 N hN p nm ((i + 1 : Nat) : Int) lo me ar ((s + 1 : Nat) : Int) sk f nx m d l o a c hc S hlo hlu hme hsk hs ho hk
 refine ⟨_, lo, me2, en2, 0, sk2, f2, nx2, m2, d2, l2, o2, j, by omega, hp, S2, fun fl hfl hb k => ?_⟩
 have hf : falls 39 = false := rfl
 have nc : ¬ ((39 : Int) = 27 ∨ (39 : Int) = 33 ∨ (39 : Int) = 34 ∨ (39 : Int) = 35 ∨ (39 : Int) = 36 ∨ (39 : Int) = 37) := by omega
 have g27 : (27 : Int) ≤ 39 := by omega
 have w1 := w64_succ (show i < 9223372036854775807 by omega)
 have w2 := w64_succ (show s < 9223372036854775807 by omega)
 have hin : inB (i : Int) p.length = true := inB_of (by omega)
 unfold Z91 Z91_T
 simp only [Int.toNat_natCast, hg, w1, w2]
 rw [br_of hin, Falls_eq, hf]
 rw [br_false, br_of (by decide), br_not (by decide), pl_no (h := g27), br_false, nm_no (h := nc), e]
theorem st_29 (hg : p.getD i (0, 0) = (29, a)) (hk : tk 29 ≤ sk.length) : StT N p nm i lo me ar s sk f nx m d l o a c j 29 false := by
 obtain ⟨me2, en2, sk2, f2, nx2, m2, d2, l2, o2, hp, S2, e⟩ := cl_29 N hN p nm ((i + 1 : Nat) : Int) lo me ar ((s + 1 : Nat) : Int) sk f nx m d l o a c hc S hlo hlu hme hsk hs ho hk
 refine ⟨_, lo, me2, en2, 0, sk2, f2, nx2, m2, d2, l2, o2, j + 1, by omega, hp, S2, fun fl hfl hb k => ?_⟩
 have hf : falls 29 = true := rfl
 have nc : ¬ ((29 : Int) = 27 ∨ (29 : Int) = 33 ∨ (29 : Int) = 34 ∨ (29 : Int) = 35 ∨ (29 : Int) = 36 ∨ (29 : Int) = 37) := by omega
 have g27 : (27 : Int) ≤ 29 := by omega
 have w1 := w64_succ (show i < 9223372036854775807 by omega)
 have w2 := w64_succ (show s < 9223372036854775807 by omega)
 have hin : inB (i : Int) p.length = true := inB_of (by omega)
 unfold Z91 Z91_T
 simp only [Int.toNat_natCast, hg, w1, w2]
 rw [br_of hin, Falls_eq, hf]
 rw [br_true, Next_eq N j fl hfl, hb, br_false, br_of (by decide), br_not (by decide), pl_no (h := g27), br_false, nm_no (h := nc), e]
theorem st_30 (hg : p.getD i (0, 0) = (30, a)) (hk : tk 30 ≤ sk.length) : StT N p nm i lo me ar s sk f nx m d l o a c j 30 false := by
 obtain ⟨me2, en2, sk2, f2, nx2, m2, d2, l2, o2, hp, S2, e⟩ := cl_30 N hN p nm ((i + 1 : Nat) : Int) lo me ar ((s + 1 : Nat) : Int) sk f nx m d l o a c hc S hlo hlu hme hsk hs ho hk
 refine ⟨_, lo, me2, en2, 0, sk2, f2, nx2, m2, d2, l2, o2, j + 1, by omega, hp, S2, fun fl hfl hb k => ?_⟩
 have hf : falls 30 = true := rfl
 have nc : ¬ ((30 : Int) = 27 ∨ (30 : Int) = 33 ∨ (30 : Int) = 34 ∨ (30 : Int) = 35 ∨ (30 : Int) = 36 ∨ (30 : Int) = 37) := by omega
 have g27 : (27 : Int) ≤ 30 := by omega
 have w1 := w64_succ (show i < 9223372036854775807 by omega)
 have w2 := w64_succ (show s < 9223372036854775807 by omega)
 have hin : inB (i : Int) p.length = true := inB_of (by omega)
 unfold Z91 Z91_T
 simp only [Int.toNat_natCast, hg, w1, w2]
 rw [br_of hin, Falls_eq, hf]
 rw [br_true, Next_eq N j fl hfl, hb, br_false, br_of (by decide), br_not (by decide), pl_no (h := g27), br_false, nm_no (h := nc), e]
theorem st_38 (hg : p.getD i (0, 0) = (38, a)) (hk : tk 38 ≤ sk.length) : StT N p nm i lo me ar s sk f nx m d l o a c j 38 false := by
 obtain ⟨me2, en2, sk2, f2, nx2, m2, d2, l2, o2, hp, S2, e⟩ := cl_38 N hN p nm ((i + 1 : Nat) : Int) lo me ar ((s + 1 : Nat) : Int) sk f nx m d l o a c hc S hlo hlu hme hsk hs ho hk
 refine ⟨_, lo, me2, en2, 0, sk2, f2, nx2, m2, d2, l2, o2, j + 1, by omega, hp, S2, fun fl hfl hb k => ?_⟩
 have hf : falls 38 = true := rfl
 have nc : ¬ ((38 : Int) = 27 ∨ (38 : Int) = 33 ∨ (38 : Int) = 34 ∨ (38 : Int) = 35 ∨ (38 : Int) = 36 ∨ (38 : Int) = 37) := by omega
 have g27 : (27 : Int) ≤ 38 := by omega
 have w1 := w64_succ (show i < 9223372036854775807 by omega)
 have w2 := w64_succ (show s < 9223372036854775807 by omega)
 have hin : inB (i : Int) p.length = true := inB_of (by omega)
 unfold Z91 Z91_T
 simp only [Int.toNat_natCast, hg, w1, w2]
 rw [br_of hin, Falls_eq, hf]
 rw [br_true, Next_eq N j fl hfl, hb, br_false, br_of (by decide), br_not (by decide), pl_no (h := g27), br_false, nm_no (h := nc), e]
theorem st_40 (hg : p.getD i (0, 0) = (40, a)) (b : Bool) : StT N p nm i lo me ar s sk f nx m d l o a c j 40 b := by
 obtain ⟨me2, en2, sk2, f2, nx2, m2, d2, l2, o2, hp, S2, e⟩ := cl_40 N hN p nm ((i + 1 : Nat) : Int) lo me ar ((s + 1 : Nat) : Int) sk f nx m d l o a c hc S hlo hlu hme hsk hs ho
 refine ⟨_, lo, me2, en2, 0, sk2, f2, nx2, m2, d2, l2, o2, j, by omega, hp, S2, fun fl hfl hb k => ?_⟩
 have hf : falls 40 = false := rfl
 have nc : ¬ ((40 : Int) = 27 ∨ (40 : Int) = 33 ∨ (40 : Int) = 34 ∨ (40 : Int) = 35 ∨ (40 : Int) = 36 ∨ (40 : Int) = 37) := by omega
 have g27 : (27 : Int) ≤ 40 := by omega
 have w1 := w64_succ (show i < 9223372036854775807 by omega)
 have w2 := w64_succ (show s < 9223372036854775807 by omega)
 have hin : inB (i : Int) p.length = true := inB_of (by omega)
 unfold Z91 Z91_T
 simp only [Int.toNat_natCast, hg, w1, w2]
 rw [br_of hin, Falls_eq, hf]
 rw [br_false, br_of (by decide), br_not (by decide), pl_no (h := g27), br_false, nm_no (h := nc), e]
theorem st_41 (hg : p.getD i (0, 0) = (41, a)) (hal : ar.length ≤ 1000) (har : ∀ b ∈ ar, b.length ≤ 1000) (hk : tk 41 ≤ sk.length) (b : Bool) : StT N p nm i lo me ar s sk f nx m d l o a c j 41 b := by
 obtain ⟨me2, en2, sk2, f2, nx2, m2, d2, l2, o2, hp, S2, e⟩ := cl_41 N hN p nm ((i + 1 : Nat) : Int) lo me ar ((s + 1 : Nat) : Int) sk f nx m d l o a c hc S hlo hlu hme hsk hs ho hal har hk
 refine ⟨_, lo, me2, en2, 0, sk2, f2, nx2, m2, d2, l2, o2, j, by omega, hp, S2, fun fl hfl hb k => ?_⟩
 have hf : falls 41 = false := rfl
 have nc : ¬ ((41 : Int) = 27 ∨ (41 : Int) = 33 ∨ (41 : Int) = 34 ∨ (41 : Int) = 35 ∨ (41 : Int) = 36 ∨ (41 : Int) = 37) := by omega
 have g27 : (27 : Int) ≤ 41 := by omega
 have w1 := w64_succ (show i < 9223372036854775807 by omega)
 have w2 := w64_succ (show s < 9223372036854775807 by omega)
 have hin : inB (i : Int) p.length = true := inB_of (by omega)
 unfold Z91 Z91_T
 simp only [Int.toNat_natCast, hg, w1, w2]
 rw [br_of hin, Falls_eq, hf]
 rw [br_false, br_of (by decide), br_not (by decide), pl_no (h := g27), br_false, nm_no (h := nc), e]

/-- an instruction, whichever it is -/
theorem step_tot (hal : ar.length ≤ 1000) (har : ∀ b ∈ ar, b.length ≤ 1000) (op : Int) (hg : p.getD i (0, 0) = (op, a)) (hI : isI op a = true) (hn : namesI op a (nm.length : Int) = true) (hk : tk op ≤ sk.length) (b : Bool) : StT N p nm i lo me ar s sk f nx m d l o a c j op b := by
 have hv := isI_op hI
 have ha := isI_a hI
 have h41 : 1 ≤ op ∧ op ≤ 41 := by
  refine Decidable.byContradiction fun h => ?_
  rw [tb_out h] at hv
  cases hv
 by_cases h1 : 1 ≤ op ∧ op ≤ 4 ∨ 17 ≤ op ∧ op ≤ 26
 ·exact st_plain N hN p nm i hi h96 lo me ar s hs4 sk f nx m d l o a c j hc S hlo hlu hme hsk hs ho op hg h1 hk hI b
 by_cases h2 : 5 ≤ op ∧ op ≤ 16
 ·exact st_reckon N hN p nm i hi h96 lo me ar s hs4 sk f nx m d l o a c j hc S hlo hlu hme hsk hs ho op hg h2 hk b
 have hc15 : op = 27 ∨ op = 28 ∨ op = 29 ∨ op = 30 ∨ op = 31 ∨ op = 32 ∨ op = 33 ∨ op = 34 ∨ op = 35 ∨ op = 36 ∨ op = 37 ∨ op = 38 ∨ op = 39 ∨ op = 40 ∨ op = 41 := by omega
 obtain ⟨q, rfl⟩ : ∃ q : Nat, a = (q : Int) := ⟨a.toNat, by omega⟩
 have hq1 : op = 27 ∨ op = 33 ∨ op = 35 ∨ op = 36 ∨ op = 37 → q < nm.length := fun h => by
  unfold namesI at hn
  rw [if_pos h] at hn
  have := of_decide_eq_true hn
  omega
 have hq2 : op = 34 → q / 8 < nm.length ∧ q % 8 < nm.length := fun h => by
  subst h
  unfold namesI at hn
  rw [if_neg (by omega), if_pos rfl] at hn
  simp only [Bool.and_eq_true, decide_eq_true_eq] at hn
  omega
 rcases hc15 with rfl | rfl | rfl | rfl | rfl | rfl | rfl | rfl | rfl | rfl | rfl | rfl | rfl | rfl | rfl
 ·cases b with
  | true => exact st_fail N hN p nm i hi h96 lo me ar s hs4 sk f nx m d l o (q : Int) c j hc S hlo hlu hme hsk hs ho 27 hg rfl hv hk (by decide +kernel) rfl
  | false => exact st_27 N hN p nm i hi h96 lo me ar s hs4 sk f nx m d l o c j hc S hlo hlu hme hsk hs ho q (hq1 (by omega)) hg
 ·exact st_28 N hN p nm i hi h96 lo me ar s hs4 sk f nx m d l o (q : Int) c j hc S hlo hlu hme hsk hs ho hg hk b
 ·cases b with
  | true => exact st_fail N hN p nm i hi h96 lo me ar s hs4 sk f nx m d l o (q : Int) c j hc S hlo hlu hme hsk hs ho 29 hg rfl hv hk (by decide +kernel) rfl
  | false => exact st_29 N hN p nm i hi h96 lo me ar s hs4 sk f nx m d l o (q : Int) c j hc S hlo hlu hme hsk hs ho hg hk
 ·cases b with
  | true => exact st_fail N hN p nm i hi h96 lo me ar s hs4 sk f nx m d l o (q : Int) c j hc S hlo hlu hme hsk hs ho 30 hg rfl hv hk (by decide +kernel) rfl
  | false => exact st_30 N hN p nm i hi h96 lo me ar s hs4 sk f nx m d l o (q : Int) c j hc S hlo hlu hme hsk hs ho hg hk
 ·exact st_31 N hN p nm i hi h96 lo me ar s hs4 sk f nx m d l o (q : Int) c j hc S hlo hlu hme hsk hs ho hg hk b
 ·exact st_32 N hN p nm i hi h96 lo me ar s hs4 sk f nx m d l o (q : Int) c j hc S hlo hlu hme hsk hs ho hg hk b
 ·cases b with
  | true => exact st_fail N hN p nm i hi h96 lo me ar s hs4 sk f nx m d l o (q : Int) c j hc S hlo hlu hme hsk hs ho 33 hg rfl hv hk (by decide +kernel) rfl
  | false => exact st_33 N hN p nm i hi h96 lo me ar s hs4 sk f nx m d l o c j hc S hlo hlu hme hsk hs ho q (hq1 (by omega)) hg
 ·cases b with
  | true => exact st_fail N hN p nm i hi h96 lo me ar s hs4 sk f nx m d l o (q : Int) c j hc S hlo hlu hme hsk hs ho 34 hg rfl hv hk (by decide +kernel) rfl
  | false => exact st_34 N hN p nm i hi h96 lo me ar s hs4 sk f nx m d l o c j hc S hlo hlu hme hsk hs ho q (by omega) (hq2 rfl).1 (hq2 rfl).2 hg
 ·cases b with
  | true => exact st_fail N hN p nm i hi h96 lo me ar s hs4 sk f nx m d l o (q : Int) c j hc S hlo hlu hme hsk hs ho 35 hg rfl hv hk (by decide +kernel) rfl
  | false => exact st_35 N hN p nm i hi h96 lo me ar s hs4 sk f nx m d l o c j hc S hlo hlu hme hsk hs ho q (hq1 (by omega)) hg
 ·cases b with
  | true => exact st_fail N hN p nm i hi h96 lo me ar s hs4 sk f nx m d l o (q : Int) c j hc S hlo hlu hme hsk hs ho 36 hg rfl hv hk (by decide +kernel) rfl
  | false => exact st_36 N hN p nm i hi h96 lo me ar s hs4 sk f nx m d l o c j hc S hlo hlu hme hsk hs ho q (hq1 (by omega)) hg
 ·exact st_37 N hN p nm i hi h96 lo me ar s hs4 sk f nx m d l o c j hc S hlo hlu hme hsk hs ho q (hq1 (by omega)) hg b
 ·cases b with
  | true => exact st_fail N hN p nm i hi h96 lo me ar s hs4 sk f nx m d l o (q : Int) c j hc S hlo hlu hme hsk hs ho 38 hg rfl hv hk (by decide +kernel) rfl
  | false => exact st_38 N hN p nm i hi h96 lo me ar s hs4 sk f nx m d l o (q : Int) c j hc S hlo hlu hme hsk hs ho hg hk
 ·exact st_39 N hN p nm i hi h96 lo me ar s hs4 sk f nx m d l o (q : Int) c j hc S hlo hlu hme hsk hs ho hg hk b
 ·exact st_40 N hN p nm i hi h96 lo me ar s hs4 sk f nx m d l o (q : Int) c j hc S hlo hlu hme hsk hs ho hg b
 ·exact st_41 N hN p nm i hi h96 lo me ar s hs4 sk f nx m d l o (q : Int) c j hc S hlo hlu hme hsk hs ho hg hal har hk b
end

end Go.Proofs.YtbclodhbcplhmaaGreat
