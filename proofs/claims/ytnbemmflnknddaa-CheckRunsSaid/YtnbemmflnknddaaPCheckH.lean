/-
  the check of programs: small ones, heights, the reference's rows.
-/
import Derived.Test.YtnbemmflnknddaaPCheck
import Derived.KernelRfl
set_option linter.unusedSimpArgs false
set_option linter.unusedVariables false
namespace Go.Proofs.Ytnbemmflnknddaa
open Go.Gx

set_option maxRecDepth 100000 in
theorem awake11 {R : Type} (n : Nat) (k : Bool → Option R) : law11_awake (n + 3000) k = k true := by kernel_rfl

/-! ### is a program small -/
theorem Small_l0 (N : Nat) (names : List ByteArray) (L : List Ins) (hl : names.length ≤ 9223372036854775807) : ∀ (n q : Nat), q ≤ names.length → names.length - q < n → ∀ (c : Int), ∃ c' : Int, ∀ {R : Type} (k : Int → List Ins → List ByteArray → Option R),
    law10_Small_l0 N k n c (q : Int) L names = k c' L names
  | 0, q, _, hn, _ => by omega
  | n + 1, q, hq, hn, c => by
    by_cases hlt : q < names.length
    · obtain ⟨c', hc⟩ := Small_l0 N names L hl n (q + 1) (by omega) (by omega) (IntKind.wrap .i64 (c + (names[q].size : Int)))
      refine ⟨c', fun k => ?_⟩
      simp only [law10_Small_l0, law10_Small_l0_T0, Int.ofNat_lt, hlt, decide_true, br_true, inB_nat, Int.toNat_natCast, getD_lt hlt, w64_succ (show q < 9223372036854775807 by omega)]
      exact hc k
    · refine ⟨c, fun k => ?_⟩
      simp only [law10_Small_l0, law10_Small_l0_T0, Int.ofNat_lt, hlt, decide_false, br_false]

theorem Small_ex (N : Nat) (L : List Ins) (names : List ByteArray) (hl : names.length ≤ 9223372036854775807) (hN : names.length < N) : ∃ b, ∀ {R : Type} (k : Bool → Option R), law10_Small N L names k = k b := by
  obtain ⟨c, hc⟩ := Small_l0 N names L hl N 0 (by omega) (by omega) 0
  refine ⟨decide ((L.length : Int) ≤ 500) && decide ((names.length : Int) ≤ 100) && decide (c ≤ 5000), fun k => ?_⟩
  unfold law10_Small law10_Small_T
  refine (hc _).trans ?_
  cases decide ((L.length : Int) ≤ 500) <;> cases decide ((names.length : Int) ≤ 100) <;> rfl

/-! ### the heights -/
theorem hgt_congr {L : List Ins} {M M' : List Bool} {i : Nat} (h : ∀ j, j ≤ 16 → at_ M i j = at_ M' i j) : hgt L M i = hgt L M' i := by
  unfold hgt
  have : ∀ (l : List Nat) (s : Int × Bool), (∀ j ∈ l, j ≤ 16) → l.foldl (hstepH L i M) s = l.foldl (hstepH L i M') s := by
    intro l
    induction l with
    | nil => intro s _; rfl
    | cons x l ih =>
      intro s hl
      simp only [List.foldl_cons]
      have : hstepH L i M s x = hstepH L i M' s x := by unfold hstepH; rw [h x (hl x (by simp))]
      rw [this]
      exact ih _ fun j hj => hl j (by simp [hj])
  exact this _ _ fun j hj => by have := List.mem_range.1 hj; omega

theorem Final.same {L : List Ins} (W : Well L) (h0 : 0 < L.length) {M M' : List Bool} (F : Final L M) (F' : Final L M') {i : Nat} (hi : i < L.length) : hgt L M i = hgt L M' i :=
  hgt_congr fun j hj => by rw [Bool.eq_iff_iff, F.iff W h0 hi hj, F'.iff W h0 hi hj]

theorem app_ok {α : Type} {l : List α} {z : Nat} (h : (l.length + 1) * z ≤ 70368744177664) : (((fits (0 : Nat) (List.length l) l) && (decide ((((List.length l) + (1 : Nat)) * z) ≤ (70368744177664 : Nat)))) && true) = true := by
  simp [fits, h]

theorem Heights_l0 {R : Type} (N : Nat) (hN : 100 < N) (k0 : List Int → Option R) {L : List Ins} (W : Well L) (names : List ByteArray) (M : List Bool) :
    ∀ (n i : Nat), i ≤ L.length → L.length - i < n → ∀ l : List Int, l.length = i →
      check_Heights_l0 N k0 n (L.length : Int) (i : Int) L names M l = k0 (l ++ (List.range' i (L.length - i)).map fun j => (hgt L M j).1)
  | 0, i, _, hn, _, _ => by omega
  | n + 1, i, hi, hn, l, hl => by
    have h96 := W.len
    simp only [check_Heights_l0, check_Heights_l0_T0, Int.ofNat_lt]
    by_cases hlt : i < L.length
    · have ih := Heights_l0 N hN k0 W names M n (i + 1) (by omega) (by omega) (l ++ [(hgt L M i).1]) (by simp [hl])
      simp only [hlt, decide_true, br_true, height_eq N hN W names M hlt, w64_succ (show i < 9223372036854775807 by omega)]
      rw [br_of (app_ok (by omega)), sub_all]
      refine ih.trans ?_
      rw [show L.length - i = (L.length - (i + 1)) + 1 by omega, List.range'_succ]
      simp
    · simp only [hlt, decide_false, br_false]
      rw [show L.length - i = 0 by omega]
      simp

/-! ### the rows -/
noncomputable def tblR : List (ByteArray × (Int × (Int × Int))) := (ref12_table 0 (fun l => some l)).getD []
theorem tblR_eq {R : Type} (N : Nat) (k : List (ByteArray × (Int × (Int × Int))) → Option R) : ref12_table N k = k tblR := rfl
theorem tblR_len : tblR.length = 42 := by decide +kernel

theorem Row_eq {R : Type} (N : Nat) {op : Int} (hv : (tb op).2.2.2 = true) (k : ByteArray → Int → Int → Int → Bool → Option R) :
    ref12_Row N op k = k (tblR.getD op.toNat (bs [], 0, 0, 0)).1 (tk op) (gv op) (tblR.getD op.toNat (bs [], 0, 0, 0)).2.2.2 true := by
  have ho : 1 ≤ op ∧ op ≤ 41 := by
    by_cases ho : 1 ≤ op ∧ op ≤ 41
    · exact ho
    · rw [tb_out ho] at hv; cases hv
  have hr : (tblR.getD op.toNat (bs [], 0, 0, 0)).2.1 = tk op ∧ (tblR.getD op.toNat (bs [], 0, 0, 0)).2.2.1 = gv op :=
    tb_in (P := fun op => (tblR.getD op.toNat (bs [], 0, 0, 0)).2.1 = tk op ∧ (tblR.getD op.toNat (bs [], 0, 0, 0)).2.2.1 = gv op) (by decide +kernel) ho
  unfold ref12_Row ref12_Row_T
  rw [tblR_eq, tblR_len]
  have e1 : decide (op < 1) = false := decide_eq_false (by omega)
  have e2 : decide (((42 : Nat) : Int) ≤ op) = false := decide_eq_false (by omega)
  have e3 : inB op 42 = true := inB_of (by omega)
  have e4 : decide (op.toNat < 42) = true := decide_eq_true (by omega)
  simp only [e1, e2, e3, e4, Bool.not_false, br_true, br_false]
  rw [hr.1, hr.2]

end Go.Proofs.Ytnbemmflnknddaa
