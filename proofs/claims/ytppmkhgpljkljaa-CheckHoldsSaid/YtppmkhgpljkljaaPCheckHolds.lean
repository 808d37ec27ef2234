/-
  the law CheckHolds of chapter 11, as a printed function: it comes to true.
-/
import Derived.Test.YtppmkhgpljkljaaPCheck
import Derived.KernelRfl
set_option linter.unusedSimpArgs false
set_option linter.unusedVariables false
namespace Go.Proofs.Ytppmkhgpljkljaa
open Go.Gx

set_option maxRecDepth 100000 in
theorem awake11 {R : Type} (n : Nat) (k : Bool → Option R) : law11_awake (n + 3000) k = k true := by kernel_rfl

/-! ### is a program small -/
theorem Small_l0 (N : Nat) (names : List ByteArray) (L : List Ins) (hl : names.length ≤ 9223372036854775807) : ∀ (n q : Nat), q ≤ names.length → names.length - q < n → ∀ (c : Int), ∃ c' : Int, ∀ {R : Type} (k : Int → List Ins → List ByteArray → Option R),
    law10_Small_l0 N k n c (q : Int) L names = k c' L names
  | 0, q, _, hn, _ => by omega
  | n + 1, q, hq, hn, c => by
    by_cases hlt : q < names.length
    · obtain ⟨c', hc⟩ := Small_l0 N names L hl n (q + 1) (by omega) (by omega) (IntKind.wrap .i64 (c + (names[q].size : Int)))
      refine ⟨c', fun k => ?_⟩
      simp only [law10_Small_l0, law10_Small_l0_T0, Int.ofNat_lt, hlt, decide_true, br_true, inB_nat, Int.toNat_natCast, getD_lt hlt, w64_succ (show q < 9223372036854775807 by omega)]
      exact hc k
    · refine ⟨c, fun k => ?_⟩
      simp only [law10_Small_l0, law10_Small_l0_T0, Int.ofNat_lt, hlt, decide_false, br_false]

theorem Small_ex (N : Nat) (L : List Ins) (names : List ByteArray) (hl : names.length ≤ 9223372036854775807) (hN : names.length < N) : ∃ b, ∀ {R : Type} (k : Bool → Option R), law10_Small N L names k = k b := by
  obtain ⟨c, hc⟩ := Small_l0 N names L hl N 0 (by omega) (by omega) 0
  refine ⟨decide ((L.length : Int) ≤ 500) && decide ((names.length : Int) ≤ 100) && decide (c ≤ 5000), fun k => ?_⟩
  unfold law10_Small law10_Small_T
  refine (hc _).trans ?_
  cases decide ((L.length : Int) ≤ 500) <;> cases decide ((names.length : Int) ≤ 100) <;> rfl

/-! ### the heights -/
theorem hgt_congr {L : List Ins} {M M' : List Bool} {i : Nat} (h : ∀ j, j ≤ 16 → at_ M i j = at_ M' i j) : hgt L M i = hgt L M' i := by
  unfold hgt
  have : ∀ (l : List Nat) (s : Int × Bool), (∀ j ∈ l, j ≤ 16) → l.foldl (hstepH L i M) s = l.foldl (hstepH L i M') s := by
    intro l
    induction l with
    | nil => intro s _; rfl
    | cons x l ih =>
      intro s hl
      simp only [List.foldl_cons]
      have : hstepH L i M s x = hstepH L i M' s x := by unfold hstepH; rw [h x (hl x (by simp))]
      rw [this]
      exact ih _ fun j hj => hl j (by simp [hj])
  exact this _ _ fun j hj => by have := List.mem_range.1 hj; omega

theorem Final.same {L : List Ins} (W : Well L) (h0 : 0 < L.length) {M M' : List Bool} (F : Final L M) (F' : Final L M') {i : Nat} (hi : i < L.length) : hgt L M i = hgt L M' i :=
  hgt_congr fun j hj => by rw [Bool.eq_iff_iff, F.iff W h0 hi hj, F'.iff W h0 hi hj]

theorem app_ok {α : Type} {l : List α} {z : Nat} (h : (l.length + 1) * z ≤ 70368744177664) : (((fits (0 : Nat) (List.length l) l) && (decide ((((List.length l) + (1 : Nat)) * z) ≤ (70368744177664 : Nat)))) && true) = true := by
  simp [fits, h]

theorem Heights_l0 {R : Type} (N : Nat) (hN : 100 < N) (k0 : List Int → Option R) {L : List Ins} (W : Well L) (names : List ByteArray) (M : List Bool) :
    ∀ (n i : Nat), i ≤ L.length → L.length - i < n → ∀ l : List Int, l.length = i →
      check_Heights_l0 N k0 n (L.length : Int) (i : Int) L names M l = k0 (l ++ (List.range' i (L.length - i)).map fun j => (hgt L M j).1)
  | 0, i, _, hn, _, _ => by omega
  | n + 1, i, hi, hn, l, hl => by
    have h96 := W.len
    simp only [check_Heights_l0, check_Heights_l0_T0, Int.ofNat_lt]
    by_cases hlt : i < L.length
    · have ih := Heights_l0 N hN k0 W names M n (i + 1) (by omega) (by omega) (l ++ [(hgt L M i).1]) (by simp [hl])
      simp only [hlt, decide_true, br_true, height_eq N hN W names M hlt, w64_succ (show i < 9223372036854775807 by omega)]
      rw [br_of (app_ok (by omega)), sub_all]
      refine ih.trans ?_
      rw [show L.length - i = (L.length - (i + 1)) + 1 by omega, List.range'_succ]
      simp
    · simp only [hlt, decide_false, br_false]
      rw [show L.length - i = 0 by omega]
      simp

/-! ### the rows -/
noncomputable def tblR : List (ByteArray × (Int × (Int × Int))) := (ref12_table 0 (fun l => some l)).getD []
theorem tblR_eq {R : Type} (N : Nat) (k : List (ByteArray × (Int × (Int × Int))) → Option R) : ref12_table N k = k tblR := rfl
theorem tblR_len : tblR.length = 42 := by decide +kernel

theorem Row_eq {R : Type} (N : Nat) {op : Int} (hv : (tb op).2.2.2 = true) (k : ByteArray → Int → Int → Int → Bool → Option R) :
    ref12_Row N op k = k (tblR.getD op.toNat (bs [], 0, 0, 0)).1 (tk op) (gv op) (tblR.getD op.toNat (bs [], 0, 0, 0)).2.2.2 true := by
  have ho : 1 ≤ op ∧ op ≤ 41 := by
    by_cases ho : 1 ≤ op ∧ op ≤ 41
    · exact ho
    · rw [tb_out ho] at hv; cases hv
  have hr : (tblR.getD op.toNat (bs [], 0, 0, 0)).2.1 = tk op ∧ (tblR.getD op.toNat (bs [], 0, 0, 0)).2.2.1 = gv op :=
    tb_in (P := fun op => (tblR.getD op.toNat (bs [], 0, 0, 0)).2.1 = tk op ∧ (tblR.getD op.toNat (bs [], 0, 0, 0)).2.2.1 = gv op) (by decide +kernel) ho
  unfold ref12_Row ref12_Row_T
  rw [tblR_eq, tblR_len]
  have e1 : decide (op < 1) = false := decide_eq_false (by omega)
  have e2 : decide (((42 : Nat) : Int) ≤ op) = false := decide_eq_false (by omega)
  have e3 : inB op 42 = true := inB_of (by omega)
  have e4 : decide (op.toNat < 42) = true := decide_eq_true (by omega)
  simp only [e1, e2, e3, e4, Bool.not_false, br_true, br_false]
  rw [hr.1, hr.2]

/-! ### the law -/
theorem holds_l0 {R : Type} (N : Nat) (k0 : Bool → Option R) (k1 : Option R) {L : List Ins} (W : Well L) (h0 : 0 < L.length) (names : List ByteArray) {M : List Bool} (F : Final L M) (hw : ∀ j, j < L.length → (hgt L M j).2 = true) :
    ∀ (n i : Nat), i ≤ L.length → L.length - i < n → law11_CheckHolds_l0 N k0 k1 n (i : Int) L names ((List.range L.length).map fun j => (hgt L M j).1) = k1
  | 0, i, _, hn => by omega
  | n + 1, i, hi, hn => by
    have h96 := W.len
    have hlen : ((List.range L.length).map fun j => (hgt L M j).1).length = L.length := by simp
    have hget : ∀ j, j < L.length → ((List.range L.length).map fun j => (hgt L M j).1).getD j 0 = (hgt L M j).1 := fun j hj => by
      rw [List.getD_eq_getElem?_getD, List.getElem?_map, List.getElem?_range hj]; rfl
    generalize hH : ((List.range L.length).map fun j => (hgt L M j).1) = H at hlen hget
    simp only [law11_CheckHolds_l0, law11_CheckHolds_l0_T0, Int.ofNat_lt]
    by_cases hlt : i < L.length
    · have ih := holds_l0 N k0 k1 W h0 names F hw n (i + 1) (by omega) (by omega)
      rw [hH] at ih
      have e1 : (L.getD i (0, 0)).1 = opAt L i := rfl
      have e2 : (L.getD i (0, 0)).2 = aAt L i := rfl
      simp only [hlt, decide_true, br_true, inB_nat, hlen, Int.toNat_natCast, hget i hlt, e1, e2, w64_succ (show i < 9223372036854775807 by omega), ih]
      have T := told L M i
      rcases T.out with ho | ⟨h, hh, ha, ho⟩
      · rw [ho]
        rfl
      · obtain ⟨hg, _⟩ := T.well (hw i hlt) h hh ha
        obtain ⟨g1, g2, g3⟩ := goes_spec hg
        have hsm := tb_small (opAt L i)
        rw [ho, br_not (decide_eq_false (by omega))]
        rw [Row_eq N (W.op i hlt)]
        have d1 : decide ((h : Int) < tk (opAt L i)) = false := decide_eq_false (by omega)
        have d2 : decide ((16 : Int) < (h : Int)) = false := decide_eq_false (by omega)
        have d3 : IntKind.wrap .i64 (IntKind.wrap .i64 ((h : Int) - tk (opAt L i)) + gv (opAt L i)) = (behind (opAt L i) h : Int) := by rw [w64 (x := (h : Int) - tk (opAt L i)) (by omega), w64 (by omega), g1]
        simp only [d1, d2, d3, Bool.not_false, br_true, br_false]
        -- a jump goes to one that is reached so
        have hjump : jumpsI (opAt L i) = true → inB (aAt L i) L.length = true ∧ decide ((aAt L i).toNat < L.length) = true ∧ H.getD (aAt L i).toNat 0 = (behind (opAt L i) h : Int) := fun hj => by
          have hm : aAt L i ∈ nexts L i := by unfold nexts; rw [hj]; simp
          obtain ⟨j, e, hjl⟩ := W.nx i hlt _ hm
          have hat := F.closed i h j hlt (by omega) ha hg (by rw [← e]; exact hm)
          obtain ⟨_, e3⟩ := (told L M j).well (hw j hjl) _ (by omega) hat
          rw [e]
          refine ⟨inB_of (by omega), decide_eq_true (by omega), ?_⟩
          rw [Int.toNat_natCast, hget j hjl, e3]
        have hfall : endsI (opAt L i) = false → decide (i + 1 < L.length) = true ∧ H.getD (i + 1) 0 = (behind (opAt L i) h : Int) := fun he => by
          have hm : ((i + 1 : Nat) : Int) ∈ nexts L i := by unfold nexts; rw [he]; simp
          obtain ⟨j, e, hjl⟩ := W.nx i hlt _ hm
          obtain rfl : j = i + 1 := by omega
          have hat := F.closed i h (i + 1) hlt (by omega) ha hg hm
          obtain ⟨_, e3⟩ := (told L M (i + 1)).well (hw _ hjl) _ (by omega) hat
          exact ⟨decide_eq_true hjl, by rw [hget _ hjl, e3]⟩
        unfold jumpsI at hjump
        unfold endsI at hfall
        by_cases c1 : opAt L i = 22
        · obtain ⟨j1, j2, j3⟩ := hjump (by simp [c1])
          have q1 : decide (opAt L i = 22) = true := decide_eq_true c1
          simp only [q1, j1, j2, j3, decide_true, Bool.not_false, Bool.not_true, br_true, br_false]
        · have q1 : decide (opAt L i = 22) = false := decide_eq_false c1
          by_cases c2 : opAt L i = 23
          · obtain ⟨j1, j2, j3⟩ := hjump (by simp [c2])
            obtain ⟨f1, f2⟩ := hfall (by simp [c2])
            have q2 : decide (opAt L i = 23) = true := decide_eq_true c2
            have q3 : decide (opAt L i = 26) = false := decide_eq_false (by omega)
            simp only [q1, q2, q3, j1, j2, j3, f1, f2, decide_true, Bool.not_false, Bool.not_true, br_true, br_false]
          · have q2 : decide (opAt L i = 23) = false := decide_eq_false c2
            by_cases c3 : opAt L i = 26
            · have q3 : decide (opAt L i = 26) = true := decide_eq_true c3
              simp only [q1, q2, q3, Bool.not_false, Bool.not_true, br_true, br_false]
            · have q3 : decide (opAt L i = 26) = false := decide_eq_false c3
              obtain ⟨f1, f2⟩ := hfall (by simp [c1, c3])
              simp only [q1, q2, q3, f1, f2, decide_true, Bool.not_false, Bool.not_true, br_true, br_false]
    · simp only [hlt, decide_false, br_false]

theorem checkHolds_true {R : Type} (n : Nat) (L : List Ins) (names : List ByteArray) (hl : names.length ≤ 9223372036854775807) (hN : names.length < n + 3000) (k : Bool → Option R) : law11_CheckHolds (n + 3000) L names k = k true := by
  unfold law11_CheckHolds law11_CheckHolds_T
  rw [awake11]
  obtain ⟨b, hb⟩ := Small_ex (n + 3000) L names hl hN
  rw [hb]
  cases b with
  | false => rfl
  | true =>
    simp only [Bool.not_true, br_false]
    obtain ⟨i, e, hR, hrun⟩ := Run_ex (n + 3000) (by omega) L names
    rw [hrun, br_neg, br_dec]
    by_cases he : e = 0
    · rw [if_pos he]
      subst he
      have hheights : ∃ M, 0 < L.length ∧ Well L ∧ Final L M ∧ ∀ j, j < L.length → (hgt L M j).2 = true := by
        cases hR with
        | one j _ _ _ _ _ _ _ h => exact absurd rfl h
        | ok M h0 _ _ W _ F hw => exact ⟨M, h0, W, F, hw⟩
      obtain ⟨M, h0, W, F, hw⟩ := hheights
      obtain ⟨M', F', hreach⟩ := reach_ex (n + 3000) (by omega) W h0 names
      have hw' : ∀ j, j < L.length → (hgt L M' j).2 = true := fun j hj => by rw [← F.same W h0 F' hj]; exact hw j hj
      have h96 := W.len
      unfold check_Heights check_Heights_T
      rw [hrun, hreach]
      simp only [decide_true, Bool.not_true, br_false]
      have := Heights_l0 (n + 3000) (by omega) (fun l382 => br (!(!(decide ((Nat.cast (List.length l382) : Int) = (Nat.cast (List.length L) : Int)))))
         (br (inB (0 : Int) (List.length l382))
          (br (decide ((0 : Nat) < (List.length l382)))
           (br (!(decide ((List.getD l382 (0 : Nat) (0 : Int)) = (0 : Int))))
            (k false)
            (law11_CheckHolds_l0 (n + 3000) (fun b339 => k b339) (k true) (n + 3000) (0 : Int) L names l382))
           (none))
          (none))
         (k false)) W names M' (n + 3000) 0 (by omega) (by omega) [] rfl
      refine Eq.trans ?_ (this.trans ?_)
      · rfl
      rw [List.nil_append, Nat.sub_zero, ← List.range_eq_range']
      have hlen : ((List.range L.length).map fun j => (hgt L M' j).1).length = L.length := by simp
      have h00 : ((List.range L.length).map fun j => (hgt L M' j).1).getD 0 0 = 0 := by
        rw [List.getD_eq_getElem?_getD, List.getElem?_map, List.getElem?_range h0]
        exact ((told L M' 0).well (hw' 0 h0) 0 (by omega) F'.zero).2
      rw [hlen, h00]
      have e1 : inB 0 L.length = true := inB_of (by omega)
      simp only [e1, h0, decide_true, Bool.not_true, Bool.not_false, br_true, br_false]
      exact holds_l0 (n + 3000) _ _ W h0 names F' hw' (n + 3000) 0 (by omega) (by omega)
    · rw [if_neg he]

theorem checkHolds_run {R : Type} (L : List Ins) (names : List ByteArray) (hl : names.length ≤ 9223372036854775807) (k : Bool → Option R) : law11_CheckHolds (names.length + 3000) L names k = k true :=
  checkHolds_true names.length L names hl (by omega) k

end Go.Proofs.Ytppmkhgpljkljaa
