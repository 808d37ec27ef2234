/-
 the machine (chapter 16): it is made, or why not; and what a run comes to, whatever fuel.
-/
import Derived.Test.YtbclodhbcplhmaaGreatPRunQ
set_option linter.unusedSimpArgs false
set_option linter.unusedVariables false
set_option linter.unusedSectionVars false
namespace Go.Proofs.YtbclodhbcplhmaaGreat
open Go.Gx

theorem tree_l0 (N : Nat) (hN : 500 < N) (L0 : List EN) (h8 : L0.length ≤ 8) : ∀ (e i : Nat) (nx : Int) (m : TM), L0.length - i = e → i ≤ L0.length → 0 ≤ nx ∧ nx ≤ i →
  (∃ a b, ∀ {R : Type} (n : Nat), e < n → ∀ k0 k1, Z107_l0 (R := R) N k0 k1 n L0 (L0.length : Int) (i : Int) nx m = k0 a b) ∨
  (∃ a b, (0 ≤ a ∧ a ≤ 8) ∧ ∀ {R : Type} (n : Nat), e < n → ∀ k0 k1, Z107_l0 (R := R) N k0 k1 n L0 (L0.length : Int) (i : Int) nx m = k1 a b) := by
 intro e
 induction e with
 | zero =>
  intro i nx m he hi hx
  refine .inr ⟨nx, m, ⟨by omega, by omega⟩, fun {R} n hn k0 k1 => ?_⟩
  obtain ⟨n, rfl⟩ : ∃ n', n = n' + 1 := ⟨n - 1, by omega⟩
  simp only [Z107_l0, Z107_l0_T0]
  rw [br_not (decide_eq_false (by omega))]
 | succ e ih =>
  intro i nx m he hi hx
  have hin : inB (i : Int) L0.length = true := inB_of (by omega)
  have hlt : decide ((i : Int) < (L0.length : Int)) = true := decide_eq_true (by omega)
  have hwi := w64_succ (show i < 9223372036854775807 by omega)
  have hp := bs_pth (L0.getD i (bs [], false, 0)).1
  have stp : ∀ {R : Type} (n : Nat) k0 k1, Z107_l0 (R := R) N k0 k1 (n + 1) L0 (L0.length : Int) (i : Int) nx m =
    if nameB (pth (L0.getD i (bs [], false, 0)).1) = false then k0 nx m else if makeC (pth (L0.getD i (bs [], false, 0)).1) (L0.getD i (bs [], false, 0)).2.1 m = 0 then Z107_l0 (R := R) N k0 k1 n L0 (L0.length : Int) ((i + 1 : Nat) : Int) (nx + 1) (tput m (keyL (pth (L0.getD i (bs [], false, 0)).1)) (nx, (L0.getD i (bs [], false, 0)).2.1))
    else k0 nx m := fun {R} n k0 k1 => by
   conv => lhs; simp only [Z107_l0, Z107_l0_T0, Int.toNat_natCast]
   rw [hlt, br_true, hin, br_true]
   generalize L0.getD i (bs [], false, 0) = x at hp
   rw [← hp, Z52_eq' N (by omega), make_eq N (by omega) (pth x.1) x.2.1 nx ⟨hx.1, by omega⟩, hwi]
   have hpp : pth (bs (pth x.1)) = pth x.1 := by rw [hp]
   rw [hpp]
   cases nameB (pth x.1) with
   | false => rfl
   | true =>
    rw [Bool.not_true, br_false, if_neg (show ¬ (true = false) by decide)]
    by_cases h : makeC (pth x.1) x.2.1 m = 0
    ·rw [if_pos h, if_pos h]
     rfl
    ·rw [if_neg h, if_neg h]
     rw [br_of (by rw [decide_eq_false h]; rfl)]
  by_cases hn : nameB (pth (L0.getD i (bs [], false, 0)).1) = false
  ·refine .inl ⟨nx, m, fun {R} n hn' k0 k1 => ?_⟩
   obtain ⟨n, rfl⟩ : ∃ n', n = n' + 1 := ⟨n - 1, by omega⟩
   rw [stp, if_pos hn]
  by_cases hm : makeC (pth (L0.getD i (bs [], false, 0)).1) (L0.getD i (bs [], false, 0)).2.1 m = 0
  ·rcases ih (i + 1) (nx + 1) (tput m (keyL (pth (L0.getD i (bs [], false, 0)).1)) (nx, (L0.getD i (bs [], false, 0)).2.1)) (by omega) (by omega) (by omega) with ⟨a, b, h⟩ | ⟨a, b, hab, h⟩
   ·refine .inl ⟨a, b, fun {R} n hn' k0 k1 => ?_⟩
    obtain ⟨n, rfl⟩ : ∃ n', n = n' + 1 := ⟨n - 1, by omega⟩
    rw [stp, if_neg hn, if_pos hm]
    exact h n (by omega) k0 k1
   ·refine .inr ⟨a, b, hab, fun {R} n hn' k0 k1 => ?_⟩
    obtain ⟨n, rfl⟩ : ∃ n', n = n' + 1 := ⟨n - 1, by omega⟩
    rw [stp, if_neg hn, if_pos hm]
    exact h n (by omega) k0 k1
  ·refine .inl ⟨nx, m, fun {R} n hn' k0 k1 => ?_⟩
   obtain ⟨n, rfl⟩ : ∃ n', n = n' + 1 := ⟨n - 1, by omega⟩
   rw [stp, if_neg hn, if_neg hm]

theorem files_l0 (N : Nat) (L0 : List EN) (h8 : L0.length ≤ 8) (F : List Int) (nx : Int) (m : TM) (l : OL) : ∀ (e i : Nat) (dat : List (List Int)) (d : DM), L0.length - i = e → i ≤ L0.length → dat.length ≤ 1000000 → (∀ j : Int, (dgetV d j).length ≤ 8) →
  (∃ dat' d', ∀ {R : Type} (n : Nat), e < n → ∀ k0 k1, Z36_l0 (R := R) N k0 k1 n dat L0 (L0.length : Int) (i : Int) F nx m d l = k0 dat' F nx m d' l) ∨
  (∃ dat' d', (∀ j : Int, (dgetV d' j).length ≤ 8) ∧ ∀ {R : Type} (n : Nat), e < n → ∀ k0 k1, Z36_l0 (R := R) N k0 k1 n dat L0 (L0.length : Int) (i : Int) F nx m d l = k1 dat' F nx m d' l) := by
 intro e
 induction e with
 | zero =>
  intro i dat d he hi hdl hd
  refine .inr ⟨dat, d, hd, fun {R} n hn k0 k1 => ?_⟩
  obtain ⟨n, rfl⟩ : ∃ n', n = n' + 1 := ⟨n - 1, by omega⟩
  simp only [Z36_l0, Z36_l0_T0]
  rw [br_not (decide_eq_false (by omega))]
 | succ e ih =>
  intro i dat d he hi hdl hd
  have hin : inB (i : Int) L0.length = true := inB_of (by omega)
  have hlt : decide ((i : Int) < (L0.length : Int)) = true := decide_eq_true (by omega)
  have hwi := w64_succ (show i < 9223372036854775807 by omega)
  have hz : (Sh.zero (.isl (.int .u8))) = ([] : List Int) := rfl
  have stp : ∀ {R : Type} (n : Nat) k0 k1, Z36_l0 (R := R) N k0 k1 (n + 1) dat L0 (L0.length : Int) (i : Int) F nx m d l =
    if (L0.getD i (bs [], false, 0)).2.1 = true then Z36_l0 (R := R) N k0 k1 n dat L0 (L0.length : Int) ((i + 1 : Nat) : Int) F nx m d l
    else if dat.length = 0 then k0 dat F nx m d l else if 8 < (dat.getD 0 []).length then k0 dat F nx m d l
    else Z36_l0 (R := R) N k0 k1 n (sub dat 1 (dat.length - 1)) L0 (L0.length : Int) ((i + 1 : Nat) : Int) F nx m (mput (.int .i64) (.isl (.int .u8)) d (i : Int) (dat.getD 0 [])) l := fun {R} n k0 k1 => by
   conv => lhs; simp only [Z36_l0, Z36_l0_T0, Int.toNat_natCast, hz]
   rw [hlt, br_true, hin, br_true, hwi]
   cases (L0.getD i (bs [], false, 0)).2.1 with
   | true => rfl
   | false =>
    rw [br_false, if_neg (by decide), br_ndec]
    by_cases h0 : dat.length = 0
    ·rw [if_pos (by omega), if_pos h0]
    ·have hin0 : inB 0 dat.length = true := inB_of (by omega)
     rw [if_neg (by omega), if_neg h0, hin0, br_true, br_dec]
     by_cases h9 : 8 < (dat.getD 0 []).length
     ·rw [if_pos (by omega), if_pos h9]
     ·rw [if_neg (by omega), if_neg h9, br_true]
      unfold slices_Clone__byte_byte
      rw [br_of (by rw [decide_eq_true (by omega)]; rfl)]
      dsimp only
      rw [br_of (decide_eq_true trivial), br_of (fits_of (by omega)), br_of (leB_of (by omega)), sub_all]
  by_cases hdir : (L0.getD i (bs [], false, 0)).2.1 = true
  ·rcases ih (i + 1) dat d (by omega) (by omega) hdl hd with ⟨a, b, h⟩ | ⟨a, b, hab, h⟩
   ·refine .inl ⟨a, b, fun {R} n hn' k0 k1 => ?_⟩
    obtain ⟨n, rfl⟩ : ∃ n', n = n' + 1 := ⟨n - 1, by omega⟩
    rw [stp, if_pos hdir]
    exact h n (by omega) k0 k1
   ·refine .inr ⟨a, b, hab, fun {R} n hn' k0 k1 => ?_⟩
    obtain ⟨n, rfl⟩ : ∃ n', n = n' + 1 := ⟨n - 1, by omega⟩
    rw [stp, if_pos hdir]
    exact h n (by omega) k0 k1
  by_cases h0 : dat.length = 0
  ·refine .inl ⟨dat, d, fun {R} n hn' k0 k1 => ?_⟩
   obtain ⟨n, rfl⟩ : ∃ n', n = n' + 1 := ⟨n - 1, by omega⟩
   rw [stp, if_neg hdir, if_pos h0]
  by_cases h9 : 8 < (dat.getD 0 []).length
  ·refine .inl ⟨dat, d, fun {R} n hn' k0 k1 => ?_⟩
   obtain ⟨n, rfl⟩ : ∃ n', n = n' + 1 := ⟨n - 1, by omega⟩
   rw [stp, if_neg hdir, if_neg h0, if_pos h9]
  ·have hd2 : ∀ j : Int, (dgetV (mput (.int .i64) (.isl (.int .u8)) d (i : Int) (dat.getD 0 [])) j).length ≤ 8 := fun j => by
    by_cases e : (i : Int) = j
    ·rw [← e, dget_put]; omega
    ·rw [dget_ne d e]; exact hd j
   rcases ih (i + 1) (sub dat 1 (dat.length - 1)) _ (by omega) (by omega) (by rw [sub_nat, List.length_take, List.length_drop]; omega) hd2 with ⟨a, b, h⟩ | ⟨a, b, hab, h⟩
   ·refine .inl ⟨a, b, fun {R} n hn' k0 k1 => ?_⟩
    obtain ⟨n, rfl⟩ : ∃ n', n = n' + 1 := ⟨n - 1, by omega⟩
    rw [stp, if_neg hdir, if_neg h0, if_neg h9]
    exact h n (by omega) k0 k1
   ·refine .inr ⟨a, b, hab, fun {R} n hn' k0 k1 => ?_⟩
    obtain ⟨n, rfl⟩ : ∃ n', n = n' + 1 := ⟨n - 1, by omega⟩
    rw [stp, if_neg hdir, if_neg h0, if_neg h9]
    exact h n (by omega) k0 k1

theorem new_ex (N : Nat) (hN : 500 < N) (L0 : List EN) (dat : List (List Int)) (hdl : dat.length ≤ 1000000) :
  (∀ {R : Type} k0 k1 k2, Z36 (R := R) N L0 dat k0 k1 k2 = k0) ∨ (∀ {R : Type} k0 k1 k2, Z36 (R := R) N L0 dat k0 k1 k2 = k1) ∨
  ∃ nx m d, FV 0 [0, 0, 0, 0] nx d [] ∧ ∀ {R : Type} k0 k1 k2, Z36 (R := R) N L0 dat k0 k1 k2 = k2 [0, 0, 0, 0] nx m d [] := by
 by_cases h8 : L0.length ≤ 8
 ·rcases tree_l0 N hN L0 h8 L0.length 0 0 [] (by omega) (by omega) (by omega) with ⟨a, b, h⟩ | ⟨nx, m, hnx, h⟩
  ·refine .inl fun {R} k0 k1 k2 => ?_
   unfold Z36 Z36_T Z107 Z107_T
   rw [br_not (decide_eq_false (by omega))]
   exact h N (by omega) _ _
  ·have ht : ∀ {R : Type} k0 k1, Z107 (R := R) N L0 k0 k1 = k1 nx m := fun {R} k0 k1 => by
    unfold Z107 Z107_T
    rw [br_not (decide_eq_false (by omega))]
    exact h N (by omega) _ _
   rcases files_l0 N L0 h8 [0, 0, 0, 0] nx m [] L0.length 0 dat [] (by omega) (by omega) hdl (fun j => by show (0 : Nat) ≤ 8; omega) with ⟨a, b, g⟩ | ⟨dat', d, hd, g⟩
   ·refine .inr (.inl fun {R} k0 k1 k2 => ?_)
    unfold Z36 Z36_T
    rw [ht]
    exact g N (by omega) _ _
   ·have go : ∀ {R : Type} k0 k1 k2, Z36 (R := R) N L0 dat k0 k1 k2 = br (decide ((0 : Int) < (dat'.length : Int))) k1 (k2 [0, 0, 0, 0] nx m d []) := fun {R} k0 k1 k2 => by
     unfold Z36 Z36_T
     rw [ht]
     exact g N (by omega) _ _
    by_cases h0 : (0 : Int) < (dat'.length : Int)
    ·exact .inr (.inl fun {R} k0 k1 k2 => by rw [go, br_of (decide_eq_true h0)])
    ·refine .inr (.inr ⟨nx, m, d, ⟨rfl, fun k hk => ?_, by omega, Nat.le_refl _, fun j hj => absurd hj (by simp), hd⟩, fun {R} k0 k1 k2 => by rw [go, br_not (decide_eq_false h0)]⟩)
     have : k = 0 ∨ k = 1 ∨ k = 2 ∨ k = 3 := by omega
     rcases this with rfl | rfl | rfl | rfl <;> exact ⟨by decide, by decide⟩
 ·refine .inl fun {R} k0 k1 k2 => ?_
  unfold Z36 Z36_T Z107 Z107_T
  rw [br_of (decide_eq_true (by omega))]

/-! ### is an argument too long -/
theorem long_l0 (N : Nat) (ar : List (List Int)) (ha : ar.length ≤ 2) : ∀ (e i : Nat), ar.length - i = e → i ≤ ar.length →
  (∃ j : Int, 0 ≤ j ∧ ∀ {R : Type} (n : Nat), e < n → ∀ k0 k1, Z101_l0 (R := R) N k0 k1 n ar (ar.length : Int) (i : Int) = k0 j) ∨
  ((∀ j (h : j < ar.length), i ≤ j → ar[j].length ≤ 255) ∧ ∀ {R : Type} (n : Nat), e < n → ∀ k0 k1, Z101_l0 (R := R) N k0 k1 n ar (ar.length : Int) (i : Int) = k1) := by
 intro e
 induction e with
 | zero =>
  intro i he hi
  refine .inr ⟨fun j h hj => by omega, fun {R} n hn k0 k1 => ?_⟩
  obtain ⟨n, rfl⟩ : ∃ n', n = n' + 1 := ⟨n - 1, by omega⟩
  simp only [Z101_l0, Z101_l0_T0]
  rw [br_not (decide_eq_false (by omega))]
 | succ e ih =>
  intro i he hi
  have hin : inB (i : Int) ar.length = true := inB_of (by omega)
  have hlt : decide ((i : Int) < (ar.length : Int)) = true := decide_eq_true (by omega)
  have hwi := w64_succ (show i < 9223372036854775807 by omega)
  have hg : ar.getD i (Sh.zero (.isl (.int .u8))) = ar[i] := getD_lt (show i < ar.length by omega) _
  have stp : ∀ {R : Type} (n : Nat) k0 k1, Z101_l0 (R := R) N k0 k1 (n + 1) ar (ar.length : Int) (i : Int) =
    if 255 < ar[i].length then k0 (i : Int) else Z101_l0 (R := R) N k0 k1 n ar (ar.length : Int) ((i + 1 : Nat) : Int) := fun {R} n k0 k1 => by
   conv => lhs; simp only [Z101_l0, Z101_l0_T0, Int.toNat_natCast, hg, Z95, Z95_T]
   rw [hlt, br_true, hin, br_true, br_dec, hwi]
   by_cases h : 255 < ar[i].length
   ·rw [if_pos (by omega), if_pos h]
   ·rw [if_neg (by omega), if_neg h]
  by_cases h : 255 < ar[i].length
  ·refine .inl ⟨(i : Int), by omega, fun {R} n hn k0 k1 => ?_⟩
   obtain ⟨n, rfl⟩ : ∃ n', n = n' + 1 := ⟨n - 1, by omega⟩
   rw [stp, if_pos h]
  ·rcases ih (i + 1) (by omega) (by omega) with ⟨j, hj, g⟩ | ⟨g1, g⟩
   ·refine .inl ⟨j, hj, fun {R} n hn k0 k1 => ?_⟩
    obtain ⟨n, rfl⟩ : ∃ n', n = n' + 1 := ⟨n - 1, by omega⟩
    rw [stp, if_neg h]
    exact g n (by omega) k0 k1
   ·refine .inr ⟨fun j hj hij => ?_, fun {R} n hn k0 k1 => ?_⟩
    ·by_cases e : j = i
     ·subst e; omega
     ·exact g1 j hj (by omega)
    ·obtain ⟨n, rfl⟩ : ∃ n', n = n' + 1 := ⟨n - 1, by omega⟩
     rw [stp, if_neg h]
     exact g n (by omega) k0 k1

theorem long_ex (N : Nat) (hN : 500 < N) (ar : List (List Int)) (ha : ar.length ≤ 2) : (∀ {R : Type} k, Z99 (R := R) N ar k = k true) ∨ ((∀ b ∈ ar, b.length ≤ 255) ∧ ∀ {R : Type} k, Z99 (R := R) N ar k = k false) := by
 rcases long_l0 N ar ha ar.length 0 (by omega) (by omega) with ⟨j, hj, g⟩ | ⟨g1, g⟩
 ·refine .inl fun {R} k => ?_
  unfold Z99 Z99_T Z101 Z101_T
  refine (g N (by omega) _ _).trans ?_
  show k (decide (0 ≤ j)) = k true
  rw [decide_eq_true hj]
 ·refine .inr ⟨fun b hb => ?_, fun {R} k => ?_⟩
  ·obtain ⟨j, hj, rfl⟩ := List.getElem_of_mem hb
   exact g1 j hj (by omega)
  ·unfold Z99 Z99_T Z101 Z101_T
   exact g N (by omega) _ _

theorem fit_of {p : List Ins} {nm : List ByteArray} {i : Int} (r : RunIs p nm i 0) (ar : List (List Int)) (hal : ar.length ≤ 1000) (har : ∀ b ∈ ar, b.length ≤ 1000) : Fit p nm ar := by
 generalize he : (0 : Int) = e at r
 cases r with
 | size h => cases he
 | name => cases he
 | one i e h1 h2 h3 h4 h5 h6 h7 => exact absurd he.symm h7
 | ok M h0 h1 h2 W h3 F h4 =>
  refine ⟨W, h0, fun j hj => ?_, fun j h r => ?_, hal, har⟩
  ·have := h3 j hj
   unfold oneV at this
   by_cases hI : isI (opAt p j) (aAt p j) = true
   ·by_cases hn : namesI (opAt p j) (aAt p j) (nm.length : Int) = true
    ·exact ⟨hI, hn⟩
    ·simp [hI, hn] at this
   ·simp [hI] at this
  ·obtain ⟨a1, a2, a3⟩ := r.at W h0 F
   exact ⟨a1, a2, ((told p M j).well (h4 j a1) h (by omega) a3).1⟩
 | _ => cases he

/-! ### what a run comes to -/
def OKf (φ : Nat → Bool) (fl : List Bool) : Prop := fl.length ≤ 1000 ∧ ∀ x, x < 400 → fl.getD x false = φ x
def Outc (N : Nat) (p : List Ins) (nm : List ByteArray) (L0 : List EN) (fs ar : List (List Int)) (φ : Nat → Bool) : Prop :=
 (∃ e : Int, e ≠ 0 ∧ ∀ {R : Type} fl (fuel : Int) k0 k1 k2 k3 k4, OKf φ fl → Z59 (R := R) N p nm L0 fs ar fl fuel k0 k1 k2 k3 k4 = k0 e) ∨
 (∀ {R : Type} fl (fuel : Int) k0 k1 k2 k3 k4, OKf φ fl → Z59 (R := R) N p nm L0 fs ar fl fuel k0 k1 k2 k3 k4 = k1) ∨
 (∀ {R : Type} fl (fuel : Int) k0 k1 k2 k3 k4, OKf φ fl → Z59 (R := R) N p nm L0 fs ar fl fuel k0 k1 k2 k3 k4 = k2) ∨
 ∃ T, Cut 0 [] 400 T ∧ (∀ {R : Type} fl (fuel : Int) k0 k1 k2 k3 k4, OKf φ fl → (fuel < 0 ∨ 400 < fuel) → Z59 (R := R) N p nm L0 fs ar fl fuel k0 k1 k2 k3 k4 = k3) ∧
  ∀ q : Nat, q ≤ 400 → ∃ at2 lo2 me2 sk2 f2 nx2 m2 d2 l2 j2, ∀ {R : Type} fl k0 k1 k2 k3 k4, OKf φ fl → Z59 (R := R) N p nm L0 fs ar fl (q : Int) k0 k1 k2 k3 k4 = k4 p nm at2 lo2 me2 ar (T q).1 (T q).2.1 ((T q).2.2.2 : Int) sk2 f2 nx2 m2 d2 l2 ((min j2 fl.length : Nat) : Int) fl (T q).2.2.1

theorem outc (N : Nat) (hN : 2000 < N) (p : List Ins) (nm : List ByteArray) (L0 : List EN) (fs ar : List (List Int)) (hfs : fs.length ≤ 1000000) (φ : Nat → Bool) : Outc N p nm L0 fs ar φ := by
 obtain ⟨i, e, hr, hck⟩ := Run_ex N hN p nm
 by_cases he : e ≠ 0
 ·refine .inl ⟨e, he, fun {R} fl fuel k0 k1 k2 k3 k4 hfl => ?_⟩
  unfold Z59 Z59_T Z94 Z94_T
  have hb : (!decide (e = 0)) = true := by rw [decide_eq_false he]; rfl
  rw [hck, br_of hb]
  dsimp only
  rw [br_of hb]
 obtain rfl : e = 0 := Decidable.byContradiction he
 rcases new_ex N (by omega) L0 fs hfs with h | h | ⟨nx, m, d, S, h⟩
 ·refine .inr (.inl fun {R} fl fuel k0 k1 k2 k3 k4 hfl => ?_)
  unfold Z59 Z59_T Z94 Z94_T
  rw [hck, br_not (by rfl), h]
 ·refine .inr (.inr (.inl fun {R} fl fuel k0 k1 k2 k3 k4 hfl => ?_))
  unfold Z59 Z59_T Z94 Z94_T
  rw [hck, br_not (by rfl), h]
 by_cases ha : ¬ ar.length ≤ 2
 ·refine .inr (.inr (.inl fun {R} fl fuel k0 k1 k2 k3 k4 hfl => ?_))
  unfold Z59 Z59_T Z94 Z94_T
  rw [hck, br_not (by rfl), h, br_not (by rw [decide_eq_true (by omega)]; rfl)]
 have ha : ar.length ≤ 2 := by omega
 rcases long_ex N (by omega) ar ha with hl | ⟨hal, hl⟩
 ·refine .inr (.inr (.inl fun {R} fl fuel k0 k1 k2 k3 k4 hfl => ?_))
  unfold Z59 Z59_T Z94 Z94_T
  rw [hck, br_not (by rfl), h, br_of (by rw [decide_eq_false (by omega)]; rfl), hl, br_true]
 have W := fit_of hr ar (by omega) (fun b hb => by have := hal b hb; omega)
 obtain ⟨T, C, hT⟩ := loop_ex N (by omega) W φ 400 0 0 0 0 (List.replicate 8 0) (List.replicate 32 0) [] [0, 0, 0, 0] nx m d [] [] RR.start rfl rfl (fun x hx => by rw [List.eq_of_mem_replicate hx]; exact ⟨by omega, by omega⟩) rfl (fun x hx => by cases hx) S (by simp) (by omega) (by omega)
 refine .inr (.inr (.inr ⟨T, C, fun {R} fl fuel k0 k1 k2 k3 k4 hfl hf => ?_, fun q hq => ?_⟩))
 ·unfold Z59 Z59_T Z94 Z94_T
  rw [hck, br_not (by rfl), h, br_of (by rw [decide_eq_false (by omega)]; rfl), hl, br_false]
  by_cases h0 : fuel < 0
  ·rw [br_not (by rw [decide_eq_true h0]; rfl)]
  ·rw [br_of (by rw [decide_eq_false h0]; rfl), br_of (decide_eq_true (by omega))]
 ·obtain ⟨at2, lo2, me2, sk2, f2, nx2, m2, d2, l2, j2, hrun⟩ := hT q hq
  refine ⟨at2, lo2, me2, sk2, f2, nx2, m2, d2, l2, j2, fun {R} fl k0 k1 k2 k3 k4 hfl => ?_⟩
  have d1 : listDec (Sh.dec (.pair (.int .i64) (.int .i64))) p p = true := listDec_dec (.pair (.int .i64) (.int .i64)) p
  have d2 : listDec (Sh.dec .str) nm nm = true := listDec_dec .str nm
  have d3 : listDec (Sh.dec (.isl (.int .u8))) ar ar = true := listDec_dec (.isl (.int .u8)) ar
  have h1 := hfl.1
  unfold Z59 Z59_T Z94 Z94_T Z16 Z16_T slices_Clone__bool_bool
  rw [hck, br_not (by rfl), h, br_of (by rw [decide_eq_false (by omega)]; rfl), hl, br_false, br_of (by rw [decide_eq_false (by omega)]; rfl), br_not (decide_eq_false (by omega)), br_of (by rw [decide_eq_true (by omega)]; rfl)]
  dsimp only
  rw [br_of d1, br_of d2, br_of d3]
  have := hrun (R := R) fl hfl.1 hfl.2 N (by omega) k4
  rw [Nat.zero_add, Nat.zero_min] at this
  exact this

end Go.Proofs.YtbclodhbcplhmaaGreat
