/-
 files of terms are made, and the reference's (chapter 19).
-/
import Derived.Test.YtdopealphpmaeaaPGhostN2
set_option linter.unusedSimpArgs false
set_option linter.unusedVariables false
set_option linter.unusedSectionVars false
namespace Go.Proofs.Ytdopealphpmaeaa
open Go.Gx

theorem makeR_pos {p : List UInt8} {dir : Bool} {T : List EN} (h8 : T.length < 8) : makeR p dir T = 0 ↔ nameB p = true ∧ lk (bs p) T = none ∧ ((splitL p).1 = [] ∨ (dir = false ∧ aboveR (splitL p).1 T = 0)) := by
 have h8' : ¬ 8 ≤ T.length := by omega
 unfold makeR
 cases hn : nameB p with
 | false => simp
 | true =>
  rw [if_neg (by decide), if_neg h8']
  by_cases hs : (splitL p).1 = []
  ·have ha : aboveR (splitL p).1 T = 0 := by unfold aboveR; rw [if_pos hs]
   rw [ha]
   cases hk : lk (bs p) T <;> simp [hs]
  ·by_cases ha : aboveR (splitL p).1 T = 0
   ·rw [ha]
    cases hk : lk (bs p) T <;> cases dir <;> simp [hs]
   ·cases hk : lk (bs p) T <;> simp [hs, ha]

/-- a tree is made on both sides, or on none -/
theorem newtree (N : Nat) (hN : 1000 < N) (L0 : List EN) (h8 : L0.length ≤ 8) : ∀ (e i : Nat) (T : List EN) (m : TM), L0.length - i = e → i ≤ L0.length → T.length = i → Rel m T → (∀ x ∈ T, 0 ≤ x.2.2 ∧ x.2.2 < (i : Int)) →
  ((∀ {R : Type} (n : Nat) (K0 : Option R) k1, e < n → Z108_l0 N (fun _ _ => K0) k1 n L0 (L0.length : Int) (i : Int) (i : Int) m = K0) ∧ (∀ {R : Type} (n : Nat) (nx : Int) (K0 : Option R) k1, e < n → Z86_l0 N (fun _ _ _ => K0) k1 n L0 (i : Int) nx T = K0)) ∨
  ∃ m' T', Rel m' T' ∧ T'.length = L0.length ∧ (∀ x ∈ T', 0 ≤ x.2.2 ∧ x.2.2 < (L0.length : Int)) ∧ (∀ {R : Type} (n : Nat) (K0 : Option R) k1, e < n → Z108_l0 N (fun _ _ => K0) k1 n L0 (L0.length : Int) (i : Int) (i : Int) m = k1 (L0.length : Int) m') ∧
   (∀ {R : Type} (n : Nat) (nx : Int) (K0 : Option R) k1, e < n → ∃ nx', Z86_l0 N (fun _ _ _ => K0) k1 n L0 (i : Int) nx T = k1 L0 nx' T') := by
 intro e
 induction e with
 | zero =>
  intro i T m he hi hT r hid
  obtain rfl : i = L0.length := by omega
  refine .inr ⟨m, T, r, hT, hid, fun n K0 k1 hn => ?_, fun n nx K0 k1 hn => ⟨nx, ?_⟩⟩
  ·obtain ⟨n, rfl⟩ : ∃ n', n = n' + 1 := ⟨n - 1, by omega⟩
   simp only [Z108_l0, Z108_l0_T0]
   rw [br_not (decide_eq_false (by omega))]
  ·obtain ⟨n, rfl⟩ : ∃ n', n = n' + 1 := ⟨n - 1, by omega⟩
   simp only [Z86_l0, Z86_l0_T0]
   rw [br_not (decide_eq_false (by omega))]
 | succ e ih =>
  intro i T m he hi hT r hid
  have hlt : i < L0.length := by omega
  have hg0 : L0.getD i (bs [], false, 0) = L0[i] := by simp [List.getD, hlt]
  obtain ⟨p, dir, v, hx⟩ : ∃ p d v, L0[i] = (bs p, d, v) := ⟨pth L0[i].1, L0[i].2.1, L0[i].2.2, by rw [bs_pth]⟩
  rw [hx] at hg0
  have hin : inB (i : Int) L0.length = true := inB_of (by omega)
  have hT8 : T.length < 8 := by omega
  -- the program
  have hp : ∀ {R : Type} (n : Nat) (K0 : Option R) k1, Z108_l0 N (fun _ _ => K0) k1 (n + 1) L0 (L0.length : Int) (i : Int) (i : Int) m = if makeR p dir T = 0 then Z108_l0 N (fun _ _ => K0) k1 n L0 (L0.length : Int) ((i + 1 : Nat) : Int) ((i + 1 : Nat) : Int) (tput m (keyL p) ((i : Int), dir)) else K0 := fun {R} n K0 k1 => by
   simp only [Z108_l0, Z108_l0_T0, Int.toNat_natCast, hg0, hin, br_true]
   rw [br_of (decide_eq_true (by omega)), Z44_eq' N (by omega), br_neg]
   cases hnm : nameB p with
   | false =>
    have : makeR p dir T = 65282 := by unfold makeR; rw [hnm]; rfl
    rw [this]
    rfl
   | true =>
    rw [br_true, make_eq N (by omega) p dir (i : Int) (by omega), r.makeC p dir]
    by_cases hz : makeR p dir T = 0
    ·rw [if_pos hz, if_pos hz, br_not (by decide), w64_succ (by omega)]
     rfl
    ·rw [if_neg hz, if_neg hz, br_ndec, if_neg hz]
  -- the reference
  have hr : ∀ {R : Type} (n : Nat) (nx : Int) (K0 : Option R) k1, Z86_l0 N (fun _ _ _ => K0) k1 (n + 1) L0 (i : Int) nx T = if makeR p dir T = 0 then Z86_l0 N (fun _ _ _ => K0) k1 n L0 ((i + 1 : Nat) : Int) nx (T ++ [(bs p, dir, (i : Int))]) else K0 := fun {R} n nx K0 k1 => by
   simp only [Z86_l0, Z86_l0_T0, Int.toNat_natCast, hg0, hin, br_true]
   rw [br_of (decide_eq_true (by omega)), NameMay_eq N (by omega), Bool.not_not]
   have hmp := makeR_pos (p := p) (dir := dir) hT8
   cases hnm : nameB p with
   | false =>
    have : ¬ makeR p dir T = 0 := fun h => by have := (hmp.1 h).1; rw [hnm] at this; cases this
    rw [if_neg this]
    rfl
   | true =>
    rw [br_true, at_eq N _ _ nx T (by omega) (by omega)]
    cases hk : lk (bs p) T with
    | some x =>
     obtain ⟨A, B, _, ha, _, _⟩ := at_some hk
     have : ¬ makeR p dir T = 0 := fun h => by have := (hmp.1 h).2.1; rw [hk] at this; cases this
     rw [ha, br_of (decide_eq_true (by omega)), if_neg this]
    | none =>
     rw [at_none hk, br_not (by decide), refSplit_eq N (by omega), br_ndec]
     have h32 := appE (l := T) (by omega)
     simp only [bs_inj, h32, br_true, sub_all, w64_succ (show i < 9223372036854775807 by omega)]
     by_cases hs : (splitL p).1 = []
     ·rw [if_pos hs, if_pos (hmp.2 ⟨hnm, hk, .inl hs⟩)]
     ·rw [if_neg hs]
      cases dir with
      | true =>
       have : ¬ makeR p true T = 0 := fun h => by
        rcases (hmp.1 h).2.2 with h | h
        ·exact hs h
        ·cases h.1
       rw [if_neg this]
       rfl
      | false =>
       rw [Bool.not_false, br_true, at_eq N _ _ nx T (by omega) (by omega)]
       cases hk2 : lk (bs (splitL p).1) T with
       | none =>
        have : ¬ makeR p false T = 0 := fun h => by
         rcases (hmp.1 h).2.2 with h | h
         ·exact hs h
         ·have := h.2; unfold aboveR at this; rw [if_neg hs, hk2] at this; cases this
        rw [at_none hk2, if_neg this]
        rfl
       | some y =>
        obtain ⟨A, B, hAB, ha, _, _⟩ := at_some hk2
        have hin2 : inB (A.length : Int) T.length = true := by rw [hAB]; exact mid_in
        have hlt2 : decide (A.length < T.length) = true := decide_eq_true (by rw [hAB]; exact mid_lt)
        have hgt : T.getD A.length (bs [], false, 0) = y := by rw [hAB]; exact mid_get _
        rw [ha, br_of (by rw [decide_eq_false (by omega)]; rfl), at_eq N _ _ nx T (by omega) (by omega), ha]
        simp only [Int.toNat_natCast, hin2, hlt2, hgt, br_true, h32, sub_all]
        obtain ⟨yp, yd, yi⟩ := y
        cases yd with
        | true =>
         have hab : aboveR (splitL p).1 T = 0 := by unfold aboveR; rw [if_neg hs, hk2]; rfl
         rw [if_pos (hmp.2 ⟨hnm, hk, .inr ⟨rfl, hab⟩⟩)]
         rfl
        | false =>
         have : ¬ makeR p false T = 0 := fun h => by
          rcases (hmp.1 h).2.2 with h | h
          ·exact hs h
          ·have := h.2; unfold aboveR at this; rw [if_neg hs, hk2] at this; cases this
         rw [if_neg this]
         rfl
  by_cases hz : makeR p dir T = 0
  ·have hid' : ∀ x ∈ T ++ [(bs p, dir, (i : Int))], 0 ≤ x.2.2 ∧ x.2.2 < ((i + 1 : Nat) : Int) := fun x hx => by
    rcases List.mem_append.1 hx with hx | hx
    ·have := hid x hx; omega
    ·rw [List.mem_singleton] at hx
     subst hx
     exact ⟨by simp only []; omega, by simp only []; omega⟩
   rcases ih (i + 1) (T ++ [(bs p, dir, (i : Int))]) (tput m (keyL p) ((i : Int), dir)) (by omega) (by omega) (by simp [hT]) (r.make hz _) hid' with ⟨q1, q2⟩ | ⟨m', T', q1, q2, q3, q4, q5⟩
   ·refine .inl ⟨fun n K0 k1 hn => ?_, fun n nx K0 k1 hn => ?_⟩
    ·obtain ⟨n, rfl⟩ : ∃ n', n = n' + 1 := ⟨n - 1, by omega⟩
     rw [hp, if_pos hz, q1 n K0 k1 (by omega)]
    ·obtain ⟨n, rfl⟩ : ∃ n', n = n' + 1 := ⟨n - 1, by omega⟩
     rw [hr, if_pos hz, q2 n nx K0 k1 (by omega)]
   ·refine .inr ⟨m', T', q1, q2, q3, fun n K0 k1 hn => ?_, fun n nx K0 k1 hn => ?_⟩
    ·obtain ⟨n, rfl⟩ : ∃ n', n = n' + 1 := ⟨n - 1, by omega⟩
     rw [hp, if_pos hz, q4 n K0 k1 (by omega)]
    ·obtain ⟨n, rfl⟩ : ∃ n', n = n' + 1 := ⟨n - 1, by omega⟩
     obtain ⟨nx', hq⟩ := q5 n nx K0 k1 (by omega)
     exact ⟨nx', by rw [hr, if_pos hz, hq]⟩
  ·refine .inl ⟨fun n K0 k1 hn => ?_, fun n nx K0 k1 hn => ?_⟩
   ·obtain ⟨n, rfl⟩ : ∃ n', n = n' + 1 := ⟨n - 1, by omega⟩
    rw [hp, if_neg hz]
   ·obtain ⟨n, rfl⟩ : ∃ n', n = n' + 1 := ⟨n - 1, by omega⟩
    rw [hr, if_neg hz]

/-- where the making stands -/
def gst (L0 : List EN) (rows : List (List Int)) (f : List Int) (z nx : Int) (m : TM) (o : OL) (k i : Nat) (d : DM) : Z29_S0 :=
 if k = 0 then .v0 L0 (L0.length : Int) (i : Int) rows f z nx m d o else .v1 k (rows.length - k) L0 (L0.length : Int) (i : Int) rows f z nx m d o

section
variable {R : Type} (N : Nat) (L0 : List EN) (rows : List (List Int)) (f : List Int) (z nx : Int) (m : TM) (o : OL) (K0 : Option R) (k1 : List (List Int) → List Int → Int → Int → TM → DM → OL → Option R) (k3 : Nat → Nat → List (List Int) → List Int → Int → Int → TM → DM → OL → Option R)
theorem gnew_end (n k : Nat) (d : DM) (h8 : L0.length ≤ 8) : Z29_l0 N (fun _ _ _ _ _ _ _ => K0) k1 (fun _ _ _ _ _ _ _ _ _ => K0) k3 (n + 1) (gst L0 rows f z nx m o k L0.length d) = if k = 0 then k1 rows f z nx m d o else k3 k (rows.length - k) rows f z nx m d o := by
 unfold gst
 by_cases h : k = 0
 ·rw [if_pos h, if_pos h]
  simp only [Z29_l0, Z29_l0_T0]
  rw [br_not (decide_eq_false (by omega))]
 ·rw [if_neg h, if_neg h]
  simp only [Z29_l0, Z29_l0_T1]
  rw [br_not (decide_eq_false (by omega))]

theorem gnew_step (n k i : Nat) (d : DM) (h8 : L0.length ≤ 8) (hi : i < L0.length) (hrl : rows.length ≤ 1000000) (hk : k ≤ rows.length) :
  Z29_l0 N (fun _ _ _ _ _ _ _ => K0) k1 (fun _ _ _ _ _ _ _ _ _ => K0) k3 (n + 1) (gst L0 rows f z nx m o k i d) =
   if (L0.getD i (bs [], false, 0)).2.1 = true then Z29_l0 N (fun _ _ _ _ _ _ _ => K0) k1 (fun _ _ _ _ _ _ _ _ _ => K0) k3 n (gst L0 rows f z nx m o k (i + 1) d)
   else if rows.length ≤ k then K0 else if 8 < (rows.getD k []).length then K0 else Z29_l0 N (fun _ _ _ _ _ _ _ => K0) k1 (fun _ _ _ _ _ _ _ _ _ => K0) k3 n (gst L0 rows f z nx m o (k + 1) (i + 1) (mput (.int .i64) (.isl (.int .i64)) d (i : Int) (rows.getD k []))) := by
 have hin : inB (i : Int) L0.length = true := inB_of (by omega)
 have hzz : (Sh.zero (.isl (.int .i64))) = ([] : List Int) := rfl
 have hwi := w64_succ (show i < 9223372036854775807 by omega)
 have hlt : decide ((i : Int) < (L0.length : Int)) = true := decide_eq_true (by omega)
 by_cases h0 : k = 0
 ·subst h0
  have g1 : gst L0 rows f z nx m o 0 i d = .v0 L0 (L0.length : Int) (i : Int) rows f z nx m d o := by unfold gst; rw [if_pos rfl]
  have g2 : gst L0 rows f z nx m o 0 (i + 1) d = .v0 L0 (L0.length : Int) ((i + 1 : Nat) : Int) rows f z nx m d o := by unfold gst; rw [if_pos rfl]
  have g3 : ∀ d', gst L0 rows f z nx m o (0 + 1) (i + 1) d' = .v1 1 (rows.length - 1) L0 (L0.length : Int) ((i + 1 : Nat) : Int) rows f z nx m d' o := fun d' => by unfold gst; rw [if_neg (by omega)]
  rw [g1, g2, g3]
  conv => lhs; unfold Z29_l0 Z29_l0_T0
  simp only [Int.toNat_natCast, hin, hlt, br_true, hwi, hzz, decide_true]
  cases (L0.getD i (bs [], false, 0)).2.1 with
  | true => rfl
  | false =>
   rw [br_false, if_neg (by decide), br_ndec]
   by_cases hc : rows.length ≤ 0
   ·rw [if_pos (by omega), if_pos hc]
   ·have hin0 : inB 0 rows.length = true := inB_of (by omega)
    have hd0 : decide (0 < rows.length) = true := decide_eq_true (by omega)
    rw [if_neg (by omega), if_neg hc]
    simp only [hin0, hd0, br_true]
    rw [br_dec]
    by_cases h9 : 8 < (rows.getD 0 []).length
    ·rw [if_pos (by omega), if_pos h9]
    ·rw [if_neg (by omega), if_neg h9]
     unfold slices_Clone__term_T_term_T
     rw [br_of (by rw [decide_eq_true (by omega)]; rfl)]
     dsimp only
     rw [br_of (fits_of (by omega)), br_of (leB_of (by omega)), sub_all]
 ·have g1 : ∀ i d, gst L0 rows f z nx m o k i d = .v1 k (rows.length - k) L0 (L0.length : Int) (i : Int) rows f z nx m d o := fun i d => by unfold gst; rw [if_neg h0]
  have g3 : ∀ d', gst L0 rows f z nx m o (k + 1) (i + 1) d' = .v1 (k + 1) (rows.length - (k + 1)) L0 (L0.length : Int) ((i + 1 : Nat) : Int) rows f z nx m d' o := fun d' => by unfold gst; rw [if_neg (by omega)]
  have e0 : Int.toNat (addLo k 0) = k := by
   unfold addLo
   split <;> omega
  have e1 : addN k 1 = k + 1 := by cases k <;> simp [addN]
  rw [g1, g1, g3]
  conv => lhs; unfold Z29_l0 Z29_l0_T1
  simp only [Int.toNat_natCast, hin, hlt, br_true, hwi, hzz, decide_true, e0, e1]
  cases (L0.getD i (bs [], false, 0)).2.1 with
  | true => rfl
  | false =>
   rw [br_false, if_neg (by decide), br_ndec]
   by_cases hc : rows.length ≤ k
   ·rw [if_pos (by omega), if_pos hc]
   ·have hin0 : inB 0 (rows.length - k) = true := inB_of (by omega)
    have hd0 : decide (k < rows.length) = true := decide_eq_true (by omega)
    rw [if_neg (by omega), if_neg hc]
    simp only [hin0, hd0, br_true]
    rw [br_dec]
    by_cases h9 : 8 < (rows.getD k []).length
    ·rw [if_pos (by omega), if_pos h9]
    ·rw [if_neg (by omega), if_neg h9]
     unfold slices_Clone__term_T_term_T
     rw [br_of (by rw [decide_eq_true (by omega)]; rfl)]
     dsimp only
     rw [br_of (fits_of (by omega)), br_of (leB_of (by omega)), sub_all, show rows.length - k - 1 = rows.length - (k + 1) by omega]
end

/-- the bytes are taken on both sides, or on none -/
theorem newfiles (N : Nat) (hN : 1000 < N) (L0 : List EN) (h8 : L0.length ≤ 8) (A : List Nd) (rows : List (List Int)) (hrows : ∀ r ∈ rows, rowK A r) (hdat : rows.length ≤ 1000000) (F : List Int) (z nx : Int) (m : TM) (o : OL) (G : List Int) (nr : Int) (T : List EN) (q : List Int) :
  ∀ (e i k : Nat) (d : DM) (D : List (List Int)), L0.length - i = e → i ≤ L0.length → k ≤ rows.length → k ≤ i → D.length = i → RowsK A d → (∀ j : Nat, j < i → dgetV (dmap A d) j = D.getD j [] ∧ (D.getD j []).length ≤ 8) → (∀ j : Int, (i : Int) ≤ j → dgetV (dmap A d) j = []) →
  ((∀ {R : Type} (n : Nat) (K0 : Option R) k1 k3, e < n → Z29_l0 N (fun _ _ _ _ _ _ _ => K0) k1 (fun _ _ _ _ _ _ _ _ _ => K0) k3 n (gst L0 rows F z nx m o k i d) = K0) ∧ (∀ {R : Type} (n : Nat) (K0 : Option R) k1, e < n → Z85_l0 N (fun _ _ _ _ _ _ _ => K0) k1 n L0 (rows.map (·.map (bt A))) (k : Int) (i : Int) G nr T D q = K0)) ∨
  ∃ k' d' D', k' ≤ rows.length ∧ D'.length = L0.length ∧ RowsK A d' ∧ (∀ j : Nat, j < L0.length → dgetV (dmap A d') j = D'.getD j [] ∧ (D'.getD j []).length ≤ 8) ∧ (∀ j : Int, (L0.length : Int) ≤ j → dgetV (dmap A d') j = []) ∧
   (∀ {R : Type} (n : Nat) (K0 : Option R) k1 k3, e < n → Z29_l0 N (fun _ _ _ _ _ _ _ => K0) k1 (fun _ _ _ _ _ _ _ _ _ => K0) k3 n (gst L0 rows F z nx m o k i d) = if k' = 0 then k1 rows F z nx m d' o else k3 k' (rows.length - k') rows F z nx m d' o) ∧
   (∀ {R : Type} (n : Nat) (K0 : Option R) k1, e < n → Z85_l0 N (fun _ _ _ _ _ _ _ => K0) k1 n L0 (rows.map (·.map (bt A))) (k : Int) (i : Int) G nr T D q = k1 (rows.map (·.map (bt A))) (k' : Int) G nr T D' q) := by
 intro e
 have hml : (rows.map (·.map (bt A))).length = rows.length := List.length_map _
 have hmg : ∀ k : Nat, (rows.map (·.map (bt A))).getD k [] = (rows.getD k []).map (bt A) := fun k => by
  rw [List.getD_eq_getElem?_getD, List.getD_eq_getElem?_getD, List.getElem?_map]
  cases rows[k]? <;> rfl
 generalize hdt : rows.map (·.map (bt A)) = dat at hml hmg
 induction e with
 | zero =>
  intro i k d D he hi hk hki hD hRd hd hd2
  obtain rfl : i = L0.length := by omega
  refine .inr ⟨k, d, D, hk, hD, hRd, hd, hd2, fun n K0 k1 k3 hn => ?_, fun n K0 k1 hn => ?_⟩
  ·obtain ⟨n, rfl⟩ : ∃ n', n = n' + 1 := ⟨n - 1, by omega⟩
   exact gnew_end N L0 rows F z nx m o K0 k1 k3 n k d h8
  ·obtain ⟨n, rfl⟩ : ∃ n', n = n' + 1 := ⟨n - 1, by omega⟩
   simp only [Z85_l0, Z85_l0_T0]
   rw [br_not (decide_eq_false (by omega))]
 | succ e ih =>
  intro i k d D he hi hk hki hD hRd hd hd2
  have hlt : i < L0.length := by omega
  have hin : inB (i : Int) L0.length = true := inB_of (by omega)
  have hz : (Sh.zero (.isl (.int .u8))) = ([] : List Int) := rfl
  have hwi := w64_succ (show i < 9223372036854775807 by omega)
  have hwk := w64_succ (show k < 9223372036854775807 by omega)
  have h24 := app24 (l := D) (by omega)
  have hap : ∀ v : List Int, (D ++ [([] : List Int)]).set i v = D ++ [v] := fun v => by rw [← hD]; simp
  have hgap : ∀ (v : List Int) (j : Nat), j < i → (D ++ [v]).getD j [] = D.getD j [] := fun v j hj => by
   rw [List.getD_eq_getElem?_getD, List.getElem?_append_left (by omega), ← List.getD_eq_getElem?_getD]
  have hgat : ∀ v : List Int, (D ++ [v]).getD i [] = v := fun v => by
   rw [List.getD_eq_getElem?_getD, List.getElem?_append_right (by omega), hD, Nat.sub_self]; rfl
  have hp : ∀ {R : Type} (n : Nat) (K0 : Option R) k1 k3, _ := fun {R} n K0 k1 k3 => gnew_step (R := R) N L0 rows F z nx m o K0 k1 k3 n k i d h8 hlt hdat hk
  have hr : ∀ {R : Type} (n : Nat) (K0 : Option R) k1, Z85_l0 N (fun _ _ _ _ _ _ _ => K0) k1 (n + 1) L0 dat (k : Int) (i : Int) G nr T D q =
    if (L0.getD i (bs [], false, 0)).2.1 = true then Z85_l0 N (fun _ _ _ _ _ _ _ => K0) k1 n L0 dat (k : Int) ((i + 1 : Nat) : Int) G nr T (D ++ [[]]) q
    else if dat.length ≤ k then K0 else if 8 < (dat.getD k []).length then K0 else Z85_l0 N (fun _ _ _ _ _ _ _ => K0) k1 n L0 dat ((k + 1 : Nat) : Int) ((i + 1 : Nat) : Int) G nr T (D ++ [dat.getD k []]) q := fun {R} n K0 k1 => by
   simp only [Z85_l0, Z85_l0_T0, Int.toNat_natCast, hin, br_true, hwi, hwk, hz, h24, sub_all, hap]
   rw [br_of (decide_eq_true (by omega))]
   cases (L0.getD i (bs [], false, 0)).2.1 with
   | true => rfl
   | false =>
    rw [br_false, if_neg (by decide), br_ndec]
    by_cases hc : dat.length ≤ k
    ·rw [if_pos (by omega), if_pos hc]
    ·rw [if_neg (by omega), if_neg hc, br_of (inB_of (by omega)), br_dec]
     by_cases h9 : 8 < (dat.getD k []).length
     ·rw [if_pos (by omega), if_pos h9]
     ·rw [if_neg (by omega), if_neg h9, br_of (inB_of (by omega)), br_of (inB_of (by omega)), br_of (decide_eq_true (by omega))]
  have step : ∀ (d' : DM) (v : List Int) (k2 : Nat), v.length ≤ 8 → k2 ≤ rows.length → k2 ≤ i + 1 → RowsK A d' → dgetV (dmap A d') i = v → (∀ j : Int, j ≠ i → dgetV (dmap A d') j = dgetV (dmap A d) j) → _ := fun d' v k2 hv h2 h3 hRd' hdi hdj =>
   ih (i + 1) k2 d' (D ++ [v]) (by omega) (by omega) h2 h3 (by simp [hD]) hRd' (fun j hj => by
    by_cases e : j = i
    ·subst e; rw [hdi, hgat]; exact ⟨rfl, hv⟩
    ·rw [hdj _ (by omega), hgap v j (by omega)]; exact hd j (by omega)) (fun j hj => by rw [hdj j (by omega)]; exact hd2 j (by omega))
  have hkr : rowK A (rows.getD k []) := by
   rw [List.getD_eq_getElem?_getD]
   cases hx : rows[k]? with
   | none => exact fun t ht => (by cases ht)
   | some r => exact hrows r (List.mem_of_getElem? hx)
  have hkl : (dat.getD k []).length = (rows.getD k []).length := by rw [hmg, List.length_map]
  cases hdir : (L0.getD i (bs [], false, 0)).2.1 with
  | true =>
   rcases step d [] k (by simp) hk (by omega) hRd (hd2 i (by omega)) (fun _ _ => rfl) with ⟨a1, a2⟩ | ⟨k', d', D', a1, a2, a2', a3, a4, a5, a6⟩
   ·refine .inl ⟨fun n K0 k1 k3 hn => ?_, fun n K0 k1 hn => ?_⟩
    ·obtain ⟨n, rfl⟩ : ∃ n', n = n' + 1 := ⟨n - 1, by omega⟩
     rw [hp, hdir, if_pos rfl, a1 n K0 k1 k3 (by omega)]
    ·obtain ⟨n, rfl⟩ : ∃ n', n = n' + 1 := ⟨n - 1, by omega⟩
     rw [hr, hdir, if_pos rfl, a2 n K0 k1 (by omega)]
   ·refine .inr ⟨k', d', D', a1, a2, a2', a3, a4, fun n K0 k1 k3 hn => ?_, fun n K0 k1 hn => ?_⟩
    ·obtain ⟨n, rfl⟩ : ∃ n', n = n' + 1 := ⟨n - 1, by omega⟩
     rw [hp, hdir, if_pos rfl, a5 n K0 k1 k3 (by omega)]
    ·obtain ⟨n, rfl⟩ : ∃ n', n = n' + 1 := ⟨n - 1, by omega⟩
     rw [hr, hdir, if_pos rfl, a6 n K0 k1 (by omega)]
  | false =>
   by_cases hc : rows.length ≤ k
   ·refine .inl ⟨fun n K0 k1 k3 hn => ?_, fun n K0 k1 hn => ?_⟩
    ·obtain ⟨n, rfl⟩ : ∃ n', n = n' + 1 := ⟨n - 1, by omega⟩
     rw [hp, hdir, if_neg (by decide), if_pos hc]
    ·obtain ⟨n, rfl⟩ : ∃ n', n = n' + 1 := ⟨n - 1, by omega⟩
     rw [hr, hdir, if_neg (by decide), if_pos (by omega)]
   ·by_cases h9 : 8 < (rows.getD k []).length
    ·refine .inl ⟨fun n K0 k1 k3 hn => ?_, fun n K0 k1 hn => ?_⟩
     ·obtain ⟨n, rfl⟩ : ∃ n', n = n' + 1 := ⟨n - 1, by omega⟩
      rw [hp, hdir, if_neg (by decide), if_neg hc, if_pos h9]
     ·obtain ⟨n, rfl⟩ : ∃ n', n = n' + 1 := ⟨n - 1, by omega⟩
      rw [hr, hdir, if_neg (by decide), if_neg (by omega), if_pos (by omega)]
    ·have hgi : dgetV (dmap A (mput (.int .i64) (.isl (.int .i64)) d (i : Int) (rows.getD k []))) i = dat.getD k [] := by rw [dput_map, dget_put, hmg]
     have hgj : ∀ j : Int, j ≠ i → dgetV (dmap A (mput (.int .i64) (.isl (.int .i64)) d (i : Int) (rows.getD k []))) j = dgetV (dmap A d) j := fun j hj => by rw [dput_map, dget_ne _ (fun e => hj e.symm)]
     rcases step (mput (.int .i64) (.isl (.int .i64)) d (i : Int) (rows.getD k [])) (dat.getD k []) (k + 1) (by omega) (by omega) (by omega) (hRd.put _ hkr) hgi hgj with ⟨a1, a2⟩ | ⟨k', d', D', a1, a2, a2', a3, a4, a5, a6⟩
     ·refine .inl ⟨fun n K0 k1 k3 hn => ?_, fun n K0 k1 hn => ?_⟩
      ·obtain ⟨n, rfl⟩ : ∃ n', n = n' + 1 := ⟨n - 1, by omega⟩
       rw [hp, hdir, if_neg (by decide), if_neg hc, if_neg h9, a1 n K0 k1 k3 (by omega)]
      ·obtain ⟨n, rfl⟩ : ∃ n', n = n' + 1 := ⟨n - 1, by omega⟩
       rw [hr, hdir, if_neg (by decide), if_neg (by omega), if_neg (by omega), a2 n K0 k1 (by omega)]
     ·refine .inr ⟨k', d', D', a1, a2, a2', a3, a4, fun n K0 k1 k3 hn => ?_, fun n K0 k1 hn => ?_⟩
      ·obtain ⟨n, rfl⟩ : ∃ n', n = n' + 1 := ⟨n - 1, by omega⟩
       rw [hp, hdir, if_neg (by decide), if_neg hc, if_neg h9, a5 n K0 k1 k3 (by omega)]
      ·obtain ⟨n, rfl⟩ : ∃ n', n = n' + 1 := ⟨n - 1, by omega⟩
       rw [hr, hdir, if_neg (by decide), if_neg (by omega), if_neg (by omega), a6 n K0 k1 (by omega)]

theorem newL1 {R : Type} (N n : Nat) (k0 : List Int → Int → List EN → List (List Int) → List Int → Option R) (nx : Int) (T : List EN) (D : List (List Int)) (o : List Int) :
  Z85_l1 N k0 (n + 5) 0 [0, 0, 0, 0] nx T D o = k0 (fdR [0, 0, 0, 0]) nx T D o := rfl

/-- both are made, or why neither -/
theorem new_both (N : Nat) (hN : 1000 < N) (L0 : List EN) (A : List Nd) (rows : List (List Int)) (hrows : ∀ r ∈ rows, rowK A r) (hdat : rows.length ≤ 1000000) (z : Int) :
  ((∀ {R : Type} (k0 k1 : List (List Int) → Option R) k2, Z29 N L0 z rows k0 k1 k2 = k0 rows) ∧ (∀ {R : Type} (k0 k1 : Option R) k2, Z85 N L0 (rows.map (·.map (bt A))) k0 k1 k2 = k0)) ∨
  ((∀ {R : Type} (k1 : Option R) (k0 : List (List Int) → Option R) k2, Z29 N L0 z rows k0 (fun _ => k1) k2 = k1) ∧ (∀ {R : Type} (k0 k1 : Option R) k2, Z85 N L0 (rows.map (·.map (bt A))) k0 k1 k2 = k1)) ∨
  ∃ nx m d L D, L0.length ≤ 8 ∧ RowsK A d ∧ FI 0 [0, 0, 0, 0] nx m (dmap A d) [] L D ∧ (∀ {R : Type} (k1 : Option R) (k0 : List (List Int) → Option R) k2, Z29 N L0 z rows k0 (fun _ => k1) k2 = k2 rows [0, 0, 0, 0] z nx m d []) ∧ (∀ {R : Type} (k0 k1 : Option R) k2, Z85 N L0 (rows.map (·.map (bt A))) k0 k1 k2 = k2 (fdR [0, 0, 0, 0]) nx L D []) := by
 have hml : (rows.map (·.map (bt A))).length = rows.length := List.length_map _
 by_cases h8 : L0.length ≤ 8
 ·have hrel : Rel [] [] := ⟨List.Perm.refl _, by simp, by simp⟩
  rcases newtree N hN L0 h8 L0.length 0 [] [] (by omega) (by omega) rfl hrel (by simp) with ⟨q1, q2⟩ | ⟨m, T, q1, q2, q3, q4, q5⟩
  ·refine .inl ⟨fun k0 k1 k2 => ?_, fun k0 k1 k2 => ?_⟩
   ·unfold Z29 Z29_T Z108 Z108_T
    rw [br_not (decide_eq_false (by omega))]
    exact q1 N _ _ (by omega)
   ·unfold Z85 Z85_T Z86 Z86_T
    rw [br_not (decide_eq_false (by omega))]
    exact q2 N 0 _ _ (by omega)
  ·have t1 : ∀ {R : Type} (k0 : Option R) k1, Z108 N L0 k0 k1 = k1 (L0.length : Int) m := fun k0 k1 => by
    unfold Z108 Z108_T
    rw [br_not (decide_eq_false (by omega))]
    exact q4 N _ _ (by omega)
   have t2 : ∀ {R : Type} (k0 : Option R) k1, Z86 N L0 k0 k1 = k1 (L0.length : Int) T := fun k0 k1 => by
    unfold Z86 Z86_T
    rw [br_not (decide_eq_false (by omega))]
    obtain ⟨nx', h⟩ := q5 N 0 k0 (fun l297 i298 l299 => k1 (Nat.cast (List.length l297) : Int) l299) (by omega)
    exact h
   have hstart : ∀ {R : Type} (k1 : Option R) (k0 : List (List Int) → Option R) k2, Z29 N L0 z rows k0 (fun _ => k1) k2 = Z29_l0 N (fun _ _ _ _ _ _ _ => k1) (fun l379 l380 i381 i382 l383 l384 l385 => br (decide ((0 : Int) < (Nat.cast (List.length l379) : Int))) k1 (k2 l379 l380 i381 i382 l383 l384 l385)) (fun _ _ _ _ _ _ _ _ _ => k1)
     (fun n395 n396 l397 l398 i399 i400 l401 l402 l403 => br (decide ((0 : Int) < (Nat.cast n396 : Int))) k1 (k2 l397 l398 i399 i400 l401 l402 l403)) N (gst L0 rows [0, 0, 0, 0] z (L0.length : Int) m [] 0 0 []) := fun k1 k0 k2 => by
    unfold Z29 Z29_T
    rw [t1]
    rfl
   rcases newfiles N hN L0 h8 A rows hrows hdat [0, 0, 0, 0] z (L0.length : Int) m [] [0, 0, 0, 0] (L0.length : Int) T [] L0.length 0 0 [] [] (by omega) (by omega) (by omega) (by omega) rfl (fun e he => (by cases he)) (by intro j hj; omega) (by intro j hj; rfl) with ⟨a1, a2⟩ | ⟨k', d, D, a1, a2, a2', a3, a4, a5, a6⟩
   ·refine .inr (.inl ⟨fun k1 k0 k2 => ?_, fun k0 k1 k2 => ?_⟩)
    ·rw [hstart]
     exact a1 N _ _ _ (by omega)
    ·unfold Z85 Z85_T
     rw [t2]
     exact a2 N _ _ (by omega)
   ·have p1 : ∀ {R : Type} (k1 : Option R) (k0 : List (List Int) → Option R) k2, Z29 N L0 z rows k0 (fun _ => k1) k2 = if k' = rows.length then k2 rows [0, 0, 0, 0] z (L0.length : Int) m d [] else k1 := fun k1 k0 k2 => by
     rw [hstart]
     refine (a5 N _ _ _ (by omega)).trans ?_
     by_cases h0 : k' = 0
     ·rw [if_pos h0, br_dec]
      by_cases h : k' = rows.length
      ·rw [if_pos h, if_neg (by omega)]
      ·rw [if_neg h, if_pos (by omega)]
     ·rw [if_neg h0, br_dec]
      by_cases h : k' = rows.length
      ·rw [if_pos h, if_neg (by omega)]
      ·rw [if_neg h, if_pos (by omega)]
    have p2 : ∀ {R : Type} (k0 k1 : Option R) k2, Z85 N L0 (rows.map (·.map (bt A))) k0 k1 k2 = if k' = rows.length then k2 (fdR [0, 0, 0, 0]) (L0.length : Int) T D [] else k1 := fun k0 k1 k2 => by
     obtain ⟨n, hn⟩ : ∃ n, N = n + 5 := ⟨N - 5, by omega⟩
     unfold Z85 Z85_T
     rw [t2]
     refine (a6 N _ _ (by omega)).trans ?_
     rw [br_ndec]
     by_cases h : k' = rows.length
     ·rw [if_pos h, if_pos (by omega)]
      conv => lhs; arg 3; rw [hn]
      exact newL1 N n _ _ _ _ _
     ·rw [if_neg h, if_neg (by omega)]
    by_cases h : k' = rows.length
    ·refine .inr (.inr ⟨(L0.length : Int), m, d, T, D, h8, a2', ⟨q1, by omega, by omega, q3, by omega, fun i hi => a3 i (by omega), a4, rfl, ?_, by simp, ?_⟩, fun k1 k0 k2 => (p1 k1 k0 k2).trans (if_pos h), fun k0 k1 k2 => (p2 k0 k1 k2).trans (if_pos h)⟩)
     ·intro k hk
      have : k = 0 ∨ k = 1 ∨ k = 2 ∨ k = 3 := by omega
      rcases this with rfl | rfl | rfl | rfl <;> exact ⟨by decide, by decide⟩
     ·intro j hj
      simp at hj
    ·exact .inr (.inl ⟨fun k1 k0 k2 => (p1 k1 k0 k2).trans (if_neg h), fun k0 k1 k2 => (p2 k0 k1 k2).trans (if_neg h)⟩)
 ·refine .inl ⟨fun k0 k1 k2 => ?_, fun k0 k1 k2 => ?_⟩
  ·unfold Z29 Z29_T Z108 Z108_T
   rw [br_of (decide_eq_true (by omega))]
  ·unfold Z85 Z85_T Z86 Z86_T
   rw [br_of (decide_eq_true (by omega))]

/-- the rows of bytes, as terms -/
theorem start_loop (N : Nat) (hN : 1000 < N) (L0 : List EN) (dat : List (List Int)) (hu : ∀ r ∈ dat, ∀ x ∈ r, 0 ≤ x ∧ x < 256) (hl : dat.length ≤ 1000000) (hl2 : ∀ r ∈ dat, r.length < N ∧ r.length ≤ 1000000) (ws : Ws) (z : Int) :
  ∀ (e i n : Nat) (A : List Nd) (B : By) (rows : List (List Int)), dat.length - i = e → i ≤ dat.length → e < n → BA A B → (∀ r ∈ rows, rowK A r) → rows.map (·.map (bt A)) = dat.take i →
   ∃ A' B' rows', BA A' B' ∧ Le A A' ∧ (∀ r ∈ rows', rowK A' r) ∧ rows'.map (·.map (bt A')) = dat ∧ ∀ {R : Type} (k : List EN → List (List Int) → Int → By → Ws → List Nd → List (List Int) → Option R), Z41_l0 N k n L0 dat z (i : Int) B ws A rows = k L0 dat z B' ws A' rows' := by
 intro e
 induction e with
 | zero =>
  intro i n A B rows he hi hn hA hr hm
  obtain ⟨n, rfl⟩ : ∃ n', n = n' + 1 := ⟨n - 1, by omega⟩
  obtain rfl : i = dat.length := by omega
  refine ⟨A, B, rows, hA, Le.refl A, hr, by rw [hm, List.take_length], fun k => ?_⟩
  simp only [Z41_l0, Z41_l0_T0]
  rw [br_not (decide_eq_false (by omega))]
 | succ e ih =>
  intro i n A B rows he hi hn hA hr hm
  obtain ⟨n, rfl⟩ : ∃ n', n = n' + 1 := ⟨n - 1, by omega⟩
  have hlt : i < dat.length := by omega
  have hg := getD_at' hlt ([] : List Int)
  have hzz : (Sh.zero (.isl (.int .u8))) = ([] : List Int) := rfl
  have hmem := List.getElem_mem hlt
  obtain ⟨q1, q2⟩ := hl2 _ hmem
  obtain ⟨A1, B1, r1, h1, k1, h2, h3, h4⟩ := terms_eq N dat[i] (hu _ hmem) q2 q1 hA ws
  have hrl : rows.length = i := by
   have := congrArg List.length hm
   simp at this
   omega
  have hr1 : r1.length = dat[i].length := by rw [← h3, List.length_map]
  obtain ⟨A2, B2, rows2, g1, g2, g3, g4, g5⟩ := ih (i + 1) n A1 B1 (rows ++ r1 :: ([] : List (List (Int)))) (by omega) (by omega) (by omega) h1 (fun r hr' => by
   rcases List.mem_append.1 hr' with hr' | hr'
   ·exact (hr r hr').le k1
   ·rw [List.mem_singleton.1 hr']; exact h2) (by
   have e1 : rows.map (·.map (bt A1)) = rows.map (·.map (bt A)) := List.map_congr_left fun r hr' => (hr r hr').bts k1
   rw [List.map_append, e1, hm, List.take_add_one, List.getElem?_eq_getElem hlt]
   simp [h3])
  refine ⟨A2, B2, rows2, g1, k1.trans g2, g3, g4, fun k => ?_⟩
  simp only [Z41_l0, Z41_l0_T0, Int.toNat_natCast, hzz, hg]
  rw [br_of (decide_eq_true (by omega)), br_of (inB_of (by omega)), h4, br_of (fits_of (by omega)), br_of (by rw [fits_of (by omega), decide_eq_true (by omega)]; rfl), sub_all, sub_all, w64_succ (by omega)]
  exact g5 k

theorem start_both (N : Nat) (hN : 1000 < N) (L0 : List EN) (dat : List (List Int)) (hu : ∀ r ∈ dat, ∀ x ∈ r, 0 ≤ x ∧ x < 256) (hl : dat.length ≤ 900) (hl2 : ∀ r ∈ dat, r.length < N ∧ r.length ≤ 1000000) : ∃ A B, BA A B ∧
  ((∀ {R : Type} k0 k1 k2 k3 k4 k5 k6 k7 k8, Z41 (R := R) N L0 dat [] [] [] k0 k1 k2 k3 k4 k5 k6 k7 k8 = k0 B [] A) ∨ (∀ {R : Type} k0 k1 k2 k3 k4 k5 k6 k7 k8, Z41 (R := R) N L0 dat [] [] [] k0 k1 k2 k3 k4 k5 k6 k7 k8 = k4 B [] A) ∨
   ∃ z nx m d L D, L0.length ≤ 8 ∧ K8 A z ∧ bt A z = 0 ∧ RowsK A d ∧ FI 0 [0, 0, 0, 0] nx m (dmap A d) [] L D ∧ ∀ {R : Type} k0 k1 k2 k3 k4 k5 k6 k7 k8, Z41 (R := R) N L0 dat [] [] [] k0 k1 k2 k3 k4 k5 k6 k7 k8 = k8 B [] A [0, 0, 0, 0] z nx m d [] (fdR [0, 0, 0, 0]) nx L D []) := by
 obtain ⟨z, A0, B0, h1, h2, h3, h4, h5⟩ := Const_B N BA.nil [] (v := 0) (by omega)
 obtain ⟨A, B, rows, g1, g2, g3, g4, g5⟩ := start_loop N hN L0 dat hu (by omega) hl2 [] z dat.length 0 N A0 B0 [] (by omega) (by omega) (by omega) h1 (fun r hr => (by cases hr)) rfl
 have hrl : rows.length = dat.length := by rw [← g4, List.length_map]
 have hz := h3.le g2
 have hz0 : bt A z = 0 := (h3.bt g2).trans h4
 have go : ∀ {R : Type} k0 k1 k2 k3 k4 k5 k6 k7 k8, Z41 (R := R) N L0 dat [] [] [] k0 k1 k2 k3 k4 k5 k6 k7 k8 = Z29 N L0 z rows
   (fun l404 => Z85 N L0 dat (k0 B [] A) (k1 B [] A) (fun l460 i461 l462 l463 l464 => k2 B [] A l460 i461 l462 l463 l464))
   (fun l465 => Z85 N L0 dat (k3 B [] A) (k4 B [] A) (fun l466 i467 l468 l469 l470 => k5 B [] A l466 i467 l468 l469 l470))
   (fun l471 l472 i473 i474 l475 l476 l477 => Z85 N L0 dat (k6 B [] A l472 i473 i474 l475 l476 l477) (k7 B [] A l472 i473 i474 l475 l476 l477) (fun l478 i479 l480 l481 l482 => k8 B [] A l472 i473 i474 l475 l476 l477 l478 i479 l480 l481 l482)) := fun k0 k1 k2 k3 k4 k5 k6 k7 k8 => by
  unfold Z41 Z41_T
  refine (h5 _).trans ?_
  exact g5 _
 refine ⟨A, B, g1, ?_⟩
 have nb := new_both N hN L0 A rows g3 (by omega) z
 rw [g4] at nb
 rcases nb with ⟨n1, n2⟩ | ⟨n1, n2⟩ | ⟨nx, m, d, L, D, hL8, hd, S, n1, n2⟩
 ·refine .inl fun k0 k1 k2 k3 k4 k5 k6 k7 k8 => ?_
  rw [go, n1, n2]
 ·refine .inr (.inl fun k0 k1 k2 k3 k4 k5 k6 k7 k8 => ?_)
  rw [go, n1, n2]
 ·refine .inr (.inr ⟨z, nx, m, d, L, D, hL8, hz, hz0, hd, S, fun k0 k1 k2 k3 k4 k5 k6 k7 k8 => ?_⟩)
  rw [go, n1, n2]

end Go.Proofs.Ytdopealphpmaeaa
