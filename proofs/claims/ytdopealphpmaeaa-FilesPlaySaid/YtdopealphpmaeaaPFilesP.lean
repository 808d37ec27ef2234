/-
  the files are made, by the program and by the reference (chapter 14).
-/
import Derived.Test.YtdopealphpmaeaaPFilesN2
set_option linter.unusedSimpArgs false
set_option linter.unusedVariables false
set_option linter.unusedSectionVars false
namespace Go.Proofs.Ytdopealphpmaeaa
open Go.Gx

theorem makeR_pos {p : List UInt8} {dir : Bool} {T : List EN} (h8 : T.length < 8) : makeR p dir T = 0 ↔ nameB p = true ∧ lk (bs p) T = none ∧ ((splitL p).1 = [] ∨ (dir = false ∧ aboveR (splitL p).1 T = 0)) := by
  have h8' : ¬ 8 ≤ T.length := by omega
  unfold makeR
  cases hn : nameB p with
  | false => simp
  | true =>
    rw [if_neg (by decide), if_neg h8']
    by_cases hs : (splitL p).1 = []
    · have ha : aboveR (splitL p).1 T = 0 := by unfold aboveR; rw [if_pos hs]
      rw [ha]
      cases hk : lk (bs p) T <;> simp [hs]
    · by_cases ha : aboveR (splitL p).1 T = 0
      · rw [ha]
        cases hk : lk (bs p) T <;> cases dir <;> simp [hs]
      · cases hk : lk (bs p) T <;> simp [hs, ha]

/-- a tree is made on both sides, or on none -/
theorem newtree (N : Nat) (hN : 1000 < N) (L0 : List EN) (h8 : L0.length ≤ 8) : ∀ (e i : Nat) (T : List EN) (m : TM), L0.length - i = e → i ≤ L0.length → T.length = i → Rel m T → (∀ x ∈ T, 0 ≤ x.2.2 ∧ x.2.2 < (i : Int)) →
    ((∀ {R : Type} (n : Nat) (K0 : Option R) k1, e < n → Z76_l0 N (fun _ _ => K0) k1 n L0 (L0.length : Int) (i : Int) (i : Int) m = K0) ∧ (∀ {R : Type} (n : Nat) (nx : Int) (K0 : Option R) k1, e < n → Z61_l0 N (fun _ _ _ => K0) k1 n L0 (i : Int) nx T = K0)) ∨
    ∃ m' T', Rel m' T' ∧ T'.length = L0.length ∧ (∀ x ∈ T', 0 ≤ x.2.2 ∧ x.2.2 < (L0.length : Int)) ∧ (∀ {R : Type} (n : Nat) (K0 : Option R) k1, e < n → Z76_l0 N (fun _ _ => K0) k1 n L0 (L0.length : Int) (i : Int) (i : Int) m = k1 (L0.length : Int) m') ∧
      (∀ {R : Type} (n : Nat) (nx : Int) (K0 : Option R) k1, e < n → ∃ nx', Z61_l0 N (fun _ _ _ => K0) k1 n L0 (i : Int) nx T = k1 L0 nx' T') := by
  intro e
  induction e with
  | zero =>
    intro i T m he hi hT r hid
    obtain rfl : i = L0.length := by omega
    refine .inr ⟨m, T, r, hT, hid, fun n K0 k1 hn => ?_, fun n nx K0 k1 hn => ⟨nx, ?_⟩⟩
    · obtain ⟨n, rfl⟩ : ∃ n', n = n' + 1 := ⟨n - 1, by omega⟩
      simp only [Z76_l0, Z76_l0_T0]
      rw [br_not (decide_eq_false (by omega))]
    · obtain ⟨n, rfl⟩ : ∃ n', n = n' + 1 := ⟨n - 1, by omega⟩
      simp only [Z61_l0, Z61_l0_T0]
      rw [br_not (decide_eq_false (by omega))]
  | succ e ih =>
    intro i T m he hi hT r hid
    have hlt : i < L0.length := by omega
    have hg0 : L0.getD i (bs [], false, 0) = L0[i] := by simp [List.getD, hlt]
    obtain ⟨p, dir, v, hx⟩ : ∃ p d v, L0[i] = (bs p, d, v) := ⟨pth L0[i].1, L0[i].2.1, L0[i].2.2, by rw [bs_pth]⟩
    rw [hx] at hg0
    have hin : inB (i : Int) L0.length = true := inB_of (by omega)
    have hT8 : T.length < 8 := by omega
    -- the program
    have hp : ∀ {R : Type} (n : Nat) (K0 : Option R) k1, Z76_l0 N (fun _ _ => K0) k1 (n + 1) L0 (L0.length : Int) (i : Int) (i : Int) m = if makeR p dir T = 0 then Z76_l0 N (fun _ _ => K0) k1 n L0 (L0.length : Int) ((i + 1 : Nat) : Int) ((i + 1 : Nat) : Int) (tput m (keyL p) ((i : Int), dir)) else K0 := fun {R} n K0 k1 => by
      simp only [Z76_l0, Z76_l0_T0, Int.toNat_natCast, hg0, hin, br_true]
      rw [br_of (decide_eq_true (by omega)), Z31_eq' N (by omega), br_neg]
      cases hnm : nameB p with
      | false =>
        have : makeR p dir T = 65282 := by unfold makeR; rw [hnm]; rfl
        rw [this]
        rfl
      | true =>
        rw [br_true, make_eq N (by omega) p dir (i : Int) (by omega), r.makeC p dir]
        by_cases hz : makeR p dir T = 0
        · rw [if_pos hz, if_pos hz, br_not (by decide), w64_succ (by omega)]
          rfl
        · rw [if_neg hz, if_neg hz, br_ndec, if_neg hz]
    -- the reference
    have hr : ∀ {R : Type} (n : Nat) (nx : Int) (K0 : Option R) k1, Z61_l0 N (fun _ _ _ => K0) k1 (n + 1) L0 (i : Int) nx T = if makeR p dir T = 0 then Z61_l0 N (fun _ _ _ => K0) k1 n L0 ((i + 1 : Nat) : Int) nx (T ++ [(bs p, dir, (i : Int))]) else K0 := fun {R} n nx K0 k1 => by
      simp only [Z61_l0, Z61_l0_T0, Int.toNat_natCast, hg0, hin, br_true]
      rw [br_of (decide_eq_true (by omega)), NameMay_eq N (by omega), Bool.not_not]
      have hmp := makeR_pos (p := p) (dir := dir) hT8
      cases hnm : nameB p with
      | false =>
        have : ¬ makeR p dir T = 0 := fun h => by have := (hmp.1 h).1; rw [hnm] at this; cases this
        rw [if_neg this]
        rfl
      | true =>
        rw [br_true, at_eq N _ _ nx T (by omega) (by omega)]
        cases hk : lk (bs p) T with
        | some x =>
          obtain ⟨A, B, _, ha, _, _⟩ := at_some hk
          have : ¬ makeR p dir T = 0 := fun h => by have := (hmp.1 h).2.1; rw [hk] at this; cases this
          rw [ha, br_of (decide_eq_true (by omega)), if_neg this]
        | none =>
          rw [at_none hk, br_not (by decide), refSplit_eq N (by omega), br_ndec]
          have h32 := appE (l := T) (by omega)
          simp only [bs_inj, h32, br_true, sub_all, w64_succ (show i < 9223372036854775807 by omega)]
          by_cases hs : (splitL p).1 = []
          · rw [if_pos hs, if_pos (hmp.2 ⟨hnm, hk, .inl hs⟩)]
          · rw [if_neg hs]
            cases dir with
            | true =>
              have : ¬ makeR p true T = 0 := fun h => by
                rcases (hmp.1 h).2.2 with h | h
                · exact hs h
                · cases h.1
              rw [if_neg this]
              rfl
            | false =>
              rw [Bool.not_false, br_true, at_eq N _ _ nx T (by omega) (by omega)]
              cases hk2 : lk (bs (splitL p).1) T with
              | none =>
                have : ¬ makeR p false T = 0 := fun h => by
                  rcases (hmp.1 h).2.2 with h | h
                  · exact hs h
                  · have := h.2; unfold aboveR at this; rw [if_neg hs, hk2] at this; cases this
                rw [at_none hk2, if_neg this]
                rfl
              | some y =>
                obtain ⟨A, B, hAB, ha, _, _⟩ := at_some hk2
                have hin2 : inB (A.length : Int) T.length = true := by rw [hAB]; exact mid_in
                have hlt2 : decide (A.length < T.length) = true := decide_eq_true (by rw [hAB]; exact mid_lt)
                have hgt : T.getD A.length (bs [], false, 0) = y := by rw [hAB]; exact mid_get _
                rw [ha, br_of (by rw [decide_eq_false (by omega)]; rfl), at_eq N _ _ nx T (by omega) (by omega), ha]
                simp only [Int.toNat_natCast, hin2, hlt2, hgt, br_true, h32, sub_all]
                obtain ⟨yp, yd, yi⟩ := y
                cases yd with
                | true =>
                  have hab : aboveR (splitL p).1 T = 0 := by unfold aboveR; rw [if_neg hs, hk2]; rfl
                  rw [if_pos (hmp.2 ⟨hnm, hk, .inr ⟨rfl, hab⟩⟩)]
                  rfl
                | false =>
                  have : ¬ makeR p false T = 0 := fun h => by
                    rcases (hmp.1 h).2.2 with h | h
                    · exact hs h
                    · have := h.2; unfold aboveR at this; rw [if_neg hs, hk2] at this; cases this
                  rw [if_neg this]
                  rfl
    by_cases hz : makeR p dir T = 0
    · have hid' : ∀ x ∈ T ++ [(bs p, dir, (i : Int))], 0 ≤ x.2.2 ∧ x.2.2 < ((i + 1 : Nat) : Int) := fun x hx => by
        rcases List.mem_append.1 hx with hx | hx
        · have := hid x hx; omega
        · rw [List.mem_singleton] at hx
          subst hx
          exact ⟨by simp only []; omega, by simp only []; omega⟩
      rcases ih (i + 1) (T ++ [(bs p, dir, (i : Int))]) (tput m (keyL p) ((i : Int), dir)) (by omega) (by omega) (by simp [hT]) (r.make hz _) hid' with ⟨q1, q2⟩ | ⟨m', T', q1, q2, q3, q4, q5⟩
      · refine .inl ⟨fun n K0 k1 hn => ?_, fun n nx K0 k1 hn => ?_⟩
        · obtain ⟨n, rfl⟩ : ∃ n', n = n' + 1 := ⟨n - 1, by omega⟩
          rw [hp, if_pos hz, q1 n K0 k1 (by omega)]
        · obtain ⟨n, rfl⟩ : ∃ n', n = n' + 1 := ⟨n - 1, by omega⟩
          rw [hr, if_pos hz, q2 n nx K0 k1 (by omega)]
      · refine .inr ⟨m', T', q1, q2, q3, fun n K0 k1 hn => ?_, fun n nx K0 k1 hn => ?_⟩
        · obtain ⟨n, rfl⟩ : ∃ n', n = n' + 1 := ⟨n - 1, by omega⟩
          rw [hp, if_pos hz, q4 n K0 k1 (by omega)]
        · obtain ⟨n, rfl⟩ : ∃ n', n = n' + 1 := ⟨n - 1, by omega⟩
          obtain ⟨nx', hq⟩ := q5 n nx K0 k1 (by omega)
          exact ⟨nx', by rw [hr, if_pos hz, hq]⟩
    · refine .inl ⟨fun n K0 k1 hn => ?_, fun n nx K0 k1 hn => ?_⟩
      · obtain ⟨n, rfl⟩ : ∃ n', n = n' + 1 := ⟨n - 1, by omega⟩
        rw [hp, if_neg hz]
      · obtain ⟨n, rfl⟩ : ∃ n', n = n' + 1 := ⟨n - 1, by omega⟩
        rw [hr, if_neg hz]

/-- the bytes are taken on both sides, or on none -/
theorem newfiles (N : Nat) (hN : 1000 < N) (L0 : List EN) (h8 : L0.length ≤ 8) (dat : List (List Int)) (hdat : dat.length ≤ 1000000) (F : List Int) (nx : Int) (m : TM) (o : OL) (G : List Int) (nr : Int) (T : List EN) (q : List Int) :
    ∀ (e i k : Nat) (d : DM) (D : List (List Int)), L0.length - i = e → i ≤ L0.length → k ≤ dat.length → k ≤ i → D.length = i → (∀ j : Nat, j < i → dgetV d j = D.getD j [] ∧ (D.getD j []).length ≤ 8) → (∀ j : Int, (i : Int) ≤ j → dgetV d j = []) →
    ((∀ {R : Type} (n : Nat) (K0 : Option R) k1, e < n → Z21_l0 N (fun _ _ _ _ _ _ => K0) k1 n (dat.drop k) L0 (L0.length : Int) (i : Int) F nx m d o = K0) ∧ (∀ {R : Type} (n : Nat) (K0 : Option R) k1, e < n → Z60_l0 N (fun _ _ _ _ _ _ _ => K0) k1 n L0 dat (k : Int) (i : Int) G nr T D q = K0)) ∨
    ∃ k' d' D', k' ≤ dat.length ∧ D'.length = L0.length ∧ (∀ j : Nat, j < L0.length → dgetV d' j = D'.getD j [] ∧ (D'.getD j []).length ≤ 8) ∧ (∀ j : Int, (L0.length : Int) ≤ j → dgetV d' j = []) ∧
      (∀ {R : Type} (n : Nat) (K0 : Option R) k1, e < n → Z21_l0 N (fun _ _ _ _ _ _ => K0) k1 n (dat.drop k) L0 (L0.length : Int) (i : Int) F nx m d o = k1 (dat.drop k') F nx m d' o) ∧
      (∀ {R : Type} (n : Nat) (K0 : Option R) k1, e < n → Z60_l0 N (fun _ _ _ _ _ _ _ => K0) k1 n L0 dat (k : Int) (i : Int) G nr T D q = k1 dat (k' : Int) G nr T D' q) := by
  intro e
  induction e with
  | zero =>
    intro i k d D he hi hk hki hD hd hd2
    obtain rfl : i = L0.length := by omega
    refine .inr ⟨k, d, D, hk, hD, hd, hd2, fun n K0 k1 hn => ?_, fun n K0 k1 hn => ?_⟩
    · obtain ⟨n, rfl⟩ : ∃ n', n = n' + 1 := ⟨n - 1, by omega⟩
      simp only [Z21_l0, Z21_l0_T0]
      rw [br_not (decide_eq_false (by omega))]
    · obtain ⟨n, rfl⟩ : ∃ n', n = n' + 1 := ⟨n - 1, by omega⟩
      simp only [Z60_l0, Z60_l0_T0]
      rw [br_not (decide_eq_false (by omega))]
  | succ e ih =>
    intro i k d D he hi hk hki hD hd hd2
    have hlt : i < L0.length := by omega
    have hin : inB (i : Int) L0.length = true := inB_of (by omega)
    have hz : (Sh.zero (.isl (.int .u8))) = ([] : List Int) := rfl
    have hwi := w64_succ (show i < 9223372036854775807 by omega)
    have hwk := w64_succ (show k < 9223372036854775807 by omega)
    have h24 := app24 (l := D) (by omega)
    have hap : ∀ v : List Int, (D ++ [([] : List Int)]).set i v = D ++ [v] := fun v => by rw [← hD]; simp
    have hgap : ∀ (v : List Int) (j : Nat), j < i → (D ++ [v]).getD j [] = D.getD j [] := fun v j hj => by
      rw [List.getD_eq_getElem?_getD, List.getElem?_append_left (by omega), ← List.getD_eq_getElem?_getD]
    have hgat : ∀ v : List Int, (D ++ [v]).getD i [] = v := fun v => by
      rw [List.getD_eq_getElem?_getD, List.getElem?_append_right (by omega), hD, Nat.sub_self]; rfl
    have hdl : (dat.drop k).length = dat.length - k := List.length_drop
    have hp : ∀ {R : Type} (n : Nat) (K0 : Option R) k1, Z21_l0 N (fun _ _ _ _ _ _ => K0) k1 (n + 1) (dat.drop k) L0 (L0.length : Int) (i : Int) F nx m d o =
        if (L0.getD i (bs [], false, 0)).2.1 = true then Z21_l0 N (fun _ _ _ _ _ _ => K0) k1 n (dat.drop k) L0 (L0.length : Int) ((i + 1 : Nat) : Int) F nx m d o
        else if dat.length ≤ k then K0 else if 8 < (dat.getD k []).length then K0 else Z21_l0 N (fun _ _ _ _ _ _ => K0) k1 n (dat.drop (k + 1)) L0 (L0.length : Int) ((i + 1 : Nat) : Int) F nx m (mput (.int .i64) (.isl (.int .u8)) d (i : Int) (dat.getD k [])) o := fun {R} n K0 k1 => by
      simp only [Z21_l0, Z21_l0_T0, Int.toNat_natCast, hin, br_true, hwi, hz, decide_true]
      rw [br_of (decide_eq_true (by omega))]
      cases (L0.getD i (bs [], false, 0)).2.1 with
      | true => rfl
      | false =>
        rw [br_false, if_neg (by decide), br_ndec]
        by_cases hc : dat.length ≤ k
        · rw [if_pos (by omega), if_pos hc]
        · have hg : (dat.drop k).getD 0 [] = dat.getD k [] := by rw [List.getD_eq_getElem?_getD, List.getElem?_drop, List.getD_eq_getElem?_getD]; rfl
          have hs1 : sub (dat.drop k) 1 ((dat.drop k).length - 1) = dat.drop (k + 1) := by
            rw [sub_nat, List.drop_drop]
            exact List.take_of_length_le (by rw [List.length_drop, List.length_drop]; omega)
          rw [if_neg (by omega), if_neg hc]
          have hin0 : inB 0 (dat.drop k).length = true := inB_of (by omega)
          simp only [hin0, br_true, hg, hs1]
          rw [br_dec]
          by_cases h9 : 8 < (dat.getD k []).length
          · rw [if_pos (by omega), if_pos h9]
          · rw [if_neg (by omega), if_neg h9]
            unfold slices_Clone__byte_byte
            rw [br_of (by rw [decide_eq_true (by omega)]; rfl)]
            dsimp only
            rw [br_of (fits_of (by omega)), br_of (leB_of (by omega)), sub_all]
    have hr : ∀ {R : Type} (n : Nat) (K0 : Option R) k1, Z60_l0 N (fun _ _ _ _ _ _ _ => K0) k1 (n + 1) L0 dat (k : Int) (i : Int) G nr T D q =
        if (L0.getD i (bs [], false, 0)).2.1 = true then Z60_l0 N (fun _ _ _ _ _ _ _ => K0) k1 n L0 dat (k : Int) ((i + 1 : Nat) : Int) G nr T (D ++ [[]]) q
        else if dat.length ≤ k then K0 else if 8 < (dat.getD k []).length then K0 else Z60_l0 N (fun _ _ _ _ _ _ _ => K0) k1 n L0 dat ((k + 1 : Nat) : Int) ((i + 1 : Nat) : Int) G nr T (D ++ [dat.getD k []]) q := fun {R} n K0 k1 => by
      simp only [Z60_l0, Z60_l0_T0, Int.toNat_natCast, hin, br_true, hwi, hwk, hz, h24, sub_all, hap]
      rw [br_of (decide_eq_true (by omega))]
      cases (L0.getD i (bs [], false, 0)).2.1 with
      | true => rfl
      | false =>
        rw [br_false, if_neg (by decide), br_ndec]
        by_cases hc : dat.length ≤ k
        · rw [if_pos (by omega), if_pos hc]
        · rw [if_neg (by omega), if_neg hc, br_of (inB_of (by omega)), br_dec]
          by_cases h9 : 8 < (dat.getD k []).length
          · rw [if_pos (by omega), if_pos h9]
          · rw [if_neg (by omega), if_neg h9, br_of (inB_of (by omega)), br_of (inB_of (by omega)), br_of (decide_eq_true (by omega))]
    have step : ∀ (d' : DM) (v : List Int) (k2 : Nat), v.length ≤ 8 → k2 ≤ dat.length → k2 ≤ i + 1 → dgetV d' i = v → (∀ j : Int, j ≠ i → dgetV d' j = dgetV d j) → _ := fun d' v k2 hv h2 h3 hdi hdj =>
      ih (i + 1) k2 d' (D ++ [v]) (by omega) (by omega) h2 h3 (by simp [hD]) (fun j hj => by
        by_cases e : j = i
        · subst e; rw [hdi, hgat]; exact ⟨rfl, hv⟩
        · rw [hdj _ (by omega), hgap v j (by omega)]; exact hd j (by omega)) (fun j hj => by rw [hdj j (by omega)]; exact hd2 j (by omega))
    cases hdir : (L0.getD i (bs [], false, 0)).2.1 with
    | true =>
      rcases step d [] k (by simp) hk (by omega) (hd2 i (by omega)) (fun _ _ => rfl) with ⟨a1, a2⟩ | ⟨k', d', D', a1, a2, a3, a4, a5, a6⟩
      · refine .inl ⟨fun n K0 k1 hn => ?_, fun n K0 k1 hn => ?_⟩
        · obtain ⟨n, rfl⟩ : ∃ n', n = n' + 1 := ⟨n - 1, by omega⟩
          rw [hp, hdir, if_pos rfl, a1 n K0 k1 (by omega)]
        · obtain ⟨n, rfl⟩ : ∃ n', n = n' + 1 := ⟨n - 1, by omega⟩
          rw [hr, hdir, if_pos rfl, a2 n K0 k1 (by omega)]
      · refine .inr ⟨k', d', D', a1, a2, a3, a4, fun n K0 k1 hn => ?_, fun n K0 k1 hn => ?_⟩
        · obtain ⟨n, rfl⟩ : ∃ n', n = n' + 1 := ⟨n - 1, by omega⟩
          rw [hp, hdir, if_pos rfl, a5 n K0 k1 (by omega)]
        · obtain ⟨n, rfl⟩ : ∃ n', n = n' + 1 := ⟨n - 1, by omega⟩
          rw [hr, hdir, if_pos rfl, a6 n K0 k1 (by omega)]
    | false =>
      by_cases hc : dat.length ≤ k
      · refine .inl ⟨fun n K0 k1 hn => ?_, fun n K0 k1 hn => ?_⟩
        · obtain ⟨n, rfl⟩ : ∃ n', n = n' + 1 := ⟨n - 1, by omega⟩
          rw [hp, hdir, if_neg (by decide), if_pos hc]
        · obtain ⟨n, rfl⟩ : ∃ n', n = n' + 1 := ⟨n - 1, by omega⟩
          rw [hr, hdir, if_neg (by decide), if_pos hc]
      · by_cases h9 : 8 < (dat.getD k []).length
        · refine .inl ⟨fun n K0 k1 hn => ?_, fun n K0 k1 hn => ?_⟩
          · obtain ⟨n, rfl⟩ : ∃ n', n = n' + 1 := ⟨n - 1, by omega⟩
            rw [hp, hdir, if_neg (by decide), if_neg hc, if_pos h9]
          · obtain ⟨n, rfl⟩ : ∃ n', n = n' + 1 := ⟨n - 1, by omega⟩
            rw [hr, hdir, if_neg (by decide), if_neg hc, if_pos h9]
        · rcases step (mput (.int .i64) (.isl (.int .u8)) d (i : Int) (dat.getD k [])) (dat.getD k []) (k + 1) (by omega) (by omega) (by omega) (dget_put d i _) (fun j hj => dget_ne d (fun e => hj e.symm) _) with ⟨a1, a2⟩ | ⟨k', d', D', a1, a2, a3, a4, a5, a6⟩
          · refine .inl ⟨fun n K0 k1 hn => ?_, fun n K0 k1 hn => ?_⟩
            · obtain ⟨n, rfl⟩ : ∃ n', n = n' + 1 := ⟨n - 1, by omega⟩
              rw [hp, hdir, if_neg (by decide), if_neg hc, if_neg h9, a1 n K0 k1 (by omega)]
            · obtain ⟨n, rfl⟩ : ∃ n', n = n' + 1 := ⟨n - 1, by omega⟩
              rw [hr, hdir, if_neg (by decide), if_neg hc, if_neg h9, a2 n K0 k1 (by omega)]
          · refine .inr ⟨k', d', D', a1, a2, a3, a4, fun n K0 k1 hn => ?_, fun n K0 k1 hn => ?_⟩
            · obtain ⟨n, rfl⟩ : ∃ n', n = n' + 1 := ⟨n - 1, by omega⟩
              rw [hp, hdir, if_neg (by decide), if_neg hc, if_neg h9, a5 n K0 k1 (by omega)]
            · obtain ⟨n, rfl⟩ : ∃ n', n = n' + 1 := ⟨n - 1, by omega⟩
              rw [hr, hdir, if_neg (by decide), if_neg hc, if_neg h9, a6 n K0 k1 (by omega)]

theorem newL1 {R : Type} (N n : Nat) (k0 : List Int → Int → List EN → List (List Int) → List Int → Option R) (nx : Int) (T : List EN) (D : List (List Int)) (o : List Int) :
    Z60_l1 N k0 (n + 5) 0 [0, 0, 0, 0] nx T D o = k0 (fdR [0, 0, 0, 0]) nx T D o := rfl

/-- both are made, or why neither -/
theorem new_both (N : Nat) (hN : 1000 < N) (L0 : List EN) (dat : List (List Int)) (hdat : dat.length ≤ 1000000) :
    ((∀ {R : Type} (k0 k1 : Option R) k2, Z21 N L0 dat k0 k1 k2 = k0) ∧ (∀ {R : Type} (k0 k1 : Option R) k2, Z60 N L0 dat k0 k1 k2 = k0)) ∨
    ((∀ {R : Type} (k0 k1 : Option R) k2, Z21 N L0 dat k0 k1 k2 = k1) ∧ (∀ {R : Type} (k0 k1 : Option R) k2, Z60 N L0 dat k0 k1 k2 = k1)) ∨
    ∃ nx m d L D, FI 0 [0, 0, 0, 0] nx m d [] L D ∧ (∀ {R : Type} (k0 k1 : Option R) k2, Z21 N L0 dat k0 k1 k2 = k2 [0, 0, 0, 0] nx m d []) ∧ (∀ {R : Type} (k0 k1 : Option R) k2, Z60 N L0 dat k0 k1 k2 = k2 (fdR [0, 0, 0, 0]) nx L D []) := by
  by_cases h8 : L0.length ≤ 8
  · have hrel : Rel [] [] := ⟨List.Perm.refl _, by simp, by simp⟩
    rcases newtree N hN L0 h8 L0.length 0 [] [] (by omega) (by omega) rfl hrel (by simp) with ⟨q1, q2⟩ | ⟨m, T, q1, q2, q3, q4, q5⟩
    · refine .inl ⟨fun k0 k1 k2 => ?_, fun k0 k1 k2 => ?_⟩
      · unfold Z21 Z21_T Z76 Z76_T
        rw [br_not (decide_eq_false (by omega))]
        exact q1 N _ _ (by omega)
      · unfold Z60 Z60_T Z61 Z61_T
        rw [br_not (decide_eq_false (by omega))]
        exact q2 N 0 _ _ (by omega)
    · have t1 : ∀ {R : Type} (k0 : Option R) k1, Z76 N L0 k0 k1 = k1 (L0.length : Int) m := fun k0 k1 => by
        unfold Z76 Z76_T
        rw [br_not (decide_eq_false (by omega))]
        exact q4 N _ _ (by omega)
      have t2 : ∀ {R : Type} (k0 : Option R) k1, Z61 N L0 k0 k1 = k1 (L0.length : Int) T := fun k0 k1 => by
        unfold Z61 Z61_T
        rw [br_not (decide_eq_false (by omega))]
        obtain ⟨nx', h⟩ := q5 N 0 k0 (fun l297 i298 l299 => k1 (Nat.cast (List.length l297) : Int) l299) (by omega)
        exact h
      rcases newfiles N hN L0 h8 dat hdat [0, 0, 0, 0] (L0.length : Int) m [] [0, 0, 0, 0] (L0.length : Int) T [] L0.length 0 0 [] [] (by omega) (by omega) (by omega) (by omega) rfl (by intro j hj; omega) (by intro j hj; rfl) with ⟨a1, a2⟩ | ⟨k', d, D, a1, a2, a3, a4, a5, a6⟩
      · refine .inr (.inl ⟨fun k0 k1 k2 => ?_, fun k0 k1 k2 => ?_⟩)
        · unfold Z21 Z21_T
          rw [t1]
          exact a1 N _ _ (by omega)
        · unfold Z60 Z60_T
          rw [t2]
          exact a2 N _ _ (by omega)
      · have hdl : (dat.drop k').length = dat.length - k' := List.length_drop
        have p1 : ∀ {R : Type} (k0 k1 : Option R) k2, Z21 N L0 dat k0 k1 k2 = if k' = dat.length then k2 [0, 0, 0, 0] (L0.length : Int) m d [] else k1 := fun k0 k1 k2 => by
          unfold Z21 Z21_T
          rw [t1]
          refine (a5 N _ _ (by omega)).trans ?_
          rw [br_dec]
          by_cases h : k' = dat.length
          · rw [if_pos h, if_neg (by omega)]
          · rw [if_neg h, if_pos (by omega)]
        have p2 : ∀ {R : Type} (k0 k1 : Option R) k2, Z60 N L0 dat k0 k1 k2 = if k' = dat.length then k2 (fdR [0, 0, 0, 0]) (L0.length : Int) T D [] else k1 := fun k0 k1 k2 => by
          obtain ⟨n, hn⟩ : ∃ n, N = n + 5 := ⟨N - 5, by omega⟩
          unfold Z60 Z60_T
          rw [t2]
          refine (a6 N _ _ (by omega)).trans ?_
          rw [br_ndec]
          by_cases h : k' = dat.length
          · rw [if_pos h, if_pos (by omega)]
            conv => lhs; arg 3; rw [hn]
            exact newL1 N n _ _ _ _ _
          · rw [if_neg h, if_neg (by omega)]
        by_cases h : k' = dat.length
        · refine .inr (.inr ⟨(L0.length : Int), m, d, T, D, ⟨q1, by omega, by omega, q3, by omega, fun i hi => a3 i (by omega), a4, rfl, ?_, by simp, ?_⟩, fun k0 k1 k2 => (p1 k0 k1 k2).trans (if_pos h), fun k0 k1 k2 => (p2 k0 k1 k2).trans (if_pos h)⟩)
          · intro k hk
            have : k = 0 ∨ k = 1 ∨ k = 2 ∨ k = 3 := by omega
            rcases this with rfl | rfl | rfl | rfl <;> exact ⟨by decide, by decide⟩
          · intro j hj
            simp at hj
        · exact .inr (.inl ⟨fun k0 k1 k2 => (p1 k0 k1 k2).trans (if_neg h), fun k0 k1 k2 => (p2 k0 k1 k2).trans (if_neg h)⟩)
  · refine .inl ⟨fun k0 k1 k2 => ?_, fun k0 k1 k2 => ?_⟩
    · unfold Z21 Z21_T Z76 Z76_T
      rw [br_of (decide_eq_true (by omega))]
    · unfold Z60 Z60_T Z61 Z61_T
      rw [br_of (decide_eq_true (by omega))]

end Go.Proofs.Ytdopealphpmaeaa
