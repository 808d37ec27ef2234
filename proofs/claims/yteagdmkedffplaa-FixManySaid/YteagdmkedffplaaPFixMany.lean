/-
  FixMany: the And of all of many is 1 just if each is; the Or of none of them is 0.
-/
import Derived.Test.YteagdmkedffplaaPTermS
import Derived.Test.YteagdmkedffplaaPTermE
import Derived.Test.YteagdmkedffplaaPTermV1318
import Derived.Test.YteagdmkedffplaaGxLaw
set_option linter.unusedSimpArgs false
set_option linter.unusedVariables false
namespace Go.Proofs.Yteagdmkedffplaa
open Go.Gx

theorem awake_fm (n : Nat) {R : Type} (k : Bool → Option R) : law3_awake (n + 3000) k = k true := by kernel_rfl

/-- an operator on numbers one behind another -/
def chain1 (op : Int) (z : Nat) : List Nat → Nat
  | [] => z
  | x :: r => chain1 op (doN op 1 z x) r

theorem chain1_app (op : Int) : ∀ (l : List Nat) (z x : Nat), chain1 op z (l ++ [x]) = doN op 1 (chain1 op z l) x
  | [], z, x => rfl
  | y :: l, z, x => chain1_app op l _ x

/-- terms of one bit -/
def Bits (l : List Nd) (V : List Int) : Prop := ∀ t ∈ V, Tm l t ∧ wd l t = 1

theorem join_l0 {R : Type} (N : Nat) (op z : Int) {l : List Nd} {b : By} (A : Ar l b) (ws : Ws) (V : List Int) (hV : Bits l V) (hl : V.length ≤ 1000) (k0 : Int → Int → Int → Int → List Nd → By → Ws → List Int → Option R) (k1 : Int → Int → List Nd → By → Ws → List Int → Option R) :
    ∀ (n i : Nat), i ≤ V.length → V.length - i < n → fix_join_e09f_l0 N k0 k1 n op z (Nat.cast V.length : Int) (i : Int) l b ws V = k1 op z l b ws V
  | 0, i, _, h => by omega
  | n + 1, i, hi, h => by
    unfold fix_join_e09f_l0 fix_join_e09f_l0_T0
    by_cases c : i < V.length
    · have hg : V.getD i 0 = V[i] := by rw [List.getD_eq_getElem?_getD, List.getElem?_eq_getElem c]; rfl
      obtain ⟨h1, h2⟩ := hV _ (List.getElem_mem c)
      rw [br_dec, if_pos (by omega), inB_of (by omega), br_true, Int.toNat_natCast, decide_eq_true c, br_true, hg, Width_eq N A.len, h2, br_dec, if_neg (by omega), w64_succ (by omega)]
      exact join_l0 N op z A ws V hV hl k0 k1 n (i + 1) (by omega) (by omega)
    · rw [decide_eq_false (by omega), br_false]
theorem join_l1 {R : Type} (N : Nat) (op z : Int) {l : List Nd} {b : By} (A : Ar l b) (ws : Ws) (V : List Int) (hV : Bits l V) (hl : V.length ≤ 1000) (k0 : Int → Int → Int → Int → List Nd → By → Ws → List Int → Option R) (k1 : Int → Int → List Nd → By → Ws → List Int → Option R) :
    ∀ (n i : Nat), i ≤ V.length → V.length - i < n → fix_join_e09f_l1 N k0 k1 n op z (Nat.cast V.length : Int) (i : Int) l b ws V = k1 op z l b ws V
  | 0, i, _, h => by omega
  | n + 1, i, hi, h => by
    unfold fix_join_e09f_l1 fix_join_e09f_l1_T0
    by_cases c : i < V.length
    · have hg : V.getD i 0 = V[i] := by rw [List.getD_eq_getElem?_getD, List.getElem?_eq_getElem c]; rfl
      obtain ⟨h1, h2⟩ := hV _ (List.getElem_mem c)
      rw [br_dec, if_pos (by omega), inB_of (by omega), br_true, Int.toNat_natCast, decide_eq_true c, br_true, hg, Node_eq N A.len, decide_eq_true h1, Bool.not_true, br_false, w64_succ (by omega)]
      exact join_l1 N op z A ws V hV hl k0 k1 n (i + 1) (by omega) (by omega)
    · rw [decide_eq_false (by omega), br_false]

theorem join_l2 (N : Nat) (hN : 12 ≤ N ∧ N ≤ 2 ^ 62) {op : Int} (ho : op = 4 ∨ op = 5) (ws : Ws) (V : List Int) (hl : V.length ≤ 1000) {l0 : List Nd} (hV : Bits l0 V) :
    ∀ (n i : Nat) (l : List Nd) (b : By) (t : Int) (f : (Nat → Nat) → Nat), i ≤ V.length → V.length - i < n → Le l0 l → Ar l b → Tm l t → wd l t = 1 → (∀ env, val env l t = f env) → l.length + 3 * (V.length - i) ≤ 65536 →
      ∃ t' l' b', Got l 1 (fun env => chain1 op (f env) ((V.drop i).map (val env l0))) (3 * (V.length - i)) t' l' b' ∧
        ∀ {R : Type} (k : Int → Int → By → Ws → List Int → List Nd → Option R), fix_join_e09f_l2 N k n op t 0 (Nat.cast V.length : Int) (i : Int) b ws V l = k t' 0 b' ws V l'
  | 0, i, l, b, t, f, _, h, _, _, _, _, _, _ => by omega
  | n + 1, i, l, b, t, f, hi, h, hle, A, ht, hw, hv, hlen => by
    by_cases c : i < V.length
    · have hg : V.getD i 0 = V[i] := by rw [List.getD_eq_getElem?_getD, List.getElem?_eq_getElem c]; rfl
      obtain ⟨h1, h2⟩ := hV _ (List.getElem_mem c)
      obtain ⟨t1, l1, b1, G, hc⟩ := Two_eq N hN A ws (op := op) ht (h1.le hle) (by rw [hw, wd_le h1 hle, h2]) (by omega) (by omega)
      have hw1 : wd l1 t1 = 1 := by
        rw [G.wd, hw]
        unfold outW
        rcases ho with rfl | rfl <;> rfl
      obtain ⟨t2, l2, b2, G2, hc2⟩ := join_l2 N hN ho ws V hl hV n (i + 1) l1 b1 t1 (fun env => doN op 1 (f env) (val env l0 V[i])) (by omega) (by omega) (hle.trans G.le) G.ar G.tm hw1 (fun env => by
        rw [G.v, hw, hv, val_le h1.2 hle]
        rfl) (by have := G.few; omega)
      refine ⟨t2, l2, b2, ?_, fun k => ?_⟩
      · have e : V.drop i = V[i] :: V.drop (i + 1) := (List.getElem_cons_drop c).symm
        have G3 := G2.from G.le G.few
        refine G3.more (fun env => ?_) (by omega)
        rw [e]
        rfl
      · unfold fix_join_e09f_l2 fix_join_e09f_l2_T0
        rw [br_dec, if_pos (by omega), inB_of (by omega), br_true, Int.toNat_natCast, decide_eq_true c, br_true, decide_eq_true rfl, br_true, hg]
        refine (hc _).trans ?_
        rw [w64_succ (by omega)]
        exact hc2 k
    · have e1 : i = V.length := by omega
      subst e1
      refine ⟨t, l, b, ?_, fun k => ?_⟩
      · have G := Got.self A ht
        rw [hw] at G
        refine G.more (fun env => ?_) (by omega)
        rw [List.drop_length]
        exact hv env
      · unfold fix_join_e09f_l2 fix_join_e09f_l2_T0
        rw [decide_eq_false (by omega), br_false]

theorem join_eq (N : Nat) (hN : 1100 ≤ N ∧ N ≤ 2 ^ 62) {op : Int} (ho : op = 4 ∨ op = 5) {z : Nat} (hz : z < 2) {l : List Nd} {b : By} (A : Ar l b) (ws : Ws) (V : List Int) (hl : V.length ≤ 1000) (hV : Bits l V) (hlen : l.length + 1 + 3 * V.length ≤ 65536) :
    ∃ t l' b', Got l 1 (fun env => chain1 op z (V.map (val env l))) (1 + 3 * V.length) t l' b' ∧
      ∀ {R : Type} (k : Int → Int → By → Ws → List Int → List Nd → Option R), fix_join_e09f N op (z : Int) l b ws V k = k t 0 b' ws V l' := by
  obtain ⟨t0, l0, b0, G0, _, hc0⟩ := Const_eq N A ws (w := 1) (v := (z : Int)) (.inl rfl) (by omega) (by omega)
  obtain ⟨t, l', b', G, hc⟩ := join_l2 N (by omega) ho ws V hl hV N 0 l0 b0 t0 (fun _ => z) (by omega) (by omega) G0.le G0.ar G0.tm G0.wd (fun env => by
    rw [G0.v, Int.toNat_natCast]
    show z % 2 = z
    omega) (by have := G0.few; omega)
  refine ⟨t, l', b', ?_, fun k => ?_⟩
  · have G3 := G.from G0.le G0.few
    exact G3.more (fun env => by rw [List.drop_zero]) (by omega)
  · unfold fix_join_e09f fix_join_e09f_T
    refine (join_l0 N op z A ws V hV hl _ _ N 0 (by omega) (by omega)).trans ?_
    refine (join_l1 N op z A ws V hV hl _ _ N 0 (by omega) (by omega)).trans ?_
    refine (hc0 _).trans ?_
    exact hc _

/-! ### the law -/
abbrev envB (e : List Int) : Nat → Nat := envOf e e.length

/-- variables that were made so far -/
structure MInv (e : List Int) (i : Nat) (all any : Int) (l : List Nd) (b : By) (ws : Ws) (V : List Int) : Prop where
  ar : Ar l b
  few : l.length ≤ i
  len : V.length = i
  free : ∀ j : Nat, i ≤ j → mfind (.int .i64) (.int .i64) ws (j : Int) = none
  tm : Bits l V
  v : ∀ env (j : Nat), j < i → val env l (V.getD j 0) = env j % 2
  all : all = (chain1 4 1 ((List.range i).map fun j => envB e j % 2) : Int)
  any : any = (chain1 5 0 ((List.range i).map fun j => envB e j % 2) : Int)

theorem chain1_lt {op : Int} (ho : op = 4 ∨ op = 5) : ∀ (l : List Nat) {z : Nat}, z < 2 → (∀ x ∈ l, x < 2) → chain1 op z l < 2
  | [], z, h, _ => h
  | x :: l, z, h, k => by
    refine chain1_lt ho l ?_ (fun y hy => k y (List.mem_cons_of_mem _ hy))
    have hx := k x (by simp)
    have z2 : z = 0 ∨ z = 1 := by omega
    have x2 : x = 0 ∨ x = 1 := by omega
    rcases ho with rfl | rfl <;> rcases z2 with rfl | rfl <;> rcases x2 with rfl | rfl <;> decide

theorem bits_lt (f : Nat → Nat) (i : Nat) : ∀ x ∈ (List.range i).map (fun j => f j % 2), x < 2 := fun x hx => by
  obtain ⟨j, _, rfl⟩ := List.mem_map.1 hx
  omega

theorem fm_l0 (N : Nat) (hN : 70000 ≤ N ∧ N ≤ 2 ^ 62) (e : List Int) (he : ∀ x ∈ e, 0 ≤ x ∧ x < 65536) (K : Nat) (hK : K < 60) :
    ∀ (n i : Nat) (all any : Int) (l : List Nd) (b : By) (ws : Ws) (V : List Int), i ≤ K → K - i < n → MInv e i all any l b ws V →
      ∃ all' any' l' b' ws' V', MInv e K all' any' l' b' ws' V' ∧ ∀ {R : Type} (k0 : List Int → Bool → Int → Int → Int → List Nd → By → Ws → List Int → Option R) (k1 : List Int → Int → Int → Int → List Nd → By → Ws → List Int → Option R),
        law3_FixMany_l0 N k0 k1 n e (K : Int) all any (i : Int) l b ws V = k1 e (K : Int) all' any' l' b' ws' V'
  | 0, i, all, any, l, b, ws, V, _, h, _ => by omega
  | n + 1, i, all, any, l, b, ws, V, hi, h, I => by
    by_cases c : i < K
    · have hfew := I.few
      have hlen := I.len
      obtain ⟨t, l1, b1, G, _, hc⟩ := Var_eq N I.ar ws (w := 1) (i := (i : Int)) (.inl rfl) (by omega) (.inl (I.free i (Nat.le_refl _))) (by omega)
      have hval : ∀ env, val env l1 t = env i % 2 := fun env => by
        rw [G.v, Int.toNat_natCast]
        rfl
      have xbit : ∃ x : Nat, x = envB e i % 2 := ⟨_, rfl⟩
      obtain ⟨x, hx⟩ := xbit
      have la := chain1_lt (op := 4) (.inl rfl) ((List.range i).map fun j => envB e j % 2) (z := 1) (by omega) (bits_lt _ i)
      have lo := chain1_lt (op := 5) (.inr rfl) ((List.range i).map fun j => envB e j % 2) (z := 0) (by omega) (bits_lt _ i)
      have ea : band .u16 all (x : Int) = (chain1 4 1 ((List.range (i + 1)).map fun j => envB e j % 2) : Int) := by
        rw [I.all, band16 (by omega) (by omega), List.range_succ, List.map_append, List.map_singleton, chain1_app, ← hx]
        rfl
      have eo : bor .u16 any (x : Int) = (chain1 5 0 ((List.range (i + 1)).map fun j => envB e j % 2) : Int) := by
        rw [I.any, bor16 (by omega) (by omega), List.range_succ, List.map_append, List.map_singleton, chain1_app, ← hx]
        rfl
      have I' : MInv e (i + 1) (band .u16 all (x : Int)) (bor .u16 any (x : Int)) l1 b1 (mput (.int .i64) (.int .i64) ws (i : Int) 1) (V ++ [t]) := by
        refine ⟨G.ar, by have := G.few; omega, by simp; omega, fun j hj => ?_, fun u hu => ?_, fun env j hj => ?_, ea, eo⟩
        · have e1 : mfind (.int .i64) (.int .i64) (mput (.int .i64) (.int .i64) ws (i : Int) 1) (j : Int) = mfind (.int .i64) (.int .i64) ws (j : Int) := mfind_put_ne (by rfl) (show (i : Int) ≠ (j : Int) by omega) _
          rw [e1]
          exact I.free j (by omega)
        · rcases List.mem_append.1 hu with hu | hu
          · obtain ⟨h1, h2⟩ := I.tm u hu
            exact ⟨h1.le G.le, by rw [wd_le h1 G.le]; exact h2⟩
          · rw [List.mem_singleton.1 hu]
            exact ⟨G.tm, G.wd⟩
        · by_cases hj' : j < i
          · have hjl : j < V.length := by omega
            rw [show (V ++ [t]).getD j 0 = V.getD j 0 by rw [List.getD_eq_getElem?_getD, List.getElem?_append_left hjl, ← List.getD_eq_getElem?_getD]]
            have hm : V.getD j 0 ∈ V := by
              rw [List.getD_eq_getElem?_getD, List.getElem?_eq_getElem hjl]
              exact List.getElem_mem hjl
            rw [val_le (I.tm _ hm).1.2 G.le]
            exact I.v env j hj'
          · have e1 : j = V.length := by omega
            rw [show (V ++ [t]).getD j 0 = t by rw [e1, List.getD_eq_getElem?_getD, List.getElem?_append_right (Nat.le_refl _)]; simp]
            rw [hval, show j = i by omega]
      obtain ⟨all', any', l2, b2, ws2, V2, I2, hc2⟩ := fm_l0 N hN e he K hK n (i + 1) _ _ _ _ _ _ (by omega) (by omega) I'
      refine ⟨all', any', l2, b2, ws2, V2, I2, fun k0 k1 => ?_⟩
      unfold law3_FixMany_l0 law3_FixMany_l0_T0
      rw [br_dec, if_pos (by omega)]
      refine (hc _).trans ?_
      rw [decide_eq_true rfl, Bool.not_true, br_false, fits_of (by omega), decide_eq_true (by omega)]
      simp only [Bool.and_self, br_true]
      rw [sub_all, w64_succ (by omega), br_dec]
      by_cases ce : i < e.length
      · have hg := he (e.getD i 0) (by
          rw [List.getD_eq_getElem?_getD, List.getElem?_eq_getElem ce]
          exact List.getElem_mem ce)
        have hb : band .u16 (e.getD i 0) (1 : Int) = (x : Int) := by
          obtain ⟨y, hy⟩ : ∃ y : Nat, e.getD i 0 = (y : Int) := ⟨(e.getD i 0).toNat, by omega⟩
          have := mask_and (w := 1) (a := y) (by omega) (by omega)
          rw [hy, hx]
          unfold envB envOf
          rw [if_pos ce, hy, Int.toNat_natCast]
          exact this
        rw [if_pos (by omega), inB_of (by omega), br_true, Int.toNat_natCast, hb]
        exact hc2 k0 k1
      · have hb : (0 : Int) = (x : Int) := by
          rw [hx]
          unfold envB envOf
          rw [if_neg ce]
          rfl
        rw [if_neg (by omega), hb]
        exact hc2 k0 k1
    · have e1 : i = K := by omega
      subst e1
      refine ⟨all, any, l, b, ws, V, I, fun k0 k1 => ?_⟩
      unfold law3_FixMany_l0 law3_FixMany_l0_T0
      rw [decide_eq_false (by omega), br_false]

theorem covers : ∀ (k : Nat) (ys : List Int) (f : Int → Nat), (∀ j < k, ∃ u ∈ ys, f u = j) → k ≤ ys.length
  | 0, _, _, _ => Nat.zero_le _
  | k + 1, ys, f, h => by
    obtain ⟨u, hu, hf⟩ := h k (by omega)
    obtain ⟨s, t, rfl⟩ := List.append_of_mem hu
    have := covers k (s ++ t) f (fun j hj => by
      obtain ⟨w, hw, hfw⟩ := h j (by omega)
      refine ⟨w, ?_, hfw⟩
      rcases List.mem_append.1 hw with hw | hw
      · exact List.mem_append_left _ hw
      · rcases List.mem_cons.1 hw with rfl | hw
        · omega
        · exact List.mem_append_right _ hw)
    simp at this ⊢
    omega

theorem and_one : ∀ (l : List Nat), (∀ x ∈ l, x = 1) → chain1 4 1 l = 1
  | [], _ => rfl
  | x :: l, h => by
    have hx := h x (by simp)
    subst hx
    exact and_one l (fun y hy => h y (List.mem_cons_of_mem _ hy))
theorem and_zero' : ∀ (l : List Nat), chain1 4 0 l = 0
  | [] => rfl
  | x :: l => by
    show chain1 4 (doN 4 1 0 x) l = 0
    rw [show doN 4 1 0 x = 0 by unfold doN; simp]
    exact and_zero' l
theorem and_zero : ∀ (l : List Nat) (z : Nat), 0 ∈ l → chain1 4 z l = 0
  | x :: l, z, h => by
    show chain1 4 (doN 4 1 z x) l = 0
    rcases List.mem_cons.1 h with h | h
    · subst h
      rw [show doN 4 1 z 0 = 0 by unfold doN; simp]
      exact and_zero' l
    · exact and_zero l _ h

theorem fixMany_true (M : Nat) (hM : 80000 ≤ M ∧ M ≤ 2 ^ 61) {R : Type} (n : Int) (e : List Int) (hn : 0 ≤ n ∧ n ≤ 255) (he : ∀ x ∈ e, 0 ≤ x ∧ x < 65536) (k : Bool → Option R) : law3_FixMany (M + 3000) n e k = k true := by
  unfold law3_FixMany law3_FixMany_T
  rw [awake_fm]
  have hN : 70000 ≤ M + 3000 ∧ M + 3000 ≤ 2 ^ 62 := by
    have e1 : (2 : Nat) ^ 61 = 2305843009213693952 := by decide
    have e2 : (2 : Nat) ^ 62 = 4611686018427387904 := by decide
    omega
  generalize M + 3000 = N at hN ⊢
  rw [Bool.not_true, br_false]
  unfold term_New term_New_T
  show br (decide ((100 : Int) < (Nat.cast e.length : Int))) _ _ = _
  rw [br_dec]
  by_cases c2 : (100 : Int) < (Nat.cast e.length : Int)
  · rw [if_pos c2]
  rw [if_neg c2]
  obtain ⟨K, hK, hq⟩ : ∃ K : Nat, K < 60 ∧ Int.tmod (IntKind.wrap .i64 n) 60 = (K : Int) := ⟨(n % 60).toNat, by omega, by rw [w64 (by omega), Int.tmod_eq_emod_of_nonneg hn.1]; omega⟩
  rw [hq]
  obtain ⟨all, any, l, b, ws, V, I, hc⟩ := fm_l0 N hN e he K hK N 0 1 0 [] [] [] [] (by omega) (by omega) ⟨Ar.nil, by simp, rfl, fun j _ => rfl, fun t ht => by simp at ht, fun env j hj => absurd hj (by omega), rfl, rfl⟩
  refine (hc _ _).trans ?_
  have hlen := I.len
  have hfew := I.few
  obtain ⟨x, l1, b1, G1, q1⟩ := join_eq N (by omega) (op := 4) (.inl rfl) (z := 1) (by omega) I.ar ws V (by omega) I.tm (by omega)
  have f1 := G1.few
  obtain ⟨y, l2, b2, G2, q2⟩ := join_eq N (by omega) (op := 5) (.inr rfl) (z := 0) (by omega) G1.ar ws V (by omega) (fun t ht => by
    obtain ⟨h1, h2⟩ := I.tm t ht
    exact ⟨h1.le G1.le, by rw [wd_le h1 G1.le]; exact h2⟩) (by omega)
  have vbits : ∀ env, V.map (val env l) = (List.range K).map (fun j => env j % 2) := fun env => by
    refine List.ext_getElem (by simp [hlen]) fun j h1 h2 => ?_
    have hj : j < V.length := by simpa using h1
    have hv := I.v env j (by omega)
    rw [List.getD_eq_getElem?_getD, List.getElem?_eq_getElem hj] at hv
    simpa using hv
  have vbits1 : ∀ env, V.map (val env l1) = (List.range K).map (fun j => env j % 2) := fun env => by
    rw [← vbits env]
    refine List.map_congr_left fun t ht => ?_
    exact val_le (I.tm t ht).1.2 G1.le
  have hx2 : Tm l2 x := G1.tm.le G2.le
  have vx : ∀ env, val env l2 x = chain1 4 1 ((List.range K).map (fun j => env j % 2)) := fun env => by
    rw [val_le G1.tm.2 G2.le, G1.v, vbits]
  have vy : ∀ env, val env l2 y = chain1 5 0 ((List.range K).map (fun j => env j % 2)) := fun env => by
    rw [G2.v, vbits1]
  unfold fix_All_2549 fix_All_2549_T
  refine (q1 _).trans ?_
  unfold fix_Any_2549 fix_Any_2549_T
  refine (q2 _).trans ?_
  rw [decide_eq_true rfl]
  simp only [br_true]
  refine (Eval_1318 N hN G2.ar ws e he hx2 _).trans ?_
  rw [vx, I.all, decide_eq_true rfl, br_true]
  refine (Eval_1318 N hN G2.ar ws e he G2.tm _).trans ?_
  rw [vy, I.any, decide_eq_true rfl, br_true]
  obtain ⟨ys, C, hu⟩ := Under_eq N G2.ar ws hx2 hN
  unfold fix_Size_43b4 fix_Size_43b4_T
  rw [Node_eq N G2.ar.len, decide_eq_true hx2, Bool.not_true, br_false, hu]
  have h1 : 1 ≤ ys.length := by
    have := C.has
    cases ys with
    | nil => cases this
    | cons a r => simp
  have hKys : K ≤ ys.length := covers K ys (fun u => (nd l2 u).v.toNat) (fun j hj => by
    refine Classical.byContradiction fun hno => ?_
    have hno' : ∀ u ∈ ys, (nd l2 u).v.toNat ≠ j := fun u hu hf => hno ⟨u, hu, hf⟩
    have same := Cl.same G2.ar C (e := fun _ => 1) (f := fun i => if i = j then 0 else 1) (fun u hu _ => by
      rw [if_neg (hno' u hu)]) x.toNat x (by have := hx2.1; omega) C.has
    rw [vx, vx, and_one _ (fun y hy => by
      obtain ⟨i, _, rfl⟩ := List.mem_map.1 hy
      rfl), and_zero _ _ (List.mem_map.2 ⟨j, List.mem_range.2 hj, by simp⟩)] at same
    cases same)
  show k (decide ((if (1 : Int) < (K : Int) then (K : Int) else 1) ≤ (ys.length : Int))) = k true
  rw [decide_eq_true]
  split <;> omega

theorem u16s_wf' {l : List Int} (h : WfT (.isl (.int .u16)) l) : ∀ x ∈ l, 0 ≤ x ∧ x < 65536 := fun x hx => by
  have k := wf_u16 (h.2 x hx)
  omega

end Go.Proofs.Yteagdmkedffplaa
