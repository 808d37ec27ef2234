/-
  inputs by their number (made by castw.py out of CastN, CastNth)
-/
import Derived.Test.YtlfhmecdgfennaaPCastW
set_option linter.unusedVariables false
set_option linter.unusedSimpArgs false
namespace Go.Proofs.Ytlfhmecdgfennaa
open Go.Gx



/-! ### rows of truth values -/
def rowsF : Nat → Int → List (List Bool)
  | 0, _ => [[]]
  | n + 1, m => (rowsF n m).map (false :: ·) ++ (if 0 < m then (rowsF n (m - 1)).map (true :: ·) else [])

theorem rowsF_len : ∀ (n : Nat) (m : Int), 0 < (rowsF n m).length ∧ (rowsF n m).length ≤ 2 ^ n
  | 0, _ => by simp [rowsF]
  | n + 1, m => by
    have h1 := rowsF_len n m
    have h2 := rowsF_len n (m - 1)
    unfold rowsF
    rw [List.length_append, List.length_map, Nat.pow_succ]
    by_cases h : 0 < m
    · rw [if_pos h, List.length_map]; omega
    · rw [if_neg h]; simp; omega
theorem rowsF_mem : ∀ (n : Nat) (m : Int), 0 ≤ m → ∀ r ∈ rowsF n m, r.length = n ∧ cnt r ≤ m
  | 0, m, hm, r, hr => by
    rw [List.mem_singleton.1 hr]
    exact ⟨rfl, by simpa [cnt] using hm⟩
  | n + 1, m, hm, r, hr => by
    unfold rowsF at hr
    rcases List.mem_append.1 hr with hr | hr
    · obtain ⟨s, hs, rfl⟩ := List.mem_map.1 hr
      obtain ⟨h1, h2⟩ := rowsF_mem n m hm s hs
      exact ⟨by simp [h1], by simpa [cnt] using h2⟩
    · by_cases h : 0 < m
      · rw [if_pos h] at hr
        obtain ⟨s, hs, rfl⟩ := List.mem_map.1 hr
        obtain ⟨h1, h2⟩ := rowsF_mem n (m - 1) (by omega) s hs
        exact ⟨by simp [h1], by simp only [cnt, if_true]; omega⟩
      · rw [if_neg h] at hr; exact absurd hr (by simp)
theorem nodup_map {α β : Type} {f : α → β} {l : List α} (h : l.Nodup) (hf : ∀ a b, f a = f b → a = b) : (l.map f).Nodup := by
  rw [List.nodup_iff_pairwise_ne, List.pairwise_map]
  exact h.imp fun hne e => hne (hf _ _ e)
theorem rowsF_nodup : ∀ (n : Nat) (m : Int), (rowsF n m).Nodup
  | 0, _ => by simp [rowsF]
  | n + 1, m => by
    unfold rowsF
    rw [List.nodup_append]
    refine ⟨nodup_map (rowsF_nodup n m) (fun a b h => by simpa using h), ?_, ?_⟩
    · by_cases h : 0 < m
      · rw [if_pos h]; exact nodup_map (rowsF_nodup n (m - 1)) (fun a b h => by simpa using h)
      · rw [if_neg h]; exact List.nodup_nil
    · intro a ha b hb e
      obtain ⟨s, _, rfl⟩ := List.mem_map.1 ha
      by_cases h : 0 < m
      · rw [if_pos h] at hb
        obtain ⟨t, _, rfl⟩ := List.mem_map.1 hb
        simp at e
      · rw [if_neg h] at hb; exact absurd hb (by simp)

theorem app1c {n : Nat} (h : n ≤ 1000) : ((decide ((((1 : Nat) + n) * (1 : Nat)) ≤ (70368744177664 : Nat))) && true) = true := by
  rw [decide_eq_true (by omega)]; rfl
theorem app24n {α : Type} {l : List α} (h : l.length ≤ 1000) : (((fits (0 : Nat) (List.length l) l) && (decide ((((List.length l) + (1 : Nat)) * (24 : Nat)) ≤ (70368744177664 : Nat)))) && true) = true := by
  rw [fits_of (by omega), decide_eq_true (by omega)]; rfl
theorem sub_one {α : Type} (x : α) (l : List α) : sub ((x :: []) ++ l) 0 (1 + l.length) = x :: l := by
  have : 1 + l.length = ((x :: []) ++ l).length := by simp; omega
  rw [this, sub_all]; rfl

theorem rows_l0 (N : Nat) (c0 : Z48_Ty) {R : Type} (k0 : Int → Int → List (List Bool) → Option R) (x0 x1 : Int) (l : List (List Bool)) (hl : l.length ≤ 64) (hr : ∀ r ∈ l, r.length ≤ 10) :
    ∀ (m i n : Nat), l.length - i = m → i ≤ l.length → m < n → ∀ A : List (List Bool), A.length ≤ 500 + i → Z48_l0 N c0 k0 n x0 x1 (i : Int) A l = k0 x0 x1 (A ++ (l.drop i).map (false :: ·)) := by
  intro m
  induction m with
  | zero =>
    intro i n hm hi hn A hA
    obtain ⟨n, rfl⟩ : ∃ n', n = n' + 1 := ⟨n - 1, by omega⟩
    have : i = l.length := by omega
    subst this
    simp only [Z48_l0, Z48_l0_T0]
    rw [br_not (decide_eq_false (by omega)), List.drop_length, List.map_nil, List.append_nil]
  | succ m ih =>
    intro i n hm hi hn A hA
    obtain ⟨n, rfl⟩ : ∃ n', n = n' + 1 := ⟨n - 1, by omega⟩
    have hlt : i < l.length := by omega
    have hri := hr l[i] (List.getElem_mem hlt)
    simp only [Z48_l0, Z48_l0_T0, Int.toNat_natCast, getD_at hlt]
    rw [br_of (decide_eq_true (by omega)), br_of (inB_of (by omega)), br_of (decide_eq_true hlt), br_of (app1c (by omega)), br_of (fits_of (by simp; omega)), br_of (app24n (by omega)), w64_succ (by omega), sub_all, sub_one,
      ih (i + 1) n (by omega) (by omega) (by omega) _ (by simp; omega), List.drop_eq_getElem_cons hlt, List.map_cons, List.append_assoc]
    rfl

theorem rows_l1 (N : Nat) (c0 : Z48_Ty) {R : Type} (k0 : List (List Bool) → Option R) (l : List (List Bool)) (hl : l.length ≤ 64) (hr : ∀ r ∈ l, r.length ≤ 10) :
    ∀ (m i n : Nat), l.length - i = m → i ≤ l.length → m < n → ∀ A : List (List Bool), A.length ≤ 500 + i → Z48_l1 N c0 k0 n (i : Int) A l = k0 (A ++ (l.drop i).map (true :: ·)) := by
  intro m
  induction m with
  | zero =>
    intro i n hm hi hn A hA
    obtain ⟨n, rfl⟩ : ∃ n', n = n' + 1 := ⟨n - 1, by omega⟩
    have : i = l.length := by omega
    subst this
    simp only [Z48_l1, Z48_l1_T0]
    rw [br_not (decide_eq_false (by omega)), List.drop_length, List.map_nil, List.append_nil]
  | succ m ih =>
    intro i n hm hi hn A hA
    obtain ⟨n, rfl⟩ : ∃ n', n = n' + 1 := ⟨n - 1, by omega⟩
    have hlt : i < l.length := by omega
    have hri := hr l[i] (List.getElem_mem hlt)
    simp only [Z48_l1, Z48_l1_T0, Int.toNat_natCast, getD_at hlt]
    rw [br_of (decide_eq_true (by omega)), br_of (inB_of (by omega)), br_of (decide_eq_true hlt), br_of (app1c (by omega)), br_of (fits_of (by simp; omega)), br_of (app24n (by omega)), w64_succ (by omega), sub_all, sub_one,
      ih (i + 1) n (by omega) (by omega) (by omega) _ (by simp; omega), List.drop_eq_getElem_cons hlt, List.map_cons, List.append_assoc]
    rfl

theorem pow_small {a : Nat} (h : a ≤ 6) : 2 ^ a ≤ 64 := by
  have : a = 0 ∨ a = 1 ∨ a = 2 ∨ a = 3 ∨ a = 4 ∨ a = 5 ∨ a = 6 := by omega
  rcases this with h | h | h | h | h | h | h <;> subst h <;> decide

theorem rowsF_row : ∀ (n : Nat) (m : Int), ∀ r ∈ rowsF n m, r.length = n
  | 0, m, r, hr => by rw [List.mem_singleton.1 hr]; rfl
  | n + 1, m, r, hr => by
    unfold rowsF at hr
    rcases List.mem_append.1 hr with hr | hr
    · obtain ⟨s, hs, rfl⟩ := List.mem_map.1 hr
      simp [rowsF_row n m s hs]
    · by_cases h : 0 < m
      · rw [if_pos h] at hr
        obtain ⟨s, hs, rfl⟩ := List.mem_map.1 hr
        simp [rowsF_row n (m - 1) s hs]
      · rw [if_neg h] at hr; exact absurd hr (by simp)

theorem rows_rec (N : Nat) (hN : 100 < N) : ∀ (a n : Nat), a < n → a ≤ 6 → ∀ (m : Int), -1000 ≤ m → m ≤ 1000 → ∀ {R : Type} (k : List (List Bool) → Option R), (G_Z48_rec N n).Z48 (a : Int) m k = k (rowsF a m)
  | _, 0, h, _, _, _, _, _, _ => by omega
  | 0, n + 1, _, _, m, _, _, R, k => by
    show Z48_T N (@G_Z48_Rec.Z48 (G_Z48_rec N n)) (@Z48_l0 N (@G_Z48_Rec.Z48 (G_Z48_rec N n))) (@Z48_l1 N (@G_Z48_Rec.Z48 (G_Z48_rec N n))) ((0 : Nat) : Int) m k = _
    unfold Z48_T
    rw [br_of (decide_eq_true (by omega))]
    rfl
  | a + 1, n + 1, h, h6, m, hm0, hm1, R, k => by
    have ih := rows_rec N hN a n (by omega) (by omega)
    have hw : IntKind.wrap .i64 (((a + 1 : Nat) : Int) - 1) = (a : Int) := by rw [w64 (by omega)]; omega
    have hw2 : IntKind.wrap .i64 (m - 1) = m - 1 := w64 (by omega)
    have hlen : ∀ m, (rowsF a m).length ≤ 64 := fun m => Nat.le_trans (rowsF_len a m).2 (pow_small (by omega))
    show Z48_T N (@G_Z48_Rec.Z48 (G_Z48_rec N n)) (@Z48_l0 N (@G_Z48_Rec.Z48 (G_Z48_rec N n))) (@Z48_l1 N (@G_Z48_Rec.Z48 (G_Z48_rec N n))) ((a + 1 : Nat) : Int) m k = _
    unfold Z48_T
    rw [br_not (decide_eq_false (by omega)), hw, ih m (by omega) (by omega)]
    refine (rows_l0 N _ _ _ m (rowsF a m) (hlen m) (fun r hr => by rw [rowsF_row a m r hr]; omega) _ 0 N rfl (by omega) (by have := hlen m; omega) [] (by simp)).trans ?_
    rw [List.nil_append, List.drop_zero, hw, hw2, br_dec, show rowsF (a + 1) m = (rowsF a m).map (false :: ·) ++ (if 0 < m then (rowsF a (m - 1)).map (true :: ·) else []) from rfl]
    by_cases h : 0 < m
    · rw [if_pos h, if_pos h, ih (m - 1) (by omega) (by omega)]
      refine (rows_l1 N _ _ (rowsF a (m - 1)) (hlen (m - 1)) (fun r hr => by rw [rowsF_row a (m - 1) r hr]; omega) _ 0 N rfl (by omega) (by have := hlen (m - 1); omega) _ (by have := hlen m; simp; omega)).trans ?_
      rw [List.drop_zero]
    · rw [if_neg h, if_neg h, List.append_nil]

theorem rows_eq {R : Type} (N : Nat) (hN : 100 < N) (a b : Int) (h0 : 0 ≤ a) (h6 : a ≤ 6) (hb : 0 ≤ b ∧ b ≤ 6) (k : List (List Bool) → Option R) : Z48 N a b k = k (rowsF a.toNat b) := by
  have := rows_rec N hN a.toNat N (by omega) (by omega) b (by omega) (by omega) k
  rw [show ((a.toNat : Nat) : Int) = a by omega] at this
  exact this

/-! ### texts by number -/
def txt (c : Int) : Int := if c ≤ 0 then 1 else if c ≤ 1 then 257 else if c ≤ 2 then 65793 else 16843009
theorem texts_eq {R : Type} (N : Nat) (hN : 10 < N) (c : Int) (h : 0 ≤ c ∧ c ≤ 3) (k : Int → Option R) : Z50 N c k = k (txt c) := by
  obtain ⟨n, rfl⟩ : ∃ n, N = n + 8 := ⟨N - 8, by omega⟩
  have : c = 0 ∨ c = 1 ∨ c = 2 ∨ c = 3 := by omega
  rcases this with h | h | h | h <;> subst h <;> rfl
theorem txt_pos (c : Int) : 1 ≤ txt c ∧ txt c ≤ 16843009 := by
  unfold txt
  split
  · omega
  · split
    · omega
    · split <;> omega

def textF (n : Int) : List Int := if n < 1 then [] else if n < 257 then [(n - 1) % 256] else if n < 65793 then [(n - 257) / 256 % 256, (n - 257) % 256] else [(n - 65793) / 256 / 256 % 256, (n - 65793) / 256 % 256, (n - 65793) % 256]

theorem textF_byt (n : Int) : Byt (textF n) := by
  intro x hx
  unfold textF at hx
  split at hx
  · exact absurd hx (by simp)
  · split at hx
    · simp only [List.mem_singleton] at hx; omega
    · split at hx
      · simp only [List.mem_cons, List.not_mem_nil, or_false] at hx; omega
      · simp only [List.mem_cons, List.not_mem_nil, or_false] at hx; omega
theorem textF_len {n c : Int} (h : 0 ≤ c) (hn : n < txt c) : ((textF n).length : Int) ≤ c := by
  unfold txt at hn
  unfold textF
  split
  · simpa using h
  · split
    · split at hn
      · omega
      · simp; omega
    · split at hn
      · omega
      · split at hn
        · omega
        · split
          · simp; omega
          · split at hn
            · omega
            · simp; omega
theorem textF_inj {a b : Int} (ha : 0 ≤ a ∧ a < 16843009) (hb : 0 ≤ b ∧ b < 16843009) (h : textF a = textF b) : a = b := by
  unfold textF at h
  by_cases a1 : a < 1
  · rw [if_pos a1] at h
    by_cases b1 : b < 1
    · omega
    · rw [if_neg b1] at h
      by_cases b2 : b < 257
      · rw [if_pos b2] at h; exact absurd h (by simp)
      · rw [if_neg b2] at h
        by_cases b3 : b < 65793
        · rw [if_pos b3] at h; exact absurd h (by simp)
        · rw [if_neg b3] at h; exact absurd h (by simp)
  · rw [if_neg a1] at h
    by_cases a2 : a < 257
    · rw [if_pos a2] at h
      by_cases b1 : b < 1
      · rw [if_pos b1] at h; exact absurd h (by simp)
      · rw [if_neg b1] at h
        by_cases b2 : b < 257
        · rw [if_pos b2] at h
          simp only [List.cons.injEq, and_true] at h
          omega
        · rw [if_neg b2] at h
          by_cases b3 : b < 65793
          · rw [if_pos b3] at h; exact absurd h (by simp)
          · rw [if_neg b3] at h; exact absurd h (by simp)
    · rw [if_neg a2] at h
      by_cases a3 : a < 65793
      · rw [if_pos a3] at h
        by_cases b1 : b < 1
        · rw [if_pos b1] at h; exact absurd h (by simp)
        · rw [if_neg b1] at h
          by_cases b2 : b < 257
          · rw [if_pos b2] at h; exact absurd h (by simp)
          · rw [if_neg b2] at h
            by_cases b3 : b < 65793
            · rw [if_pos b3] at h
              simp only [List.cons.injEq, and_true] at h
              omega
            · rw [if_neg b3] at h; exact absurd h (by simp)
      · rw [if_neg a3] at h
        by_cases b1 : b < 1
        · rw [if_pos b1] at h; exact absurd h (by simp)
        · rw [if_neg b1] at h
          by_cases b2 : b < 257
          · rw [if_pos b2] at h; exact absurd h (by simp)
          · rw [if_neg b2] at h
            by_cases b3 : b < 65793
            · rw [if_pos b3] at h; exact absurd h (by simp)
            · rw [if_neg b3] at h
              simp only [List.cons.injEq, and_true] at h
              omega

theorem text_eq {R : Type} (N : Nat) (hN : 20 < N) (n : Int) (h : 0 ≤ n ∧ n < 16843009) (k : List Int → Option R) : Z49 N n k = k (textF n) := by
  obtain ⟨m, rfl⟩ : ∃ m, N = m + 8 := ⟨N - 8, by omega⟩
  unfold Z49 Z49_T textF
  by_cases h1 : n < 1
  · simp only [Z49_l0, Z49_l0_T0]
    rw [if_pos h1, br_not (decide_eq_false (by omega))]
    rfl
  · rw [if_neg h1]
    have e1 : IntKind.wrap .i64 (n - 1) = n - 1 := w64 (by omega)
    by_cases h2 : n < 257
    · rw [if_pos h2]
      simp only [Z49_l0, Z49_l0_T0]
      rw [br_of (decide_eq_true (by omega)), show IntKind.wrap .i64 (1 * 256) = 256 from rfl, e1, br_not (decide_eq_false (by omega)), ← wu8_mod]
      rfl
    · rw [if_neg h2]
      have e2 : IntKind.wrap .i64 (n - 1 - 256) = n - 257 := by rw [w64 (by omega)]; omega
      have d1 : IntKind.wrap .i64 (Int.tdiv (n - 257) 256) = (n - 257) / 256 := by rw [Int.tdiv_eq_ediv_of_nonneg (by omega), w64 (by omega)]
      by_cases h3 : n < 65793
      · rw [if_pos h3]
        simp only [Z49_l0, Z49_l0_T0]
        rw [br_of (decide_eq_true (by omega)), show IntKind.wrap .i64 (1 * 256) = 256 from rfl, e1, br_of (decide_eq_true (by omega)), e2, show IntKind.wrap .i64 (256 * 256) = 65536 from rfl, br_not (decide_eq_false (by omega)), ← wu8_mod, ← wu8_mod, ← d1]
        rfl
      · rw [if_neg h3]
        have e3 : IntKind.wrap .i64 (n - 257 - 65536) = n - 65793 := by rw [w64 (by omega)]; omega
        have d1 : IntKind.wrap .i64 (Int.tdiv (n - 65793) 256) = (n - 65793) / 256 := by rw [Int.tdiv_eq_ediv_of_nonneg (by omega), w64 (by omega)]
        have d2 : IntKind.wrap .i64 (Int.tdiv ((n - 65793) / 256) 256) = (n - 65793) / 256 / 256 := by rw [Int.tdiv_eq_ediv_of_nonneg (by omega), w64 (by omega)]
        simp only [Z49_l0, Z49_l0_T0]
        rw [br_of (decide_eq_true (by omega)), show IntKind.wrap .i64 (1 * 256) = 256 from rfl, e1, br_of (decide_eq_true (by omega)), e2, show IntKind.wrap .i64 (256 * 256) = 65536 from rfl, br_of (decide_eq_true (by omega)), e3,
          show IntKind.wrap .i64 (65536 * 256) = 16777216 from rfl, br_not (decide_eq_false (by omega)), ← wu8_mod, ← wu8_mod, ← wu8_mod, ← d2, ← d1]
        rfl



/-! ### a class with many arguments -/
theorem app8b {α : Type} {l : List α} {z : Nat} (h : l.length ≤ 1000) (hz : z ≤ 10000000) : (((fits (0 : Nat) (List.length l) l) && (decide ((((List.length l) + z) * (8 : Nat)) ≤ (70368744177664 : Nat)))) && true) = true := by
  rw [fits_of (by omega), decide_eq_true (by omega)]; rfl
theorem refMay_eqB {R : Type} (N : Nat) (hN : 300 < N) (L : List EN) (S : List Int) (hS : S.length ≤ 10000000) (a b c : Int) (k : Bool → Option R) : Z45 N L S a b c k = k (mayB L S a b c) := by
  by_cases h100 : S.length ≤ 100
  · exact refMay_eq17 N hN L S h100 a b c k
  have hm : mayB L S a b c = false := by
    unfold mayB
    rw [decide_eq_false (p := S.length ≤ 2) (by omega)]
    simp
  rw [hm]
  unfold Z45 Z45_T
  refine (refNew_eq N (by omega) L _ _ _ _ rfl (fun _ _ => rfl)).trans ?_
  by_cases h : okT L = true
  · have hL := okT_len h
    rw [if_pos h]
    show Z47 N L S a b c _ = _
    unfold Z47 Z47_T Z43 Z43_T
    have hcl := caps_len L
    refine (refCaps_l0 N L (by omega) S a b c _ L.length 0 N (by omega) (by omega) (by omega) [] (by simp)).trans ?_
    have hld : listDec (Sh.dec (.int .i64)) S S = true := listDec_int .i64 S
    dsimp only
    rw [List.nil_append, List.drop_zero, sub_all, br_of (app8b (by omega) hS), br_of hld, br_of (decide_eq_true rfl), br_ndec]
    split
    · rfl
    · rw [br_not (by rw [decide_eq_true (by omega)]; rfl)]
  · rw [if_neg h]; rfl

/-! ### how many -/
def prodT : List Int → Int
  | [] => 1
  | c :: r => txt c * prodT r
theorem prodT_pos : ∀ C : List Int, 1 ≤ prodT C
  | [] => by simp [prodT]
  | c :: r => by
    have h1 := prodT_pos r
    have h2 := (txt_pos c).1
    unfold prodT
    exact Int.le_trans h1 (by have := Int.mul_le_mul_of_nonneg_right h2 (show 0 ≤ prodT r by omega); omega)
theorem mul_small {x y : Int} (hx : 0 ≤ x) (hy : 1 ≤ y) (h : x * y < 65536) : x < 65536 := by
  have := Int.mul_le_mul_of_nonneg_left hy hx
  omega

theorem count_l0 (N : Nat) (hN : 100 < N) (C : List Int) (hC : Fit C) (hl : C.length ≤ 50) :
    ∀ (m i n : Nat), C.length - i = m → i ≤ C.length → m < n → ∀ s : Int, ∃ z : Int, (0 ≤ s → s * prodT (C.drop i) < 65536 → z = s * prodT (C.drop i)) ∧ ∀ {R : Type} (k : Int → Option R), Z44_l0 N k n s (i : Int) C = k z := by
  intro m
  induction m with
  | zero =>
    intro i n hm hi hn s
    obtain ⟨n, rfl⟩ : ∃ n', n = n' + 1 := ⟨n - 1, by omega⟩
    have : i = C.length := by omega
    subst this
    refine ⟨s, fun _ _ => by rw [List.drop_length]; simp [prodT], fun {R} k => ?_⟩
    simp only [Z44_l0, Z44_l0_T0]
    rw [br_not (decide_eq_false (by omega))]
  | succ m ih =>
    intro i n hm hi hn s
    obtain ⟨n, rfl⟩ : ∃ n', n = n' + 1 := ⟨n - 1, by omega⟩
    have hlt : i < C.length := by omega
    have hb := hC C[i] (List.getElem_mem hlt)
    obtain ⟨z, hz, hk⟩ := ih (i + 1) n (by omega) (by omega) (by omega) (if 1099511627776 < IntKind.wrap .i64 (s * txt C[i]) then 1099511627776 else IntKind.wrap .i64 (s * txt C[i]))
    refine ⟨z, fun hs hp => ?_, fun {R} k => ?_⟩
    · rw [List.drop_eq_getElem_cons hlt] at hp ⊢
      have ht := txt_pos C[i]
      have hq := prodT_pos (C.drop (i + 1))
      have e : s * prodT (C[i] :: C.drop (i + 1)) = (s * txt C[i]) * prodT (C.drop (i + 1)) := by
        show s * (txt C[i] * _) = _
        rw [Int.mul_assoc]
      rw [e] at hp ⊢
      have h0 : 0 ≤ s * txt C[i] := Int.mul_nonneg hs (by omega)
      have h1 := mul_small h0 hq hp
      have hw : IntKind.wrap .i64 (s * txt C[i]) = s * txt C[i] := w64 (by omega)
      rw [hw, if_neg (by omega)] at hz
      exact hz h0 hp
    · simp only [Z44_l0, Z44_l0_T0, Int.toNat_natCast, getD_at hlt]
      rw [br_of (decide_eq_true (by omega)), br_of (inB_of (by omega)), br_of (decide_eq_true hlt), texts_eq N (by omega) _ hb, w64_succ (by omega)]
      exact hk k

def manyT (L : List EN) (S : List Int) (a b : Int) : Int := ((rowsF a.toNat b).length : Int) * prodT (capsL L ++ S)

theorem may_rows {L : List EN} {S : List Int} {a b c : Int} (h : mayB L S a b c = true) : 0 ≤ b ∧ b ≤ a := by
  unfold mayB at h
  simp only [Bool.and_eq_true, decide_eq_true_eq] at h
  exact fitB_iff.1 h.1.2

theorem Count_eq (N : Nat) (hN : 300 < N) (L : List EN) (S : List Int) (hS : S.length ≤ 10000000) (a b c : Int) (H : mayB L S a b c = true) :
    ∃ z : Int, (manyT L S a b < 65536 → z = manyT L S a b) ∧ ∀ {R : Type} (k : Int → Option R), Z44 N L S a b c k = k z := by
  obtain ⟨hf, hL8, hS2, hC6, ha0, ha6⟩ := may_fit H
  have hb := may_rows H
  have hcl := caps_len L
  obtain ⟨z, h1, h2⟩ := count_l0 N (by omega) (capsL L ++ S) hf (by omega) _ 0 N rfl (by omega) (by omega) ((rowsF a.toNat b).length : Int)
  refine ⟨z, fun h => h1 (by omega) h, fun {R} k => ?_⟩
  unfold Z44 Z44_T
  rw [refMay_eqB N (by omega) L S hS, H, br_not (b := !true) rfl, rows_eq N (by omega) a b ha0 ha6 (by omega), refCaps_eq N (by omega) L (by omega) S (by omega)]
  exact h2 k

/-! ### the one of a number -/
/-- the texts of a number, the last first -/
def digF : Int → List Int → List (List Int)
  | _, [] => []
  | n, c :: r => textF (n % txt c) :: digF (n / txt c) r
theorem digF_len : ∀ (n : Int) (C : List Int), (digF n C).length = C.length
  | _, [] => rfl
  | n, c :: r => by simp [digF, digF_len _ r]
theorem digF_inj : ∀ (C : List Int) (a b : Int), 0 ≤ a → 0 ≤ b → a < prodT C → b < prodT C → digF a C = digF b C → a = b
  | [], a, b, h1, h2, h3, h4, _ => by
    have h3 : a < 1 := h3
    have h4 : b < 1 := h4
    omega
  | c :: r, a, b, h1, h2, h3, h4, h => by
    have ht := txt_pos c
    simp only [digF, List.cons.injEq] at h
    have d : ∀ x, 0 ≤ x → x < prodT (c :: r) → x / txt c < prodT r := fun x h0 hx => by
      have hx : x < txt c * prodT r := hx
      exact Int.ediv_lt_of_lt_mul (by omega) (by rw [Int.mul_comm]; exact hx)
    have e2 := digF_inj r (a / txt c) (b / txt c) (Int.ediv_nonneg h1 (by omega)) (Int.ediv_nonneg h2 (by omega)) (d a h1 h3) (d b h2 h4) h.2
    have m1 := Int.emod_nonneg a (show txt c ≠ 0 by omega)
    have m2 := Int.emod_nonneg b (show txt c ≠ 0 by omega)
    have m3 := Int.emod_lt_of_pos a (show 0 < txt c by omega)
    have m4 := Int.emod_lt_of_pos b (show 0 < txt c by omega)
    have e1 := textF_inj (by omega) (by omega) h.1
    rw [← Int.mul_ediv_add_emod a (txt c), ← Int.mul_ediv_add_emod b (txt c), e1, e2]

def nthT (C : List Int) (n : Int) : List (List Int) := (digF n C.reverse).reverse
theorem nthT_len (C : List Int) (n : Int) : (nthT C n).length = C.length := by simp [nthT, digF_len]
theorem nthT_snoc (C : List Int) (c n : Int) : nthT (C ++ [c]) n = nthT C (n / txt c) ++ [textF (n % txt c)] := by
  simp [nthT, digF]
theorem prodT_app : ∀ (A B : List Int), prodT (A ++ B) = prodT A * prodT B
  | [], B => by simp [prodT]
  | x :: r, B => by rw [List.cons_append]; simp only [prodT]; rw [prodT_app r B, Int.mul_assoc]
theorem prodT_rev (C : List Int) : prodT C.reverse = prodT C := by
  induction C with
  | nil => rfl
  | cons c r ih =>
    rw [List.reverse_cons, prodT_app, ih]
    simp only [prodT]
    rw [Int.mul_one, Int.mul_comm]
theorem nthT_inj (C : List Int) (a b : Int) (h1 : 0 ≤ a) (h2 : 0 ≤ b) (h3 : a < prodT C) (h4 : b < prodT C) (h : nthT C a = nthT C b) : a = b :=
  digF_inj C.reverse a b h1 h2 (by rw [prodT_rev]; exact h3) (by rw [prodT_rev]; exact h4) (List.reverse_inj.1 h)
theorem digF_ok : ∀ (C : List Int), Fit C → ∀ n : Int, (∀ t ∈ digF n C, Byt t) ∧ ∀ i (h : i < (digF n C).length), (((digF n C)[i]).length : Int) ≤ C.getD i 0
  | [], _, n => ⟨fun t ht => absurd ht (by simp [digF]), fun i h => absurd h (by simp [digF])⟩
  | c :: r, hf, n => by
    obtain ⟨h1, h2⟩ := digF_ok r (fun z hz => hf z (List.mem_cons_of_mem _ hz)) (n / txt c)
    have ht := txt_pos c
    have hc := hf c List.mem_cons_self
    refine ⟨fun t h => ?_, fun i h => ?_⟩
    · rcases List.mem_cons.1 h with h | h
      · rw [h]; exact textF_byt _
      · exact h1 t h
    · cases i with
      | zero => exact textF_len hc.1 (Int.emod_lt_of_pos n (by omega))
      | succ i => exact h2 i (by simpa [digF] using h)
theorem fitT_of : ∀ {C : List Int} {T : List (List Int)}, T.length = C.length → (∀ i (h : i < T.length), (T[i].length : Int) ≤ C.getD i 0) → fitT C T = true
  | [], [], _, _ => rfl
  | [], t :: T, h, _ => by simp at h
  | c :: C, [], h, _ => by simp at h
  | c :: C, t :: T, h, hi => by
    unfold fitT
    rw [Bool.and_eq_true]
    exact ⟨decide_eq_true (hi 0 (by simp)), fitT_of (by simpa using h) fun i h => hi (i + 1) (by simpa using h)⟩
theorem nthT_ok (C : List Int) (hf : Fit C) (n : Int) : (∀ t ∈ nthT C n, Byt t) ∧ fitT C (nthT C n) = true := by
  have hfr : Fit C.reverse := fun z hz => hf z (List.mem_reverse.1 hz)
  obtain ⟨h1, h2⟩ := digF_ok C.reverse hfr n
  refine ⟨fun t ht => h1 t (List.mem_reverse.1 ht), fitT_of (nthT_len C n) fun i h => ?_⟩
  have hl : (nthT C n).length = C.length := nthT_len C n
  have hd : (digF n C.reverse).length = C.length := by rw [digF_len, List.length_reverse]
  have h3 := h2 (C.length - 1 - i) (by rw [hd]; omega)
  have e1 : (nthT C n)[i] = (digF n C.reverse)[C.length - 1 - i]'(by rw [hd]; omega) := by
    simp only [nthT, List.getElem_reverse, hd]
  have e2 : C.reverse.getD (C.length - 1 - i) 0 = C.getD i 0 := by
    rw [getD_at (by rw [List.length_reverse]; omega), getD_at (show i < C.length by omega), List.getElem_reverse]
    congr 1
    omega
  rw [e1, ← e2]
  exact h3

theorem nth_l0 {R : Type} (N : Nat) (hN : 100 < N) (L : List EN) (S : List Int) (a b c : Int) (y1 y2 : List (List Int)) (X1 X : List Bool) (y3 y4 : List (List Int)) (C : List Int) (hC : Fit C) (hl : C.length ≤ 50)
    (k : List EN → List Int → Int → Int → Int → List (List Int) → List (List Int) → List Bool → List Bool → List (List Int) → List (List Int) → List (List Int) → Option R) :
    ∀ (q n : Nat), q ≤ C.length → q < n → ∀ (v : Int) (D : List (List Int)), 0 ≤ v → v ≤ 1000000 → q + D.length = C.length → Z46_l0 N k n v ((q : Int) - 1) L S a b c y1 y2 X1 X y3 y4 C (List.replicate q [] ++ D) = k L S a b c y1 y2 X1 X y3 y4 (nthT (C.take q) v ++ D) := by
  intro q
  induction q with
  | zero =>
    intro n hq hn v D hv0 hv1 hD
    obtain ⟨n, rfl⟩ : ∃ n', n = n' + 1 := ⟨n - 1, by omega⟩
    simp only [Z46_l0, Z46_l0_T0]
    rw [br_not (decide_eq_false (by omega))]
    rfl
  | succ q ih =>
    intro n hq hn v D hv0 hv1 hD
    obtain ⟨n, rfl⟩ : ∃ n', n = n' + 1 := ⟨n - 1, by omega⟩
    have hlt : q < C.length := by omega
    have hb := hC C[q] (List.getElem_mem hlt)
    have ht := txt_pos C[q]
    have e0 : (((q + 1 : Nat) : Int) - 1) = (q : Int) := by omega
    have m0 := Int.emod_nonneg v (show txt C[q] ≠ 0 by omega)
    have m1 := Int.emod_lt_of_pos v (show 0 < txt C[q] by omega)
    have d0 := Int.ediv_nonneg hv0 (show 0 ≤ txt C[q] by omega)
    have d1 : v / txt C[q] ≤ v := Int.ediv_le_self _ hv0
    have hlen : (List.replicate (q + 1) ([] : List Int) ++ D).length = C.length := by rw [List.length_append, List.length_replicate, hD]
    have hset : (List.replicate (q + 1) ([] : List Int) ++ D).set q (textF (v % txt C[q])) = List.replicate q [] ++ (textF (v % txt C[q]) :: D) := by
      rw [List.replicate_succ', List.append_assoc, List.set_append_right _ _ (by simp)]
      simp
    rw [e0]
    simp only [Z46_l0, Z46_l0_T0, Int.toNat_natCast, getD_at hlt]
    rw [br_of (decide_eq_true (by omega)), br_of (inB_of (by omega)), br_of (decide_eq_true hlt), texts_eq N (by omega) _ hb, br_not (decide_eq_false (by omega)), Int.tmod_eq_emod_of_nonneg hv0, text_eq N (by omega) _ (by omega),
      br_of (inB_of (by rw [hlen]; omega)), br_of (fits_of (by omega)), br_of (decide_eq_true (by rw [hlen]; exact hlt)), br_not (decide_eq_false (by omega)), Int.tdiv_eq_ediv_of_nonneg hv0, w64 (x := v / txt C[q]) (by omega), w64 (x := (q : Int) - 1) (by omega), sub_all]
    refine (congrArg _ hset).trans ?_
    refine (ih n (by omega) (by omega) (v / txt C[q]) (textF (v % txt C[q]) :: D) d0 (by omega) (by simp; omega)).trans ?_
    rw [show C.take (q + 1) = C.take q ++ [C[q]] from by rw [List.take_add_one, List.getElem?_eq_getElem hlt]; rfl, nthT_snoc, List.append_assoc]
    rfl

theorem files_eq17 {R : Type} (N : Nat) (hN : 200 < N) (L : List EN) (S : List Int) (a b c : Int) (hL : L.length ≤ 60) (hS : S.length ≤ 60) (k : Int → Option R) : Z47 N L S a b c k = k ((capsL L).length : Int) := by
  unfold Z47 Z47_T
  have hcl := caps_len L
  have hld : listDec (Sh.dec (.int .i64)) S S = true := listDec_int .i64 S
  have hw : IntKind.wrap .i64 (((capsL L ++ S).length : Int) - (S.length : Int)) = ((capsL L).length : Int) := by
    rw [List.length_append, w64 (by omega)]; omega
  rw [refCaps_eq N (by omega) L (by omega) S (by omega), br_of hld, br_of (decide_eq_true rfl), hw]

def rowAt (a b n : Int) : List Bool := (rowsF a.toNat b).getD (n % ((rowsF a.toNat b).length : Int)).toNat []
def txtAt (L : List EN) (S : List Int) (a b n : Int) : List (List Int) := nthT (capsL L ++ S) (n / ((rowsF a.toNat b).length : Int))

theorem listDec_en (L : List EN) : listDec (Sh.dec (.pair .str (.pair .bool (.int .i64)))) L L = true := listDec_dec (.pair .str (.pair .bool (.int .i64))) L

theorem Nth_eq (N : Nat) (hN : 300 < N) (L : List EN) (S : List Int) (hS : S.length ≤ 10000000) (a b c : Int) (n : Int) (hn : 0 ≤ n ∧ n ≤ 65535) :
    ∃ ok : Bool, (ok = true → mayB L S a b c = true ∧ n < manyT L S a b) ∧ ∀ {R : Type} (k0 : List Bool → Bool → List (List Int) → List (List Int) → Option R) (k1 : Nat → Nat → Nat → Nat → List Bool → Bool → Nat → List (List Int) → Option R),
      Z46 N L S a b c n k0 k1 = if ok = true then k1 (capsL L).length (txtAt L S a b n).length (capsL L).length ((txtAt L S a b n).length - (capsL L).length) (rowAt a b n) true (txtAt L S a b n).length (txtAt L S a b n) else k0 [] false [] [] := by
  cases H : mayB L S a b c with
  | false =>
    refine ⟨false, fun h => absurd h (by decide), fun {R} k0 k1 => ?_⟩
    rw [if_neg (by decide)]
    unfold Z46 Z46_T Z44 Z44_T
    rw [refMay_eqB N (by omega) L S hS, H, br_of (b := !false) rfl]
    dsimp only
    rw [br_of (by rw [decide_eq_false (by omega)]; rfl), br_not (by rw [decide_eq_true (by omega)]; rfl)]
  | true =>
    obtain ⟨hf, hL8, hS2, hC6, ha0, ha6⟩ := may_fit H
    have hb := may_rows H
    have hcl := caps_len L
    have hrl := rowsF_len a.toNat b
    have hr64 := pow_small (a := a.toNat) (by omega)
    obtain ⟨z, hz, hcount⟩ := Count_eq N hN L S hS a b c H
    refine ⟨decide (n < z) && decide (z < 1099511627776), fun h => ?_, fun {R} k0 k1 => ?_⟩
    · simp only [Bool.and_eq_true, decide_eq_true_eq] at h
      refine ⟨rfl, ?_⟩
      by_cases hs : manyT L S a b < 65536
      · rw [← hz hs]; exact h.1
      · omega
    · unfold Z46 Z46_T
      rw [hcount, br_of (by rw [decide_eq_false (by omega)]; rfl), br_ndec]
      by_cases h1 : n < z
      · rw [if_neg (by omega), decide_eq_true h1, Bool.true_and, br_dec]
        by_cases h2 : z < 1099511627776
        · rw [if_neg (by omega), decide_eq_true h2, if_pos rfl, rows_eq N (by omega) a b ha0 ha6 (by omega)]
          have m0 := Int.emod_nonneg n (show ((rowsF a.toNat b).length : Int) ≠ 0 by omega)
          have m1 := Int.emod_lt_of_pos n (show 0 < ((rowsF a.toNat b).length : Int) by omega)
          have d0 := Int.ediv_nonneg hn.1 (show 0 ≤ ((rowsF a.toNat b).length : Int) by omega)
          have d1 : n / ((rowsF a.toNat b).length : Int) ≤ n := Int.ediv_le_self _ hn.1
          rw [br_not (decide_eq_false (by omega)), Int.tmod_eq_emod_of_nonneg hn.1, br_of (inB_of (by omega)), br_of (decide_eq_true (by omega)), br_not (decide_eq_false (by omega)), refCaps_eq N (by omega) L (by omega) S (by omega),
            br_of (by rw [decide_eq_true (by omega), decide_eq_true (by omega), decide_eq_true (by omega)]; rfl), Int.tdiv_eq_ediv_of_nonneg hn.1, w64 (x := n / ((rowsF a.toNat b).length : Int)) (by omega), w64 (x := ((capsL L ++ S).length : Int) - 1) (by omega)]
          have hlenC : (capsL L ++ S).length = (capsL L).length + S.length := List.length_append
          have hT : (txtAt L S a b n).length = (capsL L ++ S).length := nthT_len _ _
          have h3 := fun K => nth_l0 (R := R) N (by omega) L S a b c [] [] [] (rowAt a b n) [] [] (capsL L ++ S) hf (by omega) K (capsL L ++ S).length N (Nat.le_refl _) (by omega) (n / ((rowsF a.toNat b).length : Int)) [] d0 (by omega) (by simp)
          simp only [List.append_nil, List.take_length] at h3
          refine (h3 _).trans ?_
          rw [show nthT (capsL L ++ S) (n / ((rowsF a.toNat b).length : Int)) = txtAt L S a b n from rfl, files_eq17 N (by omega) L S a b c (by omega) (by omega), br_of (listDec_en L), br_of (listDec_int .i64 S), br_of (decide_eq_true rfl), br_of (decide_eq_true rfl), br_of (decide_eq_true rfl),
            br_of (leB_of (by omega)), files_eq17 N (by omega) L S a b c (by omega) (by omega), br_of (leB_of (by omega)), br_of (decide_eq_true rfl), br_of (decide_eq_true rfl), br_of (leB_of (by omega)), br_of (leB_of (by omega)), br_of (by rw [decide_eq_true rfl, decide_eq_true rfl]; rfl),
            Int.toNat_natCast, Nat.sub_zero, Nat.sub_zero]
        · rw [if_pos (by omega), decide_eq_false h2, if_neg (by decide)]
      · rw [if_pos (by omega), decide_eq_false h1, Bool.false_and, if_neg (by decide)]

theorem row_mem {a b n : Int} (hn : 0 ≤ n) : rowAt a b n ∈ rowsF a.toNat b ∧ (n % ((rowsF a.toNat b).length : Int)).toNat < (rowsF a.toNat b).length := by
  have hrl := rowsF_len a.toNat b
  have m0 := Int.emod_nonneg n (show ((rowsF a.toNat b).length : Int) ≠ 0 by omega)
  have m1 := Int.emod_lt_of_pos n (show 0 < ((rowsF a.toNat b).length : Int) by omega)
  have h : (n % ((rowsF a.toNat b).length : Int)).toNat < (rowsF a.toNat b).length := by omega
  refine ⟨?_, h⟩
  unfold rowAt
  rw [getD_at h]
  exact List.getElem_mem h

/-- of a class an input by its number: it is one -/
theorem nth_has {L : List EN} {S : List Int} {a b c n : Int} (H : mayB L S a b c = true) (hn : 0 ≤ n) :
    (rowAt a b n).length = a.toNat ∧ failB (rowAt a b n) a b = true ∧ (txtAt L S a b n).length = (capsL L ++ S).length ∧ (∀ t ∈ txtAt L S a b n, Byt t) ∧ fitT (capsL L ++ S) (txtAt L S a b n) = true := by
  obtain ⟨hf, hL8, hS2, hC6, ha0, ha6⟩ := may_fit H
  have hb := may_rows H
  obtain ⟨h1, h2⟩ := rowsF_mem a.toNat b hb.1 _ (row_mem (a := a) (b := b) hn).1
  obtain ⟨h3, h4⟩ := nthT_ok (capsL L ++ S) hf (n / ((rowsF a.toNat b).length : Int))
  refine ⟨h1, ?_, nthT_len _ _, h3, h4⟩
  unfold failB
  rw [decide_eq_true (by omega), decide_eq_true ha6, decide_eq_true h2]
  rfl


end Go.Proofs.Ytlfhmecdgfennaa
