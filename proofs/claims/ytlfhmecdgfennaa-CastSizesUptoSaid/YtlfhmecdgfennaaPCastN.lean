/-
  the inputs that the document counts (chapter 17): rows of truth values, texts by number.
-/
import Derived.Test.YtlfhmecdgfennaaPCastNE
set_option linter.unusedVariables false
set_option linter.unusedSimpArgs false
namespace Go.Proofs.Ytlfhmecdgfennaa
open Go.Gx

/-! ### rows of truth values -/
def rowsF : Nat → Int → List (List Bool)
  | 0, _ => [[]]
  | n + 1, m => (rowsF n m).map (false :: ·) ++ (if 0 < m then (rowsF n (m - 1)).map (true :: ·) else [])

theorem rowsF_len : ∀ (n : Nat) (m : Int), 0 < (rowsF n m).length ∧ (rowsF n m).length ≤ 2 ^ n
  | 0, _ => by simp [rowsF]
  | n + 1, m => by
    have h1 := rowsF_len n m
    have h2 := rowsF_len n (m - 1)
    unfold rowsF
    rw [List.length_append, List.length_map, Nat.pow_succ]
    by_cases h : 0 < m
    · rw [if_pos h, List.length_map]; omega
    · rw [if_neg h]; simp; omega
theorem rowsF_mem : ∀ (n : Nat) (m : Int), 0 ≤ m → ∀ r ∈ rowsF n m, r.length = n ∧ cnt r ≤ m
  | 0, m, hm, r, hr => by
    rw [List.mem_singleton.1 hr]
    exact ⟨rfl, by simpa [cnt] using hm⟩
  | n + 1, m, hm, r, hr => by
    unfold rowsF at hr
    rcases List.mem_append.1 hr with hr | hr
    · obtain ⟨s, hs, rfl⟩ := List.mem_map.1 hr
      obtain ⟨h1, h2⟩ := rowsF_mem n m hm s hs
      exact ⟨by simp [h1], by simpa [cnt] using h2⟩
    · by_cases h : 0 < m
      · rw [if_pos h] at hr
        obtain ⟨s, hs, rfl⟩ := List.mem_map.1 hr
        obtain ⟨h1, h2⟩ := rowsF_mem n (m - 1) (by omega) s hs
        exact ⟨by simp [h1], by simp only [cnt, if_true]; omega⟩
      · rw [if_neg h] at hr; exact absurd hr (by simp)
theorem nodup_map {α β : Type} {f : α → β} {l : List α} (h : l.Nodup) (hf : ∀ a b, f a = f b → a = b) : (l.map f).Nodup := by
  rw [List.nodup_iff_pairwise_ne, List.pairwise_map]
  exact h.imp fun hne e => hne (hf _ _ e)
theorem rowsF_nodup : ∀ (n : Nat) (m : Int), (rowsF n m).Nodup
  | 0, _ => by simp [rowsF]
  | n + 1, m => by
    unfold rowsF
    rw [List.nodup_append]
    refine ⟨nodup_map (rowsF_nodup n m) (fun a b h => by simpa using h), ?_, ?_⟩
    · by_cases h : 0 < m
      · rw [if_pos h]; exact nodup_map (rowsF_nodup n (m - 1)) (fun a b h => by simpa using h)
      · rw [if_neg h]; exact List.nodup_nil
    · intro a ha b hb e
      obtain ⟨s, _, rfl⟩ := List.mem_map.1 ha
      by_cases h : 0 < m
      · rw [if_pos h] at hb
        obtain ⟨t, _, rfl⟩ := List.mem_map.1 hb
        simp at e
      · rw [if_neg h] at hb; exact absurd hb (by simp)

theorem app1c {n : Nat} (h : n ≤ 1000) : ((decide ((((1 : Nat) + n) * (1 : Nat)) ≤ (70368744177664 : Nat))) && true) = true := by
  rw [decide_eq_true (by omega)]; rfl
theorem app24n {α : Type} {l : List α} (h : l.length ≤ 1000) : (((fits (0 : Nat) (List.length l) l) && (decide ((((List.length l) + (1 : Nat)) * (24 : Nat)) ≤ (70368744177664 : Nat)))) && true) = true := by
  rw [fits_of (by omega), decide_eq_true (by omega)]; rfl
theorem sub_one {α : Type} (x : α) (l : List α) : sub ((x :: []) ++ l) 0 (1 + l.length) = x :: l := by
  have : 1 + l.length = ((x :: []) ++ l).length := by simp; omega
  rw [this, sub_all]; rfl

theorem rows_l0 (N : Nat) (c0 : ref17_rows_Ty) {R : Type} (k0 : Int → Int → List (List Bool) → Option R) (x0 x1 : Int) (l : List (List Bool)) (hl : l.length ≤ 64) (hr : ∀ r ∈ l, r.length ≤ 10) :
    ∀ (m i n : Nat), l.length - i = m → i ≤ l.length → m < n → ∀ A : List (List Bool), A.length ≤ 500 + i → ref17_rows_l0 N c0 k0 n x0 x1 (i : Int) A l = k0 x0 x1 (A ++ (l.drop i).map (false :: ·)) := by
  intro m
  induction m with
  | zero =>
    intro i n hm hi hn A hA
    obtain ⟨n, rfl⟩ : ∃ n', n = n' + 1 := ⟨n - 1, by omega⟩
    have : i = l.length := by omega
    subst this
    simp only [ref17_rows_l0, ref17_rows_l0_T0]
    rw [br_not (decide_eq_false (by omega)), List.drop_length, List.map_nil, List.append_nil]
  | succ m ih =>
    intro i n hm hi hn A hA
    obtain ⟨n, rfl⟩ : ∃ n', n = n' + 1 := ⟨n - 1, by omega⟩
    have hlt : i < l.length := by omega
    have hri := hr l[i] (List.getElem_mem hlt)
    simp only [ref17_rows_l0, ref17_rows_l0_T0, Int.toNat_natCast, getD_at hlt]
    rw [br_of (decide_eq_true (by omega)), br_of (inB_of (by omega)), br_of (decide_eq_true hlt), br_of (app1c (by omega)), br_of (fits_of (by simp; omega)), br_of (app24n (by omega)), w64_succ (by omega), sub_all, sub_one,
      ih (i + 1) n (by omega) (by omega) (by omega) _ (by simp; omega), List.drop_eq_getElem_cons hlt, List.map_cons, List.append_assoc]
    rfl

theorem rows_l1 (N : Nat) (c0 : ref17_rows_Ty) {R : Type} (k0 : List (List Bool) → Option R) (l : List (List Bool)) (hl : l.length ≤ 64) (hr : ∀ r ∈ l, r.length ≤ 10) :
    ∀ (m i n : Nat), l.length - i = m → i ≤ l.length → m < n → ∀ A : List (List Bool), A.length ≤ 500 + i → ref17_rows_l1 N c0 k0 n (i : Int) A l = k0 (A ++ (l.drop i).map (true :: ·)) := by
  intro m
  induction m with
  | zero =>
    intro i n hm hi hn A hA
    obtain ⟨n, rfl⟩ : ∃ n', n = n' + 1 := ⟨n - 1, by omega⟩
    have : i = l.length := by omega
    subst this
    simp only [ref17_rows_l1, ref17_rows_l1_T0]
    rw [br_not (decide_eq_false (by omega)), List.drop_length, List.map_nil, List.append_nil]
  | succ m ih =>
    intro i n hm hi hn A hA
    obtain ⟨n, rfl⟩ : ∃ n', n = n' + 1 := ⟨n - 1, by omega⟩
    have hlt : i < l.length := by omega
    have hri := hr l[i] (List.getElem_mem hlt)
    simp only [ref17_rows_l1, ref17_rows_l1_T0, Int.toNat_natCast, getD_at hlt]
    rw [br_of (decide_eq_true (by omega)), br_of (inB_of (by omega)), br_of (decide_eq_true hlt), br_of (app1c (by omega)), br_of (fits_of (by simp; omega)), br_of (app24n (by omega)), w64_succ (by omega), sub_all, sub_one,
      ih (i + 1) n (by omega) (by omega) (by omega) _ (by simp; omega), List.drop_eq_getElem_cons hlt, List.map_cons, List.append_assoc]
    rfl

theorem pow_small {a : Nat} (h : a ≤ 6) : 2 ^ a ≤ 64 := by
  have : a = 0 ∨ a = 1 ∨ a = 2 ∨ a = 3 ∨ a = 4 ∨ a = 5 ∨ a = 6 := by omega
  rcases this with h | h | h | h | h | h | h <;> subst h <;> decide

theorem rowsF_row : ∀ (n : Nat) (m : Int), ∀ r ∈ rowsF n m, r.length = n
  | 0, m, r, hr => by rw [List.mem_singleton.1 hr]; rfl
  | n + 1, m, r, hr => by
    unfold rowsF at hr
    rcases List.mem_append.1 hr with hr | hr
    · obtain ⟨s, hs, rfl⟩ := List.mem_map.1 hr
      simp [rowsF_row n m s hs]
    · by_cases h : 0 < m
      · rw [if_pos h] at hr
        obtain ⟨s, hs, rfl⟩ := List.mem_map.1 hr
        simp [rowsF_row n (m - 1) s hs]
      · rw [if_neg h] at hr; exact absurd hr (by simp)

theorem rows_rec (N : Nat) (hN : 100 < N) : ∀ (a n : Nat), a < n → a ≤ 6 → ∀ (m : Int), -1000 ≤ m → m ≤ 1000 → ∀ {R : Type} (k : List (List Bool) → Option R), (G_ref17_rows_rec N n).ref17_rows (a : Int) m k = k (rowsF a m)
  | _, 0, h, _, _, _, _, _, _ => by omega
  | 0, n + 1, _, _, m, _, _, R, k => by
    show ref17_rows_T N (@G_ref17_rows_Rec.ref17_rows (G_ref17_rows_rec N n)) (@ref17_rows_l0 N (@G_ref17_rows_Rec.ref17_rows (G_ref17_rows_rec N n))) (@ref17_rows_l1 N (@G_ref17_rows_Rec.ref17_rows (G_ref17_rows_rec N n))) ((0 : Nat) : Int) m k = _
    unfold ref17_rows_T
    rw [br_of (decide_eq_true (by omega))]
    rfl
  | a + 1, n + 1, h, h6, m, hm0, hm1, R, k => by
    have ih := rows_rec N hN a n (by omega) (by omega)
    have hw : IntKind.wrap .i64 (((a + 1 : Nat) : Int) - 1) = (a : Int) := by rw [w64 (by omega)]; omega
    have hw2 : IntKind.wrap .i64 (m - 1) = m - 1 := w64 (by omega)
    have hlen : ∀ m, (rowsF a m).length ≤ 64 := fun m => Nat.le_trans (rowsF_len a m).2 (pow_small (by omega))
    show ref17_rows_T N (@G_ref17_rows_Rec.ref17_rows (G_ref17_rows_rec N n)) (@ref17_rows_l0 N (@G_ref17_rows_Rec.ref17_rows (G_ref17_rows_rec N n))) (@ref17_rows_l1 N (@G_ref17_rows_Rec.ref17_rows (G_ref17_rows_rec N n))) ((a + 1 : Nat) : Int) m k = _
    unfold ref17_rows_T
    rw [br_not (decide_eq_false (by omega)), hw, ih m (by omega) (by omega)]
    refine (rows_l0 N _ _ _ m (rowsF a m) (hlen m) (fun r hr => by rw [rowsF_row a m r hr]; omega) _ 0 N rfl (by omega) (by have := hlen m; omega) [] (by simp)).trans ?_
    rw [List.nil_append, List.drop_zero, hw, hw2, br_dec, show rowsF (a + 1) m = (rowsF a m).map (false :: ·) ++ (if 0 < m then (rowsF a (m - 1)).map (true :: ·) else []) from rfl]
    by_cases h : 0 < m
    · rw [if_pos h, if_pos h, ih (m - 1) (by omega) (by omega)]
      refine (rows_l1 N _ _ (rowsF a (m - 1)) (hlen (m - 1)) (fun r hr => by rw [rowsF_row a (m - 1) r hr]; omega) _ 0 N rfl (by omega) (by have := hlen (m - 1); omega) _ (by have := hlen m; simp; omega)).trans ?_
      rw [List.drop_zero]
    · rw [if_neg h, if_neg h, List.append_nil]

theorem rows_eq {R : Type} (N : Nat) (hN : 100 < N) (a b : Int) (h0 : 0 ≤ a) (h6 : a ≤ 6) (hb : 0 ≤ b ∧ b ≤ 6) (k : List (List Bool) → Option R) : ref17_rows N a b k = k (rowsF a.toNat b) := by
  have := rows_rec N hN a.toNat N (by omega) (by omega) b (by omega) (by omega) k
  rw [show ((a.toNat : Nat) : Int) = a by omega] at this
  exact this

/-! ### texts by number -/
def txt (c : Int) : Int := if c ≤ 0 then 1 else if c ≤ 1 then 257 else if c ≤ 2 then 65793 else 16843009
theorem texts_eq {R : Type} (N : Nat) (hN : 10 < N) (c : Int) (h : 0 ≤ c ∧ c ≤ 3) (k : Int → Option R) : ref17_texts N c k = k (txt c) := by
  obtain ⟨n, rfl⟩ : ∃ n, N = n + 8 := ⟨N - 8, by omega⟩
  have : c = 0 ∨ c = 1 ∨ c = 2 ∨ c = 3 := by omega
  rcases this with h | h | h | h <;> subst h <;> rfl
theorem txt_pos (c : Int) : 1 ≤ txt c ∧ txt c ≤ 16843009 := by
  unfold txt
  split
  · omega
  · split
    · omega
    · split <;> omega

def textF (n : Int) : List Int := if n < 1 then [] else if n < 257 then [(n - 1) % 256] else if n < 65793 then [(n - 257) / 256 % 256, (n - 257) % 256] else [(n - 65793) / 256 / 256 % 256, (n - 65793) / 256 % 256, (n - 65793) % 256]

theorem textF_byt (n : Int) : Byt (textF n) := by
  intro x hx
  unfold textF at hx
  split at hx
  · exact absurd hx (by simp)
  · split at hx
    · simp only [List.mem_singleton] at hx; omega
    · split at hx
      · simp only [List.mem_cons, List.not_mem_nil, or_false] at hx; omega
      · simp only [List.mem_cons, List.not_mem_nil, or_false] at hx; omega
theorem textF_len {n c : Int} (h : 0 ≤ c) (hn : n < txt c) : ((textF n).length : Int) ≤ c := by
  unfold txt at hn
  unfold textF
  split
  · simpa using h
  · split
    · split at hn
      · omega
      · simp; omega
    · split at hn
      · omega
      · split at hn
        · omega
        · split
          · simp; omega
          · split at hn
            · omega
            · simp; omega
theorem textF_inj {a b : Int} (ha : 0 ≤ a ∧ a < 16843009) (hb : 0 ≤ b ∧ b < 16843009) (h : textF a = textF b) : a = b := by
  unfold textF at h
  by_cases a1 : a < 1
  · rw [if_pos a1] at h
    by_cases b1 : b < 1
    · omega
    · rw [if_neg b1] at h
      by_cases b2 : b < 257
      · rw [if_pos b2] at h; exact absurd h (by simp)
      · rw [if_neg b2] at h
        by_cases b3 : b < 65793
        · rw [if_pos b3] at h; exact absurd h (by simp)
        · rw [if_neg b3] at h; exact absurd h (by simp)
  · rw [if_neg a1] at h
    by_cases a2 : a < 257
    · rw [if_pos a2] at h
      by_cases b1 : b < 1
      · rw [if_pos b1] at h; exact absurd h (by simp)
      · rw [if_neg b1] at h
        by_cases b2 : b < 257
        · rw [if_pos b2] at h
          simp only [List.cons.injEq, and_true] at h
          omega
        · rw [if_neg b2] at h
          by_cases b3 : b < 65793
          · rw [if_pos b3] at h; exact absurd h (by simp)
          · rw [if_neg b3] at h; exact absurd h (by simp)
    · rw [if_neg a2] at h
      by_cases a3 : a < 65793
      · rw [if_pos a3] at h
        by_cases b1 : b < 1
        · rw [if_pos b1] at h; exact absurd h (by simp)
        · rw [if_neg b1] at h
          by_cases b2 : b < 257
          · rw [if_pos b2] at h; exact absurd h (by simp)
          · rw [if_neg b2] at h
            by_cases b3 : b < 65793
            · rw [if_pos b3] at h
              simp only [List.cons.injEq, and_true] at h
              omega
            · rw [if_neg b3] at h; exact absurd h (by simp)
      · rw [if_neg a3] at h
        by_cases b1 : b < 1
        · rw [if_pos b1] at h; exact absurd h (by simp)
        · rw [if_neg b1] at h
          by_cases b2 : b < 257
          · rw [if_pos b2] at h; exact absurd h (by simp)
          · rw [if_neg b2] at h
            by_cases b3 : b < 65793
            · rw [if_pos b3] at h; exact absurd h (by simp)
            · rw [if_neg b3] at h
              simp only [List.cons.injEq, and_true] at h
              omega

theorem text_eq {R : Type} (N : Nat) (hN : 20 < N) (n : Int) (h : 0 ≤ n ∧ n < 16843009) (k : List Int → Option R) : ref17_text N n k = k (textF n) := by
  obtain ⟨m, rfl⟩ : ∃ m, N = m + 8 := ⟨N - 8, by omega⟩
  unfold ref17_text ref17_text_T textF
  by_cases h1 : n < 1
  · simp only [ref17_text_l0, ref17_text_l0_T0]
    rw [if_pos h1, br_not (decide_eq_false (by omega))]
    rfl
  · rw [if_neg h1]
    have e1 : IntKind.wrap .i64 (n - 1) = n - 1 := w64 (by omega)
    by_cases h2 : n < 257
    · rw [if_pos h2]
      simp only [ref17_text_l0, ref17_text_l0_T0]
      rw [br_of (decide_eq_true (by omega)), show IntKind.wrap .i64 (1 * 256) = 256 from rfl, e1, br_not (decide_eq_false (by omega)), ← wu8_mod]
      rfl
    · rw [if_neg h2]
      have e2 : IntKind.wrap .i64 (n - 1 - 256) = n - 257 := by rw [w64 (by omega)]; omega
      have d1 : IntKind.wrap .i64 (Int.tdiv (n - 257) 256) = (n - 257) / 256 := by rw [Int.tdiv_eq_ediv_of_nonneg (by omega), w64 (by omega)]
      by_cases h3 : n < 65793
      · rw [if_pos h3]
        simp only [ref17_text_l0, ref17_text_l0_T0]
        rw [br_of (decide_eq_true (by omega)), show IntKind.wrap .i64 (1 * 256) = 256 from rfl, e1, br_of (decide_eq_true (by omega)), e2, show IntKind.wrap .i64 (256 * 256) = 65536 from rfl, br_not (decide_eq_false (by omega)), ← wu8_mod, ← wu8_mod, ← d1]
        rfl
      · rw [if_neg h3]
        have e3 : IntKind.wrap .i64 (n - 257 - 65536) = n - 65793 := by rw [w64 (by omega)]; omega
        have d1 : IntKind.wrap .i64 (Int.tdiv (n - 65793) 256) = (n - 65793) / 256 := by rw [Int.tdiv_eq_ediv_of_nonneg (by omega), w64 (by omega)]
        have d2 : IntKind.wrap .i64 (Int.tdiv ((n - 65793) / 256) 256) = (n - 65793) / 256 / 256 := by rw [Int.tdiv_eq_ediv_of_nonneg (by omega), w64 (by omega)]
        simp only [ref17_text_l0, ref17_text_l0_T0]
        rw [br_of (decide_eq_true (by omega)), show IntKind.wrap .i64 (1 * 256) = 256 from rfl, e1, br_of (decide_eq_true (by omega)), e2, show IntKind.wrap .i64 (256 * 256) = 65536 from rfl, br_of (decide_eq_true (by omega)), e3,
          show IntKind.wrap .i64 (65536 * 256) = 16777216 from rfl, br_not (decide_eq_false (by omega)), ← wu8_mod, ← wu8_mod, ← wu8_mod, ← d2, ← d1]
        rfl

end Go.Proofs.Ytlfhmecdgfennaa
