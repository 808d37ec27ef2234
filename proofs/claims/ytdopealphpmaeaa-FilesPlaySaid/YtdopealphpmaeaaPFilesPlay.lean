/-
  the law FilesPlay of chapter 14, as a printed function: it comes to true.
-/
import Derived.Test.YtdopealphpmaeaaPFilesP
set_option linter.unusedSimpArgs false
set_option linter.unusedVariables false
set_option linter.unusedSectionVars false
namespace Go.Proofs.Ytdopealphpmaeaa
open Go.Gx

abbrev Deed := Int × Int × Int × List Int × ByteArray × ByteArray
def DeedOk (x : Deed) : Prop := (0 ≤ x.2.1 ∧ x.2.1 ≤ 65535) ∧ (0 ≤ x.2.2.1 ∧ x.2.2.1 ≤ 65535) ∧ x.2.2.2.1.length ≤ 400

/-! ### is it small? -/
theorem small_l2 {R : Type} (N : Nat) (k0 : Bool → Option R) (k1 : Option R) (L0 : List EN) : ∀ (e i n : Nat), L0.length - i = e → i ≤ L0.length → i ≤ 102 → 103 - i < n → Z25_l2 N k0 k1 n L0 (i : Int) = k0 false ∨ Z25_l2 N k0 k1 n L0 (i : Int) = k1 := by
  intro e
  induction e with
  | zero =>
    intro i n he hi h1 hn
    obtain ⟨n, rfl⟩ : ∃ n', n = n' + 1 := ⟨n - 1, by omega⟩
    right
    simp only [Z25_l2, Z25_l2_T0]
    rw [br_not (decide_eq_false (by omega))]
  | succ e ih =>
    intro i n he hi h1 hn
    obtain ⟨n, rfl⟩ : ∃ n', n = n' + 1 := ⟨n - 1, by omega⟩
    simp only [Z25_l2, Z25_l2_T0]
    rw [br_of (decide_eq_true (by omega)), br_ndec]
    by_cases h : 100 < i
    · left; rw [if_pos (by omega)]
    · rw [if_neg (by omega), br_of (inB_of (by omega)), br_dec, w64_succ (by omega)]
      split
      · left; rfl
      · exact ih (i + 1) n (by omega) (by omega) (by omega) (by omega)

theorem small_l1 {R : Type} (N : Nat) (k0 : List EN → Bool → Option R) (k1 : List EN → Option R) (L0 : List EN) (dat : List (List Int)) : ∀ (e i n : Nat), dat.length - i = e → i ≤ dat.length → i ≤ 102 → 103 - i < n → Z25_l1 N k0 k1 n L0 dat (i : Int) = k0 L0 false ∨ (dat.length ≤ 102 ∧ Z25_l1 N k0 k1 n L0 dat (i : Int) = k1 L0) := by
  intro e
  induction e with
  | zero =>
    intro i n he hi h1 hn
    obtain ⟨n, rfl⟩ : ∃ n', n = n' + 1 := ⟨n - 1, by omega⟩
    right
    refine ⟨by omega, ?_⟩
    simp only [Z25_l1, Z25_l1_T0]
    rw [br_not (decide_eq_false (by omega))]
  | succ e ih =>
    intro i n he hi h1 hn
    obtain ⟨n, rfl⟩ : ∃ n', n = n' + 1 := ⟨n - 1, by omega⟩
    simp only [Z25_l1, Z25_l1_T0]
    rw [br_of (decide_eq_true (by omega)), br_ndec]
    by_cases h : 100 < i
    · left; rw [if_pos (by omega)]
    · rw [if_neg (by omega), br_of (inB_of (by omega)), br_dec, w64_succ (by omega)]
      split
      · left; rfl
      · exact ih (i + 1) n (by omega) (by omega) (by omega) (by omega)

theorem small_l0 {R : Type} (N : Nat) (k0 : List EN → List (List Int) → Bool → Option R) (k1 : List EN → List (List Int) → Option R) (L0 : List EN) (dat : List (List Int)) (ds : List Deed) : ∀ (e i n : Nat), ds.length - i = e → i ≤ ds.length → i ≤ 152 → 153 - i < n →
    Z25_l0 N k0 k1 n L0 dat ds (i : Int) = k0 L0 dat false ∨ (ds.length ≤ 152 ∧ (∀ j (h : j < ds.length), i ≤ j → ds[j].2.2.2.1.length ≤ 100) ∧ Z25_l0 N k0 k1 n L0 dat ds (i : Int) = k1 L0 dat) := by
  intro e
  induction e with
  | zero =>
    intro i n he hi h1 hn
    obtain ⟨n, rfl⟩ : ∃ n', n = n' + 1 := ⟨n - 1, by omega⟩
    right
    refine ⟨by omega, fun j h hj => by omega, ?_⟩
    simp only [Z25_l0, Z25_l0_T0]
    rw [br_not (decide_eq_false (by omega))]
  | succ e ih =>
    intro i n he hi h1 hn
    obtain ⟨n, rfl⟩ : ∃ n', n = n' + 1 := ⟨n - 1, by omega⟩
    have hlt : i < ds.length := by omega
    have hin : inB (i : Int) ds.length = true := inB_of (by omega)
    have hg : ds.getD i (Sh.zero (.pair (.int .i64) (.pair (.int .u16) (.pair (.int .u16) (.pair (.isl (.int .u8)) (.pair .str .str)))))) = ds[i] := by
      rw [List.getD_eq_getElem?_getD, List.getElem?_eq_getElem hlt]; rfl
    simp only [Z25_l0, Z25_l0_T0, Int.toNat_natCast, hin, br_true, hg]
    rw [br_of (decide_eq_true (by omega)), br_ndec]
    by_cases h : 150 < i
    · left; rw [if_pos (by omega)]
    · rw [if_neg (by omega), br_ndec, br_ndec, br_dec, w64_succ (by omega)]
      by_cases hb : 100 < ds[i].2.2.2.1.length
      · left; rw [if_pos (by omega)]
      · rw [if_neg (by omega)]
        split
        · left; rfl
        · split
          · left; rfl
          · rcases ih (i + 1) n (by omega) (by omega) (by omega) (by omega) with h | ⟨h1, h2, h3⟩
            · exact .inl h
            · refine .inr ⟨h1, fun j hj hij => ?_, h3⟩
              by_cases e : j = i
              · subst e; omega
              · exact h2 j hj (by omega)

theorem small_eq {R : Type} (N : Nat) (hN : 1000 < N) (L0 : List EN) (dat : List (List Int)) (ds : List Deed) (k : Bool → Option R) : Z25 N L0 dat ds k = k false ∨ (ds.length ≤ 152 ∧ dat.length ≤ 102 ∧ (∀ x ∈ ds, x.2.2.2.1.length ≤ 100) ∧ Z25 N L0 dat ds k = k true) := by
  unfold Z25 Z25_T
  rcases small_l0 N (fun l232 l233 b234 => k b234) (fun l235 l236 => Z25_l1 N (fun l237 b238 => k b238) (fun l239 => Z25_l2 N (fun b240 => k b240) (k true) N l239 (0 : Int)) N l235 l236 (0 : Int)) L0 dat ds ds.length 0 N (by omega) (by omega) (by omega) (by omega) with h | ⟨h1, h2, h3⟩
  · exact .inl h
  · rcases small_l1 N (fun l237 b238 => k b238) (fun l239 => Z25_l2 N (fun b240 => k b240) (k true) N l239 (0 : Int)) L0 dat dat.length 0 N (by omega) (by omega) (by omega) (by omega) with h | ⟨h4, h5⟩
    · exact .inl (h3.trans h)
    · rcases small_l2 N (fun b240 => k b240) (k true) L0 L0.length 0 N (by omega) (by omega) (by omega) (by omega) with h | h
      · exact .inl (h3.trans (h5.trans h))
      · refine .inr ⟨h1, h4, fun x hx => ?_, h3.trans (h5.trans h)⟩
        obtain ⟨j, hj, rfl⟩ := List.getElem_of_mem hx
        exact h2 j hj (by omega)

/-! ### the paths of the list -/
theorem paths1 {R : Type} (N : Nat) (hN : 1000 < N) (k0 : Bool → Option R) (k1 : Option R) (L0 : List EN) (hL0 : L0.length ≤ 1000000) {c : Nat} (hc : c ≤ 1000) {f : List Int} {nx : Int} {m : TM} {d : DM} {l : OL} {L : List EN} {D : List (List Int)} (S : FI c f nx m d l L D) :
    ∀ (e i n : Nat), L0.length - i = e → i ≤ L0.length → e < n → Z24_l1 N k0 k1 n (.v1 L0 (i : Int) f nx m d l (fdR f) nx L D (opn l.length) l) = k1 := by
  intro e
  induction e with
  | zero =>
    intro i n he hi hn
    obtain ⟨n, rfl⟩ : ∃ n', n = n' + 1 := ⟨n - 1, by omega⟩
    simp only [Z24_l1, Z24_l1_T1]
    rw [br_not (decide_eq_false (by omega))]
  | succ e ih =>
    intro i n he hi hn
    obtain ⟨n, rfl⟩ : ∃ n', n = n' + 1 := ⟨n - 1, by omega⟩
    simp only [Z24_l1, Z24_l1_T1, Int.toNat_natCast]
    rw [br_of (decide_eq_true (by omega)), br_of (inB_of (by omega))]
    have hp := bs_pth (L0.getD i (bs [], false, 0)).1
    rw [← hp]
    refine dataB N hN hc S (pth (L0.getD i (bs [], false, 0)).1) k1 _ _ ?_
    rw [Bool.not_true, br_false, w64_succ (by omega)]
    exact ih (i + 1) n (by omega) (by omega) (by omega)

theorem paths0 {R : Type} (N : Nat) (hN : 1000 < N) (k0 : Bool → Option R) (k1 : Option R) (L0 : List EN) (hL0 : L0.length ≤ 1000000) {c : Nat} (hc : c ≤ 1000) {f : List Int} {nx : Int} {m : TM} {d : DM} {L : List EN} {D : List (List Int)} (S : FI c f nx m d [] L D) :
    ∀ (e i n : Nat), L0.length - i = e → i ≤ L0.length → e < n → Z24_l1 N k0 k1 n (.v0 L0 (i : Int) f nx m d [] (fdR f) nx L D []) = k1 := by
  intro e
  induction e with
  | zero =>
    intro i n he hi hn
    obtain ⟨n, rfl⟩ : ∃ n', n = n' + 1 := ⟨n - 1, by omega⟩
    simp only [Z24_l1, Z24_l1_T0]
    rw [br_not (decide_eq_false (by omega))]
  | succ e ih =>
    intro i n he hi hn
    obtain ⟨n, rfl⟩ : ∃ n', n = n' + 1 := ⟨n - 1, by omega⟩
    simp only [Z24_l1, Z24_l1_T0, Int.toNat_natCast]
    rw [br_of (decide_eq_true (by omega)), br_of (inB_of (by omega))]
    have hp := bs_pth (L0.getD i (bs [], false, 0)).1
    rw [← hp]
    refine dataA N hN hc S (pth (L0.getD i (bs [], false, 0)).1) k1 _ _ _ ?_
    rw [Bool.not_true, br_false, w64_succ (by omega)]
    exact ih (i + 1) n (by omega) (by omega) (by omega)

/-! ### the deeds -/
theorem deed_parts {x : Deed} (h : DeedOk x) : ∃ (op : Int) (fd n : Nat) (b : List Int) (p q : List UInt8), x = (op, (fd : Int), (n : Int), b, bs p, bs q) ∧ fd ≤ 65535 ∧ n ≤ 65535 ∧ b.length ≤ 400 := by
  obtain ⟨op, fd, n, b, pa, to⟩ := x
  obtain ⟨⟨h1, h2⟩, ⟨h3, h4⟩, h5⟩ := h
  simp only [] at h1 h2 h3 h4 h5
  refine ⟨op, fd.toNat, n.toNat, b, pth pa, pth to, ?_, by omega, by omega, h5⟩
  rw [bs_pth, bs_pth, Int.toNat_of_nonneg h1, Int.toNat_of_nonneg h3]

theorem deeds1 {R : Type} (N : Nat) (hN : 1000 < N) (k0 : List EN → Bool → List Int → Int → TM → DM → OL → List Int → Int → List EN → List (List Int) → List Int → Option R) (k1 : List EN → Bool → List Int → Int → TM → DM → OL → List Int → Int → List EN → List (List Int) → List Int → OL → Option R)
    (k2 : List EN → List Int → Int → TM → DM → OL → List Int → Int → List EN → List (List Int) → List Int → Option R) (k3 : List EN → List Int → Int → TM → DM → OL → List Int → Int → List EN → List (List Int) → List Int → OL → Option R)
    (L0 : List EN) (ds : List Deed) (hds : ∀ x ∈ ds, DeedOk x) (hdl : ds.length ≤ 200) (J : Option R)
    (h3 : ∀ c f nx m d l L D, c ≤ 1000 → FI c f nx m d l L D → k3 L0 f nx m d l (fdR f) nx L D (opn l.length) l = J) :
    ∀ (e i n c : Nat) (f : List Int) (nx : Int) (m : TM) (d : DM) (l : OL) (L : List EN) (D : List (List Int)), ds.length - i = e → i ≤ ds.length → c ≤ i → e < n → FI c f nx m d l L D →
      Z24_l0 N k0 k1 k2 k3 n (.v1 L0 ds (i : Int) f nx m d l (fdR f) nx L D (opn l.length) l) = J := by
  intro e
  induction e with
  | zero =>
    intro i n c f nx m d l L D he hi hc hn S
    obtain ⟨n, rfl⟩ : ∃ n', n = n' + 1 := ⟨n - 1, by omega⟩
    simp only [Z24_l0, Z24_l0_T1]
    rw [br_not (decide_eq_false (by omega))]
    exact h3 c f nx m d l L D (by omega) S
  | succ e ih =>
    intro i n c f nx m d l L D he hi hc hn S
    obtain ⟨n, rfl⟩ : ∃ n', n = n' + 1 := ⟨n - 1, by omega⟩
    have hlt : i < ds.length := by omega
    have hg : ds.getD i (Sh.zero (.pair (.int .i64) (.pair (.int .u16) (.pair (.int .u16) (.pair (.isl (.int .u8)) (.pair .str .str)))))) = ds[i] := by
      rw [List.getD_eq_getElem?_getD, List.getElem?_eq_getElem hlt]; rfl
    obtain ⟨op, fd, nn, b, p, q, hx, hfd, hnn, hb⟩ := deed_parts (hds ds[i] (List.getElem_mem hlt))
    rw [hx] at hg
    have hin : inB (i : Int) ds.length = true := inB_of (by omega)
    have hlt' : decide ((i : Int) < (ds.length : Int)) = true := decide_eq_true (by omega)
    have hwi := w64_succ (show i < 9223372036854775807 by omega)
    unfold Z24_l0 Z24_l0_T1
    rw [hlt', br_true, hin, br_true, Int.toNat_natCast, hg]
    obtain ⟨f', nx', m', d', l', L', D', S', hdo⟩ := doB N hN (by omega) S fd nn hfd hnn b hb p q op
    have hnext : Z24_l0 N k0 k1 k2 k3 n (.v1 L0 ds ((i + 1 : Nat) : Int) f' nx' m' d' l' (fdR f') nx' L' D' (opn l'.length) l') = J := ih (i + 1) n (c + 1) f' nx' m' d' l' L' D' (by omega) (by omega) (by omega) (by omega) S'
    refine hdo J _ _ ?_ (fun T0 => ?_)
    · refine Eq.trans (br_of rfl _ _) ?_
      refine Eq.trans (br_of rfl _ _) ?_
      by_cases hpe : bs p = bs []
      · refine Eq.trans (br_not (show (!(decide (bs p = bs []))) = false by rw [decide_eq_true hpe]; rfl) _ _) ?_
        rw [hwi]
        exact hnext
      · refine Eq.trans (br_of (show (!(decide (bs p = bs []))) = true by rw [decide_eq_false hpe]; rfl) _ _) ?_
        refine Eq.trans (br_of rfl _ _) ?_
        refine dataB N hN (c := c + 1) (by omega) S' p J _ _ ?_
        refine Eq.trans (br_not rfl _ _) ?_
        rw [hwi]
        exact hnext
    · refine Eq.trans (br_of rfl _ _) ?_
      refine Eq.trans (br_of rfl _ _) ?_
      by_cases hpe : bs p = bs []
      · refine Eq.trans (br_not (show (!(decide (bs p = bs []))) = false by rw [decide_eq_true hpe]; rfl) _ _) ?_
        rw [hwi]
        exact hnext
      · refine Eq.trans (br_of (show (!(decide (bs p = bs []))) = true by rw [decide_eq_false hpe]; rfl) _ _) ?_
        refine Eq.trans (br_of rfl _ _) ?_
        refine dataB N hN (c := c + 1) (by omega) S' p J _ _ ?_
        refine Eq.trans (br_not rfl _ _) ?_
        rw [hwi]
        exact hnext

theorem deeds0 {R : Type} (N : Nat) (hN : 1000 < N) (k0 : List EN → Bool → List Int → Int → TM → DM → OL → List Int → Int → List EN → List (List Int) → List Int → Option R) (k1 : List EN → Bool → List Int → Int → TM → DM → OL → List Int → Int → List EN → List (List Int) → List Int → OL → Option R)
    (k2 : List EN → List Int → Int → TM → DM → OL → List Int → Int → List EN → List (List Int) → List Int → Option R) (k3 : List EN → List Int → Int → TM → DM → OL → List Int → Int → List EN → List (List Int) → List Int → OL → Option R)
    (L0 : List EN) (ds : List Deed) (hds : ∀ x ∈ ds, DeedOk x) (hdl : ds.length ≤ 200) (J : Option R)
    (h2 : ∀ c f nx m d L D, c ≤ 1000 → FI c f nx m d [] L D → k2 L0 f nx m d [] (fdR f) nx L D [] = J)
    (h3 : ∀ c f nx m d l L D, c ≤ 1000 → FI c f nx m d l L D → k3 L0 f nx m d l (fdR f) nx L D (opn l.length) l = J) :
    ∀ (e i n c : Nat) (f : List Int) (nx : Int) (m : TM) (d : DM) (L : List EN) (D : List (List Int)), ds.length - i = e → i ≤ ds.length → c ≤ i → e < n → FI c f nx m d [] L D →
      Z24_l0 N k0 k1 k2 k3 n (.v0 L0 ds (i : Int) f nx m d [] (fdR f) nx L D []) = J := by
  intro e
  induction e with
  | zero =>
    intro i n c f nx m d L D he hi hc hn S
    obtain ⟨n, rfl⟩ : ∃ n', n = n' + 1 := ⟨n - 1, by omega⟩
    simp only [Z24_l0, Z24_l0_T0]
    rw [br_not (decide_eq_false (by omega))]
    exact h2 c f nx m d L D (by omega) S
  | succ e ih =>
    intro i n c f nx m d L D he hi hc hn S
    obtain ⟨n, rfl⟩ : ∃ n', n = n' + 1 := ⟨n - 1, by omega⟩
    have hlt : i < ds.length := by omega
    have hg : ds.getD i (Sh.zero (.pair (.int .i64) (.pair (.int .u16) (.pair (.int .u16) (.pair (.isl (.int .u8)) (.pair .str .str)))))) = ds[i] := by
      rw [List.getD_eq_getElem?_getD, List.getElem?_eq_getElem hlt]; rfl
    obtain ⟨op, fd, nn, b, p, q, hx, hfd, hnn, hb⟩ := deed_parts (hds ds[i] (List.getElem_mem hlt))
    rw [hx] at hg
    have hin : inB (i : Int) ds.length = true := inB_of (by omega)
    have hlt' : decide ((i : Int) < (ds.length : Int)) = true := decide_eq_true (by omega)
    have hwi := w64_succ (show i < 9223372036854775807 by omega)
    unfold Z24_l0 Z24_l0_T0
    rw [hlt', br_true, hin, br_true, Int.toNat_natCast, hg]
    rcases doA N hN (by omega) S fd nn hfd hnn b hb p q op with ⟨nx', m', L', D', S', hdo⟩ | ⟨f', nx', m', d', l', L', D', S', hdo⟩
    · have hnext : Z24_l0 N k0 k1 k2 k3 n (.v0 L0 ds ((i + 1 : Nat) : Int) f nx' m' d [] (fdR f) nx' L' D' []) = J := ih (i + 1) n (c + 1) f nx' m' d L' D' (by omega) (by omega) (by omega) (by omega) S'
      refine hdo J _ _ _ ?_ (fun T0 => ?_)
      · refine Eq.trans (br_of rfl _ _) ?_
        refine Eq.trans (br_of rfl _ _) ?_
        by_cases hpe : bs p = bs []
        · refine Eq.trans (br_not (show (!(decide (bs p = bs []))) = false by rw [decide_eq_true hpe]; rfl) _ _) ?_
          rw [hwi]
          exact hnext
        · refine Eq.trans (br_of (show (!(decide (bs p = bs []))) = true by rw [decide_eq_false hpe]; rfl) _ _) ?_
          refine Eq.trans (br_of rfl _ _) ?_
          refine dataA N hN (c := c + 1) (by omega) S' p J _ _ _ ?_
          refine Eq.trans (br_not rfl _ _) ?_
          rw [hwi]
          exact hnext
      · refine Eq.trans (br_of rfl _ _) ?_
        refine Eq.trans (br_of rfl _ _) ?_
        by_cases hpe : bs p = bs []
        · refine Eq.trans (br_not (show (!(decide (bs p = bs []))) = false by rw [decide_eq_true hpe]; rfl) _ _) ?_
          rw [hwi]
          exact hnext
        · refine Eq.trans (br_of (show (!(decide (bs p = bs []))) = true by rw [decide_eq_false hpe]; rfl) _ _) ?_
          refine Eq.trans (br_of rfl _ _) ?_
          refine dataA N hN (c := c + 1) (by omega) S' p J _ _ _ ?_
          refine Eq.trans (br_not rfl _ _) ?_
          rw [hwi]
          exact hnext
    · have hnext : Z24_l0 N k0 k1 k2 k3 n (.v1 L0 ds ((i + 1 : Nat) : Int) f' nx' m' d' l' (fdR f') nx' L' D' (opn l'.length) l') = J := deeds1 N hN k0 k1 k2 k3 L0 ds hds hdl J h3 e (i + 1) n (c + 1) f' nx' m' d' l' L' D' (by omega) (by omega) (by omega) (by omega) S'
      refine hdo J _ _ _ ?_
      refine Eq.trans (br_of rfl _ _) ?_
      refine Eq.trans (br_of rfl _ _) ?_
      by_cases hpe : bs p = bs []
      · refine Eq.trans (br_not (show (!(decide (bs p = bs []))) = false by rw [decide_eq_true hpe]; rfl) _ _) ?_
        rw [hwi]
        exact hnext
      · refine Eq.trans (br_of (show (!(decide (bs p = bs []))) = true by rw [decide_eq_false hpe]; rfl) _ _) ?_
        refine Eq.trans (br_of rfl _ _) ?_
        refine dataB N hN (c := c + 1) (by omega) S' p J _ _ ?_
        refine Eq.trans (br_not rfl _ _) ?_
        rw [hwi]
        exact hnext

theorem filesPlay_true {R : Type} (L0 : List EN) (dat : List (List Int)) (ds : List Deed) (hds : ∀ x ∈ ds, (0 ≤ x.2.1 ∧ x.2.1 ≤ 65535) ∧ (0 ≤ x.2.2.1 ∧ x.2.2.1 ≤ 65535)) (k : Bool → Option R) : Z24 3000 L0 dat ds k = k true := by
  unfold Z24 Z24_T
  rw [awake14, Bool.not_true, br_false]
  rcases small_eq 3000 (by omega) L0 dat ds _ with h | ⟨h1, h2, h4, h⟩
  · refine h.trans ?_
    rfl
  refine h.trans ?_
  rw [Bool.not_true, br_false]
  rcases new_both 3000 (by omega) L0 dat (by omega) with ⟨n1, n2⟩ | ⟨n1, n2⟩ | ⟨nx, m, d, L, D, S, n1, n2⟩
  · rw [n1, n2]
  · rw [n1, n2]
  · rw [n1, n2]
    have hL8 : L0.length ≤ 8 ∨ 8 < L0.length := by omega
    have hL0 : L0.length ≤ 1000 := by
      rcases hL8 with h | h
      · omega
      · exfalso
        have := n1 (R := Unit) none none (fun _ _ _ _ _ => some ())
        unfold Z21 Z21_T Z76 Z76_T at this
        rw [br_of (decide_eq_true (by omega))] at this
        cases this
    refine deeds0 3000 (by omega) _ _ _ _ L0 ds (fun x hx => ⟨(hds x hx).1, (hds x hx).2, by have := h4 x hx; omega⟩) (by omega) (k true) ?_ ?_ ds.length 0 3000 0 [0, 0, 0, 0] nx m d L D (by omega) (by omega) (by omega) (by omega) S
    · intro c f nx m d L D hc S
      exact paths0 3000 (by omega) _ _ L0 (by omega) hc S L0.length 0 3000 (by omega) (by omega) (by omega)
    · intro c f nx m d l L D hc S
      exact paths1 3000 (by omega) _ _ L0 (by omega) hc S L0.length 0 3000 (by omega) (by omega) (by omega)

end Go.Proofs.Ytdopealphpmaeaa
