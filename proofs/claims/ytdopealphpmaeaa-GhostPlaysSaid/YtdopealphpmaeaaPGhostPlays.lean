/-
 the law GhostPlays of chapter 19, as a printed function: it comes to true.
-/
import Derived.Test.YtdopealphpmaeaaPGhostP
set_option linter.unusedSimpArgs false
set_option linter.unusedVariables false
set_option linter.unusedSectionVars false
namespace Go.Proofs.Ytdopealphpmaeaa
open Go.Gx

abbrev Deed := Int × Int × Int × List Int × ByteArray × ByteArray
def DeedOk (x : Deed) : Prop := (0 ≤ x.2.1 ∧ x.2.1 ≤ 65535) ∧ (0 ≤ x.2.2.1 ∧ x.2.2.1 ≤ 65535) ∧ x.2.2.2.1.length ≤ 400 ∧ ∀ y ∈ x.2.2.2.1, 0 ≤ y ∧ y < 256

/-! ### is it small? -/
theorem small_l2 {R : Type} (N : Nat) (k0 : Bool → Option R) (k1 : Option R) (L0 : List EN) : ∀ (e i n : Nat), L0.length - i = e → i ≤ L0.length → i ≤ 102 → 103 - i < n → Z30_l2 N k0 k1 n L0 (i : Int) = k0 false ∨ Z30_l2 N k0 k1 n L0 (i : Int) = k1 := by
 intro e
 induction e with
 | zero =>
  intro i n he hi h1 hn
  obtain ⟨n, rfl⟩ : ∃ n', n = n' + 1 := ⟨n - 1, by omega⟩
  right
  simp only [Z30_l2, Z30_l2_T0]
  rw [br_not (decide_eq_false (by omega))]
 | succ e ih =>
  intro i n he hi h1 hn
  obtain ⟨n, rfl⟩ : ∃ n', n = n' + 1 := ⟨n - 1, by omega⟩
  simp only [Z30_l2, Z30_l2_T0]
  rw [br_of (decide_eq_true (by omega)), br_ndec]
  by_cases h : 100 < i
  ·left; rw [if_pos (by omega)]
  ·rw [if_neg (by omega), br_of (inB_of (by omega)), br_dec, w64_succ (by omega)]
   split
   ·left; rfl
   ·exact ih (i + 1) n (by omega) (by omega) (by omega) (by omega)

theorem small_l1 {R : Type} (N : Nat) (k0 : List EN → Bool → Option R) (k1 : List EN → Option R) (L0 : List EN) (dat : List (List Int)) : ∀ (e i n : Nat), dat.length - i = e → i ≤ dat.length → i ≤ 102 → 103 - i < n → Z30_l1 N k0 k1 n L0 dat (i : Int) = k0 L0 false ∨ (dat.length ≤ 102 ∧ (∀ j (h : j < dat.length), i ≤ j → dat[j].length ≤ 1000) ∧ Z30_l1 N k0 k1 n L0 dat (i : Int) = k1 L0) := by
 intro e
 induction e with
 | zero =>
  intro i n he hi h1 hn
  obtain ⟨n, rfl⟩ : ∃ n', n = n' + 1 := ⟨n - 1, by omega⟩
  right
  refine ⟨by omega, fun j h hj => by omega, ?_⟩
  simp only [Z30_l1, Z30_l1_T0]
  rw [br_not (decide_eq_false (by omega))]
 | succ e ih =>
  intro i n he hi h1 hn
  obtain ⟨n, rfl⟩ : ∃ n', n = n' + 1 := ⟨n - 1, by omega⟩
  simp only [Z30_l1, Z30_l1_T0]
  rw [br_of (decide_eq_true (by omega)), br_ndec]
  by_cases h : 100 < i
  ·left; rw [if_pos (by omega)]
  ·have hlt : i < dat.length := by omega
   have hg : dat.getD (Int.toNat (i : Int)) (Sh.zero (.isl (.int .u8))) = dat[i] := by
    rw [Int.toNat_natCast, List.getD_eq_getElem?_getD, List.getElem?_eq_getElem hlt]; rfl
   rw [if_neg (by omega), br_of (inB_of (by omega)), br_dec, w64_succ (by omega), hg]
   split
   ·left; rfl
   ·rename_i hle
    rcases ih (i + 1) n (by omega) (by omega) (by omega) (by omega) with h | ⟨h1, h2, h3⟩
    ·exact .inl h
    ·refine .inr ⟨h1, fun j hj hij => ?_, h3⟩
     by_cases e : j = i
     ·subst e; omega
     ·exact h2 j hj (by omega)

theorem small_l0 {R : Type} (N : Nat) (k0 : List EN → List (List Int) → Bool → Option R) (k1 : List EN → List (List Int) → Option R) (L0 : List EN) (dat : List (List Int)) (ds : List Deed) : ∀ (e i n : Nat), ds.length - i = e → i ≤ ds.length → i ≤ 152 → 153 - i < n →
  Z30_l0 N k0 k1 n L0 dat ds (i : Int) = k0 L0 dat false ∨ (ds.length ≤ 152 ∧ (∀ j (h : j < ds.length), i ≤ j → ds[j].2.2.2.1.length ≤ 100) ∧ Z30_l0 N k0 k1 n L0 dat ds (i : Int) = k1 L0 dat) := by
 intro e
 induction e with
 | zero =>
  intro i n he hi h1 hn
  obtain ⟨n, rfl⟩ : ∃ n', n = n' + 1 := ⟨n - 1, by omega⟩
  right
  refine ⟨by omega, fun j h hj => by omega, ?_⟩
  simp only [Z30_l0, Z30_l0_T0]
  rw [br_not (decide_eq_false (by omega))]
 | succ e ih =>
  intro i n he hi h1 hn
  obtain ⟨n, rfl⟩ : ∃ n', n = n' + 1 := ⟨n - 1, by omega⟩
  have hlt : i < ds.length := by omega
  have hin : inB (i : Int) ds.length = true := inB_of (by omega)
  have hg : ds.getD i (Sh.zero (.pair (.int .i64) (.pair (.int .u16) (.pair (.int .u16) (.pair (.isl (.int .u8)) (.pair .str .str)))))) = ds[i] := by
   rw [List.getD_eq_getElem?_getD, List.getElem?_eq_getElem hlt]; rfl
  simp only [Z30_l0, Z30_l0_T0, Int.toNat_natCast, hin, br_true, hg]
  rw [br_of (decide_eq_true (by omega)), br_ndec]
  by_cases h : 150 < i
  ·left; rw [if_pos (by omega)]
  ·rw [if_neg (by omega), br_ndec, br_ndec, br_dec, w64_succ (by omega)]
   by_cases hb : 100 < ds[i].2.2.2.1.length
   ·left; rw [if_pos (by omega)]
   ·rw [if_neg (by omega)]
    split
    ·left; rfl
    ·split
     ·left; rfl
     ·rcases ih (i + 1) n (by omega) (by omega) (by omega) (by omega) with h | ⟨h1, h2, h3⟩
      ·exact .inl h
      ·refine .inr ⟨h1, fun j hj hij => ?_, h3⟩
       by_cases e : j = i
       ·subst e; omega
       ·exact h2 j hj (by omega)

theorem small_eq {R : Type} (N : Nat) (hN : 1000 < N) (L0 : List EN) (dat : List (List Int)) (ds : List Deed) (k : Bool → Option R) : Z30 N L0 dat ds k = k false ∨ (ds.length ≤ 152 ∧ dat.length ≤ 102 ∧ (∀ x ∈ ds, x.2.2.2.1.length ≤ 100) ∧ (∀ r ∈ dat, r.length ≤ 1000) ∧ Z30 N L0 dat ds k = k true) := by
 unfold Z30 Z30_T
 rcases small_l0 N (fun l232 l233 b234 => k b234) (fun l235 l236 => Z30_l1 N (fun l237 b238 => k b238) (fun l239 => Z30_l2 N (fun b240 => k b240) (k true) N l239 (0 : Int)) N l235 l236 (0 : Int)) L0 dat ds ds.length 0 N (by omega) (by omega) (by omega) (by omega) with h | ⟨h1, h2, h3⟩
 ·exact .inl h
 ·rcases small_l1 N (fun l237 b238 => k b238) (fun l239 => Z30_l2 N (fun b240 => k b240) (k true) N l239 (0 : Int)) L0 dat dat.length 0 N (by omega) (by omega) (by omega) (by omega) with h | ⟨h4, h6, h5⟩
  ·exact .inl (h3.trans h)
  ·rcases small_l2 N (fun b240 => k b240) (k true) L0 L0.length 0 N (by omega) (by omega) (by omega) (by omega) with h | h
   ·exact .inl (h3.trans (h5.trans h))
   ·refine .inr ⟨h1, h4, fun x hx => ?_, fun x hx => ?_, h3.trans (h5.trans h)⟩
    ·obtain ⟨j, hj, rfl⟩ := List.getElem_of_mem hx
     exact h2 j hj (by omega)
    ·obtain ⟨j, hj, rfl⟩ := List.getElem_of_mem hx
     exact h6 j hj (by omega)

set_option maxRecDepth 1000000 in
theorem awake19 {R : Type} (k : Bool → Option R) : Z32 3000 k = k true := by kernel_rfl

theorem stop11 {R : Type} (N n : Nat) (hn : 0 < n) (k0 : Bool → Option R) (k1 : Option R) (ds : List Deed) (A : List Nd) (B : By) (ws : Ws) : Z31_l0 N k0 k1 n (.v0 ds 11 0 A B ws) = k1 := by
 obtain ⟨n, rfl⟩ : ∃ n', n = n' + 1 := ⟨n - 1, by omega⟩
 simp only [Z31_l0, Z31_l0_T0]
 rw [br_not (by decide)]
theorem stop12 {R : Type} (N n : Nat) (hn : 0 < n) (k0 : Bool → Option R) (k1 : Option R) (ds : List Deed) (A : List Nd) (B : By) (ws : Ws) : Z31_l0 N k0 k1 n (.v0 ds 12 0 A B ws) = k1 := by
 obtain ⟨n, rfl⟩ : ∃ n', n = n' + 1 := ⟨n - 1, by omega⟩
 simp only [Z31_l0, Z31_l0_T0]
 rw [br_not (by decide)]

/-! ### the deeds -/
theorem deed_parts {x : Deed} (h : DeedOk x) : ∃ (op : Int) (fd n : Nat) (b : List Int) (p q : List UInt8), x = (op, (fd : Int), (n : Int), b, bs p, bs q) ∧ fd ≤ 65535 ∧ n ≤ 65535 ∧ b.length ≤ 400 ∧ ∀ y ∈ b, 0 ≤ y ∧ y < 256 := by
 obtain ⟨op, fd, n, b, pa, to⟩ := x
 obtain ⟨⟨h1, h2⟩, ⟨h3, h4⟩, h5, h6⟩ := h
 simp only [] at h1 h2 h3 h4 h5
 refine ⟨op, fd.toNat, n.toNat, b, pth pa, pth to, ?_, by omega, by omega, h5, h6⟩
 rw [bs_pth, bs_pth, Int.toNat_of_nonneg h1, Int.toNat_of_nonneg h3]

section
variable {R : Type} (N : Nat) (hN : 1000 < N) (k0 : Bool → Option R) (k1 : Option R) (ds : List Deed) (hds : ∀ x ∈ ds, DeedOk x) (hdl : ds.length ≤ 200) (z : Int)
include hN hds hdl

theorem deeds2 :
  ∀ (e i n c : Nat) (A : List Nd) (B : By) (ws : Ws) (f : List Int) (nx : Int) (m : TM) (d : DM) (l : OL) (L : List EN) (D : List (List Int)), ds.length - i = e → i ≤ ds.length → c ≤ i → e < n → BA A B → K8 A z → bt A z = 0 → RowsK A d → FI c f nx m (dmap A d) l L D →
   Z31_l0 N k0 k1 n (.v2 ds 0 (i : Int) A B ws f z nx m d l (fdR f) nx L D (opn l.length) l) = k1 := by
 intro e
 induction e with
 | zero =>
  intro i n c A B ws f nx m d l L D he hi hc hn hA hz hz0 hr S
  obtain ⟨n, rfl⟩ : ∃ n', n = n' + 1 := ⟨n - 1, by omega⟩
  simp only [Z31_l0, Z31_l0_T2]
  rw [br_of (by decide), br_not (decide_eq_false (by omega))]
 | succ e ih =>
  intro i n c A B ws f nx m d l L D he hi hc hn hA hz hz0 hr S
  obtain ⟨n, rfl⟩ : ∃ n', n = n' + 1 := ⟨n - 1, by omega⟩
  have hlt : i < ds.length := by omega
  have hg : ds.getD i (Sh.zero (.pair (.int .i64) (.pair (.int .u16) (.pair (.int .u16) (.pair (.isl (.int .u8)) (.pair .str .str)))))) = ds[i] := by
   rw [List.getD_eq_getElem?_getD, List.getElem?_eq_getElem hlt]; rfl
  obtain ⟨op, fd, nn, b, p, q, hx, hfd, hnn, hb, hbu⟩ := deed_parts (hds ds[i] (List.getElem_mem hlt))
  rw [hx] at hg
  have hin : inB (i : Int) ds.length = true := inB_of (by omega)
  have hlt' : decide ((i : Int) < (ds.length : Int)) = true := decide_eq_true (by omega)
  have hwi := w64_succ (show i < 9223372036854775807 by omega)
  unfold Z31_l0 Z31_l0_T2
  rw [br_of (by decide), hlt', br_true, hin, br_true, Int.toNat_natCast, hg]
  obtain ⟨A', B', f', nx', m', d', l', L', D', hA', hle, S', hr', hdo⟩ := doB hA ws hr hz hz0 N hN (by omega) S fd nn hfd hnn b hb hbu p q op
  have hz' := hz.le hle
  have hz0' : bt A' z = 0 := (hz.bt hle).trans hz0
  have hnext : Z31_l0 N k0 k1 n (.v2 ds 0 ((i + 1 : Nat) : Int) A' B' ws f' z nx' m' d' l' (fdR f') nx' L' D' (opn l'.length) l') = k1 := ih (i + 1) n (c + 1) A' B' ws f' nx' m' d' l' L' D' (by omega) (by omega) (by omega) (by omega) hA' hz' hz0' hr' S'
  refine hdo k1 _ _ ?_ (fun T0 => ?_)
  ·refine Eq.trans (br_of rfl _ _) ?_
   refine dataB hA' ws hr' hz' hz0' N hN (c := c + 1) (by omega) S' p k1 _ _ ?_
   refine Eq.trans (br_not rfl _ _) ?_
   rw [hwi]
   exact hnext
  ·refine Eq.trans (br_of rfl _ _) ?_
   refine dataB hA' ws hr' hz' hz0' N hN (c := c + 1) (by omega) S' p k1 _ _ ?_
   refine Eq.trans (br_not rfl _ _) ?_
   rw [hwi]
   exact hnext

theorem deeds1 :
  ∀ (e i n c : Nat) (A : List Nd) (B : By) (ws : Ws) (f : List Int) (nx : Int) (m : TM) (d : DM) (L : List EN) (D : List (List Int)), ds.length - i = e → i ≤ ds.length → c ≤ i → e < n → BA A B → K8 A z → bt A z = 0 → RowsK A d → FI c f nx m (dmap A d) [] L D →
   Z31_l0 N k0 k1 n (.v1 ds 0 (i : Int) A B ws f z nx m d [] (fdR f) nx L D []) = k1 := by
 intro e
 induction e with
 | zero =>
  intro i n c A B ws f nx m d L D he hi hc hn hA hz hz0 hr S
  obtain ⟨n, rfl⟩ : ∃ n', n = n' + 1 := ⟨n - 1, by omega⟩
  simp only [Z31_l0, Z31_l0_T1]
  rw [br_of (by decide), br_not (decide_eq_false (by omega))]
 | succ e ih =>
  intro i n c A B ws f nx m d L D he hi hc hn hA hz hz0 hr S
  obtain ⟨n, rfl⟩ : ∃ n', n = n' + 1 := ⟨n - 1, by omega⟩
  have hlt : i < ds.length := by omega
  have hg : ds.getD i (Sh.zero (.pair (.int .i64) (.pair (.int .u16) (.pair (.int .u16) (.pair (.isl (.int .u8)) (.pair .str .str)))))) = ds[i] := by
   rw [List.getD_eq_getElem?_getD, List.getElem?_eq_getElem hlt]; rfl
  obtain ⟨op, fd, nn, b, p, q, hx, hfd, hnn, hb, hbu⟩ := deed_parts (hds ds[i] (List.getElem_mem hlt))
  rw [hx] at hg
  have hin : inB (i : Int) ds.length = true := inB_of (by omega)
  have hlt' : decide ((i : Int) < (ds.length : Int)) = true := decide_eq_true (by omega)
  have hwi := w64_succ (show i < 9223372036854775807 by omega)
  unfold Z31_l0 Z31_l0_T1
  rw [br_of (by decide), hlt', br_true, hin, br_true, Int.toNat_natCast, hg]
  rcases doA hA ws hr hz hz0 N hN (by omega) S fd nn hfd hnn b hb hbu p q op with ⟨A', B', nx', m', L', D', hA', hle, S', hdo⟩ | ⟨f', nx', m', d', l', L', D', S', hr', hdo⟩
  ·have hz' := hz.le hle
   have hz0' : bt A' z = 0 := (hz.bt hle).trans hz0
   have hr' := hr.le hle
   have hnext : Z31_l0 N k0 k1 n (.v1 ds 0 ((i + 1 : Nat) : Int) A' B' ws f z nx' m' d [] (fdR f) nx' L' D' []) = k1 := ih (i + 1) n (c + 1) A' B' ws f nx' m' d L' D' (by omega) (by omega) (by omega) (by omega) hA' hz' hz0' hr' S'
   refine hdo k1 _ _ _ ?_ (fun T0 => ?_)
   ·refine Eq.trans (br_of rfl _ _) ?_
    refine dataA hA' ws hr' hz' hz0' N hN (c := c + 1) (by omega) S' p k1 _ _ _ ?_
    refine Eq.trans (br_not rfl _ _) ?_
    rw [hwi]
    exact hnext
   ·refine Eq.trans (br_of rfl _ _) ?_
    refine dataA hA' ws hr' hz' hz0' N hN (c := c + 1) (by omega) S' p k1 _ _ _ ?_
    refine Eq.trans (br_not rfl _ _) ?_
    rw [hwi]
    exact hnext
  ·have hnext : Z31_l0 N k0 k1 n (.v2 ds 0 ((i + 1 : Nat) : Int) A B ws f' z nx' m' d' l' (fdR f') nx' L' D' (opn l'.length) l') = k1 := deeds2 N hN k0 k1 ds hds hdl z e (i + 1) n (c + 1) A B ws f' nx' m' d' l' L' D' (by omega) (by omega) (by omega) (by omega) hA hz hz0 hr' S'
   refine hdo k1 _ _ _ ?_
   refine Eq.trans (br_of rfl _ _) ?_
   refine dataB hA ws hr' hz hz0 N hN (c := c + 1) (by omega) S' p k1 _ _ ?_
   refine Eq.trans (br_not rfl _ _) ?_
   rw [hwi]
   exact hnext
end

theorem ghostPlays_N {R : Type} (N : Nat) (hN : 1000 < N) (hN2 : N ≤ 1000000) (hA : ∀ (k : Bool → Option R), Z32 N k = k true) (L0 : List EN) (dat : List (List Int)) (ds : List Deed) (hu : ∀ r ∈ dat, ∀ x ∈ r, 0 ≤ x ∧ x < 256) (hds : ∀ x ∈ ds, (0 ≤ x.2.1 ∧ x.2.1 ≤ 65535) ∧ (0 ≤ x.2.2.1 ∧ x.2.2.1 ≤ 65535) ∧ ∀ y ∈ x.2.2.2.1, 0 ≤ y ∧ y < 256) (k : Bool → Option R) : Z31 N L0 dat ds k = k true := by
 unfold Z31 Z31_T
 rw [hA, Bool.not_true, br_false]
 rcases small_eq N (by omega) L0 dat ds _ with h | ⟨h1, h2, h4, h5, h⟩
 ·refine h.trans ?_
  rfl
 refine h.trans ?_
 rw [Bool.not_true, br_false]
 obtain ⟨A, B, hBA, hst⟩ := start_both N (by omega) L0 dat hu (by omega) (fun r hr => by have := h5 r hr; omega)
 unfold Z107 Z107_T
 rcases hst with e | e | ⟨z, nx, m, d, L, D, hL8, hz, hz0, hr, S, e⟩
 ·exact (e _ _ _ _ _ _ _ _ _).trans (stop11 N N (by omega) _ _ ds A B [])
 ·exact (e _ _ _ _ _ _ _ _ _).trans (stop12 N N (by omega) _ _ ds A B [])
 ·refine (e _ _ _ _ _ _ _ _ _).trans ?_
  exact deeds1 N (by omega) _ _ ds (fun x hx => ⟨(hds x hx).1, (hds x hx).2.1, by have := h4 x hx; omega, (hds x hx).2.2⟩) (by omega) z ds.length 0 N 0 A B [] [0, 0, 0, 0] nx m d L D (by omega) (by omega) (by omega) (by omega) hBA hz hz0 hr S

theorem ghostPlays_true {R : Type} (L0 : List EN) (dat : List (List Int)) (ds : List Deed) (hu : ∀ r ∈ dat, ∀ x ∈ r, 0 ≤ x ∧ x ≤ 255) (hds : ∀ x ∈ ds, (0 ≤ x.2.1 ∧ x.2.1 ≤ 65535) ∧ (0 ≤ x.2.2.1 ∧ x.2.2.1 ≤ 65535) ∧ ∀ y ∈ x.2.2.2.1, 0 ≤ y ∧ y ≤ 255) (k : Bool → Option R) : Z31 3000 L0 dat ds k = k true :=
 ghostPlays_N 3000 (by decide) (by decide) (fun k => awake19 k) L0 dat ds (fun r hr x hx => by have := hu r hr x hx; omega) (fun x hx => ⟨(hds x hx).1, (hds x hx).2.1, fun y hy => by have := (hds x hx).2.2 y hy; omega⟩) k

end Go.Proofs.Ytdopealphpmaeaa
