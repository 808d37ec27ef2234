/-
  TermWidths: made wider and cut again a term has its value; an Ite has that of one of both.
-/
import Derived.Test.YteagdmkedffplaaPTermV46dc
import Derived.Test.YteagdmkedffplaaPTermV0112
import Derived.Test.YteagdmkedffplaaPTermX
import Derived.Test.YteagdmkedffplaaPWideMask
set_option linter.unusedSimpArgs false
set_option linter.unusedVariables false
namespace Go.Proofs.Yteagdmkedffplaa
open Go.Gx

theorem awake2 (n : Nat) {R : Type} (k : Bool → Option R) : law2_awake (n + 3000) k = k true := by kernel_rfl

theorem got_keep {l : List Nd} {w : Int} {f : (Nat → Nat) → Nat} {m : Nat} {t : Int} {l' : List Nd} {b' : By} (h : Got l w f m t l' b') {l2 : List Nd} (k : Le l' l2) : Tm l2 t ∧ wd l2 t = w ∧ (∀ env, val env l2 t = f env) :=
  ⟨h.tm.le k, (wd_le h.tm k).trans h.wd, fun env => (val_le h.tm.2 k).trans (h.v env)⟩

def W3 : List Int := [1, 8, 16]
def w3 (i : Nat) : Int := W3.getD i 0
theorem w3_wd {i : Nat} (h : i < 3) : Wd (w3 i) := by
  have : i = 0 ∨ i = 1 ∨ i = 2 := by omega
  rcases this with rfl | rfl | rfl
  · exact .inl rfl
  · exact .inr (.inl rfl)
  · exact .inr (.inr rfl)
theorem mm {a c : Nat} (v : Nat) (h : c ≤ a) : v % 2 ^ a % 2 ^ c = v % 2 ^ c := Nat.mod_mod_of_dvd v (Nat.pow_dvd_pow 2 h)

theorem widths_loop (N : Nat) (hN : 70000 ≤ N ∧ N ≤ 2 ^ 62) (q : Int) (J : Nat) (hJ : J < 3) (hq : Int.tmod q 3 = (J : Int)) (e : List Int) (he : ∀ x ∈ e, 0 ≤ x ∧ x < 65536) (a0 : Nat) (h0 : e.getD 0 0 = (a0 : Int)) (ha : a0 < 65536) (x y c : Int) (ws : Ws) :
    ∀ (n i : Nat) (l : List Nd) (b : By), i ≤ 3 → 3 - i < n → Ar l b → Tm l x → wd l x = w3 J → val (envOf e 3) l x = a0 % 2 ^ (w3 J).toNat → l.length + 2 * (3 - i) ≤ 60000 →
      ∃ l' b', Le l l' ∧ Ar l' b' ∧ l'.length ≤ 60000 ∧ ∀ {R : Type} (k0 : Int → Bool → Int → Int → Int → Nat → Nat → List Int → List Nd → By → Ws → List Int → Option R) (k1 : Int → Int → Int → Int → Nat → Nat → List Int → List Nd → By → Ws → List Int → Option R), law2_TermWidths_l0 N k0 k1 n q x y c 3 3 (i : Int) e l b ws W3 = k1 q x y c 3 3 e l' b' ws W3
  | 0, i, l, b, _, h, _, _, _, _, _ => by omega
  | n + 1, i, l, b, hi, hn, A, hx, hw, hv, hl => by
    by_cases c3 : i < 3
    · have hwJ := w3_wd hJ
      have hwi := w3_wd c3
      have li : inB (i : Int) W3.length = true := inB_of ⟨by omega, by show (i : Int) < 3; omega⟩
      have lJ : inB (J : Int) W3.length = true := inB_of ⟨by omega, by show (J : Int) < 3; omega⟩
      have di : ((i : Int).toNat < W3.length) = True := eq_true (by show (i : Int).toNat < 3; omega)
      have dJ : ((J : Int).toNat < W3.length) = True := eq_true (by show (J : Int).toNat < 3; omega)
      have gi : W3.getD (i : Int).toNat 0 = w3 i := by rw [Int.toNat_natCast]; rfl
      have gJ : W3.getD (J : Int).toNat 0 = w3 J := by rw [Int.toNat_natCast]; rfl
      have hp : ∀ {w : Int}, Wd w → band .u16 (a0 : Int) (maskI w) = ((a0 % 2 ^ w.toNat : Nat) : Int) := fun h => by rw [maskI_of h, mask_and h.pos.2.1 ha]
      by_cases hlt : w3 i < w3 J
      · obtain ⟨t, l', b', G, hc⟩ := Cut_eq N hN A ws (w := w3 i) hwi hx (by omega) (by omega)
        have f := G.few
        obtain ⟨l2, b2, q1, q2, q3, q4⟩ := widths_loop N hN q J hJ hq e he a0 h0 ha x y c ws n (i + 1) l' b' (by omega) (by omega) G.ar (hx.le G.le) ((wd_le hx G.le).trans hw) ((val_le hx.2 G.le).trans hv) (by omega)
        refine ⟨l2, b2, G.le.trans q1, q2, q3, fun {R} k0 k1 => ?_⟩
        unfold law2_TermWidths_l0 law2_TermWidths_l0_T0
        rw [decide_eq_true (by omega), br_true]
        simp only [li, lJ, hq, di, dJ, gi, gJ, h0, decide_true, br_true, Bool.not_not, br_dec]
        rw [if_pos hlt]
        refine (hc _).trans ?_
        rw [if_pos rfl]
        have E := fun (k : Int → List Nd → By → Ws → List Int → Option R) => Eval_46dc N hN G.ar ws e he (L := 3) (C := 3) (by omega) G.tm k
        refine (E _).trans ?_
        rw [h0, if_pos rfl, refMask_eq, if_pos rfl, hp hwi, G.v, hv, mm _ (by have := hwi.pos; have := hwJ.pos; omega), if_pos rfl, Width_eq N G.ar.len, G.wd, br_ndec, if_pos rfl, w64_succ (by omega)]
        exact q4 k0 k1
      · obtain ⟨t, l', b', G, hc⟩ := Ext_eq N (by omega) A ws (w := w3 i) hwi hx (by omega) (by omega)
        have f := G.few
        obtain ⟨u, l1, b1, G1, hc1⟩ := Cut_eq N hN G.ar ws (w := w3 J) hwJ G.tm (by rw [G.wd]; omega) (by omega)
        have f1 := G1.few
        have hx' := hx.le (G.le.trans G1.le)
        obtain ⟨l2, b2, q1, q2, q3, q4⟩ := widths_loop N hN q J hJ hq e he a0 h0 ha x y c ws n (i + 1) l1 b1 (by omega) (by omega) G1.ar hx' ((wd_le hx (G.le.trans G1.le)).trans hw) ((val_le hx.2 (G.le.trans G1.le)).trans hv) (by omega)
        refine ⟨l2, b2, (G.le.trans G1.le).trans q1, q2, q3, fun {R} k0 k1 => ?_⟩
        unfold law2_TermWidths_l0 law2_TermWidths_l0_T0
        rw [decide_eq_true (by omega), br_true]
        simp only [li, lJ, hq, di, dJ, gi, gJ, h0, decide_true, br_true, Bool.not_not, br_dec]
        rw [if_neg hlt]
        obtain ⟨tt, wt, vt⟩ := got_keep G G1.le
        refine (hc _).trans ?_
        unfold law2_TermWidths_lj1 law2_TermWidths_lj1_T0
        simp only [li, lJ, hq, di, dJ, gi, gJ, h0, decide_true, br_true, Bool.not_not, br_dec]
        refine (hc1 _).trans ?_
        have E := fun {t : Int} (h : Tm l1 t) (k : Int → List Nd → By → Ws → List Int → Option R) => Eval_46dc N hN G1.ar ws e he (L := 3) (C := 3) (by omega) h k
        rw [Width_eq N G1.ar.len, wt, if_pos rfl, if_pos rfl]
        refine (E G1.tm _).trans ?_
        rw [h0, if_pos rfl, refMask_eq, if_pos rfl, hp hwJ, G1.v, G.v, hv, mm _ (Nat.le_refl _), if_pos rfl]
        refine (E tt _).trans ?_
        refine (E hx' _).trans ?_
        rw [vt, val_le hx.2 (G.le.trans G1.le), br_ndec, if_pos rfl, w64_succ (by omega)]
        exact q4 k0 k1
    · have e3 : i = 3 := by omega
      refine ⟨l, b, Le.refl l, A, by omega, fun {R} k0 k1 => ?_⟩
      unfold law2_TermWidths_l0 law2_TermWidths_l0_T0
      rw [decide_eq_false (by omega), br_false]

theorem envAt (e : List Int) {i : Nat} (h : i < 3) {a : Nat} (ha : e.getD i 0 = (a : Int)) : envOf e 3 i = a := by
  unfold envOf
  rw [if_pos h, ha, Int.toNat_natCast]

theorem termWidths_true (M : Nat) (hM : 80000 ≤ M ∧ M ≤ 2 ^ 61) {R : Type} (a0 a1 a2 w : Int) (h0 : 0 ≤ a0 ∧ a0 ≤ 65535) (h1 : 0 ≤ a1 ∧ a1 ≤ 65535) (h2 : 0 ≤ a2 ∧ a2 ≤ 65535) (hw : 0 ≤ w ∧ w ≤ 255) (k : Bool → Option R) : law2_TermWidths (M + 3000) a0 a1 a2 w k = k true := by
  unfold law2_TermWidths law2_TermWidths_T
  rw [awake2]
  have hN : 70000 ≤ M + 3000 ∧ M + 3000 ≤ 2 ^ 62 := by
    have e1 : (2 : Nat) ^ 61 = 2305843009213693952 := by decide
    have e2 : (2 : Nat) ^ 62 = 4611686018427387904 := by decide
    omega
  generalize M + 3000 = N at hN ⊢
  rw [Bool.not_true, br_false]
  unfold term_New term_New_T
  obtain ⟨a0, rfl⟩ : ∃ a' : Nat, a0 = (a' : Int) := ⟨a0.toNat, by omega⟩
  obtain ⟨a1, rfl⟩ : ∃ a' : Nat, a1 = (a' : Int) := ⟨a1.toNat, by omega⟩
  obtain ⟨a2, rfl⟩ : ∃ a' : Nat, a2 = (a' : Int) := ⟨a2.toNat, by omega⟩
  obtain ⟨J, hJ, hq⟩ : ∃ J : Nat, J < 3 ∧ Int.tmod w 3 = (J : Int) := ⟨(w % 3).toNat, by omega, by rw [Int.tmod_eq_emod_of_nonneg hw.1]; omega⟩
  have hwJ := w3_wd hJ
  have lJ : inB (J : Int) 3 = true := inB_of ⟨by omega, by omega⟩
  have lJ' : inB (J : Int) W3.length = true := inB_of ⟨by omega, by show (J : Int) < 3; omega⟩
  have dJ : ((J : Int).toNat < 3) = True := eq_true (by omega)
  have dJ' : ((J : Int).toNat < W3.length) = True := eq_true (by show (J : Int).toNat < 3; omega)
  have gJ : W3.getD (J : Int).toNat 0 = w3 J := by rw [Int.toNat_natCast]; rfl
  have gJ' : ((1 : Int) :: ((8 : Int) :: ((16 : Int) :: ([] : List ((Sh.int IntKind.i64).T))))).getD (J : Int).toNat 0 = w3 J := by rw [Int.toNat_natCast]; rfl
  simp only [hq, lJ, dJ, gJ', decide_true, br_true]
  obtain ⟨x, l1, b1, G1, _, q1⟩ := Var_eq N Ar.nil [] (w := w3 J) (i := 0) hwJ (by omega) (.inl rfl) (by simp)
  have f1 := G1.few
  simp only [List.length_nil] at f1
  obtain ⟨y, l2, b2, G2, _, q2⟩ := Var_eq N G1.ar (mput (.int .i64) (.int .i64) [] 0 (w3 J)) (w := w3 J) (i := 1) hwJ (by omega) (.inl rfl) (by omega)
  have f2 := G2.few
  obtain ⟨c, l3, b3, G3, _, q3⟩ := Var_eq N G2.ar (mput (.int .i64) (.int .i64) (mput (.int .i64) (.int .i64) [] 0 (w3 J)) 1 (w3 J)) (w := 1) (i := 2) (.inl rfl) (by omega) (.inl rfl) (by omega)
  have f3 := G3.few
  refine (q1 _).trans ?_
  refine (q2 _).trans ?_
  refine (q3 _).trans ?_
  generalize mput (.int .i64) (.int .i64) (mput (.int .i64) (.int .i64) (mput (.int .i64) (.int .i64) [] 0 (w3 J)) 1 (w3 J)) 2 1 = ws
  have he : ∀ z ∈ ([(a0 : Int), (a1 : Int), (a2 : Int)] : List Int), 0 ≤ z ∧ z < 65536 := fun z hz => by
    simp at hz
    rcases hz with rfl | rfl | rfl <;> omega
  have g0 : ([(a0 : Int), (a1 : Int), (a2 : Int)] : List Int).getD 0 0 = (a0 : Int) := rfl
  have g1 : ([(a0 : Int), (a1 : Int), (a2 : Int)] : List Int).getD 1 0 = (a1 : Int) := rfl
  have g2 : ([(a0 : Int), (a1 : Int), (a2 : Int)] : List Int).getD 2 0 = (a2 : Int) := rfl
  obtain ⟨tx, wx, vx⟩ := got_keep G1 (G2.le.trans G3.le)
  obtain ⟨ty, wy, vy⟩ := got_keep G2 G3.le
  have ex : val (envOf [(a0 : Int), (a1 : Int), (a2 : Int)] 3) l3 x = a0 % 2 ^ (w3 J).toNat := by
    rw [vx, show (0 : Int).toNat = 0 from rfl, envAt _ (by decide) g0]
  have ey : val (envOf [(a0 : Int), (a1 : Int), (a2 : Int)] 3) l3 y = a1 % 2 ^ (w3 J).toNat := by
    rw [vy, show (1 : Int).toNat = 1 from rfl, envAt _ (by decide) g1]
  have ec : val (envOf [(a0 : Int), (a1 : Int), (a2 : Int)] 3) l3 c = a2 % 2 := by
    rw [G3.v, show (2 : Int).toNat = 2 from rfl, envAt _ (by decide) g2]
    rfl
  generalize hE : ([(a0 : Int), (a1 : Int), (a2 : Int)] : List Int) = e at he g0 g1 g2 ex ey ec
  obtain ⟨l', b', p1, p2, p3, p4⟩ := widths_loop N hN w J hJ hq e he a0 g0 (by omega) x y c ws N 0 l3 b3 (by omega) (by omega) G3.ar tx wx ex (by omega)
  refine (p4 _ _).trans ?_
  unfold law2_TermWidths_lj0 law2_TermWidths_lj0_T0
  obtain ⟨t, l4, b4, G4, q4⟩ := Ite_eq N (by omega) p2 ws (G3.tm.le p1) (tx.le p1) (ty.le p1) ((wd_le G3.tm p1).trans G3.wd) (by rw [wd_le tx p1, wd_le ty p1, wx, wy]) (by omega)
  refine (q4 _).trans ?_
  have E := fun (k : Int → List Nd → By → Ws → List Int → Option R) => Eval_0112 N hN G4.ar ws e he G4.tm k
  have hv := G4.v (envOf e 3)
  rw [val_le G3.tm.2 p1, val_le tx.2 p1, val_le ty.2 p1, ex, ey, ec] at hv
  have l3 : e.length = 3 := by rw [← hE]; rfl
  have hs : sub e 0 3 = e := by have := sub_all e; rwa [l3] at this
  rw [l3] at E
  have hb : band .u16 (a2 : Int) (1 : Int) = ((a2 % 2 : Nat) : Int) := mask_and (w := 1) (by omega) (by omega)
  have hp : ∀ {w : Int} {v : Nat}, Wd w → v < 65536 → band .u16 (v : Int) (maskI w) = ((v % 2 ^ w.toNat : Nat) : Int) := fun h hv => by rw [maskI_of h, mask_and h.pos.2.1 hv]
  unfold law2_TermWidths_lj2 law2_TermWidths_lj2_T0
  simp only [hq, lJ', dJ', gJ, g0, g1, g2, hb, hs, fits_of (show 0 + 3 ≤ e.length by omega), decide_true, br_true, br_dec]
  by_cases h : a2 % 2 = 1
  · rw [if_pos (by omega)]
    refine (E _).trans ?_
    rw [hv, if_pos h, refMask_eq, hp hwJ (by omega), decide_eq_true rfl]
  · rw [if_neg (by omega)]
    refine (E _).trans ?_
    rw [hv, if_neg h, refMask_eq, hp hwJ (by omega), decide_eq_true rfl]

end Go.Proofs.Yteagdmkedffplaa
