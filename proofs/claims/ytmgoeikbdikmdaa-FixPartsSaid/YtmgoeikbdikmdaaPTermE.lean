/-
 terms (chapter 2): Two whole.
-/
import Derived.Test.YtmgoeikbdikmdaaPTermD
set_option linter.unusedSimpArgs false
set_option linter.unusedVariables false
namespace Go.Proofs.Ytmgoeikbdikmdaa
open Go.Gx

theorem there2 {R : Type} (N : Nat) {l : List Nd} (hl : l.length ≤ 65536) (b : By) (ws : Ws) (x y : Int) (hN : 8 ≤ N ∧ N ≤ 2 ^ 62) (k : Bool → List Nd → By → Ws → List Int → Option R) :
  Z30 N l b ws (x :: (y :: ([] : List ((Sh.int IntKind.i64).T)))) k = k (decide (Tm l x ∧ Tm l y)) l b ws [x, y] := by
 refine (there_eq N hl b ws [x, y] (by simp; omega) hN.2 k).trans ?_
 simp

theorem keep_two (N : Nat) {l : List Nd} {b : By} (A : Ar l b) (ws : Ws) {op x y : Int} (hx : Tm l x) (hy : Tm l y) (hxy : wd l x = wd l y) (ho : 4 ≤ op ∧ op ≤ 15) (hl : l.length < 65536) :
  ∃ t l' b', Got l (outW op (wd l x)) (fun env => doN op (wd l x).toNat (val env l x) (val env l y)) 1 t l' b' ∧
   ∀ {R : Type} (k : Int → Int → By → Ws → List Nd → Option R), Z27 N op (outW op (wd l x)) 0 x y 0 l b ws k = k t 0 b' ws l' := by
 have hw := A.kw hx
 have K : NodeOk l (op, outW op (wd l x), 0, x, y, 0) := .mk' (Wd_out hw) (by omega) hx.part hy.part (noPart l) (fun e => absurd e (by omega)) (fun e => absurd e (by omega)) (fun e => absurd e (by omega))
  (fun _ _ => ⟨hx, hy, hxy, rfl⟩) (fun e => absurd e (by omega)) (fun e => absurd e (by omega)) (fun e => absurd e (by omega))
 obtain ⟨t, l', b', G, _, hc⟩ := keep_eq N A ws _ K hl
 refine ⟨t, l', b', G.more (fun env => ?_) (Nat.le_refl _), hc⟩
 simp only [nv, op_mk, a_mk, b_mk, w_mk, v_mk]
 rw [if_neg (by omega), if_neg (by omega), if_neg (by omega), if_neg (by omega), if_neg (by omega)]

/-- two numbers -/
theorem two_num (N : Nat) (hN : 8 ≤ N ∧ N ≤ 2 ^ 62) (c : Z28_Ty) {l : List Nd} {b : By} (A : Ar l b) (ws : Ws) {op x y : Int} (hx : Tm l x) (hy : Tm l y) (hxy : wd l x = wd l y) (ho : 4 ≤ op ∧ op ≤ 15) (nx : (nd l x).op = 1) (ny : (nd l y).op = 1) (hlen : l.length < 65536) :
  ∃ t l' b', Got l (outW op (wd l x)) (fun env => doN op (wd l x).toNat (val env l x) (val env l y)) 1 t l' b' ∧
   nd l' t = (1, outW op (wd l x), ((doN op (wd l x).toNat (val (fun _ => 0) l x) (val (fun _ => 0) l y) : Nat) : Int), 0, 0, 0) ∧
   ∀ {R : Type} (k : Int → Int → By → Ws → List Nd → Option R), Z21_T N (@Z27 N) @c (@Z34 N) (@Z13 N) (@Z39 N) (@Z36 N) (@Z18 N) (@Z24 N) (@Z30 N) (@Z35 N) op x y l b ws k = k t 0 b' ws l' := by
 have hw := A.kw hx
 have hnum : isNum l x = true ∧ isNum l y = true := ⟨by simpa [isNum] using nx, by simpa [isNum] using ny⟩
 have vx := val_num A (fun _ => 0) hx nx
 have vy := val_num A (fun _ => 0) hy ny
 have hp := pow_le16 hw
 rw [← hxy] at vy
 have lx := A.lt' (fun _ => 0) hx
 have ly := A.lt' (fun _ => 0) hy
 rw [← hxy] at ly
 obtain ⟨n, hn, hn'⟩ := hw.nat
 have en : (wd l x).toNat = n := by omega
 have D : ∀ {S : Type} (k : Int → Int → Option S), Z36 N op (wd l x) (nd l x).v (nd l y).v k = k ((doN op (wd l x).toNat (nd l x).v.toNat (nd l y).v.toNat : Nat) : Int) 0 := fun k => by
  have := Do_eq N (op := op) (w := n) (a := (nd l x).v.toNat) (b := (nd l y).v.toNat) hn' (by omega) (by omega) (by omega) k
  rw [en]
  rw [Nat.mod_eq_of_lt (by rw [← en]; omega), Nat.mod_eq_of_lt (by rw [← en]; omega)] at this
  rw [← this, hn]
  congr 1 <;> omega
 have hlt : doN op (wd l x).toNat (nd l x).v.toNat (nd l y).v.toNat < 2 ^ (outW op (wd l x)).toNat := by
  unfold outW
  split
  ·rename_i h7
   rcases h7 with h7 | h7 <;> rw [h7] <;> unfold doN <;> simp <;> split <;> decide
  ·exact doN_lt hw.pos.1 (by omega) (by omega)
 have hp' := pow_le16 (Wd_out (op := op) hw)
 obtain ⟨t, l', b', G, hn2, hc⟩ := Const_eq N A ws (w := outW op (wd l x)) (v := ((doN op (wd l x).toNat (nd l x).v.toNat (nd l y).v.toNat : Nat) : Int)) (Wd_out hw) (by omega) (by omega)
 rw [Int.toNat_natCast, Nat.mod_eq_of_lt hlt, ← (val_num A (fun _ => 0) hx nx).1, ← (val_num A (fun _ => 0) hy ny).1] at hn2
 refine ⟨t, l', b', G.more (fun env => ?_) (by omega), hn2, fun k => ?_⟩
 ·rw [(val_num A env hx nx).1, (val_num A env hy ny).1, Int.toNat_natCast, Nat.mod_eq_of_lt hlt]
 ·unfold Z21_T
  rw [two_eq, decide_eq_true ho]
  simp only [Bool.not_true, br_false]
  rw [there2 N A.len b ws x y hN, decide_eq_true ⟨hx, hy⟩]
  simp only [Bool.not_true, br_false]
  rw [Width_eq N A.len, Width_eq N A.len, br_ndec, if_pos hxy, Known_eq N A ws hx, Known_eq N A ws hy, hnum.1, hnum.2, br_true, br_true, Width_eq N A.len, D, Width_eq N A.len, Out_eq' N hw ho]
  exact hc _

theorem two_step (N lv : Nat) (hN : 8 ≤ N ∧ N ≤ 2 ^ 62) (c : Z28_Ty) (H : LessOk N lv @c) :
  TwoOk N lv (@Z21_T N (@Z27 N) @c (@Z34 N) (@Z13 N) (@Z39 N) (@Z36 N) (@Z18 N) (@Z24 N) (@Z30 N) (@Z35 N)) := by
 intro l b A ws op x y hx hy hxy ho hl hlen
 have hlp := lev_pos (wd l x)
 have hw := A.kw hx
 unfold Z21_T
 -- without a number
 have tail : ∀ {x y : Int} (hx : Tm l x) (hy : Tm l y) (hxy : wd l x = wd l y) (hl : lev (wd l x) ≤ lv), ∃ t l' b', Got l (outW op (wd l x)) (fun env => doN op (wd l x).toNat (val env l x) (val env l y)) lv t l' b' ∧
   ∀ {R : Type} (k : Int → Int → By → Ws → List Nd → Option R), c op x y l b ws (fun i553 i554 b555 l556 l557 l558 => br b555 (k i553 i554 l556 l557 l558)
    (Z24 N x l558 l556 l557 (fun i559 l560 l561 l562 => Z39 N op i559 (fun i563 => Z27 N op i563 (0 : Int) x y (0 : Int) l560 l561 l562 (fun i564 i565 l566 l567 l568 => k i564 i565 l566 l567 l568))))) = k t 0 b' ws l' := by
  intro x y hx hy hxy hl
  obtain ⟨ok, t, l', b', G, hc⟩ := H A ws hx hy hxy ho hl hlen
  cases ok with
  | true => exact ⟨t, l', b', G.yes rfl, fun k => (hc _).trans rfl⟩
  | false =>
   obtain ⟨rfl, rfl⟩ := G.no rfl
   obtain ⟨t2, l2, b2, G2, hk⟩ := keep_two N A ws hx hy hxy ho (by omega)
   refine ⟨t2, l2, b2, G2.more (fun _ => rfl) (by omega), fun k => (hc _).trans ?_⟩
   rw [br_false, Width_eq N A.len, Out_eq' N (A.kw hx) ho]
   exact hk _
 by_cases hnum : isNum l x = true ∧ isNum l y = true
 ·obtain ⟨t, l', b', G, _, hc⟩ := two_num N hN @c A ws hx hy hxy ho (by simpa [isNum] using hnum.1) (by simpa [isNum] using hnum.2) (by omega)
  refine ⟨t, l', b', G.more (fun _ => rfl) (by omega), fun {R} k => ?_⟩
  have := hc k
  unfold Z21_T at this
  exact this
 ·obtain ⟨t1, l1, b1, G1, h1⟩ := tail hx hy hxy hl
  by_cases hsw : trn op = true ∧ y < x
  ·obtain ⟨t2, l2, b2, G2, h2⟩ := tail hy hx hxy.symm (by rw [← hxy]; exact hl)
   rw [← hxy] at G2
   refine ⟨t2, l2, b2, G2.more (fun env => doN_comm (by simpa [trn] using hsw.1) _ _ _) (Nat.le_refl _), fun k => ?_⟩
   rw [two_eq, decide_eq_true ho]
   simp only [Bool.not_true, br_false]
   rw [there2 N A.len b ws x y hN, decide_eq_true ⟨hx, hy⟩]
   simp only [Bool.not_true, br_false]
   rw [Width_eq N A.len, Width_eq N A.len, br_ndec, if_pos hxy, Known_eq N A ws hx, Known_eq N A ws hy]
   by_cases q1 : isNum l x = true
   ·have q2 : isNum l y = false := by
     cases e : isNum l y
     ·rfl
     ·exact absurd ⟨q1, e⟩ hnum
    rw [q1, q2, br_true, br_false, turns_eq, hsw.1, br_true, br_dec, if_pos hsw.2]
    exact h2 k
   ·rw [Bool.not_eq_true _ |>.mp q1, br_false, turns_eq, hsw.1, br_true, br_dec, if_pos hsw.2]
    exact h2 k
  ·refine ⟨t1, l1, b1, G1, fun k => ?_⟩
   rw [two_eq, decide_eq_true ho]
   simp only [Bool.not_true, br_false]
   rw [there2 N A.len b ws x y hN, decide_eq_true ⟨hx, hy⟩]
   simp only [Bool.not_true, br_false]
   rw [Width_eq N A.len, Width_eq N A.len, br_ndec, if_pos hxy, Known_eq N A ws hx, Known_eq N A ws hy]
   by_cases q1 : isNum l x = true
   ·have q2 : isNum l y = false := by
     cases e : isNum l y
     ·rfl
     ·exact absurd ⟨q1, e⟩ hnum
    rw [q1, q2, br_true, br_false, turns_eq]
    by_cases q3 : trn op = true
    ·rw [q3, br_true, br_dec, if_neg (fun e => hsw ⟨q3, e⟩)]
     exact h1 k
    ·rw [Bool.not_eq_true _ |>.mp q3, br_false]
     exact h1 k
   ·rw [Bool.not_eq_true _ |>.mp q1, br_false, turns_eq]
    by_cases q3 : trn op = true
    ·rw [q3, br_true, br_dec, if_neg (fun e => hsw ⟨q3, e⟩)]
     exact h1 k
    ·rw [Bool.not_eq_true _ |>.mp q3, br_false]
     exact h1 k

theorem two_rec (N : Nat) (hN : 8 ≤ N ∧ N ≤ 2 ^ 62) (lv : Nat) : ∀ n : Nat, 4 * lv ≤ n → TwoOk N lv (@G_term_Arena_Two_Rec.Z21 (G_term_Arena_Two_rec N n)) := by
 induction lv with
 | zero =>
  intro n _ l b A ws op x y hx hy hxy ho hl hlen
  have := lev_pos (wd l x)
  omega
 | succ lv ih =>
  intro n h
  obtain ⟨m, rfl⟩ : ∃ m, n = m + 4 := ⟨n - 4, by omega⟩
  have h0 := ih m (by omega)
  have h1 : EqualOk N (lv + 1) (@G_term_Arena_Two_Rec.Z26 (G_term_Arena_Two_rec N (m + 1))) := by
   intro l b A ws x v hx hv hl hlen
   exact equal_step N lv hN _ h0 A ws hx hv hl hlen
  have h2 : WithOk N (lv + 1) (@G_term_Arena_Two_Rec.Z31 (G_term_Arena_Two_rec N (m + 2))) := with_step N (lv + 1) _ h1
  have h3 : LessOk N (lv + 1) (@G_term_Arena_Two_Rec.Z28 (G_term_Arena_Two_rec N (m + 3))) := less_step N (lv + 1) _ h2
  exact two_step N (lv + 1) hN _ h3

theorem Two_eq (N : Nat) (hN : 12 ≤ N ∧ N ≤ 2 ^ 62) {l : List Nd} {b : By} (A : Ar l b) (ws : Ws) {op x y : Int} (hx : Tm l x) (hy : Tm l y) (hxy : wd l x = wd l y) (ho : 4 ≤ op ∧ op ≤ 15) (hlen : l.length + 3 ≤ 65536) :
  ∃ t l' b', Got l (outW op (wd l x)) (fun env => doN op (wd l x).toNat (val env l x) (val env l y)) 3 t l' b' ∧
   ∀ {R : Type} (k : Int → Int → By → Ws → List Nd → Option R), Z21 N op x y l b ws k = k t 0 b' ws l' :=
 two_rec N (by omega) 3 N (by omega) A ws hx hy hxy ho (lev_pos _).2 hlen

theorem Two_num (N : Nat) (hN : 12 ≤ N ∧ N ≤ 2 ^ 62) {l : List Nd} {b : By} (A : Ar l b) (ws : Ws) {op x y : Int} (hx : Tm l x) (hy : Tm l y) (hxy : wd l x = wd l y) (ho : 4 ≤ op ∧ op ≤ 15) (nx : (nd l x).op = 1) (ny : (nd l y).op = 1) (hlen : l.length < 65536) :
  ∃ t l' b', Got l (outW op (wd l x)) (fun env => doN op (wd l x).toNat (val env l x) (val env l y)) 1 t l' b' ∧
   nd l' t = (1, outW op (wd l x), ((doN op (wd l x).toNat (val (fun _ => 0) l x) (val (fun _ => 0) l y) : Nat) : Int), 0, 0, 0) ∧
   ∀ {R : Type} (k : Int → Int → By → Ws → List Nd → Option R), Z21 N op x y l b ws k = k t 0 b' ws l' := by
 obtain ⟨n, rfl⟩ : ∃ n, N = n + 1 := ⟨N - 1, by omega⟩
 exact two_num (n + 1) (by omega) (@G_term_Arena_Two_Rec.Z28 (G_term_Arena_Two_rec (n + 1) n)) A ws hx hy hxy ho nx ny hlen

/-- what Two refuses -/
theorem Two_bad (N : Nat) (hN : 12 ≤ N ∧ N ≤ 2 ^ 62) {l : List Nd} (hl : l.length ≤ 65536) (b : By) (ws : Ws) (op x y : Int) (h : ¬ (4 ≤ op ∧ op ≤ 15) ∨ ¬ (Tm l x ∧ Tm l y) ∨ wd l x ≠ wd l y) {R : Type} (k : Int → Int → By → Ws → List Nd → Option R) :
  Z21 N op x y l b ws k = k 0 (if ¬ (4 ≤ op ∧ op ≤ 15) then 5 else if ¬ (Tm l x ∧ Tm l y) then 1 else 2) b ws l := by
 obtain ⟨n, rfl⟩ : ∃ n, N = n + 1 := ⟨N - 1, by omega⟩
 show Z21_T (n + 1) (@Z27 (n + 1)) (@G_term_Arena_Two_Rec.Z28 (G_term_Arena_Two_rec (n + 1) n)) (@Z34 (n + 1)) (@Z13 (n + 1)) (@Z39 (n + 1)) (@Z36 (n + 1)) (@Z18 (n + 1)) (@Z24 (n + 1)) (@Z30 (n + 1)) (@Z35 (n + 1)) op x y l b ws k = _
 unfold Z21_T
 rw [two_eq]
 by_cases h1 : 4 ≤ op ∧ op ≤ 15
 ·rw [decide_eq_true h1, if_neg (fun e => e h1)]
  simp only [Bool.not_true, br_false]
  rw [there2 (n + 1) hl b ws x y (by omega)]
  by_cases h2 : Tm l x ∧ Tm l y
  ·rw [decide_eq_true h2, if_neg (fun e => e h2)]
   simp only [Bool.not_true, br_false]
   rw [Width_eq _ hl, Width_eq _ hl, br_ndec]
   rcases h with h | h | h
   ·exact absurd h1 h
   ·exact absurd h2 h
   ·rw [if_neg h]
  ·rw [decide_eq_false h2, if_pos h2]
   rfl
 ·rw [decide_eq_false h1, if_pos h1]
  rfl

end Go.Proofs.Ytmgoeikbdikmdaa
