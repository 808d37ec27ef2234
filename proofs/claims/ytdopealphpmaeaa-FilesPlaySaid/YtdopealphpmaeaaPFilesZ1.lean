/-
  the files beside the reference's (chapter 14): a deed, whichever.
-/
import Derived.Test.YtdopealphpmaeaaPFilesZ
set_option linter.unusedSimpArgs false
set_option linter.unusedVariables false
set_option linter.unusedSectionVars false
namespace Go.Proofs.Ytdopealphpmaeaa
open Go.Gx

section
variable {c : Nat} {f : List Int} {nx : Int} {m : TM} {d : DM} {l : OL} {L : List EN} {D : List (List Int)}
  (N : Nat) (hN : 1000 < N) (hc : c ≤ 1000) (S : FI c f nx m d l L D) (fd n : Nat) (hfd : fd ≤ 65535) (hn : n ≤ 65535) (b : List Int) (hb : b.length ≤ 400) (p q : List UInt8)
include hN hc S

omit hN hc S in
/-- both sides answer the same, and stay alike -/
def DoB (c : Nat) (f : List Int) (nx : Int) (m : TM) (d : DM) (l : OL) (L : List EN) (D : List (List Int)) (N : Nat) (fd n : Nat) (b : List Int) (p q : List UInt8) (op : Int) : Prop := ∃ f' nx' m' d' l' L' D', FI (c + 1) f' nx' m' d' l' L' D' ∧ ∀ {R : Type} (J : Option R)
    (k0 : Bool → List Int → Int → TM → DM → List Int → Int → OL → OL → List (List Int) → List Int → List EN → Option R) (k1 : Bool → List Int → Int → TM → DM → List Int → Int → List EN → OL → OL → List (List Int) → List Int → List EN → Option R),
    k0 true f' nx' m' d' (fdR f') nx' l' l' D' (Go.Proofs.Ytdopealphpmaeaa.opn l'.length) L' = J → (∀ L0, k1 true f' nx' m' d' (fdR f') nx' L0 l' l' D' (Go.Proofs.Ytdopealphpmaeaa.opn l'.length) L' = J) →
    Z27 N op (fd : Int) (n : Int) b (bs p) (bs q) f nx m d l (fdR f) nx L D (Go.Proofs.Ytdopealphpmaeaa.opn l.length) l k0 k1 = J

include hfd hn hb in
theorem doB27 : DoB c f nx m d l L D N fd n b p q 27 := by
  obtain ⟨r, f', nx', m', d', l', L', D', S', e1, e2⟩ := d_open N hN hc S p
  refine ⟨f', nx', m', d', l', L', D', S', fun J k0 k1 h0 h1 => ?_⟩
  unfold Z27 Z27_T
  rw [br_of (by decide)]
  simp only [e1, e2, decide_true, br_true]
  exact h0

include hfd hn hb in
theorem doB28 : DoB c f nx m d l L D N fd n b p q 28 := by
  obtain ⟨r, f', nx', m', d', l', L', D', S', e1, e2⟩ := d_close N hN hc S fd hfd
  refine ⟨f', nx', m', d', l', L', D', S', fun J k0 k1 h0 h1 => ?_⟩
  unfold Z27 Z27_T
  rw [br_not (by decide), br_of (by decide)]
  simp only [e1, e2, decide_true, br_true, Int.reduceEq, decide_false, br_false]
  exact h0

include hfd hn hb in
theorem doB29 : DoB c f nx m d l L D N fd n b p q 29 := by
  obtain ⟨r, bts, f', nx', m', d', l', L', D', S', hbt, e1, e2⟩ := d_read N hN hc S fd n hfd hn
  refine ⟨f', nx', m', d', l', L', D', S', fun J k0 k1 h0 h1 => ?_⟩
  unfold Z27 Z27_T
  rw [br_not (by decide), br_not (by decide), br_of (by decide)]
  simp only [e1, e2, decide_true, br_true, Int.reduceEq, decide_false, br_false, fit_ok N hN hc S hbt]
  exact h0

include hfd hn hb in
theorem doB30 : DoB c f nx m d l L D N fd n b p q 30 := by
  obtain ⟨r, f', nx', m', d', l', L', D', S', e1, e2⟩ := d_write N hN hc S fd hfd b hb
  refine ⟨f', nx', m', d', l', L', D', S', fun J k0 k1 h0 h1 => ?_⟩
  unfold Z27 Z27_T
  have hld : listDec (Sh.dec (.int .u8)) b b = true := listDec_dec (.int .u8) b
  rw [br_not (by decide), br_not (by decide), br_not (by decide), br_of (by decide)]
  simp only [e1, e2, decide_true, br_true, Int.reduceEq, decide_false, br_false, hld]
  exact h0

include hfd hn hb in
theorem doB31 : DoB c f nx m d l L D N fd n b p q 31 := by
  obtain ⟨r, f', nx', m', d', l', L', D', S', e1, e2⟩ := d_seek N hN hc S fd n hfd hn
  refine ⟨f', nx', m', d', l', L', D', S', fun J k0 k1 h0 h1 => ?_⟩
  unfold Z27 Z27_T
  rw [br_not (by decide), br_not (by decide), br_not (by decide), br_not (by decide), br_of (by decide)]
  simp only [e1, e2, decide_true, br_true, Int.reduceEq, decide_false, br_false]
  exact h0

include hfd hn hb in
theorem doB32 : DoB c f nx m d l L D N fd n b p q 32 := by
  obtain ⟨r, f', nx', m', d', l', L', D', S', e1, e2⟩ := d_size N hN hc S fd hfd
  refine ⟨f', nx', m', d', l', L', D', S', fun J k0 k1 h0 h1 => ?_⟩
  unfold Z27 Z27_T
  rw [br_not (by decide), br_not (by decide), br_not (by decide), br_not (by decide), br_not (by decide), br_of (by decide)]
  simp only [e1, e2, decide_true, br_true, Int.reduceEq, decide_false, br_false]
  exact h0

include hfd hn hb in
theorem doB38 : DoB c f nx m d l L D N fd n b p q 38 := by
  obtain ⟨r, f', nx', m', d', l', L', D', S', e1, e2⟩ := d_trunc N hN hc S fd n hfd hn
  refine ⟨f', nx', m', d', l', L', D', S', fun J k0 k1 h0 h1 => ?_⟩
  unfold Z27 Z27_T
  rw [br_not (by decide), br_not (by decide), br_not (by decide), br_not (by decide), br_not (by decide), br_not (by decide), br_of (by decide)]
  simp only [e1, e2, decide_true, br_true, Int.reduceEq, decide_false, br_false]
  exact h0

include hfd hn hb in
theorem doB39 : DoB c f nx m d l L D N fd n b p q 39 := by
  obtain ⟨r, f', nx', m', d', l', L', D', S', e1, e2⟩ := d_twin N hN hc S fd hfd
  refine ⟨f', nx', m', d', l', L', D', S', fun J k0 k1 h0 h1 => ?_⟩
  unfold Z27 Z27_T
  rw [br_not (by decide), br_not (by decide), br_not (by decide), br_not (by decide), br_not (by decide), br_not (by decide), br_not (by decide), br_of (by decide)]
  simp only [e1, e2, decide_true, br_true, Int.reduceEq, decide_false, br_false]
  exact h0

include hfd hn hb in
theorem doB33 : DoB c f nx m d l L D N fd n b p q 33 := by
  obtain ⟨r, m', L', S', e1, e2⟩ := d_unlink N hN hc S p q
  refine ⟨f, nx, m', d, l, L', D, S', fun J k0 k1 h0 h1 => ?_⟩
  unfold Z27 Z27_T
  rw [br_not (by decide), br_not (by decide), br_not (by decide), br_not (by decide), br_not (by decide), br_not (by decide), br_not (by decide), br_not (by decide), br_of (by decide)]
  rw [e1, br_of (decide_eq_true rfl), br_of (decide_eq_true rfl), br_of (decide_eq_true rfl)]
  rcases e2 _ _ with e | ⟨L0, e⟩
  · exact e.trans (by simpa using h0)
  · exact e.trans (by simpa using h1 L0)

include hfd hn hb in
theorem doB34 : DoB c f nx m d l L D N fd n b p q 34 := by
  obtain ⟨r, m', L', S', e1, e2⟩ := d_rename N hN hc S p q
  refine ⟨f, nx, m', d, l, L', D, S', fun J k0 k1 h0 h1 => ?_⟩
  unfold Z27 Z27_T
  rw [br_not (by decide), br_not (by decide), br_not (by decide), br_not (by decide), br_not (by decide), br_not (by decide), br_not (by decide), br_not (by decide), br_not (by decide), br_of (by decide)]
  rw [e1, br_of (decide_eq_true rfl), br_of (decide_eq_true rfl), br_of (decide_eq_true rfl)]
  rcases e2 _ _ with e | ⟨L0, e⟩
  · exact e.trans (by simpa using h0)
  · exact e.trans (by simpa using h1 L0)

include hfd hn hb in
theorem doB35 : DoB c f nx m d l L D N fd n b p q 35 := by
  obtain ⟨r, nx', m', L', D', S', e1, e2⟩ := d_mkdir N hN hc S p q
  refine ⟨f, nx', m', d, l, L', D', S', fun J k0 k1 h0 h1 => ?_⟩
  unfold Z27 Z27_T
  rw [br_not (by decide), br_not (by decide), br_not (by decide), br_not (by decide), br_not (by decide), br_not (by decide), br_not (by decide), br_not (by decide), br_not (by decide), br_not (by decide), br_of (by decide)]
  rw [e1, br_of (decide_eq_true rfl), br_of (decide_eq_true rfl), br_of (decide_eq_true rfl)]
  rcases e2 _ _ with e | ⟨L0, e⟩
  · exact e.trans (by simpa using h0)
  · exact e.trans (by simpa using h1 L0)

include hfd hn hb in
theorem doB36 : DoB c f nx m d l L D N fd n b p q 36 := by
  obtain ⟨r, m', L', S', e1, e2⟩ := d_rmdir N hN hc S p q
  refine ⟨f, nx, m', d, l, L', D, S', fun J k0 k1 h0 h1 => ?_⟩
  unfold Z27 Z27_T
  rw [br_not (by decide), br_not (by decide), br_not (by decide), br_not (by decide), br_not (by decide), br_not (by decide), br_not (by decide), br_not (by decide), br_not (by decide), br_not (by decide), br_not (by decide), br_of (by decide)]
  rw [e1, br_of (decide_eq_true rfl), br_of (decide_eq_true rfl), br_of (decide_eq_true rfl)]
  rcases e2 _ _ with e | ⟨L0, e⟩
  · exact e.trans (by simpa using h0)
  · exact e.trans (by simpa using h1 L0)

include hfd hn hb in
theorem doB37 : DoB c f nx m d l L D N fd n b p q 37 := by
  obtain ⟨r, e1, e2⟩ := d_list N hN hc S p q
  refine ⟨f, nx, m, d, l, L, D, S.more, fun J k0 k1 h0 h1 => ?_⟩
  unfold Z27 Z27_T
  rw [br_not (by decide), br_not (by decide), br_not (by decide), br_not (by decide), br_not (by decide), br_not (by decide), br_not (by decide), br_not (by decide), br_not (by decide), br_not (by decide), br_not (by decide), br_not (by decide), br_of (by decide)]
  rw [e1, br_of (decide_eq_true rfl), br_of (decide_eq_true rfl), br_of (decide_eq_true rfl)]
  rcases e2 _ _ with e | ⟨L0, e⟩
  · exact e.trans (by simpa using h0)
  · exact e.trans (by simpa using h1 L0)

theorem doB0 (op : Int) (o27 : ¬ op = 27) (o28 : ¬ op = 28) (o29 : ¬ op = 29) (o30 : ¬ op = 30) (o31 : ¬ op = 31) (o32 : ¬ op = 32) (o38 : ¬ op = 38) (o39 : ¬ op = 39) (o33 : ¬ op = 33) (o34 : ¬ op = 34) (o35 : ¬ op = 35) (o36 : ¬ op = 36) (o37 : ¬ op = 37) : DoB c f nx m d l L D N fd n b p q op := by
  obtain ⟨r, bts, hbt, e1, e2⟩ := d_data N hN hc S p
  refine ⟨f, nx, m, d, l, L, D, S.more, fun J k0 k1 h0 h1 => ?_⟩
  unfold Z27 Z27_T
  rw [br_not (decide_eq_false o27), br_not (decide_eq_false o28), br_not (decide_eq_false o29), br_not (decide_eq_false o30), br_not (decide_eq_false o31), br_not (decide_eq_false o32), br_not (decide_eq_false o38), br_not (decide_eq_false o39), br_not (decide_eq_false o33), br_not (decide_eq_false o34), br_not (decide_eq_false o35), br_not (decide_eq_false o36), br_not (decide_eq_false o37)]
  simp only [e1, e2, fit_ok N hN hc S hbt, br_true, sub_all, decide_true]
  exact h0

include hfd hn hb in
theorem doB (op : Int) : DoB c f nx m d l L D N fd n b p q op := by
  by_cases o27 : op = 27
  · rw [o27]; exact doB27 N hN hc S fd n hfd hn b hb p q
  by_cases o28 : op = 28
  · rw [o28]; exact doB28 N hN hc S fd n hfd hn b hb p q
  by_cases o29 : op = 29
  · rw [o29]; exact doB29 N hN hc S fd n hfd hn b hb p q
  by_cases o30 : op = 30
  · rw [o30]; exact doB30 N hN hc S fd n hfd hn b hb p q
  by_cases o31 : op = 31
  · rw [o31]; exact doB31 N hN hc S fd n hfd hn b hb p q
  by_cases o32 : op = 32
  · rw [o32]; exact doB32 N hN hc S fd n hfd hn b hb p q
  by_cases o38 : op = 38
  · rw [o38]; exact doB38 N hN hc S fd n hfd hn b hb p q
  by_cases o39 : op = 39
  · rw [o39]; exact doB39 N hN hc S fd n hfd hn b hb p q
  by_cases o33 : op = 33
  · rw [o33]; exact doB33 N hN hc S fd n hfd hn b hb p q
  by_cases o34 : op = 34
  · rw [o34]; exact doB34 N hN hc S fd n hfd hn b hb p q
  by_cases o35 : op = 35
  · rw [o35]; exact doB35 N hN hc S fd n hfd hn b hb p q
  by_cases o36 : op = 36
  · rw [o36]; exact doB36 N hN hc S fd n hfd hn b hb p q
  by_cases o37 : op = 37
  · rw [o37]; exact doB37 N hN hc S fd n hfd hn b hb p q
  exact doB0 N hN hc S fd n b p q op o27 o28 o29 o30 o31 o32 o38 o39 o33 o34 o35 o36 o37

/-- the bytes of a path, on both sides -/
theorem dataB {R : Type} (J : Option R) (k0 : Bool → List Int → Int → TM → DM → List Int → Int → OL → OL → List (List Int) → List Int → List EN → Option R) (k1 : Bool → List Int → Int → TM → DM → List Int → Int → List EN → OL → OL → List (List Int) → List Int → List EN → Option R)
    (h0 : k0 true f nx m d (fdR f) nx l l D (opn l.length) L = J) : Z29 N 0 0 0 (bs p) (bs []) f nx m d l (fdR f) nx L D (opn l.length) l k0 k1 = J := by
  obtain ⟨r, bts, hbt, e1, e2⟩ := d_data N hN hc S p
  unfold Z29 Z29_T
  rw [br_not (by decide), br_not (by decide), br_not (by decide), br_not (by decide), br_not (by decide), br_not (by decide), br_not (by decide), br_not (by decide), br_not (by decide), br_not (by decide), br_not (by decide), br_not (by decide), br_not (by decide)]
  simp only [e1, e2, fit_ok N hN hc S hbt, br_true, sub_all, decide_true]
  exact h0
end

end Go.Proofs.Ytdopealphpmaeaa
