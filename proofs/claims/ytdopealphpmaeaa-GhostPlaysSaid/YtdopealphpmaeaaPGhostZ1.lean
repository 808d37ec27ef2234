/-
 files of terms beside the reference's (chapter 19): a deed, whichever.
-/
import Derived.Test.YtdopealphpmaeaaPGhostZ
set_option linter.unusedSimpArgs false
set_option linter.unusedVariables false
set_option linter.unusedSectionVars false
namespace Go.Proofs.Ytdopealphpmaeaa
open Go.Gx

section
variable {c : Nat} {f : List Int} {nx : Int} {m : TM} {d : DM} {l : OL} {L : List EN} {D : List (List Int)}
 {A : List Nd} {B : By} {z : Int} (hA : BA A B) (ws : Ws) (hr : RowsK A d) (hz : K8 A z) (hz0 : bt A z = 0) (N : Nat) (hN : 1000 < N) (hc : c ≤ 1000) (S : FI c f nx m (dmap A d) l L D) (fd n : Nat) (hfd : fd ≤ 65535) (hn : n ≤ 65535) (b : List Int) (hb : b.length ≤ 400) (hbu : ∀ x ∈ b, 0 ≤ x ∧ x < 256) (p q : List UInt8)
include hA ws hr hz hz0 hN hc S

omit hA ws hr hz hz0 hN hc S in
/-- both sides answer the same, and stay alike -/
def DoB (A : List Nd) (B : By) (ws : Ws) (z : Int) (c : Nat) (f : List Int) (nx : Int) (m : TM) (d : DM) (l : OL) (L : List EN) (D : List (List Int)) (N : Nat) (fd n : Nat) (b : List Int) (p q : List UInt8) (op : Int) : Prop := ∃ A' B' f' nx' m' d' l' L' D', BA A' B' ∧ Le A A' ∧ FI (c + 1) f' nx' m' (dmap A' d') l' L' D' ∧ RowsK A' d' ∧ ∀ {R : Type} (J : Option R)
  (k0 : Bool → By → Ws → List Int → Int → Int → TM → DM → List Int → Int → OL → List Nd → OL → List (List Int) → List Int → List EN → Option R) (k1 : Bool → By → Ws → List Int → Int → Int → TM → DM → List Int → Int → List EN → OL → List Nd → OL → List (List Int) → List Int → List EN → Option R),
  k0 true B' ws f' z nx' m' d' (fdR f') nx' l' A' l' D' (Go.Proofs.Ytdopealphpmaeaa.opn l'.length) L' = J → (∀ L0, k1 true B' ws f' z nx' m' d' (fdR f') nx' L0 l' A' l' D' (Go.Proofs.Ytdopealphpmaeaa.opn l'.length) L' = J) →
  Z39 N op (fd : Int) (n : Int) b (bs p) (bs q) A B ws f z nx m d l (fdR f) nx L D (Go.Proofs.Ytdopealphpmaeaa.opn l.length) l k0 k1 = J

include hfd hn hb in
theorem doB27 : DoB A B ws z c f nx m d l L D N fd n b p q 27 := by
 obtain ⟨r, f', nx', m', d', l', L', D', S', hr', e1, e2⟩ := d_open hr hz hz0 N hN hc S p
 refine ⟨A, B, f', nx', m', d', l', L', D', hA, Le.refl A, S', hr', fun J k0 k1 h0 h1 => ?_⟩
 unfold Z39 Z39_T
 rw [br_of (by decide)]
 simp only [e1, e2, decide_true, br_true]
 exact h0

include hfd hn hb in
theorem doB28 : DoB A B ws z c f nx m d l L D N fd n b p q 28 := by
 obtain ⟨r, f', nx', m', d', l', L', D', S', hr', e1, e2⟩ := d_close hr hz hz0 N hN hc S fd hfd
 refine ⟨A, B, f', nx', m', d', l', L', D', hA, Le.refl A, S', hr', fun J k0 k1 h0 h1 => ?_⟩
 unfold Z39 Z39_T
 rw [br_not (by decide), br_of (by decide)]
 simp only [e1, e2, decide_true, br_true, Int.reduceEq, decide_false, br_false]
 exact h0

include hfd hn hb in
theorem doB29 : DoB A B ws z c f nx m d l L D N fd n b p q 29 := by
 obtain ⟨r, t, f', nx', m', d', l', L', D', S', hr', htl, ht, e1, e2⟩ := d_read hr hz hz0 N hN hc S fd n hfd hn
 refine ⟨A, B, f', nx', m', d', l', L', D', hA, Le.refl A, S', hr', fun J k0 k1 h0 h1 => ?_⟩
 have hml : (t.map (bt A)).length = t.length := List.length_map _
 unfold Z39 Z39_T
 rw [br_not (by decide), br_not (by decide), br_of (by decide)]
 rw [e1, e2, bytes_eq N hA.len B ws t ht (by omega) (by omega), br_of rfl, br_of (fits_of (by omega)), sub_all, br_of (decide_eq_true rfl), decide_eq_true rfl]
 exact h0

include hfd hn hb hbu in
theorem doB30 : DoB A B ws z c f nx m d l L D N fd n b p q 30 := by
 obtain ⟨A', B', t, hA', hle, ht, hm, et⟩ := terms_eq N b hbu (by omega) (by omega) hA ws
 have htl : t.length = b.length := by rw [← hm, List.length_map]
 have S1 : FI c f nx m (dmap A' d) l L D := by rw [dmap_le hr hle]; exact S
 obtain ⟨r, f', nx', m', d', l', L', D', S', hr', e1, e2⟩ := d_write (hr.le hle) (hz.le hle) ((hz.bt hle).trans hz0) N hN hc S1 fd hfd t ht (by omega)
 rw [hm] at e2
 refine ⟨A', B', f', nx', m', d', l', L', D', hA', hle, S', hr', fun J k0 k1 h0 h1 => ?_⟩
 have hld : listDec (Sh.dec (.int .u8)) b b = true := listDec_dec (.int .u8) b
 unfold Z39 Z39_T
 rw [br_not (by decide), br_not (by decide), br_not (by decide), br_of (by decide)]
 rw [et, br_of (decide_eq_true rfl), br_of (decide_eq_true rfl), br_of hld, e1, br_of (decide_eq_true rfl), br_of hld, e2, decide_eq_true rfl]
 exact h0

include hfd hn hb in
theorem doB31 : DoB A B ws z c f nx m d l L D N fd n b p q 31 := by
 obtain ⟨r, f', nx', m', d', l', L', D', S', hr', e1, e2⟩ := d_seek hr hz hz0 N hN hc S fd n hfd hn
 refine ⟨A, B, f', nx', m', d', l', L', D', hA, Le.refl A, S', hr', fun J k0 k1 h0 h1 => ?_⟩
 unfold Z39 Z39_T
 rw [br_not (by decide), br_not (by decide), br_not (by decide), br_not (by decide), br_of (by decide)]
 simp only [e1, e2, decide_true, br_true, Int.reduceEq, decide_false, br_false]
 exact h0

include hfd hn hb in
theorem doB32 : DoB A B ws z c f nx m d l L D N fd n b p q 32 := by
 obtain ⟨r, f', nx', m', d', l', L', D', S', hr', e1, e2⟩ := d_size hr hz hz0 N hN hc S fd hfd
 refine ⟨A, B, f', nx', m', d', l', L', D', hA, Le.refl A, S', hr', fun J k0 k1 h0 h1 => ?_⟩
 unfold Z39 Z39_T
 rw [br_not (by decide), br_not (by decide), br_not (by decide), br_not (by decide), br_not (by decide), br_of (by decide)]
 simp only [e1, e2, decide_true, br_true, Int.reduceEq, decide_false, br_false]
 exact h0

include hfd hn hb in
theorem doB38 : DoB A B ws z c f nx m d l L D N fd n b p q 38 := by
 obtain ⟨r, f', nx', m', d', l', L', D', S', hr', e1, e2⟩ := d_trunc hr hz hz0 N hN hc S fd n hfd hn
 refine ⟨A, B, f', nx', m', d', l', L', D', hA, Le.refl A, S', hr', fun J k0 k1 h0 h1 => ?_⟩
 unfold Z39 Z39_T
 rw [br_not (by decide), br_not (by decide), br_not (by decide), br_not (by decide), br_not (by decide), br_not (by decide), br_of (by decide)]
 simp only [e1, e2, decide_true, br_true, Int.reduceEq, decide_false, br_false]
 exact h0

include hfd hn hb in
theorem doB39 : DoB A B ws z c f nx m d l L D N fd n b p q 39 := by
 obtain ⟨r, f', nx', m', d', l', L', D', S', hr', e1, e2⟩ := d_twin hr hz hz0 N hN hc S fd hfd
 refine ⟨A, B, f', nx', m', d', l', L', D', hA, Le.refl A, S', hr', fun J k0 k1 h0 h1 => ?_⟩
 unfold Z39 Z39_T
 rw [br_not (by decide), br_not (by decide), br_not (by decide), br_not (by decide), br_not (by decide), br_not (by decide), br_not (by decide), br_of (by decide)]
 simp only [e1, e2, decide_true, br_true, Int.reduceEq, decide_false, br_false]
 exact h0

include hfd hn hb in
theorem doB33 : DoB A B ws z c f nx m d l L D N fd n b p q 33 := by
 obtain ⟨r, m', L', S', e1, e2⟩ := d_unlink N hr hz hz0 hN hc S p q
 refine ⟨A, B, f, nx, m', d, l, L', D, hA, Le.refl A, S', hr, fun J k0 k1 h0 h1 => ?_⟩
 unfold Z39 Z39_T
 rw [br_not (by decide), br_not (by decide), br_not (by decide), br_not (by decide), br_not (by decide), br_not (by decide), br_not (by decide), br_not (by decide), br_of (by decide)]
 rw [e1, br_of (decide_eq_true rfl), br_of (decide_eq_true rfl), br_of (decide_eq_true rfl)]
 rcases e2 _ _ with e | ⟨L0, e⟩
 ·exact e.trans (by simpa using h0)
 ·exact e.trans (by simpa using h1 L0)

include hfd hn hb in
theorem doB34 : DoB A B ws z c f nx m d l L D N fd n b p q 34 := by
 obtain ⟨r, m', L', S', e1, e2⟩ := d_rename N hr hz hz0 hN hc S p q
 refine ⟨A, B, f, nx, m', d, l, L', D, hA, Le.refl A, S', hr, fun J k0 k1 h0 h1 => ?_⟩
 unfold Z39 Z39_T
 rw [br_not (by decide), br_not (by decide), br_not (by decide), br_not (by decide), br_not (by decide), br_not (by decide), br_not (by decide), br_not (by decide), br_not (by decide), br_of (by decide)]
 rw [e1, br_of (decide_eq_true rfl), br_of (decide_eq_true rfl), br_of (decide_eq_true rfl)]
 rcases e2 _ _ with e | ⟨L0, e⟩
 ·exact e.trans (by simpa using h0)
 ·exact e.trans (by simpa using h1 L0)

include hfd hn hb in
theorem doB35 : DoB A B ws z c f nx m d l L D N fd n b p q 35 := by
 obtain ⟨r, nx', m', L', D', S', e1, e2⟩ := d_mkdir N hr hz hz0 hN hc S p q
 refine ⟨A, B, f, nx', m', d, l, L', D', hA, Le.refl A, S', hr, fun J k0 k1 h0 h1 => ?_⟩
 unfold Z39 Z39_T
 rw [br_not (by decide), br_not (by decide), br_not (by decide), br_not (by decide), br_not (by decide), br_not (by decide), br_not (by decide), br_not (by decide), br_not (by decide), br_not (by decide), br_of (by decide)]
 rw [e1, br_of (decide_eq_true rfl), br_of (decide_eq_true rfl), br_of (decide_eq_true rfl)]
 rcases e2 _ _ with e | ⟨L0, e⟩
 ·exact e.trans (by simpa using h0)
 ·exact e.trans (by simpa using h1 L0)

include hfd hn hb in
theorem doB36 : DoB A B ws z c f nx m d l L D N fd n b p q 36 := by
 obtain ⟨r, m', L', S', e1, e2⟩ := d_rmdir N hr hz hz0 hN hc S p q
 refine ⟨A, B, f, nx, m', d, l, L', D, hA, Le.refl A, S', hr, fun J k0 k1 h0 h1 => ?_⟩
 unfold Z39 Z39_T
 rw [br_not (by decide), br_not (by decide), br_not (by decide), br_not (by decide), br_not (by decide), br_not (by decide), br_not (by decide), br_not (by decide), br_not (by decide), br_not (by decide), br_not (by decide), br_of (by decide)]
 rw [e1, br_of (decide_eq_true rfl), br_of (decide_eq_true rfl), br_of (decide_eq_true rfl)]
 rcases e2 _ _ with e | ⟨L0, e⟩
 ·exact e.trans (by simpa using h0)
 ·exact e.trans (by simpa using h1 L0)

include hfd hn hb in
theorem doB37 : DoB A B ws z c f nx m d l L D N fd n b p q 37 := by
 obtain ⟨r, e1, e2⟩ := d_list N hr hz hz0 hN hc S p q
 refine ⟨A, B, f, nx, m, d, l, L, D, hA, Le.refl A, S.more, hr, fun J k0 k1 h0 h1 => ?_⟩
 unfold Z39 Z39_T
 rw [br_not (by decide), br_not (by decide), br_not (by decide), br_not (by decide), br_not (by decide), br_not (by decide), br_not (by decide), br_not (by decide), br_not (by decide), br_not (by decide), br_not (by decide), br_not (by decide), br_of (by decide)]
 rw [e1, br_of (decide_eq_true rfl), br_of (decide_eq_true rfl), br_of (decide_eq_true rfl)]
 rcases e2 _ _ with e | ⟨L0, e⟩
 ·exact e.trans (by simpa using h0)
 ·exact e.trans (by simpa using h1 L0)

theorem doB0 (op : Int) (o27 : ¬ op = 27) (o28 : ¬ op = 28) (o29 : ¬ op = 29) (o30 : ¬ op = 30) (o31 : ¬ op = 31) (o32 : ¬ op = 32) (o38 : ¬ op = 38) (o39 : ¬ op = 39) (o33 : ¬ op = 33) (o34 : ¬ op = 34) (o35 : ¬ op = 35) (o36 : ¬ op = 36) (o37 : ¬ op = 37) : DoB A B ws z c f nx m d l L D N fd n b p q op := by
 obtain ⟨r, t, htl, ht, e1, e2⟩ := d_data N hr hz hz0 hN hc S p
 refine ⟨A, B, f, nx, m, d, l, L, D, hA, Le.refl A, S.more, hr, fun J k0 k1 h0 h1 => ?_⟩
 unfold Z39 Z39_T
 rw [br_not (decide_eq_false o27), br_not (decide_eq_false o28), br_not (decide_eq_false o29), br_not (decide_eq_false o30), br_not (decide_eq_false o31), br_not (decide_eq_false o32), br_not (decide_eq_false o38), br_not (decide_eq_false o39), br_not (decide_eq_false o33), br_not (decide_eq_false o34), br_not (decide_eq_false o35), br_not (decide_eq_false o36), br_not (decide_eq_false o37)]
 rw [e1, e2, bytes_eq N hA.len B ws t ht (by omega) (by omega), br_of rfl, br_of (decide_eq_true rfl), br_of (decide_eq_true rfl), name_none, decide_eq_true rfl]
 exact h0

include hfd hn hb hbu in
theorem doB (op : Int) : DoB A B ws z c f nx m d l L D N fd n b p q op := by
 by_cases o27 : op = 27
 ·rw [o27]; exact doB27 hA ws hr hz hz0 N hN hc S fd n hfd hn b hb p q
 by_cases o28 : op = 28
 ·rw [o28]; exact doB28 hA ws hr hz hz0 N hN hc S fd n hfd hn b hb p q
 by_cases o29 : op = 29
 ·rw [o29]; exact doB29 hA ws hr hz hz0 N hN hc S fd n hfd hn b hb p q
 by_cases o30 : op = 30
 ·rw [o30]; exact doB30 hA ws hr hz hz0 N hN hc S fd n hfd hn b hb hbu p q
 by_cases o31 : op = 31
 ·rw [o31]; exact doB31 hA ws hr hz hz0 N hN hc S fd n hfd hn b hb p q
 by_cases o32 : op = 32
 ·rw [o32]; exact doB32 hA ws hr hz hz0 N hN hc S fd n hfd hn b hb p q
 by_cases o38 : op = 38
 ·rw [o38]; exact doB38 hA ws hr hz hz0 N hN hc S fd n hfd hn b hb p q
 by_cases o39 : op = 39
 ·rw [o39]; exact doB39 hA ws hr hz hz0 N hN hc S fd n hfd hn b hb p q
 by_cases o33 : op = 33
 ·rw [o33]; exact doB33 hA ws hr hz hz0 N hN hc S fd n hfd hn b hb p q
 by_cases o34 : op = 34
 ·rw [o34]; exact doB34 hA ws hr hz hz0 N hN hc S fd n hfd hn b hb p q
 by_cases o35 : op = 35
 ·rw [o35]; exact doB35 hA ws hr hz hz0 N hN hc S fd n hfd hn b hb p q
 by_cases o36 : op = 36
 ·rw [o36]; exact doB36 hA ws hr hz hz0 N hN hc S fd n hfd hn b hb p q
 by_cases o37 : op = 37
 ·rw [o37]; exact doB37 hA ws hr hz hz0 N hN hc S fd n hfd hn b hb p q
 exact doB0 hA ws hr hz hz0 N hN hc S fd n b p q op o27 o28 o29 o30 o31 o32 o38 o39 o33 o34 o35 o36 o37

/-- the bytes of a path, on both sides -/
theorem dataB {R : Type} (J : Option R) (k0 : Bool → By → Ws → List Int → Int → Int → TM → DM → List Int → Int → OL → List Nd → OL → List (List Int) → List Int → List EN → Option R) (k1 : Bool → By → Ws → List Int → Int → Int → TM → DM → List Int → Int → List EN → OL → List Nd → OL → List (List Int) → List Int → List EN → Option R)
  (h0 : k0 true B ws f z nx m d (fdR f) nx l A l D (opn l.length) L = J) : Z35 N 0 0 0 (bs p) (bs []) A B ws f z nx m d l (fdR f) nx L D (opn l.length) l k0 k1 = J := by
 obtain ⟨r, t, htl, ht, e1, e2⟩ := d_data N hr hz hz0 hN hc S p
 unfold Z35 Z35_T
 rw [br_not (by decide), br_not (by decide), br_not (by decide), br_not (by decide), br_not (by decide), br_not (by decide), br_not (by decide), br_not (by decide), br_not (by decide), br_not (by decide), br_not (by decide), br_not (by decide), br_not (by decide)]
 rw [e1, e2, bytes_eq N hA.len B ws t ht (by omega) (by omega), br_of rfl, br_of (decide_eq_true rfl), br_of (decide_eq_true rfl), name_none, decide_eq_true rfl]
 exact h0
end

end Go.Proofs.Ytdopealphpmaeaa
