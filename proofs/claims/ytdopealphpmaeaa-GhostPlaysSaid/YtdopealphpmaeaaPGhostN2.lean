/-
 files of terms beside the reference's (chapter 19), where nothing was opened yet.
-/
import Derived.Test.YtdopealphpmaeaaPGhostN
set_option linter.unusedSimpArgs false
set_option linter.unusedVariables false
set_option linter.unusedSectionVars false
namespace Go.Proofs.Ytdopealphpmaeaa
open Go.Gx

section
variable {c : Nat} {f : List Int} {nx : Int} {m : TM} {d : DM} {l : OL} {L : List EN} {D : List (List Int)}
 (N : Nat) {A : List Nd} {z : Int} (hr : RowsK A d) (hz : K8 A z) (hz0 : bt A z = 0) (hN : 1000 < N) (hc : c ≤ 1000) (S : FI c f nx m (dmap A d) l L D) (fd n : Nat) (hfd : fd ≤ 65535) (hn : n ≤ 65535) (b : List Int) (hb : b.length ≤ 400) (p q : List UInt8)
include hr hz hz0 hN hc S

/-- the reference's names, on either way out -/
def EndsN {R : Type} (c : Nat) (r : Int) (f' : List Int) (nx' : Int) (L' : List EN) (D' : List (List Int)) (X : (Int → List Int → Int → List Int → List (List Int) → List EN → Option R) → (Int → List Int → Int → List EN → List Int → List (List Int) → List EN → Option R) → Option R) : Prop :=
 ∀ k0 k1, X k0 k1 = k0 r (fdR f') nx' [] D' L' ∨ ∃ L0, X k0 k1 = k1 r (fdR f') nx' L0 [] D' L'

theorem dn_unlink : ∃ r m' L', FI (c + 1) f nx m' (dmap A d) l L' D ∧ (∀ {R : Type} (K : Int → List Int → Int → Int → TM → DM → OL → Option R), Z8 N 33 (bs p) (bs q) f z nx m d l K = K r f z nx m' d l) ∧
  (∀ {R : Type}, EndsN (R := R) c r f nx L' D (fun k0 k1 => Z54 N 33 (bs p) (bs q) (fdR f) nx L D [] k0 k1)) := by
 have h8 := S.len8
 have hd := S.rel.dropC (by omega) p false
 by_cases h : dropR p false L = 0
 ·exact ⟨0, _, _, del_ok N hr hz hz0 hN hc S S p false h, fun K => (name_unlink N (by omega) p q f z nx m d l K).trans (if_pos (hd.trans h)), fun k0 k1 => .inr ⟨L, (nunlink_eq N hN p q _ nx L (by omega) S.rel.nd D _ k0 k1).trans (if_pos h)⟩⟩
 ·refine ⟨dropR p false L, _, _, S.more, fun K => ?_, fun k0 k1 => .inl ((nunlink_eq N hN p q _ nx L (by omega) S.rel.nd D _ k0 k1).trans (if_neg h))⟩
  have := name_unlink N (by omega) p q f z nx m d l K
  rw [hd, if_neg h] at this
  exact this

theorem dn_rmdir : ∃ r m' L', FI (c + 1) f nx m' (dmap A d) l L' D ∧ (∀ {R : Type} (K : Int → List Int → Int → Int → TM → DM → OL → Option R), Z8 N 36 (bs p) (bs q) f z nx m d l K = K r f z nx m' d l) ∧
  (∀ {R : Type}, EndsN (R := R) c r f nx L' D (fun k0 k1 => Z54 N 36 (bs p) (bs q) (fdR f) nx L D [] k0 k1)) := by
 have h8 := S.len8
 have hd := S.rel.dropC (by omega) p true
 by_cases h : dropR p true L = 0
 ·exact ⟨0, _, _, del_ok N hr hz hz0 hN hc S S p true h, fun K => (name_rmdir N (by omega) p q f z nx m d l K).trans (if_pos (hd.trans h)), fun k0 k1 => .inr ⟨L, (nrmdir_eq N hN p q _ nx L (by omega) S.rel.nd D _ k0 k1).trans (if_pos h)⟩⟩
 ·refine ⟨dropR p true L, _, _, S.more, fun K => ?_, fun k0 k1 => .inl ((nrmdir_eq N hN p q _ nx L (by omega) S.rel.nd D _ k0 k1).trans (if_neg h))⟩
  have := name_rmdir N (by omega) p q f z nx m d l K
  rw [hd, if_neg h] at this
  exact this

theorem dn_rename : ∃ r m' L', FI (c + 1) f nx m' (dmap A d) l L' D ∧ (∀ {R : Type} (K : Int → List Int → Int → Int → TM → DM → OL → Option R), Z8 N 34 (bs p) (bs q) f z nx m d l K = K r f z nx m' d l) ∧
  (∀ {R : Type}, EndsN (R := R) c r f nx L' D (fun k0 k1 => Z54 N 34 (bs p) (bs q) (fdR f) nx L D [] k0 k1)) := by
 have h8 := S.len8
 obtain ⟨i1, i2⟩ := moved_ids S p q
 refine ⟨moveR p q L, _, _, S.tree (S.rel.moved p q).1 i1 i2, fun K => ?_, fun k0 k1 => nrename_eq N hN p q _ nx L (by omega) S.rel.nd D _ k0 k1⟩
 rw [← S.rel.moveC p q]
 exact name_rename N (by omega) p q f z nx m d l K

theorem dn_mkdir : ∃ r nx' m' L' D', FI (c + 1) f nx' m' (dmap A d) l L' D' ∧ (∀ {R : Type} (K : Int → List Int → Int → Int → TM → DM → OL → Option R), Z8 N 35 (bs p) (bs q) f z nx m d l K = K r f z nx' m' d l) ∧
  (∀ {R : Type}, EndsN (R := R) c r f nx' L' D' (fun k0 k1 => Z54 N 35 (bs p) (bs q) (fdR f) nx L D [] k0 k1)) := by
 have h8 := S.len8
 have hnx := S.nx0
 have hm := S.rel.makeC p true
 by_cases h : makeR p true L = 0
 ·exact ⟨0, _, _, _, _, S.make h, fun K => (name_mkdir N (by omega) p q f z nx (by omega) m d l K).trans (if_pos (hm.trans h)), fun k0 k1 => .inl ((nmkdir_eq N hN p q _ nx L (by omega) D _ k0 k1 (by omega) S.dlen).trans (if_pos h))⟩
 ·refine ⟨makeR p true L, _, _, _, _, S.more, fun K => ?_, fun k0 k1 => .inl ((nmkdir_eq N hN p q _ nx L (by omega) D _ k0 k1 (by omega) S.dlen).trans (if_neg h))⟩
  have := name_mkdir N (by omega) p q f z nx (by omega) m d l K
  rw [hm, if_neg h] at this
  exact this

theorem dn_list : ∃ r, (∀ {R : Type} (K : Int → List Int → Int → Int → TM → DM → OL → Option R), Z8 N 37 (bs p) (bs q) f z nx m d l K = K r f z nx m d l) ∧
  (∀ {R : Type}, EndsN (R := R) c r f nx L D (fun k0 k1 => Z54 N 37 (bs p) (bs q) (fdR f) nx L D [] k0 k1)) := by
 have h8 := S.len8
 refine ⟨_, fun K => ?_, fun k0 k1 => .inl (nlist_eq N hN p q _ nx L (by omega) D _ k0 k1)⟩
 rw [← listV_eq N hr hz hz0 hN hc S S.rel h8 p]
 exact name_list N (by omega) p q f z nx m d l K

theorem dn_data : ∃ r t, t.length ≤ 400 ∧ rowK A t ∧ (∀ {R : Type} (K : Int → List Int → Int → Int → TM → DM → OL → List Int → Option R), Z6 N (bs p) f z nx m d l K = K r f z nx m d l t) ∧
  (∀ {R : Type} (F : List Int) (o : List Int) (K : List Int → Int → List Int → Int → List EN → List (List Int) → List Int → Option R), Z47 N (bs p) F nx L D o K = K (t.map (bt A)) r F nx L D o) := by
 have h8 := S.len8
 have hdl := S.dlen
 have hf := S.rel.findV p
 have hb2 := fun {R : Type} (F : List Int) (o : List Int) (K : List Int → Int → List Int → Int → List EN → List (List Int) → List Int → Option R) => nbytes_eq (R := R) N hN p F nx L (by omega) D o (by rw [hdl]; exact S.ids) K
 by_cases h : (findR p L).2.2 = 0
 ·obtain ⟨_, x, hk, hx, _⟩ := findR_some h
  have hi := S.ids x (List.mem_of_find?_eq_some hk)
  obtain ⟨g1, g2⟩ := S.dat x.2.2.toNat (by omega)
  rw [Int.toNat_of_nonneg hi.1, dget_map] at g1
  have g3 : (dgetG d x.2.2).length = (D.getD x.2.2.toNat []).length := by rw [← g1, List.length_map]
  rw [hx] at hb2 hf
  cases hd : x.2.1 with
  | true =>
   refine ⟨65301, [], by simp, fun t ht => (by cases ht), fun K => ?_, fun F o K => ?_⟩
   ·rw [data_eq N (by omega) p f z nx m d l (by rw [hf]; show (dgetG d x.2.2).length ≤ 1000000; omega), hf, hd]; rfl
   ·rw [hb2, hd]; rfl
  | false =>
   refine ⟨0, dgetG d x.2.2, by omega, hr.get _, fun K => ?_, fun F o K => ?_⟩
   ·rw [data_eq N (by omega) p f z nx m d l (by rw [hf]; show (dgetG d x.2.2).length ≤ 1000000; omega), hf, hd]; rfl
   ·rw [hb2, hd, g1]; rfl
 ·refine ⟨(findR p L).2.2, [], by simp, fun t ht => (by cases ht), fun K => ?_, fun F o K => ?_⟩
  ·unfold Z6 Z6_T
   rw [find_eq N (by omega), hf, br_ndec, if_neg h]
  ·rw [hb2, if_neg h]
   rfl

end

section
variable {c : Nat} {f : List Int} {nx : Int} {m : TM} {d : DM} {L : List EN} {D : List (List Int)}
 {A : List Nd} {B : By} {z : Int} (hA : BA A B) (ws : Ws) (hr : RowsK A d) (hz : K8 A z) (hz0 : bt A z = 0) (N : Nat) (hN : 1000 < N) (hc : c ≤ 1000) (S : FI c f nx m (dmap A d) [] L D) (fd n : Nat) (hfd : fd ≤ 65535) (hn : n ≤ 65535) (b : List Int) (hb : b.length ≤ 400) (hbu : ∀ x ∈ b, 0 ≤ x ∧ x < 256) (p q : List UInt8)

/-- both sides answer the same, and stay alike: nothing is open yet, or it is the first -/
def DoA (A : List Nd) (B : By) (ws : Ws) (z : Int) (c : Nat) (f : List Int) (nx : Int) (m : TM) (d : DM) (L : List EN) (D : List (List Int)) (N : Nat) (fd n : Nat) (b : List Int) (p q : List UInt8) (op : Int) : Prop :=
 (∃ A' B' nx' m' L' D', BA A' B' ∧ Le A A' ∧ FI (c + 1) f nx' m' (dmap A' d) [] L' D' ∧ ∀ {R : Type} (J : Option R)
  (k0 : Bool → By → Ws → List Int → Int → Int → TM → DM → List Int → Int → List Nd → OL → List (List Int) → List Int → List EN → Option R) (k1 : Bool → By → Ws → List Int → Int → Int → TM → DM → List Int → Int → List Nd → OL → List (List Int) → List Int → OL → List EN → Option R) (k2 : Bool → By → Ws → List Int → Int → Int → TM → DM → List Int → Int → List EN → List Nd → OL → List (List Int) → List Int → List EN → Option R),
  k0 true B' ws f z nx' m' d (fdR f) nx' A' [] D' [] L' = J → (∀ L0, k2 true B' ws f z nx' m' d (fdR f) nx' L0 A' [] D' [] L' = J) →
  Z40 N op (fd : Int) (n : Int) b (bs p) (bs q) A B ws f z nx m d [] (fdR f) nx L D [] k0 k1 k2 = J) ∨
 (∃ f' nx' m' d' l' L' D', FI (c + 1) f' nx' m' (dmap A d') l' L' D' ∧ RowsK A d' ∧ ∀ {R : Type} (J : Option R)
  (k0 : Bool → By → Ws → List Int → Int → Int → TM → DM → List Int → Int → List Nd → OL → List (List Int) → List Int → List EN → Option R) (k1 : Bool → By → Ws → List Int → Int → Int → TM → DM → List Int → Int → List Nd → OL → List (List Int) → List Int → OL → List EN → Option R) (k2 : Bool → By → Ws → List Int → Int → Int → TM → DM → List Int → Int → List EN → List Nd → OL → List (List Int) → List Int → List EN → Option R),
  k1 true B ws f' z nx' m' d' (fdR f') nx' A l' D' (Go.Proofs.Ytdopealphpmaeaa.opn l'.length) l' L' = J →
  Z40 N op (fd : Int) (n : Int) b (bs p) (bs q) A B ws f z nx m d [] (fdR f) nx L D [] k0 k1 k2 = J)

include S in
theorem none_open : ∀ k, k < 4 → f.getD k 0 = 0 := fun k hk => by
 have := S.fds k hk
 simp only [List.length_nil] at this
 omega
include S in
theorem free_first : freeV f = 0 := by
 unfold freeV
 rw [if_pos (none_open S 0 (by omega)).symm]

include hA ws hr hz hz0 hN hc S
include hfd in
theorem doA28 : DoA A B ws z c f nx m d L D N fd n b p q 28 := by
 have h := none_open S
 refine .inl ⟨A, B, nx, m, L, D, hA, Le.refl A, S.more, fun J k0 k1 k2 h0 h2 => ?_⟩
 unfold Z40 Z40_T
 rw [br_not (by decide), br_of (by decide)]
 simp only [fun {R} K => close_no (R := R) N fd hfd f (h fd) z nx m d [] K, fun {R} K => nclose_no (R := R) N fd hfd f S.flen (h fd) nx L D [] K, decide_true, br_true]
 exact h0

include hfd in
theorem doA29 : DoA A B ws z c f nx m d L D N fd n b p q 29 := by
 have h := none_open S
 refine .inl ⟨A, B, nx, m, L, D, hA, Le.refl A, S.more, fun J k0 k1 k2 h0 h2 => ?_⟩
 unfold Z40 Z40_T
 rw [br_not (by decide), br_not (by decide), br_of (by decide)]
 rw [read_no N fd hfd f (h fd) z nx m d [] (n : Int), nread_no N fd hfd f S.flen (h fd) nx L D [] (n : Int), bytes_eq N hA.len B ws [] (fun t ht => (by cases ht)) (by simp) (by simp; omega), br_of rfl, List.map_nil, br_of (decide_eq_true rfl), decide_eq_true rfl]
 exact h0

include hfd hb hbu in
theorem doA30 : DoA A B ws z c f nx m d L D N fd n b p q 30 := by
 have h := none_open S
 obtain ⟨A', B', t, hA', hle, ht, hm, et⟩ := terms_eq N b hbu (by omega) (by omega) hA ws
 have S1 : FI c f nx m (dmap A' d) [] L D := by rw [dmap_le hr hle]; exact S
 refine .inl ⟨A', B', nx, m, L, D, hA', hle, S1.more, fun J k0 k1 k2 h0 h2 => ?_⟩
 have hld : listDec (Sh.dec (.int .u8)) b b = true := listDec_dec (.int .u8) b
 unfold Z40 Z40_T
 rw [br_not (by decide), br_not (by decide), br_not (by decide), br_of (by decide)]
 rw [et, br_of (decide_eq_true rfl), br_of (decide_eq_true rfl), br_of hld, write_no N fd hfd f (h fd) z nx m d [] t, br_of (decide_eq_true rfl), br_of hld, nwrite_no N fd hfd f S.flen (h fd) nx L D [] b, decide_eq_true rfl]
 exact h0

include hfd in
theorem doA31 : DoA A B ws z c f nx m d L D N fd n b p q 31 := by
 have h := none_open S
 refine .inl ⟨A, B, nx, m, L, D, hA, Le.refl A, S.more, fun J k0 k1 k2 h0 h2 => ?_⟩
 unfold Z40 Z40_T
 rw [br_not (by decide), br_not (by decide), br_not (by decide), br_not (by decide), br_of (by decide)]
 simp only [fun {R} K => seek_no (R := R) N fd hfd f (h fd) z nx m d [] (n : Int) K, fun {R} K => nseek_no (R := R) N fd hfd f S.flen (h fd) nx L D [] (n : Int) K, decide_true, br_true]
 exact h0

include hfd in
theorem doA32 : DoA A B ws z c f nx m d L D N fd n b p q 32 := by
 have h := none_open S
 refine .inl ⟨A, B, nx, m, L, D, hA, Le.refl A, S.more, fun J k0 k1 k2 h0 h2 => ?_⟩
 unfold Z40 Z40_T
 rw [br_not (by decide), br_not (by decide), br_not (by decide), br_not (by decide), br_not (by decide), br_of (by decide)]
 simp only [fun {R} K => size_no (R := R) N fd hfd f (h fd) z nx m d [] K, fun {R} K => nsize_no (R := R) N fd hfd f S.flen (h fd) nx L D [] K, decide_true, br_true]
 exact h0

include hfd in
theorem doA38 : DoA A B ws z c f nx m d L D N fd n b p q 38 := by
 have h := none_open S
 refine .inl ⟨A, B, nx, m, L, D, hA, Le.refl A, S.more, fun J k0 k1 k2 h0 h2 => ?_⟩
 unfold Z40 Z40_T
 rw [br_not (by decide), br_not (by decide), br_not (by decide), br_not (by decide), br_not (by decide), br_not (by decide), br_of (by decide)]
 simp only [fun {R} K => trunc_no (R := R) N fd hfd f (h fd) z nx m d [] (n : Int) K, fun {R} K => ntrunc_no (R := R) N fd hfd f S.flen (h fd) nx L D [] (n : Int) K, decide_true, br_true]
 exact h0

include hfd in
theorem doA39 : DoA A B ws z c f nx m d L D N fd n b p q 39 := by
 have h := none_open S
 refine .inl ⟨A, B, nx, m, L, D, hA, Le.refl A, S.more, fun J k0 k1 k2 h0 h2 => ?_⟩
 unfold Z40 Z40_T
 rw [br_not (by decide), br_not (by decide), br_not (by decide), br_not (by decide), br_not (by decide), br_not (by decide), br_not (by decide), br_of (by decide)]
 simp only [fun {R} K => twin_no (R := R) N fd hfd f (h fd) z nx m d [] K, fun {R} K => ntwin_no (R := R) N fd hfd f S.flen (h fd) nx L D [] K, decide_true, br_true]
 exact h0

theorem doA33 : DoA A B ws z c f nx m d L D N fd n b p q 33 := by
 obtain ⟨r, m', L', S', e1, e2⟩ := dn_unlink N hr hz hz0 hN hc S p q
 refine .inl ⟨A, B, nx, m', L', D, hA, Le.refl A, S', fun J k0 k1 k2 h0 h2 => ?_⟩
 unfold Z40 Z40_T
 rw [br_not (by decide), br_not (by decide), br_not (by decide), br_not (by decide), br_not (by decide), br_not (by decide), br_not (by decide), br_not (by decide), br_of (by decide)]
 rw [e1, br_of (decide_eq_true rfl), br_of (decide_eq_true rfl), br_of (decide_eq_true rfl)]
 rcases e2 _ _ with e | ⟨L0, e⟩
 ·exact e.trans (by simpa using h0)
 ·exact e.trans (by simpa using h2 L0)

theorem doA34 : DoA A B ws z c f nx m d L D N fd n b p q 34 := by
 obtain ⟨r, m', L', S', e1, e2⟩ := dn_rename N hr hz hz0 hN hc S p q
 refine .inl ⟨A, B, nx, m', L', D, hA, Le.refl A, S', fun J k0 k1 k2 h0 h2 => ?_⟩
 unfold Z40 Z40_T
 rw [br_not (by decide), br_not (by decide), br_not (by decide), br_not (by decide), br_not (by decide), br_not (by decide), br_not (by decide), br_not (by decide), br_not (by decide), br_of (by decide)]
 rw [e1, br_of (decide_eq_true rfl), br_of (decide_eq_true rfl), br_of (decide_eq_true rfl)]
 rcases e2 _ _ with e | ⟨L0, e⟩
 ·exact e.trans (by simpa using h0)
 ·exact e.trans (by simpa using h2 L0)

theorem doA35 : DoA A B ws z c f nx m d L D N fd n b p q 35 := by
 obtain ⟨r, nx', m', L', D', S', e1, e2⟩ := dn_mkdir N hr hz hz0 hN hc S p q
 refine .inl ⟨A, B, nx', m', L', D', hA, Le.refl A, S', fun J k0 k1 k2 h0 h2 => ?_⟩
 unfold Z40 Z40_T
 rw [br_not (by decide), br_not (by decide), br_not (by decide), br_not (by decide), br_not (by decide), br_not (by decide), br_not (by decide), br_not (by decide), br_not (by decide), br_not (by decide), br_of (by decide)]
 rw [e1, br_of (decide_eq_true rfl), br_of (decide_eq_true rfl), br_of (decide_eq_true rfl)]
 rcases e2 _ _ with e | ⟨L0, e⟩
 ·exact e.trans (by simpa using h0)
 ·exact e.trans (by simpa using h2 L0)

theorem doA36 : DoA A B ws z c f nx m d L D N fd n b p q 36 := by
 obtain ⟨r, m', L', S', e1, e2⟩ := dn_rmdir N hr hz hz0 hN hc S p q
 refine .inl ⟨A, B, nx, m', L', D, hA, Le.refl A, S', fun J k0 k1 k2 h0 h2 => ?_⟩
 unfold Z40 Z40_T
 rw [br_not (by decide), br_not (by decide), br_not (by decide), br_not (by decide), br_not (by decide), br_not (by decide), br_not (by decide), br_not (by decide), br_not (by decide), br_not (by decide), br_not (by decide), br_of (by decide)]
 rw [e1, br_of (decide_eq_true rfl), br_of (decide_eq_true rfl), br_of (decide_eq_true rfl)]
 rcases e2 _ _ with e | ⟨L0, e⟩
 ·exact e.trans (by simpa using h0)
 ·exact e.trans (by simpa using h2 L0)

theorem doA37 : DoA A B ws z c f nx m d L D N fd n b p q 37 := by
 obtain ⟨r, e1, e2⟩ := dn_list N hr hz hz0 hN hc S p q
 refine .inl ⟨A, B, nx, m, L, D, hA, Le.refl A, S.more, fun J k0 k1 k2 h0 h2 => ?_⟩
 unfold Z40 Z40_T
 rw [br_not (by decide), br_not (by decide), br_not (by decide), br_not (by decide), br_not (by decide), br_not (by decide), br_not (by decide), br_not (by decide), br_not (by decide), br_not (by decide), br_not (by decide), br_not (by decide), br_of (by decide)]
 rw [e1, br_of (decide_eq_true rfl), br_of (decide_eq_true rfl), br_of (decide_eq_true rfl)]
 rcases e2 _ _ with e | ⟨L0, e⟩
 ·exact e.trans (by simpa using h0)
 ·exact e.trans (by simpa using h2 L0)

theorem doA0 (op : Int) (o27 : ¬ op = 27) (o28 : ¬ op = 28) (o29 : ¬ op = 29) (o30 : ¬ op = 30) (o31 : ¬ op = 31) (o32 : ¬ op = 32) (o38 : ¬ op = 38) (o39 : ¬ op = 39) (o33 : ¬ op = 33) (o34 : ¬ op = 34) (o35 : ¬ op = 35) (o36 : ¬ op = 36) (o37 : ¬ op = 37) : DoA A B ws z c f nx m d L D N fd n b p q op := by
 obtain ⟨r, t, htl, ht, e1, e2⟩ := dn_data N hr hz hz0 hN hc S p
 refine .inl ⟨A, B, nx, m, L, D, hA, Le.refl A, S.more, fun J k0 k1 k2 h0 h2 => ?_⟩
 unfold Z40 Z40_T
 rw [br_not (decide_eq_false o27), br_not (decide_eq_false o28), br_not (decide_eq_false o29), br_not (decide_eq_false o30), br_not (decide_eq_false o31), br_not (decide_eq_false o32), br_not (decide_eq_false o38), br_not (decide_eq_false o39), br_not (decide_eq_false o33), br_not (decide_eq_false o34), br_not (decide_eq_false o35), br_not (decide_eq_false o36), br_not (decide_eq_false o37)]
 rw [e1, e2, bytes_eq N hA.len B ws t ht (by omega) (by omega), br_of rfl, br_of (decide_eq_true rfl), br_of (decide_eq_true rfl), name_none, decide_eq_true rfl]
 exact h0

theorem doA27 : DoA A B ws z c f nx m d L D N fd n b p q 27 := by
 have h0' := none_open S 0 (by omega)
 have hnx := S.nx0
 have h8 := S.len8
 have hfr := free_first S
 have e1 : ∀ {R : Type} (K : Int → List Int → Int → Int → TM → DM → OL → Option R), _ := fun {R} K => open_eq (R := R) N (by omega) p f z nx (by omega) m d [] (by simp) K
 have e2 : ∀ {R : Type} (k0 : Int → List Int → Int → List (List Int) → List Int → List EN → Option R) (k1 : Int → List Int → Int → List (List Int) → List Int → OL → List EN → Option R), _ := fun {R} k0 k1 => nopen_eq (R := R) N hN p f S.flen h0' nx (by omega) L (by omega) D S.dlen k0 k1
 rw [S.rel.findV p, S.rel.makeC p false, hfr] at e1
 have hng : ¬ ((0 : Int) < 0) := by decide
 simp only [hng, if_false] at e1
 -- what stays closed
 have closed : ∀ (r : Int), (∀ {R : Type} (K : Int → List Int → Int → Int → TM → DM → OL → Option R), Z10 N (bs p) f z nx m d [] K = K r f z nx m d []) →
   (∀ {R : Type} (k0 : Int → List Int → Int → List (List Int) → List Int → List EN → Option R) (k1 : Int → List Int → Int → List (List Int) → List Int → OL → List EN → Option R), Z56 N (bs p) (fdR f) nx L D [] k0 k1 = k0 r (fdR f) nx D [] L) → DoA A B ws z c f nx m d L D N fd n b p q 27 := fun r q1 q2 => by
  refine .inl ⟨A, B, nx, m, L, D, hA, Le.refl A, S.more, fun J k0 k1 k2 h0 h2 => ?_⟩
  unfold Z40 Z40_T
  rw [br_of (by decide), q1, br_of (decide_eq_true rfl), q2, decide_eq_true rfl]
  exact h0
 have opened : ∀ (nx' : Int) (m' : TM) (i : Int) (L' : List EN) (D' : List (List Int)), FI (c + 1) (f.set 0 1) nx' m' (dmap A d) [(i, 0)] L' D' → (∀ {R : Type} (K : Int → List Int → Int → Int → TM → DM → OL → Option R), Z10 N (bs p) f z nx m d [] K = K 0 (f.set 0 1) z nx' m' d [(i, 0)]) →
   (∀ {R : Type} (k0 : Int → List Int → Int → List (List Int) → List Int → List EN → Option R) (k1 : Int → List Int → Int → List (List Int) → List Int → OL → List EN → Option R), Z56 N (bs p) (fdR f) nx L D [] k0 k1 = k1 0 (fdR (f.set 0 1)) nx' D' [0] [(i, 0)] L') → DoA A B ws z c f nx m d L D N fd n b p q 27 := fun nx' m' i L' D' S' q1 q2 => by
  refine .inr ⟨f.set 0 1, nx', m', d, [(i, 0)], L', D', S', hr, fun J k0 k1 k2 h1 => ?_⟩
  unfold Z40 Z40_T
  rw [br_of (by decide), q1, br_of (decide_eq_true rfl), q2, decide_eq_true rfl]
  exact h1
 cases hnm : nameB p with
 | false =>
  have hf : findR p L = (-1, false, 65282) := by unfold findR; rw [hnm]; rfl
  have hm : makeR p false L = 65282 := by unfold makeR; rw [hnm]; rfl
  rw [hf, hm] at e1
  rw [hnm] at e2
  exact closed 65282 (fun K => (e1 K).trans rfl) (fun k0 k1 => (e2 k0 k1).trans rfl)
 | true =>
  rw [hnm] at e2
  simp only [Bool.true_eq_false, if_false] at e2
  by_cases ha : aboveR (splitL p).1 L = 0
  ·rw [ha] at e2
   simp only [ne_eq, not_true, if_false] at e2
   cases hk : lk (bs p) L with
   | some x =>
    have hf : findR p L = (x.2.2, x.2.1, 0) := by unfold findR; rw [hnm, if_pos rfl, ha, if_pos rfl, hk]
    have hx := S.ids x (List.mem_of_find?_eq_some hk)
    rw [hf] at e1 e2
    simp only [if_true, true_and] at e1 e2
    cases hxd : x.2.1 with
    | true =>
     rw [hxd] at e1 e2
     exact closed 65301 (fun K => (e1 K).trans rfl) (fun k0 k1 => (e2 k0 k1).trans rfl)
    | false =>
     rw [hxd] at e1 e2
     exact opened nx m x.2.2 L D (S.open (k := 0) (by omega) hx) (fun K => (e1 K).trans rfl) (fun k0 k1 => (e2 k0 k1).trans rfl)
   | none =>
    have hf : findR p L = (-1, false, 65282) := by unfold findR; rw [hnm, if_pos rfl, ha, if_pos rfl, hk]
    have hm : makeR p false L = if 8 ≤ L.length then 65308 else 0 := by
     unfold makeR
     rw [hnm, if_neg (by decide), ha, if_neg (by decide), hk]
     simp
    have hne : makeR p false L ≠ 65282 := by rw [hm]; split <;> decide
    rw [hf] at e1 e2
    have e1 : ∀ {R : Type} (K : Int → List Int → Int → Int → TM → DM → OL → Option R), _ := fun {R} K => ((@e1 R K).trans (if_neg (by decide))).trans ((if_neg (by decide)).trans (if_neg hne))
    have e2 : ∀ {R : Type} (k0 : Int → List Int → Int → List (List Int) → List Int → List EN → Option R) (k1 : Int → List Int → Int → List (List Int) → List Int → OL → List EN → Option R), _ := fun {R} k0 k1 => ((@e2 R k0 k1).trans (if_neg (by decide))).trans (if_neg (by decide))
    by_cases hz : makeR p false L = 0
    ·have S1 := S.make hz
     have S2 := S1.open (k := 0) (by omega) (i := nx) ⟨hnx.1, by omega⟩
     refine opened (nx + 1) (tput m (keyL p) (nx, false)) nx (L ++ [(bs p, false, nx)]) (D ++ [[]]) { S2 with nx0 := S1.nx0, llen := by simp } (fun K => (e1 K).trans (if_pos hz)) (fun k0 k1 => (e2 k0 k1).trans (if_pos hz))
    ·exact closed (makeR p false L) (fun K => (e1 K).trans (if_neg hz)) (fun k0 k1 => (e2 k0 k1).trans (if_neg hz))
  ·have hf : findR p L = (-1, false, aboveR (splitL p).1 L) := by unfold findR; rw [hnm, if_pos rfl, if_neg ha]
   have hm : makeR p false L = aboveR (splitL p).1 L := by unfold makeR; rw [hnm, if_neg (by decide), if_pos ha]
   rw [hf, hm] at e1
   rw [hf] at e2
   simp only [ha, false_and, if_false, ne_eq, not_false_iff, if_true] at e1 e2
   have hval : aboveR (splitL p).1 L = 65282 ∨ aboveR (splitL p).1 L = 65300 := by
    unfold aboveR at ha ⊢
    split
    ·rename_i h; rw [if_pos h] at ha; exact absurd rfl ha
    ·rename_i h
     rw [if_neg h] at ha
     cases hk : lk (bs (splitL p).1) L with
     | none => left; rfl
     | some x =>
      rw [hk] at ha
      cases hxd : x.2.1 with
      | true => simp [hxd] at ha
      | false => right; simp [hxd]
   rcases hval with hval | hval
   ·rw [hval] at e1 e2
    exact closed 65282 (fun K => (e1 K).trans rfl) (fun k0 k1 => e2 k0 k1)
   ·rw [hval] at e1 e2
    exact closed 65300 (fun K => (e1 K).trans rfl) (fun k0 k1 => e2 k0 k1)

include hfd hn hb hbu in
theorem doA (op : Int) : DoA A B ws z c f nx m d L D N fd n b p q op := by
 by_cases o27 : op = 27
 ·rw [o27]; exact doA27 hA ws hr hz hz0 N hN hc S fd n b p q
 by_cases o28 : op = 28
 ·rw [o28]; exact doA28 hA ws hr hz hz0 N hN hc S fd n hfd b p q
 by_cases o29 : op = 29
 ·rw [o29]; exact doA29 hA ws hr hz hz0 N hN hc S fd n hfd b p q
 by_cases o30 : op = 30
 ·rw [o30]; exact doA30 hA ws hr hz hz0 N hN hc S fd n hfd b hb hbu p q
 by_cases o31 : op = 31
 ·rw [o31]; exact doA31 hA ws hr hz hz0 N hN hc S fd n hfd b p q
 by_cases o32 : op = 32
 ·rw [o32]; exact doA32 hA ws hr hz hz0 N hN hc S fd n hfd b p q
 by_cases o38 : op = 38
 ·rw [o38]; exact doA38 hA ws hr hz hz0 N hN hc S fd n hfd b p q
 by_cases o39 : op = 39
 ·rw [o39]; exact doA39 hA ws hr hz hz0 N hN hc S fd n hfd b p q
 by_cases o33 : op = 33
 ·rw [o33]; exact doA33 hA ws hr hz hz0 N hN hc S fd n b p q
 by_cases o34 : op = 34
 ·rw [o34]; exact doA34 hA ws hr hz hz0 N hN hc S fd n b p q
 by_cases o35 : op = 35
 ·rw [o35]; exact doA35 hA ws hr hz hz0 N hN hc S fd n b p q
 by_cases o36 : op = 36
 ·rw [o36]; exact doA36 hA ws hr hz hz0 N hN hc S fd n b p q
 by_cases o37 : op = 37
 ·rw [o37]; exact doA37 hA ws hr hz hz0 N hN hc S fd n b p q
 exact doA0 hA ws hr hz hz0 N hN hc S fd n b p q op o27 o28 o29 o30 o31 o32 o38 o39 o33 o34 o35 o36 o37

/-- the bytes of a path, on both sides -/
theorem dataA {R : Type} (J : Option R) (k0 : Bool → By → Ws → List Int → Int → Int → TM → DM → List Int → Int → List Nd → OL → List (List Int) → List Int → List EN → Option R) (k1 : Bool → By → Ws → List Int → Int → Int → TM → DM → List Int → Int → List Nd → OL → List (List Int) → List Int → OL → List EN → Option R) (k2 : Bool → By → Ws → List Int → Int → Int → TM → DM → List Int → Int → List EN → List Nd → OL → List (List Int) → List Int → List EN → Option R)
  (h0 : k0 true B ws f z nx m d (fdR f) nx A [] D [] L = J) : Z37 N 0 0 0 (bs p) (bs []) A B ws f z nx m d [] (fdR f) nx L D [] k0 k1 k2 = J := by
 obtain ⟨r, t, htl, ht, e1, e2⟩ := dn_data N hr hz hz0 hN hc S p
 unfold Z37 Z37_T
 rw [br_not (by decide), br_not (by decide), br_not (by decide), br_not (by decide), br_not (by decide), br_not (by decide), br_not (by decide), br_not (by decide), br_not (by decide), br_not (by decide), br_not (by decide), br_not (by decide), br_not (by decide)]
 rw [e1, e2, bytes_eq N hA.len B ws t ht (by omega) (by omega), br_of rfl, br_of (decide_eq_true rfl), br_of (decide_eq_true rfl), name_none, decide_eq_true rfl]
 exact h0
end

end Go.Proofs.Ytdopealphpmaeaa
