/-
 files of terms beside the reference's (chapter 19): a deed, whichever.
-/
import Derived.Test.YtdopealphpmaeaaPGhostY
set_option linter.unusedSimpArgs false
set_option linter.unusedVariables false
set_option linter.unusedSectionVars false
namespace Go.Proofs.Ytdopealphpmaeaa
open Go.Gx

section
variable {c : Nat} {f : List Int} {nx : Int} {m : TM} {d : DM} {l : OL} {L : List EN} {D : List (List Int)}
 (N : Nat) {A : List Nd} {z : Int} (hr : RowsK A d) (hz : K8 A z) (hz0 : bt A z = 0) (hN : 1000 < N) (hc : c ≤ 1000) (S : FI c f nx m (dmap A d) l L D) (fd n : Nat) (hfd : fd ≤ 65535) (hn : n ≤ 65535) (b : List Int) (hb : b.length ≤ 400) (p q : List UInt8)
include hr hz hz0 hN hc S

theorem del_ok (S : FI c f nx m (dmap A d) l L D) (p : List UInt8) (dir : Bool) (h : dropR p dir L = 0) : FI (c + 1) f nx (tdel m (keyL p)) (dmap A d) l (del (bs p) L) D := by
 have hf : (findR p L).2.2 = 0 := by
  unfold dropR at h
  by_cases hh : (findR p L).2.2 = 0
  ·exact hh
  ·rw [if_pos hh] at h; exact absurd h hh
 obtain ⟨hnm, _⟩ := findR_some hf
 have hlen : (del (bs p) L).length ≤ L.length := List.length_filter_le _ _
 have := S.len8
 exact S.tree (S.rel.drop hnm) (by omega) fun x hx => S.ids x (List.mem_filter.1 hx).1

/-- the reference's names, on either way out -/
def Ends {R : Type} (c : Nat) (r : Int) (f' : List Int) (nx' : Int) (l' : OL) (L' : List EN) (D' : List (List Int)) (X : (Int → List Int → Int → List Int → OL → List (List Int) → List EN → Option R) → (Int → List Int → Int → List EN → List Int → OL → List (List Int) → List EN → Option R) → Option R) : Prop :=
 ∀ k0 k1, X k0 k1 = k0 r (fdR f') nx' (Go.Proofs.Ytdopealphpmaeaa.opn l'.length) l' D' L' ∨ ∃ L0, X k0 k1 = k1 r (fdR f') nx' L0 (Go.Proofs.Ytdopealphpmaeaa.opn l'.length) l' D' L'

theorem d_unlink : ∃ r m' L', FI (c + 1) f nx m' (dmap A d) l L' D ∧ (∀ {R : Type} (K : Int → List Int → Int → Int → TM → DM → OL → Option R), Z8 N 33 (bs p) (bs q) f z nx m d l K = K r f z nx m' d l) ∧
  (∀ {R : Type}, Ends (R := R) c r f nx l L' D (fun k0 k1 => Z53 N 33 (bs p) (bs q) (fdR f) nx L D (opn l.length) l k0 k1)) := by
 have h8 := S.len8
 have hd := S.rel.dropC (by omega) p false
 by_cases h : dropR p false L = 0
 ·exact ⟨0, _, _, del_ok N hr hz hz0 hN hc S S p false h, fun K => (name_unlink N (by omega) p q f z nx m d l K).trans (if_pos (hd.trans h)), fun k0 k1 => .inr ⟨L, (runlink_eq N hN p q _ nx L (by omega) S.rel.nd D _ l k0 k1).trans (if_pos h)⟩⟩
 ·refine ⟨dropR p false L, _, _, S.more, fun K => ?_, fun k0 k1 => .inl ((runlink_eq N hN p q _ nx L (by omega) S.rel.nd D _ l k0 k1).trans (if_neg h))⟩
  have := name_unlink N (by omega) p q f z nx m d l K
  rw [hd, if_neg h] at this
  exact this

theorem d_rmdir : ∃ r m' L', FI (c + 1) f nx m' (dmap A d) l L' D ∧ (∀ {R : Type} (K : Int → List Int → Int → Int → TM → DM → OL → Option R), Z8 N 36 (bs p) (bs q) f z nx m d l K = K r f z nx m' d l) ∧
  (∀ {R : Type}, Ends (R := R) c r f nx l L' D (fun k0 k1 => Z53 N 36 (bs p) (bs q) (fdR f) nx L D (opn l.length) l k0 k1)) := by
 have h8 := S.len8
 have hd := S.rel.dropC (by omega) p true
 by_cases h : dropR p true L = 0
 ·exact ⟨0, _, _, del_ok N hr hz hz0 hN hc S S p true h, fun K => (name_rmdir N (by omega) p q f z nx m d l K).trans (if_pos (hd.trans h)), fun k0 k1 => .inr ⟨L, (rrmdir_eq N hN p q _ nx L (by omega) S.rel.nd D _ l k0 k1).trans (if_pos h)⟩⟩
 ·refine ⟨dropR p true L, _, _, S.more, fun K => ?_, fun k0 k1 => .inl ((rrmdir_eq N hN p q _ nx L (by omega) S.rel.nd D _ l k0 k1).trans (if_neg h))⟩
  have := name_rmdir N (by omega) p q f z nx m d l K
  rw [hd, if_neg h] at this
  exact this

theorem d_rename : ∃ r m' L', FI (c + 1) f nx m' (dmap A d) l L' D ∧ (∀ {R : Type} (K : Int → List Int → Int → Int → TM → DM → OL → Option R), Z8 N 34 (bs p) (bs q) f z nx m d l K = K r f z nx m' d l) ∧
  (∀ {R : Type}, Ends (R := R) c r f nx l L' D (fun k0 k1 => Z53 N 34 (bs p) (bs q) (fdR f) nx L D (opn l.length) l k0 k1)) := by
 have h8 := S.len8
 obtain ⟨i1, i2⟩ := moved_ids S p q
 refine ⟨moveR p q L, _, _, S.tree (S.rel.moved p q).1 i1 i2, fun K => ?_, fun k0 k1 => rrename_eq N hN p q _ nx L (by omega) S.rel.nd D _ l k0 k1⟩
 rw [← S.rel.moveC p q]
 exact name_rename N (by omega) p q f z nx m d l K

theorem d_mkdir : ∃ r nx' m' L' D', FI (c + 1) f nx' m' (dmap A d) l L' D' ∧ (∀ {R : Type} (K : Int → List Int → Int → Int → TM → DM → OL → Option R), Z8 N 35 (bs p) (bs q) f z nx m d l K = K r f z nx' m' d l) ∧
  (∀ {R : Type}, Ends (R := R) c r f nx' l L' D' (fun k0 k1 => Z53 N 35 (bs p) (bs q) (fdR f) nx L D (opn l.length) l k0 k1)) := by
 have h8 := S.len8
 have hnx := S.nx0
 have hm := S.rel.makeC p true
 by_cases h : makeR p true L = 0
 ·exact ⟨0, _, _, _, _, S.make h, fun K => (name_mkdir N (by omega) p q f z nx (by omega) m d l K).trans (if_pos (hm.trans h)), fun k0 k1 => .inl ((rmkdir_eq N hN p q _ nx L (by omega) D _ l k0 k1 (by omega) S.dlen).trans (if_pos h))⟩
 ·refine ⟨makeR p true L, _, _, _, _, S.more, fun K => ?_, fun k0 k1 => .inl ((rmkdir_eq N hN p q _ nx L (by omega) D _ l k0 k1 (by omega) S.dlen).trans (if_neg h))⟩
  have := name_mkdir N (by omega) p q f z nx (by omega) m d l K
  rw [hm, if_neg h] at this
  exact this

theorem listV_eq (r : Rel m L) (h8 : L.length ≤ 8) (p : List UInt8) : (if (getV p m).2.2 ≠ 0 then (getV p m).2.2 else if (getV p m).2.1 = false then 65300 else IntKind.wrap .u16 (mcount (bs p) m)) =
  (if (findR p L).2.2 ≠ 0 then (findR p L).2.2 else if (findR p L).2.1 = false then 65300 else (manyR (bs p) L : Int)) := by
 obtain ⟨h1, h2, _⟩ := r.get p
 have hc : manyR (bs p) L ≤ L.length := List.countP_le_length
 rw [h1, h2, r.count, w64 (by omega), wu16 (by omega)]

theorem d_list : ∃ r, (∀ {R : Type} (K : Int → List Int → Int → Int → TM → DM → OL → Option R), Z8 N 37 (bs p) (bs q) f z nx m d l K = K r f z nx m d l) ∧
  (∀ {R : Type}, Ends (R := R) c r f nx l L D (fun k0 k1 => Z53 N 37 (bs p) (bs q) (fdR f) nx L D (opn l.length) l k0 k1)) := by
 have h8 := S.len8
 refine ⟨_, fun K => ?_, fun k0 k1 => .inl (rlist_eq N hN p q _ nx L (by omega) D _ l k0 k1)⟩
 rw [← listV_eq N hr hz hz0 hN hc S S.rel h8 p]
 exact name_list N (by omega) p q f z nx m d l K

theorem d_data : ∃ r t, t.length ≤ 400 ∧ rowK A t ∧ (∀ {R : Type} (K : Int → List Int → Int → Int → TM → DM → OL → List Int → Option R), Z6 N (bs p) f z nx m d l K = K r f z nx m d l t) ∧
  (∀ {R : Type} (F : List Int) (o : List Int) (l' : OL) (K : List Int → Int → List Int → Int → List EN → List (List Int) → List Int → OL → Option R), Z48 N (bs p) F nx L D o l' K = K (t.map (bt A)) r F nx L D o l') := by
 have h8 := S.len8
 have hdl := S.dlen
 have hf := S.rel.findV p
 have hb2 := fun {R : Type} (F : List Int) (o : List Int) (l' : OL) (K : List Int → Int → List Int → Int → List EN → List (List Int) → List Int → OL → Option R) => rbytes_eq (R := R) N hN p F nx L (by omega) D o l' (by rw [hdl]; exact S.ids) K
 by_cases h : (findR p L).2.2 = 0
 ·obtain ⟨_, x, hk, hx, _⟩ := findR_some h
  have hi := S.ids x (List.mem_of_find?_eq_some hk)
  obtain ⟨g1, g2⟩ := S.dat x.2.2.toNat (by omega)
  rw [Int.toNat_of_nonneg hi.1, dget_map] at g1
  have g3 : (dgetG d x.2.2).length = (D.getD x.2.2.toNat []).length := by rw [← g1, List.length_map]
  rw [hx] at hb2 hf
  cases hd : x.2.1 with
  | true =>
   refine ⟨65301, [], by simp, fun t ht => (by cases ht), fun K => ?_, fun F o l' K => ?_⟩
   ·rw [data_eq N (by omega) p f z nx m d l (by rw [hf]; show (dgetG d x.2.2).length ≤ 1000000; omega), hf, hd]; rfl
   ·rw [hb2, hd]; rfl
  | false =>
   refine ⟨0, dgetG d x.2.2, by omega, hr.get _, fun K => ?_, fun F o l' K => ?_⟩
   ·rw [data_eq N (by omega) p f z nx m d l (by rw [hf]; show (dgetG d x.2.2).length ≤ 1000000; omega), hf, hd]; rfl
   ·rw [hb2, hd, g1]; rfl
 ·refine ⟨(findR p L).2.2, [], by simp, fun t ht => (by cases ht), fun K => ?_, fun F o l' K => ?_⟩
  ·unfold Z6 Z6_T
   rw [find_eq N (by omega), hf, br_ndec, if_neg h]
  ·rw [hb2, if_neg h]
   rfl

omit hr hz hz0 hN hc S in
theorem fit_ok {b : List Int} (h : b.length ≤ 400) : fits 0 b.length b = true := fits_of (by omega)
end

end Go.Proofs.Ytdopealphpmaeaa
