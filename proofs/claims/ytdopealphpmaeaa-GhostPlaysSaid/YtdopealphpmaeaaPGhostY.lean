/-
 files of terms beside the reference's (chapter 19): each deed keeps them so.
-/
import Derived.Test.YtdopealphpmaeaaPGhostT
set_option linter.unusedSimpArgs false
set_option linter.unusedVariables false
set_option linter.unusedSectionVars false
namespace Go.Proofs.Ytdopealphpmaeaa
open Go.Gx

structure FI (c : Nat) (f : List Int) (nx : Int) (m : TM) (d : DM) (l : OL) (L : List EN) (D : List (List Int)) : Prop where
 rel : Rel m L
 len8 : L.length ≤ 8
 nx0 : 0 ≤ nx ∧ nx ≤ 8 + (c : Int)
 ids : ∀ x ∈ L, 0 ≤ x.2.2 ∧ x.2.2 < nx
 dlen : (D.length : Int) = nx
 dat : ∀ i : Nat, (i : Int) < nx → dgetV d i = D.getD i [] ∧ (D.getD i []).length ≤ 8
 dnew : ∀ i : Int, nx ≤ i → dgetV d i = []
 flen : f.length = 4
 fds : ∀ k, k < 4 → 0 ≤ f.getD k 0 ∧ f.getD k 0 ≤ (l.length : Int)
 llen : l.length ≤ c
 opn : ∀ j, j < l.length → 0 ≤ (l.getD j (0, 0)).1 ∧ (l.getD j (0, 0)).1 < nx ∧ 0 ≤ (l.getD j (0, 0)).2 ∧ (l.getD j (0, 0)).2 ≤ 255

section
variable {c : Nat} {f : List Int} {nx : Int} {m : TM} {d : DM} {l : OL} {L : List EN} {D : List (List Int)}

theorem FI.more (S : FI c f nx m d l L D) : FI (c + 1) f nx m d l L D := { S with nx0 := ⟨S.nx0.1, by have := S.nx0.2; omega⟩, llen := by have := S.llen; omega }

theorem getD_set_at {α : Type} {l : List α} {k : Nat} (h : k < l.length) (x z : α) : (l.set k x).getD k z = x := by
 rw [List.getD_eq_getElem?_getD, List.getElem?_set_self h]; rfl
theorem getD_set_off {α : Type} {l : List α} {k j : Nat} (h : k ≠ j) (x z : α) : (l.set k x).getD j z = l.getD j z := by
 rw [List.getD_eq_getElem?_getD, List.getD_eq_getElem?_getD, List.getElem?_set_ne h]

theorem FI.slot (S : FI c f nx m d l L D) (fd : Nat) : (fd < 4 → f.getD fd 0 = 0) ∨ (fd < 4 ∧ ∃ j id a : Nat, f.getD fd 0 = ((j + 1 : Nat) : Int) ∧ j < l.length ∧ l.getD j (0, 0) = ((id : Int), (a : Int)) ∧ id < D.length ∧ a ≤ 255 ∧ dgetV d id = D.getD id [] ∧ (D.getD id []).length ≤ 8) := by
 by_cases h : fd < 4 ∧ f.getD fd 0 ≠ 0
 ·obtain ⟨h4, hz⟩ := h
  obtain ⟨h1, h2⟩ := S.fds fd h4
  have hj : (f.getD fd 0 - 1).toNat < l.length := by omega
  obtain ⟨o1, o2, o3, o4⟩ := S.opn _ hj
  have hd := S.dlen
  obtain ⟨e1, e2⟩ := S.dat (l.getD (f.getD fd 0 - 1).toNat (0, 0)).1.toNat (by omega)
  exact .inr ⟨h4, (f.getD fd 0 - 1).toNat, (l.getD (f.getD fd 0 - 1).toNat (0, 0)).1.toNat, (l.getD (f.getD fd 0 - 1).toNat (0, 0)).2.toNat, by omega, hj, Prod.ext (by simp only []; omega) (by simp only []; omega), by omega, by omega, e1, e2⟩
 ·exact .inl fun h4 => Decidable.byContradiction fun hz => h ⟨h4, hz⟩

theorem FI.seek (S : FI c f nx m d l L D) {j : Nat} (hj : j < l.length) {id a b : Nat} (hat : l.getD j (0, 0) = ((id : Int), (a : Int))) (hb : b ≤ 255) : FI (c + 1) f nx m d (l.set j ((id : Int), (b : Int))) L D := by
 have M := S.more
 refine { M with fds := ?_, llen := by rw [List.length_set]; exact M.llen, opn := ?_ }
 ·rw [List.length_set]; exact M.fds
 ·intro i hi
  rw [List.length_set] at hi
  have := S.opn j hj
  rw [hat] at this
  by_cases e : j = i
  ·subst e
   rw [getD_set_at hj]
   exact ⟨this.1, this.2.1, by simp only []; omega, by simp only []; omega⟩
  ·rw [getD_set_off e]
   exact S.opn i hi

theorem FI.set (S : FI c f nx m d l L D) {k : Nat} (hk : k < 4) {x : Int} (hx : 0 ≤ x ∧ x ≤ (l.length : Int)) : FI (c + 1) (f.set k x) nx m d l L D := by
 have M := S.more
 refine { M with flen := by rw [List.length_set]; exact M.flen, fds := ?_ }
 intro i hi
 by_cases e : k = i
 ·subst e
  rw [getD_set_at (by rw [S.flen]; exact hk)]
  exact hx
 ·rw [getD_set_off e]
  exact S.fds i hi

theorem dget_ne (d : DM) {i k : Int} (h : i ≠ k) (v : List Int) : dgetV (mput (.int .i64) (.isl (.int .u8)) d i v) k = dgetV d k := by
 unfold dgetV
 rw [mfind_put_ne (ks := .int .i64) (vs := .isl (.int .u8)) rfl h]

theorem FI.put (S : FI c f nx m d l L D) {id : Nat} (hid : id < D.length) {v : List Int} (hv : v.length ≤ 8) : FI (c + 1) f nx m (mput (.int .i64) (.isl (.int .u8)) d id v) l L (D.set id v) := by
 have M := S.more
 have hd := S.dlen
 refine { M with dlen := by rw [List.length_set]; exact M.dlen, dat := ?_, dnew := ?_ }
 ·intro i hi
  by_cases e : id = i
  ·subst e
   rw [dget_put, getD_set_at hid]
   exact ⟨rfl, hv⟩
  ·rw [dget_ne d (by omega), getD_set_off e]
   exact S.dat i hi
 ·intro i hi
  rw [dget_ne d (by omega)]
  exact S.dnew i hi

theorem FI.open (S : FI c f nx m d l L D) {k : Nat} (hk : k < 4) {i : Int} (hi : 0 ≤ i ∧ i < nx) : FI (c + 1) (f.set k ((l.length + 1 : Nat) : Int)) nx m d (l ++ [(i, 0)]) L D := by
 have M := S.more
 have hl : (l ++ [(i, (0 : Int))]).length = l.length + 1 := by simp
 refine { M with flen := by rw [List.length_set]; exact M.flen, fds := ?_, llen := by rw [hl]; have := S.llen; omega, opn := ?_ }
 ·intro j hj
  rw [hl]
  by_cases e : k = j
  ·subst e
   rw [getD_set_at (by rw [S.flen]; exact hk)]
   omega
  ·rw [getD_set_off e]
   have := S.fds j hj
   omega
 ·intro j hj
  rw [hl] at hj
  by_cases e : j < l.length
  ·have := S.opn j e
   rw [List.getD_eq_getElem?_getD, List.getElem?_append_left e, ← List.getD_eq_getElem?_getD]
   exact this
  ·obtain rfl : j = l.length := by omega
   rw [List.getD_eq_getElem?_getD, List.getElem?_append_right (Nat.le_refl _), Nat.sub_self]
   exact ⟨hi.1, hi.2, by show (0 : Int) ≤ 0; omega, by show (0 : Int) ≤ 255; omega⟩

theorem FI.make (S : FI c f nx m d l L D) {p : List UInt8} {dir : Bool} (h : makeR p dir L = 0) : FI (c + 1) f (nx + 1) (tput m (keyL p) (nx, dir)) d l (L ++ [(bs p, dir, nx)]) (D ++ [[]]) := by
 have h8 : L.length < 8 := by
  unfold makeR at h
  split at h
  ·cases h
  split at h
  ·rename_i h2; exact absurd h h2
  split at h
  ·cases h
  split at h
  ·cases h
  split at h
  ·cases h
  ·omega
 have M := S.more
 have hn := S.nx0
 have hd := S.dlen
 refine { M with rel := S.rel.make h nx, len8 := by simp; omega, nx0 := ⟨by omega, by omega⟩, ids := ?_, dlen := by simp; omega, dat := ?_, dnew := fun i hi => S.dnew i (by omega), opn := ?_ }
 ·intro x hx
  rcases List.mem_append.1 hx with hx | hx
  ·have := S.ids x hx; omega
  ·rw [List.mem_singleton] at hx
   subst hx
   exact ⟨hn.1, by simp only []; omega⟩
 ·intro i hi
  by_cases e : i < D.length
  ·rw [List.getD_eq_getElem?_getD, List.getElem?_append_left e, ← List.getD_eq_getElem?_getD]
   exact S.dat i (by omega)
  ·obtain rfl : i = D.length := by omega
   rw [List.getD_eq_getElem?_getD, List.getElem?_append_right (Nat.le_refl _), Nat.sub_self, S.dnew _ (by omega)]
   exact ⟨rfl, by simp⟩
 ·intro j hj
  have := S.opn j hj
  exact ⟨this.1, by omega, this.2.2⟩

theorem FI.tree (S : FI c f nx m d l L D) {m' : TM} {L' : List EN} (r : Rel m' L') (h8 : L'.length ≤ 8) (hid : ∀ x ∈ L', 0 ≤ x.2.2 ∧ x.2.2 < nx) : FI (c + 1) f nx m' d l L' D :=
 { S.more with rel := r, len8 := h8, ids := hid }

theorem moved_ids (S : FI c f nx m d l L D) (p q : List UInt8) : (movedR p q L).length ≤ 8 ∧ ∀ x ∈ movedR p q L, 0 ≤ x.2.2 ∧ x.2.2 < nx := by
 have h8 := S.len8
 unfold movedR
 split
 ·unfold ren
  have hlen : (del (bs q) L).length ≤ L.length := List.length_filter_le _ _
  cases hk : lk (bs p) (del (bs q) L) with
  | none => exact ⟨h8, S.ids⟩
  | some x =>
   have hx : x ∈ L := (List.mem_filter.1 (List.mem_of_find?_eq_some hk)).1
   refine ⟨by simp only [List.length_set]; omega, fun y hy => ?_⟩
   rcases List.mem_or_eq_of_mem_set hy with hy | rfl
   ·exact S.ids y (List.mem_filter.1 hy).1
   ·exact S.ids x hx
 ·exact ⟨h8, S.ids⟩

/-! ### each deed -/
variable {A : List Nd} {z : Int} (hr : RowsK A d) (hz : K8 A z) (hz0 : bt A z = 0) (N : Nat) (hN : 1000 < N) (hc : c ≤ 1000) (S : FI c f nx m (dmap A d) l L D) (fd n : Nat) (hfd : fd ≤ 65535) (hn : n ≤ 65535) (b : List Int) (hb : b.length ≤ 400) (p q : List UInt8)
include hr hz hz0 hN hc S

/-- on both sides the same -/
def Both (A : List Nd) (z : Int) (c : Nat) (P : ∀ {R : Type}, (Int → List Int → Int → Int → TM → DM → OL → Option R) → Option R) (Q : ∀ {R : Type}, (Int → List Int → Int → List EN → List (List Int) → List Int → OL → Option R) → Option R) : Prop :=
 ∃ r f' nx' m' d' l' L' D', FI (c + 1) f' nx' m' (dmap A d') l' L' D' ∧ RowsK A d' ∧ (∀ {R : Type} (K : Int → List Int → Int → Int → TM → DM → OL → Option R), P K = K r f' z nx' m' d' l') ∧
  (∀ {R : Type} (K : Int → List Int → Int → List EN → List (List Int) → List Int → OL → Option R), Q K = K r (fdR f') nx' L' D' (Go.Proofs.Ytdopealphpmaeaa.opn l'.length) l')

include hfd in
theorem d_close : Both A z c (fun K => Z4 N (fd : Int) f z nx m d l K) (fun K => Z51 N (fd : Int) (fdR f) nx L D (opn l.length) l K) := by
 have h0 := fun i hi => (S.fds i hi).1
 have hll := S.llen
 rcases S.slot fd with h | ⟨h4, j, id, a, hj, hl, _⟩
 ·exact ⟨_, _, _, _, _, _, _, _, S.more, hr, fun K => close_no N fd hfd f h z nx m d l K, fun K => rclose_no N fd hfd f S.flen h nx L D _ l K⟩
 ·exact ⟨_, _, _, _, _, _, _, _, S.set h4 (x := 0) ⟨by omega, by omega⟩, hr, fun K => close_ok N fd j h4 f hj z nx m d l hl (by omega) K, fun K => rclose_ok N fd j h4 f S.flen hj nx L D l hl (by omega) K⟩

include hfd hn in
theorem d_seek : Both A z c (fun K => Z14 N (fd : Int) (n : Int) f z nx m d l K) (fun K => Z63 N (fd : Int) (n : Int) (fdR f) nx L D (opn l.length) l K) := by
 have hll := S.llen
 rcases S.slot fd with h | ⟨h4, j, id, a, hj, hl, hat, _⟩
 ·exact ⟨_, _, _, _, _, _, _, _, S.more, hr, fun K => seek_no N fd hfd f h z nx m d l _ K, fun K => rseek_no N fd hfd f S.flen h nx L D _ l _ K⟩
 ·by_cases h255 : n ≤ 255
  ·have hlen : (l.set j ((id : Int), (n : Int))).length = l.length := List.length_set
   refine ⟨(n : Int), _, _, _, _, _, _, _, S.seek hl hat h255, hr, fun K => ?_, fun K => ?_⟩
   ·have := seek_eq N fd j h4 f hj z nx m d l hl (by omega) n h255 K
    rw [hat] at this
    exact this
   ·have := rseek_ok N fd j h4 f S.flen hj nx L D l hl (by omega) K n h255
    rw [hat] at this
    rw [hlen]
    exact this
  ·exact ⟨_, _, _, _, _, _, _, _, S.more, hr, fun K => seek_far N fd j h4 f hj z nx m d l hl (by omega) n (by omega) K, fun K => rseek_far N fd j h4 f S.flen hj nx L D l hl (by omega) K n (by omega)⟩

include hfd in
theorem d_size : Both A z c (fun K => Z16 N (fd : Int) f z nx m d l K) (fun K => Z66 N (fd : Int) (fdR f) nx L D (opn l.length) l K) := by
 have hll := S.llen
 rcases S.slot fd with h | ⟨h4, j, id, a, hj, hl, hat, hid, ha, hg0, hg8⟩
 ·exact ⟨_, _, _, _, _, _, _, _, S.more, hr, fun K => size_no N fd hfd f h z nx m d l K, fun K => rsize_no N fd hfd f S.flen h nx L D _ l K⟩
 ·have hg : (dgetG d id).map (bt A) = D.getD id [] := (dget_map A d id).symm.trans hg0
  have hgl : (dgetG d id).length = (D.getD id []).length := by rw [← hg, List.length_map]
  refine ⟨((D.getD id []).length : Int), _, _, _, _, _, _, _, S.more, hr, fun K => ?_, fun K => rsize_ok N fd j h4 f S.flen hj nx L D l hl (by omega) K id a hat hid (by omega)⟩
  have := size_eq N fd j h4 f hj z nx m d l hl (by omega) (by rw [hat]; show (dgetG d id).length ≤ 60000; omega) K
  rw [hat] at this
  rw [← hgl]
  exact this

include hfd hn in
theorem d_trunc : Both A z c (fun K => Z18 N (fd : Int) (n : Int) f z nx m d l K) (fun K => Z69 N (fd : Int) (n : Int) (fdR f) nx L D (opn l.length) l K) := by
 have hll := S.llen
 rcases S.slot fd with h | ⟨h4, j, id, a, hj, hl, hat, hid, ha, hg0, hg8⟩
 ·exact ⟨_, _, _, _, _, _, _, _, S.more, hr, fun K => trunc_no N fd hfd f h z nx m d l _ K, fun K => rtrunc_no N fd hfd f S.flen h nx L D _ l _ K⟩
 ·have hg : (dgetG d id).map (bt A) = D.getD id [] := (dget_map A d id).symm.trans hg0
  have hgl : (dgetG d id).length = (D.getD id []).length := by rw [← hg, List.length_map]
  by_cases h8 : 8 < n
  ·refine ⟨65302, _, _, _, _, _, _, _, S.more, hr, fun K => ?_, fun K => ?_⟩
   ·show Z18 N (fd : Int) (n : Int) f z nx m d l K = _
    unfold Z18 Z18_T
    rw [file_open N fd j h4 f hj z nx m d l hl (by omega), br_of (decide_eq_true (by omega))]
   ·have := rtrunc_ok N fd j h4 f S.flen hj nx L D l hl (by omega) K id a hat hid (by omega) n hn
    rw [if_pos h8] at this
    exact this
  ·have e : dmap A (mput (.int .i64) (.isl (.int .i64)) d id (sizedG z (dgetG d id) n)) = mput (.int .i64) (.isl (.int .u8)) (dmap A d) id (sizedV (D.getD id []) n) := by
    rw [dput_map, sized_map A z hz0, hg]
   refine ⟨0, _, _, _, mput (.int .i64) (.isl (.int .i64)) d id (sizedG z (dgetG d id) n), _, _, _, by rw [e]; exact S.put hid (v := sizedV (D.getD id []) n) (by rw [sizedV_len]; omega), hr.put _ ((hr.get _).sized hz n), fun K => ?_, fun K => ?_⟩
   ·have := trunc_eq N (by omega) fd j h4 f hj z nx m d l hl (by omega) (by rw [hat]; show (dgetG d id).length ≤ 60000; omega) n (by omega) K
    rw [if_neg h8, hat] at this
    exact this
   ·have := rtrunc_ok N fd j h4 f S.flen hj nx L D l hl (by omega) K id a hat hid (by omega) n hn
    rw [if_neg h8] at this
    exact this

include hfd in
theorem d_twin : Both A z c (fun K => Z20 N (fd : Int) f z nx m d l K) (fun K => Z72 N (fd : Int) (fdR f) nx L D (opn l.length) l K) := by
 have h0 := fun i hi => (S.fds i hi).1
 have hll := S.llen
 have hv := freeV_lt f
 rcases S.slot fd with h | ⟨h4, j, id, a, hj, hl, _⟩
 ·exact ⟨_, _, _, _, _, _, _, _, S.more, hr, fun K => twin_no N fd hfd f h z nx m d l K, fun K => rtwin_no N fd hfd f S.flen h nx L D _ l K⟩
 ·by_cases hf : 0 ≤ freeV f
  ·refine ⟨freeV f, _, _, _, _, _, _, _, S.set (k := (freeV f).toNat) (by omega) (x := ((j + 1 : Nat) : Int)) ⟨by omega, by omega⟩, hr, fun K => ?_, fun K => ?_⟩
   ·have := twin_eq N (by omega) fd j h4 f hj z nx m d l hl (by omega) K
    rw [if_pos hf] at this
    exact this
   ·have := rtwin_ok N (by omega) fd j h4 f S.flen h0 hj nx L D l hl (by omega) K
    rw [if_pos hf] at this
    exact this
  ·refine ⟨65304, _, _, _, _, _, _, _, S.more, hr, fun K => ?_, fun K => ?_⟩
   ·have := twin_eq N (by omega) fd j h4 f hj z nx m d l hl (by omega) K
    rw [if_neg hf] at this
    exact this
   ·have := rtwin_ok N (by omega) fd j h4 f S.flen h0 hj nx L D l hl (by omega) K
    rw [if_neg hf] at this
    exact this

include hfd in
theorem d_write (t : List Int) (ht : rowK A t) (htl : t.length ≤ 400) : ∃ r f' nx' m' d' l' L' D', FI (c + 1) f' nx' m' (dmap A d') l' L' D' ∧ RowsK A d' ∧ (∀ {R : Type} (K : Int → List Int → Int → Int → TM → DM → OL → List Int → Option R), Z22 N (fd : Int) f z nx m d l t K = K r f' z nx' m' d' l' t) ∧
  (∀ {R : Type} (K : Int → List Int → Int → List EN → List (List Int) → List Int → OL → Option R), Z74 N (fd : Int) (t.map (bt A)) (fdR f) nx L D (opn l.length) l K = K r (fdR f') nx' L' D' (Go.Proofs.Ytdopealphpmaeaa.opn l'.length) l') := by
 have hll := S.llen
 rcases S.slot fd with h | ⟨h4, j, id, a, hj, hl, hat, hid, ha, hg0, hg8⟩
 ·exact ⟨_, _, _, _, _, _, _, _, S.more, hr, fun K => write_no N fd hfd f h z nx m d l t K, fun K => rwrite_no N fd hfd f S.flen h nx L D _ l _ K⟩
 ·have hg : (dgetG d id).map (bt A) = D.getD id [] := (dget_map A d id).symm.trans hg0
  have hgl : (dgetG d id).length = (D.getD id []).length := by rw [← hg, List.length_map]
  have hml : (t.map (bt A)).length = t.length := List.length_map _
  have e1 : ∀ {R : Type} (K : Int → List Int → Int → Int → TM → DM → OL → List Int → Option R), _ := fun {R} K => write_eq (R := R) N (by omega) fd j h4 f hj z nx m d l hl (by omega) id a ha hat (by omega) t htl K
  have e2 : ∀ {R : Type} (K : Int → List Int → Int → List EN → List (List Int) → List Int → OL → Option R), _ := fun {R} K => rwrite_ok (R := R) N (by omega) fd j h4 f S.flen hj nx L D l hl (by omega) K id a ha hat hid (by omega) (t.map (bt A)) (by omega)
  by_cases hz1 : t.length = 0
  ·exact ⟨_, _, _, _, _, _, _, _, S.more, hr, fun K => (e1 K).trans (if_pos hz1), fun K => (e2 K).trans (if_pos (by omega))⟩
  ·by_cases h8 : 8 ≤ a
   ·exact ⟨_, _, _, _, _, _, _, _, S.more, hr, fun K => (e1 K).trans ((if_neg hz1).trans (if_pos h8)), fun K => (e2 K).trans ((if_neg (by omega)).trans (if_pos h8))⟩
   ·have hmt : (t.map (bt A)).take (8 - a) = (t.take (8 - a)).map (bt A) := by rw [List.map_take]
    have hcl : ((t.map (bt A)).take (8 - a)).length ≤ 8 - a := by simp; omega
    have hcl2 : ((t.map (bt A)).take (8 - a)).length = (t.take (8 - a)).length := by rw [hmt, List.length_map]
    have S1 := S.put hid (v := overV (D.getD id []) a ((t.map (bt A)).take (8 - a))) (by rw [overV_len]; omega)
    have S2 := FI.seek S hl hat (b := a + ((t.map (bt A)).take (8 - a)).length) (by omega)
    have hlen : (l.set j ((id : Int), ((a + ((t.map (bt A)).take (8 - a)).length : Nat) : Int))).length = l.length := List.length_set
    have e : dmap A (mput (.int .i64) (.isl (.int .i64)) d id (overG z (dgetG d id) a (t.take (8 - a)))) = mput (.int .i64) (.isl (.int .u8)) (dmap A d) id (overV (D.getD id []) a ((t.map (bt A)).take (8 - a))) := by
     rw [dput_map, over_map A z hz0, hg, hmt]
    refine ⟨(((t.map (bt A)).take (8 - a)).length : Int), f, nx, m, mput (.int .i64) (.isl (.int .i64)) d id (overG z (dgetG d id) a (t.take (8 - a))), l.set j ((id : Int), ((a + ((t.map (bt A)).take (8 - a)).length : Nat) : Int)), L, D.set id (overV (D.getD id []) a ((t.map (bt A)).take (8 - a))), ?_, hr.put _ ((hr.get _).over hz a (fun u hu => ht u (List.mem_of_mem_take hu))), fun K => ?_, fun K => ?_⟩
    ·rw [e]
     exact { S1 with fds := S2.fds, llen := S2.llen, opn := S2.opn }
    ·have := (e1 K).trans ((if_neg hz1).trans (if_neg h8))
     rw [hcl2]
     exact this
    ·rw [hlen]
     exact (e2 K).trans ((if_neg (by omega)).trans (if_neg h8))

theorem d_open : ∃ r f' nx' m' d' l' L' D', FI (c + 1) f' nx' m' (dmap A d') l' L' D' ∧ RowsK A d' ∧ (∀ {R : Type} (K : Int → List Int → Int → Int → TM → DM → OL → Option R), Z10 N (bs p) f z nx m d l K = K r f' z nx' m' d' l') ∧
  (∀ {R : Type} (K : Int → List Int → Int → OL → List (List Int) → List Int → List EN → Option R), Z57 N (bs p) (fdR f) nx L D (opn l.length) l K = K r (fdR f') nx' l' D' (Go.Proofs.Ytdopealphpmaeaa.opn l'.length) L') := by
 have h0 := fun i hi => (S.fds i hi).1
 have hll := S.llen
 have hnx := S.nx0
 have h8 := S.len8
 have hv := freeV_lt f
 have e1 : ∀ {R : Type} (K : Int → List Int → Int → Int → TM → DM → OL → Option R), _ := fun {R} K => open_eq (R := R) N (by omega) p f z nx (by omega) m d l (by omega) K
 have e2 : ∀ {R : Type} (K : Int → List Int → Int → OL → List (List Int) → List Int → List EN → Option R), _ := fun {R} K => ropen_eq (R := R) N hN p f S.flen h0 nx (by omega) L (by omega) D S.dlen l (by omega) K
 rw [S.rel.findV p, S.rel.makeC p false] at e1
 have hla : ∀ x : Int × Int, (l ++ [x]).length = l.length + 1 := fun x => by simp
 cases hnm : nameB p with
 | false =>
  have hf : findR p L = (-1, false, 65282) := by unfold findR; rw [hnm]; rfl
  have hm : makeR p false L = 65282 := by unfold makeR; rw [hnm]; rfl
  rw [hf, hm] at e1
  rw [hnm] at e2
  exact ⟨65282, _, _, _, _, _, _, _, S.more, hr, fun K => (e1 K).trans rfl, fun K => (e2 K).trans rfl⟩
 | true =>
  rw [hnm] at e2
  simp only [Bool.true_eq_false, if_false] at e2
  by_cases ha : aboveR (splitL p).1 L = 0
  ·rw [ha] at e2
   simp only [ne_eq, not_true, if_false] at e2
   cases hk : lk (bs p) L with
   | some x =>
    have hf : findR p L = (x.2.2, x.2.1, 0) := by unfold findR; rw [hnm, if_pos rfl, ha, if_pos rfl, hk]
    have hx := S.ids x (List.mem_of_find?_eq_some hk)
    rw [hf] at e1 e2
    simp only [if_true, true_and] at e1 e2
    cases hxd : x.2.1 with
    | true =>
     rw [hxd] at e1 e2
     exact ⟨65301, _, _, _, _, _, _, _, S.more, hr, fun K => (e1 K).trans rfl, fun K => (e2 K).trans rfl⟩
    | false =>
     rw [hxd] at e1 e2
     simp only [Bool.false_eq_true, if_false] at e1 e2
     by_cases hfr : freeV f < 0
     ·exact ⟨65304, _, _, _, _, _, _, _, S.more, hr, fun K => (e1 K).trans (if_pos hfr), fun K => (e2 K).trans (if_pos hfr)⟩
     ·exact ⟨freeV f, _, _, _, _, _, _, _, S.open (k := (freeV f).toNat) (by omega) hx, hr, fun K => (e1 K).trans (if_neg hfr), fun K => by rw [hla]; exact (e2 K).trans (if_neg hfr)⟩
   | none =>
    have hf : findR p L = (-1, false, 65282) := by unfold findR; rw [hnm, if_pos rfl, ha, if_pos rfl, hk]
    have hm : makeR p false L = if 8 ≤ L.length then 65308 else 0 := by
     unfold makeR
     rw [hnm, if_neg (by decide), ha, if_neg (by decide), hk]
     simp
    have hne : makeR p false L ≠ 65282 := by rw [hm]; split <;> decide
    rw [hf] at e1 e2
    have e1 : ∀ {R : Type} (K : Int → List Int → Int → Int → TM → DM → OL → Option R), _ := fun {R} K => ((@e1 R K).trans (if_neg (by decide))).trans ((if_neg (by decide)).trans (if_neg hne))
    have e2 : ∀ {R : Type} (K : Int → List Int → Int → OL → List (List Int) → List Int → List EN → Option R), _ := fun {R} K => (@e2 R K).trans (if_neg (by decide))
    by_cases hfr : freeV f < 0
    ·exact ⟨65304, _, _, _, _, _, _, _, S.more, hr, fun K => (e1 K).trans (if_pos hfr), fun K => (e2 K).trans (if_pos hfr)⟩
    ·have e1 : ∀ {R : Type} (K : Int → List Int → Int → Int → TM → DM → OL → Option R), _ := fun {R} K => (@e1 R K).trans (if_neg hfr)
     have e2 : ∀ {R : Type} (K : Int → List Int → Int → OL → List (List Int) → List Int → List EN → Option R), _ := fun {R} K => (@e2 R K).trans ((if_neg hfr).trans (if_neg (by decide)))
     by_cases hz : makeR p false L = 0
     ·have S1 := S.make hz
      have S2 := FI.open (f := f) S (k := (freeV f).toNat) (by omega) (i := 0)
      have S3 : FI (c + 1) (f.set (freeV f).toNat ((l.length + 1 : Nat) : Int)) (nx + 1) (tput m (keyL p) (nx, false)) (dmap A d) (l ++ [(nx, 0)]) (L ++ [(bs p, false, nx)]) (D ++ [[]]) := by
       have Sc : FI c f nx m (dmap A d) l L D := S
       have hq : FI (c + 1) f (nx + 1) (tput m (keyL p) (nx, false)) (dmap A d) l (L ++ [(bs p, false, nx)]) (D ++ [[]]) := S1
       refine { hq with flen := by rw [List.length_set]; exact S.flen, fds := ?_, llen := by rw [hla]; omega, opn := ?_ }
       ·intro j hj
        rw [hla]
        by_cases e : (freeV f).toNat = j
        ·subst e
         rw [getD_set_at (by rw [S.flen]; exact hj)]
         omega
        ·rw [getD_set_off e]
         have := S.fds j hj
         omega
       ·intro j hj
        rw [hla] at hj
        by_cases e : j < l.length
        ·have := hq.opn j e
         rw [List.getD_eq_getElem?_getD, List.getElem?_append_left e, ← List.getD_eq_getElem?_getD]
         exact this
        ·obtain rfl : j = l.length := by omega
         rw [List.getD_eq_getElem?_getD, List.getElem?_append_right (Nat.le_refl _), Nat.sub_self]
         exact ⟨hnx.1, by show nx < nx + 1; omega, by show (0 : Int) ≤ 0; omega, by show (0 : Int) ≤ 255; omega⟩
      exact ⟨freeV f, _, _, _, _, _, _, _, S3, hr, fun K => (e1 K).trans (if_pos hz), fun K => by rw [hla]; exact (e2 K).trans (if_pos hz)⟩
     ·exact ⟨makeR p false L, _, _, _, _, _, _, _, S.more, hr, fun K => (e1 K).trans (if_neg hz), fun K => (e2 K).trans (if_neg hz)⟩
  ·have hf : findR p L = (-1, false, aboveR (splitL p).1 L) := by unfold findR; rw [hnm, if_pos rfl, if_neg ha]
   have hm : makeR p false L = aboveR (splitL p).1 L := by unfold makeR; rw [hnm, if_neg (by decide), if_pos ha]
   rw [hf, hm] at e1
   rw [hf] at e2
   simp only [ha, false_and, if_false, ne_eq, not_false_iff, if_true] at e1 e2
   have hval : aboveR (splitL p).1 L = 65282 ∨ aboveR (splitL p).1 L = 65300 := by
    unfold aboveR at ha ⊢
    split
    ·rename_i h; rw [if_pos h] at ha; exact absurd rfl ha
    ·rename_i h
     rw [if_neg h] at ha
     cases hk : lk (bs (splitL p).1) L with
     | none => left; rfl
     | some x =>
      rw [hk] at ha
      cases hxd : x.2.1 with
      | true => simp [hxd] at ha
      | false => right; simp [hxd]
   rcases hval with hval | hval
   ·rw [hval] at e1 e2
    exact ⟨65282, _, _, _, _, _, _, _, S.more, hr, fun K => (e1 K).trans rfl, fun K => e2 K⟩
   ·rw [hval] at e1 e2
    exact ⟨65300, _, _, _, _, _, _, _, S.more, hr, fun K => (e1 K).trans rfl, fun K => e2 K⟩

include hfd hn in
theorem d_read : ∃ r t f' nx' m' d' l' L' D', FI (c + 1) f' nx' m' (dmap A d') l' L' D' ∧ RowsK A d' ∧ t.length ≤ 400 ∧ rowK A t ∧ (∀ {R : Type} (K : Int → List Int → Int → Int → TM → DM → OL → List Int → Option R), Z12 N (fd : Int) (n : Int) f z nx m d l K = K r f' z nx' m' d' l' t) ∧
  (∀ {R : Type} (K : Int → List Int → Int → List EN → List (List Int) → List Int → OL → List Int → Option R), Z60 N (fd : Int) (n : Int) (fdR f) nx L D (opn l.length) l K = K r (fdR f') nx' L' D' (Go.Proofs.Ytdopealphpmaeaa.opn l'.length) l' (t.map (bt A))) := by
 have hll := S.llen
 rcases S.slot fd with h | ⟨h4, j, id, a, hj, hl, hat, hid, ha, hg0, hg8⟩
 ·exact ⟨_, [], _, _, _, _, _, _, _, S.more, hr, by simp, fun t ht => (by cases ht), fun K => read_no N fd hfd f h z nx m d l _ K, fun K => rread_no N fd hfd f S.flen h nx L D _ l _ K⟩
 ·have hg : (dgetG d id).map (bt A) = D.getD id [] := (dget_map A d id).symm.trans hg0
  have hgl : (dgetG d id).length = (D.getD id []).length := by rw [← hg, List.length_map]
  have hmt : (((dgetG d id).drop a).take n).map (bt A) = ((D.getD id []).drop a).take n := by rw [List.map_take, List.map_drop, hg]
  have hml : (((dgetG d id).drop a).take n).length = (((D.getD id []).drop a).take n).length := by rw [← hmt, List.length_map]
  have hlen2 : (((D.getD id []).drop a).take n).length ≤ 8 - a := by rw [List.length_take, List.length_drop]; omega
  have hlen3 : (((D.getD id []).drop a).take n).length ≤ 8 := by rw [List.length_take, List.length_drop]; omega
  have hso : a + (((D.getD id []).drop a).take n).length ≤ 255 := by
   by_cases h8 : a ≤ 8
   ·omega
   ·omega
  have hlen : (l.set j ((id : Int), ((a + (((D.getD id []).drop a).take n).length : Nat) : Int))).length = l.length := List.length_set
  refine ⟨((((D.getD id []).drop a).take n).length : Int), ((dgetG d id).drop a).take n, _, _, _, _, _, _, _, S.seek hl hat hso, hr, by omega, fun t ht => hr.get _ t (List.mem_of_mem_drop (List.mem_of_mem_take ht)), fun K => ?_, fun K => ?_⟩
  ·have := read_eq N fd j h4 f hj z nx m d l hl (by omega) id a (by omega) hat (by omega) n hn K
   rw [hml] at this
   exact this
  ·rw [hlen, hmt]
   exact rread_ok N fd j h4 f S.flen hj nx L D l hl (by omega) K id a ha hat hid (by omega) n hn
end

end Go.Proofs.Ytdopealphpmaeaa
