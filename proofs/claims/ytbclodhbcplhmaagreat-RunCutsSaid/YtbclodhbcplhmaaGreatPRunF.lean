/-
 the program's files (chapter 14), one side only: whatever is asked, there is an answer, and they stay in shape.
-/
import Derived.Test.YtbclodhbcplhmaaGreatPRunG
set_option linter.unusedSimpArgs false
set_option linter.unusedVariables false
set_option linter.unusedSectionVars false
namespace Go.Proofs.YtbclodhbcplhmaaGreat
open Go.Gx

theorem getD_set_at {α : Type} {l : List α} {k : Nat} (h : k < l.length) (x z : α) : (l.set k x).getD k z = x := by
 rw [List.getD_eq_getElem?_getD, List.getElem?_set_self h]; rfl
theorem getD_set_off {α : Type} {l : List α} {k j : Nat} (h : k ≠ j) (x z : α) : (l.set k x).getD j z = l.getD j z := by
 rw [List.getD_eq_getElem?_getD, List.getD_eq_getElem?_getD, List.getElem?_set_ne h]
theorem dget_ne (d : DM) {i k : Int} (h : i ≠ k) (v : List Int) : dgetV (mput (.int .i64) (.isl (.int .u8)) d i v) k = dgetV d k := by
 unfold dgetV
 rw [mfind_put_ne (ks := .int .i64) (vs := .isl (.int .u8)) rfl h]

structure FV (c : Nat) (f : List Int) (nx : Int) (d : DM) (l : OL) : Prop where
 flen : f.length = 4
 fds : ∀ k, k < 4 → 0 ≤ f.getD k 0 ∧ f.getD k 0 ≤ (l.length : Int)
 nx0 : 0 ≤ nx ∧ nx ≤ (c : Int) + 1000
 llen : l.length ≤ c
 pos : ∀ j, j < l.length → ∃ (id : Int) (a : Nat), l.getD j (0, 0) = (id, (a : Int)) ∧ a ≤ 255
 row : ∀ i : Int, (dgetV d i).length ≤ 8

section
variable {c : Nat} {f : List Int} {nx : Int} {m : TM} {d : DM} {l : OL}

theorem FV.more (S : FV c f nx d l) : FV (c + 1) f nx d l := { S with nx0 := ⟨S.nx0.1, by have := S.nx0.2; omega⟩, llen := by have := S.llen; omega }

theorem FV.slot (S : FV c f nx d l) (fd : Nat) : (fd < 4 → f.getD fd 0 = 0) ∨ (fd < 4 ∧ ∃ (j : Nat) (id : Int) (a : Nat), f.getD fd 0 = ((j + 1 : Nat) : Int) ∧ j < l.length ∧ l.getD j (0, 0) = (id, (a : Int)) ∧ a ≤ 255) := by
 by_cases h4 : fd < 4
 ·have := S.fds fd h4
  by_cases h0 : f.getD fd 0 = 0
  ·exact .inl fun _ => h0
  ·obtain ⟨id, a, h1, h2⟩ := S.pos ((f.getD fd 0).toNat - 1) (by omega)
   exact .inr ⟨h4, (f.getD fd 0).toNat - 1, id, a, by omega, by omega, h1, h2⟩
 ·exact .inl fun h => absurd h h4

theorem FV.seek (S : FV c f nx d l) {j : Nat} (hj : j < l.length) (id : Int) {b : Nat} (hb : b ≤ 255) : FV (c + 1) f nx d (l.set j (id, (b : Int))) := by
 have M := S.more
 refine { M with fds := ?_, llen := by rw [List.length_set]; exact M.llen, pos := ?_ }
 ·rw [List.length_set]; exact M.fds
 ·intro i hi
  rw [List.length_set] at hi
  by_cases e : j = i
  ·subst e
   exact ⟨id, b, getD_set_at hj _ _, hb⟩
  ·rw [getD_set_off e]
   exact S.pos i hi

theorem FV.set (S : FV c f nx d l) {k : Nat} (hk : k < 4) {x : Int} (hx : 0 ≤ x ∧ x ≤ (l.length : Int)) : FV (c + 1) (f.set k x) nx d l := by
 have M := S.more
 refine { M with flen := by rw [List.length_set]; exact M.flen, fds := ?_ }
 intro i hi
 by_cases e : k = i
 ·subst e
  rw [getD_set_at (by rw [S.flen]; exact hk)]
  exact hx
 ·rw [getD_set_off e]
  exact S.fds i hi

theorem FV.put (S : FV c f nx d l) (id : Int) {v : List Int} (hv : v.length ≤ 8) : FV c f nx (mput (.int .i64) (.isl (.int .u8)) d id v) l := by
 refine { S with row := fun i => ?_ }
 by_cases e : id = i
 ·subst e
  rw [dget_put]
  exact hv
 ·rw [dget_ne d e]
  exact S.row i

theorem FV.open (S : FV c f nx d l) {k : Nat} (hk : k < 4) (i : Int) : FV (c + 1) (f.set k ((l.length + 1 : Nat) : Int)) nx d (l ++ [(i, 0)]) := by
 have M := S.more
 have hl : (l ++ [(i, (0 : Int))]).length = l.length + 1 := by simp
 refine { M with flen := by rw [List.length_set]; exact M.flen, fds := ?_, llen := by rw [hl]; have := S.llen; omega, pos := ?_ }
 ·intro j hj
  rw [hl]
  by_cases e : k = j
  ·subst e
   rw [getD_set_at (by rw [S.flen]; exact hk)]
   omega
  ·rw [getD_set_off e]
   have := S.fds j hj
   omega
 ·intro j hj
  rw [hl] at hj
  by_cases e : j < l.length
  ·have := S.pos j e
   rw [List.getD_eq_getElem?_getD, List.getElem?_append_left e, ← List.getD_eq_getElem?_getD]
   exact this
  ·obtain rfl : j = l.length := by omega
   rw [List.getD_eq_getElem?_getD, List.getElem?_append_right (Nat.le_refl _), Nat.sub_self]
   exact ⟨i, 0, rfl, by omega⟩

theorem FV.next (S : FV c f nx d l) : FV (c + 1) f (nx + 1) d l := { S.more with nx0 := ⟨by have := S.nx0.1; omega, by have := S.nx0.2; omega⟩ }
end

/-! ### answers are numbers of sixteen bits -/
def U16 (x : Int) : Prop := 0 ≤ x ∧ x ≤ 65535
theorem above_in (a b : List UInt8) (m : TM) : U16 (aboveV a b m) := by
 unfold aboveV U16
 split
 ·omega
 ·split
  ·omega
  ·split
   ·omega
   ·split <;> omega
theorem getV_in (p : List UInt8) (m : TM) : U16 (getV p m).2.2 := by
 have := above_in (splitL p).1 (splitL p).2 m
 unfold getV
 split
 ·split <;> exact ⟨by simp, by simp⟩
 ·exact this
theorem findV_in (p : List UInt8) (m : TM) : U16 (findV p m).2.2 := by
 have := getV_in p m
 unfold findV
 split <;> exact this
theorem makeC_in (p : List UInt8) (dir : Bool) (m : TM) : U16 (makeC p dir m) := by
 have := above_in (splitL p).1 (splitL p).2 m
 unfold U16 at this
 unfold makeC U16
 split
 ·exact this
 ·split
  ·omega
  ·split
   ·omega
   ·split <;> omega
theorem dropC_in (p : List UInt8) (dir : Bool) (m : TM) : U16 (dropC p dir m) := by
 have := getV_in p m
 unfold U16 at this
 unfold dropC U16
 split
 ·exact this
 ·split
  ·omega
  ·split
   ·omega
   ·split <;> omega
theorem moveC_in (p q : List UInt8) (m : TM) : U16 (moveC p q m) := by
 have := getV_in p m
 have k := above_in (splitL q).1 (splitL q).2 m
 unfold U16 at this k
 unfold moveC U16
 split
 ·exact this
 ·split
  ·omega
  ·split
   ·exact k
   ·split
    ·omega
    ·split
     ·split <;> omega
     ·omega

/-! ### what may be asked -/
def Ans (c : Nat) (P : ∀ {R : Type}, (Int → List Int → Int → TM → DM → OL → Option R) → Option R) : Prop :=
 ∃ r f' nx' m' d' l', U16 r ∧ FV (c + 1) f' nx' d' l' ∧ ∀ {R : Type} (K : Int → List Int → Int → TM → DM → OL → Option R), P K = K r f' nx' m' d' l'

section
variable {c : Nat} {f : List Int} {nx : Int} {m : TM} {d : DM} {l : OL} (N : Nat) (hN : 500 < N) (hc : c ≤ 1000) (S : FV c f nx d l) (fd n : Nat) (hfd : fd ≤ 65535) (hn : n ≤ 65535) (p q : List UInt8)
include hN hc S

include hfd in
theorem a_close : Ans c (fun K => Z18 N (fd : Int) f nx m d l K) := by
 have hll := S.llen
 rcases S.slot fd with h | ⟨h4, j, id, a, hj, hl, _⟩
 ·exact ⟨_, _, _, _, _, _, ⟨by omega, by omega⟩, S.more, fun K => close_no N fd hfd f h nx m d l K⟩
 ·exact ⟨_, _, _, _, _, _, ⟨by omega, by omega⟩, S.set h4 (x := 0) ⟨by omega, by omega⟩, fun K => close_ok N fd j h4 f hj nx m d l hl (by omega) K⟩

include hfd hn in
theorem a_seek : Ans c (fun K => Z25 N (fd : Int) (n : Int) f nx m d l K) := by
 have hll := S.llen
 rcases S.slot fd with h | ⟨h4, j, id, a, hj, hl, hat, _⟩
 ·exact ⟨_, _, _, _, _, _, ⟨by omega, by omega⟩, S.more, fun K => seek_no N fd hfd f h nx m d l _ K⟩
 ·by_cases h255 : n ≤ 255
  ·exact ⟨(n : Int), _, _, _, _, _, ⟨by omega, by omega⟩, S.seek hl _ h255, fun K => seek_eq N fd j h4 f hj nx m d l hl (by omega) n h255 K⟩
  ·exact ⟨_, _, _, _, _, _, ⟨by omega, by omega⟩, S.more, fun K => seek_far N fd j h4 f hj nx m d l hl (by omega) n (by omega) K⟩

include hfd in
theorem a_size : Ans c (fun K => Z26 N (fd : Int) f nx m d l K) := by
 have hll := S.llen
 rcases S.slot fd with h | ⟨h4, j, id, a, hj, hl, hat, ha⟩
 ·exact ⟨_, _, _, _, _, _, ⟨by omega, by omega⟩, S.more, fun K => size_no N fd hfd f h nx m d l K⟩
 ·have := S.row (l.getD j (0, 0)).1
  exact ⟨_, _, _, _, _, _, ⟨by omega, by omega⟩, S.more, fun K => size_eq N fd j h4 f hj nx m d l hl (by omega) (by omega) K⟩

include hfd hn in
theorem a_trunc : Ans c (fun K => Z27 N (fd : Int) (n : Int) f nx m d l K) := by
 have hll := S.llen
 rcases S.slot fd with h | ⟨h4, j, id, a, hj, hl, hat, ha⟩
 ·exact ⟨_, _, _, _, _, _, ⟨by omega, by omega⟩, S.more, fun K => trunc_no N fd hfd f h nx m d l _ K⟩
 ·by_cases h8 : 8 < n
  ·refine ⟨65302, f, nx, m, d, l, ⟨by omega, by omega⟩, S.more, fun K => ?_⟩
   show Z27 N (fd : Int) (n : Int) f nx m d l K = _
   unfold Z27 Z27_T
   rw [file_open N fd j h4 f hj nx m d l hl (by omega), br_of (decide_eq_true (by omega))]
  ·refine ⟨0, f, nx, m, _, l, ⟨by omega, by omega⟩, S.more.put (l.getD j (0, 0)).1 (v := sizedV (dgetV d (l.getD j (0, 0)).1) n) (by rw [sizedV_len]; omega), fun K => ?_⟩
   have := S.row (l.getD j (0, 0)).1
   exact (trunc_eq N (by omega) fd j h4 f hj nx m d l hl (by omega) (by omega) n (by omega) K).trans (if_neg h8)

include hfd in
theorem a_twin : Ans c (fun K => Z28 N (fd : Int) f nx m d l K) := by
 have hll := S.llen
 have hv := freeV_lt f
 rcases S.slot fd with h | ⟨h4, j, id, a, hj, hl, hat, ha⟩
 ·exact ⟨_, _, _, _, _, _, ⟨by omega, by omega⟩, S.more, fun K => twin_no N fd hfd f h nx m d l K⟩
 ·by_cases h0 : 0 ≤ freeV f
  ·exact ⟨freeV f, _, _, _, _, _, ⟨by omega, by omega⟩, S.set (k := (freeV f).toNat) (by omega) (x := ((j + 1 : Nat) : Int)) ⟨by omega, by omega⟩, fun K => (twin_eq N (by omega) fd j h4 f hj nx m d l hl (by omega) K).trans (if_pos h0)⟩
  ·exact ⟨65304, _, _, _, _, _, ⟨by omega, by omega⟩, S.more, fun K => (twin_eq N (by omega) fd j h4 f hj nx m d l hl (by omega) K).trans (if_neg h0)⟩

include hfd hn in
theorem a_read : ∃ r f' nx' m' d' l' b, U16 r ∧ FV (c + 1) f' nx' d' l' ∧ b.length ≤ 8 ∧ ∀ {R : Type} (K : Int → List Int → Int → TM → DM → OL → List Int → Option R), Z22 N (fd : Int) (n : Int) f nx m d l K = K r f' nx' m' d' l' b := by
 have hll := S.llen
 rcases S.slot fd with h | ⟨h4, j, id, a, hj, hl, hat, ha⟩
 ·exact ⟨_, _, _, _, _, _, _, ⟨by omega, by omega⟩, S.more, by simp, fun K => read_no N fd hfd f h nx m d l _ K⟩
 ·have h8 := S.row id
  have hb : (((dgetV d id).drop a).take n).length ≤ 8 - a := by simp; omega
  exact ⟨_, _, _, _, _, _, _, ⟨by omega, by omega⟩, S.seek hl id (b := a + (((dgetV d id).drop a).take n).length) (by omega), by omega, fun K => read_eq N fd j h4 f hj nx m d l hl (by omega) id a (by omega) hat (by omega) n hn K⟩

theorem a_open : Ans c (fun K => Z21 N (bs p) f nx m d l K) := by
 have hll := S.llen
 have hv := freeV_lt f
 have hx := S.nx0
 have e := fun {R : Type} (K : Int → List Int → Int → TM → DM → OL → Option R) => open_eq N (by omega) p f nx ⟨hx.1, by omega⟩ m d l (by omega) K
 have no : ∀ r : Int, U16 r → (∀ {R : Type} (K : Int → List Int → Int → TM → DM → OL → Option R), Z21 N (bs p) f nx m d l K = K r f nx m d l) → Ans c (fun K => Z21 N (bs p) f nx m d l K) := fun r hr h => ⟨r, f, nx, m, d, l, hr, S.more, h⟩
 by_cases h0 : (findV p m).2.2 = 0
 ·cases hd : (findV p m).2.1 with
  | true => exact no 65301 ⟨by omega, by omega⟩ fun K => by rw [e, if_pos h0, hd]; rfl
  | false =>
   by_cases hf : freeV f < 0
   ·exact no 65304 ⟨by omega, by omega⟩ fun K => by rw [e, if_pos h0, hd, if_neg (by decide), if_pos hf]
   ·exact ⟨freeV f, _, nx, m, d, _, ⟨by omega, by omega⟩, S.open (k := (freeV f).toNat) (by omega) (findV p m).1, fun K => (e K).trans (by rw [if_pos h0, hd, if_neg (by decide), if_neg hf])⟩
 ·by_cases h3 : (findV p m).2.2 = 65300
  ·exact no 65300 ⟨by omega, by omega⟩ fun K => by rw [e, if_neg h0, if_pos h3]
  ·by_cases h2 : makeC p false m = 65282
   ·exact no 65282 ⟨by omega, by omega⟩ fun K => by rw [e, if_neg h0, if_neg h3, if_pos h2]
   ·by_cases hf : freeV f < 0
    ·exact no 65304 ⟨by omega, by omega⟩ fun K => by rw [e, if_neg h0, if_neg h3, if_neg h2, if_pos hf]
    ·by_cases hz : makeC p false m = 0
     ·have T := (S.open (k := (freeV f).toNat) (by omega) nx)
      exact ⟨freeV f, _, nx + 1, _, d, _, ⟨by omega, by omega⟩, { T with nx0 := ⟨by omega, by omega⟩ }, fun K => (e K).trans (by rw [if_neg h0, if_neg h3, if_neg h2, if_neg hf, if_pos hz])⟩
     ·exact no _ (makeC_in p false m) fun K => by rw [e, if_neg h0, if_neg h3, if_neg h2, if_neg hf, if_neg hz]

theorem a_unlink : Ans c (fun K => Z29 N (bs p) f nx m d l K) := by
 by_cases h : dropC p false m = 0
 ·exact ⟨0, _, _, _, _, _, ⟨by omega, by omega⟩, S.more, fun K => (unlink_eq N (by omega) p f nx m d l K).trans (if_pos h)⟩
 ·exact ⟨_, _, _, _, _, _, dropC_in p false m, S.more, fun K => (unlink_eq N (by omega) p f nx m d l K).trans (if_neg h)⟩
theorem a_rmdir : Ans c (fun K => Z24 N (bs p) f nx m d l K) := by
 by_cases h : dropC p true m = 0
 ·exact ⟨0, _, _, _, _, _, ⟨by omega, by omega⟩, S.more, fun K => (rmdir_eq N (by omega) p f nx m d l K).trans (if_pos h)⟩
 ·exact ⟨_, _, _, _, _, _, dropC_in p true m, S.more, fun K => (rmdir_eq N (by omega) p f nx m d l K).trans (if_neg h)⟩
theorem a_rename : Ans c (fun K => Z23 N (bs p) (bs q) f nx m d l K) :=
 ⟨_, _, _, _, _, _, moveC_in p q m, S.more, fun K => rename_eq N (by omega) p q f nx m d l K⟩
theorem a_mkdir : Ans c (fun K => Z20 N (bs p) f nx m d l K) := by
 have hx := S.nx0
 by_cases h : makeC p true m = 0
 ·exact ⟨0, _, _, _, _, _, ⟨by omega, by omega⟩, S.next, fun K => (mkdir_eq N (by omega) p f nx ⟨hx.1, by omega⟩ m d l K).trans (if_pos h)⟩
 ·exact ⟨_, _, _, _, _, _, makeC_in p true m, S.more, fun K => (mkdir_eq N (by omega) p f nx ⟨hx.1, by omega⟩ m d l K).trans (if_neg h)⟩
theorem a_list : Ans c (fun K => Z19 N (bs p) f nx m d l K) := by
 refine ⟨_, f, nx, m, d, l, ?_, S.more, fun K => list_eq N (by omega) p f nx m d l K⟩
 have := getV_in p m
 unfold U16 at this ⊢
 split
 ·exact this
 ·split
  ·omega
  ·rw [wu16_mod]; omega

include hfd in
theorem a_write0 : Ans c (fun K => Z32 N (fd : Int) f nx m d l K) := by
 have hll := S.llen
 rcases S.slot fd with h | ⟨h4, j, id, a, hj, hl, hat, ha⟩
 ·exact ⟨65289, f, nx, m, d, l, ⟨by omega, by omega⟩, S.more, fun K => by show Z32 N (fd : Int) f nx m d l K = _; unfold Z32 Z32_T; rw [file_no N fd hfd f h]⟩
 ·exact ⟨0, f, nx, m, d, l, ⟨by omega, by omega⟩, S.more, fun K => by show Z32 N (fd : Int) f nx m d l K = _; unfold Z32 Z32_T; rw [file_open N fd j h4 f hj nx m d l hl (by omega)]⟩
end

end Go.Proofs.YtbclodhbcplhmaaGreat
