/-
 the files (chapter 14): what the printed functions come to (all deeds).
-/
import Derived.Test.YtbclodhbcplhmaaGreatPRunB0
set_option linter.unusedSimpArgs false
set_option linter.unusedVariables false
set_option linter.unusedSectionVars false
namespace Go.Proofs.YtbclodhbcplhmaaGreat
open Go.Gx

theorem sizedV_len (b : List Int) (n : Nat) : (sizedV b n).length = n := by
 unfold sizedV
 simp
 omega

/-- bytes, written upon others -/
def overV (was : List Int) (a : Nat) (c : List Int) : List Int :=
 (sizedV was (max was.length (a + c.length))).take a ++ (c ++ (sizedV was (max was.length (a + c.length))).drop (a + c.length))

theorem overV_len (was : List Int) (a : Nat) (c : List Int) : (overV was a c).length = max was.length (a + c.length) := by
 unfold overV
 simp [sizedV_len]
 omega

theorem sizedV_get (b : List Int) (n i : Nat) (h : b.length ≤ n) : (sizedV b n).getD i 0 = b.getD i 0 := by
 unfold sizedV
 rw [List.take_of_length_le h]
 simp only [List.getD_eq_getElem?_getD, List.getElem?_append, List.getElem?_replicate]
 split
 ·rfl
 ·rw [List.getElem?_eq_none (l := b) (by omega)]
  split <;> rfl

theorem overV_get (was : List Int) (a : Nat) (c : List Int) (i : Nat) :
  (overV was a c).getD i 0 = if a ≤ i ∧ i < a + c.length then c.getD (i - a) 0 else was.getD i 0 := by
 have hs := fun i => sizedV_get was (max was.length (a + c.length)) i (by omega)
 have hl := sizedV_len was (max was.length (a + c.length))
 unfold overV
 generalize sizedV was (max was.length (a + c.length)) = S at hs hl
 simp only [List.getD_eq_getElem?_getD, List.getElem?_append, List.getElem?_take, List.getElem?_drop, List.length_take] at hs ⊢
 by_cases h1 : i < a
 ·rw [if_pos (show i < min a S.length by omega), if_pos h1, if_neg (show ¬ (a ≤ i ∧ i < a + c.length) by omega), hs]
 ·rw [if_neg (by omega)]
  by_cases h2 : i < a + c.length
  ·rw [if_pos (by omega), if_pos (by omega)]
   congr 2
   omega
  ·rw [if_neg (by omega), if_neg (by omega), ← hs]
   congr 2
   omega

theorem trunc_eq {R : Type} (N : Nat) (hN : 60 < N) (fd j : Nat) (hfd : fd < 4) (f : List Int) (hj : f.getD fd 0 = ((j + 1 : Nat) : Int)) (nx : Int) (m : TM) (d : DM) (l : OL) (hl : j < l.length) (hl2 : l.length ≤ 1000000)
  (hb : (dgetV d (l.getD j (0, 0)).1).length ≤ 60000) (n : Nat) (hn : n ≤ 60000) (K : Int → List Int → Int → TM → DM → OL → Option R) :
  Z27 N (fd : Int) (n : Int) f nx m d l K =
   if 8 < n then K 65302 f nx m d l
   else K 0 f nx m (mput (.int .i64) (.isl (.int .u8)) d (l.getD j (0, 0)).1 (sizedV (dgetV d (l.getD j (0, 0)).1) n)) l := by
 unfold Z27 Z27_T
 rw [file_open N fd j hfd f hj nx m d l hl hl2]
 by_cases h : 8 < n
 ·rw [if_pos h, br_of (decide_eq_true (by omega))]
 ·rw [if_neg h, br_not (decide_eq_false (by omega))]
  have hjn : Int.toNat (j : Int) = j := by omega
  have hb0 : Option.getD (mfind (.int .i64) (.isl (.int .u8)) d (l.getD j (0, 0)).1) (Sh.zero (.isl (.int .u8))) = dgetV d (l.getD j (0, 0)).1 := rfl
  simp only [hjn, hb0, w64 (x := (n : Int)) (by omega)]
  rw [br_of (decide_eq_true hl), br_of (decide_eq_true hl), sized_eq N _ hb n (by omega) (by omega)]
  simp only [hl, decide_true, br_true]
  rw [br_of (fits_of (by omega)), sub_all]

theorem freeV_zero (f : List Int) (h : 0 ≤ freeV f) : f.getD (freeV f).toNat 0 = 0 := by
 unfold freeV at h ⊢
 split
 ·rename_i e; exact e.symm
 split
 ·rename_i e; exact e.symm
 split
 ·rename_i e; exact e.symm
 split
 ·rename_i e; exact e.symm
 rename_i e1 e2 e3 e4
 rw [if_neg e1, if_neg e2, if_neg e3, if_neg e4] at h
 omega

theorem twin_eq {R : Type} (N : Nat) (hN : 8 < N) (fd j : Nat) (hfd : fd < 4) (f : List Int) (hj : f.getD fd 0 = ((j + 1 : Nat) : Int)) (nx : Int) (m : TM) (d : DM) (l : OL) (hl : j < l.length) (hl2 : l.length ≤ 1000000)
  (K : Int → List Int → Int → TM → DM → OL → Option R) :
  Z28 N (fd : Int) f nx m d l K = if 0 ≤ freeV f then K (freeV f) (f.set (freeV f).toNat ((j + 1 : Nat) : Int)) nx m d l else K 65304 f nx m d l := by
 unfold Z28 Z28_T
 rw [file_open N fd j hfd f hj nx m d l hl hl2, free_eq N hN]
 have hf := freeV_lt f
 by_cases h : 0 ≤ freeV f
 ·have hn : Int.toNat (fd : Int) = fd := by omega
  simp only [hn, hj]
  rw [if_pos h, br_not (by rw [decide_eq_true h]; rfl), br_of (inB_of (by omega)), br_of (decide_eq_true hfd), br_of (inB_of (by omega)), br_of (decide_eq_true (by omega)), wu16 (by omega)]
 ·rw [if_neg h, br_of (by rw [decide_eq_false h]; rfl)]

/-! ### a descriptor that speaks of nothing -/
theorem file_no {R : Type} (N : Nat) (fd : Nat) (hfd : fd ≤ 65535) (f : List Int) (h : fd < 4 → f.getD fd 0 = 0) (nx : Int) (m : TM) (d : DM) (l : OL)
  (k0 : List Int → Int → TM → DM → OL → Option R) (k1 : Int → List Int → Int → TM → DM → OL → Option R) :
  Z33 N (fd : Int) f nx m d l k0 k1 = k0 f nx m d l := by
 by_cases h4 : fd < 4
 ·exact file_none N fd h4 f (h h4) nx m d l k0 k1
 ·unfold Z33 Z33_T
  rw [br_not (by rw [decide_eq_true (by omega)]; rfl)]

theorem close_ok {R : Type} (N : Nat) (fd j : Nat) (hfd : fd < 4) (f : List Int) (hj : f.getD fd 0 = ((j + 1 : Nat) : Int)) (nx : Int) (m : TM) (d : DM) (l : OL) (hl : j < l.length) (hl2 : l.length ≤ 1000000)
  (K : Int → List Int → Int → TM → DM → OL → Option R) :
  Z18 N (fd : Int) f nx m d l K = K 0 (f.set fd 0) nx m d l := by
 unfold Z18 Z18_T
 rw [file_open N fd j hfd f hj nx m d l hl hl2]
 have hn : Int.toNat (fd : Int) = fd := by omega
 simp only [hn]
 rw [br_of (inB_of (by omega)), br_of (decide_eq_true hfd)]
section
variable {R : Type} (N : Nat) (fd : Nat) (hfd : fd ≤ 65535) (f : List Int) (h : fd < 4 → f.getD fd 0 = 0) (nx : Int) (m : TM) (d : DM) (l : OL) (n : Int) (b : List Int) (K : Int → List Int → Int → TM → DM → OL → Option R) (KB : Int → List Int → Int → TM → DM → OL → List Int → Option R)
include hfd h
theorem close_no : Z18 N (fd : Int) f nx m d l K = K 65289 f nx m d l := by
 unfold Z18 Z18_T
 rw [file_no N fd hfd f h]
theorem read_no : Z22 N (fd : Int) n f nx m d l KB = KB 65289 f nx m d l [] := by
 unfold Z22 Z22_T
 rw [file_no N fd hfd f h]
theorem seek_no : Z25 N (fd : Int) n f nx m d l K = K 65289 f nx m d l := by
 unfold Z25 Z25_T
 rw [file_no N fd hfd f h]
theorem size_no : Z26 N (fd : Int) f nx m d l K = K 65289 f nx m d l := by
 unfold Z26 Z26_T
 rw [file_no N fd hfd f h]
theorem trunc_no : Z27 N (fd : Int) n f nx m d l K = K 65289 f nx m d l := by
 unfold Z27 Z27_T
 rw [file_no N fd hfd f h]
theorem twin_no : Z28 N (fd : Int) f nx m d l K = K 65289 f nx m d l := by
 unfold Z28 Z28_T
 rw [file_no N fd hfd f h]
end
theorem seek_far {R : Type} (N : Nat) (fd j : Nat) (hfd : fd < 4) (f : List Int) (hj : f.getD fd 0 = ((j + 1 : Nat) : Int)) (nx : Int) (m : TM) (d : DM) (l : OL) (hl : j < l.length) (hl2 : l.length ≤ 1000000)
  (n : Int) (hn : 255 < n) (K : Int → List Int → Int → TM → DM → OL → Option R) :
  Z25 N (fd : Int) n f nx m d l K = K 65302 f nx m d l := by
 unfold Z25 Z25_T
 rw [file_open N fd j hfd f hj nx m d l hl hl2]
 rw [br_of (decide_eq_true hn)]

/-! ### paths -/
theorem app16 {α : Type} {l : List α} (h : l.length ≤ 1000000) : (((fits (0 : Nat) (List.length l) l) && (decide ((((List.length l) + (1 : Nat)) * (16 : Nat)) ≤ (70368744177664 : Nat)))) && true) = true := by
 rw [fits_of (by omega), decide_eq_true (by omega)]; rfl

theorem open_eq {R : Type} (N : Nat) (hN : 8 < N) (p : List UInt8) (f : List Int) (nx : Int) (hx : 0 ≤ nx ∧ nx < 4611686018427387904) (m : TM) (d : DM) (l : OL) (hl : l.length ≤ 1000000) (K : Int → List Int → Int → TM → DM → OL → Option R) :
  Z21 N (bs p) f nx m d l K =
   if (findV p m).2.2 = 0 then (if (findV p m).2.1 = true then K 65301 f nx m d l else if freeV f < 0 then K 65304 f nx m d l else K (freeV f) (f.set (freeV f).toNat ((l.length + 1 : Nat) : Int)) nx m d (l ++ [((findV p m).1, 0)]))
   else if (findV p m).2.2 = 65300 then K 65300 f nx m d l else if makeC p false m = 65282 then K 65282 f nx m d l else if freeV f < 0 then K 65304 f nx m d l
   else if makeC p false m = 0 then K (freeV f) (f.set (freeV f).toNat ((l.length + 1 : Nat) : Int)) (nx + 1) (tput m (keyL p) (nx, false)) d (l ++ [(nx, 0)]) else K (makeC p false m) f nx m d l := by
 unfold Z21 Z21_T
 have hfv := freeV_lt f
 rw [find_eq N hN, free_eq N hN]
 simp only [app16 hl, br_true, sub_all, may_eq N hN p _ _ hx, make_eq N hN p false nx hx]
 by_cases hfr : freeV f < 0
 ·have e1 : decide (0 ≤ freeV f) = false := decide_eq_false (by omega)
  simp only [e1, Bool.not_false, br_true, br_dec, br_ndec, br_neg, if_pos hfr]
  by_cases h0 : (findV p m).2.2 = 0
  ·cases hd : (findV p m).2.1 <;> simp [h0, hd]
  ·by_cases h3 : (findV p m).2.2 = 65300
   ·simp [h0, h3]
   ·simp only [h0, h3, if_false]
 ·have e1 : decide (0 ≤ freeV f) = true := decide_eq_true (by omega)
  have e2 : inB (freeV f) 4 = true := inB_of (by omega)
  have e3 : decide ((freeV f).toNat < 4) = true := decide_eq_true (by omega)
  have e4 : IntKind.wrap .u16 (freeV f) = freeV f := wu16 (by omega)
  simp only [e1, e2, e3, e4, Bool.not_true, br_true, br_false, br_dec, br_ndec, br_neg, if_neg hfr]
  by_cases h0 : (findV p m).2.2 = 0
  ·cases hd : (findV p m).2.1 <;> simp [h0, hd]
  ·by_cases h3 : (findV p m).2.2 = 65300
   ·simp [h0, h3]
   ·simp only [h0, h3, if_false]
    by_cases hm : makeC p false m = 65282
    ·simp [hm]
    ·by_cases hz : makeC p false m = 0
     ·simp [hz]
     ·simp [hm, hz]

theorem unlink_eq {R : Type} (N : Nat) (hN : 8 < N) (p : List UInt8) (f : List Int) (nx : Int) (m : TM) (d : DM) (l : OL) (K : Int → List Int → Int → TM → DM → OL → Option R) :
  Z29 N (bs p) f nx m d l K = if dropC p false m = 0 then K 0 f nx (tdel m (keyL p)) d l else K (dropC p false m) f nx m d l := by
 unfold Z29 Z29_T
 rw [drop_eq N hN]
theorem rmdir_eq {R : Type} (N : Nat) (hN : 8 < N) (p : List UInt8) (f : List Int) (nx : Int) (m : TM) (d : DM) (l : OL) (K : Int → List Int → Int → TM → DM → OL → Option R) :
  Z24 N (bs p) f nx m d l K = if dropC p true m = 0 then K 0 f nx (tdel m (keyL p)) d l else K (dropC p true m) f nx m d l := by
 unfold Z24 Z24_T
 rw [drop_eq N hN]
theorem rename_eq {R : Type} (N : Nat) (hN : 8 < N) (p q : List UInt8) (f : List Int) (nx : Int) (m : TM) (d : DM) (l : OL) (K : Int → List Int → Int → TM → DM → OL → Option R) :
  Z23 N (bs p) (bs q) f nx m d l K = K (moveC p q m) f nx (movedC p q m) d l := by
 unfold Z23 Z23_T
 rw [move_eq N hN]
theorem mkdir_eq {R : Type} (N : Nat) (hN : 8 < N) (p : List UInt8) (f : List Int) (nx : Int) (hx : 0 ≤ nx ∧ nx < 4611686018427387904) (m : TM) (d : DM) (l : OL) (K : Int → List Int → Int → TM → DM → OL → Option R) :
  Z20 N (bs p) f nx m d l K = if makeC p true m = 0 then K 0 f (nx + 1) (tput m (keyL p) (nx, true)) d l else K (makeC p true m) f nx m d l := by
 unfold Z20 Z20_T
 rw [make_eq N hN p true nx hx]
theorem list_eq {R : Type} (N : Nat) (hN : 8 < N) (p : List UInt8) (f : List Int) (nx : Int) (m : TM) (d : DM) (l : OL) (K : Int → List Int → Int → TM → DM → OL → Option R) :
  Z19 N (bs p) f nx m d l K = K (if (getV p m).2.2 ≠ 0 then (getV p m).2.2 else if (getV p m).2.1 = false then 65300 else IntKind.wrap .u16 (mcount (bs p) m)) f nx m d l := by
 unfold Z19 Z19_T
 rw [Many_eq N hN]

end Go.Proofs.YtbclodhbcplhmaaGreat
