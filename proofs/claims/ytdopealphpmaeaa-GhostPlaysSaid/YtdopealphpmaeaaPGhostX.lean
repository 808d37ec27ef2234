/-
 the reference's files (chapters 12, 14), with what was opened.
-/
import Derived.Test.YtdopealphpmaeaaPGhostG
set_option linter.unusedSimpArgs false
set_option linter.unusedVariables false
set_option linter.unusedSectionVars false
namespace Go.Proofs.Ytdopealphpmaeaa
open Go.Gx

/-- the reference's descriptors, beside the program's -/
def fdR (f : List Int) : List Int := f.map fun x => x - 1
/-- what was opened, by number -/
def opn (n : Nat) : List Int := (List.range n).map fun (i : Nat) => (i : Int)
theorem opn_len (n : Nat) : (opn n).length = n := by simp [opn]
theorem opn_get {n j : Nat} (h : j < n) (z : Int) : (opn n).getD j z = (j : Int) := by
 unfold opn
 rw [List.getD_eq_getElem?_getD, List.getElem?_map, List.getElem?_range h]; rfl
theorem opn_app (n : Nat) : opn n ++ [(n : Int)] = opn (n + 1) := by
 unfold opn
 rw [List.range_succ, List.map_append]; rfl
theorem fdR_get {f : List Int} {k : Nat} (h : k < f.length) : (fdR f).getD k 0 = f.getD k 0 - 1 := by
 unfold fdR
 rw [List.getD_eq_getElem?_getD, List.getD_eq_getElem?_getD, List.getElem?_map, List.getElem?_eq_getElem h]; rfl
theorem fdR_set (f : List Int) (k : Nat) (x : Int) : (fdR f).set k (x - 1) = fdR (f.set k x) := by
 unfold fdR
 rw [List.map_set]

theorem app8 {α : Type} {l : List α} (h : l.length ≤ 1000000) : (((fits (0 : Nat) (List.length l) l) && (decide ((((List.length l) + (1 : Nat)) * (8 : Nat)) ≤ (70368744177664 : Nat)))) && true) = true := by
 rw [fits_of (by omega), decide_eq_true (by omega)]; rfl
theorem app24 {α : Type} {l : List α} (h : l.length ≤ 1000000) : (((fits (0 : Nat) (List.length l) l) && (decide ((((List.length l) + (1 : Nat)) * (24 : Nat)) ≤ (70368744177664 : Nat)))) && true) = true := by
 rw [fits_of (by omega), decide_eq_true (by omega)]; rfl

/-! ### the least free descriptor -/
theorem rfree_step {R : Type} (N : Nat) (k0 : Int → List Int → Int → List EN → List (List Int) → List Int → OL → Option R) (k1 : List Int → Int → List EN → List (List Int) → List Int → OL → Option R)
  (n i : Nat) (hi : i < 4) (f : List Int) (hf : f.length = 4) (h0 : 0 ≤ f.getD i 0) (nx : Int) (L : List EN) (D : List (List Int)) (o : List Int) (l : OL) :
  Z79_l0 N k0 k1 (n + 1) (i : Int) (fdR f) nx L D o l =
   if 0 = f.getD i 0 then k0 (i : Int) (fdR f) nx L D o l else Z79_l0 N k0 k1 n ((i + 1 : Nat) : Int) (fdR f) nx L D o l := by
 simp only [Z79_l0, Z79_l0_T0]
 have e : decide ((fdR f).getD (Int.toNat (i : Int)) 0 < 0) = decide (0 = f.getD i 0) := by
  rw [Int.toNat_natCast, decide_eq_decide, fdR_get (by omega)]; omega
 rw [br_of (decide_eq_true (by omega)), br_of (inB_of (by omega)), br_of (decide_eq_true (show Int.toNat (i : Int) < 4 by omega)), e, br_dec, w64_succ (by omega)]

theorem rfree_eq {R : Type} (N : Nat) (hN : 8 < N) (f : List Int) (hf : f.length = 4) (h0 : ∀ i, i < 4 → 0 ≤ f.getD i 0) (nx : Int) (L : List EN) (D : List (List Int)) (o : List Int) (l : OL) (k : Int → List Int → Int → List EN → List (List Int) → List Int → OL → Option R) :
  Z79 N (fdR f) nx L D o l k = k (freeV f) (fdR f) nx L D o l := by
 obtain ⟨n, rfl⟩ : ∃ n, N = n + 1 + 1 + 1 + 1 + 1 := ⟨N - 5, by omega⟩
 unfold Z79 Z79_T
 have s0 := fun k0 k1 => rfree_step (R := R) (n + 1 + 1 + 1 + 1 + 1) k0 k1 (n + 1 + 1 + 1 + 1) 0 (by omega) f hf (h0 0 (by omega)) nx L D o l
 have s1 := fun k0 k1 => rfree_step (R := R) (n + 1 + 1 + 1 + 1 + 1) k0 k1 (n + 1 + 1 + 1) 1 (by omega) f hf (h0 1 (by omega)) nx L D o l
 have s2 := fun k0 k1 => rfree_step (R := R) (n + 1 + 1 + 1 + 1 + 1) k0 k1 (n + 1 + 1) 2 (by omega) f hf (h0 2 (by omega)) nx L D o l
 have s3 := fun k0 k1 => rfree_step (R := R) (n + 1 + 1 + 1 + 1 + 1) k0 k1 (n + 1) 3 (by omega) f hf (h0 3 (by omega)) nx L D o l
 refine (s0 _ _).trans ?_
 unfold freeV
 by_cases c0 : 0 = f.getD 0 0
 ·rw [if_pos c0, if_pos c0]; rfl
 rw [if_neg c0, if_neg c0]
 refine (s1 _ _).trans ?_
 by_cases c1 : 0 = f.getD 1 0
 ·rw [if_pos c1, if_pos c1]; rfl
 rw [if_neg c1, if_neg c1]
 refine (s2 _ _).trans ?_
 by_cases c2 : 0 = f.getD 2 0
 ·rw [if_pos c2, if_pos c2]; rfl
 rw [if_neg c2, if_neg c2]
 refine (s3 _ _).trans ?_
 by_cases c3 : 0 = f.getD 3 0
 ·rw [if_pos c3, if_pos c3]; rfl
 rw [if_neg c3, if_neg c3]
 rfl

/-! ### the open file of a descriptor -/
section
variable {R : Type} (N : Nat) (fd : Nat) (hfd : fd ≤ 65535) (f : List Int) (hf : f.length = 4) (h : fd < 4 → f.getD fd 0 = 0) (nx : Int) (L : List EN) (D : List (List Int)) (o : List Int) (l : OL)
include hfd hf h
theorem of_no (k0 : List Int → Int → List EN → List (List Int) → List Int → OL → Option R) (k1 : Int → List Int → Int → List EN → List (List Int) → List Int → OL → Option R) :
  Z83 N (fd : Int) (fdR f) nx L D o l k0 k1 = k0 (fdR f) nx L D o l := by
 unfold Z83 Z83_T
 rw [w64 (by omega)]
 by_cases h4 : fd < 4
 ·rw [br_of (by rw [decide_eq_false (by omega)]; rfl), br_of (inB_of (by omega)), Int.toNat_natCast, br_of (decide_eq_true h4), fdR_get (by omega), h h4, br_of (by decide)]
 ·rw [br_not (by rw [decide_eq_true (by omega)]; rfl)]
variable (n : Int) (b : List Int) (K : Int → List Int → Int → List EN → List (List Int) → List Int → OL → Option R) (KB : Int → List Int → Int → List EN → List (List Int) → List Int → OL → List Int → Option R)
theorem rclose_no : Z51 N (fd : Int) (fdR f) nx L D o l K = K 65289 (fdR f) nx L D o l := by
 unfold Z51 Z51_T
 rw [of_no N fd hfd f hf h]
theorem rread_no : Z60 N (fd : Int) n (fdR f) nx L D o l KB = KB 65289 (fdR f) nx L D o l [] := by
 unfold Z60 Z60_T
 rw [of_no N fd hfd f hf h]
theorem rwrite_no : Z74 N (fd : Int) b (fdR f) nx L D o l K = K 65289 (fdR f) nx L D o l := by
 unfold Z74 Z74_T
 rw [of_no N fd hfd f hf h]
theorem rseek_no : Z63 N (fd : Int) n (fdR f) nx L D o l K = K 65289 (fdR f) nx L D o l := by
 unfold Z63 Z63_T
 rw [of_no N fd hfd f hf h]
theorem rsize_no : Z66 N (fd : Int) (fdR f) nx L D o l K = K 65289 (fdR f) nx L D o l := by
 unfold Z66 Z66_T
 rw [of_no N fd hfd f hf h]
theorem rtrunc_no : Z69 N (fd : Int) n (fdR f) nx L D o l K = K 65289 (fdR f) nx L D o l := by
 unfold Z69 Z69_T
 rw [of_no N fd hfd f hf h]
theorem rtwin_no : Z72 N (fd : Int) (fdR f) nx L D o l K = K 65289 (fdR f) nx L D o l := by
 unfold Z72 Z72_T
 rw [of_no N fd hfd f hf h]
end

section
variable {R : Type} (N : Nat) (hN : 500 < N) (fd j : Nat) (hfd : fd < 4) (f : List Int) (hf : f.length = 4) (h0 : ∀ i, i < 4 → 0 ≤ f.getD i 0) (hj : f.getD fd 0 = ((j + 1 : Nat) : Int)) (nx : Int) (L : List EN) (D : List (List Int)) (l : OL) (hl : j < l.length) (hl2 : l.length ≤ 1000000)
 (K : Int → List Int → Int → List EN → List (List Int) → List Int → OL → Option R) (KB : Int → List Int → Int → List EN → List (List Int) → List Int → OL → List Int → Option R)
include hfd hf hj hl hl2
theorem of_ok (k0 : List Int → Int → List EN → List (List Int) → List Int → OL → Option R) (k1 : Int → List Int → Int → List EN → List (List Int) → List Int → OL → Option R) :
  Z83 N (fd : Int) (fdR f) nx L D (opn l.length) l k0 k1 = k1 (j : Int) (fdR f) nx L D (opn l.length) l := by
 unfold Z83 Z83_T
 have e : ((j + 1 : Nat) : Int) - 1 = (j : Int) := by omega
 rw [w64 (by omega), br_of (by rw [decide_eq_false (by omega)]; rfl), br_of (inB_of (by omega)), Int.toNat_natCast, br_of (decide_eq_true hfd), fdR_get (by omega), hj, e, opn_len, Int.toNat_natCast, opn_get hl]
 rw [br_not (decide_eq_false (by omega)), br_of (inB_of (by omega)), br_of (decide_eq_true hfd), br_of (inB_of (by omega)), br_of (decide_eq_true hl)]

theorem rclose_ok : Z51 N (fd : Int) (fdR f) nx L D (opn l.length) l K = K 0 (fdR (f.set fd 0)) nx L D (opn l.length) l := by
 unfold Z51 Z51_T
 rw [of_ok N fd j hfd f hf hj nx L D l hl hl2, br_not (decide_eq_false (by omega)), br_of (inB_of (by omega)), Int.toNat_natCast, br_of (decide_eq_true hfd)]
 have := fdR_set f fd 0
 rw [← this]
 rfl

theorem rseek_ok (n : Nat) (hn : n ≤ 255) : Z63 N (fd : Int) (n : Int) (fdR f) nx L D (opn l.length) l K = K (n : Int) (fdR f) nx L D (opn l.length) (l.set j ((l.getD j (0, 0)).1, (n : Int))) := by
 unfold Z63 Z63_T
 rw [of_ok N fd j hfd f hf hj nx L D l hl hl2, br_not (decide_eq_false (by omega)), br_not (decide_eq_false (by omega))]
 simp only [Int.toNat_natCast, w64 (x := (n : Int)) (by omega)]
 rw [br_of (decide_eq_true (by omega)), br_of (decide_eq_true (by omega))]

theorem rseek_far (n : Int) (hn : 255 < n) : Z63 N (fd : Int) n (fdR f) nx L D (opn l.length) l K = K 65302 (fdR f) nx L D (opn l.length) l := by
 unfold Z63 Z63_T
 rw [of_ok N fd j hfd f hf hj nx L D l hl hl2, br_not (decide_eq_false (by omega)), br_of (decide_eq_true hn)]

include h0 hN in
theorem rtwin_ok : Z72 N (fd : Int) (fdR f) nx L D (opn l.length) l K = if 0 ≤ freeV f then K (freeV f) (fdR (f.set (freeV f).toNat ((j + 1 : Nat) : Int))) nx L D (opn l.length) l else K 65304 (fdR f) nx L D (opn l.length) l := by
 unfold Z72 Z72_T
 have hv := freeV_lt f
 rw [of_ok N fd j hfd f hf hj nx L D l hl hl2, br_not (decide_eq_false (by omega)), rfree_eq N (by omega) f hf h0, br_dec]
 by_cases hc : 0 ≤ freeV f
 ·rw [if_neg (by omega), if_pos hc, br_of (inB_of (by omega)), Int.toNat_natCast, br_of (decide_eq_true hfd), br_of (inB_of (by omega)), br_of (decide_eq_true (by omega)), wu16 (by omega), fdR_get (by omega), hj, fdR_set]
 ·rw [if_pos (by omega), if_neg hc]

variable (id : Nat) (a : Nat) (ha : a ≤ 255) (hat : l.getD j (0, 0) = ((id : Int), (a : Int))) (hid : id < D.length) (hb : (D.getD id []).length ≤ 400)
include hat hid

theorem rsize_ok (hb : (D.getD id []).length ≤ 400) : Z66 N (fd : Int) (fdR f) nx L D (opn l.length) l K = K ((D.getD id []).length : Int) (fdR f) nx L D (opn l.length) l := by
 unfold Z66 Z66_T
 have hz : (Sh.zero (.isl (.int .u8))) = ([] : List Int) := rfl
 rw [of_ok N fd j hfd f hf hj nx L D l hl hl2, br_not (decide_eq_false (by omega))]
 simp only [Int.toNat_natCast, hat, hz]
 rw [br_of (decide_eq_true (by omega)), br_of (decide_eq_true (by omega)), br_of (inB_of (by omega)), br_of (decide_eq_true hid), wu16 (by omega)]

include ha hb
theorem rread_ok (n : Nat) (hn : n ≤ 65535) : Z60 N (fd : Int) (n : Int) (fdR f) nx L D (opn l.length) l KB =
  KB ((((D.getD id []).drop a).take n).length : Int) (fdR f) nx L D (opn l.length) (l.set j ((id : Int), ((a + (((D.getD id []).drop a).take n).length : Nat) : Int))) (((D.getD id []).drop a).take n) := by
 unfold Z60 Z60_T
 have hz : (Sh.zero (.isl (.int .u8))) = ([] : List Int) := rfl
 rw [of_ok N fd j hfd f hf hj nx L D l hl hl2, br_not (decide_eq_false (by omega))]
 simp only [Int.toNat_natCast, hat, hz]
 generalize hB : D.getD id [] = B at hb
 have e0 : ((0 : Int) ≤ (j : Int)) = True := eq_true (by omega)
 have emx : (if (0 : Int) < IntKind.wrap .i64 ((B.length : Int) - (a : Int)) then IntKind.wrap .i64 ((B.length : Int) - (a : Int)) else 0) = ((B.length - a : Nat) : Int) := by
  rw [w64 (by omega)]; split <;> omega
 have hlen : ((B.drop a).take n).length = min n (B.length - a) := by simp
 have ekk : (if ((B.length - a : Nat) : Int) < (n : Int) then ((B.length - a : Nat) : Int) else (n : Int)) = ((((B.drop a).take n).length : Nat) : Int) := by
  rw [hlen]; split <;> omega
 simp only [w64 (x := (n : Int)) (by omega), emx, ekk, e0, decide_true, br_true]
 have hle : ((B.drop a).take n).length ≤ 400 := by omega
 have hsub : ∀ k, k = ((B.drop a).take n).length → sub B a (a + k - a) = (B.drop a).take n := fun k hk => by
  rw [sub_nat, Nat.add_sub_cancel_left, hk, hlen]
  by_cases h : n ≤ B.length - a
  ·rw [Nat.min_eq_left h]
  ·rw [Nat.min_eq_right (by omega), List.take_of_length_le (by simp), List.take_of_length_le (by simp; omega)]
 have hset : ((B.drop a).take n).length = 0 → l.set j ((id : Int), ((a + ((B.drop a).take n).length : Nat) : Int)) = l := fun h => by
  rw [h, Nat.add_zero, ← hat, List.getD_eq_getElem?_getD, List.getElem?_eq_getElem hl]
  exact List.set_getElem_self hl
 rw [br_of (inB_of (by omega)), br_of (decide_eq_true hid), br_dec]
 by_cases hz0 : ((B.drop a).take n).length = 0
 ·rw [if_pos (by omega), hset hz0, List.length_eq_zero_iff.1 hz0]
  rfl
 ·rw [if_neg (by omega)]
  have e1 : IntKind.wrap .i64 ((a : Int) + (((B.drop a).take n).length : Int)) = ((a + ((B.drop a).take n).length : Nat) : Int) := by rw [w64 (by omega)]; omega
  simp only [e1, Int.toNat_natCast, hsub _ rfl]
  rw [br_of (leB_of (by omega)), br_of (leB_of (by omega)), br_of (by rw [decide_eq_true (by omega)]; rfl), wu16 (by omega)]

omit ha in
theorem rtrunc_ok (n : Nat) (hn : n ≤ 65535) : Z69 N (fd : Int) (n : Int) (fdR f) nx L D (opn l.length) l K =
  if 8 < n then K 65302 (fdR f) nx L D (opn l.length) l else K 0 (fdR f) nx L (D.set id (sizedV (D.getD id []) n)) (opn l.length) l := by
 unfold Z69 Z69_T
 have hz : (Sh.zero (.isl (.int .u8))) = ([] : List Int) := rfl
 rw [of_ok N fd j hfd f hf hj nx L D l hl hl2, br_not (decide_eq_false (by omega)), br_dec]
 by_cases h : 8 < n
 ·rw [if_pos (by omega), if_pos h]
 ·rw [if_neg (by omega), if_neg h]
  have e0 : ((0 : Int) ≤ (j : Int)) = True := eq_true (by omega)
  have p46 : (2 : Int) ^ (46 : Nat) = 70368744177664 := by decide
  simp only [Int.toNat_natCast, hat, hz, e0, decide_true, br_true, p46]
  generalize hB : D.getD id [] = B at hb
  have hin : inB (id : Int) D.length = true := inB_of (by omega)
  have hid' : decide (id < D.length) = true := decide_eq_true hid
  have hs : List.take 0 (List.replicate n (0 : Int)) ++ (List.take (min B.length n) B ++ List.drop (0 + min B.length n) (List.replicate n 0)) = sizedV B n := by
   unfold sizedV
   rw [List.take_zero, List.nil_append, Nat.zero_add, List.drop_replicate]
   by_cases hc : n ≤ B.length
   ·rw [Nat.min_eq_right hc, Nat.sub_self, Nat.sub_eq_zero_of_le hc]
   ·rw [Nat.min_eq_left (by omega), List.take_of_length_le (Nat.le_refl _), List.take_of_length_le (l := B) (by omega)]
  have hsl := sizedV_len B n
  have f1 : fits 0 n (List.replicate n (0 : Int)) = true := fits_of (by simp)
  have f2 : fits 0 n (sizedV B n) = true := fits_of (by omega)
  have hsb : sub (sizedV B n) 0 n = sizedV B n := by
   rw [sub_nat, List.drop_zero]
   exact List.take_of_length_le (by omega)
  simp only [hs, hin, hid', f1, f2, hsb, br_true]
  rw [br_of (by rw [decide_eq_true (by omega), decide_eq_true (by omega), decide_eq_true (by omega)]; rfl)]

theorem rwrite_l0 (x0 : List Int) (y1 : Int) (x3 : List Int) (c : Nat) (hc : c ≤ 400)
  (k0 : List Int → Int → Int → List Int → Int → List EN → List (List Int) → List Int → OL → List Int → Option R) :
  ∀ (e n : Nat) (b : List Int), (a + c) - b.length = e → e < n → b.length ≤ 1000 → Z74_l0 N k0 n x0 (j : Int) (c : Int) x3 nx L D (opn l.length) l b = k0 x0 (j : Int) (c : Int) x3 nx L D (opn l.length) l (b ++ List.replicate ((a + c) - b.length) 0) := by
 intro e
 have e0 : ((0 : Int) ≤ (j : Int)) = True := eq_true (by omega)
 have e1 : IntKind.wrap .i64 ((a : Int) + (c : Int)) = ((a + c : Nat) : Int) := by rw [w64 (by omega)]; omega
 induction e with
 | zero =>
  intro n b he hn hbl
  obtain ⟨n, rfl⟩ : ∃ n', n = n' + 1 := ⟨n - 1, by omega⟩
  simp only [Z74_l0, Z74_l0_T0, Int.toNat_natCast, hat, e0, e1, decide_true, br_true]
  rw [br_not (decide_eq_false (by omega)), he]
  simp
 | succ e ih =>
  intro n b he hn hbl
  obtain ⟨n, rfl⟩ : ∃ n', n = n' + 1 := ⟨n - 1, by omega⟩
  have hfit : (((fits 0 b.length b) && (decide (((b.length + 1) * 1) ≤ 70368744177664))) && true) = true := by
   rw [fits_of (by omega), decide_eq_true (by omega)]; rfl
  simp only [Z74_l0, Z74_l0_T0, Int.toNat_natCast, hat, e0, e1, decide_true, br_true]
  rw [br_of (decide_eq_true (by omega)), br_of hfit, sub_all]
  show Z74_l0 N k0 n x0 (j : Int) (c : Int) x3 nx L D (opn l.length) l (b ++ [0]) = _
  rw [ih n (b ++ [0]) (by simp; omega) (by omega) (by simp; omega)]
  have : (a + c) - b.length = ((a + c) - (b ++ [0]).length) + 1 := by simp; omega
  rw [this, List.replicate_succ, List.append_assoc]
  rfl

include hN in
theorem rwrite_ok (b : List Int) (hbl : b.length ≤ 400) : Z74 N (fd : Int) b (fdR f) nx L D (opn l.length) l K =
  if b.length = 0 then K 0 (fdR f) nx L D (opn l.length) l else if 8 ≤ a then K 65308 (fdR f) nx L D (opn l.length) l
  else K ((b.take (8 - a)).length : Int) (fdR f) nx L (D.set id (overV (D.getD id []) a (b.take (8 - a)))) (opn l.length) (l.set j ((id : Int), ((a + (b.take (8 - a)).length : Nat) : Int))) := by
 unfold Z74 Z74_T
 have hz : (Sh.zero (.isl (.int .u8))) = ([] : List Int) := rfl
 rw [of_ok N fd j hfd f hf hj nx L D l hl hl2, br_not (decide_eq_false (by omega)), br_dec]
 by_cases h0 : b.length = 0
 ·rw [if_pos (by omega), if_pos h0]
 rw [if_neg (by omega), if_neg h0]
 have e0 : ((0 : Int) ≤ (j : Int)) = True := eq_true (by omega)
 simp only [Int.toNat_natCast, hat, hz, e0, decide_true, br_true]
 rw [br_dec]
 by_cases h8 : 8 ≤ a
 ·rw [if_pos (by omega), if_pos h8]
 rw [if_neg (by omega), if_neg h8]
 generalize hB : D.getD id [] = B at hb
 have hcl : (b.take (8 - a)).length = min (8 - a) b.length := List.length_take
 have e1 : (if IntKind.wrap .i64 (8 - (a : Int)) < (b.length : Int) then IntKind.wrap .i64 (8 - (a : Int)) else (b.length : Int)) = (((b.take (8 - a)).length : Nat) : Int) := by
  rw [hcl, w64 (by omega)]
  split <;> omega
 rw [br_of (inB_of (by omega)), br_of (decide_eq_true hid), br_of (by rw [decide_eq_true (by omega)]; rfl), e1]
 refine (rwrite_l0 N fd j hfd f hf hj nx L D l hl hl2 id a ha hat hid (by rw [hB]; exact hb) b 0 (fdR f) (b.take (8 - a)).length (by omega) _ _ N B rfl (by omega) (by omega)).trans ?_
 have e5 : sub b 0 ((b.take (8 - a)).length - 0) = b.take (8 - a) := by
  rw [sub_nat, List.drop_zero, Nat.sub_zero, hcl]
  by_cases h : 8 - a ≤ b.length
  ·rw [Nat.min_eq_left h]
  ·rw [Nat.min_eq_right (by omega), List.take_of_length_le (Nat.le_refl _), List.take_of_length_le (by omega)]
 have hleb : leB ((b.take (8 - a)).length : Int) b.length = true := leB_of (by omega)
 simp only [e0, decide_true, br_true, Int.toNat_natCast, hat, e5, hleb]
 have hcl8 : (b.take (8 - a)).length ≤ 8 := by omega
 have hca : a + (b.take (8 - a)).length ≤ 8 := by omega
 generalize hC : b.take (8 - a) = C at hcl8 hca
 have hpad : B ++ List.replicate ((a + C.length) - B.length) 0 = sizedV B (max B.length (a + C.length)) := by
  unfold sizedV
  rw [List.take_of_length_le (by omega)]
  congr 2
  omega
 rw [hpad]
 have hsz := sizedV_len B (max B.length (a + C.length))
 generalize hS : sizedV B (max B.length (a + C.length)) = S at hsz
 have hmin : min C.length (S.length - a) = C.length := by omega
 have hov : S.take a ++ (C ++ S.drop (a + C.length)) = overV B a C := by unfold overV; rw [hS]
 have hol : (overV B a C).length = S.length := by rw [overV_len, hsz]
 have e7 : IntKind.wrap .i64 ((a : Int) + (C.length : Int)) = ((a + C.length : Nat) : Int) := by rw [w64 (by omega)]; omega
 have hsub : sub (overV B a C) 0 S.length = overV B a C := by rw [← hol, sub_all]
 simp only [hmin, List.take_length, hov, e7, hsub]
 rw [br_of (leB_of (by omega)), br_of (fits_of (by omega)), br_of (inB_of (by omega)), br_of (fits_of (by omega)), br_of (decide_eq_true hid), wu16 (by omega)]
end

end Go.Proofs.Ytdopealphpmaeaa
