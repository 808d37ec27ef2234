/-
 the reference's files (chapters 12, 14), where nothing was opened yet.
-/
import Derived.Test.YtdopealphpmaeaaPGhostZ1
set_option linter.unusedSimpArgs false
set_option linter.unusedVariables false
set_option linter.unusedSectionVars false
namespace Go.Proofs.Ytdopealphpmaeaa
open Go.Gx

theorem nfree_step {R : Type} (N : Nat) (k0 : Int → List Int → Int → List EN → List (List Int) → List Int → Option R) (k1 : List Int → Int → List EN → List (List Int) → List Int → Option R)
  (n i : Nat) (hi : i < 4) (f : List Int) (hf : f.length = 4) (h0 : 0 ≤ f.getD i 0) (nx : Int) (L : List EN) (D : List (List Int)) (o : List Int) :
  Z80_l0 N k0 k1 (n + 1) (i : Int) (fdR f) nx L D o =
   if 0 = f.getD i 0 then k0 (i : Int) (fdR f) nx L D o else Z80_l0 N k0 k1 n ((i + 1 : Nat) : Int) (fdR f) nx L D o := by
 simp only [Z80_l0, Z80_l0_T0]
 have e : decide ((fdR f).getD (Int.toNat (i : Int)) 0 < 0) = decide (0 = f.getD i 0) := by
  rw [Int.toNat_natCast, decide_eq_decide, fdR_get (by omega)]; omega
 rw [br_of (decide_eq_true (by omega)), br_of (inB_of (by omega)), br_of (decide_eq_true (show Int.toNat (i : Int) < 4 by omega)), e, br_dec, w64_succ (by omega)]

/-- nothing is open: the first is free -/
theorem nfree_eq {R : Type} (N : Nat) (hN : 8 < N) (f : List Int) (hf : f.length = 4) (h0 : f.getD 0 0 = 0) (nx : Int) (L : List EN) (D : List (List Int)) (o : List Int) (k : Int → List Int → Int → List EN → List (List Int) → List Int → Option R) :
  Z80 N (fdR f) nx L D o k = k 0 (fdR f) nx L D o := by
 obtain ⟨n, rfl⟩ : ∃ n, N = n + 1 := ⟨N - 1, by omega⟩
 unfold Z80 Z80_T
 have s0 := fun k0 k1 => nfree_step (R := R) (n + 1) k0 k1 n 0 (by omega) f hf (by omega) nx L D o
 refine (s0 _ _).trans ?_
 rw [if_pos h0.symm]
 rfl

section
variable {R : Type} (N : Nat) (fd : Nat) (hfd : fd ≤ 65535) (f : List Int) (hf : f.length = 4) (h : fd < 4 → f.getD fd 0 = 0) (nx : Int) (L : List EN) (D : List (List Int)) (o : List Int)
include hfd hf h
theorem nof_no (k0 : List Int → Int → List EN → List (List Int) → List Int → Option R) (k1 : Int → List Int → Int → List EN → List (List Int) → List Int → Option R) :
  Z82 N (fd : Int) (fdR f) nx L D o k0 k1 = k0 (fdR f) nx L D o := by
 unfold Z82 Z82_T
 rw [w64 (by omega)]
 by_cases h4 : fd < 4
 ·rw [br_of (by rw [decide_eq_false (by omega)]; rfl), br_of (inB_of (by omega)), Int.toNat_natCast, br_of (decide_eq_true h4), fdR_get (by omega), h h4, br_of (by decide)]
 ·rw [br_not (by rw [decide_eq_true (by omega)]; rfl)]
variable (n : Int) (b : List Int) (K : Int → List Int → Int → List EN → List (List Int) → List Int → Option R)
theorem nclose_no : Z50 N (fd : Int) (fdR f) nx L D o K = K 65289 (fdR f) nx L D o := by
 unfold Z50 Z50_T
 rw [nof_no N fd hfd f hf h]
theorem nread_no : Z59 N (fd : Int) n (fdR f) nx L D o K = K 65289 (fdR f) nx L D o := by
 unfold Z59 Z59_T
 rw [nof_no N fd hfd f hf h]
theorem nwrite_no : Z76 N (fd : Int) b (fdR f) nx L D o K = K 65289 (fdR f) nx L D o := by
 unfold Z76 Z76_T
 rw [nof_no N fd hfd f hf h]
theorem nseek_no : Z62 N (fd : Int) n (fdR f) nx L D o K = K 65289 (fdR f) nx L D o := by
 unfold Z62 Z62_T
 rw [nof_no N fd hfd f hf h]
theorem nsize_no : Z65 N (fd : Int) (fdR f) nx L D o K = K 65289 (fdR f) nx L D o := by
 unfold Z65 Z65_T
 rw [nof_no N fd hfd f hf h]
theorem ntrunc_no : Z68 N (fd : Int) n (fdR f) nx L D o K = K 65289 (fdR f) nx L D o := by
 unfold Z68 Z68_T
 rw [nof_no N fd hfd f hf h]
theorem ntwin_no : Z71 N (fd : Int) (fdR f) nx L D o K = K 65289 (fdR f) nx L D o := by
 unfold Z71 Z71_T
 rw [nof_no N fd hfd f hf h]
end

theorem nopen_l0 {R : Type} (N : Nat) (k0 : Int → Int → List Int → Int → List Int → List (List Int) → List EN → Option R) (n : Nat) (fd : Int) (F : List Int) (nx : Int) (o : List Int) (D : List (List Int)) (hD : D.length ≤ 1000000) (L : List EN) :
  Z56_l0 N k0 (n + 2) (D.length : Int) fd F nx o D L = k0 (D.length : Int) fd F nx o (D ++ [[]]) L := by
 simp only [Z56_l0, Z56_l0_T0]
 rw [br_of (decide_eq_true (by omega)), br_of (app24 (by omega)), sub_all, br_not (decide_eq_false (by simp; omega))]

theorem nopen_eq {R : Type} (N : Nat) (hN : 1000 < N) (p : List UInt8) (f : List Int) (hf : f.length = 4) (h0 : f.getD 0 0 = 0) (nx : Int) (hx : 0 ≤ nx ∧ nx < 1000000) (L : List EN) (hL : L.length < 1000) (D : List (List Int)) (hD : (D.length : Int) = nx)
  (k0 : Int → List Int → Int → List (List Int) → List Int → List EN → Option R) (k1 : Int → List Int → Int → List (List Int) → List Int → OL → List EN → Option R) :
  Z56 N (bs p) (fdR f) nx L D [] k0 k1 =
   if nameB p = false then k0 65282 (fdR f) nx D [] L
   else if (findR p L).2.2 = 0 ∧ (findR p L).2.1 = true then k0 65301 (fdR f) nx D [] L
   else if aboveR (splitL p).1 L ≠ 0 then k0 (aboveR (splitL p).1 L) (fdR f) nx D [] L
   else if (findR p L).2.2 = 0 then k1 0 (fdR (f.set 0 1)) nx D [0] [((findR p L).1, 0)] L
   else if makeR p false L = 0 then k1 0 (fdR (f.set 0 1)) (nx + 1) (D ++ [[]]) [0] [(nx, 0)] (L ++ [(bs p, false, nx)])
   else k0 (makeR p false L) (fdR f) nx D [] L := by
 unfold Z56 Z56_T
 obtain ⟨n, rfl⟩ : ∃ n, N = n + 2 := ⟨N - 2, by omega⟩
 rw [NameMay_eq (n + 2) (by omega), br_neg]
 cases hnm : nameB p with
 | false => rfl
 | true =>
  simp only [br_true, Bool.true_eq_false, if_false]
  rw [refFind_eq (n + 2) (by omega) p nx L hL]
  have hab := fun k => refAbove_eq (R := R) (n + 2) (by omega) p nx L hL k
  have hfr := fun k => nfree_eq (R := R) (n + 2) (by omega) f hf h0 nx L D [] k
  have hmk := fun k => refMake_eq (R := R) (n + 2) (by omega) p false nx (by omega) L hL k
  have hset : (fdR f).set (Int.toNat 0) ((0 : Nat) : Int) = fdR (f.set 0 1) := fdR_set f 0 1
  have hs0 : sub ([] : List Int) 0 0 = [] := rfl
  have hfit : (((fits 0 0 ([] : List Int)) && (decide ((0 + 1) * 8 ≤ 70368744177664))) && true) = true := rfl
  have hin : inB 0 4 = true := rfl
  have hlt : decide (Int.toNat 0 < 4) = true := rfl
  have hneg : decide ((0 : Int) < 0) = false := rfl
  have hw : IntKind.wrap .u16 0 = 0 := rfl
  simp only [hab, hfr, hmk, List.length_nil, hset, hs0, hfit, hin, hlt, hneg, hw, br_true, br_false, List.nil_append]
  simp only [br_dec, br_ndec]
  by_cases hc : (findR p L).2.2 = 0
  ·simp only [hc, if_true, true_and]
   cases hd : (findR p L).2.1 with
   | true => simp
   | false =>
    simp only [br_false, Bool.false_eq_true, if_false]
    by_cases ha : aboveR (splitL p).1 L = 0
    ·simp only [ha, if_true, ne_eq, not_true, if_false]
    ·simp [ha]
  ·simp only [hc, if_false, false_and]
   by_cases ha : aboveR (splitL p).1 L = 0
   ·simp only [ha, if_true, ne_eq, not_true, if_false]
    by_cases hm : makeR p false L = 0
    ·rw [if_pos hm, if_pos hm, ← hD]
     refine (nopen_l0 (n + 2) _ n _ _ _ _ D (by omega) _).trans ?_
     simp only [List.length_nil, hset, hs0, hfit, hin, hlt, hw, br_true, List.nil_append]
     exact if_pos (by decide)
    ·rw [if_neg hm, if_neg hm, if_neg hm]
   ·simp [ha]

theorem nbytes_eq {R : Type} (N : Nat) (hN : 1000 < N) (p : List UInt8) (F : List Int) (nx : Int) (L : List EN) (hL : L.length < 1000) (D : List (List Int)) (o : List Int) (hid : ∀ x ∈ L, 0 ≤ x.2.2 ∧ x.2.2 < (D.length : Int))
  (K : List Int → Int → List Int → Int → List EN → List (List Int) → List Int → Option R) :
  Z47 N (bs p) F nx L D o K = if (findR p L).2.2 = 0 then (if (findR p L).2.1 = true then K [] 65301 F nx L D o else K (D.getD (findR p L).1.toNat []) 0 F nx L D o) else K [] (findR p L).2.2 F nx L D o := by
 unfold Z47 Z47_T
 rw [refFind_eq N hN p nx L hL, br_ndec]
 by_cases h : (findR p L).2.2 = 0
 ·rw [if_pos h, if_pos h]
  obtain ⟨_, x, hk, hf, _⟩ := findR_some h
  have hx := hid x (List.mem_of_find?_eq_some hk)
  rw [hf]
  cases hd : x.2.1 with
  | true => simp
  | false =>
   simp only [br_false, Bool.false_eq_true, if_false]
   rw [br_of (inB_of hx), br_of (decide_eq_true (by omega))]
   rfl
 ·rw [if_neg h, if_neg h]

theorem nname_l0 {R : Type} (N : Nat) (k0 : Int → List Int → Int → List Int → List (List Int) → List EN → Option R) (n : Nat) (c : Int) (F : List Int) (nx : Int) (o : List Int) (D : List (List Int)) (hD : D.length ≤ 1000000) (L : List EN) :
  Z54_l0 N k0 (n + 2) (D.length : Int) 0 F nx o D L = k0 0 F nx o (D ++ [[]]) L := by
 simp only [Z54_l0, Z54_l0_T0, decide_true, br_true]
 rw [br_of (decide_eq_true (by omega)), br_of (app24 (by omega)), sub_all, br_not (decide_eq_false (by simp; omega))]
theorem nname_l0' {R : Type} (N : Nat) (k0 : Int → List Int → Int → List Int → List (List Int) → List EN → Option R) (n : Nat) (i c : Int) (hc : c ≠ 0) (F : List Int) (nx : Int) (o : List Int) (D : List (List Int)) (L : List EN) :
  Z54_l0 N k0 (n + 1) i c F nx o D L = k0 c F nx o D L := by
 simp only [Z54_l0, Z54_l0_T0]
 rw [br_not (decide_eq_false hc)]

section
variable {R : Type} (N : Nat) (hN : 1000 < N) (p q : List UInt8) (F : List Int) (nx : Int) (L : List EN) (hL : L.length < 1000) (nd : (L.map (·.1)).Nodup) (D : List (List Int)) (o : List Int)
 (k0 : Int → List Int → Int → List Int → List (List Int) → List EN → Option R) (k1 : Int → List Int → Int → List EN → List Int → List (List Int) → List EN → Option R)
include hN hL nd
theorem nunlink_eq : Z54 N 33 (bs p) (bs q) F nx L D o k0 k1 = if dropR p false L = 0 then k1 0 F nx L o D (del (bs p) L) else k0 (dropR p false L) F nx o D L := by
 unfold Z54 Z54_T
 rw [br_of (decide_eq_true rfl), refDrop_eq N hN p false nx L hL nd]
theorem nrmdir_eq : Z54 N 36 (bs p) (bs q) F nx L D o k0 k1 = if dropR p true L = 0 then k1 0 F nx L o D (del (bs p) L) else k0 (dropR p true L) F nx o D L := by
 unfold Z54 Z54_T
 rw [br_not (by decide), br_not (by decide), br_not (by decide), br_of (decide_eq_true rfl), refDrop_eq N hN p true nx L hL nd]
theorem nrename_eq : Z54 N 34 (bs p) (bs q) F nx L D o k0 k1 = k0 (moveR p q L) F nx o D (movedR p q L) ∨ ∃ L0, Z54 N 34 (bs p) (bs q) F nx L D o k0 k1 = k1 (moveR p q L) F nx L0 o D (movedR p q L) := by
 unfold Z54 Z54_T
 rw [br_not (by decide), br_of (decide_eq_true rfl)]
 exact refMove_eq N hN p q nx L hL nd _ _
omit nd in
theorem nmkdir_eq (hx : 0 ≤ nx ∧ nx < 1000000) (hD : (D.length : Int) = nx) : Z54 N 35 (bs p) (bs q) F nx L D o k0 k1 = if makeR p true L = 0 then k0 0 F (nx + 1) o (D ++ [[]]) (L ++ [(bs p, true, nx)]) else k0 (makeR p true L) F nx o D L := by
 obtain ⟨n, rfl⟩ : ∃ n, N = n + 2 := ⟨N - 2, by omega⟩
 unfold Z54 Z54_T
 rw [br_not (by decide), br_not (by decide), br_of (decide_eq_true rfl), refMake_eq (n + 2) hN p true nx (by omega) L hL]
 by_cases h : makeR p true L = 0
 ·rw [if_pos h, if_pos h, ← hD]
  exact nname_l0 (n + 2) _ n 0 _ _ _ D (by omega) _
 ·rw [if_neg h, if_neg h]
  exact nname_l0' (n + 2) _ (n + 1) _ _ h _ _ _ _ _
omit nd in
theorem nlist_eq : Z54 N 37 (bs p) (bs q) F nx L D o k0 k1 = k0 (if (findR p L).2.2 ≠ 0 then (findR p L).2.2 else if (findR p L).2.1 = false then 65300 else (manyR (bs p) L : Int)) F nx o D L := by
 unfold Z54 Z54_T
 rw [br_not (by decide), br_not (by decide), br_not (by decide), br_not (by decide), br_of (decide_eq_true rfl), refMany_eq N hN p nx L hL]
end

end Go.Proofs.Ytdopealphpmaeaa
