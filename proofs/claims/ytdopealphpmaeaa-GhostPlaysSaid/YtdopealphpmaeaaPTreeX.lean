/-
 the tree of names (chapters 12, 13): the reference's functions; and that the program's tree stands beside its list.
-/
import Derived.Test.YtdopealphpmaeaaPTreeNR
set_option linter.unusedSimpArgs false
set_option linter.unusedVariables false
namespace Go.Proofs.Ytdopealphpmaeaa
open Go.Gx

/-! ### what stands at a path -/
def isP (p : ByteArray) (x : EN) : Bool := decide (x.1 = p)
def lk (p : ByteArray) (L : List EN) : Option EN := L.find? (isP p)

theorem atI_from (p : ByteArray) : ∀ (L : List EN) (i : Nat), match lk p L with
  | none => atI p i L = -1
  | some x => ∃ A B, L = A ++ x :: B ∧ atI p i L = ((i + A.length : Nat) : Int) ∧ x.1 = p ∧ ∀ y ∈ A, y.1 ≠ p
 | [], i => rfl
 | y :: r, i => by
  unfold lk atI
  rw [List.find?_cons]
  by_cases h : y.1 = p
  ·rw [if_pos h, show isP p y = true from decide_eq_true h]
   exact ⟨[], r, rfl, by simp, h, by simp⟩
  ·rw [if_neg h, show isP p y = false from decide_eq_false h]
   have := atI_from p r (i + 1)
   unfold lk at this
   cases hf : r.find? (isP p) with
   | none => rw [hf] at this; exact this
   | some x =>
    rw [hf] at this
    obtain ⟨A, B, h1, h2, h3, h4⟩ := this
    refine ⟨y :: A, B, by rw [h1]; rfl, by rw [h2]; congr 1; simp; omega, h3, fun z hz => ?_⟩
    rcases List.mem_cons.1 hz with rfl | hz
    ·exact h
    ·exact h4 z hz

theorem at_none {p : ByteArray} {L : List EN} (h : lk p L = none) : atI p 0 L = -1 := by
 have := atI_from p L 0
 rw [h] at this
 exact this
theorem at_some {p : ByteArray} {L : List EN} {x : EN} (h : lk p L = some x) : ∃ A B, L = A ++ x :: B ∧ atI p 0 L = (A.length : Int) ∧ x.1 = p ∧ ∀ y ∈ A, y.1 ≠ p := by
 have := atI_from p L 0
 rw [h] at this
 simpa using this
theorem mid_lt {α : Type} {A B : List α} {x : α} : A.length < (A ++ x :: B).length := by simp
theorem mid_in {α : Type} {A B : List α} {x : α} : inB (A.length : Int) (A ++ x :: B).length = true := by
 have := mid_lt (A := A) (B := B) (x := x)
 exact inB_of (by omega)
theorem mid_get {α : Type} {A B : List α} {x : α} (z : α) : (A ++ x :: B).getD A.length z = x := by
 simp [List.getD_eq_getElem?_getD]
theorem mid_set {α : Type} {A B : List α} {x y : α} : (A ++ x :: B).set A.length y = A ++ y :: B := by simp

/-! ### the reference's functions -/
def aboveR (d : List UInt8) (L : List EN) : Int := if d = [] then 0 else match lk (bs d) L with
 | none => 65282
 | some x => if x.2.1 then 0 else 65300

theorem refAbove_eq {R : Type} (N : Nat) (hN : 1000 < N) (l : List UInt8) (nx : Int) (L : List EN) (hL : L.length < 1000) (k : Int → Int → List EN → Option R) :
  Z93 N (bs l) nx L k = k (aboveR (splitL l).1 L) nx L := by
 unfold Z93 Z93_T aboveR
 rw [refSplit_eq N (by omega), br_dec]
 simp only [bs_inj]
 by_cases h : (splitL l).1 = []
 ·rw [if_pos h, if_pos h]
 ·rw [if_neg h, if_neg h, at_eq N _ _ nx L hL (by omega)]
  cases hk : lk (bs (splitL l).1) L with
  | none => rw [at_none hk]; rfl
  | some x =>
   obtain ⟨A, B, rfl, ha, _, _⟩ := at_some hk
   rw [ha, br_not (decide_eq_false (by omega)), br_of (mid_in), Int.toNat_natCast, br_of (decide_eq_true mid_lt), mid_get]
   obtain ⟨xp, xd, xi⟩ := x
   cases xd <;> rfl

def findR (l : List UInt8) (L : List EN) : Int × Bool × Int :=
 if nameB l = true then (if aboveR (splitL l).1 L = 0 then (match lk (bs l) L with
  | none => (-1, false, 65282)
  | some x => (x.2.2, x.2.1, 0)) else (-1, false, aboveR (splitL l).1 L)) else (-1, false, 65282)

theorem refFind_eq {R : Type} (N : Nat) (hN : 1000 < N) (l : List UInt8) (nx : Int) (L : List EN) (hL : L.length < 1000) (k : Int → Bool → Int → Int → List EN → Option R) :
  Z89 N (bs l) nx L k = k (findR l L).1 (findR l L).2.1 (findR l L).2.2 nx L := by
 unfold Z89 Z89_T findR
 rw [NameMay_eq N (by omega), br_neg]
 cases nameB l with
 | false => rfl
 | true =>
  rw [br_true, if_pos rfl, refAbove_eq N hN l nx L hL, br_ndec]
  by_cases h : aboveR (splitL l).1 L = 0
  ·rw [if_pos h, if_pos h, at_eq N _ _ nx L hL (by omega)]
   cases hk : lk (bs l) L with
   | none => rw [at_none hk]; rfl
   | some x =>
    obtain ⟨A, B, rfl, ha, _, _⟩ := at_some hk
    have hi : inB (A.length : Int) (A ++ x :: B).length = true := mid_in
    rw [ha, br_not (decide_eq_false (by omega))]
    simp only [Int.toNat_natCast, hi, br_true, decide_eq_true (mid_lt (A := A) (B := B) (x := x)), mid_get]
  ·rw [if_neg h, if_neg h]

def makeR (l : List UInt8) (dir : Bool) (L : List EN) : Int :=
 if nameB l = false then 65282 else if aboveR (splitL l).1 L ≠ 0 then aboveR (splitL l).1 L
 else if (lk (bs l) L).isSome then 65297
 else if dir ∧ (splitL l).1 ≠ [] then 65302
 else if 8 ≤ L.length then 65308 else 0

theorem appE {α : Type} {l : List α} (h : l.length ≤ 1000) : (((fits (0 : Nat) (List.length l) l) && (decide ((((List.length l) + (1 : Nat)) * (32 : Nat)) ≤ (70368744177664 : Nat)))) && true) = true := by
 rw [fits_of (by omega), decide_eq_true (by omega)]; rfl

theorem refMake_eq {R : Type} (N : Nat) (hN : 1000 < N) (l : List UInt8) (dir : Bool) (nx : Int) (hx : 0 ≤ nx ∧ nx < 4611686018427387904) (L : List EN) (hL : L.length < 1000) (k : Int → Int → Int → List EN → Option R) :
  Z90 N (bs l) dir nx L k = if makeR l dir L = 0 then k nx 0 (nx + 1) (L ++ [(bs l, dir, nx)]) else k (-1) (makeR l dir L) nx L := by
 unfold Z90 Z90_T makeR
 rw [NameMay_eq N (by omega), br_neg]
 cases nameB l with
 | false => rfl
 | true =>
  rw [br_true, refAbove_eq N hN l nx L hL, refSplit_eq N (by omega), br_ndec]
  simp only [Bool.true_eq_false, if_false]
  by_cases h : aboveR (splitL l).1 L = 0
  ·rw [if_pos h, if_neg (not_not_intro h), at_eq N _ _ nx L hL (by omega)]
   have e0 : IntKind.wrap .i64 (nx + 1) = nx + 1 := w64 (by omega)
   have e1 : IntKind.wrap .i64 (nx + 1 - 1) = nx := by rw [w64 (by omega)]; omega
   have e8 : ((8 : Int) ≤ (L.length : Int)) = (8 ≤ L.length) := propext ⟨by omega, by omega⟩
   simp only [e0, e1, e8, appE (show L.length ≤ 1000 by omega), br_true, sub_all, br_ndec, br_dec, bs_inj]
   cases hk : lk (bs l) L with
   | some x =>
    obtain ⟨A, B, rfl, ha, _, _⟩ := at_some hk
    rw [ha, if_pos (by omega)]
    simp
   | none =>
    rw [at_none hk, if_neg (by omega)]
    simp only [Option.isSome_none, Bool.false_eq_true, if_false]
    cases dir with
    | false =>
     simp only [br_false, Bool.false_eq_true, false_and, if_false]
     by_cases h8 : 8 ≤ L.length
     ·simp [h8]
     ·simp [h8]
    | true =>
     simp only [br_true, true_and]
     by_cases hd : (splitL l).1 = []
     ·rw [if_pos hd, if_neg (not_not_intro hd)]
      by_cases h8 : 8 ≤ L.length
      ·simp [h8]
      ·simp [h8]
     ·rw [if_neg hd, if_pos hd]; rfl
  ·rw [if_neg h, if_pos h, if_neg h]

def inD (p : ByteArray) (x : EN) : Bool := decide (bs (splitL (pth x.1)).1 = p)
def manyR (p : ByteArray) (L : List EN) : Nat := L.countP (inD p)

theorem many_l0 {R : Type} (N : Nat) (hN : 1000 < N) (k : Int → Int → List EN → Option R) (p : ByteArray) (nx : Int) (L : List EN) (hL : L.length < 1000) :
  ∀ (m i n c : Nat), L.length - i = m → i ≤ L.length → c ≤ i → m < n → Z95_l0 N k n p (c : Int) (i : Int) nx L = k ((c + (L.drop i).countP (inD p) : Nat) : Int) nx L := by
 intro m
 induction m with
 | zero =>
  intro i n c hm hi hc hn
  obtain ⟨n, rfl⟩ : ∃ n', n = n' + 1 := ⟨n - 1, by omega⟩
  have : i = L.length := by omega
  subst this
  simp only [Z95_l0, Z95_l0_T0, br_dec, List.drop_length]
  rw [if_neg (by omega)]
  simp
 | succ m ih =>
  intro i n c hm hi hc hn
  obtain ⟨n, rfl⟩ : ∃ n', n = n' + 1 := ⟨n - 1, by omega⟩
  have hlt : i < L.length := by omega
  have hg : L.getD i (bs [], false, 0) = L[i] := by simp [List.getD, hlt]
  have hs := fun (k : ByteArray → ByteArray → Option R) => refSplit_eq N (by omega) (pth L[i].1) k
  rw [bs_pth] at hs
  simp only [Z95_l0, Z95_l0_T0, Int.toNat_natCast, hg, hs]
  rw [br_dec, if_pos (by omega), br_of (inB_of (by omega)), br_of (decide_eq_true hlt), br_dec, List.drop_eq_getElem_cons hlt, List.countP_cons]
  rw [w64_succ (by omega), w64_succ (by omega)]
  by_cases h : bs (splitL (pth L[i].1)).1 = p
  ·rw [if_pos h, ih (i + 1) n (c + 1) (by omega) (by omega) (by omega) (by omega), if_pos (show inD p L[i] = true from decide_eq_true h)]
   congr 2
   omega
  ·rw [if_neg h, ih (i + 1) n c (by omega) (by omega) (by omega) (by omega), if_neg (show ¬ inD p L[i] = true from by rw [show inD p L[i] = false from decide_eq_false h]; simp)]
   rfl

theorem refmany_eq {R : Type} (N : Nat) (hN : 1000 < N) (p : ByteArray) (nx : Int) (L : List EN) (hL : L.length < 1000) (k : Int → Int → List EN → Option R) :
  Z95 N p nx L k = k (manyR p L : Int) nx L := by
 unfold Z95 Z95_T manyR
 have := many_l0 N hN k p nx L hL L.length 0 N 0 (by omega) (by omega) (by omega) (by omega)
 rw [List.drop_zero, Nat.zero_add] at this
 exact this

theorem refMany_eq {R : Type} (N : Nat) (hN : 1000 < N) (l : List UInt8) (nx : Int) (L : List EN) (hL : L.length < 1000) (k : Int → Int → List EN → Option R) :
  Z91 N (bs l) nx L k = k (if (findR l L).2.2 ≠ 0 then (findR l L).2.2 else if (findR l L).2.1 = false then 65300 else (manyR (bs l) L : Int)) nx L := by
 unfold Z91 Z91_T
 rw [refFind_eq N hN l nx L hL, br_ndec]
 by_cases h : (findR l L).2.2 = 0
 ·rw [if_pos h, if_neg (not_not_intro h)]
  cases (findR l L).2.1 with
  | false => rfl
  | true =>
   have hc : manyR (bs l) L ≤ L.length := List.countP_le_length
   simp only [Bool.not_true, br_false]
   rw [refmany_eq N hN _ nx L hL, wu16 (by omega)]
   rfl
 ·rw [if_neg h, if_pos h]

/-- all but what stands at a path -/
def del (p : ByteArray) (L : List EN) : List EN := L.filter (fun x => !isP p x)
theorem names_mid {A B : List EN} {x : EN} (h : ((A ++ x :: B).map (·.1)).Nodup) : (∀ y ∈ A, y.1 ≠ x.1) ∧ ∀ y ∈ B, y.1 ≠ x.1 := by
 rw [List.map_append, List.map_cons, List.nodup_append] at h
 obtain ⟨h1, h2, h3⟩ := h
 rw [List.nodup_cons] at h2
 exact ⟨fun y hy => h3 _ (List.mem_map_of_mem hy) _ (by simp), fun y hy e => h2.1 (by rw [← e]; exact List.mem_map_of_mem hy)⟩
theorem del_mid {A B : List EN} {x : EN} (h : ((A ++ x :: B).map (·.1)).Nodup) : del x.1 (A ++ x :: B) = A ++ B := by
 obtain ⟨h1, h2⟩ := names_mid h
 unfold del
 rw [List.filter_append, List.filter_cons]
 have e : (!isP x.1 x) = false := by simp [isP]
 rw [e, if_neg (by simp), List.filter_eq_self.2 (fun y hy => by simp [isP, h1 y hy]), List.filter_eq_self.2 (fun y hy => by simp [isP, h2 y hy])]
theorem del_none {p : ByteArray} {L : List EN} (h : lk p L = none) : del p L = L := by
 unfold del
 refine List.filter_eq_self.2 fun y hy => ?_
 have := List.find?_eq_none.1 h y hy
 simpa using this

theorem without_eq {R : Type} (N : Nat) (A B : List EN) (x : EN) (nx : Int) (hL : (A ++ x :: B).length < 1000) (k : Int → List EN → List EN → Option R) :
  Z96 N (A.length : Int) nx (A ++ x :: B) k = k nx (A ++ x :: B) (A ++ B) := by
 unfold Z96 Z96_T
 have hlen : (A ++ x :: B).length = A.length + (B.length + 1) := by simp
 have e1 : IntKind.wrap .i64 ((A.length : Int) + 1) = ((A.length + 1 : Nat) : Int) := w64_succ (by omega)
 have s1 : sub (A ++ x :: B) 0 (A.length - 0) = A := by simp [sub]
 have s2 : sub (A ++ x :: B) (A.length + 1) ((A ++ x :: B).length - (A.length + 1)) = B := by
  unfold sub
  rw [List.drop_append, List.drop_eq_nil_of_le (show A.length ≤ A.length + 1 by omega)]
  simp only [List.nil_append, hlen, Nat.add_sub_cancel_left, List.drop_succ_cons, List.drop_zero]
  exact List.take_of_length_le (by omega)
 have s3 : sub A 0 A.length = A := sub_all A
 have f1 : fits 0 (A.length - 0) (A ++ x :: B) = true := fits_of (by omega)
 have f2 : fits (A.length + 1) ((A ++ x :: B).length - (A.length + 1)) (A ++ x :: B) = true := fits_of (by omega)
 have f3 : fits 0 A.length A = true := fits_of (by omega)
 simp only [e1, Int.toNat_natCast, s1, s2, s3, f1, f2, f3]
 rw [br_of (leB_of (by omega)), br_of (leB_of (by omega)), br_true, br_of (by rw [decide_eq_true (by omega)]; rfl)]
 simp only [decide_true, br_true, Bool.and_self]
 rw [br_of (leB_of (by omega)), br_of (by rw [decide_eq_true (by omega)]; rfl)]

/-- why what stands at a path stays -/
def dropR (l : List UInt8) (dir : Bool) (L : List EN) : Int :=
 if (findR l L).2.2 ≠ 0 then (findR l L).2.2 else if dir = false ∧ (findR l L).2.1 = true then 65301 else if dir = true ∧ (findR l L).2.1 = false then 65300
 else if dir = true ∧ 0 < manyR (bs l) L then 65319 else 0

theorem findR_some {l : List UInt8} {L : List EN} (h : (findR l L).2.2 = 0) : nameB l = true ∧ ∃ x, lk (bs l) L = some x ∧ findR l L = (x.2.2, x.2.1, 0) ∧ aboveR (splitL l).1 L = 0 := by
 unfold findR at h ⊢
 cases hn : nameB l with
 | false => rw [hn] at h; cases h
 | true =>
  rw [hn] at h
  simp only [if_true] at h ⊢
  by_cases ha : aboveR (splitL l).1 L = 0
  ·rw [if_pos ha] at h ⊢
   cases hk : lk (bs l) L with
   | none => rw [hk] at h; cases h
   | some x => exact ⟨trivial, x, rfl, rfl, ha⟩
  ·rw [if_neg ha] at h
   exact absurd h ha

theorem refDrop_eq {R : Type} (N : Nat) (hN : 1000 < N) (l : List UInt8) (dir : Bool) (nx : Int) (L : List EN) (hL : L.length < 1000) (nd : (L.map (·.1)).Nodup) (k0 : Int → Int → List EN → Option R) (k1 : Int → Int → List EN → List EN → Option R) :
  Z88 N (bs l) dir nx L k0 k1 = if dropR l dir L = 0 then k1 0 nx L (del (bs l) L) else k0 (dropR l dir L) nx L := by
 unfold Z88 Z88_T dropR
 rw [refFind_eq N hN l nx L hL, br_ndec]
 by_cases h : (findR l L).2.2 = 0
 ·rw [if_pos h, if_neg (not_not_intro h)]
  obtain ⟨_, x, hk, hf, _⟩ := findR_some h
  obtain ⟨A, B, hL2, ha, hx, _⟩ := at_some hk
  have hw : ∀ k : Int → List EN → List EN → Option R, Z94 N (bs l) nx L (fun a b c => Z96 N a b c k) = k nx L (del (bs l) L) := fun k => by
   rw [at_eq N _ _ nx L hL (by omega), ha]
   subst hL2
   rw [without_eq N A B x nx hL, ← hx, del_mid nd]
  simp only [refmany_eq N hN (bs l) nx L hL, hw, hf, br_dec]
  have hc : ((0 : Int) < (manyR (bs l) L : Int)) = (0 < manyR (bs l) L) := propext ⟨by omega, by omega⟩
  simp only [hc]
  rcases Nat.eq_zero_or_pos (manyR (bs l) L) with hm | hm
  ·cases dir <;> cases x.2.1 <;> simp [hm]
  ·have hm' := Nat.ne_of_gt hm
   cases dir <;> cases x.2.1 <;> simp [hm, hm']
 ·rw [if_neg h, if_pos h, if_neg h]

/-- why nothing is moved; 0: it may be -/
def moveR (a b : List UInt8) (L : List EN) : Int :=
 if (findR a L).2.2 ≠ 0 then (findR a L).2.2 else if (findR a L).2.1 = true then 65301 else if nameB b = false then 65282
 else if aboveR (splitL b).1 L ≠ 0 then aboveR (splitL b).1 L else if a = b then 0 else match lk (bs b) L with
  | some y => if y.2.1 then 65301 else 0
  | none => 0
/-- what stands at a path, at another -/
def ren (a b : List UInt8) (L : List EN) : List EN := match lk (bs a) (del (bs b) L) with
 | some x => (del (bs b) L).set (atI (bs a) 0 (del (bs b) L)).toNat (bs b, x.2)
 | none => L
def movedR (a b : List UInt8) (L : List EN) : List EN := if moveR a b L = 0 ∧ a ≠ b then ren a b L else L
def goneR (a b : List UInt8) (L : List EN) : Int := if moveR a b L = 0 ∧ a ≠ b then (match lk (bs b) L with
 | some y => y.2.2
 | none => -1) else -1

theorem lk_del {p q : ByteArray} (h : p ≠ q) (L : List EN) : lk p (del q L) = lk p L := by
 unfold lk del
 rw [List.find?_filter]
 congr 1
 funext x
 unfold isP
 by_cases hx : x.1 = p
 ·simp [hx, h]
 ·simp [hx]
theorem del_names {p : ByteArray} {L : List EN} (nd : (L.map (·.1)).Nodup) : ((del p L).map (·.1)).Nodup := nd.sublist ((List.filter_sublist).map _)

theorem refMove_eq {R : Type} (N : Nat) (hN : 1000 < N) (a b : List UInt8) (nx : Int) (L : List EN) (hL : L.length < 1000) (nd : (L.map (·.1)).Nodup) (k0 : Int → Int → Int → List EN → Option R) (k1 : Int → Int → Int → List EN → List EN → Option R) :
  (Z92 N (bs a) (bs b) nx L k0 k1 = k0 (goneR a b L) (moveR a b L) nx (movedR a b L)) ∨ (∃ L0, Z92 N (bs a) (bs b) nx L k0 k1 = k1 (goneR a b L) (moveR a b L) nx L0 (movedR a b L)) := by
 unfold Z92 Z92_T movedR goneR moveR
 rw [refFind_eq N hN a nx L hL, br_ndec]
 by_cases h : (findR a L).2.2 = 0
 ·rw [if_pos h, if_neg (not_not_intro h)]
  obtain ⟨_, x, hk, hf, _⟩ := findR_some h
  rw [hf]
  cases hxd : x.2.1 with
  | true => left; simp
  | false =>
   simp only [br_false, Bool.false_eq_true, if_false]
   rw [NameMay_eq N (by omega), br_neg]
   cases hb : nameB b with
   | false => left; simp
   | true =>
    simp only [br_true, Bool.true_eq_false, if_false]
    rw [refAbove_eq N hN b nx L hL, br_ndec]
    by_cases h2 : aboveR (splitL b).1 L = 0
    ·rw [if_pos h2, if_neg (not_not_intro h2), br_dec]
     simp only [bs_inj]
     by_cases e : a = b
     ·left; simp [e]
     ·rw [if_neg e, if_neg e, at_eq N _ _ nx L hL (by omega)]
      have hne : bs a ≠ bs b := fun h => e (bs_inj.1 h)
      have hka : lk (bs a) (del (bs b) L) = some x := by rw [lk_del hne, hk]
      obtain ⟨A', B', hL3, ha', hx', _⟩ := at_some hka
      have hlen : (del (bs b) L).length ≤ L.length := List.length_filter_le _ _
      have hset : ∀ (k : List EN → Option R), br (decide (bs b = bs b)) (br (inB (atI (bs a) 0 (del (bs b) L)) (del (bs b) L).length) (br (decide ((atI (bs a) 0 (del (bs b) L)).toNat < (del (bs b) L).length)) (k ((del (bs b) L).set (atI (bs a) 0 (del (bs b) L)).toNat (bs b, ((del (bs b) L).getD (atI (bs a) 0 (del (bs b) L)).toNat (bs [], false, 0)).2.1, ((del (bs b) L).getD (atI (bs a) 0 (del (bs b) L)).toNat (bs [], false, 0)).2.2))) none) none) none = k (ren a b L) := fun k => by
       unfold ren
       rw [hka, ha', hL3, decide_eq_true rfl, br_true, br_of (mid_in), Int.toNat_natCast, br_of (decide_eq_true mid_lt), mid_get]
      cases hkb : lk (bs b) L with
      | none =>
       left
       rw [at_none hkb, br_not (by decide), at_eq N _ _ nx L hL (by omega)]
       have hd := del_none hkb
       have := hset (fun T => k0 (-1) 0 nx T)
       rw [hd] at this
       simpa [e] using this
      | some y =>
       obtain ⟨A, B, hL2, ha, hy, _⟩ := at_some hkb
       obtain ⟨yp, yd, yi⟩ := y
       have hin : inB (A.length : Int) L.length = true := by rw [hL2]; exact mid_in
       have hlt : decide (A.length < L.length) = true := decide_eq_true (by rw [hL2]; exact mid_lt)
       have hgt : L.getD A.length (bs [], false, 0) = (yp, yd, yi) := by rw [hL2]; exact mid_get _
       rw [ha, br_of (decide_eq_true (by omega))]
       simp only [Int.toNat_natCast, hin, hlt, hgt, br_true]
       cases yd with
       | true => left; simp [e]
       | false =>
        right
        refine ⟨L, ?_⟩
        have hw : ∀ k : Int → List EN → List EN → Option R, Z96 N (A.length : Int) nx L k = k nx L (del (bs b) L) := fun k => by
         subst hL2
         rw [without_eq N A B _ nx hL, ← hy, del_mid nd]
        rw [br_false, hw, at_eq N _ _ nx (del (bs b) L) (by omega) (by omega)]
        have := hset (fun T => k1 yi 0 nx L T)
        simpa [e] using this
    ·left; rw [if_neg h2, if_pos h2]; simp [h2]
 ·left; rw [if_neg h, if_pos h]; simp [h]

end Go.Proofs.Ytdopealphpmaeaa
