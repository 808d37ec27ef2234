/-
 names in the reference (chapter 12): what its function comes to is what the program's does.
-/
import Derived.Test.YtdopealphpmaeaaPCName
set_option linter.unusedVariables false
set_option linter.unusedSimpArgs false
namespace Go.Proofs.Ytdopealphpmaeaa
open Go.Gx

theorem bs_app (a b : List UInt8) : bs a ++ bs b = bs (a ++ b) := by
 apply ByteArray.ext
 apply Array.ext'
 simp [bs]

theorem mkStr_one (c : UInt8) : mkStr [(c.toNat : Int)] = bs [c] := by
 simp [mkStr, bs]

def okc (c : UInt8) : Bool := letter8 c || c == 47

/-- a text, parted at its strokes -/
def goS : List UInt8 → List UInt8 → List (List UInt8)
 | cur, [] => [cur]
 | cur, c :: r => if c = 47 then cur :: goS [] r else goS (cur ++ [c]) r

theorem nm_l0 {R : Type} (N : Nat) (kk : Bool → Option R) (k1 : List ByteArray → Option R) (l : List UInt8) (hl : l.length ≤ 8) :
  ∀ (rest pre : List UInt8) (n : Nat) (done : List (List UInt8)) (cur : List UInt8), pre ++ rest = l → done.length ≤ pre.length → cur.length ≤ pre.length → rest.length < n →
   Z84_l0 N (fun b _ => kk b) k1 n (bs l) (pre.length : Int) ((done ++ [cur]).map bs) = if rest.all okc then k1 ((done ++ goS cur rest).map bs) else kk false := by
 intro rest
 induction rest with
 | nil =>
  intro pre n done cur hp hd hc hn
  obtain ⟨n, rfl⟩ : ∃ n', n = n' + 1 := ⟨n - 1, by simp at hn; omega⟩
  have : pre.length = l.length := by rw [← hp]; simp
  simp only [Z84_l0, Z84_l0_T0, br_dec, bs_size]
  rw [if_neg (by omega)]
  rfl
 | cons c r ih =>
  intro pre n done cur hp hd hc hn
  obtain ⟨n, rfl⟩ : ∃ n', n = n' + 1 := ⟨n - 1, by simp at hn; omega⟩
  have hlen : pre.length + (r.length + 1) = l.length := by rw [← hp]; simp
  have hi : pre.length < l.length := by omega
  have hget : l[pre.length] = c := by simp [← hp]
  have hnx : ∀ (done' : List (List UInt8)) (cur' : List UInt8), done'.length ≤ pre.length + 1 → cur'.length ≤ pre.length + 1 →
    Z84_l0 N (fun b _ => kk b) k1 n (bs l) (IntKind.wrap .i64 ((pre.length : Int) + 1)) ((done' ++ [cur']).map bs) = if r.all okc then k1 ((done' ++ goS cur' r).map bs) else kk false := fun done' cur' h1 h2 => by
   have := ih (pre ++ [c]) n done' cur' (by rw [← hp]; simp) (by simpa using h1) (by simpa using h2) (by simp at hn; omega)
   rw [show ((pre ++ [c]).length : Int) = IntKind.wrap .i64 ((pre.length : Int) + 1) by rw [w64_succ (by omega)]; simp] at this
   exact this
  have hL : ((done ++ [cur]).map bs).length = done.length + 1 := by simp
  simp only [Z84_l0, Z84_l0_T0, bs_size]
  rw [br_dec, if_pos (by omega), br_of (inB_of (by omega)), bt_get hi, hget]
  rw [hL]
  by_cases h47 : c = 47
  ·subst h47
   rw [br_of (by rfl), br_of (by rw [fits_of (by rw [hL]; omega)]; simp; omega)]
   rw [show sub ((done ++ [cur]).map bs) 0 (done.length + 1) = (done ++ [cur]).map bs by rw [← hL, sub_all]]
   rw [show (done ++ [cur]).map bs ++ [bs []] = ((done ++ [cur]) ++ [[]]).map bs by simp]
   rw [hnx (done ++ [cur]) [] (by simp; omega) (by simp)]
   simp [okc, goS]
  ·have hne : ¬ ((c.toNat : Int) = 47) := fun e => h47 (by apply UInt8.toNat_inj.1; show c.toNat = 47; omega)
   rw [br_dec, if_neg hne]
   have hw : IntKind.wrap .i64 (((done.length + 1 : Nat) : Int) - 1) = (done.length : Int) := by rw [w64 (by omega)]; omega
   have hg : ((done ++ [cur]).map bs).getD done.length (bs []) = bs cur := by simp [List.getD]
   have hs : ((done ++ [cur]).map bs).set done.length (bs (cur ++ [c])) = (done ++ [cur ++ [c]]).map bs := by simp
   simp only [hw, Int.toNat_natCast, mkStr_one, hg, bs_app, hs, bs_size, hnx done (cur ++ [c]) (by omega) (by simp; omega)]
   have i1 : inB (done.length : Int) (done.length + 1) = true := inB_of (by omega)
   have d1 : decide (done.length < done.length + 1) = true := by simp
   have d2 : decide (cur.length + [c].length < 1099511627776) = true := by simp; omega
   simp only [i1, d1, d2, br_true]
   have hgo : goS cur (c :: r) = goS (cur ++ [c]) r := by simp [goS, h47]
   have hok : okc c = letterI (c.toNat : Int) := by rw [letterI_u8, okc]; simp [h47]
   have hrhs : (if (c :: r).all okc = true then k1 ((done ++ goS cur (c :: r)).map bs) else kk false) = if letterI (c.toNat : Int) = true then (if r.all okc = true then k1 ((done ++ goS (cur ++ [c]) r).map bs) else kk false) else kk false := by
    rw [hgo, List.all_cons, hok]
    cases letterI (c.toNat : Int) <;> simp
   rw [hrhs]
   generalize (if r.all okc = true then k1 ((done ++ goS (cur ++ [c]) r).map bs) else kk false) = E
   simp only [br_dec]
   cases hlt : letterI (c.toNat : Int) with
   | true =>
    simp only [if_true]
    simp only [letterI, Bool.or_eq_true, Bool.and_eq_true, decide_eq_true_eq] at hlt
    repeat' split
    all_goals first | rfl | (exfalso; omega)
   | false =>
    simp only [Bool.false_eq_true, if_false]
    simp only [letterI, Bool.or_eq_false_iff, Bool.and_eq_false_iff, decide_eq_false_iff_not] at hlt
    repeat' split
    all_goals first | rfl | (exfalso; omega)

def okp (p : List UInt8) : Bool := !(p == []) && !(p == [46]) && !(p == [46, 46])

theorem nm_l1 {R : Type} (N : Nat) (kk : Bool → Option R) (k1 : List ByteArray → Option R) (P : List (List UInt8)) (hP : P.length ≤ 1000) :
  ∀ (m i n : Nat), P.length - i = m → i ≤ P.length → m < n → Z84_l1 N (fun b _ => kk b) k1 n (i : Int) (P.map bs) = if (P.drop i).all okp then k1 (P.map bs) else kk false := by
 intro m
 induction m with
 | zero =>
  intro i n hm hi hn
  obtain ⟨n, rfl⟩ : ∃ n', n = n' + 1 := ⟨n - 1, by omega⟩
  have : i = P.length := by omega
  subst this
  simp only [Z84_l1, Z84_l1_T0, br_dec, List.drop_length, List.all_nil, if_true, List.length_map]
  rw [if_neg (by omega)]
 | succ m ih =>
  intro i n hm hi hn
  obtain ⟨n, rfl⟩ : ∃ n', n = n' + 1 := ⟨n - 1, by omega⟩
  have hlt : i < P.length := by omega
  have hg : (P.map bs).getD i (bs []) = bs P[i] := by simp [List.getD, hlt]
  have hd : P.drop i = P[i] :: P.drop (i + 1) := List.drop_eq_getElem_cons hlt
  simp only [Z84_l1, Z84_l1_T0, List.length_map, Int.toNat_natCast, hg, bs_inj]
  rw [br_dec, if_pos (by omega), br_of (inB_of (by omega)), br_of (decide_eq_true hlt), br_of (inB_of (by omega)), br_of (decide_eq_true hlt), br_of (inB_of (by omega)), br_of (decide_eq_true hlt),
   w64_succ (by omega), ih (i + 1) n (by omega) (by omega) (by omega), hd, List.all_cons]
  simp only [br_ndec, br_dec]
  by_cases h1 : P[i] = []
  ·have ho : okp P[i] = false := by simp [okp, h1]
   rw [if_pos h1, ho]
   simp
  ·by_cases h2 : P[i] = [46]
   ·have ho : okp P[i] = false := by simp [okp, h2]
    rw [if_neg h1, if_pos h2, ho]
    simp
   ·by_cases h3 : P[i] = [46, 46]
    ·have ho : okp P[i] = false := by simp [okp, h3]
     rw [if_neg h1, if_neg h2, if_pos h3, ho]
     simp
    ·have ho : okp P[i] = true := by simp [okp, h1, h2, h3]
     rw [if_neg h1, if_neg h2, if_neg h3, ho]
     simp

theorem goS_len : ∀ (l cur : List UInt8), (goS cur l).length ≤ l.length + 1 ∧ 0 < (goS cur l).length
 | [], cur => by simp [goS]
 | c :: r, cur => by
  by_cases h : c = 47
  ·have := goS_len r []
   simp [goS, h]
   omega
  ·have := goS_len r (cur ++ [c])
   simp [goS, h]
   omega

theorem goS_no : ∀ (l cur : List UInt8), ¬ (47 : UInt8) ∈ l → goS cur l = [cur ++ l]
 | [], cur, _ => by simp [goS]
 | c :: r, cur, h => by
  simp only [List.mem_cons, not_or] at h
  have hc : ¬ c = 47 := fun e => h.1 e.symm
  simp [goS, hc, goS_no r (cur ++ [c]) h.2]

theorem goS_yes : ∀ (a b cur : List UInt8), ¬ (47 : UInt8) ∈ a → goS cur (a ++ 47 :: b) = (cur ++ a) :: goS [] b
 | [], b, cur, _ => by simp [goS]
 | c :: r, b, cur, h => by
  simp only [List.mem_cons, not_or] at h
  have hc : ¬ c = 47 := fun e => h.1 e.symm
  simp [goS, hc, goS_yes r b (cur ++ [c]) h.2]

def refB (l : List UInt8) : Bool := decide (1 ≤ l.length) && (decide (l.length ≤ 8) && (l.all okc && ((goS [] l).all okp && decide ((goS [] l).length ≤ 2))))

theorem NameMay_ref {R : Type} (N : Nat) (hN : 10 < N) (l : List UInt8) (k : Bool → Option R) : Z84 N (bs l) k = k (refB l) := by
 unfold Z84 Z84_T refB
 simp only [bs_size, br_ndec, br_dec]
 by_cases h1 : 1 ≤ l.length
 ·rw [if_neg (by omega), decide_eq_true h1]
  by_cases h8 : l.length ≤ 8
  ·rw [if_neg (by omega), decide_eq_true h8]
   have h := nm_l0 N k (fun l339 => Z84_l1 N (fun b340 _ => k b340) (fun l342 => k (decide ((l342.length : Int) ≤ 2))) N 0 l339) l h8 l [] N [] [] (by simp) (by simp) (by simp) (by omega)
   refine h.trans ?_
   cases l.all okc with
   | false => simp
   | true =>
    rw [if_pos rfl]
    have hg := goS_len l []
    have h2 := nm_l1 N k (fun l342 => k (decide ((l342.length : Int) ≤ 2))) (goS [] l) (by omega) (goS [] l).length 0 N (by omega) (by omega) (by omega)
    refine h2.trans ?_
    simp only [List.drop_zero, List.length_map]
    cases (goS [] l).all okp with
    | false => simp
    | true =>
     simp only [if_true, Bool.true_and]
     congr 1
     rw [decide_eq_decide]
     omega
  ·rw [if_pos (by omega), decide_eq_false h8]
   simp
 ·rw [if_pos (by omega), decide_eq_false h1]
  simp

theorem all_okc {l : List UInt8} (h : ¬ (47 : UInt8) ∈ l) : l.all okc = l.all letter8 := by
 induction l with
 | nil => rfl
 | cons c r ih =>
  simp only [List.mem_cons, not_or] at h
  have hc : (c == 47) = false := by simpa using fun e => h.1 e.symm
  rw [List.all_cons, List.all_cons, ih h.2, okc, hc, Bool.or_false]

theorem letters_no {l : List UInt8} (h : l.all letter8 = true) : ¬ (47 : UInt8) ∈ l := fun hm => by
 have := List.all_eq_true.1 h 47 hm
 exact absurd this (by decide)

theorem partB_eq (l : List UInt8) : partB l = (l.all letter8 && okp l) := by
 unfold partB okp
 simp [Bool.and_assoc]

theorem tw_no : ∀ (l : List UInt8), ¬ (47 : UInt8) ∈ l.takeWhile (· != 47)
 | [] => by simp
 | c :: r => by
  by_cases h : c = 47
  ·subst h; simp
  ·have hn : ¬ (47 : UInt8) = c := fun e => h e.symm
   have hb : (c != 47) = true := by simpa using h
   simp only [List.takeWhile_cons, hb, if_true, List.mem_cons, not_or]
   exact ⟨hn, tw_no r⟩

theorem refB_eq (l : List UInt8) : refB l = nameB l := by
 unfold refB nameB
 by_cases h : (47 : UInt8) ∈ l
 ·have hd : l.dropWhile (· != 47) ≠ [] := fun e => drop_nil.1 e h
  obtain ⟨c, b, hcb⟩ : ∃ c b, l.dropWhile (· != 47) = c :: b := by
   cases hh : l.dropWhile (· != 47) with
   | nil => exact absurd hh hd
   | cons c b => exact ⟨c, b, rfl⟩
  have hc : c = 47 := by
   have := List.head_dropWhile_not (p := (· != 47)) (l := l) hd
   simp only [hcb, List.head_cons] at this
   simpa using this
  subst hc
  have ha : ¬ (47 : UInt8) ∈ l.takeWhile (· != 47) := tw_no l
  have hl : l = l.takeWhile (· != 47) ++ 47 :: b := by rw [← hcb, List.takeWhile_append_dropWhile]
  have hcut : cutL l = (l.takeWhile (· != 47), b, true) := by unfold cutL; rw [hcb]
  rw [hcut]
  generalize l.takeWhile (· != 47) = a at hl ha
  subst hl
  rw [goS_yes a b [] ha]
  have hb := goS_len b []
  simp only [List.all_append, List.all_cons, all_okc ha, partB_eq, List.length_cons, List.nil_append, List.length_append]
  have h47 : okc 47 = true := by decide
  rw [h47]
  have h1 : decide (1 ≤ a.length + (b.length + 1)) = true := decide_eq_true (by omega)
  rw [h1]
  by_cases hb47 : (47 : UInt8) ∈ b
  ·have e1 : b.all letter8 = false := by
    cases hh : b.all letter8 with
    | false => rfl
    | true => exact absurd hb47 (letters_no hh)
   have e2 : decide ((goS [] b).length + 1 ≤ 2) = false := by
    have : ∃ x y, b = x ++ 47 :: y ∧ ¬ (47 : UInt8) ∈ x := by
     refine ⟨b.takeWhile (· != 47), (b.dropWhile (· != 47)).tail, ?_, tw_no b⟩
     have hd2 : b.dropWhile (· != 47) ≠ [] := fun e => drop_nil.1 e hb47
     have h3 := List.head_dropWhile_not (p := (· != 47)) (l := b) hd2
     conv => lhs; rw [← List.takeWhile_append_dropWhile (p := (· != 47)) (l := b)]
     congr 1
     rw [← List.cons_head_tail hd2]
     congr 1
     simpa using h3
    obtain ⟨x, y, rfl, hx⟩ := this
    rw [goS_yes x y [] hx]
    have hy := goS_len y []
    rw [decide_eq_false_iff_not, List.length_cons]
    omega
   rw [e1, e2]
   simp
  ·rw [goS_no b [] hb47, all_okc hb47]
   simp only [List.nil_append, List.all_cons, List.all_nil, List.length_cons, List.length_nil]
   cases a.all letter8 <;> cases b.all letter8 <;> cases okp a <;> cases okp b <;> simp
 ·have hd : l.dropWhile (· != 47) = [] := drop_nil.2 h
  have hcut : cutL l = (l, [], false) := by unfold cutL; rw [hd]
  rw [hcut, goS_no l [] h, all_okc h, partB_eq]
  simp only [List.nil_append, List.all_cons, List.all_nil, List.length_cons, List.length_nil]
  by_cases h1 : 1 ≤ l.length
  ·rw [decide_eq_true h1]
   cases l.all letter8 <;> cases okp l <;> simp
  ·have : l = [] := List.eq_nil_of_length_eq_zero (by omega)
   subst this
   rfl

theorem NameMay_eq {R : Type} (N : Nat) (hN : 10 < N) (l : List UInt8) (k : Bool → Option R) : Z84 N (bs l) k = k (nameB l) := by
 rw [NameMay_ref N hN, refB_eq]

end Go.Proofs.Ytdopealphpmaeaa
