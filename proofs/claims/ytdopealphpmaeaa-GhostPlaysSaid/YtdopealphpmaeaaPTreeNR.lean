/-
 a tree is made of a list, by the program and by the reference (chapters 12, 13): both take the same lists.
-/
import Derived.Test.YtdopealphpmaeaaPNm
import Derived.Test.YtdopealphpmaeaaPRefName
set_option linter.unusedVariables false
set_option linter.unusedSimpArgs false
namespace Go.Proofs.Ytdopealphpmaeaa
open Go.Gx

abbrev EN := ByteArray × Bool × Int
def pth (s : ByteArray) : List UInt8 := s.data.toList
theorem bs_pth (s : ByteArray) : bs (pth s) = s := bs_list s

/-! ### a name's two parts -/
theorem cutL_yes {a b : List UInt8} (ha : ¬ (47 : UInt8) ∈ a) : cutL (a ++ 47 :: b) = (a, b, true) := by
 have h1 : (a ++ 47 :: b).dropWhile (· != 47) = 47 :: b := by
  induction a with
  | nil => simp
  | cons c r ih =>
   simp only [List.mem_cons, not_or] at ha
   have hb : (c != 47) = true := by simpa using fun e => ha.1 e.symm
   simp only [List.cons_append, List.dropWhile_cons, hb, if_true]
   exact ih ha.2
 have h2 : (a ++ 47 :: b).takeWhile (· != 47) = a := by
  induction a with
  | nil => simp
  | cons c r ih =>
   simp only [List.mem_cons, not_or] at ha
   have hb : (c != 47) = true := by simpa using fun e => ha.1 e.symm
   simp only [List.cons_append, List.takeWhile_cons, hb, if_true, List.cons.injEq, true_and]
   refine ih ha.2 ?_
   simpa [List.dropWhile_cons, hb] using h1
 unfold cutL
 rw [h1, h2]

theorem cutL_no {l : List UInt8} (h : ¬ (47 : UInt8) ∈ l) : cutL l = (l, [], false) := by
 unfold cutL
 rw [drop_nil.2 h]

theorem rs_l0 {R : Type} (N : Nat) (k : ByteArray → ByteArray → Option R) (l : List UInt8) (hl : l.length < 9223372036854775807) :
  ∀ (m i n : Nat), l.length - i = m → i ≤ l.length → ¬ (47 : UInt8) ∈ l.take i → m < n →
   Z87_l0 N (fun _ a b => k a b) (fun s => k (bs []) s) n (bs l) (i : Int) = if (cutL l).2.2 then k (bs (cutL l).1) (bs (cutL l).2.1) else k (bs []) (bs l) := by
 intro m
 induction m with
 | zero =>
  intro i n hm hi h hn
  obtain ⟨n, rfl⟩ : ∃ n', n = n' + 1 := ⟨n - 1, by omega⟩
  have : i = l.length := by omega
  subst this
  rw [List.take_length] at h
  rw [cutL_no h]
  simp only [Z87_l0, Z87_l0_T0, bs_size]
  rw [br_dec, if_neg (by omega)]
  rfl
 | succ m ih =>
  intro i n hm hi h hn
  obtain ⟨n, rfl⟩ : ∃ n', n = n' + 1 := ⟨n - 1, by omega⟩
  have hlt : i < l.length := by omega
  simp only [Z87_l0, Z87_l0_T0, bs_size]
  rw [br_dec, if_pos (by omega), br_of (inB_of (by omega)), bt_get hlt, br_dec, w64_succ (by omega)]
  by_cases h47 : l[i] = 47
  ·rw [if_pos (by rw [h47]; rfl), br_of (leB_of (by omega)), br_of (leB_of (by omega))]
   have hl2 : l = l.take i ++ 47 :: l.drop (i + 1) := by
    conv => lhs; rw [← List.take_append_drop i l, List.drop_eq_getElem_cons hlt, h47]
   have hc : cutL l = (l.take i, l.drop (i + 1), true) := by
    conv => lhs; rw [hl2]
    exact cutL_yes h
   rw [hc, if_pos rfl]
   show k ((bs l).extract 0 (Int.toNat (i : Int))) ((bs l).extract (Int.toNat ((i + 1 : Nat) : Int)) l.length) = _
   rw [Int.toNat_natCast, Int.toNat_natCast, bs_extract, bs_extract, List.drop_zero, Nat.sub_zero, List.take_of_length_le (l := l.drop (i + 1)) (by simp)]
  ·rw [if_neg (fun e => h47 (UInt8.toNat_inj.1 (show l[i].toNat = 47 by omega)))]
   refine ih (i + 1) n (by omega) (by omega) ?_ (by omega)
   rw [List.take_succ_eq_append_getElem hlt, List.mem_append, not_or]
   exact ⟨h, by simpa using fun e => h47 e.symm⟩

theorem refSplit_eq {R : Type} (N : Nat) (hN : 10 < N) (l : List UInt8) (k : ByteArray → ByteArray → Option R) : Z87 N (bs l) k = k (bs (splitL l).1) (bs (splitL l).2) := by
 unfold Z87 Z87_T splitL
 rw [NameMay_eq N hN, br_neg]
 cases h : nameB l with
 | false => rfl
 | true =>
  have hlen : l.length ≤ 8 := by
   unfold nameB at h
   simp only [Bool.and_eq_true, decide_eq_true_eq] at h
   exact h.1.1
  simp only [br_true, cond_true]
  refine (rs_l0 N k l (by omega) l.length 0 N (by omega) (by omega) (by simp) (by omega)).trans ?_
  cases hc : (cutL l).2.2 with
  | true => rfl
  | false =>
   have h47 : ¬ (47 : UInt8) ∈ l := fun hm => by
    have hd : l.dropWhile (· != 47) ≠ [] := fun e => drop_nil.1 e hm
    unfold cutL at hc
    cases hh : l.dropWhile (· != 47) with
    | nil => exact hd hh
    | cons a t => rw [hh] at hc; cases hc
   rw [cutL_no h47]
   rfl

/-- a name is its parts -/
theorem name_parts {l : List UInt8} (h : nameB l = true) : (splitL l).2 ≠ [] ∧ (l = if (splitL l).1 = [] then (splitL l).2 else (splitL l).1 ++ 47 :: (splitL l).2) ∧
  ((splitL l).1 ≠ [] → nameB (splitL l).1 = true ∧ splitL (splitL l).1 = ([], (splitL l).1)) := by
 have h0 := h
 unfold nameB at h
 simp only [Bool.and_eq_true, decide_eq_true_eq] at h
 obtain ⟨⟨hlen, h1⟩, h2⟩ := h
 have pne : ∀ {p : List UInt8}, partB p = true → p ≠ [] ∧ ¬ (47 : UInt8) ∈ p := fun {p} hp => by
  rw [partB_eq] at hp
  simp only [Bool.and_eq_true, okp] at hp
  exact ⟨by simpa using hp.2.1.1, letters_no hp.1⟩
 by_cases h47 : (47 : UInt8) ∈ l
 ·obtain ⟨a, b, rfl, ha⟩ : ∃ a b, l = a ++ 47 :: b ∧ ¬ (47 : UInt8) ∈ a := by
   refine ⟨l.takeWhile (· != 47), (l.dropWhile (· != 47)).tail, ?_, tw_no l⟩
   have hd2 : l.dropWhile (· != 47) ≠ [] := fun e => drop_nil.1 e h47
   have h3 := List.head_dropWhile_not (p := (· != 47)) (l := l) hd2
   conv => lhs; rw [← List.takeWhile_append_dropWhile (p := (· != 47)) (l := l)]
   congr 1
   rw [← List.cons_head_tail hd2]
   congr 1
   simpa using h3
  have hc := cutL_yes (b := b) ha
  have hs : splitL (a ++ 47 :: b) = (a, b) := by simp [splitL, h0, hc]
  rw [hc] at h1 h2
  have h2 : partB b = true := by simpa using h2
  obtain ⟨a1, a2⟩ := pne h1
  obtain ⟨b1, _⟩ := pne h2
  rw [hs]
  have hna : nameB a = true := by
   have : a.length ≤ 8 := by simp at hlen; omega
   simp [nameB, cutL_no a2, this, h1]
  exact ⟨b1, by simp [a1], fun _ => ⟨hna, by simp [splitL, hna, cutL_no a2]⟩⟩
 ·have hc := cutL_no h47
  have hs : splitL l = ([], l) := by simp [splitL, h0, hc]
  rw [hc] at h1
  rw [hs]
  exact ⟨(pne h1).1, by simp, fun h => absurd rfl h⟩

theorem split_inj {p q : List UInt8} (hp : nameB p = true) (hq : nameB q = true) (h : splitL p = splitL q) : p = q := by
 rw [(name_parts hp).2.1, (name_parts hq).2.1, h]

/-! ### where a path stands in a list -/
def atI (p : ByteArray) : Nat → List EN → Int
 | _, [] => -1
 | i, x :: r => if x.1 = p then (i : Int) else atI p (i + 1) r

def fnd (p : ByteArray) : List EN → Option Bool
 | [] => none
 | x :: r => if x.1 = p then some x.2.1 else fnd p r

theorem atI_spec (p : ByteArray) : ∀ (L : List EN) (i : Nat), match fnd p L with
  | none => atI p i L = -1
  | some b => ∃ j : Nat, atI p i L = ((i + j : Nat) : Int) ∧ ∃ h : j < L.length, L[j].2.1 = b
 | [], i => rfl
 | x :: r, i => by
  unfold fnd atI
  by_cases h : x.1 = p
  ·rw [if_pos h, if_pos h]
   exact ⟨0, by simp, by simp, rfl⟩
  ·rw [if_neg h, if_neg h]
   have := atI_spec p r (i + 1)
   cases hf : fnd p r with
   | none => rw [hf] at this; exact this
   | some b =>
    rw [hf] at this
    obtain ⟨j, h1, h2, h3⟩ := this
    exact ⟨j + 1, by rw [h1]; congr 1; omega, by simpa using h2, by simpa using h3⟩

theorem at_l0 {R : Type} (N : Nat) (k : Int → Int → List EN → Option R) (p : ByteArray) (nx : Int) (L : List EN) (hL : L.length < 1000) :
  ∀ (m i n : Nat), L.length - i = m → i ≤ L.length → m < n → Z94_l0 N (fun a b c => k a b c) (fun b c => k (-1) b c) n p (i : Int) nx L = k (atI p i (L.drop i)) nx L := by
 intro m
 induction m with
 | zero =>
  intro i n hm hi hn
  obtain ⟨n, rfl⟩ : ∃ n', n = n' + 1 := ⟨n - 1, by omega⟩
  have : i = L.length := by omega
  subst this
  simp only [Z94_l0, Z94_l0_T0, br_dec, List.drop_length]
  rw [if_neg (by omega)]
  rfl
 | succ m ih =>
  intro i n hm hi hn
  obtain ⟨n, rfl⟩ : ∃ n', n = n' + 1 := ⟨n - 1, by omega⟩
  have hlt : i < L.length := by omega
  have hg : L.getD i (bs [], false, 0) = L[i] := by simp [List.getD, hlt]
  simp only [Z94_l0, Z94_l0_T0, Int.toNat_natCast, hg]
  rw [br_dec, if_pos (by omega), br_of (inB_of (by omega)), br_of (decide_eq_true hlt), br_dec, List.drop_eq_getElem_cons hlt]
  unfold atI
  by_cases h : L[i].1 = p
  ·rw [if_pos h, if_pos h]
  ·rw [if_neg h, if_neg h, w64_succ (by omega), ih (i + 1) n (by omega) (by omega) (by omega)]

theorem at_eq {R : Type} (N : Nat) (k : Int → Int → List EN → Option R) (p : ByteArray) (nx : Int) (L : List EN) (hL : L.length < 1000) (hN : L.length < N) : Z94 N p nx L k = k (atI p 0 L) nx L := by
 unfold Z94 Z94_T
 have := at_l0 N k p nx L hL L.length 0 N (by omega) (by omega) hN
 rw [List.drop_zero] at this
 exact this

end Go.Proofs.Ytdopealphpmaeaa
