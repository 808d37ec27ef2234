/-
 names: letters, parts, names (chapter 11): what the printed functions come to.
-/
import Derived.Test.YtbclodhbcplhmaaGreatD
import Derived.Test.YtbclodhbcplhmaaGreatGx5
namespace Go.Proofs.YtbclodhbcplhmaaGreat
open Go.Gx

def letter8 (c : UInt8) : Bool := (97 ≤ c && c ≤ 122) || (48 ≤ c && c ≤ 57) || c == 46 || c == 95
def letterI (x : Int) : Bool := (decide (97 ≤ x) && decide (x ≤ 122)) || (decide (48 ≤ x) && decide (x ≤ 57)) || decide (x = 46) || decide (x = 95)

theorem letterI_u8 (c : UInt8) : letterI (c.toNat : Int) = letter8 c := by
 unfold letterI letter8
 have h1 : decide ((97 : Int) ≤ c.toNat) = decide (97 ≤ c) := by rw [decide_eq_decide, UInt8.le_iff_toNat_le]; simp; omega
 have h2 : decide ((c.toNat : Int) ≤ 122) = decide (c ≤ 122) := by rw [decide_eq_decide, UInt8.le_iff_toNat_le]; simp; omega
 have h3 : decide ((48 : Int) ≤ c.toNat) = decide (48 ≤ c) := by rw [decide_eq_decide, UInt8.le_iff_toNat_le]; simp; omega
 have h4 : decide ((c.toNat : Int) ≤ 57) = decide (c ≤ 57) := by rw [decide_eq_decide, UInt8.le_iff_toNat_le]; simp; omega
 have h5 : decide ((c.toNat : Int) = 46) = (c == 46) := by rw [Bool.eq_iff_iff]; simp only [decide_eq_true_eq, beq_iff_eq, ← UInt8.toNat_inj]; simp; omega
 have h6 : decide ((c.toNat : Int) = 95) = (c == 95) := by rw [Bool.eq_iff_iff]; simp only [decide_eq_true_eq, beq_iff_eq, ← UInt8.toNat_inj]; simp; omega
 rw [h1, h2, h3, h4, h5, h6]

theorem Z6_eq (R : Type) (N : Nat) (x : Int) (k : Bool → Option R) : Z6 N x k = k (letterI x) := by
 unfold Z6 Z6_T
 simp only [br_dec, br_ndec]
 repeat' split
 all_goals
  congr 1
  rw [Bool.eq_iff_iff]
  simp only [letterI, Bool.or_eq_true, Bool.and_eq_true, decide_eq_true_eq]
  try simp only [true_iff]
  omega

def partB (l : List UInt8) : Bool := l.all letter8 && !(l == []) && !(l == [46]) && !(l == [46, 46])

theorem Z12_l0_eq {R : Type} (N : Nat) (k0 : ByteArray → Bool → Option R) (k1 : ByteArray → Option R) (l : List UInt8) (hl : l.length < 9223372036854775807) :
  ∀ (m i n : Nat), l.length - i = m → i ≤ l.length → m < n → Z12_l0 N k0 k1 n (bs l) (l.length : Int) (i : Int) = if (l.drop i).all letter8 then k1 (bs l) else k0 (bs l) false := by
 intro m
 induction m with
 | zero =>
  intro i n hm hi hn
  obtain ⟨n, rfl⟩ : ∃ n', n = n' + 1 := ⟨n - 1, by omega⟩
  have : i = l.length := by omega
  subst this
  simp only [Z12_l0, Z12_l0_T0, br_dec, List.drop_length, List.all_nil, if_true]
  rw [if_neg (by omega)]
 | succ m ih =>
  intro i n hm hi hn
  obtain ⟨n, rfl⟩ : ∃ n', n = n' + 1 := ⟨n - 1, by omega⟩
  have hlt : i < l.length := by omega
  simp only [Z12_l0, Z12_l0_T0, br_dec]
  rw [if_pos (by omega), br_of (inB_of (by rw [bs_size]; omega)), Z6_eq, bt_get hlt, letterI_u8, w64_succ (by omega), ih (i + 1) n (by omega) (by omega) (by omega)]
  have hd : l.drop i = l[i] :: l.drop (i + 1) := (List.drop_eq_getElem_cons hlt)
  rw [hd, List.all_cons, br_neg]
  cases letter8 l[i] <;> simp

theorem Z12_eq' {R : Type} (N : Nat) (l : List UInt8) (hl : l.length < N) (hl' : l.length < 9223372036854775807) (k : Bool → Option R) : Z12 N (bs l) k = k (partB l) := by
 unfold Z12 Z12_T
 have h := Z12_l0_eq N (fun (_ : ByteArray) b => k b) (fun s16 => br (!(decide (s16 = (bs []))))
  (br (!(decide (s16 = (bs [46])))) (k (!(decide (s16 = (bs [46, 46]))))) (k false)) (k false)) l hl' l.length 0 N (by omega) (by omega) hl
 rw [bs_size]
 refine h.trans ?_
 simp only [List.drop_zero, bs_inj, br_ndec]
 unfold partB
 cases l.all letter8 with
 | false => simp
 | true =>
  by_cases h1 : l = []
  ·simp [h1]
  ·by_cases h2 : l = [46]
   ·simp [h2]
   ·have e1 : (l == []) = false := by simpa using h1
    have e2 : (l == [46]) = false := by simpa using h2
    rw [if_pos rfl, if_neg h1, if_neg h2, e1, e2]
    by_cases h3 : l = [46, 46]
    ·simp [h3]
    ·have e3 : (l == [46, 46]) = false := by simpa using h3
     rw [e3, decide_eq_false h3]
     rfl

/-- a text, parted at its first stroke -/
def cutL (l : List UInt8) : List UInt8 × List UInt8 × Bool := match l.dropWhile (· != 47) with
 | [] => (l, [], false)
 | _ :: t => (l.takeWhile (· != 47), t, true)

theorem drop_take {l : List UInt8} (c : UInt8) : l.drop (l.takeWhile (· != c)).length = l.dropWhile (· != c) := by
 have := List.takeWhile_append_dropWhile (p := (· != c)) (l := l)
 conv => lhs; rw [← this]
 rw [List.drop_left']
 simp [this]

theorem len_parts (l : List UInt8) (c : UInt8) : (l.takeWhile (· != c)).length + (l.dropWhile (· != c)).length = l.length := by
 rw [← List.length_append, List.takeWhile_append_dropWhile]

theorem drop_nil {l : List UInt8} {c : UInt8} : l.dropWhile (· != c) = [] ↔ ¬ c ∈ l := by
 induction l with
 | nil => simp
 | cons a l ih =>
  by_cases h : a = c
  ·subst h; simp
  ·have h' : ¬ (c = a) := fun e => h e.symm
   simp [h, h', ih]

theorem index_stroke {R : Type} (N : Nat) (l : List UInt8) (k : Int → Option R) : Z106 N (bs l) (bs [47]) k = k (if (47 : UInt8) ∈ l then ((l.takeWhile (· != 47)).length : Int) else -1) := by
 unfold Z106 Z106_T
 have hs : ((bs [47]).size : Int) = 1 := rfl
 simp only [hs, br_dec, br_ndec]
 rw [if_neg (by omega)]
 by_cases h : bs [47] = bs l
 ·rw [if_pos h]
  rw [bs_inj] at h
  subst h
  rfl
 ·rw [if_neg h, if_pos trivial, br_of (by rfl)]
  have : bt (bs [47]) 0 = 47 := rfl
  rw [this]
  unfold stringslite_IndexByte
  rw [bs_data, indexByte_eq]
  rfl

theorem cut_stroke {R : Type} (N : Nat) (l : List UInt8) (hl : l.length < 9223372036854775807) (k : ByteArray → ByteArray → Bool → Option R) :
  Z104 N (bs l) (bs [47]) k = k (bs (cutL l).1) (bs (cutL l).2.1) (cutL l).2.2 := by
 unfold Z104 Z104_T Z105 Z105_T
 rw [index_stroke]
 have hs : ((bs [47]).size : Int) = 1 := rfl
 simp only [hs]
 simp only [bs_size]
 by_cases h : (47 : UInt8) ∈ l
 ·rw [if_pos h]
  have hd : l.dropWhile (· != 47) ≠ [] := fun e => drop_nil.1 e h
  have hlen := len_parts l 47
  have hpos : 0 < (l.dropWhile (· != 47)).length := List.length_pos_iff.2 hd
  rw [br_of (by simp), br_of (leB_of (by omega)), w64 (by omega), br_of (leB_of (by omega))]
  rw [bs_extract, bs_extract]
  have e1 : (((l.takeWhile (· != 47)).length : Int) + 1).toNat = (l.takeWhile (· != 47)).length + 1 := by omega
  have e2 : ((l.takeWhile (· != 47)).length : Int).toNat = (l.takeWhile (· != 47)).length := by omega
  rw [e1, e2]
  have hc : cutL l = (l.takeWhile (· != 47), (l.dropWhile (· != 47)).tail, true) := by
   unfold cutL
   cases hh : l.dropWhile (· != 47) with
   | nil => exact absurd hh hd
   | cons a t => rfl
  rw [hc]
  congr 2
  ·simp only [List.drop_zero, Nat.sub_zero]
   exact (List.prefix_iff_eq_take.1 (List.takeWhile_prefix _)).symm
  ·rw [← List.drop_drop, drop_take, List.take_of_length_le (by simp; omega), List.drop_one]
 ·rw [if_neg h, br_not (by simp)]
  have hd : l.dropWhile (· != 47) = [] := drop_nil.2 h
  have hc : cutL l = (l, [], false) := by unfold cutL; rw [hd]
  rw [hc]

theorem cutL_len (l : List UInt8) : (cutL l).1.length ≤ l.length ∧ (cutL l).2.1.length ≤ l.length := by
 have hlen := len_parts l 47
 unfold cutL
 split
 ·simp
 ·rename_i h
  rw [h] at hlen
  simp at hlen ⊢
  omega

def nameB (l : List UInt8) : Bool := decide (l.length ≤ 8) && partB (cutL l).1 && (!(cutL l).2.2 || partB (cutL l).2.1)

theorem Z0_eq' {R : Type} (N : Nat) (hN : 8 < N) (l : List UInt8) (k : Bool → Option R) : Z0 N (bs l) k = k (nameB l) := by
 unfold Z0 Z0_T
 rw [bs_size, br_dec]
 unfold nameB
 by_cases h : l.length ≤ 8
 ·have hl := cutL_len l
  rw [if_neg (by omega), cut_stroke N l (by omega), Z12_eq' N _ (by omega) (by omega)]
  simp only [decide_eq_true h, Bool.true_and]
  cases partB (cutL l).1 with
  | false => rfl
  | true =>
   simp only [br_true, Bool.true_and]
   cases (cutL l).2.2 with
   | false => rfl
   | true =>
    simp only [Bool.not_true, Bool.not_false, br_true, Bool.false_or]
    exact Z12_eq' N _ (by omega) (by omega) _
 ·rw [if_pos (by omega), decide_eq_false h]
  rfl

end Go.Proofs.YtbclodhbcplhmaaGreat
