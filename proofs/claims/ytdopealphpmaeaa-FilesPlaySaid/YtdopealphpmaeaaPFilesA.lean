/-
  the files (chapter 14): what the printed functions come to.
-/
import Derived.Test.YtdopealphpmaeaaPNm
import Derived.KernelRfl
set_option linter.unusedSimpArgs false
set_option linter.unusedVariables false
namespace Go.Proofs.Ytdopealphpmaeaa
open Go.Gx

abbrev DM := List (Int × List Int)
abbrev OL := List (Int × Int)

/-- the first free place -/
def freeV (f : List Int) : Int :=
  if 0 = f.getD 0 0 then 0 else if 0 = f.getD 1 0 then 1 else if 0 = f.getD 2 0 then 2 else if 0 = f.getD 3 0 then 3 else -1

theorem freeV_lt (f : List Int) : -1 ≤ freeV f ∧ freeV f ≤ 3 := by
  unfold freeV; split; · omega
  split; · omega
  split; · omega
  split <;> omega

theorem index_step {R : Type} (N : Nat) (k0 : Int → List Int → Int → TM → DM → OL → Option R) (k1 : List Int → Int → TM → DM → OL → Option R)
    (n i : Nat) (hi : i < 4) (f : List Int) (nx : Int) (m : TM) (d : DM) (l : OL) :
    Z72_l0 N k0 k1 (n + 1) 4 4 0 4 (i : Int) f nx m d l =
      if 0 = f.getD i 0 then k0 (i : Int) f nx m d l else Z72_l0 N k0 k1 n 4 4 0 4 ((i + 1 : Nat) : Int) f nx m d l := by
  simp only [Z72_l0, Z72_l0_T0]
  rw [br_of (decide_eq_true (by omega)), br_of (inB_of (by omega)), br_of (decide_eq_true (by omega)), br_dec, w64_succ (by omega)]
  rfl

theorem index_eq {R : Type} (N : Nat) (hN : 8 < N) (f : List Int) (nx : Int) (m : TM) (d : DM) (l : OL) (k : Int → List Int → Int → TM → DM → OL → Option R) :
    Z72 N 4 4 0 f nx m d l k = k (freeV f) f nx m d l := by
  obtain ⟨n, rfl⟩ : ∃ n, N = n + 1 + 1 + 1 + 1 + 1 := ⟨N - 5, by omega⟩
  unfold Z72 Z72_T
  have h0 := fun k0 k1 => index_step (R := R) (n + 1 + 1 + 1 + 1 + 1) k0 k1 (n + 1 + 1 + 1 + 1) 0 (by omega) f nx m d l
  have h1 := fun k0 k1 => index_step (R := R) (n + 1 + 1 + 1 + 1 + 1) k0 k1 (n + 1 + 1 + 1) 1 (by omega) f nx m d l
  have h2 := fun k0 k1 => index_step (R := R) (n + 1 + 1 + 1 + 1 + 1) k0 k1 (n + 1 + 1) 2 (by omega) f nx m d l
  have h3 := fun k0 k1 => index_step (R := R) (n + 1 + 1 + 1 + 1 + 1) k0 k1 (n + 1) 3 (by omega) f nx m d l
  refine (h0 _ _).trans ?_
  unfold freeV
  by_cases c0 : 0 = f.getD 0 0
  · rw [if_pos c0, if_pos c0]; rfl
  rw [if_neg c0, if_neg c0]
  refine (h1 _ _).trans ?_
  by_cases c1 : 0 = f.getD 1 0
  · rw [if_pos c1, if_pos c1]; rfl
  rw [if_neg c1, if_neg c1]
  refine (h2 _ _).trans ?_
  by_cases c2 : 0 = f.getD 2 0
  · rw [if_pos c2, if_pos c2]; rfl
  rw [if_neg c2, if_neg c2]
  refine (h3 _ _).trans ?_
  by_cases c3 : 0 = f.getD 3 0
  · rw [if_pos c3, if_pos c3]; rfl
  rw [if_neg c3, if_neg c3]
  rfl

theorem free_eq {R : Type} (N : Nat) (hN : 8 < N) (f : List Int) (nx : Int) (m : TM) (d : DM) (l : OL) (k : Int → Bool → List Int → Int → TM → DM → OL → Option R) :
    Z19 N f nx m d l k = k (freeV f) (decide (0 ≤ freeV f)) f nx m d l := by
  unfold Z19 Z19_T
  rw [index_eq N hN]

theorem may_eq {R : Type} (N : Nat) (hN : 8 < N) (s : List UInt8) (f : List Int) (nx : Int) (hx : 0 ≤ nx ∧ nx < 4611686018427387904) (m : TM) (d : DM) (l : OL)
    (k : Bool → List Int → Int → TM → DM → OL → Option R) :
    Z20 N (bs s) f nx m d l k = k (!(decide (makeC s false m = 65282))) f nx m d l := by
  unfold Z20 Z20_T Z78 Z78_T
  show br (decide (nx = nx)) (Z81 N (bs s) false nx m _) none = _
  rw [br_of (decide_eq_true rfl), make_eq N hN s false nx hx]
  by_cases h : makeC s false m = 0
  · rw [if_pos h, h]
  · rw [if_neg h]

/-- opening a name of one letter -/
def openV {R : Type} (k : Nat) (f : List Int) (nx : Int) (m : TM) (d : DM) (l : OL) (K : Int → List Int → Int → TM → DM → OL → Option R) : Option R :=
  if 0 ≤ freeV f then
    match tfind m (key k) with
    | some v => K (freeV f) (f.set (freeV f).toNat ((l.length + 1 : Nat) : Int)) nx m d (l ++ [(v.1, 0)])
    | none => if 8 ≤ m.length then K 65308 f nx m d l
      else K (freeV f) (f.set (freeV f).toNat ((l.length + 1 : Nat) : Int)) (nx + 1) (tput m (key k) (nx, false)) d (l ++ [(nx, 0)])
  else K 65304 f nx m d l

theorem findV_nm {k : Nat} (h : k < 26) (m : TM) : findV (nm k) m = match tfind m (key k) with
    | none => (-1, false, 65282)
    | some x => (x.1, x.2, 0) := by
  unfold findV
  rw [getV_nm h]
  cases tfind m (key k) with
  | none => rfl
  | some v => rfl

theorem open_nm {R : Type} (N : Nat) (hN : 8 < N) {k : Nat} (hk : k < 26) (f : List Int) (nx : Int) (hx : 0 ≤ nx ∧ nx < 4611686018427387904) (m : TM) (d : DM) (l : OL)
    (hl : l.length ≤ 1000000) (file : ∀ v, tfind m (key k) = some v → v.2 = false) (K : Int → List Int → Int → TM → DM → OL → Option R) :
    Z7 N (bs (nm k)) f nx m d l K = openV k f nx m d l K := by
  unfold Z7 Z7_T openV
  rw [find_eq N hN, findV_nm hk]
  have hf := freeV_lt f
  have hfit : (((fits 0 l.length l) && (decide ((((l.length : Int) + 1) * 16) ≤ 70368744177664))) && true) = true := by
    rw [fits_of (by omega), decide_eq_true (by omega)]; rfl
  have hfit' : (((fits 0 l.length l) && (decide (((l.length + 1) * 16) ≤ 70368744177664))) && true) = true := by
    rw [fits_of (by omega), decide_eq_true (by omega)]; rfl
  have e1 : decide ((0 : Int) = 65300) = false := by decide
  have e2 : decide ((65282 : Int) = 65300) = false := by decide
  have e3 : decide ((65282 : Int) = 0) = false := by decide
  have e4 : decide ((0 : Int) = 0) = true := by decide
  have e5 : decide ((65308 : Int) = 0) = false := by decide
  have e6 : decide ((65308 : Int) = 65282) = false := by decide
  have e7 : decide ((0 : Int) = 65282) = false := by decide
  have go : ∀ {nx' : Int} {m' : TM} {id : Int}, 0 ≤ freeV f →
      br (((fits 0 l.length l) && (decide (((l.length + 1) * 16) ≤ 70368744177664))) && true)
        (br (inB (freeV f) 4) (br (decide ((freeV f).toNat < 4))
          (K (IntKind.wrap .u16 (freeV f)) (f.set (freeV f).toNat ((l.length + 1 : Nat) : Int)) nx' m' d (sub l 0 l.length ++ [(id, 0)])) none) none) none
      = K (freeV f) (f.set (freeV f).toNat ((l.length + 1 : Nat) : Int)) nx' m' d (l ++ [(id, 0)]) := by
    intro nx' m' id h
    rw [br_of hfit', br_of (inB_of (by omega)), br_of (decide_eq_true (by omega)), wu16 (by omega), sub_all]
  cases hs : tfind m (key k) with
  | some v =>
    simp only [free_eq N hN, file v hs, e1, e4, br_true, br_false, Bool.not_true, Bool.not_false]
    by_cases h : 0 ≤ freeV f
    · rw [if_pos h, decide_eq_true h]
      exact go h
    · rw [if_neg h, decide_eq_false h]
      rfl
  | none =>
    have hm := makeC_nm hk m
    rw [hs] at hm
    simp only [Option.isSome_none, Bool.false_eq_true, if_false] at hm
    simp only [free_eq N hN, may_eq N hN (nm k) f nx hx, e2, e3, e4, br_true, br_false, Bool.not_true, Bool.not_false]
    by_cases h : 0 ≤ freeV f
    · rw [if_pos h, decide_eq_true h]
      by_cases h8 : 8 ≤ m.length
      · rw [if_pos h8] at hm
        simp only [make_eq N hN (nm k) false nx hx, hm, e5, e6, br_true, br_false, Bool.not_true, Bool.not_false]
        rw [if_neg (by omega), if_pos h8]
        try simp only [e5, br_true, Bool.not_false]
      · rw [if_neg h8] at hm
        simp only [make_eq N hN (nm k) false nx hx, hm, e4, e7, br_true, br_false, Bool.not_true, Bool.not_false]
        rw [if_pos trivial, if_neg h8]
        try simp only [e4, br_false, Bool.not_true]
        rw [split_nm hk]
        exact go h
    · rw [if_neg h, decide_eq_false h]
      by_cases h8 : 8 ≤ m.length
      · rw [if_pos h8] at hm
        simp only [hm, e6, br_true, br_false, Bool.not_true, Bool.not_false]
      · rw [if_neg h8] at hm
        simp only [hm, e7, br_true, br_false, Bool.not_true, Bool.not_false]

def dgetV (d : DM) (i : Int) : List Int := Option.getD (mfind (.int .i64) (.isl (.int .u8)) d i) (Sh.zero (.isl (.int .u8)))

set_option maxRecDepth 1000000 in
theorem awake14 {R : Type} (k : Bool → Option R) : Z26 3000 k = k true := by kernel_rfl

end Go.Proofs.Ytdopealphpmaeaa
