/-
 the files (chapter 14): what the printed functions come to (the deeds upon what is open).
-/
import Derived.Test.YtbclodhbcplhmaaGreatPRunA
set_option linter.unusedSimpArgs false
set_option linter.unusedVariables false
namespace Go.Proofs.YtbclodhbcplhmaaGreat
open Go.Gx

theorem sub_nat {α : Type} (l : List α) (a n : Nat) : sub l a n = (l.drop a).take n := rfl

theorem file_open {R : Type} (N : Nat) (fd j : Nat) (hfd : fd < 4) (f : List Int) (hj : f.getD fd 0 = ((j + 1 : Nat) : Int)) (nx : Int) (m : TM) (d : DM) (l : OL) (hl : j < l.length) (hl2 : l.length ≤ 1000000)
  (k0 : List Int → Int → TM → DM → OL → Option R) (k1 : Int → List Int → Int → TM → DM → OL → Option R) :
  Z33 N (fd : Int) f nx m d l k0 k1 = k1 (j : Int) f nx m d l := by
 unfold Z33 Z33_T
 have hn : Int.toNat (fd : Int) = fd := by omega
 have e1 : IntKind.wrap .i64 (((j + 1 : Nat) : Int) - 1) = (j : Int) := by rw [w64 (by omega)]; omega
 simp only [hn, hj, e1]
 rw [br_of (by rw [decide_eq_false (by omega)]; rfl), br_of (inB_of (by omega)), br_of (decide_eq_true hfd), br_not (decide_eq_false (by omega)), br_of (inB_of (by omega)), br_of (decide_eq_true hfd), br_of (inB_of (by omega))]

theorem file_none {R : Type} (N : Nat) (fd : Nat) (hfd : fd < 4) (f : List Int) (hj : f.getD fd 0 = 0) (nx : Int) (m : TM) (d : DM) (l : OL)
  (k0 : List Int → Int → TM → DM → OL → Option R) (k1 : Int → List Int → Int → TM → DM → OL → Option R) :
  Z33 N (fd : Int) f nx m d l k0 k1 = k0 f nx m d l := by
 unfold Z33 Z33_T
 have hn : Int.toNat (fd : Int) = fd := by omega
 simp only [hn, hj]
 rw [br_of (by rw [decide_eq_false (by omega)]; rfl), br_of (inB_of (by omega)), br_of (decide_eq_true hfd)]
 rfl

theorem seek_eq {R : Type} (N : Nat) (fd j : Nat) (hfd : fd < 4) (f : List Int) (hj : f.getD fd 0 = ((j + 1 : Nat) : Int)) (nx : Int) (m : TM) (d : DM) (l : OL) (hl : j < l.length) (hl2 : l.length ≤ 1000000)
  (n : Nat) (hn : n ≤ 255) (K : Int → List Int → Int → TM → DM → OL → Option R) :
  Z25 N (fd : Int) (n : Int) f nx m d l K = K (n : Int) f nx m d (l.set j ((l.getD j (0, 0)).1, (n : Int))) := by
 unfold Z25 Z25_T
 rw [file_open N fd j hfd f hj nx m d l hl hl2]
 have hjn : Int.toNat (j : Int) = j := by omega
 simp only [hjn]
 rw [br_not (decide_eq_false (by omega)), br_of (decide_eq_true hl), w64 (by omega)]

theorem size_eq {R : Type} (N : Nat) (fd j : Nat) (hfd : fd < 4) (f : List Int) (hj : f.getD fd 0 = ((j + 1 : Nat) : Int)) (nx : Int) (m : TM) (d : DM) (l : OL) (hl : j < l.length) (hl2 : l.length ≤ 1000000)
  (hb : (dgetV d (l.getD j (0, 0)).1).length ≤ 60000) (K : Int → List Int → Int → TM → DM → OL → Option R) :
  Z26 N (fd : Int) f nx m d l K = K ((dgetV d (l.getD j (0, 0)).1).length : Int) f nx m d l := by
 unfold Z26 Z26_T
 rw [file_open N fd j hfd f hj nx m d l hl hl2]
 have hjn : Int.toNat (j : Int) = j := by omega
 simp only [hjn]
 rw [br_of (decide_eq_true hl)]
 show K (IntKind.wrap .u16 ((dgetV d (l.getD j (0, 0)).1).length : Int)) f nx m d l = _
 rw [wu16 (by omega)]

theorem min_int (a b : Nat) : (if (a : Int) < (b : Int) then (a : Int) else (b : Int)) = ((min a b : Nat) : Int) := by
 split <;> omega

theorem read_eq {R : Type} (N : Nat) (fd j : Nat) (hfd : fd < 4) (f : List Int) (hj : f.getD fd 0 = ((j + 1 : Nat) : Int)) (nx : Int) (m : TM) (d : DM) (l : OL) (hl : j < l.length) (hl2 : l.length ≤ 1000000)
  (id : Int) (a : Nat) (ha : a ≤ 1000000) (hat : l.getD j (0, 0) = (id, (a : Int))) (hb : (dgetV d id).length ≤ 60000) (n : Nat) (hn : n ≤ 65535)
  (K : Int → List Int → Int → TM → DM → OL → List Int → Option R) :
  Z22 N (fd : Int) (n : Int) f nx m d l K =
   K (((((dgetV d id).drop a).take n).length : Nat) : Int) f nx m d (l.set j (id, ((a + (((dgetV d id).drop a).take n).length : Nat) : Int))) (((dgetV d id).drop a).take n) := by
 unfold Z22 Z22_T
 rw [file_open N fd j hfd f hj nx m d l hl hl2]
 have hjn : Int.toNat (j : Int) = j := by omega
 simp only [hjn, hat]
 rw [br_of (decide_eq_true hl), br_of (decide_eq_true hl)]
 have hb0 : Option.getD (mfind (.int .i64) (.isl (.int .u8)) d id) (Sh.zero (.isl (.int .u8))) = dgetV d id := rfl
 simp only [hb0]
 generalize hB : dgetV d id = B at hb
 have e1 : (if ((B.length : Nat) : Int) < (a : Int) then ((B.length : Nat) : Int) else (a : Int)) = ((min B.length a : Nat) : Int) := min_int _ _
 have e2 : sub B (min B.length a) (B.length - min B.length a) = B.drop a := by
  rw [sub_nat]
  rw [List.take_of_length_le (by simp)]
  by_cases h : a ≤ B.length
  ·rw [Nat.min_eq_right h]
  ·rw [Nat.min_eq_left (by omega), List.drop_eq_nil_of_le (Nat.le_refl _), List.drop_eq_nil_of_le (by omega)]
 have e3 : ∀ x : Nat, Int.toNat (x : Int) = x := fun x => by omega
 simp only [e1, e3, e2, w64 (x := (n : Int)) (by omega)]
 have e4 : (if (((B.drop a).length : Nat) : Int) < (n : Int) then (((B.drop a).length : Nat) : Int) else (n : Int)) = ((min (B.drop a).length n : Nat) : Int) := min_int _ _
 have e5 : sub (B.drop a) 0 (min (B.drop a).length n - 0) = (B.drop a).take n := by
  rw [sub_nat, List.drop_zero, Nat.sub_zero]
  by_cases h : n ≤ (B.drop a).length
  ·rw [Nat.min_eq_right h]
  ·rw [Nat.min_eq_left (by omega), List.take_of_length_le (Nat.le_refl _), List.take_of_length_le (by omega)]
 simp only [e4, e3, e5]
 rw [br_of (leB_of (by omega)), br_of (leB_of (by omega))]
 have hlen : ((B.drop a).take n).length ≤ 60000 := by simp; omega
 unfold slices_Clone__byte_byte
 rw [br_of (by rw [decide_eq_true (by omega)]; rfl)]
 dsimp only
 rw [br_of (decide_eq_true hl), br_of (decide_eq_true hl), wu16 (by omega), w64 (by omega)]
 rfl

theorem read_none {R : Type} (N : Nat) (fd : Nat) (hfd : fd < 4) (f : List Int) (hj : f.getD fd 0 = 0) (nx : Int) (m : TM) (d : DM) (l : OL) (n : Int) (K : Int → List Int → Int → TM → DM → OL → List Int → Option R) :
  Z22 N (fd : Int) n f nx m d l K = K 65289 f nx m d l [] := by
 unfold Z22 Z22_T
 rw [file_none N fd hfd f hj]

/-- a file of so many bytes -/
def sizedV (b : List Int) (n : Nat) : List Int := b.take n ++ List.replicate (n - b.length) 0

theorem sized_loop {R : Type} (N : Nat) (k0 : List Int → Option R) (x : Nat) (hx : x ≤ 60000) :
  ∀ (e n : Nat) (b : List Int), x - b.length = e → e < n → Z38_l0 N k0 n (x : Int) b = k0 (b ++ List.replicate (x - b.length) 0) := by
 intro e
 induction e with
 | zero =>
  intro n b he hn
  obtain ⟨n, rfl⟩ : ∃ n', n = n' + 1 := ⟨n - 1, by omega⟩
  simp only [Z38_l0, Z38_l0_T0]
  rw [br_not (decide_eq_false (by omega)), he]
  simp
 | succ e ih =>
  intro n b he hn
  obtain ⟨n, rfl⟩ : ∃ n', n = n' + 1 := ⟨n - 1, by omega⟩
  simp only [Z38_l0, Z38_l0_T0]
  have hfit : (((fits 0 b.length b) && (decide (((b.length + 1) * 1) ≤ 70368744177664))) && true) = true := by
   rw [fits_of (by omega), decide_eq_true (by omega)]; rfl
  rw [br_of (decide_eq_true (by omega)), br_of hfit, sub_all]
  show Z38_l0 N k0 n (x : Int) (b ++ [0]) = _
  rw [ih n (b ++ [0]) (by simp; omega) (by omega)]
  have : x - b.length = (x - (b ++ [0]).length) + 1 := by simp; omega
  rw [this, List.replicate_succ, List.append_assoc]
  rfl

theorem sized_eq {R : Type} (N : Nat) (b : List Int) (hb : b.length ≤ 60000) (n : Nat) (hn : n ≤ 60000) (hN : n < N) (k : List Int → Option R) :
  Z38 N b (n : Int) k = k (sizedV b n) := by
 unfold Z38 Z38_T sizedV
 have e1 : (if ((b.length : Nat) : Int) < (n : Int) then ((b.length : Nat) : Int) else (n : Int)) = ((min b.length n : Nat) : Int) := min_int _ _
 have e3 : ∀ x : Nat, Int.toNat (x : Int) = x := fun x => by omega
 have e5 : sub b 0 (min b.length n - 0) = b.take n := by
  rw [sub_nat, List.drop_zero, Nat.sub_zero]
  by_cases h : n ≤ b.length
  ·rw [Nat.min_eq_right h]
  ·rw [Nat.min_eq_left (by omega), List.take_of_length_le (Nat.le_refl _), List.take_of_length_le (by omega)]
 simp only [e1, e3, e5]
 rw [br_of (leB_of (by omega))]
 unfold slices_Clone__byte_byte
 have hlen : (b.take n).length ≤ 60000 := by simp; omega
 rw [br_of (by rw [decide_eq_true (by omega)]; rfl)]
 dsimp only
 rw [sized_loop N _ n hn (n - (b.take n).length) N (b.take n) rfl (by omega)]
 have : n - (b.take n).length = n - b.length := by simp; omega
 rw [this]

theorem dget_put (d : DM) (i : Int) (v : List Int) : dgetV (mput (.int .i64) (.isl (.int .u8)) d i v) i = v := by
 unfold dgetV
 rw [mfind_put_same (ks := .int .i64) (vs := .isl (.int .u8)) rfl]
 rfl

end Go.Proofs.YtbclodhbcplhmaaGreat
