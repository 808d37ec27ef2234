/-
  the tree of names (chapter 13): what the printed functions come to.
-/
import Derived.Test.YtppmkhgpljkljaaPNames
namespace Go.Proofs.Ytppmkhgpljkljaa
open Go.Gx

abbrev KS : Sh := .pair .str .str
abbrev VS : Sh := .pair (.int .i64) .bool
abbrev TM := List ((ByteArray × ByteArray) × (Int × Bool))
theorem KS_key : KS.key = true := rfl

def tfind (m : TM) (k : ByteArray × ByteArray) : Option (Int × Bool) := mfind KS VS m k
def tput (m : TM) (k : ByteArray × ByteArray) (v : Int × Bool) : TM := mput KS VS m k v
def tdel (m : TM) (k : ByteArray × ByteArray) : TM := mdel KS VS m k

def aboveV (d n : List UInt8) (m : TM) : Int :=
  if n = [] then 65282 else if d = [] then 0 else match tfind m (bs [], bs d) with
  | none => 65282
  | some x => if x.2 then 0 else 65300

theorem above_eq {R : Type} (N : Nat) (d n : List UInt8) (nx : Int) (m : TM) (k : Int → Int → TM → Option R) : tree_Tree_above_2de7 N (bs d) (bs n) nx m k = k (aboveV d n m) nx m := by
  unfold tree_Tree_above_2de7 tree_Tree_above_2de7_T aboveV
  simp only [br_self, br_dec, bs_inj]
  by_cases h1 : n = []
  · simp [h1]
  · rw [if_neg h1, if_neg h1]
    by_cases h2 : d = []
    · simp [h2]
    · rw [if_neg h2, if_neg h2]
      show br (!(tfind m (bs [], bs d)).isSome) _ (br (!((tfind m (bs [], bs d)).getD (Sh.zero VS)).2) _ _) = _
      cases tfind m (bs [], bs d) with
      | none => rfl
      | some x =>
        rcases x with ⟨i, b⟩
        cases b <;> rfl

/-- what stands at a path: number, is it a directory, code -/
def getV (l : List UInt8) (m : TM) : Int × Bool × Int :=
  if aboveV (splitL l).1 (splitL l).2 m = 0 then match tfind m (bs (splitL l).1, bs (splitL l).2) with
    | none => (0, false, 65282)
    | some x => (x.1, x.2, 0)
  else (0, false, aboveV (splitL l).1 (splitL l).2 m)

theorem get_eq {R : Type} (N : Nat) (hN : 8 < N) (l : List UInt8) (nx : Int) (m : TM) (k : Int → Bool → Int → Int → TM → Option R) :
    tree_Tree_get_fb98 N (bs l) nx m k = k (getV l m).1 (getV l m).2.1 (getV l m).2.2 nx m := by
  unfold tree_Tree_get_fb98 tree_Tree_get_fb98_T getV
  rw [tree_of_eq' N hN, above_eq]
  simp only [br_self, br_ndec]
  by_cases h : aboveV (splitL l).1 (splitL l).2 m = 0
  · rw [if_pos h, if_pos h]
    show br (!(tfind m (bs (splitL l).1, bs (splitL l).2)).isSome) _ (k ((tfind m (bs (splitL l).1, bs (splitL l).2)).getD (Sh.zero VS)).1 ((tfind m (bs (splitL l).1, bs (splitL l).2)).getD (Sh.zero VS)).2 _ _ _) = _
    cases tfind m (bs (splitL l).1, bs (splitL l).2) with
    | none => rfl
    | some x => rfl
  · rw [if_neg h, if_neg h]

def findV (l : List UInt8) (m : TM) : Int × Bool × Int := if (getV l m).2.2 = 0 then getV l m else (-1, false, (getV l m).2.2)

theorem find_eq {R : Type} (N : Nat) (hN : 8 < N) (l : List UInt8) (nx : Int) (m : TM) (k : Int → Bool → Int → Int → TM → Option R) :
    tree_Tree_Find_fb98 N (bs l) nx m k = k (findV l m).1 (findV l m).2.1 (findV l m).2.2 nx m := by
  unfold tree_Tree_Find_fb98 tree_Tree_Find_fb98_T findV
  rw [get_eq N hN, br_ndec]
  by_cases h : (getV l m).2.2 = 0
  · rw [if_pos h, if_pos h, h]
  · rw [if_neg h, if_neg h]

def makeC (l : List UInt8) (dir : Bool) (m : TM) : Int :=
  if aboveV (splitL l).1 (splitL l).2 m ≠ 0 then aboveV (splitL l).1 (splitL l).2 m
  else if (tfind m (bs (splitL l).1, bs (splitL l).2)).isSome then 65297
  else if dir ∧ (splitL l).1 ≠ [] then 65302
  else if 8 ≤ m.length then 65308 else 0

theorem make_eq {R : Type} (N : Nat) (hN : 8 < N) (l : List UInt8) (dir : Bool) (nx : Int) (hx : 0 ≤ nx ∧ nx < 4611686018427387904) (m : TM) (k : Int → Int → Int → TM → Option R) :
    tree_Tree_Make_c502 N (bs l) dir nx m k = if makeC l dir m = 0 then k nx 0 (nx + 1) (tput m (bs (splitL l).1, bs (splitL l).2) (nx, dir)) else k (-1) (makeC l dir m) nx m := by
  unfold tree_Tree_Make_c502 tree_Tree_Make_c502_T makeC
  rw [tree_of_eq' N hN, above_eq]
  simp only [br_self, br_ndec, br_dec, bs_inj]
  by_cases h : aboveV (splitL l).1 (splitL l).2 m = 0
  · rw [if_pos h, if_neg (not_not_intro h)]
    show br (tfind m (bs (splitL l).1, bs (splitL l).2)).isSome _ _ = _
    have e0 : IntKind.wrap .i64 (nx + 1) = nx + 1 := w64 (by omega)
    have e1 : IntKind.wrap .i64 (nx + 1 - 1) = nx := by rw [w64 (by omega)]; omega
    have e8 : ((8 : Int) ≤ (m.length : Int)) = (8 ≤ m.length) := propext ⟨by omega, by omega⟩
    rw [e0, e1]
    simp only [e8]
    cases hs : (tfind m (bs (splitL l).1, bs (splitL l).2)).isSome with
    | true => simp
    | false =>
      simp only [Bool.false_eq_true, if_false, br_false]
      cases dir with
      | false =>
        simp only [br_false, Bool.false_eq_true, false_and, if_false]
        by_cases h8 : 8 ≤ m.length
        · rw [if_pos h8, if_pos h8]; rfl
        · rw [if_neg h8, if_neg h8]; rfl
      | true =>
        simp only [br_true, true_and]
        by_cases hd : (splitL l).1 = []
        · rw [if_pos hd, if_neg (not_not_intro hd)]
          by_cases h8 : 8 ≤ m.length
          · rw [if_pos h8, if_pos h8]; rfl
          · rw [if_neg h8, if_neg h8]; rfl
        · rw [if_neg hd, if_pos hd]; rfl
  · rw [if_neg h, if_pos h, if_neg h]

theorem len_eq {R : Type} (N : Nat) (nx : Int) (m : TM) (k : Int → Int → TM → Option R) : tree_Tree_Len_a28d N nx m k = k (m.length : Int) nx m := rfl

theorem drop_file_eq {R : Type} (N : Nat) (hN : 8 < N) (l : List UInt8) (nx : Int) (m : TM) (k : Int → Int → TM → Option R) :
    tree_Tree_Drop_c502 N (bs l) false nx m k = if (getV l m).2.2 = 0 then (if (getV l m).2.1 then k 65301 nx m else k 0 nx (tdel m (bs (splitL l).1, bs (splitL l).2))) else k (getV l m).2.2 nx m := by
  unfold tree_Tree_Drop_c502 tree_Tree_Drop_c502_T
  rw [get_eq N hN]
  simp only [br_ndec, Bool.not_false, br_true, br_false, tree_of_eq' N hN]
  by_cases h : (getV l m).2.2 = 0
  · rw [if_pos h, if_pos h]
    cases (getV l m).2.1 <;> rfl
  · rw [if_neg h, if_neg h]

theorem new_nil_eq {R : Type} (N : Nat) (hN : 0 < N) (k : Int → Int → TM → Option R) : tree_New_1c12 N k = k 0 0 [] := by
  obtain ⟨n, rfl⟩ : ∃ n, N = n + 1 := ⟨N - 1, by omega⟩
  rfl

/-- a name of one letter -/
theorem split_one {c : UInt8} (h : letter8 c = true) (h1 : c ≠ 46) : splitL [c] = ([], [c]) := by
  have h2 : c ≠ 47 := by rintro rfl; revert h; decide
  have hc : cutL [c] = ([c], [], false) := by simp [cutL, h2]
  have hp : partB [c] = true := by simp [partB, h, h1]
  simp [splitL, nameB, hc, hp]

theorem awake13 {R : Type} (N : Nat) (hN : 8 < N) (k : Bool → Option R) : law13_awake N k = k true := by
  have sa : splitL [97] = ([], [97]) := split_one (by decide) (by decide)
  have sb : splitL [98] = ([], [98]) := split_one (by decide) (by decide)
  have f1 : tfind (tput [] (bs [], bs [97]) (0, false)) (bs [], bs [97]) = some (0, false) := mfind_put_same KS_key _ _
  have f2 : tfind (tput [] (bs [], bs [97]) (0, false)) (bs [], bs [98]) = none := mfind_put_ne KS_key (fun e => by
    have := (bs_inj.1 (congrArg Prod.snd e)); cases this) _
  have hm : makeC [97] false [] = 0 := by simp [makeC, sa, aboveV, tfind, mfind]
  have g1 : findV [97] (tput [] (bs [], bs [97]) (0, false)) = (0, false, 0) := by simp [findV, getV, sa, aboveV, f1]
  have g2 : findV [98] (tput [] (bs [], bs [97]) (0, false)) = (-1, false, 65282) := by simp [findV, getV, sb, aboveV, f2]
  unfold law13_awake law13_awake_T
  rw [new_nil_eq N (by omega)]
  simp only [make_eq N hN [97] false 0 (by omega), hm, find_eq N hN, len_eq]
  simp only [sa, g1, g2]
  rfl

end Go.Proofs.Ytppmkhgpljkljaa
