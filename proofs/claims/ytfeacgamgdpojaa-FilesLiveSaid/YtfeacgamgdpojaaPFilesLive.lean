/-
  the law FilesLive of chapter 14, as a printed function: it comes to true.
-/
import Derived.Test.YtfeacgamgdpojaaPFilesO
set_option linter.unusedSimpArgs false
set_option linter.unusedVariables false
namespace Go.Proofs.Ytfeacgamgdpojaa
open Go.Gx

theorem write1_eq {R : Type} (N : Nat) (hN : 500 < N) (fd j : Nat) (hfd : fd < 4) (f : List Int) (hj : f.getD fd 0 = ((j + 1 : Nat) : Int)) (nx : Int) (m : TM) (d : DM) (l : OL) (hl : j < l.length) (hl2 : l.length ≤ 1000000)
    (id : Int) (hat : l.getD j (0, 0) = (id, 0)) (hb : (dgetV d id).length ≤ 400) (x : Int)
    (K : Int → List Int → Int → TM → DM → OL → List Int → Option R) :
    files_Files_Write_5dfd N (fd : Int) f nx m d l [x] K =
      K 1 f nx m (mput (.int .i64) (.isl (.int .u8)) d id (overV (dgetV d id) 0 [x])) (l.set j (id, 1)) [x] := by
  unfold files_Files_Write_5dfd files_Files_Write_5dfd_T
  rw [file_open N fd j hfd f hj nx m d l hl hl2]
  have hjn : Int.toNat (j : Int) = j := by omega
  have hb0 : Option.getD (mfind (.int .i64) (.isl (.int .u8)) d id) (Sh.zero (.isl (.int .u8))) = dgetV d id := rfl
  have h0 : decide (((([x] : List Int).length : Nat) : Int) = 0) = false := by simp
  rw [br_not h0]
  simp only [hjn, hat, hb0]
  rw [br_of (decide_eq_true hl), br_not (by decide), br_of (decide_eq_true hl)]
  generalize hB : dgetV d id = B at hb
  have e1 : (if IntKind.wrap .i64 (8 - 0) < ((([x] : List Int).length : Nat) : Int) then IntKind.wrap .i64 (8 - 0) else ((([x] : List Int).length : Nat) : Int)) = 1 := rfl
  have e5 : sub [x] 0 (Int.toNat 1 - 0) = [x] := rfl
  simp only [e1, e5]
  have e6 : (if (B.length : Int) < IntKind.wrap .i64 (0 + ((Int.toNat 1 - 0 : Nat) : Int)) then IntKind.wrap .i64 (0 + ((Int.toNat 1 - 0 : Nat) : Int)) else (B.length : Int)) = ((max B.length (0 + 1) : Nat) : Int) := by
    have : IntKind.wrap .i64 (0 + ((Int.toNat 1 - 0 : Nat) : Int)) = 1 := rfl
    rw [this]
    split <;> omega
  rw [br_of (leB_of (by simp)), br_of (decide_eq_true hl), br_of (decide_eq_true hl), e6, sized_eq N B (by omega) _ (by omega) (by omega)]
  have hsz := sizedV_len B (max B.length (0 + 1))
  have hov : (sizedV B (max B.length (0 + 1))).take 0 ++ ([x] ++ (sizedV B (max B.length (0 + 1))).drop (0 + 1)) = overV B 0 [x] := rfl
  have hol := overV_len B 0 [x]
  generalize hS : sizedV B (max B.length (0 + 1)) = S at hsz hov
  have hol2 : (overV B 0 [x]).length = S.length := by rw [hol, hsz]; rfl
  have hmin : min ([x] : List Int).length (S.length - Int.toNat 0) = 1 := by
    show min 1 (S.length - 0) = 1
    omega
  have e7 : S.take (Int.toNat 0) ++ (([x] : List Int).take 1 ++ S.drop (Int.toNat 0 + 1)) = overV B 0 [x] := hov
  have hsub : sub (overV B 0 [x]) 0 S.length = overV B 0 [x] := by rw [← hol2, sub_all]
  simp only [hmin, e7, hsub]
  rw [br_of (decide_eq_true hl), br_of (leB_of (by omega)), br_of (fits_of (by simp)), br_of (fits_of (by simp)), br_of (decide_eq_true hl), br_of (fits_of (by omega)), br_of (decide_eq_true hl), br_of (decide_eq_true hl)]
  rfl

/-- the tree of two files -/
def M2 : TM := [((bs [], bs [97]), (0, false)), ((bs [], bs [98]), (1, false))]

theorem new_two {R : Type} (b c : List Int) (hb : b.length ≤ 8) (hc : c.length ≤ 8) {k0 : Int → List (ByteArray × (Bool × Int)) → List (List Int) → Option R}
    {k1 : Int → List (ByteArray × (Bool × Int)) → List (List Int) → List Int → DM → OL → Option R} {k2 : Int → List (ByteArray × (Bool × Int)) → List (List Int) → List Int → Int → TM → DM → OL → Option R} :
    files_New_bfc2 3000 [(bs [97], (false, 0)), (bs [98], (false, 0))] [b, c] k0 k1 k2 = k2 0 [(bs [97], (false, 0)), (bs [98], (false, 0))] [b, c] [0, 0, 0, 0] 2 M2 [(0, b), (1, c)] [] := by
  unfold files_New_bfc2 files_New_bfc2_T
  have ht : ∀ {j0 : Int → List (ByteArray × (Bool × Int)) → Option R} {j1 : Int → List (ByteArray × (Bool × Int)) → Int → TM → Option R},
      tree_New_644a 3000 [(bs [97], (false, 0)), (bs [98], (false, 0))] j0 j1 = j1 0 [(bs [97], (false, 0)), (bs [98], (false, 0))] 2 M2 := by
    intro j0 j1
    kernel_rfl
  rw [ht]
  have h1 : decide (8 < (b.length : Int)) = false := decide_eq_false (by omega)
  have h2 : ((decide ((0 + b.length) * 1 ≤ 70368744177664)) && true) = true := by rw [decide_eq_true (by omega)]; rfl
  have h3 : fits 0 b.length b = true := fits_of (by omega)
  have hg : [b, c].getD 0 (Sh.zero (.isl (.int .u8))) = b := rfl
  have i1 : decide (8 < (c.length : Int)) = false := decide_eq_false (by omega)
  have i2 : ((decide ((0 + c.length) * 1 ≤ 70368744177664)) && true) = true := by rw [decide_eq_true (by omega)]; rfl
  have i3 : fits 0 c.length c = true := fits_of (by omega)
  have ig : [b, c].getD (Int.toNat (addLo 1 0)) (Sh.zero (.isl (.int .u8))) = c := rfl
  have hl : ∀ (N n : Nat) (f : List Int) (nx : Int) (m : TM) {j0 j1 j2 j3 j4 j5 j6 j7},
      files_New_bfc2_l0 (R := R) N j0 j1 j2 j3 j4 j5 j6 j7 (n + 1 + 1 + 1) (.v2 2 0 [(bs [97], (false, 0)), (bs [98], (false, 0))] [b, c] f nx m [] []) = j7 2 0 [(bs [97], (false, 0)), (bs [98], (false, 0))] [b, c] f nx m [(0, b), (1, c)] [] := by
    intro N n f nx m j0 j1 j2 j3 j4 j5 j6 j7
    simp only [files_New_bfc2_l0, files_New_bfc2_l0_T2, files_New_bfc2_l0_T3, slices_Clone__byte_byte, hg, h1, h2, h3, ig, i1, i2, i3, sub_all]
    rfl
  exact (hl 3000 2997 _ _ _).trans rfl

theorem M2_a : tfind M2 (key 0) = some (0, false) := by
  have h : mfind KS VS (mput KS VS (mput KS VS [] (key 0) ((0 : Int), false)) (key 1) ((1 : Int), false)) (key 0) = some ((0 : Int), false) := by
    rw [mfind_put_ne KS_key (key_ne (by omega) (by omega) (by omega)), mfind_put_same KS_key]
  exact h

/-- after the deed upon the tree -/
theorem live_tail {R : Type} (b : List Int) (h1 : 0 < b.length) (h8 : b.length ≤ 8) (move : Bool) (m : TM) (k : Bool → Option R)
    (ha : if move then tfind m (key 0) = some (1, false) ∧ tfind m (key 1) = none ∧ m.length = 1 else tfind m (key 0) = none ∧ m.length = 1) :
    law14_FilesLive_lj1 3000 k 3000 (.v1 b move 0 [1, 0, 0, 0] 2 m [(0, b), (1, [1])] [(0, 0)]) = k true := by
  have hd0 : dgetV [(0, b), (1, [1])] 0 = b := rfl
  simp only [law14_FilesLive_lj1, law14_FilesLive_lj1_T1]
  have r1 := fun K => read_eq (R := R) 3000 0 0 (by omega) [1, 0, 0, 0] rfl 2 m [(0, b), (1, [1])] [(0, 0)] (by simp) (by simp) 0 0 (by omega) rfl (by rw [hd0]; omega) 9 (by omega) K
  refine (r1 _).trans ?_
  have hb9 : (b.drop 0).take 9 = b := by rw [List.drop_zero, List.take_of_length_le (by omega)]
  rw [hd0, hb9]
  have s1 := fun K => seek_eq (R := R) 3000 0 0 (by omega) [1, 0, 0, 0] rfl 2 m [(0, b), (1, [1])] [(0, ((0 + b.length : Nat) : Int))] (by simp) (by simp) 0 (by omega) K
  refine (s1 _).trans ?_
  have w1 := fun K => write1_eq (R := R) 3000 (by omega) 0 0 (by omega) [1, 0, 0, 0] rfl 2 m [(0, b), (1, [1])] [(0, 0)] (by simp) (by simp) 0 rfl (by rw [hd0]; omega) 99 K
  refine (w1 _).trans ?_
  rw [hd0]
  have hol := overV_len b 0 [99]
  have hog := overV_get b 0 [99] 0
  generalize hO : overV b 0 [99] = O at hol hog
  have hO1 : O.length = b.length := by
    rw [hol]
    show max b.length (0 + 1) = b.length
    omega
  have hog : O.getD 0 0 = 99 := hog
  have hd1 : mput (.int .i64) (.isl (.int .u8)) [(0, b), (1, [1])] 0 O = [(0, O), (1, [1])] := rfl
  rw [hd1]
  have s2 := fun K => seek_eq (R := R) 3000 0 0 (by omega) [1, 0, 0, 0] rfl 2 m [(0, O), (1, [1])] [(0, 1)] (by simp) (by simp) 0 (by omega) K
  refine (s2 _).trans ?_
  have hd2 : dgetV [(0, O), (1, [1])] 0 = O := rfl
  have r2 := fun K => read_eq (R := R) 3000 0 0 (by omega) [1, 0, 0, 0] rfl 2 m [(0, O), (1, [1])] [(0, 0)] (by simp) (by simp) 0 0 (by omega) rfl (by rw [hd2]; omega) 1 (by omega) K
  refine (r2 _).trans ?_
  have hO2 : (O.drop 0).take 1 = [99] := by
    cases O with
    | nil => rw [List.length_nil] at hO1; omega
    | cons y ys =>
      have : y = 99 := hog
      rw [this]
      rfl
  rw [hd2, hO2]
  have hfit : fits 0 b.length b = true := fits_of (by omega)
  have hlb : IntKind.wrap .i64 (b.length : Int) = (b.length : Int) := w64 (by omega)
  have hf1 : freeV [1, 0, 0, 0] = 1 := rfl
  have hf2 : freeV [1, 2, 0, 0] = 2 := rfl
  have e01 : (0 : Int) ≤ 1 := by decide
  have e02 : (0 : Int) ≤ 2 := by decide
  cases move with
  | true =>
    obtain ⟨ma, mb, ml⟩ := ha
    have hop := fun K => open_nm (R := R) 3000 (by omega) (k := 0) (by omega) [1, 0, 0, 0] 2 (by omega) m [(0, O), (1, [1])] [(0, 1)] (by simp) (by rw [ma]; intro v hv; cases hv; rfl) K
    refine (hop _).trans ?_
    simp only [openV, hf1, if_pos e01, ma]
    have hd3 : dgetV [(0, O), (1, [1])] 1 = [1] := rfl
    have r3 := fun K => read_eq (R := R) 3000 1 1 (by omega) [1, 2, 0, 0] rfl 2 m [(0, O), (1, [1])] [(0, 1), (1, 0)] (by simp) (by simp) 1 0 (by omega) rfl (by rw [hd3]; decide) 9 (by omega) K
    refine (r3 _).trans ?_
    rw [hd3]
    have hz : (([1] : List Int).drop 0).take 9 = [1] := rfl
    rw [hz]
    simp only [law14_FilesLive_lj2, law14_FilesLive_lj2_T1]
    have hop2 := fun K => open_nm (R := R) 3000 (by omega) (k := 1) (by omega) [1, 2, 0, 0] 2 (by omega) m [(0, O), (1, [1])] [(0, 1), (1, 1)] (by simp) (by rw [mb]; intro v hv; cases hv) K
    have e8 : ¬ (8 ≤ m.length) := by omega
    have fin : ∀ K, files_Files_Open_f601 (R := R) 3000 (bs [98]) [1, 2, 0, 0] 2 m [(0, O), (1, [1])] [(0, 1), (1, 1)] K = K 2 [1, 2, 3, 0] 3 (tput m (key 1) (2, false)) [(0, O), (1, [1])] [(0, 1), (1, 1), (2, 0)] := by
      intro K
      refine (hop2 K).trans ?_
      simp only [openV, hf2, if_pos e02, mb, if_neg e8]
      rfl
    have z2 := fun K => size_eq (R := R) 3000 2 2 (by omega) [1, 2, 3, 0] rfl 3 (tput m (key 1) (2, false)) [(0, O), (1, [1])] [(0, 1), (1, 1), (2, 0)] (by simp) (by simp) (Nat.zero_le _) K
    have z2' : ∀ K, files_Files_Size_b447 (R := R) 3000 2 [1, 2, 3, 0] 3 (tput m (key 1) (2, false)) [(0, O), (1, [1])] [(0, 1), (1, 1), (2, 0)] K = K 0 [1, 2, 3, 0] 3 (tput m (key 1) (2, false)) [(0, O), (1, [1])] [(0, 1), (1, 1), (2, 0)] := z2
    rw [br_of (by decide), br_of (by simp [hlb]), br_of hfit, br_of (by simp [sub_all]), br_of (by decide), br_of (by decide), br_of (by decide), br_of (by decide), br_of (by decide), br_not (by decide), br_true, br_of (by decide), br_of (by decide), br_of (by decide), br_of (by decide)]
    refine (fin _).trans ?_
    rw [br_of (by decide)]
    refine (z2' _).trans ?_
    rfl
  | false =>
    obtain ⟨ma, ml⟩ := ha
    have e8 : ¬ (8 ≤ m.length) := by omega
    have hop := fun K => open_nm (R := R) 3000 (by omega) (k := 0) (by omega) [1, 0, 0, 0] 2 (by omega) m [(0, O), (1, [1])] [(0, 1)] (by simp) (by rw [ma]; intro v hv; cases hv) K
    refine (hop _).trans ?_
    simp only [openV, hf1, if_pos e01, ma, if_neg e8]
    have hd3 : dgetV [(0, O), (1, [1])] 2 = [] := rfl
    have r3 := fun K => read_eq (R := R) 3000 1 1 (by omega) [1, 2, 0, 0] rfl (2 + 1) (tput m (key 0) (2, false)) [(0, O), (1, [1])] [(0, 1), (2, 0)] (by simp) (by simp) 2 0 (by omega) rfl (by rw [hd3]; decide) 9 (by omega) K
    refine (r3 _).trans ?_
    rw [hd3]
    have hz : (([] : List Int).drop 0).take 9 = [] := rfl
    rw [hz]
    simp only [law14_FilesLive_lj2, law14_FilesLive_lj2_T1, law14_FilesLive_lj3, law14_FilesLive_lj3_T1]
    have z2 := fun K => size_eq (R := R) 3000 1 1 (by omega) [1, 2, 0, 0] rfl (2 + 1) (tput m (key 0) (2, false)) [(0, O), (1, [1])] [(0, 1), (2, 0)] (by simp) (by simp) (Nat.zero_le _) K
    rw [br_of (by decide), br_of (by simp [hlb]), br_of hfit, br_of (by simp [sub_all]), br_of (by decide), br_of (by decide), br_of (by decide), br_of (by decide), br_of (by decide), br_not (by decide), br_false, br_of (by decide)]
    refine (z2 _).trans ?_
    rfl

def Mm : TM := [((bs [], bs [97]), (1, false))]
def Md : TM := [((bs [], bs [98]), (1, false))]
theorem move2 {R : Type} (K : Int → Int → Int → TM → Option R) : tree_Tree_Move_f9be 3000 (bs [98]) (bs [97]) 2 M2 K = K 0 0 2 Mm := by kernel_rfl
theorem drop2 {R : Type} (K : Int → Int → TM → Option R) : tree_Tree_Drop_c502 3000 (bs [97]) false 2 M2 K = K 0 2 Md := by kernel_rfl
theorem Mm_a : tfind Mm (key 0) = some (1, false) := by
  have h : mfind KS VS (mput KS VS [] (key 0) ((1 : Int), false)) (key 0) = some ((1 : Int), false) := mfind_put_same KS_key _ _
  exact h
theorem Mm_b : tfind Mm (key 1) = none := by
  have h : mfind KS VS (mput KS VS [] (key 0) ((1 : Int), false)) (key 1) = none := by
    rw [mfind_put_ne KS_key (key_ne (by omega) (by omega) (by omega))]
    rfl
  exact h
theorem Md_a : tfind Md (key 0) = none := by
  have h : mfind KS VS (mput KS VS [] (key 1) ((1 : Int), false)) (key 0) = none := by
    rw [mfind_put_ne KS_key (key_ne (by omega) (by omega) (by omega))]
    rfl
  exact h

theorem live_open {R : Type} (b : List Int) (K : Int → List Int → Int → TM → DM → OL → Option R) :
    files_Files_Open_f601 (R := R) 3000 (bs [97]) [0, 0, 0, 0] 2 M2 [(0, b), (1, [1])] [] K = K 0 [1, 0, 0, 0] 2 M2 [(0, b), (1, [1])] [(0, 0)] := by
  refine (open_nm (k := 0) 3000 (by omega) (by omega) [0, 0, 0, 0] 2 (by omega) M2 [(0, b), (1, [1])] [] (by simp) (by rw [M2_a]; intro v hv; cases hv; rfl) K).trans ?_
  have hf0 : freeV [0, 0, 0, 0] = 0 := rfl
  simp only [openV, hf0, if_pos (Int.le_refl 0), M2_a]
  rfl

theorem rename_step {R : Type} (N : Nat) (a b : ByteArray) (f : List Int) (nx : Int) (m : TM) (d : DM) (l : OL) (K : Int → List Int → Int → TM → DM → OL → Option R) :
    files_Files_Rename_94d5 N a b f nx m d l K = tree_Tree_Move_f9be N a b nx m (fun _ c nx m => K c f nx m d l) := rfl

theorem unlink_step {R : Type} (N : Nat) (a : ByteArray) (f : List Int) (nx : Int) (m : TM) (d : DM) (l : OL) (K : Int → List Int → Int → TM → DM → OL → Option R) :
    files_Files_Unlink_f601 N a f nx m d l K = tree_Tree_Drop_c502 N a false nx m (fun c nx m => K c f nx m d l) := rfl

theorem rename2 {R : Type} (f : List Int) (d : DM) (l : OL) (K : Int → List Int → Int → TM → DM → OL → Option R) :
    files_Files_Rename_94d5 3000 (bs [98]) (bs [97]) f 2 M2 d l K = K 0 f 2 Mm d l :=
  (rename_step 3000 (bs [98]) (bs [97]) f 2 M2 d l K).trans (move2 (fun _ c nx m => K c f nx m d l))

theorem unlink2 {R : Type} (f : List Int) (d : DM) (l : OL) (K : Int → List Int → Int → TM → DM → OL → Option R) :
    files_Files_Unlink_f601 3000 (bs [97]) f 2 M2 d l K = K 0 f 2 Md d l :=
  (unlink_step 3000 (bs [97]) f 2 M2 d l K).trans (drop2 (fun c nx m => K c f nx m d l))

theorem lj0_move {R : Type} (N n : Nat) (k : Bool → Option R) (b f : List Int) (nx : Int) (m : TM) (d : DM) (l : OL) :
    law14_FilesLive_lj0 N k n (.v1 b true f nx m d l) = files_Files_Rename_94d5 N (bs [98]) (bs [97]) f nx m d l (fun i f nx m d l => law14_FilesLive_lj1 N k N (.v1 b true i f nx m d l)) := rfl

theorem lj0_drop {R : Type} (N n : Nat) (k : Bool → Option R) (b f : List Int) (nx : Int) (m : TM) (d : DM) (l : OL) :
    law14_FilesLive_lj0 N k n (.v1 b false f nx m d l) = files_Files_Unlink_f601 N (bs [97]) f nx m d l (fun i f nx m d l => law14_FilesLive_lj1 N k N (.v1 b false i f nx m d l)) := rfl

theorem live_lj0 {R : Type} (b : List Int) (h1 : 0 < b.length) (h8 : b.length ≤ 8) (move : Bool) (k : Bool → Option R) :
    law14_FilesLive_lj0 3000 k 3000 (.v1 b move [1, 0, 0, 0] 2 M2 [(0, b), (1, [1])] [(0, 0)]) = k true := by
  cases move with
  | true =>
    refine (lj0_move 3000 3000 k b [1, 0, 0, 0] 2 M2 [(0, b), (1, [1])] [(0, 0)]).trans ((rename2 [1, 0, 0, 0] [(0, b), (1, [1])] [(0, 0)] _).trans ?_)
    exact live_tail b h1 h8 true Mm k ⟨Mm_a, Mm_b, rfl⟩
  | false =>
    refine (lj0_drop 3000 3000 k b [1, 0, 0, 0] 2 M2 [(0, b), (1, [1])] [(0, 0)]).trans ((unlink2 [1, 0, 0, 0] [(0, b), (1, [1])] [(0, 0)] _).trans ?_)
    exact live_tail b h1 h8 false Md k ⟨Md_a, rfl⟩

theorem filesLive_true {R : Type} (b : List Int) (move : Bool) (k : Bool → Option R) : law14_FilesLive 3000 b move k = k true := by
  unfold law14_FilesLive law14_FilesLive_T
  rw [awake14]
  simp only [Bool.not_true, br_false]
  by_cases h0 : (b.length : Int) = 0
  · rw [br_not (by rw [decide_eq_true h0]; rfl)]
  rw [br_of (by rw [decide_eq_false h0]; rfl)]
  by_cases h8 : 8 < (b.length : Int)
  · rw [br_of (decide_eq_true h8)]
  rw [br_not (decide_eq_false h8), new_two b [1] (by omega) (by simp)]
  simp only [decide_true, Bool.not_true, Bool.not_false, br_true, live_open, br_false]
  exact live_lj0 b (by omega) (by omega) move _

end Go.Proofs.Ytfeacgamgdpojaa
