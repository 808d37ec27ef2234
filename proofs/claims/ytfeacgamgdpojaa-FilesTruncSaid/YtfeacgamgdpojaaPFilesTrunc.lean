/-
  the law FilesTrunc of chapter 14, as a printed function: it comes to true.
-/
import Derived.Test.YtfeacgamgdpojaaPFilesM
import Derived.Test.YtfeacgamgdpojaaPFilesD
set_option linter.unusedSimpArgs false
set_option linter.unusedVariables false
namespace Go.Proofs.Ytfeacgamgdpojaa
open Go.Gx

theorem trunc_eq {R : Type} (N : Nat) (hN : 60 < N) (fd j : Nat) (hfd : fd < 4) (f : List Int) (hj : f.getD fd 0 = ((j + 1 : Nat) : Int)) (nx : Int) (m : TM) (d : DM) (l : OL) (hl : j < l.length) (hl2 : l.length ≤ 1000000)
    (hb : (dgetV d (l.getD j (0, 0)).1).length ≤ 60000) (n : Nat) (hn : n ≤ 60000) (K : Int → List Int → Int → TM → DM → OL → Option R) :
    files_Files_Trunc_0442 N (fd : Int) (n : Int) f nx m d l K =
      if 8 < n then K 65302 f nx m d l
      else K 0 f nx m (mput (.int .i64) (.isl (.int .u8)) d (l.getD j (0, 0)).1 (sizedV (dgetV d (l.getD j (0, 0)).1) n)) l := by
  unfold files_Files_Trunc_0442 files_Files_Trunc_0442_T
  rw [file_open N fd j hfd f hj nx m d l hl hl2]
  by_cases h : 8 < n
  · rw [if_pos h, br_of (decide_eq_true (by omega))]
  · rw [if_neg h, br_not (decide_eq_false (by omega))]
    have hjn : Int.toNat (j : Int) = j := by omega
    have hb0 : Option.getD (mfind (.int .i64) (.isl (.int .u8)) d (l.getD j (0, 0)).1) (Sh.zero (.isl (.int .u8))) = dgetV d (l.getD j (0, 0)).1 := rfl
    simp only [hjn, hb0, w64 (x := (n : Int)) (by omega)]
    rw [br_of (decide_eq_true hl), br_of (decide_eq_true hl), sized_eq N _ hb n (by omega) (by omega)]
    simp only [hl, decide_true, br_true]
    rw [br_of (fits_of (by omega)), sub_all]

theorem take_rep (b : List Int) (n : Nat) : (b ++ List.replicate (n - b.length) 0).take n = sizedV b n := by
  unfold sizedV
  rw [List.take_append, List.take_of_length_le (l := List.replicate _ _) (by simp)]

theorem grow_loop {R : Type} (N : Nat) (k0 : _ → Int → Int → Int → List Int → DM → OL → List Int → Option R) (k1 : List Int → Int → Int → Int → List Int → Int → TM → DM → OL → List Int → Option R)
    (s : List Int) (i c : Int) (f : List Int) (nx : Int) (m : TM) (d : DM) (l : OL) (x : Nat) (hx : x ≤ 60000) :
    ∀ (e n : Nat) (b : List Int), x - b.length = e → e < n →
      law14_FilesTrunc_l1 N k0 k1 n (.v1 s i (x : Int) c f nx m d l b) = k1 s i (x : Int) c f nx m d l (b ++ List.replicate (x - b.length) 0) := by
  intro e
  induction e with
  | zero =>
    intro n b he hn
    obtain ⟨n, rfl⟩ : ∃ n', n = n' + 1 := ⟨n - 1, by omega⟩
    simp only [law14_FilesTrunc_l1, law14_FilesTrunc_l1_T1]
    rw [br_not (decide_eq_false (by omega)), he]
    simp
  | succ e ih =>
    intro n b he hn
    obtain ⟨n, rfl⟩ : ∃ n', n = n' + 1 := ⟨n - 1, by omega⟩
    simp only [law14_FilesTrunc_l1, law14_FilesTrunc_l1_T1]
    have hfit : (((fits 0 b.length b) && (decide (((b.length + 1) * 1) ≤ 70368744177664))) && true) = true := by
      rw [fits_of (by omega), decide_eq_true (by omega)]; rfl
    rw [br_of (decide_eq_true (by omega)), br_of hfit, sub_all]
    show law14_FilesTrunc_l1 N k0 k1 n (.v1 s i (x : Int) c f nx m d l (b ++ [0])) = _
    rw [ih n (b ++ [0]) (by simp; omega) (by omega)]
    have : x - b.length = (x - (b ++ [0]).length) + 1 := by simp; omega
    rw [this, List.replicate_succ, List.append_assoc]
    rfl

theorem trunc_loop {R : Type} (N : Nat) (hN : 60 < N) (k0 : Bool → List Int → DM → OL → List Int → Option R) (k1 : List Int → DM → OL → List Int → Option R)
    (k2 : Bool → List Int → Int → TM → DM → OL → List Int → Option R) (k3 : List Int → Int → TM → DM → OL → List Int → Option R)
    (s : List Int) (hs : ∀ x ∈ s, 0 ≤ x ∧ x ≤ 255) (hlen : s.length ≤ 60) :
    ∀ (e i n : Nat) (d : DM) (b : List Int), s.length - i = e → i ≤ s.length → e < n → dgetV d 0 = b → b.length ≤ 8 →
      ∃ (d' : DM) (b' : List Int), dgetV d' 0 = b' ∧ b'.length ≤ 8 ∧
        law14_FilesTrunc_l0 N k0 k1 k2 k3 n (.v1 s (i : Int) [1, 0, 0, 0] 1 M1 d [(0, 3)] b) = k3 [1, 0, 0, 0] 1 M1 d' [(0, 3)] b' := by
  intro e
  induction e with
  | zero =>
    intro i n d b hd hi hn hdb hb
    obtain ⟨n, rfl⟩ : ∃ n', n = n' + 1 := ⟨n - 1, by omega⟩
    refine ⟨d, b, hdb, hb, ?_⟩
    simp only [law14_FilesTrunc_l0, law14_FilesTrunc_l0_T1]
    rw [br_not (decide_eq_false (by omega))]
  | succ e ih =>
    intro i n d b hd hi hn hdb hb
    obtain ⟨n, rfl⟩ : ∃ n', n = n' + 1 := ⟨n - 1, by omega⟩
    have hlt : i < s.length := by omega
    obtain ⟨x, hx, hx2⟩ : ∃ x, s.getD (Int.toNat (i : Int)) 0 = x ∧ 0 ≤ x ∧ x ≤ 255 := by
      refine ⟨_, rfl, ?_⟩
      have : s.getD (Int.toNat (i : Int)) 0 = s[i] := by simp [List.getD_eq_getElem?_getD, List.getElem?_eq_getElem hlt]
      rw [this]
      exact hs _ (List.getElem_mem hlt)
    obtain ⟨k, hk, hk2⟩ : ∃ k : Nat, Int.tmod (IntKind.wrap .i64 x) 11 = (k : Int) ∧ k < 11 := by
      rw [w64 (by omega), Int.tmod_eq_emod_of_nonneg (by omega)]
      exact ⟨(x % 11).toNat, by omega, by omega⟩
    have hin : IntKind.wrap .i64 ((i : Int) + 1) = ((i + 1 : Nat) : Int) := by rw [w64 (by omega)]; omega
    have hkn : Int.toNat (k : Int) = k := by omega
    have hb2 : (dgetV d 0).length ≤ 60000 := by rw [hdb]; omega
    have ht := fun K => trunc_eq (R := R) N hN 0 0 (by omega) [1, 0, 0, 0] rfl 1 M1 d [(0, 3)] (by simp) (by simp) hb2 k (by omega) K
    have ht' : ∀ K, files_Files_Trunc_0442 (R := R) N 0 (k : Int) [1, 0, 0, 0] 1 M1 d [(0, 3)] K = _ := ht
    simp only [law14_FilesTrunc_l0, law14_FilesTrunc_l0_T1, hx, hk, hin, wu16 (x := (k : Int)) (by omega)]
    rw [br_of (decide_eq_true (by omega)), br_of (inB_of (by omega)), ht']
    by_cases h : 8 < k
    · rw [if_pos h]
      obtain ⟨d', b', h1, h2, h3⟩ := ih (i + 1) n d b (by omega) (by omega) (by omega) hdb hb
      refine ⟨d', b', h1, h2, ?_⟩
      rw [← h3, br_of (decide_eq_true (by omega))]
      rfl
    · rw [if_neg h]
      have hd2 : dgetV (mput (.int .i64) (.isl (.int .u8)) d 0 (sizedV (dgetV d 0) k)) 0 = sizedV b k := by rw [dget_put, hdb]
      have hl2 : (sizedV b k).length ≤ 8 := by rw [sizedV_len]; omega
      obtain ⟨d', b', h1, h2, h3⟩ := ih (i + 1) n (mput (.int .i64) (.isl (.int .u8)) d 0 (sizedV (dgetV d 0) k)) (sizedV b k) (by omega) (by omega) (by omega) hd2 hl2
      refine ⟨d', b', h1, h2, ?_⟩
      rw [← h3, br_not (decide_eq_false (by omega)), grow_loop N _ _ s _ _ _ _ _ _ _ k (by omega) (k - b.length) N b rfl (by omega)]
      show br (leB (k : Int) (b ++ List.replicate (k - b.length) 0).length) (files_Files_Data_f601 N (bs (nm 0)) [1, 0, 0, 0] 1 M1 (mput (.int .i64) (.isl (.int .u8)) d 0 (sizedV (dgetV d 0) k)) [(0, 3)] _) none = _
      have hdl : ∀ v, tfind M1 (key 0) = some v → (dgetV (mput (.int .i64) (.isl (.int .u8)) d 0 (sizedV (dgetV d 0) k)) v.1).length ≤ 1000000 := by
        intro v hv
        rw [M1_find] at hv
        cases hv
        show (dgetV _ 0).length ≤ 1000000
        rw [hd2]
        omega
      rw [br_of (leB_of (by simp; omega)), data_nm N (by omega) (by omega) _ _ _ _ _ hdl M1_file]
      simp only [dataV, M1_find, hd2]
      have hz := fun K => size_eq (R := R) N 0 0 (by omega) [1, 0, 0, 0] rfl 1 M1 (mput (.int .i64) (.isl (.int .u8)) d 0 (sizedV (dgetV d 0) k)) [(0, 3)] (by simp) (by simp) (by
        show (dgetV _ 0).length ≤ 60000
        rw [hd2]; omega) K
      have hz' : ∀ K, files_Files_Size_b447 (R := R) N 0 [1, 0, 0, 0] 1 M1 (mput (.int .i64) (.isl (.int .u8)) d 0 (sizedV (dgetV d 0) k)) [(0, 3)] K = K (((dgetV (mput (.int .i64) (.isl (.int .u8)) d 0 (sizedV (dgetV d 0) k)) 0).length : Nat) : Int) _ _ _ _ _ := hz
      have hsub : sub (b ++ List.replicate (k - b.length) 0) 0 (k - 0) = sizedV b k := by
        rw [sub_nat, List.drop_zero, Nat.sub_zero, take_rep]
      have hfit : fits 0 (k - 0) (b ++ List.replicate (k - b.length) 0) = true := fits_of (by simp; omega)
      have hsub2 : sub (sizedV b k) 0 k = sizedV b k := by
        have := sub_all (sizedV b k)
        rwa [sizedV_len] at this
      have hfit2 : fits 0 k (sizedV b k) = true := fits_of (by rw [sizedV_len]; omega)
      simp only [hz', hd2, hkn, hsub, hfit, hsub2, hfit2, hin, sizedV_len, w64 (x := (k : Int)) (by omega), decide_true, Bool.not_true, Bool.not_false, br_true, br_false]

theorem filesTrunc_true {R : Type} (b s : List Int) (hs : ∀ x ∈ s, 0 ≤ x ∧ x ≤ 255) (k : Bool → Option R) : law14_FilesTrunc 3000 b s k = k true := by
  unfold law14_FilesTrunc law14_FilesTrunc_T
  rw [awake14]
  simp only [Bool.not_true, br_false]
  by_cases h8 : 8 < (b.length : Int)
  · rw [br_not (by rw [decide_eq_true h8]; rfl)]
  rw [br_of (by rw [decide_eq_false h8]; rfl)]
  by_cases h6 : 60 < (s.length : Int)
  · rw [br_of (decide_eq_true h6)]
  rw [br_not (decide_eq_false h6), new_one b (by omega)]
  have e4 : decide ((0 : Int) = 0) = true := by decide
  have hop : ∀ K, files_Files_Open_f601 (R := R) 3000 (bs [97]) [0, 0, 0, 0] 1 [((bs [], bs [97]), (0, false))] [(0, b)] [] K = openV 0 [0, 0, 0, 0] 1 M1 [(0, b)] [] K :=
    fun K => open_nm 3000 (by omega) (by omega) _ 1 (by omega) M1 _ _ (by simp) M1_file K
  simp only [decide_true, Bool.not_true, Bool.not_false, br_true, hop]
  have hf0 : freeV [0, 0, 0, 0] = 0 := rfl
  simp only [openV, hf0, if_pos (Int.le_refl 0), M1_find, decide_true, Bool.not_true, Bool.not_false, br_true]
  have hsk := fun K => seek_eq (R := R) 3000 0 0 (by omega) [1, 0, 0, 0] rfl 1 M1 [(0, b)] [(0, 0)] (by simp) (by simp) 3 (by omega) K
  refine (hsk _).trans ?_
  show law14_FilesTrunc_lj0 3000 _ 3000 (.v1 b s [1, 0, 0, 0] 1 M1 [(0, b)] [(0, 3)]) = _
  simp only [law14_FilesTrunc_lj0, law14_FilesTrunc_lj0_T1]
  rw [br_of (by rw [decide_eq_true (by omega)]; rfl)]
  obtain ⟨d', b', h1, h2, h3⟩ := trunc_loop (R := R) 3000 (by omega) (fun b856 l857 l858 l859 l860 => k b856) _ (fun b870 l871 i872 l873 l874 l875 l876 => k b870) _ s hs (by omega) s.length 0 3000 [(0, b)] ([] ++ b) (by omega) (by omega) (by omega) rfl (by simp; omega)
  refine h3.trans ?_
  have hrd := fun K => read_eq (R := R) 3000 0 0 (by omega) [1, 0, 0, 0] rfl 1 M1 d' [(0, 3)] (by simp) (by simp) 0 3 (by omega) rfl (by rw [h1]; omega) 9 (by omega) K
  refine (hrd _).trans ?_
  rw [h1]
  have hl : ((b'.drop 3).take 9).length = b'.length - 3 := by simp; omega
  rw [hl, w64 (by omega), w64 (by omega)]
  have : (if 0 < (b'.length : Int) - 3 then (b'.length : Int) - 3 else 0) = ((b'.length - 3 : Nat) : Int) := by split <;> omega
  rw [this]
  simp

end Go.Proofs.Ytfeacgamgdpojaa
