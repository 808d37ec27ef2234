/-
  the law FilesWrite of chapter 14, as a printed function: it comes to true.
-/
import Derived.Test.YtfeacgamgdpojaaPFilesO
import Derived.Test.YtfeacgamgdpojaaPFilesD
set_option linter.unusedSimpArgs false
set_option linter.unusedVariables false
namespace Go.Proofs.Ytfeacgamgdpojaa
open Go.Gx

theorem write_eq {R : Type} (N : Nat) (hN : 500 < N) (fd j : Nat) (hfd : fd < 4) (f : List Int) (hj : f.getD fd 0 = ((j + 1 : Nat) : Int)) (nx : Int) (m : TM) (d : DM) (l : OL) (hl : j < l.length) (hl2 : l.length ≤ 1000000)
    (id : Int) (a : Nat) (ha : a ≤ 255) (hat : l.getD j (0, 0) = (id, (a : Int))) (hb : (dgetV d id).length ≤ 400) (b : List Int) (hbl : b.length ≤ 400)
    (K : Int → List Int → Int → TM → DM → OL → Option R) :
    files_Files_Write_7cf3 N (fd : Int) b f nx m d l K =
      if b.length = 0 then K 0 f nx m d l
      else if 8 ≤ a then K 65308 f nx m d l
      else K ((b.take (8 - a)).length : Int) f nx m (mput (.int .i64) (.isl (.int .u8)) d id (overV (dgetV d id) a (b.take (8 - a)))) (l.set j (id, ((a + (b.take (8 - a)).length : Nat) : Int))) := by
  unfold files_Files_Write_7cf3 files_Files_Write_7cf3_T
  rw [file_open N fd j hfd f hj nx m d l hl hl2]
  have hjn : Int.toNat (j : Int) = j := by omega
  have hb0 : Option.getD (mfind (.int .i64) (.isl (.int .u8)) d id) (Sh.zero (.isl (.int .u8))) = dgetV d id := rfl
  by_cases h0 : b.length = 0
  · rw [if_pos h0, br_of (decide_eq_true (by omega))]
  rw [if_neg h0, br_not (decide_eq_false (by omega))]
  simp only [hjn, hat, hb0]
  rw [br_of (decide_eq_true hl)]
  by_cases h8 : 8 ≤ a
  · rw [if_pos h8, br_of (decide_eq_true (by omega))]
  rw [if_neg h8, br_not (decide_eq_false (by omega)), br_of (decide_eq_true hl)]
  generalize hB : dgetV d id = B at hb
  have e3 : ∀ x : Nat, Int.toNat (x : Int) = x := fun x => by omega
  have e1 : (if IntKind.wrap .i64 (8 - (a : Int)) < (b.length : Int) then IntKind.wrap .i64 (8 - (a : Int)) else (b.length : Int)) = ((min (8 - a) b.length : Nat) : Int) := by
    rw [w64 (by omega)]
    split <;> omega
  have e5 : sub b 0 (min (8 - a) b.length - 0) = b.take (8 - a) := by
    rw [sub_nat, List.drop_zero, Nat.sub_zero]
    by_cases h : 8 - a ≤ b.length
    · rw [Nat.min_eq_left h]
    · rw [Nat.min_eq_right (by omega), List.take_of_length_le (Nat.le_refl _), List.take_of_length_le (by omega)]
  simp only [e1, e3, e5]
  rw [br_of (leB_of (by omega)), br_of (decide_eq_true hl), br_of (decide_eq_true hl)]
  have hcl : (b.take (8 - a)).length ≤ 8 - a := by simp; omega
  generalize hC : b.take (8 - a) = C at hcl
  have e6 : (if (B.length : Int) < IntKind.wrap .i64 ((a : Int) + (C.length : Int)) then IntKind.wrap .i64 ((a : Int) + (C.length : Int)) else (B.length : Int)) = ((max B.length (a + C.length) : Nat) : Int) := by
    rw [w64 (by omega)]
    split <;> omega
  rw [e6, sized_eq N B (by omega) _ (by omega) (by omega)]
  have hsz := sizedV_len B (max B.length (a + C.length))
  generalize hS : sizedV B (max B.length (a + C.length)) = S at hsz
  have hmin : min C.length (S.length - a) = C.length := by omega
  have hov : S.take a ++ (C ++ S.drop (a + C.length)) = overV B a C := by unfold overV; rw [hS]
  have hol : (overV B a C).length = S.length := by rw [overV_len, hsz]
  have e7 : IntKind.wrap .i64 ((a : Int) + (C.length : Int)) = ((a + C.length : Nat) : Int) := by rw [w64 (by omega)]; omega
  have hsub : sub (overV B a C) 0 S.length = overV B a C := by rw [← hol, sub_all]
  simp only [hmin, List.take_length, hov, e7, hsub]
  rw [br_of (decide_eq_true hl), br_of (leB_of (by omega)), br_of (fits_of (by omega)), br_of (decide_eq_true hl), br_of (fits_of (by omega)), br_of (decide_eq_true hl), br_of (decide_eq_true hl), wu16 (by omega)]

theorem write_lj3 {R : Type} (N : Nat) (k0 : List Int → List Int → Bool → Int → Int → Int → List Int → Option R) (k1 : List Int → List Int → Int → Int → Int → List Int → Option R)
    (n : Nat) (b was : List Int) (a w i : Nat) (v : Int) (new : List Int) (ha : a ≤ 255) (hw : w ≤ 255) (hwb : w ≤ b.length) (hi : i < new.length) (hi2 : i ≤ 1000)
    (hv : new.getD i 0 = if a ≤ i ∧ i < a + w then b.getD (i - a) 0 else v) :
    law14_FilesWrite_lj3 N k0 k1 n b was (a : Int) (w : Int) (i : Int) v new = k1 b was (a : Int) (w : Int) (i : Int) new := by
  have hin : Int.toNat (i : Int) = i := by omega
  simp only [law14_FilesWrite_lj3, law14_FilesWrite_lj3_T0, hin]
  by_cases h1 : a ≤ i
  · rw [br_of (decide_eq_true (by omega)), w64 (by omega)]
    by_cases h2 : i < a + w
    · have hia : IntKind.wrap .i64 ((i : Int) - (a : Int)) = ((i - a : Nat) : Int) := by rw [w64 (by omega)]; omega
      have hia2 : Int.toNat ((i - a : Nat) : Int) = i - a := by omega
      rw [if_pos ⟨h1, h2⟩] at hv
      rw [br_of (decide_eq_true (by omega)), hia, hia2, br_of (inB_of (by omega)), br_of (inB_of (by omega)), br_of (decide_eq_true hi), br_not (by rw [decide_eq_true hv]; rfl)]
    · rw [if_neg (by omega)] at hv
      rw [br_not (decide_eq_false (by omega)), br_of (inB_of (by omega)), br_of (decide_eq_true hi), br_not (by rw [decide_eq_true hv]; rfl)]
  · rw [if_neg (by omega)] at hv
    rw [br_not (decide_eq_false (by omega)), br_of (inB_of (by omega)), br_of (decide_eq_true hi), br_not (by rw [decide_eq_true hv]; rfl)]

theorem write_loop {R : Type} (N : Nat) (k0 : Bool → Option R) (k1 : Option R) (b was : List Int) (a w : Nat) (new : List Int) (ha : a ≤ 255) (hw : w ≤ 255) (hwb : w ≤ b.length) (hn : new.length ≤ 1000)
    (hv : ∀ i, new.getD i 0 = if a ≤ i ∧ i < a + w then b.getD (i - a) 0 else was.getD i 0) :
    ∀ (e i n : Nat), new.length - i = e → e < n → law14_FilesWrite_l0 N k0 k1 n b was (a : Int) (w : Int) (i : Int) new = k1 := by
  intro e
  induction e with
  | zero =>
    intro i n he hn
    obtain ⟨n, rfl⟩ : ∃ n', n = n' + 1 := ⟨n - 1, by omega⟩
    simp only [law14_FilesWrite_l0, law14_FilesWrite_l0_T0]
    rw [br_not (decide_eq_false (by omega))]
  | succ e ih =>
    intro i n he hn
    obtain ⟨n, rfl⟩ : ∃ n', n = n' + 1 := ⟨n - 1, by omega⟩
    have hin : Int.toNat (i : Int) = i := by omega
    have hin1 : IntKind.wrap .i64 ((i : Int) + 1) = ((i + 1 : Nat) : Int) := by rw [w64 (by omega)]; omega
    simp only [law14_FilesWrite_l0, law14_FilesWrite_l0_T0, hin]
    rw [br_of (decide_eq_true (by omega))]
    by_cases h : i < was.length
    · rw [br_of (decide_eq_true (by omega)), br_of (inB_of (by omega)), write_lj3 N _ _ N b was a w i _ new ha hw hwb (by omega) (by omega) (hv i)]
      rw [hin1]
      exact ih (i + 1) n (by omega) (by omega)
    · have h0 : was.getD i 0 = 0 := by
        rw [List.getD_eq_getElem?_getD, List.getElem?_eq_none (by omega)]
        rfl
      rw [br_not (decide_eq_false (by omega)), write_lj3 N _ _ N b was a w i _ new ha hw hwb (by omega) (by omega) (by rw [hv i, h0])]
      rw [hin1]
      exact ih (i + 1) n (by omega) (by omega)

theorem filesWrite_true {R : Type} (x : Int) (hx : 0 ≤ x ∧ x ≤ 255) (b was : List Int) (k : Bool → Option R) : law14_FilesWrite 3000 x b was k = k true := by
  unfold law14_FilesWrite law14_FilesWrite_T
  rw [awake14]
  obtain ⟨a, hk, ha⟩ : ∃ a : Nat, Int.tmod (IntKind.wrap .i64 x) 12 = (a : Int) ∧ a < 12 := by
    rw [w64 (by omega), Int.tmod_eq_emod_of_nonneg (by omega)]
    exact ⟨(x % 12).toNat, by omega, by omega⟩
  rw [hk]
  simp only [Bool.not_true, br_false]
  by_cases h40 : 40 < (b.length : Int)
  · rw [br_not (by rw [decide_eq_true h40]; rfl)]
  rw [br_of (by rw [decide_eq_false h40]; rfl)]
  by_cases h8 : 8 < (was.length : Int)
  · rw [br_of (decide_eq_true h8)]
  rw [br_not (decide_eq_false h8), new_one was (by omega)]
  have hop : ∀ K, files_Files_Open_f601 (R := R) 3000 (bs [97]) [0, 0, 0, 0] 1 [((bs [], bs [97]), (0, false))] [(0, was)] [] K = openV 0 [0, 0, 0, 0] 1 M1 [(0, was)] [] K :=
    fun K => open_nm 3000 (by omega) (by omega) _ 1 (by omega) M1 _ _ (by simp) M1_file K
  simp only [decide_true, Bool.not_true, Bool.not_false, br_true, hop]
  have hf0 : freeV [0, 0, 0, 0] = 0 := rfl
  simp only [openV, hf0, if_pos (Int.le_refl 0), M1_find, decide_true, Bool.not_true, Bool.not_false, br_true, br_false]
  show law14_FilesWrite_lj0 3000 _ 3000 (.v1 b was (a : Int) [1, 0, 0, 0] 1 M1 [(0, was)] [(0, 0)]) = _
  simp only [law14_FilesWrite_lj0, law14_FilesWrite_lj0_T1, wu16 (x := (a : Int)) (by omega)]
  have hdat : ∀ (d : DM) (l : OL) K, (dgetV d 0).length ≤ 400 → files_Files_Data_f601 (R := R) 3000 (bs [97]) [1, 0, 0, 0] 1 M1 d l K = K 0 [1, 0, 0, 0] 1 M1 d l (dgetV d 0) := by
    intro d l K hd
    refine (data_nm (k := 0) 3000 (by omega) (by omega) [1, 0, 0, 0] 1 M1 d l ?_ M1_file K).trans ?_
    · intro v hv
      rw [M1_find] at hv
      cases hv
      show (dgetV d 0).length ≤ 1000000
      omega
    · simp only [dataV, M1_find]
  have hd0 : dgetV [(0, was)] 0 = was := rfl
  have hsk := fun K => seek_eq (R := R) 3000 0 0 (by omega) [1, 0, 0, 0] rfl 1 M1 [(0, was)] [(0, 0)] (by simp) (by simp) a (by omega) K
  refine (hsk _).trans ?_
  rw [br_not (by rw [decide_eq_true rfl]; rfl)]
  have hwr := fun K => write_eq (R := R) 3000 (by omega) 0 0 (by omega) [1, 0, 0, 0] rfl 1 M1 [(0, was)] [(0, (a : Int))] (by simp) (by simp) 0 a (by omega) rfl (by rw [hd0]; omega) b (by omega) K
  refine (hwr _).trans ?_
  by_cases h0 : b.length = 0
  · rw [if_pos h0, br_of (decide_eq_true (by omega)), hdat _ _ _ (by rw [hd0]; omega), hd0]
    rw [br_of (decide_eq_true rfl), br_of (fits_of (by omega)), sub_all, decide_eq_true rfl]
  rw [if_neg h0]
  have hw : (if IntKind.wrap .i64 (8 - (a : Int)) < (b.length : Int) then IntKind.wrap .i64 (8 - (a : Int)) else (b.length : Int)) = if 8 ≤ a then 8 - (a : Int) else ((b.take (8 - a)).length : Int) := by
    rw [w64 (by omega), List.length_take]
    split <;> split <;> omega
  simp only [hw]
  by_cases ha8 : 8 ≤ a
  · rw [if_pos ha8, br_not (decide_eq_false (by omega)), if_pos ha8, br_of (decide_eq_true (by omega))]
    rfl
  rw [if_neg ha8, br_not (decide_eq_false (by omega))]
  simp only [if_neg ha8]
  have hcl : (b.take (8 - a)).length ≤ 8 - a := by simp; omega
  have hc0 : 0 < (b.take (8 - a)).length := by simp; omega
  have hcb : (b.take (8 - a)).length ≤ b.length := by simp; omega
  have hct : b.take (b.take (8 - a)).length = b.take (8 - a) := by
    rw [List.length_take]
    by_cases h : 8 - a ≤ b.length
    · rw [Nat.min_eq_left h]
    · rw [Nat.min_eq_right (by omega), List.take_of_length_le (Nat.le_refl _), List.take_of_length_le (by omega)]
  have hcg : ∀ i, i < (b.take (8 - a)).length → (b.take (8 - a)).getD i 0 = b.getD i 0 := by
    intro i hi
    simp only [List.length_take] at hi
    rw [List.getD_eq_getElem?_getD, List.getElem?_take, if_pos (by omega), ← List.getD_eq_getElem?_getD]
  rw [br_not (decide_eq_false (by omega))]
  generalize hC : b.take (8 - a) = C at hcl hc0 hcb hct hcg
  simp only [law14_FilesWrite_lj1, law14_FilesWrite_lj1_T1]
  have hol := overV_len was a C
  have hog := overV_get was a C
  rw [hd0]
  generalize hO : overV was a C = O at hol hog
  have hd1 : dgetV (mput (.int .i64) (.isl (.int .u8)) [(0, was)] 0 O) 0 = O := dget_put _ _ _
  generalize mput (.int .i64) (.isl (.int .u8)) [(0, was)] 0 O = d1 at hd1
  have hsk2 := fun K => seek_eq (R := R) 3000 0 0 (by omega) [1, 0, 0, 0] rfl 1 M1 d1 [(0, ((a + C.length : Nat) : Int))] (by simp) (by simp) a (by omega) K
  rw [wu16 (x := (a : Int)) (by omega)]
  refine (hsk2 _).trans ?_
  have hrd := fun K => read_eq (R := R) 3000 0 0 (by omega) [1, 0, 0, 0] rfl 1 M1 d1 [(0, (a : Int))] (by simp) (by simp) 0 a (by omega) rfl (by rw [hd1]; omega) C.length (by omega) K
  rw [wu16 (x := (C.length : Int)) (by omega)]
  refine (hrd _).trans ?_
  rw [hd1]
  have hrc : (O.drop a).take C.length = C := by
    apply List.ext_getElem?
    intro i
    have := hog (a + i)
    rw [List.getElem?_take, List.getElem?_drop]
    by_cases h : i < C.length
    · rw [if_pos h]
      rw [if_pos (by omega), Nat.add_sub_cancel_left, List.getD_eq_getElem?_getD, List.getD_eq_getElem?_getD] at this
      rw [List.getElem?_eq_getElem (by omega), List.getElem?_eq_getElem h] at this ⊢
      exact congrArg some this
    · rw [if_neg h, List.getElem?_eq_none (by omega)]
  rw [hrc, hdat _ _ _ (by rw [hd1]; omega), hd1]
  have e3 : ∀ x : Nat, Int.toNat (x : Int) = x := fun x => by omega
  have e5 : sub b 0 (C.length - 0) = C := by rw [sub_nat, List.drop_zero, Nat.sub_zero, hct]
  have e6 : (if (was.length : Int) < IntKind.wrap .i64 ((a : Int) + (C.length : Int)) then IntKind.wrap .i64 ((a : Int) + (C.length : Int)) else (was.length : Int)) = (O.length : Int) := by
    rw [w64 (by omega), hol]
    split <;> omega
  simp only [w64 (x := (C.length : Int)) (by omega), e3, e5, sub_all, e6, decide_true, Bool.not_true, Bool.not_false, br_true, br_false]
  rw [br_of (fits_of (by omega)), br_of (leB_of (by omega))]
  simp only [law14_FilesWrite_lj2, law14_FilesWrite_lj2_T0]
  exact write_loop 3000 _ _ b was a C.length O (by omega) (by omega) hcb (by omega) (fun i => by
    rw [hog i]
    split
    · exact hcg _ (by omega)
    · rfl) O.length 0 3000 (by omega) (by omega)

end Go.Proofs.Ytfeacgamgdpojaa
