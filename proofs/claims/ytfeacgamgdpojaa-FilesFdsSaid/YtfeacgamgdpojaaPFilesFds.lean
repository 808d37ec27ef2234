/-
  the law FilesFds of chapter 14, as a printed function: it comes to true.
-/
import Derived.Test.YtfeacgamgdpojaaPFilesM
import Derived.Test.YtfeacgamgdpojaaPFilesCl
set_option linter.unusedSimpArgs false
set_option linter.unusedVariables false
namespace Go.Proofs.Ytfeacgamgdpojaa
open Go.Gx

theorem freeV_zero (f : List Int) (h : 0 ≤ freeV f) : f.getD (freeV f).toNat 0 = 0 := by
  unfold freeV at h ⊢
  split
  · rename_i e; exact e.symm
  split
  · rename_i e; exact e.symm
  split
  · rename_i e; exact e.symm
  split
  · rename_i e; exact e.symm
  rename_i e1 e2 e3 e4
  rw [if_neg e1, if_neg e2, if_neg e3, if_neg e4] at h
  omega

theorem twin_eq {R : Type} (N : Nat) (hN : 8 < N) (fd j : Nat) (hfd : fd < 4) (f : List Int) (hj : f.getD fd 0 = ((j + 1 : Nat) : Int)) (nx : Int) (m : TM) (d : DM) (l : OL) (hl : j < l.length) (hl2 : l.length ≤ 1000000)
    (K : Int → List Int → Int → TM → DM → OL → Option R) :
    files_Files_Twin_b447 N (fd : Int) f nx m d l K = if 0 ≤ freeV f then K (freeV f) (f.set (freeV f).toNat ((j + 1 : Nat) : Int)) nx m d l else K 65304 f nx m d l := by
  unfold files_Files_Twin_b447 files_Files_Twin_b447_T
  rw [file_open N fd j hfd f hj nx m d l hl hl2, free_eq N hN]
  have hf := freeV_lt f
  by_cases h : 0 ≤ freeV f
  · have hn : Int.toNat (fd : Int) = fd := by omega
    simp only [hn, hj]
    rw [if_pos h, br_not (by rw [decide_eq_true h]; rfl), br_of (inB_of (by omega)), br_of (decide_eq_true hfd), br_of (inB_of (by omega)), br_of (decide_eq_true (by omega)), wu16 (by omega)]
  · rw [if_neg h, br_of (by rw [decide_eq_false h]; rfl)]

theorem twin_none {R : Type} (N : Nat) (fd : Nat) (hfd : fd < 4) (f : List Int) (hj : f.getD fd 0 = 0) (nx : Int) (m : TM) (d : DM) (l : OL) (K : Int → List Int → Int → TM → DM → OL → Option R) :
    files_Files_Twin_b447 N (fd : Int) f nx m d l K = K 65289 f nx m d l := by
  unfold files_Files_Twin_b447 files_Files_Twin_b447_T
  rw [file_none N fd hfd f hj]

def castL (F : List Nat) : List Int := F.map (fun (n : Nat) => (n : Int))
def predL (F : List Nat) : List Int := F.map (fun (n : Nat) => (n : Int) - 1)
def pairL (A : List Nat) : OL := A.map (fun (a : Nat) => ((0 : Int), (a : Int)))
theorem castL_len (F : List Nat) : (castL F).length = F.length := by simp [castL]
theorem predL_len (F : List Nat) : (predL F).length = F.length := by simp [predL]
theorem pairL_len (F : List Nat) : (pairL F).length = F.length := by simp [pairL]
theorem castL_get (F : List Nat) (j : Nat) : (castL F).getD j 0 = ((F.getD j 0 : Nat) : Int) := by
  unfold castL
  simp only [List.getD_eq_getElem?_getD, List.getElem?_map]
  cases F[j]? <;> rfl
theorem predL_get (F : List Nat) (j : Nat) (h : j < F.length) : (predL F).getD j 0 = ((F.getD j 0 : Nat) : Int) - 1 := by
  unfold predL
  simp only [List.getD_eq_getElem?_getD, List.getElem?_map, List.getElem?_eq_getElem h]
  rfl
theorem pairL_get (F : List Nat) (j : Nat) : (pairL F).getD j (0, 0) = (0, ((F.getD j 0 : Nat) : Int)) := by
  unfold pairL
  simp only [List.getD_eq_getElem?_getD, List.getElem?_map]
  cases F[j]? <;> rfl
theorem castL_set (F : List Nat) (j v : Nat) : (castL F).set j (v : Int) = castL (F.set j v) := by simp [castL, List.map_set]
theorem predL_set (F : List Nat) (j v : Nat) : (predL F).set j ((v : Int) - 1) = predL (F.set j v) := by simp [predL, List.map_set]
theorem pairL_set (F : List Nat) (j v : Nat) : (pairL F).set j (0, (v : Int)) = pairL (F.set j v) := by simp [pairL, List.map_set]
theorem castL_app (F : List Nat) (v : Nat) : castL F ++ [(v : Int)] = castL (F ++ [v]) := by simp [castL]
theorem pairL_app (F : List Nat) (v : Nat) : pairL F ++ [(0, (v : Int))] = pairL (F ++ [v]) := by simp [pairL]
theorem nat_getD_set (l : List Nat) (k j b : Nat) (h : k < l.length) : (l.set k b).getD j 0 = if k = j then b else l.getD j 0 := by
  simp only [List.getD_eq_getElem?_getD, List.getElem?_set]
  split
  · rename_i e; subst e; simp [h]
  · rfl

/-- what the law seeks is what the program seeks -/
theorem fds_step {R : Type} (N : Nat) (k0 : List Int → Int → Int → Int → List Int → DM → OL → List Int → List Int → Option R)
    (k1 : List Int → Int → Int → Int → List Int → Int → TM → DM → OL → List Int → List Int → Option R)
    (s : List Int) (i k c : Int) (f : List Int) (nx : Int) (m : TM) (d : DM) (l : OL) (at' : List Int) (F : List Nat) (hF : F.length = 4) (n j : Nat) (hj : j < 4) :
    law14_FilesFds_l1 N k0 k1 (n + 1) (.v1 s i k c (j : Int) f nx m d l at' (predL F)) =
      law14_FilesFds_l1 N k0 k1 n (.v1 s i k (if 0 = F.getD j 0 then (j : Int) else c) ((j : Int) - 1) f nx m d l at' (predL F)) := by
  have hn : Int.toNat (j : Int) = j := by omega
  have hl := predL_len F
  simp only [law14_FilesFds_l1, law14_FilesFds_l1_T1, hn, predL_get F j (by omega)]
  rw [br_of (decide_eq_true (by omega)), br_of (inB_of (by omega)), br_of (decide_eq_true (by omega)), w64 (by omega), br_dec]
  by_cases h : 0 = F.getD j 0
  · rw [if_pos h, if_pos (by omega)]
  · rw [if_neg h, if_neg (by omega)]

theorem fds_seek {R : Type} (N : Nat) (hN : 8 < N) (k0 : List Int → Int → Int → Int → List Int → DM → OL → List Int → List Int → Option R)
    (k1 : List Int → Int → Int → Int → List Int → Int → TM → DM → OL → List Int → List Int → Option R)
    (s : List Int) (i k : Int) (f : List Int) (nx : Int) (m : TM) (d : DM) (l : OL) (at' : List Int) (F : List Nat) (hF : F.length = 4) :
    law14_FilesFds_l1 N k0 k1 N (.v1 s i k (-1) 3 f nx m d l at' (predL F)) = k1 s i k (freeV (castL F)) f nx m d l at' (predL F) := by
  obtain ⟨n, hn⟩ : ∃ n, N = n + 1 + 1 + 1 + 1 + 1 := ⟨N - 5, by omega⟩
  have h3 := fun c n => fds_step N k0 k1 s i k c f nx m d l at' F hF n 3 (by omega)
  have h2 := fun c n => fds_step N k0 k1 s i k c f nx m d l at' F hF n 2 (by omega)
  have h1 := fun c n => fds_step N k0 k1 s i k c f nx m d l at' F hF n 1 (by omega)
  have h0 := fun c n => fds_step N k0 k1 s i k c f nx m d l at' F hF n 0 (by omega)
  have e : ∀ fuel, fuel = n + 1 + 1 + 1 + 1 + 1 → law14_FilesFds_l1 N k0 k1 fuel (.v1 s i k (-1) 3 f nx m d l at' (predL F)) = k1 s i k (freeV (castL F)) f nx m d l at' (predL F) := by
    intro fuel hf
    subst hf
    refine (h3 _ _).trans ((h2 _ _).trans ((h1 _ _).trans ((h0 _ _).trans ?_)))
    have hfr : (if 0 = F.getD 0 0 then ((0 : Nat) : Int) else if 0 = F.getD 1 0 then ((1 : Nat) : Int) else if 0 = F.getD 2 0 then ((2 : Nat) : Int) else if 0 = F.getD 3 0 then ((3 : Nat) : Int) else -1) = freeV (castL F) := by
      unfold freeV
      simp only [castL_get]
      have z : ∀ x : Nat, ((0 : Int) = (x : Int)) = (0 = x) := fun x => propext ⟨by omega, by omega⟩
      simp only [z]
      rfl
    rw [hfr]
    simp only [law14_FilesFds_l1, law14_FilesFds_l1_T1]
    rfl
  exact e N hn

abbrev data8 : DM := [(0, [0, 1, 2, 3, 4, 5, 6, 7])]
theorem data8_get : dgetV data8 0 = [0, 1, 2, 3, 4, 5, 6, 7] := rfl
theorem data8_one : ∀ a, a < 8 → (([0, 1, 2, 3, 4, 5, 6, 7] : List Int).drop a).take 1 = [(a : Int)] := by decide
theorem data8_end : (([0, 1, 2, 3, 4, 5, 6, 7] : List Int).drop 8).take 1 = [] := rfl

theorem data8_sum : ∀ a, a < 9 → a + ((([0, 1, 2, 3, 4, 5, 6, 7] : List Int).drop a).take 1).length = min (a + 1) 8 := by decide

/-- what holds at each round's head -/
structure FdsInv (i : Nat) (A F : List Nat) : Prop where
  len : F.length = 4
  le : ∀ j, F.getD j 0 ≤ A.length
  al : A.length ≤ i
  a8 : ∀ j, A.getD j 0 ≤ 8

theorem fds_lj0 {R : Type} (N n : Nat) (k0 : List Int → Bool → Int → List Int → DM → OL → List Int → List Int → Option R) (k1 : List Int → Int → List Int → DM → OL → List Int → List Int → Option R)
    (k2 : List Int → Bool → Int → List Int → Int → TM → DM → OL → List Int → List Int → Option R) (k3 : List Int → Int → List Int → Int → TM → DM → OL → List Int → List Int → Option R)
    (s : List Int) (i : Int) (k j a : Nat) (hk : k < 4) (f : List Int) (nx : Int) (m : TM) (d : DM) (l : OL) (A F : List Nat) (hF : F.length = 4) (hj : F.getD k 0 = j + 1) (hjA : j < A.length) (hA : A.length ≤ 1000) (ha : A.getD j 0 = a) (h8 : a ≤ 8) :
    law14_FilesFds_lj0 N k0 k1 k2 k3 n (.v1 s i (k : Int) (((([0, 1, 2, 3, 4, 5, 6, 7] : List Int).drop a).take 1).length : Int) f nx m d l (castL A) (predL F) ((([0, 1, 2, 3, 4, 5, 6, 7] : List Int).drop a).take 1)) =
      k3 s i f nx m d l (castL (A.set j (min (a + 1) 8))) (predL F) := by
  have hkn : Int.toNat (k : Int) = k := by omega
  have hpl := predL_len F
  have hcl := castL_len A
  have hg : (predL F).getD k 0 = (j : Int) := by rw [predL_get F k (by omega), hj]; omega
  have hjn : Int.toNat (j : Int) = j := by omega
  have hga : (castL A).getD j 0 = (a : Int) := by rw [castL_get, ha]
  have hset : (castL A).set j (if 8 < IntKind.wrap .i64 ((a : Int) + 1) then 8 else IntKind.wrap .i64 ((a : Int) + 1)) = castL (A.set j (min (a + 1) 8)) := by
    rw [← castL_set, w64 (by omega)]
    congr 1
    split <;> omega
  simp only [law14_FilesFds_lj0, law14_FilesFds_lj0_T1, hkn, hg, hjn, hga, hset]
  rw [br_of (inB_of (by omega)), br_of (decide_eq_true (by omega)), br_of (inB_of (by omega)), br_of (decide_eq_true (by omega))]
  by_cases h : a < 8
  · rw [data8_one a h]
    rw [br_of (decide_eq_true (by omega)), br_of (by rfl), br_of (by rfl), br_of (by rfl)]
    have e1 : IntKind.wrap .i64 (([(a : Int)] : List Int).getD 0 0) = (a : Int) := w64 (by show _ ≤ (a : Int) ∧ (a : Int) ≤ _; omega)
    rw [br_of (by rw [e1, decide_eq_true rfl]; rfl), br_not (decide_eq_false (by omega))]
    rw [br_of (inB_of (by omega)), br_of (decide_eq_true (by omega)), br_of (inB_of (by omega)), br_of (decide_eq_true (by omega))]
  · have : a = 8 := by omega
    subst this
    rw [data8_end]
    rw [br_not (by decide), br_of (by decide), br_not (by decide)]
    rw [br_of (inB_of (by omega)), br_of (decide_eq_true (by omega)), br_of (inB_of (by omega)), br_of (decide_eq_true (by omega))]

theorem fds_loop {R : Type} (N : Nat) (hN : 60 < N) (k0 : Bool → Option R) (k1 : Option R) (s : List Int) (hs : ∀ x ∈ s, 0 ≤ x ∧ x ≤ 255) (hlen : s.length ≤ 200) :
    ∀ (e i n : Nat) (A F : List Nat), s.length - i = e → i ≤ s.length → e < n → FdsInv i A F →
      law14_FilesFds_l0 N k0 k1 n (.v1 s (i : Int) (castL F) 1 M1 data8 (pairL A) (castL A) (predL F)) = k1 := by
  intro e
  induction e with
  | zero =>
    intro i n A F hd hi hn I
    obtain ⟨n, rfl⟩ : ∃ n', n = n' + 1 := ⟨n - 1, by omega⟩
    simp only [law14_FilesFds_l0, law14_FilesFds_l0_T1]
    rw [br_not (decide_eq_false (by omega))]
  | succ e ih =>
    intro i n A F hd hi hn I
    obtain ⟨n, rfl⟩ : ∃ n', n = n' + 1 := ⟨n - 1, by omega⟩
    have hlt : i < s.length := by omega
    obtain ⟨x, hx, hx2⟩ : ∃ x, s.getD (Int.toNat (i : Int)) 0 = x ∧ 0 ≤ x ∧ x ≤ 255 := by
      refine ⟨_, rfl, ?_⟩
      have : s.getD (Int.toNat (i : Int)) 0 = s[i] := by simp [List.getD_eq_getElem?_getD, List.getElem?_eq_getElem hlt]
      rw [this]
      exact hs _ (List.getElem_mem hlt)
    obtain ⟨k, hk, hk4⟩ : ∃ k : Nat, Int.tmod (IntKind.wrap .i64 (shrI .u8 x 2)) 4 = (k : Int) ∧ k < 4 := by
      have h1 : shrI .u8 x 2 = x / 4 := by
        show x.fdiv (2 ^ 2) = _
        rw [Int.fdiv_eq_ediv_of_nonneg _ (by decide)]
        rfl
      rw [h1, w64 (by omega), Int.tmod_eq_emod_of_nonneg (by omega)]
      exact ⟨(x / 4 % 4).toNat, by omega, by omega⟩
    have hin : IntKind.wrap .i64 ((i : Int) + 1) = ((i + 1 : Nat) : Int) := by rw [w64 (by omega)]; omega
    have hkn : Int.toNat (k : Int) = k := by omega
    have hF4 := I.len
    have hal := I.al
    have hpl := predL_len F
    have hcl := castL_len F
    have hal2 := castL_len A
    have hol := pairL_len A
    have go : ∀ {A F}, FdsInv (i + 1) A F → law14_FilesFds_l0 N k0 k1 n (.v1 s ((i + 1 : Nat) : Int) (castL F) 1 M1 data8 (pairL A) (castL A) (predL F)) = k1 :=
      fun h => ih (i + 1) n _ _ (by omega) (by omega) (by omega) h
    have same : FdsInv (i + 1) A F := { I with al := by omega }
    have hc := castL_get F k
    have hp := predL_get F k (by omega)
    have hle := I.le k
    have hfv := freeV_lt (castL F)
    have hfz := freeV_zero (castL F)
    simp only [law14_FilesFds_l0, law14_FilesFds_l0_T1, hx, hk]
    rw [br_of (decide_eq_true (by omega)), br_of (inB_of (by omega)), fds_seek N (by omega) _ _ s _ _ _ _ _ _ _ _ F hF4]
    simp only [hx, hin, hkn, wu16 (x := (k : Int)) (by omega)]
    rw [br_of (inB_of (by omega))]
    generalize hE : freeV (castL F) = E at hfv hfz
    have hfit : (((fits 0 (castL A).length (castL A)) && (decide ((((castL A).length + 1) * 8) ≤ 70368744177664))) && true) = true := by
      rw [fits_of (by omega), decide_eq_true (by omega)]; rfl
    -- the free place, filled
    have fill : ∀ (v : Nat), v ≤ A.length + 1 → 0 ≤ E → ∀ j, (F.set E.toNat v).getD j 0 ≤ A.length + 1 := by
      intro v hv hE0 j
      rw [nat_getD_set F _ j v (by omega)]
      split
      · exact hv
      · have := I.le j; omega
    by_cases h0 : band .u8 x 3 = 0
    · rw [br_of (decide_eq_true h0)]
      have hop := fun K => open_nm (R := R) N (by omega) (k := 0) (by omega) (castL F) 1 (by omega) M1 data8 (pairL A) (by omega) M1_file K
      refine (hop _).trans ?_
      simp only [openV, hE, M1_find]
      by_cases h : 0 ≤ E
      · rw [if_pos h, br_not (decide_eq_false (by omega)), br_of (decide_eq_true h), w64 (x := E) (by omega), br_not (by rw [decide_eq_true rfl]; rfl), br_of (decide_eq_true h), br_of hfit, br_of (inB_of (by omega)), br_of (decide_eq_true (by omega)), sub_all]
        have e1 : (castL F).set E.toNat (((pairL A).length + 1 : Nat) : Int) = castL (F.set E.toNat (A.length + 1)) := by rw [hol, castL_set]
        have e2 : (predL F).set E.toNat (IntKind.wrap .i64 ((((castL A).length + 1 : Nat) : Int) - 1)) = predL (F.set E.toNat (A.length + 1)) := by
          rw [← predL_set, w64 (by omega), hal2]
        have e3 := castL_app A 0
        have e4 := pairL_app A 0
        rw [e1, e2]
        show law14_FilesFds_l0 N k0 k1 n (.v1 s _ _ 1 M1 data8 (pairL A ++ [(0, ((0 : Nat) : Int))]) (castL A ++ [((0 : Nat) : Int)]) _) = k1
        rw [e3, e4]
        apply go
        refine { len := by simp [hF4], le := ?_, al := by simp; omega, a8 := ?_ }
        · intro j
          have := fill (A.length + 1) (by omega) h j
          simpa using this
        · intro j
          have := I.a8 j
          simp only [List.getD_eq_getElem?_getD, List.getElem?_append] at this ⊢
          split
          · exact this
          · cases hq : j - A.length with
            | zero => simp
            | succ q => simp
      · rw [if_neg h, br_of (decide_eq_true (by omega)), br_of (by decide), br_not (decide_eq_false h), br_not (decide_eq_false h)]
        exact go same
    rw [br_not (decide_eq_false h0)]
    by_cases h1 : band .u8 x 3 = 1
    · rw [br_of (decide_eq_true h1)]
      by_cases hz : F.getD k 0 = 0
      · rw [twin_none N k hk4 (castL F) (by rw [hc, hz]; rfl)]
        rw [br_of (inB_of (by omega)), br_of (decide_eq_true (by omega)), br_of (decide_eq_true (by rw [hp]; omega)), br_not (by decide)]
        exact go same
      · obtain ⟨j, hj⟩ : ∃ j, F.getD k 0 = j + 1 := ⟨F.getD k 0 - 1, by omega⟩
        rw [twin_eq N (by omega) k j hk4 (castL F) (by rw [hc, hj]) 1 M1 data8 (pairL A) (by omega) (by omega), hE]
        by_cases h : 0 ≤ E
        · rw [if_pos h, br_of (inB_of (by omega)), br_of (decide_eq_true (by omega)), br_not (decide_eq_false (by rw [hp]; omega)), br_not (decide_eq_false (by omega)), w64 (x := E) (by omega), br_not (by rw [decide_eq_true rfl]; rfl)]
          rw [br_of (inB_of (by omega)), br_of (decide_eq_true (by omega)), br_of (inB_of (by omega)), br_of (decide_eq_true (by omega)), hp, hj, castL_set, predL_set]
          apply go
          refine { same with len := by simp [hF4], le := ?_ }
          intro q
          rw [nat_getD_set F _ q _ (by omega)]
          split
          · omega
          · exact I.le q
        · rw [if_neg h, br_of (inB_of (by omega)), br_of (decide_eq_true (by omega)), br_not (decide_eq_false (by rw [hp]; omega)), br_of (decide_eq_true (by omega)), br_not (by decide)]
          exact go same
    rw [br_not (decide_eq_false h1)]
    by_cases h2 : band .u8 x 3 = 2
    · rw [br_of (decide_eq_true h2)]
      have nxt : FdsInv (i + 1) A (F.set k 0) := by
        refine { same with len := by simp [hF4], le := ?_ }
        intro q
        rw [nat_getD_set F _ q _ (by omega)]
        split
        · omega
        · exact I.le q
      have e2 : (predL F).set k (-1) = predL (F.set k 0) := by rw [← predL_set]; rfl
      by_cases hz : F.getD k 0 = 0
      · have e1 : castL F = castL (F.set k 0) := by
          have : F.set k 0 = F := by
            apply List.ext_getElem (by simp)
            intro q hq1 hq2
            rw [List.getElem_set]
            split
            · rename_i e
              subst e
              rw [List.getD_eq_getElem?_getD, List.getElem?_eq_getElem hq2] at hz
              exact hz.symm
            · rfl
          rw [this]
        rw [close_none N k hk4 (castL F) (by rw [hc, hz]; rfl)]
        rw [br_of (inB_of (by omega)), br_of (decide_eq_true (by omega)), br_not (by rw [hp, hz]; decide), br_of (inB_of (by omega)), br_of (decide_eq_true (by omega)), e2, e1]
        exact go nxt
      · obtain ⟨j, hj⟩ : ∃ j, F.getD k 0 = j + 1 := ⟨F.getD k 0 - 1, by omega⟩
        rw [close_eq N k j hk4 (castL F) (by rw [hc, hj]) 1 M1 data8 (pairL A) (by omega) (by omega)]
        have e1 := castL_set F k 0
        rw [br_of (inB_of (by omega)), br_of (decide_eq_true (by omega)), br_not (by rw [hp, decide_eq_true (p := (0 : Int) ≤ _) (by omega)]; rfl), br_of (inB_of (by omega)), br_of (decide_eq_true (by omega)), e2]
        show law14_FilesFds_l0 N k0 k1 n (.v1 s _ ((castL F).set k ((0 : Nat) : Int)) 1 M1 data8 _ _ _) = k1
        rw [e1]
        exact go nxt
    rw [br_not (decide_eq_false h2)]
    by_cases hz : F.getD k 0 = 0
    · rw [read_none N k hk4 (castL F) (by rw [hc, hz]; rfl)]
      rw [br_of (inB_of (by omega)), br_of (decide_eq_true (by omega)), br_of (decide_eq_true (by rw [hp]; omega)), br_not (by decide)]
      exact go same
    · obtain ⟨j, hj⟩ : ∃ j, F.getD k 0 = j + 1 := ⟨F.getD k 0 - 1, by omega⟩
      have ha8 := I.a8 j
      have hrd := fun K => read_eq (R := R) N k j hk4 (castL F) (by rw [hc, hj]) 1 M1 data8 (pairL A) (by omega) (by omega) 0 (A.getD j 0) (by omega) (pairL_get A j) (by decide) 1 (by omega) K
      refine (hrd _).trans ?_
      rw [data8_get, br_of (inB_of (by omega)), br_of (decide_eq_true (by omega)), br_not (decide_eq_false (by rw [hp]; omega))]
      rw [fds_lj0 N N _ _ _ _ s _ k j (A.getD j 0) hk4 _ _ _ _ _ A F hF4 hj (by omega) (by omega) rfl ha8, hin]
      have e4 : (pairL A).set j (0, ((A.getD j 0 + ((([0, 1, 2, 3, 4, 5, 6, 7] : List Int).drop (A.getD j 0)).take 1).length : Nat) : Int)) = pairL (A.set j (min (A.getD j 0 + 1) 8)) := by
        rw [pairL_set, data8_sum _ (by omega)]
      rw [e4]
      apply go
      refine { same with le := ?_, al := by simp; omega, a8 := ?_ }
      · intro q
        have := I.le q
        simpa using this
      · intro q
        rw [nat_getD_set A _ q _ (by omega)]
        split
        · omega
        · exact I.a8 q

/-- what the law does with the file system it has made -/
noncomputable def fdsK {R : Type} (N : Nat) (s : List Int) (k : Bool → Option R) (i : Int) (f : List Int) (nx : Int) (m : TM) (d : DM) (l : OL) : Option R :=
  br (!(!(decide (i = 0))))
    (br (decide (200 < ((s.length : Nat) : Int))) (br (decide (i = 0)) (k true) (k false))
      (law14_FilesFds_l0 N (fun b => k b) (k true) N (.v1 s 0 f nx m d l [] [-1, -1, -1, -1])))
    (br (decide (i = 0)) (k true) (k false))

theorem fds_T {R : Type} (N : Nat) (s : List Int) (k : Bool → Option R) : ∃ k0 k1,
    law14_FilesFds N s k = law14_awake N (fun b => br (!b) (k false) (files_New_bfc2 N [(bs [97], (false, 0))] [[0, 1, 2, 3, 4, 5, 6, 7]] k0 k1 (fun i _ _ f nx m d l => fdsK N s k i f nx m d l))) :=
  ⟨_, _, rfl⟩

theorem fds_head {R : Type} (s : List Int) (k : Bool → Option R) : law14_FilesFds 3000 s k = fdsK 3000 s k 0 [0, 0, 0, 0] 1 [((bs [], bs [97]), (0, false))] [(0, [0, 1, 2, 3, 4, 5, 6, 7])] [] := by
  obtain ⟨k0, k1, h⟩ := fds_T 3000 s k
  refine h.trans ((awake14 _).trans ?_)
  refine Eq.trans (br_false _ _) ?_
  exact new_one [0, 1, 2, 3, 4, 5, 6, 7] (by decide)

theorem filesFds_far {R : Type} (s : List Int) (k : Bool → Option R) (h : 200 < (s.length : Int)) :
    law14_FilesFds 3000 s k = k true := by
  rw [fds_head]
  unfold fdsK
  rw [br_of (by simp), br_dec, if_pos h, br_of (by simp)]

theorem filesFds_head {R : Type} (s : List Int) (k : Bool → Option R) (h : ¬ 200 < (s.length : Int)) :
    law14_FilesFds 3000 s k = law14_FilesFds_l0 3000 (fun b => k b) (k true) 3000 (.v1 s 0 [0, 0, 0, 0] 1 [((bs [], bs [97]), (0, false))] [(0, [0, 1, 2, 3, 4, 5, 6, 7])] [] [] [-1, -1, -1, -1]) := by
  rw [fds_head]
  unfold fdsK
  rw [br_of (by simp), br_dec, if_neg h]

theorem filesFds_true {R : Type} (s : List Int) (hs : ∀ x ∈ s, 0 ≤ x ∧ x ≤ 255) (k : Bool → Option R) : law14_FilesFds 3000 s k = k true := by
  by_cases h : 200 < (s.length : Int)
  · exact filesFds_far s k h
  · rw [filesFds_head s k h]
    have hle : ∀ j, ([0, 0, 0, 0] : List Nat).getD j 0 ≤ ([] : List Nat).length := by
      intro j
      match j with
      | 0 => exact Nat.le_refl 0
      | 1 => exact Nat.le_refl 0
      | 2 => exact Nat.le_refl 0
      | 3 => exact Nat.le_refl 0
      | _ + 4 => exact Nat.le_refl 0
    have I : FdsInv 0 [] [0, 0, 0, 0] := { len := rfl, le := hle, al := Nat.le_refl 0, a8 := fun j => by simp }
    have h := fds_loop (R := R) 3000 (by omega) k (k true) s hs (by omega) s.length 0 3000 [] [0, 0, 0, 0] (by omega) (by omega) (by omega) I
    have e1 : castL [0, 0, 0, 0] = [0, 0, 0, 0] := rfl
    have e2 : predL [0, 0, 0, 0] = [-1, -1, -1, -1] := rfl
    have e3 : pairL [] = [] := rfl
    have e4 : castL [] = [] := rfl
    have e5 : ((0 : Nat) : Int) = 0 := rfl
    rw [e1, e2, e3, e4, e5] at h
    unfold M1 at h
    exact h

end Go.Proofs.Ytfeacgamgdpojaa
