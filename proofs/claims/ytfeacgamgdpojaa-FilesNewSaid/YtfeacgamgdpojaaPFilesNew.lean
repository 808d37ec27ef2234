/-
  the law FilesNew of chapter 14, as a printed function: it comes to true.
-/
import Derived.Test.YtfeacgamgdpojaaPFilesCl
import Derived.Test.YtfeacgamgdpojaaPFilesD
set_option linter.unusedSimpArgs false
set_option linter.unusedVariables false
namespace Go.Proofs.Ytfeacgamgdpojaa
open Go.Gx

/-- what holds at each round's head -/
structure NewInv (i : Nat) (many nx : Int) (m : TM) (l : OL) (made : List Bool) : Prop where
  len : made.length = 26
  many : many = (m.length : Int)
  most : m.length ≤ 8
  nx : 0 ≤ nx ∧ nx ≤ i
  ll : l.length ≤ i
  at_ : ∀ k, k < 26 → made.getD k false = (tfind m (key k)).isSome
  file : ∀ k, k < 26 → ∀ v, tfind m (key k) = some v → v.2 = false

theorem dget_nil {m : TM} {k : Nat} : ∀ v, tfind m (key k) = some v → (dgetV [] v.1).length ≤ 1000000 := fun _ _ => Nat.zero_le _

theorem new_loop {R : Type} (N : Nat) (hN : 8 < N) (k0 : Bool → Option R) (k1 : Option R) (s : List Int) (hs : ∀ x ∈ s, 0 ≤ x ∧ x ≤ 255) (hlen : s.length ≤ 100) :
    ∀ (e i n : Nat) (many nx : Int) (m : TM) (l : OL) (made : List Bool), s.length - i = e → i ≤ s.length → e < n → NewInv i many nx m l made →
      law14_FilesNew_l0 N k0 k1 n s many (i : Int) [0, 0, 0, 0] nx m [] l made = k1 := by
  intro e
  induction e with
  | zero =>
    intro i n many nx m l made hd hi hn I
    obtain ⟨n, rfl⟩ : ∃ n', n = n' + 1 := ⟨n - 1, by omega⟩
    simp only [law14_FilesNew_l0, law14_FilesNew_l0_T0, br_dec]
    rw [if_neg (by omega)]
  | succ e ih =>
    intro i n many nx m l made hd hi hn I
    obtain ⟨n, rfl⟩ : ∃ n', n = n' + 1 := ⟨n - 1, by omega⟩
    have hlt : i < s.length := by omega
    obtain ⟨x, hx, hx2⟩ : ∃ x, s.getD (Int.toNat (i : Int)) 0 = x ∧ 0 ≤ x ∧ x ≤ 255 := by
      refine ⟨_, rfl, ?_⟩
      have : s.getD (Int.toNat (i : Int)) 0 = s[i] := by simp [List.getD_eq_getElem?_getD, List.getElem?_eq_getElem hlt]
      rw [this]
      exact hs _ (List.getElem_mem hlt)
    obtain ⟨k, hk, hk2⟩ : ∃ k : Nat, Int.tmod (IntKind.wrap .i64 x) 26 = (k : Int) ∧ k < 26 := by
      rw [w64 (by omega), Int.tmod_eq_emod_of_nonneg (by omega)]
      exact ⟨(x % 26).toNat, by omega, by omega⟩
    have hat := I.at_ k hk2
    have hnx := I.nx
    have hmost := I.most
    have hmany := I.many
    have hll := I.ll
    have hin : IntKind.wrap .i64 ((i : Int) + 1) = ((i + 1 : Nat) : Int) := by rw [w64 (by omega)]; omega
    have hkn : Int.toNat (k : Int) = k := by omega
    have c1 : inB (k : Int) 26 = true := inB_of (by omega)
    have c2 : decide (k < 26) = true := decide_eq_true (by omega)
    have e4 : decide ((0 : Int) = 0) = true := by decide
    simp only [law14_FilesNew_l0, law14_FilesNew_l0_T0, law14_FilesNew_lj0, law14_FilesNew_lj0_T0, law14_FilesNew_lj1, law14_FilesNew_lj1_T0, hx, hk, str_nm hk2, hin, hkn]
    rw [br_of (decide_eq_true (by omega)), br_of (inB_of (by omega)), open_nm N hN hk2 _ nx (by omega) m [] l (by omega) (I.file k hk2)]
    have hf0 : freeV [0, 0, 0, 0] = 0 := rfl
    have go : ∀ {many nx m l made}, NewInv (i + 1) many nx m l made → law14_FilesNew_l0 N k0 k1 n s many ((i + 1 : Nat) : Int) [0, 0, 0, 0] nx m [] l made = k1 :=
      fun h => ih (i + 1) n _ _ _ _ _ (by omega) (by omega) (by omega) h
    have hcl : ∀ {nx m} {id : Int} (K : Int → List Int → Int → TM → DM → OL → Option R),
        files_Files_Close_b447 N 0 [((l.length + 1 : Nat) : Int), 0, 0, 0] nx m [] (l ++ [(id, 0)]) K = K 0 [0, 0, 0, 0] nx m [] (l ++ [(id, 0)]) := by
      intro nx m id K
      exact close_eq N 0 l.length (by omega) [((l.length + 1 : Nat) : Int), 0, 0, 0] rfl nx m [] (l ++ [(id, 0)]) (by simp) (by simp; omega) K
    simp only [openV, hf0, if_pos (Int.le_refl 0), c1, c2, br_true, hat]
    cases hs' : tfind m (key k) with
    | some v =>
      have hset : List.set [(0 : Int), 0, 0, 0] (Int.toNat 0) ((l.length + 1 : Nat) : Int) = [((l.length + 1 : Nat) : Int), 0, 0, 0] := rfl
      simp only [Option.isSome_some, Bool.not_true, br_false, hset, e4, Bool.not_false, br_true, hcl]
      rw [data_nm N hN hk2 _ nx m [] _ dget_nil (I.file k hk2)]
      simp only [dataV, hs', e4, Bool.not_true, Bool.not_false, br_true]
      show law14_FilesNew_l0 N k0 k1 n s many ((i + 1 : Nat) : Int) [0, 0, 0, 0] nx m [] (l ++ [(v.1, 0)]) made = k1
      exact go { I with nx := by omega, ll := by simp; omega }
    | none =>
      by_cases h8 : 8 ≤ m.length
      · simp only [if_pos h8, Option.isSome_none, Bool.not_false, br_true]
        rw [br_of (decide_eq_true (by omega)), data_nm N hN hk2 _ nx m [] _ dget_nil (I.file k hk2)]
        simp only [dataV, hs']
        show law14_FilesNew_l0 N k0 k1 n s many ((i + 1 : Nat) : Int) [0, 0, 0, 0] nx m [] l made = k1
        exact go { I with nx := by omega, ll := by omega }
      · have hset : List.set [(0 : Int), 0, 0, 0] (Int.toNat 0) ((l.length + 1 : Nat) : Int) = [((l.length + 1 : Nat) : Int), 0, 0, 0] := rfl
        have hput : tfind (tput m (key k) (nx, false)) (key k) = some (nx, false) := mfind_put_same KS_key _ _
        have file2 : ∀ j, j < 26 → ∀ v, tfind (tput m (key k) (nx, false)) (key j) = some v → v.2 = false := by
          intro j hj v hv
          by_cases e : k = j
          · subst e
            rw [hput] at hv
            cases hv
            rfl
          · have : tfind (tput m (key k) (nx, false)) (key j) = tfind m (key j) := mfind_put_ne KS_key (key_ne hk2 hj e) _
            rw [this] at hv
            exact I.file j hj v hv
        simp only [if_neg h8, Option.isSome_none, Bool.not_false, br_true]
        rw [br_not (decide_eq_false (by omega))]
        simp only [hset, e4, Bool.not_true, Bool.not_false, br_true, br_false, hcl]
        rw [data_nm N hN hk2 _ (nx + 1) _ [] _ dget_nil (file2 k hk2)]
        simp only [dataV, hput, e4, Bool.not_true, Bool.not_false, br_true]
        rw [w64 (by omega)]
        show law14_FilesNew_l0 N k0 k1 n s (many + 1) ((i + 1 : Nat) : Int) [0, 0, 0, 0] (nx + 1) (tput m (key k) (nx, false)) [] (l ++ [(nx, 0)]) (made.set k true) = k1
        have hl1 : (tput m (key k) (nx, false)).length = m.length + 1 := by
          have := length_put (ks := KS) (vs := VS) (l := m) (key k) (nx, false)
          have hs2 : (mfind KS VS m (key k)) = none := hs'
          rw [hs2] at this
          simpa [tput] using this
        apply go
        refine { len := by simp [I.len], many := by rw [hl1]; omega, most := by rw [hl1]; omega, nx := by omega, ll := by simp; omega, at_ := ?_, file := file2 }
        intro j hj
        rw [getD_set (by rw [I.len]; exact hk2)]
        by_cases e : k = j
        · subst e
          rw [if_pos rfl, hput]
          rfl
        · rw [if_neg e, I.at_ j hj]
          have : tfind (tput m (key k) (nx, false)) (key j) = tfind m (key j) := mfind_put_ne KS_key (key_ne hk2 hj e) _
          rw [this]

theorem filesNew_true {R : Type} (s : List Int) (hs : ∀ x ∈ s, 0 ≤ x ∧ x ≤ 255) (k : Bool → Option R) : law14_FilesNew 3000 s k = k true := by
  unfold law14_FilesNew law14_FilesNew_T
  rw [awake14]
  have hnew : ∀ {k0 : Int → Option R} {k1 : Int → List Int → Int → TM → DM → OL → Option R}, files_New_38f2 3000 k0 k1 = k1 0 [0, 0, 0, 0] 0 [] [] [] := rfl
  simp only [Bool.not_true, br_false, hnew]
  rw [br_of (by simp), br_dec]
  by_cases h : 100 < (s.length : Int)
  · rw [if_pos h, br_of (by simp)]
  · rw [if_neg h]
    refine new_loop 3000 (by omega) _ _ s hs (by omega) s.length 0 3000 0 0 [] [] _ (by omega) (by omega) (by omega) ?_
    refine { len := by simp, many := rfl, most := by simp, nx := by omega, ll := by simp, at_ := ?_, file := ?_ }
    · intro k hk
      rw [getD_rep 26 k]
      rfl
    · intro k hk v hv
      cases hv

end Go.Proofs.Ytfeacgamgdpojaa
