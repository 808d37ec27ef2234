/-
  the law TreeFull of chapter 13, as a printed function: it comes to true.
-/
import Derived.Test.YtppmkhgpljkljaaPTree
set_option linter.unusedSimpArgs false
set_option linter.unusedVariables false
namespace Go.Proofs.Ytppmkhgpljkljaa
open Go.Gx

def nm (k : Nat) : List UInt8 := [UInt8.ofNat (97 + k)]

theorem nm_val {k : Nat} (h : k < 26) : (UInt8.ofNat (97 + k)).toNat = 97 + k := by simp; omega

theorem nm_inj {a b : Nat} (ha : a < 26) (hb : b < 26) (h : nm a = nm b) : a = b := by
  have h1 : UInt8.ofNat (97 + a) = UInt8.ofNat (97 + b) := by simpa [nm] using h
  have := congrArg UInt8.toNat h1
  rw [nm_val ha, nm_val hb] at this
  omega

theorem split_nm {k : Nat} (h : k < 26) : splitL (nm k) = ([], nm k) := by
  apply split_one
  · have h1 := nm_val h
    have h2 := letterI_u8 (UInt8.ofNat (97 + k))
    rw [h1] at h2
    rw [← h2]
    have e1 : decide ((97 : Int) ≤ ((97 + k : Nat) : Int)) = true := decide_eq_true (by omega)
    have e2 : decide (((97 + k : Nat) : Int) ≤ 122) = true := decide_eq_true (by omega)
    unfold letterI
    rw [e1, e2]
    rfl
  · intro e
    have := congrArg UInt8.toNat e
    rw [nm_val h] at this
    simp at this
    omega

def key (k : Nat) : ByteArray × ByteArray := (bs [], bs (nm k))
theorem key_ne {a b : Nat} (ha : a < 26) (hb : b < 26) (h : a ≠ b) : key a ≠ key b := fun e => h (nm_inj ha hb (bs_inj.1 (congrArg Prod.snd e)))

theorem above_nm {k : Nat} (m : TM) : aboveV [] (nm k) m = 0 := by simp [aboveV, nm]

theorem makeC_nm {k : Nat} (h : k < 26) (m : TM) : makeC (nm k) false m = if (tfind m (key k)).isSome then 65297 else if 8 ≤ m.length then 65308 else 0 := by
  unfold makeC
  rw [split_nm h]
  simp only [above_nm]
  rw [if_neg (by simp)]
  simp only [Bool.false_eq_true, false_and, if_false]
  rfl

theorem getV_nm {k : Nat} (h : k < 26) (m : TM) : getV (nm k) m = match tfind m (key k) with
    | none => (0, false, 65282)
    | some x => (x.1, x.2, 0) := by
  unfold getV
  rw [split_nm h]
  simp only [above_nm]
  rw [if_pos trivial]
  rfl

/-- what holds at each round's head -/
structure FullInv (i : Nat) (many last nx : Int) (m : TM) (there : List Bool) : Prop where
  len : there.length = 26
  nd : (m.map (·.1)).Nodup
  many : many = (m.length : Int)
  most : m.length ≤ 8
  next : nx = last + 1
  nx : 0 ≤ nx ∧ nx ≤ i
  at_ : ∀ k, k < 26 → there.getD k false = (tfind m (key k)).isSome
  file : ∀ k, k < 26 → ∀ v, tfind m (key k) = some v → v.2 = false

theorem str_nm {k : Nat} (h : k < 26) : mkStr (sub (List.set (List.replicate 1 (Sh.zero (.int .u8))) 0 (IntKind.wrap .u8 (97 + IntKind.wrap .u8 (k : Int)))) 0 1) = bs (nm k) := by
  rw [wu8 (x := (k : Int)) (by omega), wu8 (by omega)]
  have : (97 + (k : Int)).toNat = 97 + k := by omega
  show mkStr [97 + (k : Int)] = _
  unfold mkStr
  rw [List.map_cons, this]
  rfl

theorem getD_set {l : List Bool} {k j : Nat} {b : Bool} (h : k < l.length) : (l.set k b).getD j false = if k = j then b else l.getD j false := by
  simp only [List.getD_eq_getElem?_getD, List.getElem?_set]
  split
  · rename_i e; subst e; simp [h]
  · rfl

theorem getD_rep (n k : Nat) : (List.replicate n false).getD k false = false := by
  rw [List.getD_eq_getElem?_getD, List.getElem?_replicate]
  split <;> rfl

theorem full_loop {R : Type} (N : Nat) (hN : 8 < N) (k0 : Bool → Option R) (k1 : Option R) (l : List Int) (hl : ∀ x ∈ l, 0 ≤ x ∧ x ≤ 255) (hlen : l.length ≤ 200) :
    ∀ (d i n : Nat) (many last nx : Int) (m : TM) (there : List Bool), l.length - i = d → i ≤ l.length → d < n → FullInv i many last nx m there →
      law13_TreeFull_l0 N k0 k1 n l 26 many last (i : Int) nx m 26 there = k1 := by
  intro d
  induction d with
  | zero =>
    intro i n many last nx m there hd hi hn I
    obtain ⟨n, rfl⟩ : ∃ n', n = n' + 1 := ⟨n - 1, by omega⟩
    simp only [law13_TreeFull_l0, law13_TreeFull_l0_T0, br_dec]
    rw [if_neg (by omega)]
  | succ d ih =>
    intro i n many last nx m there hd hi hn I
    obtain ⟨n, rfl⟩ : ∃ n', n = n' + 1 := ⟨n - 1, by omega⟩
    have hlt : i < l.length := by omega
    obtain ⟨x, hx, hx2⟩ : ∃ x, l.getD (Int.toNat (i : Int)) (Sh.zero (.int .u8)) = x ∧ 0 ≤ x ∧ x ≤ 255 := by
      refine ⟨_, rfl, ?_⟩
      have : l.getD (Int.toNat (i : Int)) (Sh.zero (.int .u8)) = l[i] := by simp [List.getD_eq_getElem?_getD, List.getElem?_eq_getElem hlt]
      rw [this]
      exact hl _ (List.getElem_mem hlt)
    obtain ⟨k, hk, hk2⟩ : ∃ k : Nat, Int.tmod (IntKind.wrap .i64 (shrI .u8 x 1)) 26 = (k : Int) ∧ k < 26 := by
      have h1 : shrI .u8 x 1 = x / 2 := by
        show x.fdiv (2 ^ 1) = _
        rw [Int.fdiv_eq_ediv_of_nonneg _ (by decide)]
        rfl
      rw [h1, w64 (by omega), Int.tmod_eq_emod_of_nonneg (by omega)]
      exact ⟨(x / 2 % 26).toNat, by omega, by omega⟩
    have hi1 : ((i : Int) + 1) = ((i + 1 : Nat) : Int) := by omega
    have hz : (Sh.zero .bool) = false := rfl
    simp only [law13_TreeFull_l0, law13_TreeFull_l0_T0, hx, hk, str_nm hk2, hz]
    rw [br_of (decide_eq_true (by omega)), br_of (inB_of (by omega)), br_of (by rfl), br_of (inB_of (by omega))]
    have c1 : inB (k : Int) 26 = true := inB_of (by omega)
    have c2 : decide (Int.toNat (k : Int) < 26) = true := decide_eq_true (by omega)
    simp only [c1, c2, br_true]
    have hat := I.at_ k hk2
    have hnx := I.nx
    have hmost := I.most
    have hmany := I.many
    have hnext := I.next
    have hin : IntKind.wrap .i64 ((i : Int) + 1) = ((i + 1 : Nat) : Int) := by rw [w64 (by omega)]; omega
    have hkn : Int.toNat (k : Int) = k := by omega
    simp only [hin, hkn, hat]
    -- the state as it was, one round on
    have same : FullInv (i + 1) many last nx m there := { I with nx := by omega }
    have go : ∀ {many last nx m there}, FullInv (i + 1) many last nx m there → law13_TreeFull_l0 N k0 k1 n l 26 many last ((i + 1 : Nat) : Int) nx m 26 there = k1 :=
      fun h => ih (i + 1) n _ _ _ _ _ (by omega) (by omega) (by omega) h
    cases hb : decide (band .u8 x 1 = 0) with
    | true =>
      rw [br_true, make_eq N hN (nm k) false nx (by omega), makeC_nm hk2, split_nm hk2]
      cases hs : (tfind m (key k)).isSome with
      | true =>
        simp only [if_true, br_true]
        rw [if_neg (by omega), br_not (by simp), len_eq, br_not (by simp [hmany])]
        exact go same
      | false =>
        simp only [Bool.false_eq_true, if_false, br_false]
        by_cases h8 : 8 ≤ m.length
        · rw [if_pos h8, if_neg (by omega), br_of (decide_eq_true (by omega)), br_not (by simp), len_eq, br_not (by simp [hmany])]
          exact go same
        · rw [if_neg h8, if_pos rfl, br_not (decide_eq_false (by omega)), br_of (by simp), w64 (by omega), br_not (by simp; omega), w64 (by omega), len_eq]
          have hl1 : (tput m (key k) (nx, false)).length = m.length + 1 := by
            have := length_put (ks := KS) (vs := VS) (l := m) (key k) (nx, false)
            have hs' : (mfind KS VS m (key k)).isSome = false := hs
            rw [hs'] at this
            simpa [tput] using this
          have hl2 : (tput m (bs [], bs (nm k)) (nx, false)).length = m.length + 1 := hl1
          rw [hl2, br_not (by simp; omega)]
          apply go
          refine { len := by simp [I.len], nd := nodup_put (ks := KS) (vs := VS) KS_key I.nd _ _, many := by rw [hl2]; omega, most := by rw [hl2]; omega, next := by omega, nx := by omega, at_ := ?_, file := ?_ }
          · intro j hj
            rw [getD_set (by rw [I.len]; exact hk2)]
            by_cases e : k = j
            · subst e
              rw [if_pos rfl]
              have : tfind (tput m (key k) (nx, false)) (key k) = some (nx, false) := mfind_put_same KS_key _ _
              show true = (tfind (tput m (key k) (nx, false)) (key k)).isSome
              rw [this]
              rfl
            · rw [if_neg e, I.at_ j hj]
              have : tfind (tput m (key k) (nx, false)) (key j) = tfind m (key j) := mfind_put_ne KS_key (key_ne hk2 hj e) _
              show _ = (tfind (tput m (key k) (nx, false)) (key j)).isSome
              rw [this]
          · intro j hj v hv
            by_cases e : k = j
            · subst e
              have : tfind (tput m (key k) (nx, false)) (key k) = some (nx, false) := mfind_put_same KS_key _ _
              have hv : tfind (tput m (key k) (nx, false)) (key k) = some v := hv
              rw [this] at hv
              cases hv
              rfl
            · have : tfind (tput m (key k) (nx, false)) (key j) = tfind m (key j) := mfind_put_ne KS_key (key_ne hk2 hj e) _
              have hv : tfind (tput m (key k) (nx, false)) (key j) = some v := hv
              rw [this] at hv
              exact I.file j hj v hv
    | false =>
      rw [br_false, drop_file_eq N hN, getV_nm hk2, split_nm hk2]
      cases hs : tfind m (key k) with
      | none =>
        simp only [Option.isSome_none, br_false]
        rw [if_neg (by omega)]
        have e1 : decide ((65282 : Int) = 0) = false := by decide
        have e2 : decide ((65282 : Int) = 65282) = true := by decide
        have e3 : decide ((m.length : Int) = many) = true := decide_eq_true hmany.symm
        simp only [e1, e2, Bool.not_false, Bool.not_true, beq_self_eq_true, br_true, br_false, len_eq, e3]
        exact go same
      | some v =>
        have hv2 : v.2 = false := I.file k hk2 v hs
        simp only [Option.isSome_some, hv2, Bool.false_eq_true, if_false, if_true, br_true]
        have e1 : decide ((0 : Int) = 0) = true := by decide
        simp only [e1, Bool.not_true, Bool.not_false, beq_self_eq_true, br_true, br_false, len_eq]
        have hl1 : (tdel m (key k)).length = m.length - 1 := by
          have := length_del (ks := KS) (vs := VS) (l := m) (key k)
          have hs' : (mfind KS VS m (key k)).isSome = true := by
            have : mfind KS VS m (key k) = some v := hs
            rw [this]; rfl
          rw [hs'] at this
          simpa [tdel] using this
        have hl2 : (tdel m (bs [], bs (nm k))).length = m.length - 1 := hl1
        have hpos : 0 < m.length := by
          cases m with
          | nil => cases hs
          | cons => simp
        have e3 : decide (((tdel m (bs [], bs (nm k))).length : Int) = IntKind.wrap .i64 (many - 1)) = true := decide_eq_true (by rw [w64 (by omega), hl2]; omega)
        rw [e3, w64 (by omega)]
        simp only [Bool.not_true, br_false]
        apply go
        refine { len := by simp [I.len], nd := nodup_del (ks := KS) (vs := VS) KS_key I.nd _, many := by rw [hl2]; omega, most := by rw [hl2]; omega, next := by omega, nx := by omega, at_ := ?_, file := ?_ }
        · intro j hj
          rw [getD_set (by rw [I.len]; exact hk2)]
          by_cases e : k = j
          · subst e
            rw [if_pos rfl]
            have : tfind (tdel m (key k)) (key k) = none := mfind_del_same (ks := KS) (vs := VS) KS_key I.nd _
            show false = (tfind (tdel m (key k)) (key k)).isSome
            rw [this]
            rfl
          · rw [if_neg e, I.at_ j hj]
            have : tfind (tdel m (key k)) (key j) = tfind m (key j) := mfind_del_ne KS_key (key_ne hk2 hj e)
            show _ = (tfind (tdel m (key k)) (key j)).isSome
            rw [this]
        · intro j hj v' hv'
          by_cases e : k = j
          · subst e
            have : tfind (tdel m (key k)) (key k) = none := mfind_del_same (ks := KS) (vs := VS) KS_key I.nd _
            have hv' : tfind (tdel m (key k)) (key k) = some v' := hv'
            rw [this] at hv'
            cases hv'
          · have : tfind (tdel m (key k)) (key j) = tfind m (key j) := mfind_del_ne KS_key (key_ne hk2 hj e)
            have hv' : tfind (tdel m (key k)) (key j) = some v' := hv'
            rw [this] at hv'
            exact I.file j hj v' hv'

theorem treeFull_true {R : Type} (l : List Int) (hl : ∀ x ∈ l, 0 ≤ x ∧ x ≤ 255) (N : Nat) (hN : 300 < N) (k : Bool → Option R) : law13_TreeFull N l k = k true := by
  unfold law13_TreeFull law13_TreeFull_T
  rw [awake13 N (by omega), new_nil_eq N (by omega)]
  simp only [Bool.not_true, br_false]
  rw [br_of (by simp), br_dec, br_of (by simp)]
  by_cases h : 200 < (l.length : Int)
  · rw [if_pos h]
  · rw [if_neg h]
    refine full_loop N (by omega) _ _ l hl (by omega) l.length 0 N 0 (-1) 0 [] _ (by omega) (by omega) (by omega) ?_
    refine { len := by simp, nd := by simp, many := rfl, most := by simp, next := rfl, nx := by omega, at_ := ?_, file := ?_ }
    · intro k hk
      have : ((List.replicate (Int.toNat 26) (Sh.zero .bool))).getD k false = false := by
        exact getD_rep 26 k
      rw [this]
      rfl
    · intro k hk v hv
      cases hv

end Go.Proofs.Ytppmkhgpljkljaa
