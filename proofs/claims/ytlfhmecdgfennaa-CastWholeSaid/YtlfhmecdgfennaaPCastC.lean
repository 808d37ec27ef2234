/-
  an input as numbers, numbers as an input (chapter 18): the plain law.
-/
import Derived.Test.YtlfhmecdgfennaaPCastA
set_option linter.unusedVariables false
set_option linter.unusedSimpArgs false
namespace Go.Proofs.Ytlfhmecdgfennaa
open Go.Gx

/-- the bytes of a text, noughts behind them -/
def padT (c : Nat) (t : List Int) : List Int := (List.range c).map fun k => t.getD k 0
theorem padT_len (c : Nat) (t : List Int) : (padT c t).length = c := by simp [padT]
def encT : List Int → List (List Int) → List Int
  | c :: C, t :: T => (t.length : Int) :: (padT c.toNat t ++ encT C T)
  | _, _ => []
def encX (X : List Bool) : List Int := X.map fun b => if b = true then 1 else 0
def offN : List Int → Nat
  | [] => 0
  | c :: C => 1 + c.toNat + offN C
theorem enc_len : ∀ {C : List Int} {T : List (List Int)}, T.length = C.length → (encT C T).length = offN C
  | [], [], _ => rfl
  | c :: C, t :: T, h => by
    have := enc_len (C := C) (T := T) (by simpa using h)
    simp only [encT, offN, List.length_cons, List.length_append, padT_len, this]
    omega

def w8 (x : Int) : Int := IntKind.wrap .u8 x
theorem w8_iff {x : Int} (h : 0 ≤ x) : w8 x = x ↔ x ≤ 255 := by
  unfold w8
  constructor
  · intro e
    have : (IntKind.wrap .u8 x) ≤ 255 := by
      rw [show IntKind.wrap .u8 x = x % 256 from rfl]
      omega
    omega
  · intro e
    rw [show IntKind.wrap .u8 x = x % 256 from rfl]
    omega

theorem app_iff {a b c d : List Int} (h : a.length = c.length) : a ++ b = c ++ d ↔ a = c ∧ b = d :=
  ⟨fun e => List.append_inj e h, fun ⟨e1, e2⟩ => by rw [e1, e2]⟩
/-! ### numbers as texts -/
def decB (E : List Int) (at' n : Nat) : List Int := (List.range n).map fun k => w8 (E.getD (at' + 1 + k) 0)
def decT (E : List Int) : Nat → List Int → List (List Int)
  | _, [] => []
  | at', c :: C => decB E at' (min c (E.getD at' 0)).toNat :: decT E (at' + 1 + c.toNat) C
theorem dec_len (E : List Int) : ∀ (at' : Nat) (C : List Int), (decT E at' C).length = C.length
  | _, [] => rfl
  | at', c :: C => by simp [decT, dec_len E _ C]
def okB (E : List Int) (at' : Nat) (c : Int) : Bool :=
  decide (E.getD at' 0 ≤ c) && (List.range c.toNat).all fun k => decide (E.getD (at' + 1 + k) 0 ≤ 255) && (decide ((k : Int) < E.getD at' 0) || decide (E.getD (at' + 1 + k) 0 = 0))
def okR (E : List Int) : Nat → List Int → Bool
  | _, [] => true
  | at', c :: C => okB E at' c && okR E (at' + 1 + c.toNat) C

def sl (E : List Int) (at' n : Nat) : List Int := (List.range n).map fun j => E.getD (at' + j) 0
theorem sl_add (E : List Int) (at' m n : Nat) : sl E at' (m + n) = sl E at' m ++ sl E (at' + m) n := by
  unfold sl
  rw [List.range_add, List.map_append, List.map_map]
  congr 1
  apply List.map_congr_left
  intro j _
  simp [Nat.add_assoc]
theorem sl_len (E : List Int) (at' n : Nat) : (sl E at' n).length = n := by simp [sl]
theorem sl_take (E : List Int) (n : Nat) (h : n ≤ E.length) : sl E 0 n = E.take n := by
  apply List.ext_getElem
  · simp [sl]; omega
  · intro i h1 h2
    have : i < n := by simpa [sl] using h1
    simp [sl, List.getD, show i < E.length by omega]

theorem decB_getD (E : List Int) (at' n k : Nat) : (decB E at' n).getD k 0 = if k < n then w8 (E.getD (at' + 1 + k) 0) else 0 := by
  unfold decB
  by_cases h : k < n
  · rw [if_pos h]; simp [List.getD, h]
  · rw [if_neg h]; simp [List.getD, h]

theorem okB_iff {E : List Int} (hE : ∀ j, 0 ≤ E.getD j 0) (at' : Nat) {c : Int} (hc : 0 ≤ c) :
    okB E at' c = true ↔ (((decB E at' (min c (E.getD at' 0)).toNat).length : Int) = E.getD at' 0 ∧ padT c.toNat (decB E at' (min c (E.getD at' 0)).toNat) = sl E (at' + 1) c.toNat) := by
  have h0 := hE at'
  have hlen : (decB E at' (min c (E.getD at' 0)).toNat).length = (min c (E.getD at' 0)).toNat := by simp [decB]
  rw [hlen]
  unfold okB
  rw [Bool.and_eq_true, decide_eq_true_eq, List.all_eq_true]
  constructor
  · rintro ⟨h1, h2⟩
    refine ⟨by omega, ?_⟩
    unfold padT sl
    apply List.map_congr_left
    intro k hk
    have := h2 k hk
    rw [Bool.and_eq_true, Bool.or_eq_true, decide_eq_true_eq, decide_eq_true_eq, decide_eq_true_eq] at this
    rw [decB_getD]
    by_cases hlt : k < (min c (E.getD at' 0)).toNat
    · rw [if_pos hlt, (w8_iff (hE _)).2 this.1]
    · rw [if_neg hlt]
      have hk' := List.mem_range.1 hk
      rcases this.2 with h | h
      · omega
      · exact h.symm
  · rintro ⟨h1, h2⟩
    refine ⟨by omega, fun k hk => ?_⟩
    have hk' := List.mem_range.1 hk
    have he : (padT c.toNat (decB E at' (min c (E.getD at' 0)).toNat)).getD k 0 = (sl E (at' + 1) c.toNat).getD k 0 := by rw [h2]
    have e1 : (padT c.toNat (decB E at' (min c (E.getD at' 0)).toNat)).getD k 0 = (decB E at' (min c (E.getD at' 0)).toNat).getD k 0 := by
      show ((List.range c.toNat).map fun k => (decB E at' (min c (E.getD at' 0)).toNat).getD k 0).getD k 0 = _
      simp only [List.getD, List.getElem?_map, List.getElem?_range hk', Option.map_some, Option.getD_some]
    have e2 : (sl E (at' + 1) c.toNat).getD k 0 = E.getD (at' + 1 + k) 0 := by
      unfold sl
      simp only [List.getD, List.getElem?_map, List.getElem?_range hk', Option.map_some, Option.getD_some]
    rw [e1, e2, decB_getD] at he
    rw [Bool.and_eq_true, Bool.or_eq_true, decide_eq_true_eq, decide_eq_true_eq, decide_eq_true_eq]
    by_cases hlt : k < (min c (E.getD at' 0)).toNat
    · rw [if_pos hlt] at he
      exact ⟨(w8_iff (hE _)).1 he, .inl (by omega)⟩
    · rw [if_neg hlt] at he
      exact ⟨by omega, .inr he.symm⟩

theorem enc_dec {E : List Int} (hE : ∀ j, 0 ≤ E.getD j 0) : ∀ (C : List Int) (at' : Nat), (∀ c ∈ C, 0 ≤ c) → (encT C (decT E at' C) = sl E at' (offN C) ↔ okR E at' C = true)
  | [], at', _ => by simp [encT, decT, offN, okR, sl]
  | c :: C, at', h => by
    have hc := h c List.mem_cons_self
    have ih := enc_dec hE C (at' + 1 + c.toNat) fun z hz => h z (List.mem_cons_of_mem _ hz)
    have e : sl E at' (offN (c :: C)) = E.getD at' 0 :: (sl E (at' + 1) c.toNat ++ sl E (at' + 1 + c.toNat) (offN C)) := by
      show sl E at' (1 + c.toNat + offN C) = _
      rw [sl_add, sl_add, List.append_assoc, ← Nat.add_assoc]
      rfl
    rw [e]
    show (((decB E at' _).length : Int) :: (padT c.toNat _ ++ encT C (decT E (at' + 1 + c.toNat) C)) = _) ↔ (okB E at' c && okR E (at' + 1 + c.toNat) C) = true
    rw [Bool.and_eq_true, okB_iff hE at' hc, ← ih, List.cons.injEq, app_iff (by rw [padT_len, sl_len])]
    exact ⟨fun ⟨a, b, c⟩ => ⟨⟨a, b⟩, c⟩, fun ⟨⟨a, b⟩, c⟩ => ⟨a, b, c⟩⟩

/-! ### texts as numbers, and back -/
def Byt (t : List Int) : Prop := ∀ x ∈ t, 0 ≤ x ∧ x ≤ 255
theorem decB_same {t : List Int} (ht : Byt t) {E : List Int} {at' : Nat} (h : ∀ k, k < t.length → E.getD (at' + 1 + k) 0 = t.getD k 0) : decB E at' t.length = t := by
  apply List.ext_getElem
  · simp [decB]
  · intro i h1 h2
    have hb := ht t[i] (List.getElem_mem h2)
    have := h i h2
    simp only [decB, List.getElem_map, List.getElem_range]
    rw [this]
    have : t.getD i 0 = t[i] := by simp [List.getD, h2]
    rw [this]
    exact (w8_iff hb.1).2 hb.2

theorem dec_enc {E : List Int} : ∀ (C : List Int) (T : List (List Int)) (at' : Nat), T.length = C.length → (∀ c ∈ C, 0 ≤ c) → (∀ t ∈ T, Byt t) → (∀ i (h : i < T.length), (T[i].length : Int) ≤ C.getD i 0) →
    sl E at' (offN C) = encT C T → decT E at' C = T
  | [], [], at', _, _, _, _, _ => rfl
  | c :: C, t :: T, at', hl, hC, hT, hle, he => by
    have hc := hC c List.mem_cons_self
    have h0 : (t.length : Int) ≤ c := hle 0 (by simp)
    have e : sl E at' (offN (c :: C)) = E.getD at' 0 :: (sl E (at' + 1) c.toNat ++ sl E (at' + 1 + c.toNat) (offN C)) := by
      show sl E at' (1 + c.toNat + offN C) = _
      rw [sl_add, sl_add, List.append_assoc, ← Nat.add_assoc]
      rfl
    rw [e] at he
    have he : _ = (t.length : Int) :: (padT c.toNat t ++ encT C T) := he
    rw [List.cons.injEq, app_iff (by rw [padT_len, sl_len])] at he
    obtain ⟨a1, a2, a3⟩ := he
    have ih := dec_enc C T (at' + 1 + c.toNat) (by simpa using hl) (fun z hz => hC z (List.mem_cons_of_mem _ hz)) (fun z hz => hT z (List.mem_cons_of_mem _ hz)) (fun i hi => hle (i + 1) (by simpa using hi)) a3
    show decB E at' _ :: decT E _ C = _
    have hmin : (min c (E.getD at' 0)).toNat = t.length := by rw [a1]; omega
    rw [ih, hmin, decB_same (hT t List.mem_cons_self)]
    intro k hk
    have he2 : (sl E (at' + 1) c.toNat).getD k 0 = (padT c.toNat t).getD k 0 := by rw [a2]
    unfold sl padT at he2
    simp only [List.getD, List.getElem?_map, List.getElem?_range (show k < c.toNat by omega), Option.map_some, Option.getD_some] at he2
    exact he2

def decX (E : List Int) (at' n : Nat) : List Bool := (List.range n).map fun j => decide (E.getD (at' + j) 0 = 1)
theorem encX_decX {E : List Int} (hE : ∀ j, 0 ≤ E.getD j 0) (at' n : Nat) : encX (decX E at' n) = sl E at' n ↔ ∀ j, j < n → E.getD (at' + j) 0 ≤ 1 := by
  unfold encX decX sl
  rw [List.map_map, List.map_inj_left]
  constructor
  · intro h j hj
    have := h j (List.mem_range.2 hj)
    have h0 := hE (at' + j)
    by_cases h1 : E.getD (at' + j) 0 = 1
    · omega
    · simp only [Function.comp, decide_eq_false h1, Bool.false_eq_true, if_false] at this
      omega
  · intro h j hj
    have := h j (List.mem_range.1 hj)
    have h0 := hE (at' + j)
    by_cases h1 : E.getD (at' + j) 0 = 1
    · simp only [Function.comp, decide_eq_true h1, if_true]
      omega
    · simp only [Function.comp, decide_eq_false h1, Bool.false_eq_true, if_false]
      omega
theorem decX_encX {E : List Int} {X : List Bool} {at' : Nat} (h : sl E at' X.length = encX X) : decX E at' X.length = X := by
  apply List.ext_getElem
  · simp [decX]
  · intro i h1 h2
    have he : (sl E at' X.length).getD i 0 = (encX X).getD i 0 := by rw [h]
    unfold sl encX at he
    simp only [List.getD, List.getElem?_map, List.getElem?_range h2, Option.map_some, Option.getD_some, List.getElem?_eq_getElem h2] at he
    simp only [decX, List.getElem_map, List.getElem_range]
    have he : E.getD (at' + i) 0 = if X[i] = true then 1 else 0 := he
    cases hx : X[i] with
    | true => rw [hx] at he; exact decide_eq_true he
    | false =>
      rw [hx] at he
      have : E.getD (at' + i) 0 = 0 := he
      exact decide_eq_false (by omega)

end Go.Proofs.Ytlfhmecdgfennaa
