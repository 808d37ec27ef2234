/-
  a tree is made of a list (chapters 12, 13): the program and the reference take the same lists.
-/
import Derived.Test.YtlfhmecdgfennaaPTreeN
set_option linter.unusedVariables false
set_option linter.unusedSimpArgs false
namespace Go.Proofs.Ytlfhmecdgfennaa
open Go.Gx

/-- what stands where, as far as a list was read -/
abbrev FN := ByteArray → Option Bool
def goodB (f : FN) (x : EN) : Bool :=
  nameB (pth x.1) && (f x.1).isNone && (decide ((splitL (pth x.1)).1 = []) || (!x.2.1 && decide (f (bs (splitL (pth x.1)).1) = some true)))
def addF (f : FN) (x : EN) : FN := fun q => match f q with
  | some b => some b
  | none => if x.1 = q then some x.2.1 else none
def okF : FN → List EN → Bool
  | _, [] => true
  | f, x :: r => goodB f x && okF (addF f x) r
def okT (L : List EN) : Bool := decide (L.length ≤ 8) && okF (fun _ => none) L

theorem fnd_app (x : EN) : ∀ (T : List EN) (q : ByteArray), fnd q (T ++ [x]) = addF (fun q => fnd q T) x q
  | [], q => by simp [fnd, addF]
  | y :: r, q => by
    have := fnd_app x r q
    simp only [List.cons_append, fnd, addF] at this ⊢
    by_cases h : y.1 = q
    · simp [h]
    · simp only [if_neg h]; exact this

theorem app32 {α : Type} {l : List α} (h : l.length ≤ 1000) : (((fits (0 : Nat) (List.length l) l) && (decide ((((List.length l) + (1 : Nat)) * (32 : Nat)) ≤ (70368744177664 : Nat)))) && true) = true := by
  rw [fits_of (by omega), decide_eq_true (by omega)]; rfl

theorem fnd_at {p : ByteArray} {T : List EN} : (fnd p T = none → atI p 0 T = -1) ∧ ∀ b, fnd p T = some b → ∃ j : Nat, atI p 0 T = (j : Int) ∧ ∃ h : j < T.length, T[j].2.1 = b := by
  have := atI_spec p T 0
  constructor
  · intro h; rw [h] at this; exact this
  · intro b h
    rw [h] at this
    obtain ⟨j, h1, h2⟩ := this
    exact ⟨j, by rw [h1]; congr 1; omega, h2⟩

theorem ref_l0 {R : Type} (N : Nat) (hN : 100 < N) (K0 K1 : Option R) (k0 : List EN → Int → Int → List EN → Option R) (k1 : List EN → Int → List EN → Option R) (L : List EN)
    (hk0 : ∀ b c, k0 L 11 b c = K0) (hk1 : ∀ b c, k1 L b c = K1) (hL : L.length ≤ 8) :
    ∀ (m i n : Nat), L.length - i = m → i ≤ L.length → m < n → ∀ (nx : Int) (T : List EN), T.length = i → Z40_l0 N k0 k1 n L (i : Int) nx T = if okF (fun q => fnd q T) (L.drop i) = true then K1 else K0 := by
  intro m
  induction m with
  | zero =>
    intro i n hm hi hn nx T hT
    obtain ⟨n, rfl⟩ : ∃ n', n = n' + 1 := ⟨n - 1, by omega⟩
    have : i = L.length := by omega
    subst this
    simp only [Z40_l0, Z40_l0_T0, br_dec, List.drop_length, okF, if_true]
    rw [if_neg (by omega), hk1]
  | succ m ih =>
    intro i n hm hi hn nx T hT
    obtain ⟨n, rfl⟩ : ∃ n', n = n' + 1 := ⟨n - 1, by omega⟩
    have hlt : i < L.length := by omega
    have hdr := List.drop_eq_getElem_cons hlt
    have hg0 : L.getD i (bs [], false, 0) = L[i] := by simp [List.getD, hlt]
    obtain ⟨p, d, v, hx⟩ : ∃ p d v, L[i] = (bs p, d, v) := ⟨pth L[i].1, L[i].2.1, L[i].2.2, by rw [bs_pth]⟩
    rw [hx] at hg0 hdr
    have hin : inB (i : Int) L.length = true := inB_of (by omega)
    simp only [Z40_l0, Z40_l0_T0, Int.toNat_natCast, hg0, hin, br_true, hk0]
    rw [br_of (decide_eq_true (by omega)), NameMay_eq N (by omega), hdr]
    show br (!!nameB p) _ _ = if (goodB (fun q => fnd q T) (bs p, d, v) && okF (addF (fun q => fnd q T) (bs p, d, v)) (L.drop (i + 1))) = true then K1 else K0
    have hG : goodB (fun q => fnd q T) (bs p, d, v) = (nameB p && (fnd (bs p) T).isNone && (decide ((splitL p).1 = []) || (!d && decide (fnd (bs (splitL p).1) T = some true)))) := rfl
    rw [Bool.not_not]
    cases hnm : nameB p with
    | false => simp [hG, hnm]
    | true =>
      rw [br_true, at_eq N _ (bs p) nx T (by omega) (by omega)]
      cases hf : fnd (bs p) T with
      | some b =>
        obtain ⟨j, hj, _⟩ := fnd_at.2 b hf
        rw [br_of (decide_eq_true (by omega))]
        simp [hG, hf]
      | none =>
        rw [fnd_at.1 hf, br_not (decide_eq_false (by omega)), refSplit_eq N (by omega)]
        have happ : addF (fun q => fnd q T) (bs p, d, v) = fun q => fnd q (T ++ [(bs p, d, (i : Int))]) := by
          funext q
          rw [fnd_app]
          rfl
        have hnext : ∀ nx, Z40_l0 N k0 k1 n L (IntKind.wrap .i64 ((i : Int) + 1)) nx (sub T 0 T.length ++ [(bs p, d, (i : Int))]) = if okF (addF (fun q => fnd q T) (bs p, d, v)) (L.drop (i + 1)) = true then K1 else K0 := by
          intro nx
          rw [sub_all, w64_succ (by omega), ih (i + 1) n (by omega) (by omega) (by omega) nx _ (by simp [hT]), happ]
        simp only [br_ndec, bs_inj]
        by_cases hs : (splitL p).1 = []
        · rw [if_pos hs, br_of (app32 (by omega)), hnext]
          simp [hG, hnm, hf, hs]
        · rw [if_neg hs]
          cases d with
          | true => simp [hG, hs]
          | false =>
            simp only [Bool.not_false, br_true]
            rw [at_eq N _ (bs (splitL p).1) nx T (by omega) (by omega)]
            cases hf2 : fnd (bs (splitL p).1) T with
            | none => rw [fnd_at.1 hf2]; simp [hG, hf2, hs]
            | some b =>
              obtain ⟨j, hj, hjl, hjb⟩ := fnd_at.2 b hf2
              have hgj : T.getD j (bs [], false, 0) = T[j] := by simp [List.getD, hjl]
              rw [hj, if_neg (by omega), at_eq N _ (bs (splitL p).1) nx T (by omega) (by omega), hj, br_of (inB_of (by omega)), Int.toNat_natCast, hgj, hjb, br_of (decide_eq_true hjl)]
              cases b with
              | false => simp [hG, hf2, hs]
              | true =>
                simp only [Bool.not_true, br_false]
                rw [br_of (app32 (by omega)), hnext]
                simp [hG, hnm, hf, hf2]

theorem refNew_eq {R : Type} (N : Nat) (hN : 100 < N) (L : List EN) (K0 K1 : Option R) (k0 : Int → Option R) (k1 : Int → Int → List EN → Option R) (h0 : k0 11 = K0) (h1 : ∀ b c, k1 0 b c = K1) :
    Z40 N L k0 k1 = if okT L = true then K1 else K0 := by
  unfold Z40 Z40_T okT
  rw [br_dec]
  by_cases h : L.length ≤ 8
  · rw [if_neg (by omega), decide_eq_true h, Bool.true_and]
    exact (ref_l0 N hN K0 K1 _ _ L (fun _ _ => h0) (fun _ _ => h1 _ _) h L.length 0 N (by omega) (by omega) (by omega) 0 [] rfl).trans rfl
  · rw [if_pos (by omega), decide_eq_false h, h0]
    rfl

/-! ### the program -/
def RelT (m : TM) (f : FN) : Prop := ∀ q, nameB q = true → (tfind m (bs (splitL q).1, bs (splitL q).2)).map (·.2) = f (bs q)

theorem tput_len {k : ByteArray × ByteArray} {v : Int × Bool} : ∀ {m : TM}, tfind m k = none → (tput m k v).length = m.length + 1
  | [], _ => rfl
  | p :: r, h => by
    have hne : ¬ KS.eqb k p.1 = true := fun e => by
      have : tfind (p :: r) k = some p.2 := by
        show mfind KS VS (p :: r) k = _
        simp only [mfind, if_pos e]
      rw [this] at h
      cases h
    have h' : tfind r k = none := by
      have : tfind (p :: r) k = tfind r k := by
        show mfind KS VS (p :: r) k = _
        simp only [mfind, if_neg hne]
        rfl
      rw [← this]; exact h
    have : tput (p :: r) k v = p :: tput r k v := by
      show mput KS VS (p :: r) k v = _
      simp only [mput, if_neg hne]
      rfl
    rw [this, List.length_cons, tput_len h', List.length_cons]

theorem RelT.put {m : TM} {f : FN} (h : RelT m f) {p : List UInt8} (hp : nameB p = true) (hf : f (bs p) = none) (nx : Int) (d : Bool) (v : Int) : RelT (tput m (bs (splitL p).1, bs (splitL p).2) (nx, d)) (addF f (bs p, d, v)) := by
  intro q hq
  by_cases e : p = q
  · subst e
    have : tfind (tput m (bs (splitL p).1, bs (splitL p).2) (nx, d)) (bs (splitL p).1, bs (splitL p).2) = some (nx, d) := mfind_put_same KS_key _ _
    rw [this]
    simp [addF, hf]
  · have hne : (bs (splitL p).1, bs (splitL p).2) ≠ (bs (splitL q).1, bs (splitL q).2) := fun h => e (split_inj hp hq (by
      rw [Prod.mk.injEq, bs_inj, bs_inj] at h
      exact Prod.ext h.1 h.2))
    have : tfind (tput m (bs (splitL p).1, bs (splitL p).2) (nx, d)) (bs (splitL q).1, bs (splitL q).2) = tfind m (bs (splitL q).1, bs (splitL q).2) := mfind_put_ne KS_key hne _
    rw [this, h q hq]
    have : ¬ bs p = bs q := fun h => e (bs_inj.1 h)
    simp only [addF, if_neg this]
    cases f (bs q) <;> rfl

theorem RelT.make {m : TM} {f : FN} (h : RelT m f) {p : List UInt8} (hp : nameB p = true) (hm : m.length < 8) (d : Bool) (v : Int) :
    makeC p d m = 0 ↔ goodB f (bs p, d, v) = true := by
  obtain ⟨a1, a2, a3⟩ := name_parts hp
  have hpp : pth (bs p) = p := rfl
  have hq := h p hp
  have hnone : (tfind m (bs (splitL p).1, bs (splitL p).2)).isSome = true ↔ ¬ f (bs p) = none := by
    rw [← hq]; simp [Option.isSome_iff_ne_none]
  have h8 : ¬ 8 ≤ m.length := by omega
  unfold makeC goodB aboveV
  rw [hpp, hp, if_neg a1, if_neg h8]
  by_cases hs : (splitL p).1 = []
  · rw [if_pos hs]
    simp only [hs, ne_eq, not_true, if_false, and_false, decide_true, Bool.true_or, Bool.and_true, Bool.true_and]
    rw [← hs]
    by_cases hn : f (bs p) = none
    · simp [hn, (not_congr hnone).2 (not_not_intro hn)]
    · simp [hn, hnone.2 hn]
  · rw [if_neg hs]
    obtain ⟨b1, b2⟩ := a3 hs
    have hd := h _ b1
    rw [b2] at hd
    simp only [hs, decide_false, Bool.false_or]
    cases ht : tfind m (bs [], bs (splitL p).1) with
    | none =>
      rw [ht] at hd
      have hd : none = f (bs (splitL p).1) := hd
      simp [← hd]
    | some x =>
      rw [ht] at hd
      have hd : some x.2 = f (bs (splitL p).1) := hd
      rw [← hd]
      rcases x with ⟨xi, xb⟩
      cases xb with
      | false => simp
      | true =>
        by_cases hn : f (bs p) = none
        · simp [hn, (not_congr hnone).2 (not_not_intro hn), hs]
        · simp [hn, hnone.2 hn]

theorem new_l0 {R : Type} (N : Nat) (hN : 100 < N) (K0 K1 : Option R) (k0 : Int → Int → TM → Option R) (k1 : Int → TM → Option R) (L : List EN)
    (hk0 : ∀ b c, k0 11 b c = K0) (hk1 : ∀ b c, k1 b c = K1) (hL : L.length ≤ 8) :
    ∀ (m i n : Nat), L.length - i = m → i ≤ L.length → m < n → ∀ (nx : Int) (T : TM) (f : FN), 0 ≤ nx → nx ≤ (i : Int) → T.length = i → RelT T f → Z78_l0 N k0 k1 n L (L.length : Int) (i : Int) nx T = if okF f (L.drop i) = true then K1 else K0 := by
  intro m
  induction m with
  | zero =>
    intro i n hm hi hn nx T f hx0 hx1 hT hr
    obtain ⟨n, rfl⟩ : ∃ n', n = n' + 1 := ⟨n - 1, by omega⟩
    have : i = L.length := by omega
    subst this
    simp only [Z78_l0, Z78_l0_T0, br_dec, List.drop_length, okF, if_true]
    rw [if_neg (by omega), hk1]
  | succ m ih =>
    intro i n hm hi hn nx T f hx0 hx1 hT hr
    obtain ⟨n, rfl⟩ : ∃ n', n = n' + 1 := ⟨n - 1, by omega⟩
    have hlt : i < L.length := by omega
    have hdr := List.drop_eq_getElem_cons hlt
    have hg0 : L.getD i (bs [], false, 0) = L[i] := by simp [List.getD, hlt]
    obtain ⟨p, d, v, hx⟩ : ∃ p d v, L[i] = (bs p, d, v) := ⟨pth L[i].1, L[i].2.1, L[i].2.2, by rw [bs_pth]⟩
    rw [hx] at hg0 hdr
    have hin : inB (i : Int) L.length = true := inB_of (by omega)
    simp only [Z78_l0, Z78_l0_T0, Int.toNat_natCast, hg0, hin, br_true, hk0]
    rw [br_of (decide_eq_true (by omega)), Z37_eq' N (by omega), hdr]
    show br (!nameB p) _ _ = if (goodB f (bs p, d, v) && okF (addF f (bs p, d, v)) (L.drop (i + 1))) = true then K1 else K0
    cases hnm : nameB p with
    | false =>
      have : goodB f (bs p, d, v) = false := by
        show (nameB p && _ && _) = false
        rw [hnm]; rfl
      simp [this]
    | true =>
      rw [Bool.not_true, br_false, make_eq N (by omega) p d nx (by omega)]
      have hmk := hr.make hnm (show T.length < 8 by omega) d v
      by_cases hg : goodB f (bs p, d, v) = true
      · rw [if_pos (hmk.2 hg), hg, Bool.true_and, br_not (by decide), w64_succ (by omega)]
        have hfn : f (bs p) = none := by
          have : (nameB p && (f (bs p)).isNone && _) = true := hg
          rw [Bool.and_eq_true, Bool.and_eq_true] at this
          simpa using this.1.2
        have htn : tfind T (bs (splitL p).1, bs (splitL p).2) = none := by
          have := hr p hnm
          rw [hfn] at this
          simpa using this
        exact ih (i + 1) n (by omega) (by omega) (by omega) (nx + 1) _ _ (by omega) (by omega) (by rw [tput_len htn, hT]) (hr.put hnm hfn nx d v)
      · have hg' : goodB f (bs p, d, v) = false := by simpa using hg
        have hne : makeC p d T ≠ 0 := fun e => hg (hmk.1 e)
        rw [if_neg hne, hg', br_of (by simpa using hne)]
        rfl

theorem newF_l0 {R : Type} (N : Nat) (hN : 100 < N) (K0 K1 : Option R) (k0 : Int → List EN → Int → TM → Option R) (k1 : List EN → Int → TM → Option R) (L : List EN)
    (hk0 : ∀ b c, k0 11 L b c = K0) (hk1 : ∀ b c, k1 L b c = K1) (hL : L.length ≤ 8) :
    ∀ (m i n : Nat), L.length - i = m → i ≤ L.length → m < n → ∀ (nx : Int) (T : TM) (f : FN), 0 ≤ nx → nx ≤ (i : Int) → T.length = i → RelT T f → Z79_l0 N k0 k1 n (L.length : Int) (i : Int) L nx T = if okF f (L.drop i) = true then K1 else K0 := by
  intro m
  induction m with
  | zero =>
    intro i n hm hi hn nx T f hx0 hx1 hT hr
    obtain ⟨n, rfl⟩ : ∃ n', n = n' + 1 := ⟨n - 1, by omega⟩
    have : i = L.length := by omega
    subst this
    simp only [Z79_l0, Z79_l0_T0, br_dec, List.drop_length, okF, if_true]
    rw [if_neg (by omega), hk1]
  | succ m ih =>
    intro i n hm hi hn nx T f hx0 hx1 hT hr
    obtain ⟨n, rfl⟩ : ∃ n', n = n' + 1 := ⟨n - 1, by omega⟩
    have hlt : i < L.length := by omega
    have hdr := List.drop_eq_getElem_cons hlt
    have hg0 : L.getD i (bs [], false, 0) = L[i] := by simp [List.getD, hlt]
    obtain ⟨p, d, v, hx⟩ : ∃ p d v, L[i] = (bs p, d, v) := ⟨pth L[i].1, L[i].2.1, L[i].2.2, by rw [bs_pth]⟩
    rw [hx] at hg0 hdr
    have hin : inB (i : Int) L.length = true := inB_of (by omega)
    simp only [Z79_l0, Z79_l0_T0, Int.toNat_natCast, hg0, hin, br_true, hk0]
    rw [br_of (decide_eq_true (by omega)), br_of (decide_eq_true hlt), Z37_eq' N (by omega), hdr]
    show br (!nameB p) _ _ = if (goodB f (bs p, d, v) && okF (addF f (bs p, d, v)) (L.drop (i + 1))) = true then K1 else K0
    cases hnm : nameB p with
    | false =>
      have : goodB f (bs p, d, v) = false := by
        show (nameB p && _ && _) = false
        rw [hnm]; rfl
      simp [this]
    | true =>
      rw [Bool.not_true, br_false, make_eq N (by omega) p d nx (by omega)]
      have hmk := hr.make hnm (show T.length < 8 by omega) d v
      by_cases hg : goodB f (bs p, d, v) = true
      · rw [if_pos (hmk.2 hg), hg, Bool.true_and, br_not (by decide), w64_succ (by omega)]
        have hfn : f (bs p) = none := by
          have : (nameB p && (f (bs p)).isNone && _) = true := hg
          rw [Bool.and_eq_true, Bool.and_eq_true] at this
          simpa using this.1.2
        have htn : tfind T (bs (splitL p).1, bs (splitL p).2) = none := by
          have := hr p hnm
          rw [hfn] at this
          simpa using this
        exact ih (i + 1) n (by omega) (by omega) (by omega) (nx + 1) _ _ (by omega) (by omega) (by rw [tput_len htn, hT]) (hr.put hnm hfn nx d v)
      · have hg' : goodB f (bs p, d, v) = false := by simpa using hg
        have hne : makeC p d T ≠ 0 := fun e => hg (hmk.1 e)
        rw [if_neg hne, hg', br_of (by simpa using hne)]
        rfl

theorem RelT.nil : RelT [] (fun _ => none) := fun _ _ => rfl

theorem new_eq {R : Type} (N : Nat) (hN : 100 < N) (L : List EN) (K0 K1 : Option R) (k0 : Int → Option R) (k1 : Int → Int → TM → Option R) (h0 : k0 11 = K0) (h1 : ∀ b c, k1 0 b c = K1) :
    Z78 N L k0 k1 = if okT L = true then K1 else K0 := by
  unfold Z78 Z78_T okT
  rw [br_dec]
  by_cases h : L.length ≤ 8
  · rw [if_neg (by omega), decide_eq_true h, Bool.true_and]
    exact (new_l0 N hN K0 K1 _ _ L (fun _ _ => h0) (fun _ _ => h1 _ _) h L.length 0 N (by omega) (by omega) (by omega) 0 [] _ (by omega) (by omega) rfl RelT.nil).trans rfl
  · rw [if_pos (by omega), decide_eq_false h, h0]
    rfl

theorem newF_eq {R : Type} (N : Nat) (hN : 100 < N) (L : List EN) (K0 K1 : Option R) (k0 : Int → List EN → Option R) (k1 : Int → List EN → Int → TM → Option R) (h0 : k0 11 L = K0) (h1 : ∀ b c, k1 0 L b c = K1) :
    Z79 N L k0 k1 = if okT L = true then K1 else K0 := by
  unfold Z79 Z79_T okT
  rw [br_dec]
  by_cases h : L.length ≤ 8
  · rw [if_neg (by omega), decide_eq_true h, Bool.true_and]
    exact (newF_l0 N hN K0 K1 _ _ L (fun _ _ => h0) (fun _ _ => h1 _ _) h L.length 0 N (by omega) (by omega) (by omega) 0 [] _ (by omega) (by omega) rfl RelT.nil).trans rfl
  · rw [if_pos (by omega), decide_eq_false h, h0]
    rfl

end Go.Proofs.Ytlfhmecdgfennaa
