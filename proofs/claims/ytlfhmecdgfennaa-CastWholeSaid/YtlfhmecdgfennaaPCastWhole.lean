/-
  the law CastWhole of chapter 18, as a printed function: it comes to true.
-/
import Derived.Test.YtlfhmecdgfennaaPCastPremW
import Derived.KernelRfl
set_option linter.unusedSimpArgs false
set_option linter.unusedVariables false
namespace Go.Proofs.Ytlfhmecdgfennaa
open Go.Gx

theorem getD_set' (l : List Int) (i j : Nat) (v : Int) (h : i < l.length) : (l.set i v).getD j 0 = if i = j then v else l.getD j 0 := by
  rw [List.getD_eq_getElem?_getD, List.getElem?_set, List.getD_eq_getElem?_getD]
  by_cases e : i = j
  · rw [if_pos e, if_pos e, if_pos (by omega)]; rfl
  · rw [if_neg e, if_neg e]
theorem band1 {x : Int} (h : 0 ≤ x ∧ x ≤ 65535) : 0 ≤ band .u16 x 1 ∧ band .u16 x 1 ≤ 1 := by
  have e := mask_and (w := 1) (a := x.toNat) (by omega) (by omega)
  rw [Int.toNat_of_nonneg h.1, show ((2 ^ 1 - 1 : Nat) : Int) = 1 from rfl] at e
  rw [e]
  omega
theorem bxor8 {x y : Int} (hx : 0 ≤ x ∧ x ≤ 255) (hy : 0 ≤ y ∧ y ≤ 255) : 0 ≤ bxor .u16 x y ∧ bxor .u16 x y ≤ 255 := by
  have e := bxor16 (a := x.toNat) (b := y.toNat) (by omega) (by omega)
  rw [Int.toNat_of_nonneg hx.1, Int.toNat_of_nonneg hy.1] at e
  have := Nat.xor_lt_two_pow (n := 8) (x := x.toNat) (y := y.toNat) (by omega) (by omega)
  rw [e]
  omega

theorem good_at {l : List Nd} : ∀ {ts : List Int} {fs : List FV}, Good l ts fs → ∀ i (h : i < ts.length), ∃ f, fs[i]? = some f ∧ Tv l ts[i] 1 f
  | t :: ts, f :: fs, g, 0, _ => ⟨f, rfl, g.1⟩
  | t :: ts, f :: fs, g, i + 1, h => by
    obtain ⟨f', h1, h2⟩ := good_at g.2 i (by simpa using h)
    exact ⟨f', by simpa using h1, by simpa using h2⟩
  | [], _, _, _, h => by simp at h

section
variable (N : Nat) (hN : 70000 ≤ N ∧ N ≤ 2 ^ 62) {l : List Nd} {b : By} (A : Ar l b) (ws : Ws) (ts : List Int) (fs : List FV) (G : Good l ts fs) (ht : ts.length ≤ 1000) (L : List EN) (S : List Int) (p q r : Int) (tu : List Int)
include hN A G ht

theorem whole_l1 {R : Type} (E : List Int) (he : ∀ x ∈ E, 0 ≤ x ∧ x < 65536) (x0 x1 : Int) (k0 : Int → Int → Bool → List EN → List Int → Int → Int → Int → List Int → List Nd → By → Ws → List Int → List Int → Option R) :
    ∀ (m i n : Nat) (y : Bool), ts.length - i = m → i ≤ ts.length → m < n →
      Z34_l1 N k0 n x0 x1 y (i : Int) L S p q r tu l b ws ts E = k0 x0 x1 (y && all1 (fs.drop i) (envOf E E.length)) L S p q r tu l b ws ts E := by
  intro m
  induction m with
  | zero =>
    intro i n y hm hi hn
    obtain ⟨n, rfl⟩ : ∃ n', n = n' + 1 := ⟨n - 1, by omega⟩
    rw [Z34_l1, Z34_l1_T0, br_not (decide_eq_false (by omega)), List.drop_eq_nil_of_le (by rw [← G.len]; omega)]
    unfold all1
    rw [List.all_nil, Bool.and_true]
  | succ m ih =>
    intro i n y hm hi hn
    obtain ⟨n, rfl⟩ : ∃ n', n = n' + 1 := ⟨n - 1, by omega⟩
    have hlt : i < ts.length := by omega
    obtain ⟨f, hf, ha⟩ := good_at G i hlt
    have hdrop : fs.drop i = f :: fs.drop (i + 1) := by
      obtain ⟨h1, h2⟩ := List.getElem?_eq_some_iff.1 hf
      rw [List.drop_eq_getElem_cons h1, h2]
    have hall : all1 (fs.drop i) (envOf E E.length) = (decide (f (envOf E E.length) = 1) && all1 (fs.drop (i + 1)) (envOf E E.length)) := by
      rw [hdrop]; rfl
    rw [hall, Z34_l1, Z34_l1_T0, br_of (decide_eq_true (by omega)), w64_succ (by omega)]
    cases y with
    | true =>
      rw [br_true, br_of (inB_of (by omega)), Int.toNat_natCast, br_of (decide_eq_true hlt), getD_at hlt]
      have hev := Eval_0112 (R := R) N hN A ws E he ha.tm
      rw [hev, ha.v, ih (i + 1) n _ (by omega) (by omega) (by omega), Bool.true_and]
      congr 2
      apply decide_eq_decide.2
      omega
    | false =>
      rw [br_false, ih (i + 1) n _ (by omega) (by omega) (by omega), Bool.false_and, Bool.false_and]

/-- what is asked once -/
abbrev CC {R : Type} (k0 : Bool → Option R) (nx : Int → List EN → List Int → Int → Int → Int → List Int → List Nd → By → Ws → List Int → List Int → Option R) :
    Int → Int → Bool → List EN → List Int → Int → Int → Int → List Int → List Nd → By → Ws → List Int → List Int → Option R :=
  fun i1 i2 b3 l4 l5 i6 i7 i8 l9 l10 l11 l12 l13 l14 => br (!(!(b3 == (decide (i2 = 0))))) (br (decide (i1 = 0)) (br (!b3) (k0 false) (nx (IntKind.wrap .i64 (i1 + 1)) l4 l5 i6 i7 i8 l9 l10 l11 l12 l13 l14)) (nx (IntKind.wrap .i64 (i1 + 1)) l4 l5 i6 i7 i8 l9 l10 l11 l12 l13 l14)) (k0 false)

theorem whole_ask {R : Type} (H : mayB L S p q r = true) (hfs : fs = premF L S p q) (E : List Int) (hW : W16 E) (hE : E.length = offN (capsL L ++ S) + p.toNat) (h8 : Small8 E (offN (capsL L ++ S))) (x0 : Int) (hx : x0 = 0 ∨ x0 = 1) (hi : x0 = 0 → inpB (capsL L ++ S) p q E = true)
    (k0 : Bool → Option R) (nx : Int → List EN → List Int → Int → Int → Int → List Int → List Nd → By → Ws → List Int → List Int → Option R) :
    Z7 N L S p q r E (fun i e _ _ _ => Z34_l1 N (CC k0 nx) N x0 i true 0 L S p q r tu l b ws ts e) (fun _ _ _ _ i e _ _ _ => Z34_l1 N (CC k0 nx) N x0 i true 0 L S p q r tu l b ws ts e)
      (fun _ _ _ _ i e _ _ => Z34_l1 N (CC k0 nx) N x0 i true 0 L S p q r tu l b ws ts e) = nx (x0 + 1) L S p q r tu l b ws ts E := by
  obtain ⟨hf, hL8, hS2, hC6, ha0, ha6⟩ := may_fit H
  have ho := offs_offN hf
  have hle := (offs_le hf).2
  have hin := prem_is H hW hE h8
  have fin := fun (x1 : Int) => whole_l1 N hN A ws ts fs G ht L S p q r tu E (fun x hx => by have := hW x hx; omega) x0 x1 (CC k0 nx) ts.length 0 N true rfl (by omega) (by omega)
  rw [Input18_eq N (by omega) L S p q r (by omega) (by omega) E hW (by omega), if_pos H, ho, if_neg (by omega), ← hin]
  rw [← hin] at hi
  have hw : IntKind.wrap .i64 (x0 + 1) = x0 + 1 := w64 (by omega)
  subst hfs
  cases hv : all1 (premF L S p q) (envOf E E.length) with
  | true =>
    rw [if_pos rfl]
    refine (fin _).trans ?_
    rw [List.drop_zero, hv]
    rcases hx with h | h <;> subst h <;> rfl
  | false =>
    rw [hv] at hi
    rw [if_neg (by decide)]
    refine (fin _).trans ?_
    rw [List.drop_zero, hv]
    rcases hx with h | h
    · exact absurd (hi h) (by decide)
    · subst h; rfl

theorem whole_l0 {R : Type} (H : mayB L S p q r = true) (hfs : fs = premF L S p q) (E : List Int) (hE : E.length = offN (capsL L ++ S) + p.toNat) (h8 : Small8 E (offN (capsL L ++ S))) (hi : inpB (capsL L ++ S) p q E = true) (t0 t1 : Int) (h0 : 0 ≤ t0 ∧ t0 ≤ 255) (h1 : 0 ≤ t1 ∧ t1 ≤ 255)
    (k0 : Bool → Option R) (k1 : Option R) :
    Z34_l0 N k0 k1 N 0 L S p q r (t0 :: (t1 :: [])) l b ws ts E = k1 := by
  obtain ⟨hf, hL8, hS2, hC6, ha0, ha6⟩ := may_fit H
  have ho := offs_offN hf
  have hle := (offs_le hf).2
  obtain ⟨n, hn⟩ : ∃ n, N = n + 3 := ⟨N - 3, by omega⟩
  have w16 : ∀ E : List Int, Small8 E (offN (capsL L ++ S)) → W16 E := fun E h x hx => by
    obtain ⟨j, hj, rfl⟩ := List.mem_iff_getElem.1 hx
    have := h.by' j
    rw [getD_at hj] at this
    omega
  have ask := fun (E' : List Int) (h8' : Small8 E' (offN (capsL L ++ S))) (hE' : E'.length = offN (capsL L ++ S) + p.toNat) (x0 : Int) (hx) (hi') (nx) => whole_ask (R := R) N hN A ws ts fs G ht L S p q r (t0 :: (t1 :: [])) H hfs E' (w16 E' h8') hE' h8' x0 hx hi' k0 nx
  have last : ∀ (m : Nat) (E' : List Int), Z34_l0 (R := R) N k0 k1 (m + 1) 2 L S p q r (t0 :: (t1 :: [])) l b ws ts E' = k1 := fun m E' => by
    rw [Z34_l0, Z34_l0_T0, br_not (by decide)]
  have fin1 : ∀ (m : Nat) (E' : List Int), Small8 E' (offN (capsL L ++ S)) → E'.length = offN (capsL L ++ S) + p.toNat →
      Z7 N L S p q r E' (fun i e _ _ _ => Z34_l1 N (CC k0 (fun x1 x2 x3 x4 x5 x6 x7 x8 x9 x10 x11 x12 => Z34_l0 N k0 k1 (m + 1) x1 x2 x3 x4 x5 x6 x7 x8 x9 x10 x11 x12)) N 1 i true 0 L S p q r (t0 :: (t1 :: [])) l b ws ts e) (fun _ _ _ _ i e _ _ _ => Z34_l1 N (CC k0 (fun x1 x2 x3 x4 x5 x6 x7 x8 x9 x10 x11 x12 => Z34_l0 N k0 k1 (m + 1) x1 x2 x3 x4 x5 x6 x7 x8 x9 x10 x11 x12)) N 1 i true 0 L S p q r (t0 :: (t1 :: [])) l b ws ts e)
      (fun _ _ _ _ i e _ _ => Z34_l1 N (CC k0 (fun x1 x2 x3 x4 x5 x6 x7 x8 x9 x10 x11 x12 => Z34_l0 N k0 k1 (m + 1) x1 x2 x3 x4 x5 x6 x7 x8 x9 x10 x11 x12)) N 1 i true 0 L S p q r (t0 :: (t1 :: [])) l b ws ts e) = k1 := fun m E' h8' hE' => by
    refine (ask E' h8' hE' 1 (.inr rfl) (fun h => absurd h (by decide)) _).trans ?_
    exact last m E'
  have one : ∀ m : Nat, Z34_l0 (R := R) N k0 k1 (m + 2) 1 L S p q r (t0 :: (t1 :: [])) l b ws ts E = k1 := fun m => by
    rw [Z34_l0, Z34_l0_T0, br_of (by decide), br_of (by decide)]
    by_cases hz : 0 < E.length
    · obtain ⟨i, hi2, hit⟩ : ∃ i : Nat, i < E.length ∧ Int.tmod (IntKind.wrap .i64 t0) (E.length : Int) = (i : Int) := by
        refine ⟨t0.toNat % E.length, Nat.mod_lt _ hz, ?_⟩
        rw [w64 (by omega), Int.tmod_eq_emod_of_nonneg h0.1]
        rw [show t0 = ((t0.toNat : Nat) : Int) by omega]
        rfl
      have g0 : List.getD (t0 :: (t1 :: [])) 0 0 = t0 := rfl
      have g1 : List.getD (t0 :: (t1 :: [])) 1 0 = t1 := rfl
      have wt : IntKind.wrap .u16 t1 = t1 := wu16 (by omega)
      have wa : IntKind.wrap .i64 ((E.length : Int) - p) = (E.length : Int) - p := w64 (by omega)
      have hne : decide ((E.length : Int) = 0) = false := decide_eq_false (by omega)
      have hin : inB (i : Int) E.length = true := inB_of (by omega)
      have hid : decide (i < E.length) = true := decide_eq_true hi2
      have hx := bxor8 (h8.by' i) h1
      have hy := band1 (x := bxor .u16 (E.getD i 0) t1) (by omega)
      rw [br_of (decide_eq_true (by omega))]
      simp only [g0, g1, hit, wt, wa, hne, hin, hid, br_true, br_false, Int.toNat_natCast]
      have gs : (E.set i (bxor .u16 (E.getD i 0) t1)).getD i 0 = bxor .u16 (E.getD i 0) t1 := by rw [getD_set' _ _ _ _ hi2, if_pos rfl]
      by_cases hb : (E.length : Int) - p ≤ (i : Int)
      · rw [br_of (decide_eq_true hb), gs]
        refine fin1 m _ ⟨fun j => ?_, fun j hj => ?_⟩ (by simp [hE])
        · rw [getD_set' _ _ _ _ (by simpa using hi2), getD_set' _ _ _ _ hi2]
          have := h8.by' j
          split <;> omega
        · rw [getD_set' _ _ _ _ (by simpa using hi2), getD_set' _ _ _ _ hi2]
          have := h8.bit j hj
          split <;> omega
      · rw [br_not (decide_eq_false hb)]
        refine fin1 m _ ⟨fun j => ?_, fun j hj => ?_⟩ (by simp [hE])
        · rw [getD_set' _ _ _ _ hi2]
          have := h8.by' j
          split <;> omega
        · rw [getD_set' _ _ _ _ hi2, if_neg (by omega)]
          exact h8.bit j hj
    · rw [br_not (decide_eq_false (by omega))]
      exact fin1 m E h8 hE
  have zero : ∀ m : Nat, Z34_l0 (R := R) N k0 k1 (m + 3) 0 L S p q r (t0 :: (t1 :: [])) l b ws ts E = k1 := fun m => by
    rw [Z34_l0, Z34_l0_T0, br_of (by decide), br_not (by decide)]
    refine (ask E h8 hE 0 (.inl rfl) (fun _ => hi) _).trans ?_
    exact one m
  have z := zero n
  rw [← hn] at z
  exact z
end

/-! ### the law's own guards -/
set_option maxRecDepth 100000 in
theorem awake18 {R : Type} (n : Nat) (k : Bool → Option R) : Z35 (n + 3000) k = k true := by kernel_rfl

theorem small_l0 (N : Nat) (L : List EN) (S : List Int) (a b c : Int) (hl : L.length ≤ 9223372036854775807) : ∀ (n q : Nat), q ≤ L.length → L.length - q < n → ∀ (s : Int), ∃ s' : Int, ∀ {R : Type} (k : Int → List EN → List Int → Int → Int → Int → Option R),
    Z33_l0 N k n s (q : Int) L S a b c = k s' L S a b c
  | 0, q, _, hn, _ => by omega
  | n + 1, q, hq, hn, s => by
    by_cases hlt : q < L.length
    · obtain ⟨s', hc⟩ := small_l0 N L S a b c hl n (q + 1) (by omega) (by omega) (IntKind.wrap .i64 (s + (L[q].1.size : Int)))
      refine ⟨s', fun k => ?_⟩
      have hg0 : L.getD q (bs [], false, 0) = L[q] := by simp [List.getD, hlt]
      simp only [Z33_l0, Z33_l0_T0, Int.toNat_natCast, hg0]
      rw [br_of (decide_eq_true (by omega)), br_of (inB_of (by omega)), w64_succ (by omega)]
      exact hc k
    · refine ⟨s, fun k => ?_⟩
      simp only [Z33_l0, Z33_l0_T0]
      rw [br_not (decide_eq_false (by omega))]

theorem small_ex (N : Nat) (L : List EN) (S : List Int) (a b c : Int) (hl : L.length ≤ 9223372036854775807) (hN : L.length < N) : ∃ w : Bool, (w = true → L.length ≤ 60 ∧ S.length ≤ 60) ∧ ∀ {R : Type} (k : Bool → Option R), Z33 N L S a b c k = k w := by
  obtain ⟨s, hs⟩ := small_l0 N L S a b c hl N 0 (by omega) (by omega) 0
  refine ⟨decide ((L.length : Int) ≤ 60) && (decide (s ≤ 2000) && decide ((S.length : Int) ≤ 60)), fun h => ?_, fun k => ?_⟩
  · simp only [Bool.and_eq_true, decide_eq_true_eq] at h
    omega
  · unfold Z33 Z33_T
    refine (hs _).trans ?_
    cases decide ((L.length : Int) ≤ 60) <;> cases decide (s ≤ 2000) <;> rfl

theorem enc_small {L : List EN} {S : List Int} {p q r : Int} (H : mayB L S p q r = true) {T : List (List Int)} {X : List Bool} (h1 : T.length = (capsL L ++ S).length) (h2 : ∀ t ∈ T, Byt t) (h3 : fitT (capsL L ++ S) T = true) : Small8 (envV (capsL L ++ S) T X) (offN (capsL L ++ S)) := by
  obtain ⟨hf, hL8, hS2, hC6, ha0, ha6⟩ := may_fit H
  have hl3 := fit_len hf h3 h1
  have hel := enc_len h1
  have hX : ∀ x ∈ encX X, 0 ≤ x ∧ x ≤ 1 := fun x hx => by
    unfold encX at hx
    obtain ⟨w, _, rfl⟩ := List.mem_map.1 hx
    cases w <;> simp
  have hall : ∀ x ∈ envV (capsL L ++ S) T X, 0 ≤ x ∧ x ≤ 255 := fun x hx => by
    rcases List.mem_append.1 hx with hx | hx
    · exact enc_b8 (fun t ht => ⟨h2 t ht, hl3 t ht⟩) x hx
    · have := hX x hx; omega
  constructor
  · intro j
    rw [List.getD_eq_getElem?_getD]
    cases e : (envV (capsL L ++ S) T X)[j]? with
    | none => exact ⟨by decide, by decide⟩
    | some v => exact hall v (List.mem_of_getElem? e)
  · intro j hj
    unfold envV
    rw [List.getD_eq_getElem?_getD, List.getElem?_append_right (by omega)]
    cases e : (encX X)[j - (encT (capsL L ++ S) T).length]? with
    | none => decide
    | some v => exact (hX v (List.mem_of_getElem? e)).2

theorem castWhole_true {R : Type} (n : Nat) (L : List EN) (S : List Int) (p q r x t0 t1 : Int) (hl : L.length ≤ 9223372036854775807) (hx : 0 ≤ x ∧ x ≤ 65535) (h0 : 0 ≤ t0 ∧ t0 ≤ 255) (h1 : 0 ≤ t1 ∧ t1 ≤ 255) (hn : n = L.length + 77000) (k : Bool → Option R) : Z34 (n + 3000) L S p q r x t0 t1 k = k true := by
  unfold Z34 Z34_T
  rw [awake18, br_not (b := !true) rfl]
  generalize hNN : n + 3000 = N
  obtain ⟨w, hw, hs⟩ := small_ex N L S p q r hl (by omega)
  rw [hs]
  cases w with
  | false => rfl
  | true =>
    obtain ⟨hL, hS⟩ := hw rfl
    have e62 : (2 : Nat) ^ 62 = 4611686018427387904 := by decide
    have hN : 70000 ≤ N ∧ N ≤ 2 ^ 62 := by omega
    rw [br_not (b := !true) rfl, w64 (x := x) (by omega)]
    obtain ⟨ok, hok, hnth⟩ := Nth_eq N (by omega) L S (by omega) p q r x hx
    refine (hnth _ _).trans ?_
    unfold Z74 Z74_T
    cases ok with
    | false =>
      rw [if_neg (by decide)]
      cases H : mayB L S p q r with
      | false => exact (Premise_bad N (by omega) L S p q r H _).trans rfl
      | true =>
        obtain ⟨l', b', ws', ts', A, G, ht, hP⟩ := Premise_eq N (by omega) L S p q r H
        exact (hP _).trans rfl
    | true =>
      rw [if_pos rfl]
      obtain ⟨H, hx1⟩ := hok rfl
      obtain ⟨hf, hL8, hS2, hC6, ha0, ha6⟩ := may_fit H
      obtain ⟨a1, a2, a3, a4, a5⟩ := nth_has H hx.1
      obtain ⟨l', b', ws', ts', A, G, ht, hP⟩ := Premise_eq N (by omega) L S p q r H
      refine (hP _).trans ?_
      rw [br_of (b := !(!true)) rfl, br_not (by rfl)]
      have hEn := EnvN_eq (R := R) N (by omega) L S p q r hL hS H (txtAt L S p q x) a4 a3 (txtAt L S p q x).length (rowAt p q x) (by omega)
      rw [hEn, a2, a5, if_pos (show (true && true) = true from rfl), br_not (by rfl)]
      have hlenC : (capsL L ++ S).length = (capsL L).length + S.length := List.length_append
      have hcat : (txtAt L S p q x).take (capsL L).length ++ (txtAt L S p q x).drop (capsL L).length = txtAt L S p q x := List.take_append_drop _ _
      have hh : hasB L S p q r ((txtAt L S p q x).take (capsL L).length) ((txtAt L S p q x).drop (capsL L).length) (rowAt p q x) = true := by
        unfold hasB
        rw [H, hcat, a2, a5, decide_eq_true (by rw [List.length_take]; omega), decide_eq_true (by rw [List.length_drop]; omega)]
        rfl
      obtain ⟨_, e2, e3, _, _⟩ := env_inp hh (by rw [hcat]; exact a4)
      rw [hcat] at e2 e3
      exact whole_l0 N hN A ws' ts' _ G ht L S p q r H rfl _ e2 (enc_small H a3 a4 a5) e3 t0 t1 h0 h1 _ _

end Go.Proofs.Ytlfhmecdgfennaa
