/-
 bytes as terms (chapter 19): an arena of bytes alone; rows of terms and of bytes.
-/
import Derived.Test.YtdopealphpmaeaaPGhostX2
set_option linter.unusedSimpArgs false
set_option linter.unusedVariables false
namespace Go.Proofs.Ytdopealphpmaeaa
open Go.Gx

abbrev Nd := (Int) × ((Int) × ((Int) × ((Int) × ((Int) × (Int)))))
abbrev SNd : Sh := .pair (.int .i64) (.pair (.int .i64) (.pair (.int .u16) (.pair (.int .i64) (.pair (.int .i64) (.int .i64)))))
abbrev By := List (Nd × Int)
abbrev Ws := List (Int × Int)
def nd0 : Nd := (0, 0, 0, 0, 0, 0)
def cN (v : Nat) : Nd := (1, 8, (v : Int), 0, 0, 0)

structure BA (l : List Nd) (b : By) : Prop where
 num : ∀ n ∈ l, ∃ v : Nat, v < 256 ∧ n = cN v
 nodup : l.Nodup
 find : ∀ v : Nat, v < 256 → (∃ i : Nat, i < l.length ∧ l.getD i nd0 = cN v ∧ mfind SNd (.int .i64) b (cN v) = some ((i + 1 : Nat) : Int)) ∨ (mfind SNd (.int .i64) b (cN v) = none ∧ cN v ∉ l)
theorem BA.nil : BA [] [] := ⟨fun n h => (by cases h), List.nodup_nil, fun v _ => .inr ⟨rfl, fun h => (by cases h)⟩⟩
theorem BA.len {l : List Nd} {b : By} (A : BA l b) : l.length ≤ 256 := by
 have := A.nodup.length_le_of_subset (l₂ := (List.range 256).map cN) (fun n hn => by
  obtain ⟨v, hv, rfl⟩ := A.num n hn
  exact List.mem_map.2 ⟨v, List.mem_range.2 hv, rfl⟩)
 simpa using this

/-- a term that is a byte; which -/
def K8 (l : List Nd) (t : Int) : Prop := 1 ≤ t ∧ t ≤ (l.length : Int) ∧ ∃ v : Nat, v < 256 ∧ l.getD (t - 1).toNat nd0 = cN v
def bt (l : List Nd) (t : Int) : Int := (l.getD (t - 1).toNat nd0).2.2.1
def Le (l l' : List Nd) : Prop := ∃ m, l' = l ++ m
theorem Le.refl (l : List Nd) : Le l l := ⟨[], by simp⟩
theorem Le.trans {a b c : List Nd} (h : Le a b) (k : Le b c) : Le a c := by
 obtain ⟨m, rfl⟩ := h
 obtain ⟨o, rfl⟩ := k
 exact ⟨m ++ o, by simp⟩
theorem K8.at {l l' : List Nd} {t : Int} (h : K8 l t) (k : Le l l') : l'.getD (t - 1).toNat nd0 = l.getD (t - 1).toNat nd0 := by
 obtain ⟨m, rfl⟩ := k
 obtain ⟨h1, h2, _⟩ := h
 rw [List.getD_eq_getElem?_getD, List.getD_eq_getElem?_getD, List.getElem?_append_left (by omega)]
theorem K8.le {l l' : List Nd} {t : Int} (h : K8 l t) (k : Le l l') : K8 l' t := by
 have e := h.at k
 obtain ⟨h1, h2, v, hv, hx⟩ := h
 refine ⟨h1, ?_, v, hv, e.trans hx⟩
 obtain ⟨m, rfl⟩ := k
 simp
 omega
theorem K8.bt {l l' : List Nd} {t : Int} (h : K8 l t) (k : Le l l') : bt l' t = bt l t := by
 unfold Go.Proofs.Ytdopealphpmaeaa.bt
 rw [h.at k]

theorem May8 {R : Type} (N : Nat) (k : Bool → Option R) : Z120 N 8 k = k true := rfl
theorem band8 {v : Nat} (h : v < 256) : band .u16 (v : Int) (255 : Int) = (v : Int) := by
 have hx : band .u16 (v : Int) ((255 : Nat) : Int) = ((v &&& 255 : Nat) : Int) := by
  unfold band
  rw [show IntKind.bits .u16 = 16 from rfl, show BitVec.ofInt 16 (v : Int) = BitVec.ofNat 16 v by simp, show BitVec.ofInt 16 ((255 : Nat) : Int) = BitVec.ofNat 16 255 by simp, BitVec.toNat_and, BitVec.toNat_ofNat, BitVec.toNat_ofNat, Nat.mod_eq_of_lt (by omega), Nat.mod_eq_of_lt (by decide)]
  have := Nat.and_le_right (n := v) (m := 255)
  exact wu16 (by omega)
 refine hx.trans ?_
 have := Nat.and_two_pow_sub_one_eq_mod v 8
 rw [show (2 : Nat) ^ 8 - 1 = 255 by decide, show (2 : Nat) ^ 8 = 256 by decide] at this
 rw [this, Nat.mod_eq_of_lt h]

theorem Const_B (N : Nat) {l : List Nd} {b : By} (A : BA l b) (ws : Ws) {v : Nat} (hv : v < 256) :
  ∃ t l' b', BA l' b' ∧ Le l l' ∧ K8 l' t ∧ bt l' t = (v : Int) ∧ ∀ {R : Type} (k : Int → Int → By → Ws → List Nd → Option R), Z101 N 8 (v : Int) l b ws k = k t 0 b' ws l' := by
 have hl := A.len
 have start : ∀ {R : Type} (k : Int → Int → By → Ws → List Nd → Option R), Z101 N 8 (v : Int) l b ws k = Z106 N 1 8 (v : Int) 0 0 0 l b ws k := fun k => by
  unfold Z101 Z101_T
  rw [May8, Bool.not_true, br_false]
  unfold Z119 Z119_T
  rw [May8, Bool.not_true, br_false]
  rw [br_not (by decide)]
  have e : IntKind.wrap .u16 ((shlI .u16 (1 : Int) (IntKind.wrap .u64 8)) - (1 : Int)) = 255 := by decide
  rw [e]
  dsimp only
  rw [band8 hv]
 rcases A.find v hv with ⟨i, hi, hx, hf⟩ | ⟨hf, hn⟩
 ·refine ⟨((i + 1 : Nat) : Int), l, b, A, Le.refl l, ⟨by omega, by omega, v, hv, ?_⟩, ?_, fun k => ?_⟩
  ·rw [show (((i + 1 : Nat) : Int) - 1).toNat = i by omega, hx]
  ·unfold bt
   rw [show (((i + 1 : Nat) : Int) - 1).toNat = i by omega, hx]
   rfl
  ·rw [start]
   unfold Z106 Z106_T
   have hf' : mfind SNd (.int .i64) b (1, 8, (v : Int), 0, 0, 0) = some ((i + 1 : Nat) : Int) := hf
   rw [hf']
   rfl
 ·have hget : (l ++ [cN v]).getD l.length nd0 = cN v := by
   rw [List.getD_eq_getElem?_getD, List.getElem?_append_right (Nat.le_refl _), Nat.sub_self]
   rfl
  have hat : (l ++ [cN v]).getD (((l.length + 1 : Nat) : Int) - 1).toNat nd0 = cN v := by
   rw [show (((l.length + 1 : Nat) : Int) - 1).toNat = l.length by omega, hget]
  refine ⟨((l.length + 1 : Nat) : Int), l ++ [cN v], mput SNd (.int .i64) b (cN v) ((l.length + 1 : Nat) : Int), ⟨fun n hn => ?_, ?_, fun u hu => ?_⟩, ⟨[cN v], rfl⟩, ⟨by omega, by simp, v, hv, hat⟩, ?_, fun k => ?_⟩
  ·rcases List.mem_append.1 hn with h | h
   ·exact A.num n h
   ·exact ⟨v, hv, List.mem_singleton.1 h⟩
  ·refine List.nodup_append.2 ⟨A.nodup, by simp, fun a ha c hc => ?_⟩
   rw [List.mem_singleton.1 hc]
   exact fun e => hn (e ▸ ha)
  ·by_cases e : u = v
   ·subst e
    exact .inl ⟨l.length, by simp, hget, mfind_put_same (ks := SNd) (vs := .int .i64) rfl _ _⟩
   ·have hne : cN v ≠ cN u := fun h => e (by
     have : ((v : Nat) : Int) = (u : Int) := congrArg (fun n : Nd => n.2.2.1) h
     omega)
    rw [mfind_put_ne (ks := SNd) (vs := .int .i64) rfl hne]
    rcases A.find u hu with ⟨i, hi, hx, hf2⟩ | ⟨hf2, hn2⟩
    ·refine .inl ⟨i, by simp; omega, ?_, hf2⟩
     rw [List.getD_eq_getElem?_getD, List.getElem?_append_left hi, ← List.getD_eq_getElem?_getD]
     exact hx
    ·refine .inr ⟨hf2, fun h => ?_⟩
     rcases List.mem_append.1 h with h | h
     ·exact hn2 h
     ·exact hne (List.mem_singleton.1 h).symm
  ·unfold bt
   rw [hat]
   rfl
  ·rw [start]
   unfold Z106 Z106_T
   have hf' : mfind SNd (.int .i64) b (1, 8, (v : Int), 0, 0, 0) = none := hf
   rw [hf', Option.isSome_none, br_false, decide_eq_false (by omega), br_false, fits_of (by omega), decide_eq_true (by omega), sub_all]
   rfl

theorem Known_B {R : Type} (N : Nat) {l : List Nd} (hl : l.length ≤ 256) (b : By) (ws : Ws) {t : Int} (h : K8 l t) (k : Int → Bool → List Nd → By → Ws → Option R) :
  Z102 N t l b ws k = k (bt l t) true l b ws ∧ 0 ≤ bt l t ∧ bt l t < 256 := by
 obtain ⟨h1, h2, v, hv, hx⟩ := h
 have e : bt l t = (v : Int) := by unfold bt; rw [hx]; rfl
 refine ⟨?_, by omega, by omega⟩
 unfold Z102 Z102_T Z103 Z103_T
 have hx' : l.getD (t - 1).toNat ((0 : Int) , ((0 : Int) , ((0 : Int) , ((0 : Int) , ((0 : Int) , (0 : Int)))))) = cN v := hx
 rw [br_of (by rw [decide_eq_false (by omega)]; rfl), br_not (decide_eq_false (by omega)), w64 (by omega), br_of (inB_of (by omega)), br_of (decide_eq_true (by omega)), hx', e]
 rfl
theorem Width_B {R : Type} (N : Nat) {l : List Nd} (hl : l.length ≤ 256) (b : By) (ws : Ws) {t : Int} (h : K8 l t) (k : Int → List Nd → By → Ws → Option R) :
  Z105 N t l b ws k = k 8 l b ws := by
 obtain ⟨h1, h2, v, hv, hx⟩ := h
 unfold Z105 Z105_T Z103 Z103_T
 have hx' : l.getD (t - 1).toNat ((0 : Int) , ((0 : Int) , ((0 : Int) , ((0 : Int) , ((0 : Int) , (0 : Int)))))) = cN v := hx
 rw [br_of (by rw [decide_eq_false (by omega)]; rfl), br_not (decide_eq_false (by omega)), w64 (by omega), br_of (inB_of (by omega)), br_of (decide_eq_true (by omega)), hx']
 rfl

/-- rows of terms that are bytes -/
def rowK (l : List Nd) (r : List Int) : Prop := ∀ t ∈ r, K8 l t
theorem rowK.le {l l' : List Nd} {r : List Int} (h : rowK l r) (k : Le l l') : rowK l' r := fun t ht => (h t ht).le k
theorem rowK.bts {l l' : List Nd} {r : List Int} (h : rowK l r) (k : Le l l') : r.map (bt l') = r.map (bt l) := List.map_congr_left fun t ht => (h t ht).bt k

theorem getD_at' {α : Type} {l : List α} {i : Nat} (h : i < l.length) (z : α) : l.getD i z = l[i] := by
 rw [List.getD_eq_getElem?_getD, List.getElem?_eq_getElem h]; rfl

theorem terms_loop (N : Nat) (c : List Int) (hc : ∀ x ∈ c, 0 ≤ x ∧ x < 256) (hl : c.length ≤ 1000000) (ws : Ws) : ∀ (e i n : Nat) (l : List Nd) (b : By) (r : List Int), c.length - i = e → i ≤ c.length → e < n → BA l b → rowK l r → r.map (bt l) = c.take i →
  ∃ l' b' r', BA l' b' ∧ Le l l' ∧ rowK l' r' ∧ r'.map (bt l') = c ∧ ∀ {R : Type} (k : By → Ws → List Nd → List Int → Option R), Z43_l0 N k n c (i : Int) b ws l r = k b' ws l' r' := by
 intro e
 induction e with
 | zero =>
  intro i n l b r he hi hn A hr hm
  obtain ⟨n, rfl⟩ : ∃ n', n = n' + 1 := ⟨n - 1, by omega⟩
  obtain rfl : i = c.length := by omega
  refine ⟨l, b, r, A, Le.refl l, hr, by rw [hm, List.take_length], fun k => ?_⟩
  simp only [Z43_l0, Z43_l0_T0]
  rw [br_not (decide_eq_false (by omega))]
 | succ e ih =>
  intro i n l b r he hi hn A hr hm
  obtain ⟨n, rfl⟩ : ∃ n', n = n' + 1 := ⟨n - 1, by omega⟩
  have hlt : i < c.length := by omega
  have hg := getD_at' hlt (0 : Int)
  obtain ⟨q1, q2⟩ := hc _ (List.getElem_mem hlt)
  obtain ⟨v, hv⟩ : ∃ v : Nat, c[i] = (v : Int) := ⟨c[i].toNat, by omega⟩
  have hrl : r.length = i := by
   have := congrArg List.length hm
   simp at this
   omega
  obtain ⟨t, l1, b1, A1, k1, t1, t2, hk⟩ := Const_B N A ws (v := v) (by omega)
  obtain ⟨l2, b2, r2, A2, k2, r3, r4, h2⟩ := ih (i + 1) n l1 b1 (r ++ t :: ([] : List (Int))) (by omega) (by omega) (by omega) A1 (fun u hu => by
   rcases List.mem_append.1 hu with hu | hu
   ·exact (hr u hu).le k1
   ·rw [List.mem_singleton.1 hu]; exact t1) (by
   rw [List.map_append, hr.bts k1, hm, List.take_add_one, List.getElem?_eq_getElem hlt, hv]
   simp [t2])
  refine ⟨l2, b2, r2, A2, k1.trans k2, r3, r4, fun k => ?_⟩
  simp only [Z43_l0, Z43_l0_T0, Int.toNat_natCast, hg, hv]
  rw [br_of (decide_eq_true (by omega)), br_of (inB_of (by omega)), wu16 (by omega), hk, br_of (by rw [fits_of (by omega), decide_eq_true (by omega)]; rfl), sub_all, w64_succ (by omega)]
  exact h2 k

theorem terms_eq (N : Nat) (c : List Int) (hc : ∀ x ∈ c, 0 ≤ x ∧ x < 256) (hl : c.length ≤ 1000000) (hN : c.length < N) {l : List Nd} {b : By} (A : BA l b) (ws : Ws) :
  ∃ l' b' r', BA l' b' ∧ Le l l' ∧ rowK l' r' ∧ r'.map (bt l') = c ∧ ∀ {R : Type} (k : By → Ws → List Nd → List Int → Option R), Z43 N c l b ws k = k b' ws l' r' := by
 obtain ⟨l', b', r', h1, h2, h3, h4, h5⟩ := terms_loop N c hc hl ws c.length 0 N l b [] (by omega) (by omega) (by omega) A (fun t h => (by cases h)) rfl
 refine ⟨l', b', r', h1, h2, h3, h4, fun k => ?_⟩
 unfold Z43 Z43_T
 exact h5 _

theorem mkStr_app (a b : List Int) : mkStr a ++ mkStr b = mkStr (a ++ b) := by
 unfold mkStr
 apply ByteArray.ext
 simp
theorem mkStr_size (a : List Int) : (mkStr a).size = a.length := by
 unfold mkStr
 simp [ByteArray.size]

theorem bytes_loop {R : Type} (N : Nat) {l : List Nd} (hl : l.length ≤ 256) (b : By) (ws : Ws) (r : List Int) (hr : rowK l r) (hrl : r.length ≤ 1000000) (k0 : ByteArray → Bool → ByteArray → List Nd → By → Ws → List Int → Option R) (k1 : ByteArray → List Nd → By → Ws → List Int → Option R) :
  ∀ (e i n : Nat), r.length - i = e → i ≤ r.length → e < n → Z33_l0 N k0 k1 n (mkStr ((r.take i).map (bt l))) (i : Int) l b ws r = k1 (mkStr (r.map (bt l))) l b ws r := by
 intro e
 induction e with
 | zero =>
  intro i n he hi hn
  obtain ⟨n, rfl⟩ : ∃ n', n = n' + 1 := ⟨n - 1, by omega⟩
  obtain rfl : i = r.length := by omega
  simp only [Z33_l0, Z33_l0_T0]
  rw [br_not (decide_eq_false (by omega)), List.take_length]
 | succ e ih =>
  intro i n he hi hn
  obtain ⟨n, rfl⟩ : ∃ n', n = n' + 1 := ⟨n - 1, by omega⟩
  have hlt : i < r.length := by omega
  have hg := getD_at' hlt (0 : Int)
  have hk := hr _ (List.getElem_mem hlt)
  obtain ⟨_, q1, q2⟩ := Known_B (R := R) N hl b ws hk (fun _ _ _ _ _ => none)
  have hin : inB (i : Int) r.length = true := inB_of (by omega)
  have hdl : decide (i < r.length) = true := decide_eq_true hlt
  simp only [Z33_l0, Z33_l0_T0, Int.toNat_natCast, hg, hin, hdl, br_true]
  rw [br_of (decide_eq_true (by omega)), (Known_B N hl b ws hk _).1, br_of (by rfl), Width_B N hl b ws hk, br_not (by rfl)]
  have e8 : IntKind.wrap .u8 (bt l r[i]) = bt l r[i] := by rw [show IntKind.wrap .u8 (bt l r[i]) = bt l r[i] from wu8 (by omega)]
  rw [e8, show (bt l r[i] :: ([] : List Int)) = [bt l r[i]] from rfl, mkStr_app, mkStr_size, mkStr_size, br_of (decide_eq_true (by simp; omega)), w64_succ (by omega)]
  have et : (r.take i).map (bt l) ++ [bt l r[i]] = (r.take (i + 1)).map (bt l) := by
   rw [List.take_add_one, List.getElem?_eq_getElem hlt, List.map_append]
   rfl
  rw [et]
  exact ih (i + 1) n (by omega) (by omega) (by omega)

theorem bytes_eq {R : Type} (N : Nat) {l : List Nd} (hl : l.length ≤ 256) (b : By) (ws : Ws) (r : List Int) (hr : rowK l r) (hrl : r.length ≤ 1000000) (hN : r.length < N) (k : ByteArray → Bool → List Nd → By → Ws → List Int → Option R) :
  Z33 N l b ws r k = k (mkStr (r.map (bt l))) true l b ws r := by
 unfold Z33 Z33_T
 have := bytes_loop N hl b ws r hr hrl (fun s982 b983 s984 l985 l986 l987 l988 => k s982 b983 l985 l986 l987 l988) (fun s989 l990 l991 l992 l993 => k s989 true l990 l991 l992 l993) r.length 0 N (by omega) (by omega) (by omega)
 exact this

/-! ### files of terms, as files of bytes -/
def dmap (l : List Nd) (d : DM) : DM := d.map fun e => (e.1, e.2.map (bt l))
def RowsK (l : List Nd) (d : DM) : Prop := ∀ e ∈ d, rowK l e.2
theorem RowsK.le {l l' : List Nd} {d : DM} (h : RowsK l d) (k : Le l l') : RowsK l' d := fun e he => (h e he).le k
theorem dmap_le {l l' : List Nd} {d : DM} (h : RowsK l d) (k : Le l l') : dmap l' d = dmap l d := List.map_congr_left fun e he => by rw [(h e he).bts k]

theorem dget_map (l : List Nd) : ∀ (d : DM) (i : Int), dgetV (dmap l d) i = (dgetG d i).map (bt l)
 | [], i => rfl
 | e :: d, i => by
  have ih := dget_map l d i
  unfold dgetV dgetG at ih ⊢
  show Option.getD (if Sh.eqb (.int .i64) i e.1 then some (e.2.map (bt l)) else mfind (.int .i64) (.isl (.int .u8)) (dmap l d) i) _ = (Option.getD (if Sh.eqb (.int .i64) i e.1 then some e.2 else mfind (.int .i64) (.isl (.int .i64)) d i) _).map (bt l)
  by_cases c : Sh.eqb (.int .i64) i e.1 = true
  ·rw [if_pos c, if_pos c]
   rfl
  ·rw [if_neg c, if_neg c]
   exact ih
theorem dput_map (l : List Nd) (i : Int) (v : List Int) : ∀ (d : DM), dmap l (mput (.int .i64) (.isl (.int .i64)) d i v) = mput (.int .i64) (.isl (.int .u8)) (dmap l d) i (v.map (bt l))
 | [] => rfl
 | e :: d => by
  have ih := dput_map l i v d
  show dmap l (if Sh.eqb (.int .i64) i e.1 then (i, v) :: d else e :: mput (.int .i64) (.isl (.int .i64)) d i v) = (if Sh.eqb (.int .i64) i e.1 then (i, v.map (bt l)) :: dmap l d else (e.1, e.2.map (bt l)) :: mput (.int .i64) (.isl (.int .u8)) (dmap l d) i (v.map (bt l)))
  by_cases c : Sh.eqb (.int .i64) i e.1 = true
  ·rw [if_pos c, if_pos c]
   rfl
  ·rw [if_neg c, if_neg c, ← ih]
   rfl
theorem RowsK.put {l : List Nd} {d : DM} (h : RowsK l d) (i : Int) {v : List Int} (hv : rowK l v) : RowsK l (mput (.int .i64) (.isl (.int .i64)) d i v) := by
 induction d with
 | nil =>
  intro e he
  have he : e ∈ [(i, v)] := he
  rw [List.mem_singleton.1 he]
  exact hv
 | cons x d ih =>
  intro e he
  have he : e ∈ (if Sh.eqb (.int .i64) i x.1 then (i, v) :: d else x :: mput (.int .i64) (.isl (.int .i64)) d i v) := he
  by_cases c : Sh.eqb (.int .i64) i x.1 = true
  ·rw [if_pos c] at he
   rcases List.mem_cons.1 he with rfl | he
   ·exact hv
   ·exact h e (List.mem_cons_of_mem _ he)
  ·rw [if_neg c] at he
   rcases List.mem_cons.1 he with rfl | he
   ·exact h _ (by simp)
   ·exact ih (fun e he => h e (List.mem_cons_of_mem _ he)) e he
theorem RowsK.get {l : List Nd} {d : DM} (h : RowsK l d) (i : Int) : rowK l (dgetG d i) := by
 induction d with
 | nil => exact fun t ht => (by cases ht)
 | cons x d ih =>
  have ih := ih (fun e he => h e (List.mem_cons_of_mem _ he))
  unfold dgetG at ih ⊢
  show rowK l (Option.getD (if Sh.eqb (.int .i64) i x.1 then some x.2 else mfind (.int .i64) (.isl (.int .i64)) d i) _)
  by_cases c : Sh.eqb (.int .i64) i x.1 = true
  ·rw [if_pos c]
   exact h x (by simp)
  ·rw [if_neg c]
   exact ih
theorem sized_map (l : List Nd) (z : Int) (hz : bt l z = 0) (v : List Int) (n : Nat) : (sizedG z v n).map (bt l) = sizedV (v.map (bt l)) n := by
 unfold sizedG sizedV
 rw [List.map_append, List.map_take, List.map_replicate, hz, List.length_map]
theorem over_map (l : List Nd) (z : Int) (hz : bt l z = 0) (v : List Int) (a : Nat) (c : List Int) : (overG z v a c).map (bt l) = overV (v.map (bt l)) a (c.map (bt l)) := by
 unfold overG overV
 rw [List.map_append, List.map_append, List.map_take, List.map_drop, sized_map l z hz, List.length_map, List.length_map]
theorem rowK.sized {l : List Nd} {v : List Int} (h : rowK l v) {z : Int} (hz : K8 l z) (n : Nat) : rowK l (sizedG z v n) := fun t ht => by
 unfold sizedG at ht
 rcases List.mem_append.1 ht with ht | ht
 ·exact h t (List.mem_of_mem_take ht)
 ·rw [(List.mem_replicate.1 ht).2]; exact hz
theorem rowK.over {l : List Nd} {v : List Int} (h : rowK l v) {z : Int} (hz : K8 l z) (a : Nat) {c : List Int} (hc : rowK l c) : rowK l (overG z v a c) := fun t ht => by
 unfold overG at ht
 rcases List.mem_append.1 ht with ht | ht
 ·exact h.sized hz _ t (List.mem_of_mem_take ht)
 ·rcases List.mem_append.1 ht with ht | ht
  ·exact hc t ht
  ·exact h.sized hz _ t (List.mem_of_mem_drop ht)

end Go.Proofs.Ytdopealphpmaeaa
