/-
  the premise of a class (made by castw.py out of CastPremise)
-/
import Derived.Test.YtlfhmecdgfennaaPCastWN
import Derived.Test.YtlfhmecdgfennaaPTermExt
import Derived.Test.YtlfhmecdgfennaaPTermV0112
set_option linter.unusedVariables false
set_option linter.unusedSimpArgs false
namespace Go.Proofs.Ytlfhmecdgfennaa
open Go.Gx



/-! ### operators on bytes -/
theorem d15 (w x y : Nat) : doN 15 w x y = if x < y then 1 else 0 := rfl
theorem d14 (w x y : Nat) : doN 14 w x y = if x = y then 1 else 0 := rfl
theorem d7 (x y : Nat) : doN 7 8 x y = (x + y) % 256 := rfl
theorem d5 (w x y : Nat) : doN 5 w x y = x ||| y := rfl
theorem or01 {x y : Nat} (hx : x = 0 ∨ x = 1) (hy : y = 0 ∨ y = 1) : (x ||| y = 1) = (x = 1 ∨ y = 1) := by
  rcases hx with h | h <;> rcases hy with h' | h' <;> subst h <;> subst h' <;> simp

/-! ### the maker of terms -/
abbrev FV := (Nat → Nat) → Nat
/-- a term of a width, with a value -/
structure Tv (l : List Nd) (t w : Int) (f : FV) : Prop where
  tm : Tm l t
  wd : wd l t = w
  v : ∀ env, val env l t = f env
theorem Tv.le {l l' : List Nd} {t w : Int} {f : FV} (h : Tv l t w f) (k : Le l l') : Tv l' t w f := ⟨h.tm.le k, (wd_le h.tm k).trans h.wd, fun env => (val_le h.tm.2 k).trans (h.v env)⟩
theorem Got.at_ {l : List Nd} {w : Int} {f : FV} {m : Nat} {t : Int} {l' : List Nd} {b' : By} (h : Got l w f m t l' b') : Tv l' t w f := ⟨h.tm, h.wd, h.v⟩

theorem num_eq (N : Nat) {l : List Nd} {b : By} (A : Ar l b) (ws : Ws) {x : Int} (hx : 0 ≤ x ∧ x < 65536) (hl : l.length < 65536) :
    ∃ t l' b', Got l 8 (fun _ => x.toNat % 256) 1 t l' b' ∧ ∀ {R : Type} (k : Int → Int → By → Ws → List Nd → Option R), Z14 N x 0 l b ws k = k t 0 b' ws l' := by
  obtain ⟨t, l', b', G, _, h⟩ := Const_eq N A ws (w := 8) (v := x) (.inr (.inl rfl)) hx hl
  refine ⟨t, l', b', G.more (fun _ => rfl) (Nat.le_refl _), fun k => ?_⟩
  unfold Z14 Z14_T
  rw [wu16 (by omega)]
  exact (h _).trans rfl
theorem var_eq (N : Nat) {l : List Nd} {b : By} (A : Ar l b) (ws : Ws) {w i : Int} (hw : Wd w) (hi : 0 ≤ i ∧ i < 64) (hs : mfind (.int .i64) (.int .i64) ws i = none) (hl : l.length < 65536) :
    ∃ t l' b', Got l w (fun env => env i.toNat % 2 ^ w.toNat) 1 t l' b' ∧ ∀ {R : Type} (k : Int → Int → By → Ws → List Nd → Option R), Z16 N w i 0 l b ws k = k t 0 b' (mput (.int .i64) (.int .i64) ws i w) l' := by
  obtain ⟨t, l', b', G, _, h⟩ := Var_eq N A ws hw hi (.inl hs) hl
  refine ⟨t, l', b', G, fun k => ?_⟩
  unfold Z16 Z16_T
  exact (h _).trans rfl
theorem two_eq8 (N : Nat) (hN : 12 ≤ N ∧ N ≤ 2 ^ 62) {l : List Nd} {b : By} (A : Ar l b) (ws : Ws) {op x y w : Int} {fx fy : FV} (hx : Tv l x w fx) (hy : Tv l y w fy) (ho : 4 ≤ op ∧ op ≤ 15) (hlen : l.length + 3 ≤ 65536) :
    ∃ t l' b', Got l (outW op w) (fun env => doN op w.toNat (fx env) (fy env)) 3 t l' b' ∧ ∀ {R : Type} (k : Int → Int → By → Ws → List Nd → Option R), Z15 N op x y 0 l b ws k = k t 0 b' ws l' := by
  obtain ⟨t, l', b', G, h⟩ := Two_eq N hN A ws hx.tm hy.tm (hx.wd.trans hy.wd.symm) ho hlen
  rw [hx.wd] at G
  refine ⟨t, l', b', G.more (fun env => by rw [hx.v, hy.v]) (Nat.le_refl _), fun k => ?_⟩
  unfold Z15 Z15_T
  exact (h _).trans rfl

/-! ### the terms of a premise -/
def Good (l : List Nd) : List Int → List FV → Prop
  | [], [] => True
  | t :: ts, f :: fs => Tv l t 1 f ∧ Good l ts fs
  | _, _ => False
theorem Good.le {l l' : List Nd} (k : Le l l') : ∀ {ts : List Int} {fs : List FV}, Good l ts fs → Good l' ts fs
  | [], [], _ => trivial
  | _ :: _, _ :: _, h => ⟨h.1.le k, Good.le k h.2⟩
theorem Good.snoc {l : List Nd} {t : Int} {f : FV} (h : Tv l t 1 f) : ∀ {ts : List Int} {fs : List FV}, Good l ts fs → Good l (ts ++ [t]) (fs ++ [f])
  | [], [], _ => ⟨h, trivial⟩
  | _ :: _, _ :: _, g => ⟨g.1, Good.snoc h g.2⟩
theorem Good.len {l : List Nd} : ∀ {ts : List Int} {fs : List FV}, Good l ts fs → ts.length = fs.length
  | [], [], _ => rfl
  | _ :: _, _ :: _, h => by rw [List.length_cons, List.length_cons, Good.len h.2]

def sizeF (d c : Nat) : FV := fun e => doN 15 8 (e d % 256) ((c + 1) % 256)
def byteF (d k : Nat) : FV := fun e => doN 5 1 (doN 15 8 (k % 256) (e d % 256)) (doN 14 8 (e (d + 1 + k) % 256) 0)
def ptxtF (d c : Nat) : List FV := sizeF d c :: (List.range' 0 c).map (byteF d)
def ptxtsF : Nat → List Int → List FV
  | _, [] => []
  | d, c :: r => ptxtF d c.toNat ++ ptxtsF (d + 1 + c.toNat) r
def sumF (o : Nat) : Nat → FV
  | 0 => fun _ => 0
  | j + 1 => fun e => doN 7 8 (sumF o j e) (e (o + j) % 2)
def lastF (o a b : Nat) : FV := fun e => doN 15 8 (sumF o a e) ((b + 1) % 256)

/-- no variable from d on is there -/
def Fresh (ws : Ws) (d : Int) : Prop := ∀ j : Int, d ≤ j → mfind (.int .i64) (.int .i64) ws j = none
theorem Fresh.up {ws : Ws} {d e : Int} (h : Fresh ws d) (k : d ≤ e) : Fresh ws e := fun j hj => h j (by omega)
theorem Fresh.put {ws : Ws} {d : Int} (h : Fresh ws d) (w : Int) : Fresh (mput (.int .i64) (.int .i64) ws d w) (d + 1) := fun j hj => by
  rw [mfind_put_ne (ks := .int .i64) (by rfl) (show d ≠ j by omega)]
  exact h j (by omega)

theorem prem_l1 (N : Nat) (hN : 12 ≤ N ∧ N ≤ 2 ^ 62) (d : Nat) (size x2 x3 : Int) (c : Nat) (hc : c ≤ 3) (hd : d + 1 + c ≤ 60) (L : List EN) (S : List Int) (p q r : Int) (C : List Int) :
    ∀ (m k n : Nat) (l : List Nd) (b : By) (ws : Ws) (ts : List Int) (fs : List FV), c - k = m → k ≤ c → m < n → Ar l b → Tv l size 8 (fun e => e d % 256) → Good l ts fs → Fresh ws ((d + 1 + k : Nat) : Int) → l.length + 12 * m ≤ 60000 → ts.length + m ≤ 1000 →
      ∃ l' b' ws' ts', Le l l' ∧ Ar l' b' ∧ Good l' ts' (fs ++ (List.range' k m).map (byteF d)) ∧ Fresh ws' ((d + 1 + c : Nat) : Int) ∧ l'.length ≤ l.length + 12 * m ∧
        ∀ {R : Type} (k0 : Int → Int → By → Ws → List Nd → List EN → List Int → Int → Int → Int → Int → List Int → List Int → Option R),
          Z8_l1 N k0 n (d : Int) size x2 x3 (c : Int) (k : Int) b ws l L S p q r 0 ts C = k0 x2 x3 b' ws' l' L S p q r 0 ts' C := by
  intro m
  induction m with
  | zero =>
    intro k n l b ws ts fs hm hk hn A hs G F hl ht
    obtain ⟨n, rfl⟩ : ∃ n', n = n' + 1 := ⟨n - 1, by omega⟩
    obtain rfl : k = c := by omega
    refine ⟨l, b, ws, ts, Le.refl l, A, by simpa using G, F, by omega, fun k0 => ?_⟩
    rw [Z8_l1, Z8_l1_T0, br_not (decide_eq_false (by omega))]
  | succ m ih =>
    intro k n l b ws ts fs hm hk hn A hs G F hl ht
    obtain ⟨n, rfl⟩ : ∃ n', n = n' + 1 := ⟨n - 1, by omega⟩
    obtain ⟨t1, l1, b1, G1, c1⟩ := num_eq N A ws (x := (k : Int)) (by omega) (by omega)
    have f1 := G1.few
    obtain ⟨t2, l2, b2, G2, c2⟩ := two_eq8 N hN G1.ar ws (op := 15) G1.at_ (hs.le G1.le) (by omega) (by omega)
    have f2 := G2.few
    obtain ⟨t3, l3, b3, G3, c3⟩ := var_eq N G2.ar ws (w := 8) (i := ((d + 1 + k : Nat) : Int)) (.inr (.inl rfl)) (by omega) (F _ (Int.le_refl _)) (by omega)
    have f3 := G3.few
    obtain ⟨t4, l4, b4, G4, c4⟩ := num_eq N G3.ar (mput (.int .i64) (.int .i64) ws ((d + 1 + k : Nat) : Int) 8) (x := 0) (by omega) (by omega)
    have f4 := G4.few
    obtain ⟨t5, l5, b5, G5, c5⟩ := two_eq8 N hN G4.ar (mput (.int .i64) (.int .i64) ws ((d + 1 + k : Nat) : Int) 8) (op := 14) (G3.at_.le G4.le) G4.at_ (by omega) (by omega)
    have f5 := G5.few
    obtain ⟨t6, l6, b6, G6, c6⟩ := two_eq8 N hN G5.ar (mput (.int .i64) (.int .i64) ws ((d + 1 + k : Nat) : Int) 8) (op := 5) (w := 1) (G2.at_.le (G3.le.trans (G4.le.trans G5.le))) G5.at_ (by omega) (by omega)
    have f6 := G6.few
    have le6 : Le l l6 := G1.le.trans (G2.le.trans (G3.le.trans (G4.le.trans (G5.le.trans G6.le))))
    have hat : Tv l6 t6 1 (byteF d k) := ⟨G6.tm, G6.wd, fun env => by
      rw [G6.v]
      unfold byteF
      rw [Int.toNat_natCast, Int.toNat_natCast]
      rfl⟩
    obtain ⟨l', b', ws', ts', q1, q2, q3, q4, q5, q6⟩ := ih (k + 1) n l6 b6 (mput (.int .i64) (.int .i64) ws ((d + 1 + k : Nat) : Int) 8) (ts ++ [t6]) (fs ++ [byteF d k]) (by omega) (by omega) (by omega) G6.ar (hs.le le6) ((G.le le6).snoc hat) (F.put 8) (by omega) (by rw [List.length_append, List.length_singleton]; omega)
    refine ⟨l', b', ws', ts', le6.trans q1, q2, ?_, q4, by omega, fun k0 => ?_⟩
    · rw [List.append_assoc] at q3
      exact q3
    · rw [Z8_l1, Z8_l1_T0, br_of (decide_eq_true (by omega))]
      have hw : IntKind.wrap .i64 (IntKind.wrap .i64 ((d : Int) + 1) + (k : Int)) = ((d + 1 + k : Nat) : Int) := by
        rw [w64 (x := (d : Int) + 1) (by omega), w64 (by omega)]; omega
      rw [hw, w64_succ (by omega), sub_all, app8 (by omega)]
      refine (c1 _).trans ?_
      refine (c2 _).trans ?_
      refine (c3 _).trans ?_
      refine (c4 _).trans ?_
      refine (c5 _).trans ?_
      refine (c6 _).trans ?_
      rw [br_true]
      exact q6 k0

theorem prem_l0 (N : Nat) (hN : 1000 ≤ N ∧ N ≤ 2 ^ 62) (L : List EN) (S : List Int) (p q r : Int) (H : mayB L S p q r = true) :
    ∀ (m i n : Nat) (l : List Nd) (b : By) (ws : Ws) (ts : List Int) (fs : List FV), (capsL L ++ S).length - i = m → i ≤ (capsL L ++ S).length → m < n → Ar l b → Good l ts fs → Fresh ws (offN ((capsL L ++ S).take i) : Int) → l.length + 50 * m ≤ 50000 → ts.length + 4 * m ≤ 900 →
      ∃ l' b' ws' ts', Le l l' ∧ Ar l' b' ∧ Good l' ts' (fs ++ ptxtsF (offN ((capsL L ++ S).take i)) ((capsL L ++ S).drop i)) ∧ Fresh ws' (offN (capsL L ++ S) : Int) ∧ l'.length ≤ l.length + 50 * m ∧ ts'.length ≤ ts.length + 4 * m ∧
        ∀ {R : Type} (k0 : By → Ws → List Nd → List EN → List Int → Int → Int → Int → Int → List Int → Option R),
          Z8_l0 N k0 n ((capsL L ++ S).length : Int) (i : Int) b ws l L S p q r 0 ts (capsL L ++ S) = k0 b' ws' l' L S p q r 0 ts' := by
  obtain ⟨hf, hL8, hS2, hC6, ha0, ha6⟩ := may_fit H
  intro m
  induction m with
  | zero =>
    intro i n l b ws ts fs hm hi hn A G F hl ht
    obtain ⟨n, rfl⟩ : ∃ n', n = n' + 1 := ⟨n - 1, by omega⟩
    obtain rfl : i = (capsL L ++ S).length := by omega
    rw [List.take_length] at F
    refine ⟨l, b, ws, ts, Le.refl l, A, ?_, F, by omega, by omega, fun k0 => ?_⟩
    · rw [List.drop_length, ptxtsF, List.append_nil]
      exact G
    · rw [Z8_l0, Z8_l0_T0, br_not (decide_eq_false (by omega))]
  | succ m ih =>
    intro i n l b ws ts fs hm hi hn A G F hl ht
    obtain ⟨n, rfl⟩ : ∃ n', n = n' + 1 := ⟨n - 1, by omega⟩
    have hlt : i < (capsL L ++ S).length := by omega
    have hfi := hf (capsL L ++ S)[i] (List.getElem_mem hlt)
    have hnext := offN_take hlt
    have hoff : (offN ((capsL L ++ S).take (i + 1)) : Int) ≤ 24 := by
      rw [← offs_offN (hf.sub _)]
      have := (offs_le (hf.sub (i + 1))).2
      rw [List.length_take] at this
      omega
    have hsz : offs ((capsL L ++ S).take i) = (offN ((capsL L ++ S).take i) : Int) := offs_offN (hf.sub _)
    have hg : (capsL L ++ S).getD i 0 = (capsL L ++ S)[i] := getD_at hlt 0
    have hdrop : (capsL L ++ S).drop i = (capsL L ++ S)[i] :: (capsL L ++ S).drop (i + 1) := List.drop_eq_getElem_cons hlt
    obtain ⟨c, hcc⟩ : ∃ c : Nat, (capsL L ++ S)[i] = (c : Int) := ⟨(capsL L ++ S)[i].toNat, by omega⟩
    rw [hcc] at hg hdrop hfi hnext
    rw [Int.toNat_natCast] at hnext
    rw [hdrop, ptxtsF, Int.toNat_natCast]
    generalize hd : offN ((capsL L ++ S).take i) = d at F hnext hsz
    have hw8 : Wd 8 := .inr (.inl rfl)
    obtain ⟨t1, l1, b1, G1, c1⟩ := var_eq N A ws (w := 8) (i := (d : Int)) hw8 (by omega) (F _ (Int.le_refl _)) (by omega)
    have f1 := G1.few
    obtain ⟨t2, l2, b2, G2, c2⟩ := num_eq N G1.ar (mput (.int .i64) (.int .i64) ws (d : Int) 8) (x := (c : Int) + 1) (by omega) (by omega)
    have f2 := G2.few
    obtain ⟨t3, l3, b3, G3, c3⟩ := two_eq8 N (by omega) G2.ar (mput (.int .i64) (.int .i64) ws (d : Int) 8) (op := 15) (G1.at_.le G2.le) G2.at_ (by omega) (by omega)
    have f3 := G3.few
    have le3 : Le l l3 := G1.le.trans (G2.le.trans G3.le)
    have hat : Tv l3 t3 1 (sizeF d c) := ⟨G3.tm, G3.wd, fun env => by
      rw [G3.v]
      unfold sizeF
      rw [Int.toNat_natCast, show ((c : Int) + 1).toNat = c + 1 by omega]
      rfl⟩
    have hsize : Tv l3 t1 8 (fun e => e d % 256) := (G1.at_.le (G2.le.trans G3.le))
    have F1 : Fresh (mput (.int .i64) (.int .i64) ws (d : Int) 8) ((d + 1 + 0 : Nat) : Int) := F.put 8
    obtain ⟨l4, b4, ws4, ts4, q1, q2, q3, q4, q5, q6⟩ := prem_l1 N (by omega) d t1 ((capsL L ++ S).length : Int) (i : Int) c (by omega) (by omega) L S p q r (capsL L ++ S) c 0 N l3 b3 _ (ts ++ [t3]) (fs ++ [sizeF d c]) rfl (by omega) (by omega) G3.ar hsize ((G.le le3).snoc hat) F1 (by omega) (by rw [List.length_append, List.length_singleton]; omega)
    have ht4 : ts4.length = ts.length + 1 + c := by
      have e1 := q3.len
      have e2 := G.len
      rw [e1]
      simp
      omega
    rw [show ((d + 1 + c : Nat) : Int) = (offN ((capsL L ++ S).take (i + 1)) : Int) by rw [hnext]; omega] at q4
    obtain ⟨l', b', ws', ts', r1, r2, r3, r4, r5, r6, r7⟩ := ih (i + 1) n l4 b4 ws4 ts4 _ (by omega) (by omega) (by omega) q2 q3 q4 (by omega) (by omega)
    refine ⟨l', b', ws', ts', le3.trans (q1.trans r1), r2, ?_, r4, by omega, by omega, fun k0 => ?_⟩
    · rw [hnext, ← Nat.add_assoc] at r3
      unfold ptxtF
      simp only [List.append_assoc, List.cons_append, List.nil_append] at r3 ⊢
      exact r3
    · rw [Z8_l0, Z8_l0_T0, br_of (decide_eq_true (by omega)), br_of (inB_of (by omega)), Int.toNat_natCast, br_of (decide_eq_true hlt)]
      rw [Size_eq N (by omega) L S p q r H, if_neg (by omega), Int.toNat_natCast, hsz, hg]
      rw [w64 (x := (c : Int) + 1) (by omega), sub_all, app8 (by omega)]
      refine (c1 _).trans ?_
      refine (c2 _).trans ?_
      refine (c3 _).trans ?_
      rw [br_true]
      refine (q6 _).trans ?_
      rw [w64_succ (by omega)]
      exact r7 k0

theorem prem_l2 (N : Nat) (hN : 1000 ≤ N ∧ N ≤ 2 ^ 62) (L : List EN) (S : List Int) (p q r : Int) (H : mayB L S p q r = true) (ts : List Int) :
    ∀ (m j n : Nat) (l : List Nd) (b : By) (ws : Ws) (s : Int), p.toNat - j = m → j ≤ p.toNat → m < n → Ar l b → Tv l s 8 (sumF (offN (capsL L ++ S)) j) → Fresh ws ((offN (capsL L ++ S) + j : Nat) : Int) → l.length + 5 * m ≤ 60000 →
      ∃ l' b' ws' s', Le l l' ∧ Ar l' b' ∧ Tv l' s' 8 (sumF (offN (capsL L ++ S)) p.toNat) ∧ l'.length ≤ l.length + 5 * m ∧
        ∀ {R : Type} (k0 : Int → By → Ws → List Nd → List EN → List Int → Int → Int → Int → Int → List Int → Option R),
          Z8_l2 N k0 n s p (j : Int) b ws l L S p q r 0 ts = k0 s' b' ws' l' L S p q r 0 ts := by
  obtain ⟨hf, hL8, hS2, hC6, ha0, ha6⟩ := may_fit H
  have ho := offs_offN hf
  have hle := (offs_le hf).2
  intro m
  induction m with
  | zero =>
    intro j n l b ws s hm hj hn A hs F hl
    obtain ⟨n, rfl⟩ : ∃ n', n = n' + 1 := ⟨n - 1, by omega⟩
    obtain rfl : j = p.toNat := by omega
    refine ⟨l, b, ws, s, Le.refl l, A, hs, by omega, fun k0 => ?_⟩
    rw [Z8_l2, Z8_l2_T0, br_not (decide_eq_false (by omega))]
  | succ m ih =>
    intro j n l b ws s hm hj hn A hs F hl
    obtain ⟨n, rfl⟩ : ∃ n', n = n' + 1 := ⟨n - 1, by omega⟩
    obtain ⟨t1, l1, b1, G1, c1⟩ := var_eq N A ws (w := 1) (i := ((offN (capsL L ++ S) + j : Nat) : Int)) (.inl rfl) (by omega) (F _ (Int.le_refl _)) (by omega)
    have f1 := G1.few
    obtain ⟨t2, l2, b2, G2, c2⟩ := Ext_eq N (by omega) G1.ar (mput (.int .i64) (.int .i64) ws ((offN (capsL L ++ S) + j : Nat) : Int) 1) (w := 8) (.inr (.inl rfl)) G1.tm (by rw [G1.wd]; omega) (by omega)
    have f2 := G2.few
    obtain ⟨t3, l3, b3, G3, c3⟩ := two_eq8 N (by omega) G2.ar (mput (.int .i64) (.int .i64) ws ((offN (capsL L ++ S) + j : Nat) : Int) 1) (op := 7) (hs.le (G1.le.trans G2.le)) G2.at_ (by omega) (by omega)
    have f3 := G3.few
    have le3 : Le l l3 := G1.le.trans (G2.le.trans G3.le)
    have hat : Tv l3 t3 8 (sumF (offN (capsL L ++ S)) (j + 1)) := ⟨G3.tm, G3.wd, fun env => by
      rw [G3.v, G1.v]
      rw [Int.toNat_natCast]
      rfl⟩
    obtain ⟨l', b', ws', s', q1, q2, q3, q4, q5⟩ := ih (j + 1) n l3 b3 (mput (.int .i64) (.int .i64) ws ((offN (capsL L ++ S) + j : Nat) : Int) 1) t3 (by omega) (by omega) (by omega) G3.ar hat (F.put 1) (by omega)
    refine ⟨l', b', ws', s', le3.trans q1, q2, q3, by omega, fun k0 => ?_⟩
    rw [Z8_l2, Z8_l2_T0, br_of (decide_eq_true (by omega)), Fail_eq N (by omega) L S p q r H _ (by omega), if_pos (by omega), ho]
    refine (c1 _).trans ?_
    rw [br_of (by rfl)]
    refine (c2 _).trans ?_
    unfold Z13 Z13_T
    rw [br_of (by rfl)]
    refine (c3 _).trans ?_
    rw [w64_succ (by omega)]
    exact q5 k0

def premF (L : List EN) (S : List Int) (p q : Int) : List FV := ptxtsF 0 (capsL L ++ S) ++ [lastF (offN (capsL L ++ S)) p.toNat q.toNat]

theorem may_fails {L : List EN} {S : List Int} {a b c : Int} (h : mayB L S a b c = true) : 0 ≤ b ∧ b ≤ a := by
  unfold mayB at h
  simp only [Bool.and_eq_true, decide_eq_true_eq] at h
  exact fitB_iff.1 h.1.2

theorem Premise_eq (N : Nat) (hN : 1000 ≤ N ∧ N ≤ 2 ^ 62) (L : List EN) (S : List Int) (p q r : Int) (H : mayB L S p q r = true) :
    ∃ l' b' ws' ts', Ar l' b' ∧ Good l' ts' (premF L S p q) ∧ ts'.length ≤ 1000 ∧
      ∀ {R : Type} (k0 : Int → By → Ws → List Nd → List Int → Option R), Z8 N L S p q r [] [] [] k0 = k0 0 b' ws' l' ts' := by
  obtain ⟨hf, hL8, hS2, hC6, ha0, ha6⟩ := may_fit H
  have hq := may_fails H
  obtain ⟨l1, b1, ws1, ts1, q1, q2, q3, q4, q5, q6, q7⟩ := prem_l0 N hN L S p q r H (capsL L ++ S).length 0 N [] [] [] [] [] rfl (by omega) (by omega) Ar.nil trivial (fun _ _ => rfl) (by rw [List.length_nil]; omega) (by rw [List.length_nil]; omega)
  rw [List.take_zero, List.drop_zero, List.nil_append] at q3
  simp only [List.length_nil] at q5 q6
  obtain ⟨t2, l2, b2, G2, c2⟩ := num_eq N q2 ws1 (x := 0) (by omega) (by omega)
  have f2 := G2.few
  obtain ⟨l3, b3, ws3, s3, r1, r2, r3, r4, r5⟩ := prem_l2 N hN L S p q r H ts1 p.toNat 0 N l2 b2 ws1 t2 rfl (by omega) (by omega) G2.ar G2.at_ q4 (by omega)
  obtain ⟨t4, l4, b4, G4, c4⟩ := num_eq N r2 ws3 (x := q + 1) (by omega) (by omega)
  have f4 := G4.few
  obtain ⟨t5, l5, b5, G5, c5⟩ := two_eq8 N (by omega) G4.ar ws3 (op := 15) (r3.le G4.le) G4.at_ (by omega) (by omega)
  have hat : Tv l5 t5 1 (lastF (offN (capsL L ++ S)) p.toNat q.toNat) := ⟨G5.tm, G5.wd, fun env => by
    rw [G5.v]
    unfold lastF
    rw [show (q + 1).toNat = q.toNat + 1 by omega]
    rfl⟩
  refine ⟨l5, b5, ws3, ts1 ++ [t5], G5.ar, (q3.le (G2.le.trans (r1.trans (G4.le.trans G5.le)))).snoc hat, by rw [List.length_append, List.length_singleton]; omega, fun k0 => ?_⟩
  unfold Z8 Z8_T
  rw [May_eq17 N (by omega), H, br_not (b := !true) rfl, Caps_eq N (by omega) L (by omega) S (by omega)]
  refine (q7 _).trans ?_
  refine (c2 _).trans ?_
  refine (r5 _).trans ?_
  rw [w64 (x := q + 1) (by omega)]
  refine (c4 _).trans ?_
  refine (c5 _).trans ?_
  rw [app8 (by omega), br_true, br_not (by rfl), sub_all]

theorem Premise_bad (N : Nat) (hN : 1000 ≤ N) (L : List EN) (S : List Int) (p q r : Int) (H : mayB L S p q r = false) {R : Type} (k0 : Int → By → Ws → List Nd → List Int → Option R) : Z8 N L S p q r [] [] [] k0 = k0 11 [] [] [] [] := by
  unfold Z8 Z8_T
  rw [May_eq17 N (by omega), H]
  rfl

/-! ### what the terms say -/
/-- an environment of small numbers -/
structure Small8 (E : List Int) (o : Nat) : Prop where
  by' : ∀ j, 0 ≤ E.getD j 0 ∧ E.getD j 0 ≤ 255
  bit : ∀ j, o ≤ j → E.getD j 0 ≤ 1
def all1 (fs : List FV) (e : Nat → Nat) : Bool := fs.all fun f => decide (f e = 1)
theorem all1_app (a b : List FV) (e : Nat → Nat) : all1 (a ++ b) e = (all1 a e && all1 b e) := by unfold all1; rw [List.all_append]

theorem env_at {E : List Int} {j : Nat} (h : j < E.length) : envOf E E.length j = (E.getD j 0).toNat := by unfold envOf; rw [if_pos h]
theorem size_is {E : List Int} {o : Nat} (h : Small8 E o) {d c : Nat} (hd : d < E.length) (hc : c ≤ 3) : decide (sizeF d c (envOf E E.length) = 1) = decide (E.getD d 0 ≤ (c : Int)) := by
  have := h.by' d
  unfold sizeF
  rw [d15, env_at hd]
  apply decide_eq_decide.2
  split <;> constructor <;> intro _ <;> omega
theorem byte_is {E : List Int} {o : Nat} (h : Small8 E o) {d k : Nat} (hd : d + 1 + k < E.length) (hk : k ≤ 3) : decide (byteF d k (envOf E E.length) = 1) = byB E d k := by
  have h1 := h.by' d
  have h2 := h.by' (d + 1 + k)
  unfold byteF byB
  rw [d5, d15, d14, env_at (show d < E.length by omega), env_at hd, decide_eq_true h2.2, Bool.true_and, ← Bool.decide_or]
  apply decide_eq_decide.2
  rw [or01 (by split <;> simp) (by split <;> simp)]
  constructor
  · rintro (h | h)
    · left; split at h <;> omega
    · right; split at h <;> omega
  · rintro (h | h)
    · left; rw [if_pos (by omega)]
    · right; rw [if_pos (by omega)]
theorem text_is {E : List Int} {o : Nat} (h : Small8 E o) {d : Nat} {c : Int} (hc : 0 ≤ c ∧ c ≤ 3) (hd : d + 1 + c.toNat ≤ E.length) : all1 (ptxtF d c.toNat) (envOf E E.length) = okB E d c := by
  rw [okB_by]
  unfold ptxtF all1
  rw [List.all_cons, size_is h (by omega) (by omega), List.all_map, Nat.sub_zero, Int.toNat_of_nonneg hc.1]
  congr 1
  rw [Bool.eq_iff_iff, List.all_eq_true, List.all_eq_true]
  constructor
  · intro g x hx
    have hx' : x < c.toNat := by have := List.mem_range'_1.1 hx; omega
    have := g x hx
    rwa [Function.comp, byte_is h (by omega) (by omega)] at this
  · intro g x hx
    have hx' : x < c.toNat := by have := List.mem_range'_1.1 hx; omega
    rw [Function.comp, byte_is h (by omega) (by omega)]
    exact g x hx
theorem texts_is {E : List Int} {o : Nat} (h : Small8 E o) : ∀ (C : List Int) (d : Nat), Fit C → d + offN C ≤ E.length → all1 (ptxtsF d C) (envOf E E.length) = okR E d C
  | [], _, _, _ => rfl
  | c :: C, d, hf, hd => by
    have hc := hf c List.mem_cons_self
    rw [offN] at hd
    rw [ptxtsF, all1_app, text_is h hc (by omega), texts_is h C (d + 1 + c.toNat) (fun z hz => hf z (List.mem_cons_of_mem _ hz)) (by omega)]
    rfl
theorem cnt_snoc (x : Bool) : ∀ X : List Bool, cnt (X ++ [x]) = cnt X + (if x = true then 1 else 0)
  | [] => by simp [cnt]
  | b :: r => by rw [List.cons_append, cnt, cnt, cnt_snoc x r]; omega
theorem sum_is {E : List Int} {o : Nat} (h : Small8 E o) : ∀ j : Nat, j ≤ 6 → o + j ≤ E.length → (sumF o j (envOf E E.length) : Int) = cnt (decX E o j)
  | 0, _, _ => rfl
  | j + 1, hj, hE => by
    have ih := sum_is h j (by omega) (by omega)
    have hb := h.by' (o + j)
    have h1 := h.bit (o + j) (by omega)
    have hl := cnt_le (decX E o j)
    have hs : decX E o (j + 1) = decX E o j ++ [decide (E.getD (o + j) 0 = 1)] := by
      unfold decX
      rw [List.range_succ, List.map_append, List.map_cons, List.map_nil]
    have hlen : (decX E o j).length = j := by simp [decX]
    rw [hs, cnt_snoc]
    show ((doN 7 8 (sumF o j (envOf E E.length)) (envOf E E.length (o + j) % 2) : Nat) : Int) = _
    rw [d7, env_at (by omega)]
    have : E.getD (o + j) 0 = 0 ∨ E.getD (o + j) 0 = 1 := by omega
    rcases this with e | e
    · rw [e, if_neg (by simp)]
      simp only [Int.toNat_zero]
      omega
    · rw [e, if_pos (by simp)]
      simp only [show (1 : Int).toNat = 1 from rfl]
      omega
theorem last_is {E : List Int} {o : Nat} (h : Small8 E o) {p q : Int} (hp : 0 ≤ p ∧ p ≤ 6) (hq : 0 ≤ q ∧ q ≤ p) (hE : o + p.toNat ≤ E.length) : decide (lastF o p.toNat q.toNat (envOf E E.length) = 1) = failB (decX E o p.toNat) p q := by
  have hs := sum_is h p.toNat (by omega) hE
  have hl := cnt_le (decX E o p.toNat)
  have hlen : (decX E o p.toNat).length = p.toNat := by simp [decX]
  unfold lastF failB
  rw [d15, decide_eq_true (p := ((decX E o p.toNat).length : Int) = p) (by omega), decide_eq_true (p := p ≤ 6) hp.2, Bool.true_and, Bool.true_and]
  apply decide_eq_decide.2
  split <;> constructor <;> intro _ <;> omega

theorem prem_is {L : List EN} {S : List Int} {p q r : Int} (H : mayB L S p q r = true) {E : List Int} (hW : W16 E) (hE : E.length = offN (capsL L ++ S) + p.toNat) (h : Small8 E (offN (capsL L ++ S))) :
    all1 (premF L S p q) (envOf E E.length) = inpB (capsL L ++ S) p q E := by
  obtain ⟨hf, hL8, hS2, hC6, ha0, ha6⟩ := may_fit H
  have hE0 : ∀ j, 0 ≤ E.getD j 0 := fun j => (hW.at j).1
  unfold premF
  rw [all1_app, texts_is h _ _ hf (by omega)]
  have hl : all1 [lastF (offN (capsL L ++ S)) p.toNat q.toNat] (envOf E E.length) = failB (decX E (offN (capsL L ++ S)) p.toNat) p q := by
    unfold all1
    rw [List.all_cons, List.all_nil, Bool.and_true, last_is h ⟨ha0, ha6⟩ (may_fails H) (by omega)]
  rw [hl]
  unfold inpB envV
  have e : decide (encT (capsL L ++ S) (decT E 0 (capsL L ++ S)) ++ encX (decX E (offN (capsL L ++ S)) p.toNat) = E.take (offN (capsL L ++ S) + p.toNat)) = okR E 0 (capsL L ++ S) := by
    rw [Bool.eq_iff_iff, decide_eq_true_eq]
    rw [← sl_take E _ (by omega), sl_add, app_iff (by rw [enc_len (dec_len _ _ _), sl_len]), Nat.zero_add, enc_dec hE0 _ _ (fun z hz => (hf z hz).1), encX_decX hE0]
    exact ⟨fun g => g.1, fun g => ⟨g, fun j _ => h.bit _ (by omega)⟩⟩
  rw [e, Bool.and_comm]


end Go.Proofs.Ytlfhmecdgfennaa
