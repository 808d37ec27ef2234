/-
 numbers in the place of variables (chapter 3): where a number stands; what is put so far.
-/
import Derived.Test.YtmgoeikbdikmdaaPFixA
set_option linter.unusedSimpArgs false
set_option linter.unusedVariables false
namespace Go.Proofs.Ytmgoeikbdikmdaa
open Go.Gx

/-- where a number stands first -/
def fIx (v : Int) : List Int → Option Nat
 | [] => none
 | x :: r => if v = x then some 0 else (fIx v r).map (· + 1)
theorem fIx_lt {v : Int} : ∀ {l : List Int} {j : Nat}, fIx v l = some j → j < l.length ∧ l.getD j 0 = v
 | x :: r, j, h => by
  unfold fIx at h
  by_cases e : v = x
  ·rw [if_pos e] at h
   cases h
   exact ⟨by simp, e.symm⟩
  ·rw [if_neg e] at h
   cases hr : fIx v r with
   | none => rw [hr] at h; cases h
   | some i =>
    rw [hr] at h
    cases h
    have := fIx_lt hr
    exact ⟨by simp; omega, by simpa using this.2⟩

/-- variables as they were, those that are put by their numbers -/
def putE (ids vals : List Int) (env : Nat → Nat) (i : Nat) : Nat := match fIx (i : Int) ids with
 | some j => (vals.getD j 0).toNat
 | none => env i

theorem rising_len : ∀ {ys : List Int} {lo hi : Int}, ys.Pairwise (· < ·) → (∀ t ∈ ys, lo < t ∧ t ≤ hi) → ys.length ≤ (hi - lo).toNat
 | [], _, _, _, _ => by simp
 | y :: r, lo, hi, h, k => by
  have h1 := k y (by simp)
  have := rising_len (ys := r) (lo := y) (hi := hi) (List.pairwise_cons.1 h).2 (fun t ht => ⟨(List.pairwise_cons.1 h).1 t ht, (k t (List.mem_cons_of_mem _ ht)).2⟩)
  simp only [List.length_cons]
  omega
theorem Cl.few {l : List Nd} {x : Int} {ys : List Int} (C : Cl l x ys) : ys.length ≤ x.toNat := by
 have := rising_len (lo := 0) (hi := x) C.up (fun t ht => ⟨by have := (C.tm t ht).1.1; omega, (C.tm t ht).2⟩)
 omega

/-- a closed set of terms, all of whose variables are put -/
def PutSet (l : List Nd) (ids : List Int) (Z : List Int) : Prop :=
 ∀ t ∈ Z, ((nd l t).a = 0 ∨ (nd l t).a ∈ Z) ∧ ((nd l t).b = 0 ∨ (nd l t).b ∈ Z) ∧ ((nd l t).c = 0 ∨ (nd l t).c ∈ Z) ∧ ((nd l t).op = 2 → (fIx (nd l t).v ids).isSome = true)

/-- what is put so far -/
structure SInv (l0 : List Nd) (x : Int) (ys ids vals : List Int) (i : Nat) (l : List Nd) (b : By) (bys : List Int) : Prop where
 le : Le l0 l
 ar : Ar l b
 few : l.length ≤ l0.length + 3 * i
 blen : bys.length = x.toNat + 1
 zero : bys.getD 0 0 = 0
 tm : ∀ t ∈ ys.take i, Tm l (bys.getD t.toNat 0) ∧ wd l (bys.getD t.toNat 0) = wd l0 t ∧ (∀ env, val env l (bys.getD t.toNat 0) = val (putE ids vals env) l0 t)
 num : ∀ Z, PutSet l0 ids Z → ∀ t ∈ ys.take i, t ∈ Z → (nd l (bys.getD t.toNat 0)).op = 1

theorem val_zero (env : Nat → Nat) (l : List Nd) : val env l 0 = 0 := by
 unfold val look
 rw [if_neg (by omega)]

theorem take_succ' {ys : List Int} {i : Nat} (c : i < ys.length) : ys.take (i + 1) = ys.take i ++ [ys[i]] := by
 rw [List.take_add_one, List.getElem?_eq_getElem c]
 rfl

/-- a part stands ahead -/
theorem Cl.ahead {l : List Nd} {x : Int} {ys : List Int} (C : Cl l x ys) {i : Nat} (c : i < ys.length) {p : Int} (hp : p ∈ ys) (hlt : p < ys[i]) : p ∈ ys.take i := by
 obtain ⟨j, hj, rfl⟩ := List.getElem_of_mem hp
 have : j < i := by
  rcases Nat.lt_trichotomy j i with q | q | q
  ·exact q
  ·subst q; omega
  ·have := List.pairwise_iff_getElem.1 C.up i j c hj q
   omega
 exact List.mem_take_iff_getElem.2 ⟨j, by omega, rfl⟩

/-- one more is put -/
theorem SInv.step {l0 : List Nd} {b0 : By} (A0 : Ar l0 b0) {x : Int} {ys ids vals : List Int} (C : Cl l0 x ys) {i : Nat} {l : List Nd} {b : By} {bys : List Int} (I : SInv l0 x ys ids vals i l b bys) (c : i < ys.length)
  {l' : List Nd} {b' : By} {t : Int} (G : Got l (wd l0 ys[i]) (fun env => val (putE ids vals env) l0 ys[i]) 3 t l' b')
  (hn : ∀ Z, PutSet l0 ids Z → ys[i] ∈ Z → (∀ p ∈ ys.take i, p ∈ Z → (nd l (bys.getD p.toNat 0)).op = 1) → (nd l' t).op = 1) :
  SInv l0 x ys ids vals (i + 1) l' b' (bys.set ys[i].toNat t) := by
 obtain ⟨tmy, ylex⟩ := C.tm _ (List.getElem_mem c)
 have hy1 := tmy.1
 have hb := I.blen
 have old : ∀ q ∈ ys.take i, (bys.set ys[i].toNat t).getD q.toNat 0 = bys.getD q.toNat 0 := fun q hq => by
  have hqy : q < ys[i] := by
   obtain ⟨j, hj, rfl⟩ := List.mem_take_iff_getElem.1 hq
   exact List.pairwise_iff_getElem.1 C.up j i (by omega) c (by omega)
  have hq0 := (C.tm q (List.mem_of_mem_take hq)).1.1
  rw [getD_set, if_neg (by omega)]
 have new : (bys.set ys[i].toNat t).getD ys[i].toNat 0 = t := by rw [getD_set, if_pos ⟨rfl, by omega⟩]
 refine ⟨I.le.trans G.le, G.ar, by have := G.few; have := I.few; omega, by rw [List.length_set]; exact hb, ?_, fun q hq => ?_, fun Z hZ q hq hz => ?_⟩
 ·rw [getD_set, if_neg (by omega)]
  exact I.zero
 ·rw [take_succ' c] at hq
  rcases List.mem_append.1 hq with hq | hq
  ·obtain ⟨h1, h2, h3⟩ := I.tm q hq
   rw [old q hq]
   exact ⟨h1.le G.le, (wd_le h1 G.le).trans h2, fun env => (val_le h1.2 G.le).trans (h3 env)⟩
  ·rw [List.mem_singleton.1 hq, new]
   exact ⟨G.tm, G.wd, G.v⟩
 ·rw [take_succ' c] at hq
  rcases List.mem_append.1 hq with hq | hq
  ·obtain ⟨h1, _⟩ := I.tm q hq
   rw [old q hq, nd_le h1 G.le]
   exact I.num Z hZ q hq hz
  ·have e := List.mem_singleton.1 hq
   rw [e] at hz ⊢
   rw [new]
   exact hn Z hZ hz (fun p hp hpz => I.num Z hZ p hp hpz)

theorem SInv.start {l0 : List Nd} {b0 : By} (A0 : Ar l0 b0) {x : Int} (ys ids vals : List Int) : SInv l0 x ys ids vals 0 l0 b0 (List.replicate (x.toNat + 1) 0) where
 le := Le.refl l0
 ar := A0
 few := by omega
 blen := by simp
 zero := by rw [List.getD_eq_getElem?_getD, List.getElem?_replicate]; split <;> rfl
 tm := fun t ht => by simp at ht
 num := fun Z _ t ht => by simp at ht

/-- a node that is no variable to be put -/
theorem SInv.again (N : Nat) (hN : 70000 ≤ N ∧ N ≤ 2 ^ 62) {l0 : List Nd} {b0 : By} (A0 : Ar l0 b0) (ws : Ws) {x : Int} {ys ids vals : List Int} (C : Cl l0 x ys) {i : Nat} {l : List Nd} {b : By} {bys : List Int} (I : SInv l0 x ys ids vals i l b bys) (c : i < ys.length)
  (hv : (nd l0 ys[i]).op = 2 → fIx (nd l0 ys[i]).v ids = none) (hlen : l.length + 3 ≤ 65536) :
  ∃ t l' b', SInv l0 x ys ids vals (i + 1) l' b' (bys.set ys[i].toNat t) ∧ l'.length ≤ l.length + 3 ∧
   ∀ {R : Type} (k : Int → Int → By → Ws → List Nd → Option R), Z5 N ys[i] (nd l0 ys[i]).op (nd l0 ys[i]).w (nd l0 ys[i]).v (nd l0 ys[i]).a (nd l0 ys[i]).b (nd l0 ys[i]).c (bys.getD (nd l0 ys[i]).a.toNat 0) (bys.getD (nd l0 ys[i]).b.toNat 0) (bys.getD (nd l0 ys[i]).c.toNat 0) l b ws k = k t 0 b' ws l' := by
 have hm : ys[i] ∈ ys := List.getElem_mem c
 obtain ⟨tmy, ylex⟩ := C.tm _ hm
 obtain ⟨K, ka, kb, kc⟩ := A0.nodeOk tmy
 have en := nd_le tmy I.le
 have part : ∀ p : Int, (p = 0 ∨ p ∈ ys) → p < ys[i] → 0 ≤ p → Part l p (bys.getD p.toNat 0) ∧ ∀ env, val env l (bys.getD p.toNat 0) = val (putE ids vals env) l0 p := fun p hp hlt h0 => by
  rcases hp with rfl | hp
  ·refine ⟨fun h => absurd h.1 (by omega), fun env => ?_⟩
   rw [show (0 : Int).toNat = 0 from rfl, I.zero, val_zero, val_zero]
  ·obtain ⟨h1, h2, h3⟩ := I.tm p (C.ahead c hp hlt)
   refine ⟨fun _ => ⟨h1, ?_⟩, h3⟩
   rw [h2, wd_le (C.tm p hp).1 I.le]
 obtain ⟨pa, va⟩ := part _ (C.pa _ hm) ka K.pa.1
 obtain ⟨pb, vb⟩ := part _ (C.pb _ hm) kb K.pb.1
 obtain ⟨pc, vc⟩ := part _ (C.pc _ hm) kc K.pc.1
 obtain ⟨t, l', b', G, hn, hc⟩ := again_eq N hN I.ar ws (y := ys[i]) (p := bys.getD (nd l0 ys[i]).a.toNat 0) (q := bys.getD (nd l0 ys[i]).b.toNat 0) (r := bys.getD (nd l0 ys[i]).c.toNat 0) (tmy.le I.le) (by rw [en]; exact pa) (by rw [en]; exact pb) (by rw [en]; exact pc) hlen
 rw [en] at hn hc
 have G' : Got l (wd l0 ys[i]) (fun env => val (putE ids vals env) l0 ys[i]) 3 t l' b' := by
  have hw := wd_le tmy I.le
  rw [hw] at G
  refine G.more (fun env => ?_) (Nat.le_refl _)
  rw [en, va, vb, vc, A0.val_eq (putE ids vals env) tmy]
  have ea : wd l (nd l0 ys[i]).a = wd l0 (nd l0 ys[i]).a := by
   rcases C.pa _ hm with h | h
   ·rw [h]
    have : ∀ m : List Nd, wd m 0 = 0 := fun m => by
     unfold wd nd
     rw [if_neg (by unfold Tm; omega)]
     rfl
    rw [this, this]
   ·exact wd_le (C.tm _ h).1 I.le
  rw [ea]
  unfold nv
  by_cases h2 : (nd l0 ys[i]).op = 2
  ·have hvr := K.var h2
   have e : putE ids vals env (nd l0 ys[i]).v.toNat = env (nd l0 ys[i]).v.toNat := by
    unfold putE
    rw [show (((nd l0 ys[i]).v.toNat : Nat) : Int) = (nd l0 ys[i]).v by omega, hv h2]
   rw [e]
  ·rw [if_neg h2, if_neg h2]
 refine ⟨t, l', b', I.step A0 C c G' (fun Z hZ hz ih => hn (fun h2 => ?_) (fun a p' h ht => ?_)), G.few, hc⟩
 ·have := (hZ _ hz).2.2.2 h2
  rw [hv h2] at this
  cases this
 ·have tm1 := ht.1
  rcases h with ⟨rfl, rfl⟩ | ⟨rfl, rfl⟩ | ⟨rfl, rfl⟩
  ·refine ih _ (C.ahead c ((C.pa _ hm).resolve_left (by omega)) ka) ((hZ _ hz).1.resolve_left (by omega))
  ·refine ih _ (C.ahead c ((C.pb _ hm).resolve_left (by omega)) kb) ((hZ _ hz).2.1.resolve_left (by omega))
  ·refine ih _ (C.ahead c ((C.pc _ hm).resolve_left (by omega)) kc) ((hZ _ hz).2.2.1.resolve_left (by omega))

/-- a variable that is put -/
theorem SInv.var (N : Nat) {l0 : List Nd} {b0 : By} (A0 : Ar l0 b0) (ws : Ws) {x : Int} {ys ids vals : List Int} (hU : ∀ j, 0 ≤ vals.getD j 0 ∧ vals.getD j 0 < 65536) (C : Cl l0 x ys) {i : Nat} {l : List Nd} {b : By} {bys : List Int} (I : SInv l0 x ys ids vals i l b bys) (c : i < ys.length)
  (h2 : (nd l0 ys[i]).op = 2) {j : Nat} (hv : fIx (nd l0 ys[i]).v ids = some j) (hlen : l.length + 3 ≤ 65536) :
  ∃ t l' b', SInv l0 x ys ids vals (i + 1) l' b' (bys.set ys[i].toNat t) ∧ l'.length ≤ l.length + 3 ∧
   (∀ {R : Type} (p q r : Int) (k : Int → Int → By → Ws → List Nd → Option R), Z5 N ys[i] (nd l0 ys[i]).op (nd l0 ys[i]).w (nd l0 ys[i]).v (nd l0 ys[i]).a (nd l0 ys[i]).b (nd l0 ys[i]).c p q r l b ws k = k ys[i] 0 b ws l) ∧
   ∀ {R : Type} (k : Int → Int → By → Ws → List Nd → Option R), Z13 N (nd l0 ys[i]).w (vals.getD j 0) l b ws k = k t 0 b' ws l' := by
 have hm : ys[i] ∈ ys := List.getElem_mem c
 obtain ⟨tmy, ylex⟩ := C.tm _ hm
 obtain ⟨K, _⟩ := A0.nodeOk tmy
 obtain ⟨t, l', b', G, hn, hc⟩ := Const_eq N I.ar ws (w := (nd l0 ys[i]).w) (v := vals.getD j 0) K.kw (hU j) (by omega)
 refine ⟨t, l', b', I.step A0 C c (G.more (fun env => ?_) (by omega)) (fun _ _ _ _ => by rw [hn]), by have := G.few; omega, fun p q r k => ?_, hc⟩
 ·rw [A0.val_eq (putE ids vals env) tmy]
  unfold nv
  rw [if_neg (by omega), if_pos h2]
  have hvr := K.var h2
  unfold putE
  rw [show (((nd l0 ys[i]).v.toNat : Nat) : Int) = (nd l0 ys[i]).v by omega, hv]
 ·unfold Z5 Z5_T
  rw [br_dec, if_neg (by omega), br_dec, if_pos h2]

end Go.Proofs.Ytmgoeikbdikmdaa
