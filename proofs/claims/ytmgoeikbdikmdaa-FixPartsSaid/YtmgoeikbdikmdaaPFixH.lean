/-
 numbers in the place of variables (chapter 3): what was put, beside what was put ahead.
-/
import Derived.Test.YtmgoeikbdikmdaaPFixG
set_option linter.unusedSimpArgs false
set_option linter.unusedVariables false
namespace Go.Proofs.Ytmgoeikbdikmdaa
open Go.Gx

structure GInv (src : List Int) (l0 : List Nd) (x : Int) (ys ids vals : List Int) (E0 : List Put) (i : Nat) (l : List Nd) (b : By) (bys : List Int) (E : List Put) : Prop where
 s : SInv l0 x ys ids vals i l b bys
 g : St src ids vals l E
 cnt : l.length + 3 * E0.length ≤ l0.length + 3 * E.length
 pre : ∃ F, E = E0 ++ F
 at' : ∀ t ∈ ys.take i, HasE l E t ∧ bys.getD t.toNat 0 = imE E t

theorem Clo.min {l : List Nd} {b : By} (A : Ar l b) {C : List Int} (k : Clo l C) {x : Int} {ys : List Int} (Q : Cl l x ys) (hx : InC l C x) : ∀ t ∈ ys, InC l C t := by
 refine Q.min (InC l C) (.inl rfl) hx (fun t ht h => ?_)
 by_cases h1 : (nd l t).op = 1
 ·obtain ⟨a, b, c⟩ := (A.nodeOk ht).1.var0 (by omega)
  exact ⟨.inl a, .inl b, .inl c⟩
 ·exact h.parts k h1

theorem GInv.part {src : List Int} {l0 : List Nd} {x : Int} {ys ids vals : List Int} {E0 : List Put} {i : Nat} {l : List Nd} {b : By} {bys : List Int} {E : List Put} (I : GInv src l0 x ys ids vals E0 i l b bys E) (C : Cl l0 x ys) (c : i < ys.length)
  {p : Int} (hp : p = 0 ∨ p ∈ ys) (hlt : p < ys[i]) : HasE l E p ∧ bys.getD p.toNat 0 = imE E p := by
 rcases hp with rfl | hp
 ·refine ⟨.inl rfl, ?_⟩
  rw [show (0 : Int).toNat = 0 from rfl, I.s.zero, imE_out]
  rintro ⟨e, he, h0⟩
  have := (I.g.tm e he).1.1
  omega
 ·exact I.at' p (C.ahead c hp hlt)

theorem GInv.next {src : List Int} {l0 : List Nd} {b0 : By} (A0 : Ar l0 b0) {x : Int} {ys ids vals : List Int} {E0 : List Put} {i : Nat} {l : List Nd} {b : By} {bys : List Int} {E : List Put} (I : GInv src l0 x ys ids vals E0 i l b bys E) (C : Cl l0 x ys) (hsrc : ∀ t ∈ ys, InC l0 src t) (c : i < ys.length)
  {t : Int} {l' : List Nd} {b' : By} (S' : SInv l0 x ys ids vals (i + 1) l' b' (bys.set ys[i].toNat t)) (few : l'.length ≤ l.length + 3)
  (e : stepF ids vals (nd l0 ys[i]) ys[i] (bys.getD (nd l0 ys[i]).a.toNat 0) (bys.getD (nd l0 ys[i]).b.toNat 0) (bys.getD (nd l0 ys[i]).c.toNat 0) l = (t, l')) :
  ∃ E', GInv src l0 x ys ids vals E0 (i + 1) l' b' (bys.set ys[i].toNat t) E' := by
 have hm : ys[i] ∈ ys := List.getElem_mem c
 obtain ⟨tmy, ylex⟩ := C.tm _ hm
 obtain ⟨K, ka, kb, kc⟩ := A0.nodeOk tmy
 have tml : Tm l ys[i] := tmy.le I.s.le
 have en := nd_le tmy I.s.le
 obtain ⟨pa, va⟩ := I.part C c (C.pa _ hm) ka
 obtain ⟨pb, vb⟩ := I.part C c (C.pb _ hm) kb
 obtain ⟨pc, vc⟩ := I.part C c (C.pc _ hm) kc
 rw [va, vb, vc] at e
 have hb := I.s.blen
 have hy1 := tmy.1
 have old : ∀ q ∈ ys.take i, (bys.set ys[i].toNat t).getD q.toNat 0 = bys.getD q.toNat 0 ∧ ys[i] ≠ q := fun q hq => by
  have hqy : q < ys[i] := by
   obtain ⟨j, hj, rfl⟩ := List.mem_take_iff_getElem.1 hq
   exact List.pairwise_iff_getElem.1 C.up j i (by omega) c (by omega)
  have hq0 := (C.tm q (List.mem_of_mem_take hq)).1.1
  rw [getD_set, if_neg (by omega)]
  exact ⟨rfl, by omega⟩
 have new : (bys.set ys[i].toNat t).getD ys[i].toNat 0 = t := by rw [getD_set, if_pos ⟨rfl, by omega⟩]
 -- nothing new
 have stay : l' = l → HasE l E ys[i] → t = imE E ys[i] → ∃ E', GInv src l0 x ys ids vals E0 (i + 1) l' b' (bys.set ys[i].toNat t) E' := fun h1 h2 h3 => by
  subst h1
  refine ⟨E, S', I.g, I.cnt, I.pre, fun q hq => ?_⟩
  rw [take_succ' c] at hq
  rcases List.mem_append.1 hq with hq | hq
  ·rw [(old q hq).1]
   exact I.at' q hq
  ·rw [List.mem_singleton.1 hq, new]
   exact ⟨h2, h3⟩
 by_cases h1 : (nd l0 ys[i]).op = 1
 ·have h1' : (nd l ys[i]).op = 1 := by rw [en]; exact h1
  have : (ys[i], l) = (t, l') := by
   rw [← e]
   unfold stepF againF
   rw [if_neg (by omega), if_pos h1]
  cases this
  refine stay rfl (.inr (.inl ⟨tml, h1'⟩)) ?_
  rw [imE_out]
  rintro ⟨q, hq, e0⟩
  exact (I.g.tm q hq).2 (by rw [e0]; exact h1')
 by_cases hE : isE E ys[i]
 ·obtain ⟨q, hq, q1, q2⟩ := imE_in hE
  have := I.g.rep q hq l (Le.refl l)
  rw [q1, en, e] at this
  cases this
  exact stay rfl (.inr (.inr hE)) q2.symm
 ·have hs : ys[i] ∈ src := by
   rcases hsrc _ hm with h | h | h
   ·omega
   ·exact absurd h.2 h1
   ·exact h
  rw [← en] at pa pb pc
  have v0 : (nd l ys[i]).op = 2 → (nd l ys[i]).a = 0 ∧ (nd l ys[i]).b = 0 ∧ (nd l ys[i]).c = 0 := fun h2 => by
   rw [en] at h2 ⊢
   exact K.var0 (by omega)
  obtain ⟨cc, hle, S2⟩ := I.g.add tml (by rw [en]; exact h1) hs hE v0 pa pb pc (r := (t, l')) (by rw [en]; exact e)
  obtain ⟨F, hF⟩ := I.pre
  refine ⟨E ++ [(ys[i], t, cc)], S', S2, ?_, ⟨F ++ [(ys[i], t, cc)], by rw [hF]; simp⟩, fun q hq => ?_⟩
  ·have := I.cnt
   rw [List.length_append]
   simp only [List.length_cons, List.length_nil]
   omega
  ·rw [take_succ' c] at hq
   rcases List.mem_append.1 hq with hq | hq
   ·rw [(old q hq).1, imE_app (.inl (old q hq).2)]
    obtain ⟨r1, r2⟩ := I.at' q hq
    exact ⟨(r1.le hle).more _, r2⟩
   ·rw [List.mem_singleton.1 hq, new]
    refine ⟨.inr (.inr ⟨_, List.mem_append_right _ (List.mem_singleton.2 rfl), rfl⟩), ?_⟩
    exact (imE_new (x := (ys[i], t, cc)) hE).symm

theorem SInv.part3 {l0 : List Nd} {b0 : By} (A0 : Ar l0 b0) {x : Int} {ys ids vals : List Int} (C : Cl l0 x ys) {i : Nat} {l : List Nd} {b : By} {bys : List Int} (I : SInv l0 x ys ids vals i l b bys) (c : i < ys.length) :
  Part l (nd l0 ys[i]).a (bys.getD (nd l0 ys[i]).a.toNat 0) ∧ Part l (nd l0 ys[i]).b (bys.getD (nd l0 ys[i]).b.toNat 0) ∧ Part l (nd l0 ys[i]).c (bys.getD (nd l0 ys[i]).c.toNat 0) := by
 have hm : ys[i] ∈ ys := List.getElem_mem c
 obtain ⟨tmy, ylex⟩ := C.tm _ hm
 obtain ⟨K, ka, kb, kc⟩ := A0.nodeOk tmy
 have part : ∀ p : Int, (p = 0 ∨ p ∈ ys) → p < ys[i] → Part l p (bys.getD p.toNat 0) := fun p hp hlt => by
  rcases hp with rfl | hp
  ·exact fun h => absurd h.1 (by omega)
  ·obtain ⟨h1, h2, h3⟩ := I.tm p (C.ahead c hp hlt)
   refine fun _ => ⟨h1, ?_⟩
   rw [h2, wd_le (C.tm p hp).1 I.le]
 exact ⟨part _ (C.pa _ hm) ka, part _ (C.pb _ hm) kb, part _ (C.pc _ hm) kc⟩

/-- a node that is no variable to be put -/
theorem GInv.again (N : Nat) (hN : 70000 ≤ N ∧ N ≤ 2 ^ 62) {src : List Int} {l0 : List Nd} {b0 : By} (A0 : Ar l0 b0) (ws : Ws) {x : Int} {ys ids vals : List Int} {E0 : List Put} {i : Nat} {l : List Nd} {b : By} {bys : List Int} {E : List Put} (I : GInv src l0 x ys ids vals E0 i l b bys E) (C : Cl l0 x ys) (hsrc : ∀ t ∈ ys, InC l0 src t) (c : i < ys.length)
  (hv : (nd l0 ys[i]).op = 2 → fIx (nd l0 ys[i]).v ids = none) (hlen : l.length + 3 ≤ 65536) :
  ∃ t l' b' E', GInv src l0 x ys ids vals E0 (i + 1) l' b' (bys.set ys[i].toNat t) E' ∧
   ∀ {R : Type} (k : Int → Int → By → Ws → List Nd → Option R), Z5 N ys[i] (nd l0 ys[i]).op (nd l0 ys[i]).w (nd l0 ys[i]).v (nd l0 ys[i]).a (nd l0 ys[i]).b (nd l0 ys[i]).c (bys.getD (nd l0 ys[i]).a.toNat 0) (bys.getD (nd l0 ys[i]).b.toNat 0) (bys.getD (nd l0 ys[i]).c.toNat 0) l b ws k = k t 0 b' ws l' := by
 have hm : ys[i] ∈ ys := List.getElem_mem c
 obtain ⟨tmy, ylex⟩ := C.tm _ hm
 have en := nd_le tmy I.s.le
 obtain ⟨t, l', b', S', few, hc⟩ := I.s.again N hN A0 ws C c hv hlen
 obtain ⟨pa, pb, pc⟩ := I.s.part3 A0 C c
 have X0 := again_ex N hN I.s.ar ws (y := ys[i]) (p := bys.getD (nd l0 ys[i]).a.toNat 0) (q := bys.getD (nd l0 ys[i]).b.toNat 0) (r := bys.getD (nd l0 ys[i]).c.toNat 0) (tmy.le I.s.le) (by rw [en]; exact pa) (by rw [en]; exact pb) (by rw [en]; exact pc) hlen
 rw [en] at X0
 obtain ⟨e1, e2⟩ := X0.same (fun k => hc k)
 obtain ⟨E', G'⟩ := I.next A0 C hsrc c S' few (by
  refine Prod.ext (Eq.trans ?_ e1) (Eq.trans ?_ e2) <;> unfold stepF
  all_goals
   by_cases h2 : (nd l0 ys[i]).op = 2
   ·rw [if_pos h2, hv h2]
    unfold againF
    rw [if_neg (by omega), if_pos h2]
   ·rw [if_neg h2])
 exact ⟨t, l', b', E', G', hc⟩

/-- a variable that is put -/
theorem GInv.var (N : Nat) {src : List Int} {l0 : List Nd} {b0 : By} (A0 : Ar l0 b0) (ws : Ws) {x : Int} {ys ids vals : List Int} (hU : ∀ j, 0 ≤ vals.getD j 0 ∧ vals.getD j 0 < 65536) {E0 : List Put} {i : Nat} {l : List Nd} {b : By} {bys : List Int} {E : List Put} (I : GInv src l0 x ys ids vals E0 i l b bys E) (C : Cl l0 x ys) (hsrc : ∀ t ∈ ys, InC l0 src t) (c : i < ys.length)
  (h2 : (nd l0 ys[i]).op = 2) {j : Nat} (hv : fIx (nd l0 ys[i]).v ids = some j) (hlen : l.length + 3 ≤ 65536) :
  ∃ t l' b' E', GInv src l0 x ys ids vals E0 (i + 1) l' b' (bys.set ys[i].toNat t) E' ∧
   (∀ {R : Type} (p q r : Int) (k : Int → Int → By → Ws → List Nd → Option R), Z5 N ys[i] (nd l0 ys[i]).op (nd l0 ys[i]).w (nd l0 ys[i]).v (nd l0 ys[i]).a (nd l0 ys[i]).b (nd l0 ys[i]).c p q r l b ws k = k ys[i] 0 b ws l) ∧
   ∀ {R : Type} (k : Int → Int → By → Ws → List Nd → Option R), Z13 N (nd l0 ys[i]).w (vals.getD j 0) l b ws k = k t 0 b' ws l' := by
 have hm : ys[i] ∈ ys := List.getElem_mem c
 obtain ⟨tmy, ylex⟩ := C.tm _ hm
 obtain ⟨K, _⟩ := A0.nodeOk tmy
 obtain ⟨t, l', b', S', few, ha, hc⟩ := I.s.var N A0 ws hU C c h2 hv hlen
 obtain ⟨e1, e2⟩ := (Const_ex N I.s.ar ws (w := (nd l0 ys[i]).w) (v := vals.getD j 0) K.kw (hU j) (by omega)).same (fun k => hc k)
 obtain ⟨E', G'⟩ := I.next A0 C hsrc c S' few (by
  unfold stepF
  rw [if_pos h2, hv]
  exact Prod.ext e1 e2)
 exact ⟨t, l', b', E', G', ha, hc⟩

theorem GInv.start {src : List Int} {l0 : List Nd} {b0 : By} (A0 : Ar l0 b0) {x : Int} (ys ids vals : List Int) {E : List Put} (S : St src ids vals l0 E) : GInv src l0 x ys ids vals E 0 l0 b0 (List.replicate (x.toNat + 1) 0) E :=
 ⟨SInv.start A0 ys ids vals, S, Nat.le_refl _, ⟨[], by simp⟩, fun t ht => by simp at ht⟩

/-- there is room for one more -/
theorem GInv.room {src : List Int} {l0 : List Nd} {x : Int} {ys ids vals : List Int} {E0 : List Put} {i : Nat} {l : List Nd} {b : By} {bys : List Int} {E : List Put} (I : GInv src l0 x ys ids vals E0 i l b bys E) (room : l0.length + 3 * src.length + 3 ≤ 65536 + 3 * E0.length) : l.length + 3 ≤ 65536 := by
 have := I.cnt
 have := I.g.few
 omega

/-- what was put, all in all -/
structure SomeR (src ids vals : List Int) (l : List Nd) (x : Int) (E : List Put) (t : Int) (l' : List Nd) (b' : By) (E' : List Put) : Prop where
 le : Le l l'
 ar : Ar l' b'
 tm : Tm l' t
 wd : wd l' t = wd l x
 v : ∀ env, val env l' t = val (putE ids vals env) l x
 st : St src ids vals l' E'
 pre : ∃ F, E' = E ++ F
 inn : InC l' (cs E') t
 cnt : l'.length + 3 * E.length ≤ l.length + 3 * E'.length

theorem GInv.done {src : List Int} {l0 : List Nd} {x : Int} {ys ids vals : List Int} {E0 : List Put} {l : List Nd} {b : By} {bys : List Int} {E : List Put} (I : GInv src l0 x ys ids vals E0 ys.length l b bys E) (C : Cl l0 x ys) : SomeR src ids vals l0 x E0 (bys.getD x.toNat 0) l b E := by
 have hmem : x ∈ ys.take ys.length := by rw [List.take_length]; exact C.has
 obtain ⟨t1, t2, t3⟩ := I.s.tm x hmem
 obtain ⟨h1, h2⟩ := I.at' x hmem
 refine ⟨I.s.le, I.s.ar, t1, t2, t3, I.g, I.pre, ?_, I.cnt⟩
 rw [h2]
 exact I.g.part h1

end Go.Proofs.Ytmgoeikbdikmdaa
