/-
 numbers in the place of variables (chapter 3): what was put once is there for good; how many nodes come at most.
-/
import Derived.Test.YtmgoeikbdikmdaaPFixF
import Derived.Test.YtmgoeikbdikmdaaPFixB
set_option linter.unusedSimpArgs false
set_option linter.unusedVariables false
namespace Go.Proofs.Ytmgoeikbdikmdaa
open Go.Gx

theorem again_ex (N : Nat) (hN : 70000 ≤ N ∧ N ≤ 2 ^ 62) {l : List Nd} {b : By} (A : Ar l b) (ws : Ws) {y p q r : Int} (hy : Tm l y) (hp : Part l (nd l y).a p) (hq : Part l (nd l y).b q) (hr : Part l (nd l y).c r) (hlen : l.length + 3 ≤ 65536) :
  X ws (fun {R} k => Z5 N y (nd l y).op (nd l y).w (nd l y).v (nd l y).a (nd l y).b (nd l y).c p q r l b ws k) (againF (nd l y) y p q r l) := by
 have hN12 : 12 ≤ N ∧ N ≤ 2 ^ 62 := by omega
 obtain ⟨K, _⟩ := A.nodeOk hy
 unfold againF Z5 Z5_T
 by_cases h1 : (nd l y).op = 1
 ·rw [if_pos h1]
  refine ⟨b, fun {R} k => ?_⟩
  dsimp only
  rw [br_dec, if_pos h1]
 rw [if_neg h1]
 by_cases h2 : (nd l y).op = 2
 ·rw [if_pos h2]
  refine ⟨b, fun {R} k => ?_⟩
  dsimp only
  rw [br_dec, if_neg h1, br_dec, if_pos h2]
 rw [if_neg h2]
 by_cases h3 : (nd l y).op = 3
 ·rw [if_pos h3]
  obtain ⟨a1, a2⟩ := K.not h3
  obtain ⟨p1, p2⟩ := hp a1
  obtain ⟨b', hc⟩ := Not_ex N A ws p1 (by omega) (by omega)
  refine ⟨b', fun {R} k => ?_⟩
  dsimp only
  rw [br_dec, if_neg h1, br_dec, if_neg h2, br_dec, if_pos h3]
  exact hc k
 rw [if_neg h3]
 by_cases h16 : (nd l y).op = 16
 ·rw [if_pos h16]
  obtain ⟨a1, a2, a3, a4, a5, a6⟩ := K.ite h16
  obtain ⟨p1, p2⟩ := hp a1
  obtain ⟨q1, q2⟩ := hq a2
  obtain ⟨r1, r2⟩ := hr a3
  have hqr : wd l q = wd l r := by rw [q2, r2, a5, a6]
  obtain ⟨b', hc⟩ := Ite_ex N hN12 A ws p1 q1 r1 (p2.trans a4) hqr (by omega)
  refine ⟨b', fun {R} k => ?_⟩
  dsimp only
  rw [br_dec, if_neg h1, br_dec, if_neg h2, br_dec, if_neg h3, br_dec, if_pos h16]
  exact hc k
 rw [if_neg h16]
 by_cases h17 : (nd l y).op = 17
 ·rw [if_pos h17]
  obtain ⟨a1, a2⟩ := K.ext h17
  obtain ⟨p1, p2⟩ := hp a1
  obtain ⟨b', hc⟩ := Ext_ex N hN12 A ws (w := (nd l y).w) K.kw p1 (by rw [p2]; omega) (by omega)
  refine ⟨b', fun {R} k => ?_⟩
  dsimp only
  rw [br_dec, if_neg h1, br_dec, if_neg h2, br_dec, if_neg h3, br_dec, if_neg h16, br_dec, if_pos h17]
  exact hc k
 rw [if_neg h17]
 by_cases h18 : (nd l y).op = 18
 ·rw [if_pos h18]
  obtain ⟨a1, a2⟩ := K.cut h18
  obtain ⟨p1, p2⟩ := hp a1
  obtain ⟨b', hc⟩ := Cut_ex N hN A ws (w := (nd l y).w) K.kw p1 (by rw [p2]; omega) (by omega)
  refine ⟨b', fun {R} k => ?_⟩
  dsimp only
  rw [br_dec, if_neg h1, br_dec, if_neg h2, br_dec, if_neg h3, br_dec, if_neg h16, br_dec, if_neg h17, br_dec, if_pos h18]
  exact hc k
 rw [if_neg h18]
 have ho : 4 ≤ (nd l y).op ∧ (nd l y).op ≤ 15 := by have := K.ops; omega
 obtain ⟨a1, a2, a3, a4⟩ := K.two ho.1 ho.2
 obtain ⟨p1, p2⟩ := hp a1
 obtain ⟨q1, q2⟩ := hq a2
 have hpq : wd l p = wd l q := by rw [p2, q2, a3]
 obtain ⟨b', hc⟩ := Two_ex N hN12 A ws p1 q1 hpq ho (by omega)
 refine ⟨b', fun {R} k => ?_⟩
 dsimp only
 rw [br_dec, if_neg h1, br_dec, if_neg h2, br_dec, if_neg h3, br_dec, if_neg h16, br_dec, if_neg h17, br_dec, if_neg h18]
 exact hc k

/-- what was put: a node, what came of it, and the node that stands new for it -/
abbrev Put := Int × (Int × List Int)
def imE : List Put → Int → Int
 | [], p => p
 | e :: r, p => if e.1 = p then e.2.1 else imE r p
def cs (E : List Put) : List Int := E.flatMap (·.2.2)
def isE (E : List Put) (p : Int) : Prop := ∃ e ∈ E, e.1 = p
def HasE (l : List Nd) (E : List Put) (p : Int) : Prop := p = 0 ∨ (Tm l p ∧ (nd l p).op = 1) ∨ isE E p
/-- a node with what stands for its parts -/
def stepF (ids vals : List Int) (n : Nd) (y p q r : Int) : List Nd → Int × List Nd :=
 if n.op = 2 then (match fIx n.v ids with | some j => constF n.w (vals.getD j 0) | none => fun l => (y, l)) else againF n y p q r

theorem imE_in : ∀ {E : List Put} {p : Int}, isE E p → ∃ e ∈ E, e.1 = p ∧ imE E p = e.2.1
 | [], p, h => by obtain ⟨e, h, _⟩ := h; cases h
 | x :: r, p, h => by
  unfold imE
  by_cases c : x.1 = p
  ·exact ⟨x, by simp, c, by rw [if_pos c]⟩
  ·obtain ⟨e, he, hp⟩ := h
   rcases List.mem_cons.1 he with rfl | he
   ·exact absurd hp c
   ·obtain ⟨e', h1, h2, h3⟩ := imE_in ⟨e, he, hp⟩
    exact ⟨e', List.mem_cons_of_mem _ h1, h2, by rw [if_neg c]; exact h3⟩
theorem imE_out : ∀ {E : List Put} {p : Int}, ¬ isE E p → imE E p = p
 | [], p, _ => rfl
 | x :: r, p, h => by
  unfold imE
  rw [if_neg (fun c => h ⟨x, by simp, c⟩)]
  exact imE_out (fun ⟨e, he, hp⟩ => h ⟨e, List.mem_cons_of_mem _ he, hp⟩)
theorem imE_app {E : List Put} {x : Put} {p : Int} (h : x.1 ≠ p ∨ isE E p) : imE (E ++ [x]) p = imE E p := by
 induction E with
 | nil =>
  rcases h with h | ⟨e, h, _⟩
  ·show (if x.1 = p then _ else p) = p
   rw [if_neg h]
  ·cases h
 | cons y r ih =>
  show (if y.1 = p then _ else imE (r ++ [x]) p) = (if y.1 = p then _ else imE r p)
  by_cases c : y.1 = p
  ·rw [if_pos c, if_pos c]
  ·rw [if_neg c, if_neg c]
   refine ih (h.imp id fun ⟨e, he, hp⟩ => ?_)
   rcases List.mem_cons.1 he with rfl | he
   ·exact absurd hp c
   ·exact ⟨e, he, hp⟩
theorem imE_new {E : List Put} {x : Put} (h : ¬ isE E x.1) : imE (E ++ [x]) x.1 = x.2.1 := by
 induction E with
 | nil =>
  show (if x.1 = x.1 then _ else _) = _
  rw [if_pos rfl]
 | cons y r ih =>
  show (if y.1 = x.1 then _ else imE (r ++ [x]) x.1) = _
  rw [if_neg (fun c => h ⟨y, by simp, c⟩)]
  exact ih (fun ⟨e, he, hp⟩ => h ⟨e, List.mem_cons_of_mem _ he, hp⟩)
theorem cs_app (E : List Put) (x : Put) : cs (E ++ [x]) = cs E ++ x.2.2 := by simp [cs]

/-- what was put so far: of some nodes, closed, for good -/
structure St (src : List Int) (ids vals : List Int) (l : List Nd) (E : List Put) : Prop where
 nodup : (E.map (·.1)).Nodup
 sub : ∀ e ∈ E, e.1 ∈ src
 tm : ∀ e ∈ E, Tm l e.1 ∧ (nd l e.1).op ≠ 1
 has : ∀ e ∈ E, HasE l E (nd l e.1).a ∧ HasE l E (nd l e.1).b ∧ HasE l E (nd l e.1).c
 rep : ∀ e ∈ E, ∀ l2, Le l l2 → stepF ids vals (nd l e.1) e.1 (imE E (nd l e.1).a) (imE E (nd l e.1).b) (imE E (nd l e.1).c) l2 = (e.2.1, l2)
 one : ∀ e ∈ E, e.2.2.length ≤ 1
 clo : Clo l (cs E)
 img : ∀ e ∈ E, InC l (cs E) e.2.1

theorem St.nil (src ids vals : List Int) (l : List Nd) : St src ids vals l [] :=
 ⟨List.nodup_nil, fun e h => (by cases h), fun e h => (by cases h), fun e h => (by cases h), fun e h => (by cases h), fun e h => (by cases h), fun t h => (by cases h), fun e h => (by cases h)⟩

theorem HasE.le {l l' : List Nd} {E : List Put} {p : Int} (h : HasE l E p) (k : Le l l') : HasE l' E p := by
 rcases h with h | ⟨h1, h2⟩ | h
 ·exact .inl h
 ·exact .inr (.inl ⟨h1.le k, by rw [nd_le h1 k]; exact h2⟩)
 ·exact .inr (.inr h)
theorem isE.more {E : List Put} {p : Int} (h : isE E p) (x : Put) : isE (E ++ [x]) p := by
 obtain ⟨e, he, hp⟩ := h
 exact ⟨e, List.mem_append_left _ he, hp⟩
theorem HasE.more {l : List Nd} {E : List Put} {p : Int} (h : HasE l E p) (x : Put) : HasE l (E ++ [x]) p := h.imp id (Or.imp id (fun h => h.more x))

theorem St.le {src ids vals : List Int} {l l' : List Nd} {E : List Put} (S : St src ids vals l E) (k : Le l l') : St src ids vals l' E where
 nodup := S.nodup
 sub := S.sub
 tm := fun e he => by
  obtain ⟨h1, h2⟩ := S.tm e he
  exact ⟨h1.le k, by rw [nd_le h1 k]; exact h2⟩
 has := fun e he => by
  obtain ⟨h1, h2, h3⟩ := S.has e he
  rw [nd_le (S.tm e he).1 k]
  exact ⟨h1.le k, h2.le k, h3.le k⟩
 rep := fun e he l2 h => by
  rw [nd_le (S.tm e he).1 k]
  exact S.rep e he l2 (k.trans h)
 one := S.one
 clo := S.clo.le k
 img := fun e he => (S.img e he).le k
theorem St.src {src src' ids vals : List Int} {l : List Nd} {E : List Put} (S : St src ids vals l E) (h : ∀ t ∈ src, t ∈ src') : St src' ids vals l E := { S with sub := fun e he => h _ (S.sub e he) }

/-- what stands for a part -/
theorem St.part {src ids vals : List Int} {l : List Nd} {E : List Put} (S : St src ids vals l E) {p : Int} (h : HasE l E p) : InC l (cs E) (imE E p) := by
 by_cases c : isE E p
 ·obtain ⟨e, he, _, h3⟩ := imE_in c
  rw [h3]
  exact S.img e he
 ·rw [imE_out c]
  rcases h with h | h | h
  ·exact .inl h
  ·exact .inr (.inl h)
  ·exact absurd h c

theorem St.add {src ids vals : List Int} {l : List Nd} {E : List Put} (S : St src ids vals l E) {y : Int} (hy : Tm l y) (h1 : (nd l y).op ≠ 1) (hs : y ∈ src) (hno : ¬ isE E y)
  (v0 : (nd l y).op = 2 → (nd l y).a = 0 ∧ (nd l y).b = 0 ∧ (nd l y).c = 0)
  (ha : HasE l E (nd l y).a) (hb : HasE l E (nd l y).b) (hc : HasE l E (nd l y).c) {r : Int × List Nd}
  (hr : stepF ids vals (nd l y) y (imE E (nd l y).a) (imE E (nd l y).b) (imE E (nd l y).c) l = r) :
  ∃ c, Le l r.2 ∧ St src ids vals r.2 (E ++ [(y, r.1, c)]) := by
 have start : (∃ c : List Int, c.length ≤ 1 ∧ Clo r.2 (cs E ++ c) ∧ InC r.2 (cs E ++ c) r.1) ∧ Le l r.2 ∧ (∀ l2, Le r.2 l2 → stepF ids vals (nd l y) y (imE E (nd l y).a) (imE E (nd l y).b) (imE E (nd l y).c) l2 = (r.1, l2)) := by
  have fine : ∀ F, Fine l (cs E) F → F l = r → stepF ids vals (nd l y) y (imE E (nd l y).a) (imE E (nd l y).b) (imE E (nd l y).c) = F → (∃ c : List Int, c.length ≤ 1 ∧ Clo r.2 (cs E ++ c) ∧ InC r.2 (cs E ++ c) r.1) ∧ Le l r.2 ∧ (∀ l2, Le r.2 l2 → stepF ids vals (nd l y) y (imE E (nd l y).a) (imE E (nd l y).b) (imE E (nd l y).c) l2 = (r.1, l2)) := fun F hF e e2 => by
   rw [← e, e2]
   exact ⟨hF.re, hF.le, hF.st⟩
  by_cases h2 : (nd l y).op = 2
  ·cases hf : fIx (nd l y).v ids with
   | some j =>
    have e : stepF ids vals (nd l y) y (imE E (nd l y).a) (imE E (nd l y).b) (imE E (nd l y).c) = constF (nd l y).w (vals.getD j 0) := by
     unfold stepF
     rw [if_pos h2, hf]
    exact fine _ (Fine.const S.clo _ _) (by rw [← e]; exact hr) e
   | none =>
    have e : stepF ids vals (nd l y) y (imE E (nd l y).a) (imE E (nd l y).b) (imE E (nd l y).c) = fun l => (y, l) := by
     unfold stepF
     rw [if_pos h2, hf]
    rw [e] at hr ⊢
    subst hr
    refine ⟨⟨[y], by simp, fun t ht => ?_, .inr (.inr (by simp))⟩, Le.refl l, fun _ _ => rfl⟩
    rcases List.mem_append.1 ht with ht | ht
    ·obtain ⟨q1, q2, q3, q4, q5⟩ := S.clo t ht
     exact ⟨q1, q2, q3.more _, q4.more _, q5.more _⟩
    ·rw [List.mem_singleton.1 ht]
     obtain ⟨z1, z2, z3⟩ := v0 h2
     exact ⟨hy, h1, .inl z1, .inl z2, .inl z3⟩
  ·have e : stepF ids vals (nd l y) y (imE E (nd l y).a) (imE E (nd l y).b) (imE E (nd l y).c) = againF (nd l y) y (imE E (nd l y).a) (imE E (nd l y).b) (imE E (nd l y).c) := by
    unfold stepF
    rw [if_neg h2]
   exact fine _ (Fine.again S.clo _ h1 h2 (S.part ha) (S.part hb) (S.part hc)) (by rw [← e]; exact hr) e
 obtain ⟨⟨c, c1, c2, c3⟩, hle, hst⟩ := start
 have S' := S.le hle
 have en := nd_le hy hle
 have hne : ∀ p, HasE r.2 E p → y ≠ p ∨ isE E p := fun p hp => by
  rcases hp with hp | ⟨q1, q2⟩ | hp
  ·exact .inl (fun e => by have := hy.1; omega)
  ·refine .inl (fun e => h1 ?_)
   rw [← e, en] at q2
   exact q2
  ·exact .inr hp
 have hz : ∀ p, HasE r.2 E p → imE (E ++ [(y, r.1, c)]) p = imE E p := fun p hp => imE_app (hne p hp)
 refine ⟨c, hle, ?_, fun e he => ?_, fun e he => ?_, fun e he => ?_, fun e he => ?_, fun e he => ?_, ?_, fun e he => ?_⟩
 ·rw [List.map_append]
  refine List.nodup_append.2 ⟨S.nodup, by simp, fun a ha b hb => ?_⟩
  rw [List.mem_singleton.1 hb]
  obtain ⟨e, he, rfl⟩ := List.mem_map.1 ha
  exact fun h => hno ⟨e, he, h⟩
 ·rcases List.mem_append.1 he with he | he
  ·exact S.sub e he
  ·rw [List.mem_singleton.1 he]; exact hs
 ·rcases List.mem_append.1 he with he | he
  ·exact S'.tm e he
  ·rw [List.mem_singleton.1 he]
   exact ⟨hy.le hle, by rw [en]; exact h1⟩
 ·rcases List.mem_append.1 he with he | he
  ·obtain ⟨q1, q2, q3⟩ := S'.has e he
   exact ⟨q1.more _, q2.more _, q3.more _⟩
  ·rw [List.mem_singleton.1 he]
   show HasE r.2 _ (nd r.2 y).a ∧ HasE r.2 _ (nd r.2 y).b ∧ HasE r.2 _ (nd r.2 y).c
   rw [en]
   exact ⟨(ha.le hle).more _, (hb.le hle).more _, (hc.le hle).more _⟩
 ·intro l2 h
  rcases List.mem_append.1 he with he | he
  ·obtain ⟨q1, q2, q3⟩ := S'.has e he
   rw [hz _ q1, hz _ q2, hz _ q3]
   exact S'.rep e he l2 h
  ·rw [List.mem_singleton.1 he]
   show stepF ids vals (nd r.2 y) y (imE _ (nd r.2 y).a) (imE _ (nd r.2 y).b) (imE _ (nd r.2 y).c) l2 = (r.1, l2)
   rw [en, hz _ (ha.le hle), hz _ (hb.le hle), hz _ (hc.le hle)]
   exact hst l2 h
 ·rcases List.mem_append.1 he with he | he
  ·exact S.one e he
  ·rw [List.mem_singleton.1 he]; exact c1
 ·rw [cs_app]
  exact c2
 ·rw [cs_app]
  rcases List.mem_append.1 he with he | he
  ·exact (S'.img e he).more c
  ·rw [List.mem_singleton.1 he]; exact c3

theorem nodup_len : ∀ {a b : List Int}, a.Nodup → (∀ x ∈ a, x ∈ b) → a.length ≤ b.length
 | [], b, _, _ => by simp
 | x :: r, b, h, hb => by
  obtain ⟨h1, h2⟩ := List.nodup_cons.1 h
  have hx := hb x (by simp)
  have := nodup_len (a := r) (b := b.erase x) h2 (fun y hy => (List.mem_erase_of_ne (fun e : y = x => h1 (by rw [← e]; exact hy))).2 (hb y (List.mem_cons_of_mem _ hy)))
  rw [List.length_erase_of_mem hx] at this
  have := List.length_pos_of_mem hx
  simp only [List.length_cons]
  omega
theorem St.few {src ids vals : List Int} {l : List Nd} {E : List Put} (S : St src ids vals l E) : E.length ≤ src.length := by
 have := nodup_len S.nodup (b := src) (fun x hx => by
  obtain ⟨e, he, rfl⟩ := List.mem_map.1 hx
  exact S.sub e he)
 simpa using this
theorem cs_len : ∀ {E : List Put}, (∀ e ∈ E, e.2.2.length ≤ 1) → (cs E).length ≤ E.length
 | [], _ => by simp [cs]
 | x :: r, h => by
  have h1 := h x (by simp)
  have := cs_len (E := r) (fun e he => h e (List.mem_cons_of_mem _ he))
  unfold cs at *
  simp only [List.flatMap_cons, List.length_append, List.length_cons]
  omega

end Go.Proofs.Ytmgoeikbdikmdaa
