/-
  Gx, part L: maps.
  Gx, part M: operations on maps.
  Gx, part N: one operation, of those that leave the world as it is; of the others.
  Gx, part O: other names for objects; a heap's part, and what comes of it put back.
  Gx, part P: calls: a part of the heap goes in, and is put back.
  Gx, part Q: one operation of those that act; one operation.
  Gx, part S: regions in the text's order.
-/
import Derived.Test.YtbclodhbcplhmaaGreatGx2
namespace Go.Gx
section
variable {R : Type} {P : Program} {w : World} {β : Nat → Loc} {F : Nat → Prop} {H : Heap} {fr : Fr} {a : Act} {x : R}
theorem run_getObj' {r : Nat} {es : Array MapEntry} {c : Nat} (h : w.heap[r]? = some (.map es c)) : (getObj r).run P w = .ok (.map es c) w := by
 simp [getObj, Sem.run, h]
theorem run_setObj' {r : Nat} {es : Array MapEntry} {c : Nat} {o' : Go.Obj} (h : w.heap[r]? = some (.map es c)) : (setObj r o').run P w = .ok () (setB w r o') := by
 simp [setObj, Sem.run, setB, h]
theorem run_part_one {t : TypeId} (ha : (isAgg t).run P w = .ok false w) {cs : Array Value} {o : Nat} {v : Value} (h : cs[o]? = some v) : (part t cs o).run P w = .ok v w := by
 simp [part, ha, h]
/-! ### keys that are scalars -/
theorem beq_bytes (a b : ByteArray) : (a == b) = decide (a = b) := by
 rw [beq_toListBytes, toList_beq]
theorem scalarOk_spec {av : Av} {t : TypeId} {s : Sh} (h : scalarOk P t s = true) {a b : s.T} {us vs : List Value} (ha : RepT w av s a us) (hb : RepT w av s b vs) :
  ∃ d A B, P.underlying t = some d ∧ us = [A] ∧ vs = [B] ∧ (∀ n w, (Op.equalIn (n + 1) t A B).run P w = .ok (s.eqb a b) w) ∧ (∀ em n w, (Instr.checkKey em (n + 1) t A).run P w = .ok () w) ∧
   (s.eqb a b = true → A = B) ∧ (∀ n, Instr.sameBits n A A = true) ∧ (∀ w, (isAgg t).run P w = .ok false w) ∧ Instr.sameNow d A B = some (s.eqb a b) ∧ (∀ l, A ≠ .agg l) := by
 unfold scalarOk at h
 split at h
 ·rename_i _ k k' hd
  have h : k = k' := by simpa using h
  subst h
  obtain rfl : us = [.int k a] := ha
  obtain rfl : vs = [.int k b] := hb
  refine ⟨_, _, _, hd, rfl, rfl, fun n w => ?_, fun em n w => by simp [Instr.checkKey, run_underlying hd], fun h => ?_, fun n => by cases n <;> simp [Instr.sameBits], fun w => by simp [isAgg, run_underlying hd], ?_, fun l h => by cases h⟩
  ·rw [run_equalIn_int w n t k k a b hd]
   congr 1
  ·have : a = b := by simpa [Sh.eqb] using h
   rw [this]
  ·simp [Instr.sameNow, Sh.eqb]
   rw [Bool.eq_iff_iff]; simp
 ·rename_i _ hd
  obtain rfl : us = [.bool a] := ha
  obtain rfl : vs = [.bool b] := hb
  refine ⟨_, _, _, hd, rfl, rfl, fun n w => ?_, fun em n w => by simp [Instr.checkKey, run_underlying hd], fun h => ?_, fun n => by cases n <;> simp [Instr.sameBits], fun w => by simp [isAgg, run_underlying hd], ?_, fun l h => by cases h⟩
  ·rw [run_equalIn_bool' w n t a b hd]
   congr 1
  ·have : a = b := by simpa [Sh.eqb] using h
   rw [this]
  ·simp [Instr.sameNow, Sh.eqb]
   cases a <;> cases b <;> rfl
 ·rename_i _ hd
  obtain rfl : us = [.string a] := ha
  obtain rfl : vs = [.string b] := hb
  refine ⟨_, _, _, hd, rfl, rfl, fun n w => ?_, fun em n w => by simp [Instr.checkKey, run_underlying hd], fun h => ?_, fun n => by cases n <;> simp [Instr.sameBits, beq_bytes], fun w => by simp [isAgg, run_underlying hd], ?_, fun l h => by cases h⟩
  ·rw [run_equalIn_string w n t a b hd, toList_beq]
   rfl
  ·have : a = b := by simpa [Sh.eqb] using h
   rw [this]
  ·simp [Instr.sameNow, Sh.eqb, beq_bytes]
 ·cases h
theorem flatOk_spec {av : Av} : ∀ {fs : List Field} {o : Nat} {s : Sh}, flatOk P fs o s = true → ∀ {a b : s.T} {us vs : List Value}, RepT w av s a us → RepT w av s b vs →
  ∀ {pre pre' : List Value}, pre.length = o → pre'.length = o →
  (∀ n w, (Op.eqFields (n + 1) (pre ++ us).toArray (pre' ++ vs).toArray fs).run P w = .ok (s.eqb a b) w) ∧ (s.eqb a b = true → us = vs) ∧ (∀ n v, v ∈ us → Instr.sameBits n v v = true) ∧
  (∀ em n w, (forIn fs PUnit.unit fun (f : Field) (_ : PUnit) => (if f.name ≠ "_" then do
    let v ← part f.type (pre ++ us).toArray f.offset
    Instr.checkKey em (n + 1) f.type v
    pure (ForInStep.yield PUnit.unit) else pure (ForInStep.yield PUnit.unit) : Sem (ForInStep PUnit))).run P w = .ok PUnit.unit w)
 | [], _, s, h, a, b, us, vs, ha, hb, pre, pre', hp, hp' => by
  cases s <;> simp [flatOk] at h
  obtain rfl : us = [] := ha
  obtain rfl : vs = [] := hb
  exact ⟨fun n w => by simp [Op.eqFields, Sh.eqb], fun _ => rfl, fun n v hv => (nomatch hv), fun em n w => by simp⟩
 | f :: fs, o, s, h, a, b, us, vs, ha, hb, pre, pre', hp, hp' => by
  have one : ∀ {s : Sh} {a b : s.T} {us vs post post' : List Value}, (Nat.beq f.offset o && !(f.name == "_") && scalarOk P f.type s) = true → RepT w av s a us → RepT w av s b vs →
    f.name ≠ "_" ∧ ∃ A B, us = [A] ∧ vs = [B] ∧ (∀ n w, (Op.equalIn (n + 1) f.type A B).run P w = .ok (s.eqb a b) w) ∧ (∀ em n w, (Instr.checkKey em (n + 1) f.type A).run P w = .ok () w) ∧
    (s.eqb a b = true → A = B) ∧ (∀ n, Instr.sameBits n A A = true) ∧ (∀ w, (part f.type (pre ++ (us ++ post)).toArray f.offset).run P w = .ok A w) ∧ (∀ w, (part f.type (pre' ++ (vs ++ post')).toArray f.offset).run P w = .ok B w) := by
   intro s a b us vs post post' h ha hb
   simp only [Bool.and_eq_true, Bool.not_eq_true', beq_eq_false_iff_ne] at h
   obtain ⟨⟨h1, h2⟩, h3⟩ := h
   have h1 : f.offset = o := Nat.eq_of_beq_eq_true h1
   obtain ⟨d, A, B, hd, rfl, rfl, q1, q2, q3, q4, q5, q6⟩ := scalarOk_spec h3 ha hb
   refine ⟨h2, A, B, rfl, rfl, q1, q2, q3, q4, fun w => run_part_one (q5 w) ?_, fun w => run_part_one (q5 w) ?_⟩
   ·simp [h1, ← hp]
   ·simp [h1, ← hp']
  by_cases hfs : ∃ s1 s2, s = .pair s1 s2 ∧ (Nat.beq f.offset o && !(f.name == "_") && scalarOk P f.type s1) = true ∧ flatOk P fs (o + 1) s2 = true
  ·obtain ⟨s1, s2, rfl, h1, h2⟩ := hfs
   obtain ⟨u1, u2, rfl, ha1, ha2⟩ := ha
   obtain ⟨v1, v2, rfl, hb1, hb2⟩ := hb
   obtain ⟨hn, A, B, rfl, rfl, q1, q2, q3, q4, q5, q6⟩ := one (post := u2) (post' := v2) h1 ha1 hb1
   obtain ⟨r1, r2, r3, r4⟩ := flatOk_spec h2 ha2 hb2 (pre := pre ++ [A]) (pre' := pre' ++ [B]) (by simp [hp]) (by simp [hp'])
   refine ⟨fun n w => ?_, fun he => ?_, fun n v hv => ?_, fun em n w => ?_⟩
   ·simp only [Op.eqFields, if_pos hn, Sem.run_bind, q5 w, q6 w, Result.andThen_ok, q1 n w]
    have := r1 n w
    simp only [List.append_assoc] at this
    cases he : s1.eqb a.1 b.1
    ·simp [Sh.eqb, he]
    ·simp only [Bool.not_true, Bool.false_eq_true, if_false, Sh.eqb, he, Bool.true_and]
     exact this
   ·simp only [Sh.eqb, Bool.and_eq_true] at he
    rw [q3 he.1, r2 he.2]
   ·rcases List.mem_append.1 hv with h | h
    ·rw [List.mem_singleton.1 h]; exact q4 n
    ·exact r3 n v h
   ·have := r4 em n w
    simp only [List.append_assoc] at this
    simp only [List.forIn_cons, if_pos hn, Sem.run_bind, q5 w, q2 em n w, Result.andThen_ok, Sem.run_pure]
    exact this
  ·have h3 : fs = [] ∧ (Nat.beq f.offset o && !(f.name == "_") && scalarOk P f.type s) = true := by
    cases fs with
    | nil => exact ⟨rfl, by simpa [flatOk] using h⟩
    | cons g fs =>
     exfalso
     cases s with
     | pair s1 s2 =>
      simp only [flatOk, Bool.and_eq_true] at h
      exact hfs ⟨s1, s2, rfl, by simpa using h.1, h.2⟩
     | _ => simp [flatOk] at h
   obtain ⟨rfl, h3⟩ := h3
   obtain ⟨hn, A, B, rfl, rfl, q1, q2, q3, q4, q5, q6⟩ := one (post := []) (post' := []) h3 ha hb
   simp only [List.append_nil] at q5 q6
   refine ⟨fun n w => ?_, fun he => by rw [q3 he], fun n v hv => by rw [List.mem_singleton.1 hv]; exact q4 n, fun em n w => ?_⟩
   ·simp only [Op.eqFields, if_pos hn, Sem.run_bind, q5 w, q6 w, Result.andThen_ok, q1 n w]
    cases he : s.eqb a b <;> simp
   ·simp only [List.forIn_cons, List.forIn_nil, if_pos hn, Sem.run_bind, q5 w, q2 em n w, Result.andThen_ok, Sem.run_pure]
theorem keySh_spec {av : Av} {t : TypeId} {s : Sh} {agg : Bool} (h : keySh P t = some (s, agg)) {a b : s.T} {us vs : List Value} {A B : Value} (ha : RepT w av s a us) (hA : RepVal agg us A)
  (hb : RepT w av s b vs) (hB : RepVal agg vs B) :
  ∃ d, P.underlying t = some d ∧ (∀ w, (Op.equal t A B).run P w = .ok (s.eqb a b) w) ∧ (∀ em w, (Instr.checkKey em 10000 t A).run P w = .ok () w) ∧ (s.eqb a b = true → A = B) ∧
   Instr.sameBits 10000 A A = true ∧ (Instr.sameNow d A B = some (s.eqb a b) ∨ Instr.sameNow d A B = none) := by
 unfold keySh at h
 split at h
 ·rename_i s' fs hs hd
  obtain ⟨h1, h2⟩ := bif_none h
  clear h
  cases h2
  rw [Bool.and_eq_true] at h1
  obtain ⟨h1, h2⟩ := h1
  obtain rfl : A = .agg us.toArray := hA
  obtain rfl : B = .agg vs.toArray := hB
  have hf : P.fieldsOf t = fs := by simp [Program.fieldsOf, hd]
  obtain ⟨q1, q2, q3, q4⟩ := flatOk_spec (P := P) h2 ha hb (pre := []) (pre' := []) rfl rfl
  refine ⟨_, hd, fun w => ?_, fun em w => ?_, fun h => by rw [q2 h], ?_, .inr ?_⟩
  ·rw [Op.equal, Op.maxDepth, show (10000 : Nat) = 9998 + 1 + 1 from rfl, run_equalIn_struct w _ t _ _ (by rw [hf]; exact hd) (by simpa using h1), hf]
   exact q1 9998 w
  ·have := q4 em 9998 w
   simp only [List.nil_append] at this
   rw [show (10000 : Nat) = 9998 + 1 + 1 from rfl]
   unfold Instr.checkKey
   simp only [Sem.run_bind, run_underlying hd, Result.andThen_ok]
   rw [← Array.forIn_toList]
   exact (congrArg (fun r => Result.andThen r _) this).trans (by simp)
  ·simp only [Instr.sameBits, beq_self_eq_true, Bool.true_and, List.all_eq_true]
   intro p hp
   have : ∀ (l : List Value) p, p ∈ l.zip l → p.1 ∈ l ∧ p.1 = p.2 := by
    intro l
    induction l with
    | nil => intro p hp; simp at hp
    | cons v l ih =>
     intro p hp
     simp only [List.zip_cons_cons, List.mem_cons] at hp
     rcases hp with rfl | hp
     ·exact ⟨by simp, rfl⟩
     ·obtain ⟨h1, h2⟩ := ih p hp
      exact ⟨List.mem_cons_of_mem _ h1, h2⟩
   obtain ⟨h1, h2⟩ := this _ p hp
   rw [← h2]
   exact q3 _ _ (by simpa using h1)
  ·rfl
 ·rename_i s' d hne hs hd
  obtain ⟨h1, h2⟩ := bif_none h
  cases h2
  obtain ⟨d', A', B', hd', rfl, rfl, q1, q2, q3, q4, q5, q6, q7⟩ := scalarOk_spec h1 ha hb
  have hA : [A'] = [A] := hA
  have hB : [B'] = [B] := hB
  cases hA
  cases hB
  exact ⟨d', hd', fun w => q1 9999 w, fun em w => q2 em 9999 w, q3, q4 10000, .inl q6⟩
 ·cases h
def Found {ks vs : Sh} (key : ks.T) (A : Value) (l : List (ks.T × vs.T)) (es : List MapEntry) (i : Nat) : Option (Nat × Value) → Prop
 | none => mfind ks vs l key = none ∧ (∀ v, mput ks vs l key v = l ++ [(key, v)]) ∧ mdel ks vs l key = l
 | some (j, V) => ∃ l1 p l2 es1 x es2, l = l1 ++ p :: l2 ∧ es = es1 ++ x :: es2 ∧ j = i + es1.length ∧ l1.length = es1.length ∧ x.val = V ∧ x.key = A ∧ mfind ks vs l key = some p.2 ∧
   (∀ v, mput ks vs l key v = l1 ++ (key, v) :: l2) ∧ mdel ks vs l key = l1 ++ l2
theorem Found.next {ks vs : Sh} {key : ks.T} {A : Value} {l : List (ks.T × vs.T)} {es : List MapEntry} {i : Nat} {r : Option (Nat × Value)} {p : ks.T × vs.T} {e : MapEntry} (hk : ks.eqb key p.1 = false)
  (h : Found key A l es (i + 1) r) : Found key A (p :: l) (e :: es) i r := by
 cases r with
 | none =>
  obtain ⟨h1, h2, h3⟩ := h
  exact ⟨by simp [mfind, hk, h1], fun v => by simp [mput, hk, h2], by simp [mdel, hk, h3]⟩
 | some q =>
  obtain ⟨j, V⟩ := q
  obtain ⟨l1, p', l2, es1, x', es2, rfl, rfl, rfl, h4, h5, h6, h7, h8, h9⟩ := h
  refine ⟨p :: l1, p', l2, e :: es1, x', es2, rfl, rfl, by simp; omega, by simp [h4], h5, h6, by simp [mfind, hk]; exact h7, fun v => ?_, ?_⟩
  ·simp only [mput, hk, List.cons_append]
   rw [h8]
   rfl
  ·simp only [mdel, hk, List.cons_append]
   rw [h9]
   rfl
theorem Found.here {ks vs : Sh} {key : ks.T} {A : Value} {l : List (ks.T × vs.T)} {es : List MapEntry} {i : Nat} {p : ks.T × vs.T} {e : MapEntry} (hk : ks.eqb key p.1 = true) (he : e.key = A) :
  Found key A (p :: l) (e :: es) i (some (i, e.val)) :=
 ⟨[], p, l, [], e, es, rfl, rfl, rfl, rfl, rfl, he, by simp [mfind, hk], fun v => by simp [mput, hk], by simp [mdel, hk]⟩
theorem findAsking_ok {e : En} {t : TypeId} {ks vs : Sh} {ka va : Bool} (hk : keySh P t = some (ks, ka)) {key : ks.T} {us : List Value} {A : Value} (ha : RepT e.w e.av ks key us) (hA : RepVal ka us A) :
  ∀ {l : List (ks.T × vs.T)} {es : List MapEntry} (i : Nat), RepEntries e ks vs ka va l es → ∃ r, (∀ w, (Instr.findAsking t A es i).run P w = .ok r w) ∧ Found key A l es i r
 | [], es, i, h => by
  obtain rfl : es = [] := h
  exact ⟨none, fun w => by simp [Instr.findAsking], rfl, fun _ => rfl, rfl⟩
 | p :: l, _, i, ⟨x, r, e1, ⟨us', h1, h2⟩, _, h5⟩ => by
  subst e1
  obtain ⟨d, _, q1, _, q3, _⟩ := keySh_spec hk ha hA h1 h2
  cases he : ks.eqb key p.1 with
  | true =>
   refine ⟨some (i, x.val), ?_, Found.here he (q3 he).symm⟩
   exact fun w => by simp [Instr.findAsking, q1 w, he]
  | false =>
   obtain ⟨r', h6, h7⟩ := findAsking_ok hk ha hA (i + 1) h5
   refine ⟨r', ?_, h7.next he⟩
   exact fun w => by simp [Instr.findAsking, q1 w, he, h6]
theorem findNow_ok {e : En} {t : TypeId} {d : TypeDesc} (hd : P.underlying t = some d) {ks vs : Sh} {ka va : Bool} (hk : keySh P t = some (ks, ka)) {key : ks.T} {us : List Value} {A : Value} (ha : RepT e.w e.av ks key us) (hA : RepVal ka us A) :
  ∀ {l : List (ks.T × vs.T)} {es : List MapEntry} (i : Nat) {r}, RepEntries e ks vs ka va l es → Instr.findNow d A es i = some r → Found key A l es i r
 | [], es, i, r, h, hr => by
  obtain rfl : es = [] := h
  simp [Instr.findNow] at hr
  subst hr
  exact ⟨rfl, fun _ => rfl, rfl⟩
 | p :: l, _, i, r, ⟨x, es, e1, ⟨us', h1, h2⟩, _, h5⟩, hr => by
  subst e1
  obtain ⟨d', hd', q1, _, q3, _, q5⟩ := keySh_spec hk ha hA h1 h2
  rw [hd] at hd'
  cases hd'
  simp only [Instr.findNow] at hr
  rcases q5 with q5 | q5
  ·rw [q5] at hr
   cases he : ks.eqb key p.1 with
   | true =>
    rw [he] at hr
    simp at hr
    subst hr
    exact Found.here he (q3 he).symm
   | false =>
    rw [he] at hr
    exact (findNow_ok hd hk ha hA (i + 1) h5 hr).next he
  ·rw [q5] at hr
   cases hr
theorem findKey_ok {e : En} {t : TypeId} {ks vs : Sh} {ka va : Bool} (hk : keySh P t = some (ks, ka)) {key : ks.T} {us : List Value} {A : Value} (ha : RepT e.w e.av ks key us) (hA : RepVal ka us A)
  {l : List (ks.T × vs.T)} {es : List MapEntry} (h : RepEntries e ks vs ka va l es) : ∃ r, (∀ w, (Instr.findKey t A es).run P w = .ok r w) ∧ Found key A l es 0 r := by
 obtain ⟨d, hd, _⟩ := keySh_spec hk ha hA ha hA
 cases hn : Instr.findNow d A es 0 with
 | some r => exact ⟨r, fun w => by simp [Instr.findKey, run_underlying hd, hn], findNow_ok hd hk ha hA 0 h hn⟩
 | none =>
  obtain ⟨r, h1, h2⟩ := findAsking_ok hk ha hA 0 h
  exact ⟨r, fun w => by simp [Instr.findKey, run_underlying hd, hn, h1], h2⟩
theorem RepEntries.split {e : En} {ks vs : Sh} {ka va : Bool} : ∀ {l1 : List (ks.T × vs.T)} {l2 : List (ks.T × vs.T)} {es1 es2 : List MapEntry}, l1.length = es1.length →
  RepEntries e ks vs ka va (l1 ++ l2) (es1 ++ es2) → RepEntries e ks vs ka va l1 es1 ∧ RepEntries e ks vs ka va l2 es2
 | [], l2, [], es2, _, h => ⟨rfl, h⟩
 | p :: l1, l2, y :: es1, es2, hl, ⟨y', r, e1, h1, h2, h3⟩ => by
  cases e1
  obtain ⟨q1, q2⟩ := RepEntries.split (by simpa using hl) h3
  exact ⟨⟨y, es1, rfl, h1, h2, q1⟩, q2⟩
theorem RepEntries.append {e : En} {ks vs : Sh} {ka va : Bool} : ∀ {l1 : List (ks.T × vs.T)} {l2 : List (ks.T × vs.T)} {es1 es2 : List MapEntry},
  RepEntries e ks vs ka va l1 es1 → RepEntries e ks vs ka va l2 es2 → RepEntries e ks vs ka va (l1 ++ l2) (es1 ++ es2)
 | [], l2, es1, es2, h, k => by rw [show es1 = [] from h]; exact k
 | p :: l1, l2, es1, es2, ⟨y, r, e1, h1, h2, h3⟩, k => by
  subst e1
  exact ⟨y, r ++ es2, rfl, h1, h2, RepEntries.append h3 k⟩
end
end Go.Gx

namespace Go.Gx
section
variable {R : Type} {P : Program} {w : World} {β : Nat → Loc} {F : Nat → Prop} {H : Heap} {fr : Fr} {a : Act} {x : R}
theorem cells_one {V : Value} (h : V.oneCell' = true) : V.cells = #[V] := by cases V <;> first | rfl | (simp [Value.oneCell'] at h)
theorem svAgg_rep {e : En} {v : SV} {V : Value} (h : RepSV e v V) (hv : okSV v = true) : RepVal (svAgg v) V.cells.toList V := by
 cases v with
 | agg l => obtain ⟨vs, rfl, _⟩ := h; simp [RepVal, svAgg, Value.cells]
 | v y =>
  have h1 : V.oneCell' = true := RepSc.one h (fun hu => by subst hu; cases hv)
  simp [RepVal, svAgg, cells_one h1]
theorem svCells_ok {v : SV} {cs : List Sc} (h : svCells v = some cs) : okSV v = true := (bif_none h).1
theorem keyOfSV_rep {e : En} {s : Sh} {agg : Bool} {k : SV} {key : s.T} {V : Value} (h : keyOfSV s agg k = some key) (hk : RepSV e k V) : ∃ us, RepT e.w e.av s key us ∧ RepVal agg us V := by
 unfold keyOfSV at h
 obtain ⟨h1, h2⟩ := bif_none h
 clear h
 obtain rfl : svAgg k = agg := by simpa using h1
 split at h2
 ·rename_i cs hcs
  exact ⟨_, dec1_rep h2 (svCells_rep hcs hk), svAgg_rep hk (svCells_ok hcs)⟩
 ·cases h2
theorem exEqAgg_ok {e : En} {t : TypeId} {l m : List Seg} {V U : Value} {K : Bool → Option R} (h : exEqAgg P t l m K = some x) (hV : RepSV e (.agg l) V) (hU : RepSV e (.agg m) U) :
  ∃ b, K b = some x ∧ (∀ w, (Op.equal t V U).run P w = .ok b w) ∧ (∀ op p q w, (eqGuard op t p q V U).run P w = .ok () w) ∧ ∃ vs us, V = .agg vs ∧ U = .agg us := by
 unfold exEqAgg at h
 split at h
 ·rename_i s hk
  split at h
  ·rename_i a b ha hb
   obtain ⟨hg, h⟩ : P.eqGuardType P.depth t = false ∧ K (s.eqb a b) = some x := by
    cases hg : P.eqGuardType P.depth t with
    | true => rw [hg] at h; cases h
    | false => rw [hg] at h; exact ⟨rfl, h⟩
   obtain ⟨us, h1, h2⟩ := keyOfSV_rep ha hV
   obtain ⟨vs, h3, h4⟩ := keyOfSV_rep hb hU
   obtain ⟨d, _, q1, _⟩ := keySh_spec hk h1 h2 h3 h4
   obtain rfl : V = .agg us.toArray := h2
   obtain rfl : U = .agg vs.toArray := h4
   refine ⟨_, h, q1, fun op p q w => ?_, _, _, rfl, rfl⟩
   have hp : ∀ w, Sem.run P (Sem.program Sem.pure) w = .ok P w := fun w => rfl
   cases op <;> simp [eqGuard, program, hp, hg]
  ·cases h
 ·cases h
theorem valSh_spec {t : TypeId} {s : Sh} {agg : Bool} (h : valSh P t = some (s, agg)) : ∃ i z, P.info? t = some i ∧ i.zero = some z ∧ (∀ e : En, RepT e.w e.av s s.zero z.cells.toList) ∧ RepVal agg z.cells.toList z := by
 unfold valSh at h
 split at h
 ·rename_i s' i hs hi
  obtain ⟨i', z, hi', hz, hr, _⟩ := elemOf_spec hs
  rw [hi] at hi'
  cases hi'
  rw [hz] at h
  refine ⟨i, z, hi, hz, ?_⟩
  cases z <;> simp only at h
  case agg l =>
   obtain ⟨h1, h2⟩ := bif_none h
   cases h2
   exact ⟨hr, rfl⟩
  all_goals
   (cases ha : isAggT P t <;> rw [ha] at h <;> simp at h
    obtain ⟨rfl, rfl⟩ := h
    exact ⟨hr, rfl⟩)
 ·cases h
theorem scsSV_rep {e : En} {s : Sh} {agg : Bool} {v : s.T} {us : List Value} {V : Value} (h : RepT e.w e.av s v us) (hV : RepVal agg us V) : RepSV e (scsSV agg (Gx.enc s v)) V := by
 have h1 := RepT.enc (e := e) s v us h
 cases agg with
 | true =>
  obtain rfl : V = .agg us.toArray := hV
  exact ⟨us, rfl, h1.segs⟩
 | false =>
  obtain rfl : us = [V] := hV
  unfold scsSV
  simp only
  cases hc : Gx.enc s v with
  | nil => rw [hc] at h1; cases h1
  | cons c r =>
   rw [hc] at h1
   obtain ⟨V', v', e1, h2, h3, h4⟩ := h1
   cases e1
   cases r with
   | nil => exact h3
   | cons c' r => obtain ⟨_, _, e2, _⟩ := h4; cases e2
theorem obj_map (ok : HeapOk w β F H) {r : Nat} {ks vs : Sh} {ka va : Bool} {l : List (ks.T × vs.T)} (hH : H[r]? = some (.map ks vs ka va l)) :
  ∃ (es : Array MapEntry) (c : Nat), w.heap[(β r).b]? = some (.map es c) ∧ RepEntries (en w β F H) ks vs ka va l es.toList ∧ (∀ y ∈ es.toList, y.born < c) ∧ (es.toList.map (·.born)).Nodup := by
 obtain ⟨es, c, h1, h2, h3, h4⟩ := ok.obj r _ hH
 exact ⟨es, c, h1, h2, h3, h4⟩
theorem exLookup_ok {t : TypeId} {y : Sc} {k : SV} {c : Bool} {V U : Value} {K : Slot → Option R} (h : exLookup P t H y k c K = some x) (ok : HeapOk w β F H) (hy : RepSc (en w β F H) y V) (hk : RepSV (en w β F H) k U) :
  ∃ s v, Stays P (Instr.lookup t V U c) w v ∧ RepSlot (en w β F H) s v ∧ K s = some x := by
 unfold exLookup at h
 split at h
 ·rename_i kt vt hd
  split at h
  ·rename_i ks ka vs va r hks hvs
   split at h
   ·rename_i ks' vs' ka' va' l key hH hkey
    split at h
    ·rename_i hh
     obtain ⟨rfl, rfl, rfl, rfl⟩ := hh
     obtain ⟨hr, rfl⟩ := hy
     obtain ⟨es, cl, hb, hes, _⟩ := obj_map ok hH
     obtain ⟨us, hku, hkv⟩ := keyOfSV_rep hkey hk
     obtain ⟨d, hkd, _, hcheck, _⟩ := keySh_spec hks hku hkv hku hkv
     obtain ⟨f, hf, hfound⟩ := findKey_ok hks hku hkv hes
     obtain ⟨i, z, hi, hz, hzr, hzv⟩ := valSh_spec hvs
     have hbl : (en w β F H).β r = β r := rfl
     have hcast : castM (rfl : ks' = ks') (rfl : vs' = vs') l = l := rfl
     have res : ∃ v, Stays P (Instr.lookup t (.map (some (β r).b)) U c) w (if c = true then .tuple #[v, .bool (mfind ks' vs' l key).isSome] else v) ∧
       RepSV (en w β F H) (scsSV va' (Gx.enc vs' ((mfind ks' vs' l key).getD vs'.zero))) v := by
      cases f with
      | none =>
       obtain ⟨h1, _⟩ := hfound
       refine ⟨z, ?_, ?_⟩
       ·exact fun w' hw => by simp [Instr.lookup, run_underlying hd, run_getObj' (hw _ _ hb), hcheck, hf, run_zero hi hz, h1]
       ·rw [h1]
        exact scsSV_rep (hzr _) hzv
      | some q =>
       obtain ⟨j, V'⟩ := q
       obtain ⟨l1, p, l2, es1, y, es2, e1, e2, e3, e4, e5, e6, e7, e8, e9⟩ := hfound
       refine ⟨V', ?_, ?_⟩
       ·exact fun w' hw => by simp [Instr.lookup, run_underlying hd, run_getObj' (hw _ _ hb), hcheck, hf, e7]
       ·rw [e7]
        rw [e1, e2] at hes
        obtain ⟨_, y', r', e10, _, ⟨ws, h4, h5⟩, _⟩ := RepEntries.split e4 hes
        cases e10
        rw [← e5]
        exact scsSV_rep h4 h5
     obtain ⟨v, h1, h2⟩ := res
     cases c with
     | true => exact ⟨.tup [_, .v (.bool _)], .tuple #[v, .bool _], h1, ⟨[v, .bool _], rfl, v, [.bool _], rfl, h2, .bool _, [], rfl, rfl, rfl⟩, h⟩
     | false => exact ⟨.sv _, v, h1, h2, h⟩
    ·cases h
   ·cases h
  ·cases h
 ·cases h
theorem map_store (ok : HeapOk w β F H) {r : Nat} {ks vs : Sh} {ka va : Bool} {l l' : List (ks.T × vs.T)} (hH : H[r]? = some (.map ks vs ka va l)) {es' : Array MapEntry} {c' : Nat}
  (hes : RepEntries (en w β F H) ks vs ka va l' es'.toList) (h1 : ∀ y ∈ es'.toList, y.born < c') (h2 : (es'.toList.map (·.born)).Nodup) :
  HeapOk (setB w (β r).b (.map es' c')) β F (H.set r (.map ks vs ka va l')) ∧ Ext (en w β F H) (en (setB w (β r).b (.map es' c')) β F (H.set r (.map ks vs ka va l'))) := by
 obtain ⟨es, c, hb, _⟩ := obj_map ok hH
 have hx : Ext (en w β F H) (en (setB w (β r).b (.map es' c')) β F (H.set r (.map ks vs ka va l'))) :=
  ext_set hH trivial (fun _ _ _ _ h => nomatch h) (fun m h => by simp [szO] at h) size_setB (fun b hb' => heap_setB_other hb') ⟨rfl, rfl⟩ (fun c t f h => by rw [heap_setB_same (lt_of_heap hb)] at h; cases h) fun c t f h => by rw [hb] at h; cases h
 exact ⟨ok_set ok hH trivial (fun _ _ _ _ h => nomatch h) size_setB (fun b hb' => heap_setB_other hb') hx ⟨es', c', heap_setB_same (lt_of_heap hb), hes.mono hx, h1, h2⟩, hx⟩
theorem modify_mid {α : Type} : ∀ (l1 : List α) (y : α) (l2 : List α) (f : α → α), (l1 ++ y :: l2).modify l1.length f = l1 ++ f y :: l2
 | [], _, _, _ => by simp
 | _ :: l1, y, l2, f => by simp [modify_mid l1 y l2 f]
theorem exMapUpdate_ok {t : TypeId} {y : Sc} {k v : SV} {V U W : Value} {K : Heap → Option R} (h : exMapUpdate P t H y k v K = some x) (ok : HeapOk w β F H) (hy : RepSc (en w β F H) y V) (hk : RepSV (en w β F H) k U) (hv : RepSV (en w β F H) v W) :
  ∃ w' H', (Instr.mapUpdate t V U W).run P w = .ok () w' ∧ HeapOk w' β F H' ∧ Ext (en w β F H) (en w' β F H') ∧ K H' = some x := by
 unfold exMapUpdate at h
 split at h
 ·rename_i kt vt hd
  split at h
  ·rename_i ks ka vs va r hks hvs
   split at h
   ·rename_i cs hcs
    obtain ⟨hva, h1⟩ := bif_none h
    clear h
    obtain rfl : svAgg v = va := by simpa using hva
    obtain ⟨cs', H1, h2, ok1, hx1, hcs1⟩ := freezeL_ok ok h1 (svCells_rep hcs hv)
    have hWv := svAgg_rep hv (svCells_ok hcs)
    clear h1
    split at h2
    ·rename_i ks' vs' ka' va' l key val hH hkey hval
     split at h2
     ·rename_i hh
      obtain ⟨rfl, rfl, rfl, rfl⟩ := hh
      obtain ⟨hr, rfl⟩ := hy
      obtain ⟨es, cl, hb, hes, hborn, hnd⟩ := obj_map ok1 hH
      obtain ⟨us, hku, hkv⟩ := keyOfSV_rep hkey (RepSV.mono hx1 _ _ hk)
      obtain ⟨d, hkd, _, hcheck, _, hbits, _⟩ := keySh_spec hks hku hkv hku hkv
      obtain ⟨f, hf, hfound⟩ := findKey_ok hks hku hkv hes
      have hval' := dec1_rep hval hcs1
      have hcast : castM (rfl : ks' = ks') (rfl : vs' = vs') l = l := rfl
      rw [hcast] at h2
      cases f with
      | none =>
       obtain ⟨_, h4, _⟩ := hfound
       obtain ⟨q1, q2⟩ := map_store (l' := mput ks' vs' l key val) ok1 hH (es' := es.push { key := U, val := W, born := cl }) (c' := cl + 1) (by
         rw [h4, Array.toList_push]
         exact hes.append ⟨_, [], rfl, ⟨us, hku, hkv⟩, ⟨_, hval', hWv⟩, rfl⟩)
        (fun y hy => by
         rw [Array.toList_push] at hy
         rcases List.mem_append.1 hy with hy | hy
         ·have := hborn y hy; omega
         ·rw [List.mem_singleton.1 hy]; exact Nat.lt_succ_self _)
        (by
         rw [Array.toList_push, List.map_append, List.nodup_append]
         refine ⟨hnd, by simp, fun b hb' c hc => ?_⟩
         obtain ⟨y, hy, rfl⟩ := List.mem_map.1 hb'
         simp at hc
         subst hc
         have := hborn y hy
         omega)
       refine ⟨_, _, ?_, q1, hx1.trans q2, h2⟩
       have hbl : (en w β F H).β r = β r := rfl
       simp [Instr.mapUpdate, run_underlying hd, run_getObj' hb, hcheck, hf, run_setObj' hb, hbl]
      | some q =>
       obtain ⟨j, V'⟩ := q
       obtain ⟨l1, p, l2, es1, y, es2, e1, e2, e3, e4, e5, e6, e7, e8, e9⟩ := hfound
       have hj : j = es1.length := by omega
       have hmod : (es.modify j fun e => { e with key := U, val := W }).toList = es1 ++ { y with key := U, val := W } :: es2 := by
        rw [Array.toList_modify, e2, hj]
        exact modify_mid es1 y es2 _
       have hes' := hes
       rw [e1, e2] at hes'
       obtain ⟨s1, y', r', e10, _, _, s2⟩ := RepEntries.split e4 hes'
       cases e10
       obtain ⟨q1, q2⟩ := map_store (l' := mput ks' vs' l key val) ok1 hH (es' := es.modify j fun e => { e with key := U, val := W }) (c' := cl) (by
         rw [e8, hmod]
         exact s1.append ⟨_, es2, rfl, ⟨us, hku, hkv⟩, ⟨_, hval', hWv⟩, s2⟩)
        (fun z hz => by
         rw [hmod] at hz
         rw [e2] at hborn
         rcases List.mem_append.1 hz with hz | hz
         ·exact hborn z (List.mem_append_left _ hz)
         ·rcases List.mem_cons.1 hz with rfl | hz
          ·exact hborn y (by simp)
          ·exact hborn z (by simp [hz]))
        (by
         rw [hmod]
         rw [e2] at hnd
         simpa using hnd)
       refine ⟨_, _, ?_, q1, hx1.trans q2, h2⟩
       have hbl : (en w β F H).β r = β r := rfl
       have hold : ((es[j]?).map (·.key)).getD U = U := by
        have : es[j]? = some y := by
         rw [← Array.getElem?_toList, e2, hj]
         simp
        rw [this]
        exact e6
       simp only [Instr.mapUpdate, Sem.run_bind, run_underlying hd, run_getObj' hb, hcheck, hf, Result.andThen_ok, hbl, hold]
       simp [Instr.keyThatStays, hbits, run_setObj' hb]
     ·cases h2
    ·cases h2
   ·cases h
  ·cases h
 ·cases h
theorem exDelete_ok {t ty : TypeId} {ts : Array TypeId} (hts : ts[0]? = some t) {y : Sc} {k : SV} {V U : Value} {K : Heap → Option R} (h : exDelete P t H y k K = some x) (ok : HeapOk w β F H) (hy : RepSc (en w β F H) y V) (hk : RepSV (en w β F H) k U) :
  ∃ w' H', (Builtin.delete_ ts ty #[V, U]).run P w = .ok (.tuple #[]) w' ∧ HeapOk w' β F H' ∧ Ext (en w β F H) (en w' β F H') ∧ K H' = some x := by
 unfold exDelete at h
 split at h
 ·rename_i kt vt hd
  split at h
  ·rename_i ks ka vs va r hks hvs
   split at h
   ·rename_i ks' vs' ka' va' l key hH hkey
    split at h
    ·rename_i hh
     obtain ⟨rfl, rfl, rfl, rfl⟩ := hh
     obtain ⟨hr, rfl⟩ := hy
     obtain ⟨es, cl, hb, hes, hborn, hnd⟩ := obj_map ok hH
     obtain ⟨us, hku, hkv⟩ := keyOfSV_rep hkey hk
     obtain ⟨d, hkd, _, hcheck, _, hbits, _⟩ := keySh_spec hks hku hkv hku hkv
     obtain ⟨f, hf, hfound⟩ := findKey_ok hks hku hkv hes
     have hcast : castM (rfl : ks' = ks') (rfl : vs' = vs') l = l := rfl
     rw [hcast] at h
     have hbl : (en w β F H).β r = β r := rfl
     cases f with
     | none =>
      obtain ⟨_, _, h5⟩ := hfound
      obtain ⟨q1, q2⟩ := map_store (l' := mdel ks' vs' l key) ok hH (es' := es) (c' := cl) (by rw [h5]; exact hes) hborn hnd
      refine ⟨_, _, ?_, q1, q2, h⟩
      simp [Builtin.delete_, hts, run_underlying hd, run_getObj' hb, hcheck, hf, run_setObj' hb, hbl]
     | some q =>
      obtain ⟨j, V'⟩ := q
      obtain ⟨l1, p, l2, es1, y, es2, e1, e2, e3, e4, e5, e6, e7, e8, e9⟩ := hfound
      have hj : j = es1.length := by omega
      have hmod : (es.eraseIdxIfInBounds j).toList = es1 ++ es2 := by
       rw [Array.toList_eraseIdxIfInBounds, e2, hj]
       simp [List.eraseIdx_append_of_length_le]
      have hes' := hes
      rw [e1, e2] at hes'
      obtain ⟨s1, y', r', e10, _, _, s2⟩ := RepEntries.split e4 hes'
      cases e10
      obtain ⟨q1, q2⟩ := map_store (l' := mdel ks' vs' l key) ok hH (es' := es.eraseIdxIfInBounds j) (c' := cl) (by rw [e9, hmod]; exact s1.append s2)
       (fun z hz => by
        rw [hmod] at hz
        rw [e2] at hborn
        rcases List.mem_append.1 hz with hz | hz
        ·exact hborn z (List.mem_append_left _ hz)
        ·exact hborn z (by simp [hz]))
       (by
        rw [hmod]
        rw [e2] at hnd
        refine hnd.sublist (List.Sublist.map _ ?_)
        simp)
      refine ⟨_, _, ?_, q1, q2, h⟩
      simp [Builtin.delete_, hts, run_underlying hd, run_getObj' hb, hcheck, hf, run_setObj' hb, hbl]
    ·cases h
   ·cases h
  ·cases h
 ·cases h
theorem exMakeMap_ok {t : TypeId} {rv : Option Value} {K : Sc → Heap → Option R} (h : exMakeMap P t H K = some x) (ok : HeapOk w β F H) (hrv : rv = none ∨ ∃ k n, rv = some (.int k n)) :
  ∃ v w', (Instr.makeMap t rv).run P w = .ok v w' ∧ Sup w w' ∧ ResC w β F H x K v w' := by
 unfold exMakeMap at h
 split at h
 ·rename_i kt vt hd
  split at h
  ·rename_i ks ka vs va hks hvs
   refine ⟨.map (some w.heap.size), w.alloc (.map #[] 0), ?_, sup_alloc w _, .map H.length, _, _, ok_alloc ok _ _ (fun _ _ _ e => by cases e) (fun _ _ _ _ h => by cases h) ?_, ext_alloc _ _ (fun _ _ _ e => by cases e) (fun _ _ _ _ h => by cases h), ⟨by simp [en], by simp [en, upd_eq]⟩, h⟩
   ·rcases hrv with rfl | ⟨k, n, rfl⟩
    ·simp [Instr.makeMap]
    ·simp [Instr.makeMap, run_underlying hd, asInt, asIntOf]
   ·exact ⟨#[], 0, by simp only [en, upd_eq]; exact heap_alloc_new, rfl, by simp, by simp⟩
  ·cases h
 ·cases h
end
end Go.Gx

namespace Go.Gx
section
variable {R : Type} {P : Program} {w : World} {β : Nat → Loc} {F : Nat → Prop} {H : Heap} {fr : Fr} {a : Act} {x : R}
theorem partList_rep (h : Rel w β F H fr a) : ∀ {ps : List (Nat × Operand)} {l : List (Nat × SV)}, partList fr ps = some l → RepParts (en w β F H) l (ps.map fun (i, x) => (i, a.eval x))
 | [], l, hl => by cases hl; exact .nil
 | (i, y) :: ps, l, hl => by
  simp only [partList] at hl
  split at hl
  ·rename_i v l' hv hl'
   cases hl
   exact .cons (evalSV_rep h hv) (partList_rep h hl')
  ·cases hl
theorem capRefs_rep (h : Rel w β F H fr a) : ∀ {ps : List Operand} {l : List Nat}, capRefs fr ps = some l → (∀ r ∈ l, r < H.length) ∧ ps.map a.eval = l.map fun r => Value.pointer (some (addr (en w β F H) r 0))
 | [], l, hl => by cases hl; exact ⟨fun _ h => (nomatch h), rfl⟩
 | y :: ps, l, hl => by
  simp only [capRefs] at hl
  split at hl
  ·rename_i q l' hv hl'
   cases hl
   obtain ⟨h1, h2⟩ := evalS_eq h hv
   obtain ⟨h3, h4⟩ := capRefs_rep h hl'
   refine ⟨fun r hr => ?_, by simp [h2, h4]⟩
   rcases List.mem_cons.1 hr with rfl | hr
   ·exact h1
   ·exact h3 r hr
  ·cases hl
theorem svList_rep (h : Rel w β F H fr a) : ∀ {ps : List Operand} {l : List SV}, svList fr ps = some l → RepSVs (en w β F H) l (ps.map a.eval)
 | [], l, hl => by cases hl; exact rfl
 | y :: ps, l, hl => by
  simp only [svList] at hl
  split at hl
  ·rename_i v l' hv hl'
   cases hl
   exact ⟨_, _, rfl, evalSV_rep h hv, svList_rep h hl'⟩
  ·cases hl
theorem isZ_spec {o : Option Operand} (h : isZ o = true) : ∃ k, o = some (.const (.int k 0)) := by
 unfold isZ at h
 split at h
 ·rename_i k n
  have : n = 0 := by simpa using h
  subst this
  exact ⟨k, rfl⟩
 ·cases h
theorem exMin_ok {e : En} : ∀ {ys : List Sc} {vs : List Value} {y : Sc} {V : Value} {K : Sc → Option R}, exMinMax false y ys K = some x → RepSc e y V → RepSVs e (ys.map .v) vs →
  ∃ r v, (∀ w, (vs.foldlM Builtin.min2 V).run P w = .ok v w) ∧ RepSc e r v ∧ K r = some x
 | [], vs, y, V, K, h, hy, hs => by
  obtain rfl : vs = [] := hs
  exact ⟨y, V, fun w => by simp, hy, h⟩
 | z :: ys, vs, y, V, K, h, hy, ⟨U, us, e1, hz, hs⟩ => by
  subst e1
  unfold exMinMax at h
  split at h
  ·rename_i k p k' q
   obtain rfl : V = _ := hy
   obtain rfl : U = _ := hz
   obtain ⟨r, v, h1, h2, h3⟩ := exMin_ok (V := .int k (if q < p then q else p)) h rfl hs
   exact ⟨r, v, fun w => by simp [Builtin.min2, h1], h2, h3⟩
  ·cases h
theorem exMax_ok {e : En} : ∀ {ys : List Sc} {vs : List Value} {y : Sc} {V : Value} {K : Sc → Option R}, exMinMax true y ys K = some x → RepSc e y V → RepSVs e (ys.map .v) vs →
  ∃ r v, (∀ w, (vs.foldlM Builtin.max2 V).run P w = .ok v w) ∧ RepSc e r v ∧ K r = some x
 | [], vs, y, V, K, h, hy, hs => by
  obtain rfl : vs = [] := hs
  exact ⟨y, V, fun w => by simp, hy, h⟩
 | z :: ys, vs, y, V, K, h, hy, ⟨U, us, e1, hz, hs⟩ => by
  subst e1
  unfold exMinMax at h
  split at h
  ·rename_i k p k' q
   obtain rfl : V = _ := hy
   obtain rfl : U = _ := hz
   obtain ⟨r, v, h1, h2, h3⟩ := exMax_ok (V := .int k (if p < q then q else p)) h rfl hs
   exact ⟨r, v, fun w => by simp [Builtin.max2, h1], h2, h3⟩
  ·cases h
theorem evalS_list (h : Rel w β F H fr a) : ∀ (ps : List Operand), RepSVs (en w β F H) ((ps.map (evalS fr)).map .v) (ps.map a.eval)
 | [] => rfl
 | y :: ps => ⟨_, _, rfl, evalS_rep h y, evalS_list h ps⟩
theorem RepSVs.get {e : En} : ∀ {l : List SV} {vs : List Value} {i : Nat} {v : SV}, RepSVs e l vs → l[i]? = some v → ∃ V, vs[i]? = some V ∧ RepSV e v V
 | [], _, i, v, _, hv => by simp at hv
 | y :: l, _, 0, v, ⟨V, vs, e1, h1, h2⟩, hv => by
  subst e1
  simp at hv
  subst hv
  exact ⟨V, by simp, h1⟩
 | y :: l, _, i + 1, v, ⟨V, vs, e1, h1, h2⟩, hv => by
  subst e1
  obtain ⟨U, h3, h4⟩ := h2.get (i := i) (by simpa using hv)
  exact ⟨U, by simpa using h3, h4⟩
def RdOk {R : Type} (P : Program) (w : World) (β : Nat → Loc) (F : Nat → Prop) (H : Heap) (x : R) (K : Slot → Option R) (m : Sem Next) : Prop :=
 ∃ s v, (∀ w', Sup w w' → m.run P w' = .ok (.value v) w') ∧ RepSlot (en w β F H) s v ∧ K s = some x
theorem RdOk.sc {K : Slot → Option R} {m : Sem Value} (h : ∃ r v, Stays P m w v ∧ RepSc (en w β F H) r v ∧ K (.sv (.v r)) = some x) : RdOk P w β F H x K (do pure (.value (← m))) := by
 obtain ⟨r, v, h1, h2, h3⟩ := h
 exact ⟨.sv (.v r), v, fun w' hw => run_value (h1 w' hw), h2, h3⟩
theorem RdOk.svv {K : Slot → Option R} {m : Sem Value} (h : ∃ r v, Stays P m w v ∧ RepSV (en w β F H) r v ∧ K (.sv r) = some x) : RdOk P w β F H x K (do pure (.value (← m))) := by
 obtain ⟨r, v, h1, h2, h3⟩ := h
 exact ⟨.sv r, v, fun w' hw => run_value (h1 w' hw), h2, h3⟩
theorem builtin_run (b : Go.Builtin) (c : Call) (ty : TypeId) (hb : c.callee = .builtin b) (ρ : Operand → Value) :
  ∃ cs, ∀ w, (do let d ← resolve ρ c ty; invoke d.target d.args : Sem Next).run P w = (builtin b c.argTypes ty cs (c.args.map ρ)).run P w := by
 unfold resolve
 rw [hb]
 refine ⟨c.args.map fun | .const _ => true | _ => false, fun w => ?_⟩
 simp only [Sem.run_bind, Sem.run_pure, Result.andThen_ok, invoke]
 rfl
theorem toList_one {α : Type} {a : Array α} {x : α} (h : a.toList = [x]) : a = #[x] := Array.ext' h
theorem toList_two {α : Type} {a : Array α} {x y : α} (h : a.toList = [x, y]) : a = #[x, y] := Array.ext' h
set_option maxHeartbeats 1000000 in
theorem exRead_ok {o : Oper} {K : Slot → Option R} (hr : exRead P fr H o.op K = some x) (h : Rel w β F H fr a) : RdOk P w β F H x K (execOp a.eval o) := by
 unfold exRead at hr
 split at hr
 ·rename_i y e
  exact ⟨_, _, fun w' _ => by simp [execOp, e], evalO_rep h y, hr⟩
 ·rename_i y e
  exact ⟨_, _, fun w' _ => by simp [execOp, e], evalO_rep h y, hr⟩
 ·rename_i c y z e
  split at hr
  ·rename_i b hb
   have hc : a.eval c = .bool b := evalS_eq h hb
   cases b with
   | true => exact ⟨_, _, fun w' _ => by simp [execOp, e, hc, asBool], evalO_rep h y, hr⟩
   | false => exact ⟨_, _, fun w' _ => by simp [execOp, e, hc, asBool], evalO_rep h z, hr⟩
  ·cases hr
 ·rename_i t ps e
  split at hr
  ·rename_i l hl
   obtain ⟨v, V, h1, h2, h3⟩ := exBuild_ok (Ps := ps.map fun (i, x) => (i, a.eval x)) hr (by have := partList_rep h hl; simpa using this) w
   exact ⟨.sv v, _, fun w' hw => by simp only [execOp, e]; exact run_value (h1 w' hw), h2, h3⟩
  ·cases hr
 ·rename_i t y e
  split at hr
  ·rename_i agg n ht
   simp only [execOp, e]
   exact .svv (loadAt_ok ht hr h.ok (evalS_rep h y))
  ·cases hr
 ·rename_i y e
  split at hr
  ·rename_i hy
   have hv := evalS_eq h hy
   obtain ⟨h1, h2⟩ := id hv
   refine ⟨_, a.eval y, ?_, ?_, hr⟩
   ·exact fun w' _ => by simp [execOp, e, h2]
   ·exact hv
  ·rename_i hy
   have hv := evalS_eq h hy
   obtain ⟨h1, h2⟩ := id hv
   refine ⟨_, a.eval y, ?_, ?_, hr⟩
   ·exact fun w' _ => by simp [execOp, e, h2]
   ·exact hv
  ·rename_i hy
   have hv := evalS_eq h hy
   obtain ⟨h1, ad, h3, h4, h2⟩ := id hv
   refine ⟨_, a.eval y, ?_, ?_, hr⟩
   ·exact fun w' _ => by simp [execOp, e, h2]
   ·exact hv
  ·rename_i t' i hy
   have hv := evalS_eq h hy
   obtain ⟨hb, hr⟩ := br_none hr
   have h0 : 0 ≤ i := of_decide_eq_true hb
   rcases id hv with ⟨h1, _⟩ | ⟨_, b, _, h2⟩
   ·omega
   refine ⟨_, a.eval y, ?_, ?_, hr⟩
   ·exact fun w' _ => by simp [execOp, e, h2]
   ·exact hv
  ·rename_i hy
   have hv := evalS_eq h hy
   obtain ⟨_, b, m, _, _, h2⟩ := id hv
   refine ⟨_, a.eval y, ?_, ?_, hr⟩
   ·exact fun w' _ => by simp [execOp, e, h2]
   ·exact hv
  ·rename_i hy
   have hv := evalS_eq h hy
   obtain ⟨h1, h2⟩ := id hv
   refine ⟨_, a.eval y, ?_, ?_, hr⟩
   ·exact fun w' _ => by simp [execOp, e, h2]
   ·exact hv
  ·cases hr
 ·rename_i op t y z p e
  simp only [execOp, e]
  split at hr
  ·rename_i l m hl hm
   have hV : RepSV (en w β F H) (.agg l) (a.eval y) := by have := evalO_rep h y; rw [hl] at this; exact this
   have hU : RepSV (en w β F H) (.agg m) (a.eval z) := by have := evalO_rep h z; rw [hm] at this; exact this
   split at hr
   ·obtain ⟨b, q1, q2, q3, vs, us, q4, q5⟩ := exEqAgg_ok hr hV hU
    rw [q4, q5] at q2 q3
    refine ⟨.sv (.v (.bool b)), .bool b, fun w' _ => ?_, rfl, q1⟩
    refine run_value ?_
    rw [q4, q5]
    simp [q3, binOp, q2]
   ·obtain ⟨b, q1, q2, q3, vs, us, q4, q5⟩ := exEqAgg_ok hr hV hU
    rw [q4, q5] at q2 q3
    refine ⟨.sv (.v (.bool (!b))), .bool (!b), fun w' _ => ?_, rfl, q1⟩
    refine run_value ?_
    rw [q4, q5]
    simp [q3, binOp, q2]
   ·cases hr
  ·exact .sc (exBin_ok hr (evalS_rep h y) (evalS_rep h z) w y z)
 ·rename_i op t y e
  simp only [execOp, e]
  exact .sc (exUn_ok hr (evalS_rep h y) w)
 ·rename_i s d y e
  simp only [execOp, e]
  exact .sc (exConvert_ok hr h.ok (widen_rep h.ok (evalS_rep h y)))
 ·rename_i fn first captured e
  split at hr
  ·rename_i f caps hf hc
   have hf : first = #[] := Array.ext' hf
   subst hf
   obtain ⟨h1, h2⟩ := capRefs_rep h hc
   refine ⟨.sv (.v (.fn f caps)), _, fun w' _ => by simp [execOp, e, Instr.makeFunc]; rfl, ⟨h1, ?_⟩, hr⟩
   rw [← h2]
   congr 1
   apply Array.ext'
   simp
  ·cases hr
 ·rename_i t y lo hi mx e
  simp only [execOp, e]
  cases hz : (isZ hi && isZ mx && lo.isNone) with
  | true =>
   rw [hz] at hr
   simp only [Bool.and_eq_true] at hz
   obtain ⟨kh, rfl⟩ := isZ_spec hz.1.1
   obtain ⟨km, rfl⟩ := isZ_spec hz.1.2
   cases lo with
   | some _ => simp at hz
   | none => exact .sc (exClip_ok (K := fun v => K (.sv (.v v))) hr (widen_rep h.ok (evalS_rep h y)) w)
  | false =>
   rw [hz] at hr
   simp only [cond_false] at hr
   split at hr
   ·rename_i l hh m hl hhh hm
    exact .sc (exSlice_ok hr h.ok (widen_rep h.ok (evalS_rep h y)) (optI_ok h hl) (optI_ok h hhh) (optI_ok h hm))
   ·cases hr
 ·rename_i t y f e
  simp only [execOp, e]
  exact .sc (exFieldAddr_ok hr (evalS_rep h y) w)
 ·rename_i t y f e
  simp only [execOp, e]
  exact .svv (exField_ok hr (evalO_rep h y) w)
 ·rename_i t y i e
  simp only [execOp, e]
  exact .sc (exIndexAddr_ok hr (widen_rep h.ok (evalS_rep h y)) (evalS_rep h i) w)
 ·rename_i t y i e
  simp only [execOp, e]
  exact .svv (exIndex_ok hr (evalO_rep h y) (evalS_rep h i) w)
 ·rename_i t y i ok e
  split at hr
  ·rename_i k hk
   obtain ⟨s, v, h1, h2, h3⟩ := exLookup_ok hr h.ok (evalS_rep h y) (evalSV_rep h hk)
   exact ⟨s, v, fun w' hw => by simp only [execOp, e]; exact run_value (h1 w' hw), h2, h3⟩
  ·cases hr
 ·rename_i y i e
  split at hr
  ·rename_i l hl
   split at hr
   ·rename_i v hv
    have := evalO_rep h y
    rw [hl] at this
    obtain ⟨vs, h1, h2⟩ := this
    obtain ⟨V, h3, h4⟩ := h2.get hv
    exact ⟨.sv v, V, fun w' _ => by simp [execOp, e, Instr.extract, h1, h3], h4, hr⟩
   ·cases hr
  ·cases hr
 ·rename_i c e
  split at hr
  ·rename_i b hb
   obtain ⟨cs, hrun⟩ := builtin_run (P := P) b c o.type hb a.eval
   replace hrun : ∀ w, (execOp a.eval o).run P w = (builtin b c.argTypes o.type cs (c.args.map a.eval)).run P w := fun w => by
    simp only [execOp, e]
    exact hrun w
   split at hr
   ·split at hr
    ·rename_i y t hy ht
     have hy := toList_one hy
     have ht := toList_one ht
     obtain ⟨n, h1, h2⟩ := exLen_ok (ts := c.argTypes) hr h.ok (widen_rep h.ok (evalS_rep h y)) o.type (by rw [ht]; rfl)
     exact ⟨.sv (.v (.int .i64 n)), _, fun w' hw => by rw [hrun, hy]; simp only [builtin, List.map_toArray, List.map_cons, List.map_nil]; exact run_value (h1 w' hw), rfl, h2⟩
    ·cases hr
   ·split at hr
    ·rename_i y ys hy
     cases hc : c.args.toList with
     | nil => rw [hc] at hy; simp at hy
     | cons p ps =>
      rw [hc] at hy
      simp only [List.map_cons, List.cons.injEq] at hy
      obtain ⟨rfl, rfl⟩ := hy
      obtain ⟨r, v, h1, h2, h3⟩ := exMin_ok (P := P) hr (evalS_rep h p) (evalS_list h ps)
      refine ⟨.sv (.v r), v, ?_, h2, h3⟩
      intro w' hw
      rw [hrun]
      refine run_value ?_
      simp [Builtin.min_, hc, h1]
    ·cases hr
   ·split at hr
    ·rename_i y ys hy
     cases hc : c.args.toList with
     | nil => rw [hc] at hy; simp at hy
     | cons p ps =>
      rw [hc] at hy
      simp only [List.map_cons, List.cons.injEq] at hy
      obtain ⟨rfl, rfl⟩ := hy
      obtain ⟨r, v, h1, h2, h3⟩ := exMax_ok (P := P) hr (evalS_rep h p) (evalS_list h ps)
      refine ⟨.sv (.v r), v, ?_, h2, h3⟩
      intro w' hw
      rw [hrun]
      refine run_value ?_
      simp [Builtin.max_, hc, h1]
    ·cases hr
   ·split at hr
    ·rename_i y t hy ht
     have hy := toList_one hy
     have ht := toList_one ht
     obtain ⟨n, h1, h2⟩ := exCap_ok (ts := c.argTypes) hr (evalS_rep h y) o.type (by rw [ht]; rfl)
     exact ⟨.sv (.v (.int .i64 n)), _, fun w' hw => by rw [hrun, hy]; simp only [builtin, List.map_toArray, List.map_cons, List.map_nil]; exact run_value (h1 w' hw), rfl, h2⟩
    ·cases hr
   ·cases hr
  ·cases hr
 ·cases hr
end
end Go.Gx

namespace Go.Gx
section
variable {w : World} {β : Nat → Loc} {F : Nat → Prop} {H : Heap}
structure Ren (f : Nat → Nat) (S Q : Nat → Prop) (e e' : En) : Prop where
 w : e'.w = e.w
 av : ∀ b, e'.av b → e.av b
 lt : ∀ r, S r → f r < e'.n
 β : ∀ r, S r → e'.β (f r) = e.β r
 sz : ∀ r m, S r → e'.sz (f r) = some m → e.sz r = some m
 pb : ∀ t, Q t → PbS e.pb e'.pb t
namespace Ren
variable {f : Nat → Nat} {S Q : Nat → Prop} {e e' : En}
theorem kp (h : Ren f S Q e e') : KpB e.w e.av e'.w e'.av := fun b _ hav => ⟨by rw [h.w], fun h' => hav (h.av b h')⟩
theorem addr (h : Ren f S Q e e') {r o : Nat} (hr : S r) : Gx.addr e' (f r) o = Gx.addr e r o := by simp [Gx.addr, h.β r hr]
theorem sc (h : Ren f S Q e e') {x : Sc} {V : Value} (hs : ∀ r ∈ scRefs x, S r) (ht : ∀ t ∈ scTags x, Q t) (k : RepSc e x V) : RepSc e' (mapSc f x) V := by
 cases x with
 | int | bool | str | nilp | nils | nilm | nilf | undef => exact k
 | ptr r o =>
  have hr := hs r (by simp [scRefs])
  exact ⟨h.lt r hr, by rw [h.addr hr]; exact k.2⟩
 | el r o i z =>
  have hr := hs r (by simp [scRefs])
  exact ⟨h.lt r hr, by rw [h.addr hr]; exact k.2⟩
 | eptr s l i o =>
  obtain ⟨hi, ad, hav, hrow, hV⟩ := k
  obtain ⟨_, c, t, fz, hc, _⟩ := id hrow
  obtain ⟨h1, h2⟩ := h.kp ad.block (lt_of_heap hc) hav
  exact ⟨hi, ad, h2, hrow.mono h1 fun y us _ hy => hy.monoT h.kp _ _ _ fun t h' => h.pb t (ht t h'), hV⟩
 | sl r o z lo len cap =>
  have hr := hs r (by simp [scRefs])
  obtain ⟨_, hc, A, C, hV, hC, hl⟩ := k
  refine ⟨h.lt r hr, hc, A, C, hV, hC, fun h0 => ?_⟩
  obtain ⟨hA, hv, c, t, fz, hx, hs'⟩ := hl h0
  exact ⟨by rw [h.addr hr]; exact hA, by rw [h.β r hr]; exact hv, c, t, fz, by rw [h.β r hr, h.w]; exact hx, by rw [h.β r hr]; exact hs'⟩
 | wl r z =>
  have hr := hs r (by simp [scRefs])
  obtain ⟨_, A, len, C, hV, hC, hm, hl⟩ := k
  refine ⟨h.lt r hr, A, len, C, hV, hC, fun m hm' => hm m (h.sz r m hr hm'), fun h0 => ?_⟩
  obtain ⟨hA, hv, c, t, fz, hx, hs'⟩ := hl h0
  exact ⟨by rw [h.addr hr]; exact hA, by rw [h.β r hr]; exact hv, c, t, fz, by rw [h.β r hr, h.w]; exact hx, by rw [h.β r hr]; exact hs'⟩
 | isl s l => exact RepL.mono k h.kp fun y us _ hy => hy.monoT h.kp _ _ _ fun t h' => h.pb t (ht t h')
 | emp => exact k
 | map r =>
  have hr := hs r (by simp [scRefs])
  exact ⟨h.lt r hr, by rw [h.β r hr]; exact k.2⟩
 | fn g caps =>
  have hr : ∀ r ∈ caps, S r := hs
  obtain ⟨k1, k2⟩ := k
  refine ⟨fun r hr' => ?_, ?_⟩
  ·obtain ⟨q, hq, rfl⟩ := List.mem_map.1 hr'
   exact h.lt q (hr q hq)
  ·rw [k2, List.map_map]
   congr 2
   exact List.map_congr_left fun r hr' => by simp [h.addr (hr r hr')]
 | rf pk t i => exact RefV.mono (h.pb t (ht t (by simp [scTags]))) k
 | pi t i j z o =>
  obtain ⟨h0, b, m, h1, h2⟩ := k
  exact ⟨h0, b, m, h.pb t (ht t (by simp [scTags])) _ _ _ h1, h2⟩
 | ps t i z lo len =>
  obtain ⟨A, C, h1, h2, h3⟩ := k
  refine ⟨A, C, h1, h2, fun h0 => ?_⟩
  obtain ⟨h4, b, m, h5, h6⟩ := h3 h0
  exact ⟨h4, b, m, h.pb t (ht t (by simp [scTags])) _ _ _ h5, h6⟩
theorem segs (h : Ren f S Q e e') : ∀ {l : List Seg} {vs : List Value}, (∀ r ∈ segRefs l, S r) → (∀ t ∈ segTags l, Q t) → RepSegs e l vs → RepSegs e' (mapSegs f l) vs
 | [], _, _, _, k => k
 | .c x :: l, vs, hs, ht, ⟨V, v, e1, h0, h1, h2⟩ => ⟨V, v, e1, h0, h.sc (fun r hr => hs r (by simp [segRefs, hr])) (fun r hr => ht r (by simp [segTags, hr])) h1, h.segs (fun r hr => hs r (by simp [segRefs, hr])) (fun r hr => ht r (by simp [segTags, hr])) h2⟩
 | .row s n y :: l, vs, hs, ht, ⟨hn, u, v, e1, h1, h2⟩ => ⟨hn, u, v, e1, h1.monoT h.kp (fun t h' => h.pb t (ht t (by simp [segTags, h']))), h.segs hs (fun r hr => ht r (by simp [segTags, hr])) h2⟩
theorem sv (h : Ren f S Q e e') {x : SV} {V : Value} (hs : ∀ r ∈ svRefs x, S r) (ht : ∀ t ∈ segTags (svSegs x), Q t) (k : RepSV e x V) : RepSV e' (mapSV f x) V := by
 cases x with
 | v y => exact h.sc (fun r hr => hs r (by simp [svRefs, svSegs, segRefs, hr])) (fun r hr => ht r (by simp [svSegs, segTags, hr])) k
 | agg l =>
  obtain ⟨vs, hV, hl⟩ := k
  exact ⟨vs, hV, h.segs hs ht hl⟩
theorem svs (h : Ren f S Q e e') : ∀ {l : List SV} {vs : List Value}, (∀ r ∈ svsRefs l, S r) → (∀ t ∈ svsTags l, Q t) → RepSVs e l vs → RepSVs e' (l.map (mapSV f)) vs
 | [], _, _, _, k => k
 | x :: l, vs, hs, ht, ⟨V, v, e1, h1, h2⟩ => ⟨V, v, e1, h.sv (fun r hr => hs r (by simp [svsRefs, hr])) (fun r hr => ht r (by simp [svsTags, hr])) h1, h.svs (fun r hr => hs r (by simp [svsRefs, hr])) (fun r hr => ht r (by simp [svsTags, hr])) h2⟩
theorem slot (h : Ren f S Q e e') {x : Slot} {V : Value} (hs : ∀ r ∈ slotRefs x, S r) (ht : ∀ t ∈ slotTags x, Q t) (k : RepSlot e x V) : RepSlot e' (mapSlot f x) V := by
 cases x with
 | sv y => exact h.sv hs ht k
 | tup l =>
  obtain ⟨vs, hV, hl⟩ := k
  exact ⟨vs, hV, h.svs hs ht hl⟩
 | undef => trivial
end Ren
theorem mapSegs_size (f : Nat → Nat) : ∀ l, segsSize (mapSegs f l) = segsSize l
 | [] => rfl
 | .c x :: l => by simp [mapSegs, segsSize, segSize, mapSegs_size f l]
 | .row s n y :: l => by simp [mapSegs, segsSize, segSize, mapSegs_size f l]
theorem szO_map {f : Nat → Nat} {o : Obj} : szO (mapObj f o) = szO o := by
 cases o with
 | cells l => simp [mapObj, szO, mapSegs_size]
 | map => rfl
 | ice => rfl
 | dead => rfl
 | pool => rfl
theorem owns_map {f : Nat → Nat} {p : Loc} {o : Obj} : owns p (mapObj f o) ↔ owns p o := by
 cases o with
 | cells l => rfl
 | map => rfl
 | ice => rfl
 | dead => rfl
 | pool => rfl
theorem has_map {f : Nat → Nat} {p : Loc} {o : Obj} {b : Nat} : has p (mapObj f o) b ↔ has p o b := by
 cases o with
 | cells l => rfl
 | map => rfl
 | ice => rfl
 | dead => rfl
 | pool => rfl
theorem map_pool {f : Nat → Nat} {o : Obj} {k : Bool} {t : Nat} {s : Sh} {l : List s.T} (h : mapObj f o = .pool k t s l) : o = .pool k t s l := by
 cases o with
 | cells l => cases h
 | map => cases h
 | ice => cases h
 | dead => cases h
 | pool => exact h
theorem RepEntries.ren {f : Nat → Nat} {S Q : Nat → Prop} {e e' : En} (h : Ren f S Q e e') {ks vs : Sh} {ka va : Bool} (ht : ∀ t ∈ shTags ks ++ shTags vs, Q t) : ∀ {l : List (ks.T × vs.T)} {es : List MapEntry}, RepEntries e ks vs ka va l es → RepEntries e' ks vs ka va l es
 | [], _, k => k
 | p :: l, es, k => by
  obtain ⟨x, r, e1, ⟨us, h1, h2⟩, ⟨ws, h3, h4⟩, h5⟩ := k
  exact ⟨x, r, e1, ⟨us, h1.monoT h.kp _ _ _ fun t h' => h.pb t (ht t (List.mem_append_left _ h')), h2⟩, ⟨ws, h3.monoT h.kp _ _ _ fun t h' => h.pb t (ht t (List.mem_append_right _ h')), h4⟩, RepEntries.ren h ht h5⟩
theorem RepObj.ren {f : Nat → Nat} {S Q : Nat → Prop} {e e' : En} (h : Ren f S Q e e') {r : Nat} (hr : S r) {o : Obj} (hs : ∀ q ∈ objSegRefs o, S q) (ht : ∀ t ∈ objTags o, Q t) (k : RepObj e r o) : RepObj e' (f r) (mapObj f o) := by
 cases o with
 | cells l =>
  obtain ⟨vs, h3, k0, k⟩ := k
  refine ⟨vs, h.segs hs ht h3, fun h0 => by rw [mapSegs_size]; exact k0 (by rw [h.β r hr] at h0; exact h0), fun h0 => ?_⟩
  rw [h.β r hr] at h0
  obtain ⟨c, t, pre, post, hc, h1, h2⟩ := k h0
  exact ⟨c, t, pre, post, by rw [h.β r hr, h.w]; exact hc, h1, by rw [h.β r hr]; exact h2⟩
 | map ks vs ka va l =>
  obtain ⟨es, clock, hc, h1, h2, h3⟩ := k
  exact ⟨es, clock, by rw [h.β r hr, h.w]; exact hc, h1.ren h ht, h2, h3⟩
 | ice s l =>
  intro hl
  obtain ⟨h1, h2⟩ := k hl
  obtain ⟨_, c, t, fz, hc, _⟩ := id h2
  have hc : e.w.heap[(e.β r).b]? = some (.cells c t fz) := hc
  obtain ⟨h3, h4⟩ := h.kp _ (lt_of_heap hc) h1
  have ha : addr e' (f r) 0 = addr e r 0 := by simp [addr, h.β r hr]
  rw [h.β r hr, ha]
  exact ⟨h4, h2.mono h3 fun y us _ hy => hy.monoT h.kp _ _ _ fun t h' => h.pb t (ht t h')⟩
 | dead => trivial
 | pool pk t s l =>
  refine ⟨fun i x hi => ?_, fun i j => by rw [h.β r hr]; exact k.2 i j⟩
  rw [h.β r hr]
  obtain ⟨c, ty, h1, h2⟩ := k.1 i x hi
  refine ⟨c, ty, by rw [h.w]; exact h1, ?_⟩
  have hp : ∀ t ∈ shTags s, PbS e.pb e'.pb t := fun t h' => h.pb t (ht t h')
  unfold PoolC at h2 ⊢
  split at h2
  ·obtain ⟨vs, post, h3, h4⟩ := h2
   exact ⟨vs, post, h3, h4.monoT h.kp _ _ _ hp⟩
  ·obtain ⟨vs, post, h3, h4⟩ := h2
   refine ⟨vs, post, h3, RepRow.monoT h.kp ?_ _ _ h4⟩
   exact hp
  ·exact h2.elim
/-! ### what is reached -/
theorem scRefs_lt {e : En} {x : Sc} {V : Value} (k : RepSc e x V) : ∀ r ∈ scRefs x, r < e.n := by
 intro r hr
 cases x <;> simp [scRefs] at hr
 case ptr => rw [hr]; exact k.1
 case el => rw [hr]; exact k.1
 case sl => rw [hr]; exact k.1
 case wl => rw [hr]; exact k.1
 case map => rw [hr]; exact k.1
 case fn => exact k.1 r hr
theorem segRefs_lt {e : En} : ∀ {l : List Seg} {vs : List Value}, RepSegs e l vs → ∀ r ∈ segRefs l, r < e.n
 | [], _, _, r, hr => by simp [segRefs] at hr
 | .c x :: l, vs, ⟨V, v, e1, h0, h1, h2⟩, r, hr => by
  simp only [segRefs, List.mem_append] at hr
  rcases hr with hr | hr
  ·exact scRefs_lt h1 r hr
  ·exact segRefs_lt h2 r hr
 | .row s n y :: l, vs, ⟨hn, u, v, e1, h1, h2⟩, r, hr => segRefs_lt h2 r hr
theorem svRefs_lt {e : En} {x : SV} {V : Value} (k : RepSV e x V) : ∀ r ∈ svRefs x, r < e.n := by
 intro r hr
 cases x with
 | v y => simp only [svRefs, svSegs, segRefs, List.append_nil] at hr; exact scRefs_lt k r hr
 | agg l => obtain ⟨vs, _, hl⟩ := k; exact segRefs_lt hl r hr
theorem svsRefs_lt {e : En} : ∀ {l : List SV} {vs : List Value}, RepSVs e l vs → ∀ r ∈ svsRefs l, r < e.n
 | [], _, _, r, hr => by simp [svsRefs] at hr
 | x :: l, vs, ⟨V, v, e1, h1, h2⟩, r, hr => by
  simp only [svsRefs, List.mem_append] at hr
  rcases hr with hr | hr
  ·exact svRefs_lt h1 r hr
  ·exact svsRefs_lt h2 r hr
theorem slotRefs_lt {e : En} {x : Slot} {V : Value} (k : RepSlot e x V) : ∀ r ∈ slotRefs x, r < e.n := by
 intro r hr
 cases x with
 | sv y => exact svRefs_lt k r hr
 | tup l => obtain ⟨vs, _, hl⟩ := k; exact svsRefs_lt hl r hr
 | undef => simp [slotRefs] at hr
theorem objSegRefs_lt (ok : HeapOk w β F H) {r : Nat} {o : Obj} (h : H[r]? = some o) : ∀ q ∈ objSegRefs o, q < H.length := by
 intro q hq
 cases o with
 | cells l => obtain ⟨vs, hl, _⟩ := ok.obj r _ h; exact segRefs_lt hl q hq
 | map => simp [objSegRefs] at hq
 | ice => simp [objSegRefs] at hq
 | dead => simp [objSegRefs] at hq
 | pool => simp [objSegRefs] at hq
theorem tagRefs_lt : ∀ {ts : List Nat}, ∀ q ∈ tagRefs H ts, q < H.length
 | [], q, hq => nomatch hq
 | t :: ts, q, hq => by
  simp only [tagRefs] at hq
  split at hq
  ·rename_i r hr
   rcases List.mem_cons.1 hq with rfl | hq
   ·obtain ⟨k, s, l, h⟩ := poolAt_spec hr
    exact lt_len h
   ·exact tagRefs_lt q hq
  ·exact tagRefs_lt q hq
theorem tagRefs_mem {t r : Nat} (h : poolAt H t = some r) : ∀ {ts : List Nat}, t ∈ ts → r ∈ tagRefs H ts
 | t' :: ts, ht => by
  simp only [tagRefs]
  rcases List.mem_cons.1 ht with rfl | ht
  ·rw [h]; exact List.mem_cons_self
  ·split
   ·exact List.mem_cons_of_mem _ (tagRefs_mem h ht)
   ·exact tagRefs_mem h ht
theorem objRefs_lt (ok : HeapOk w β F H) {r : Nat} {o : Obj} (h : H[r]? = some o) : ∀ q ∈ objRefs H o, q < H.length := by
 intro q hq
 rcases List.mem_append.1 hq with hq | hq
 ·exact objSegRefs_lt ok h q hq
 ·exact tagRefs_lt q hq
theorem getD_refs_lt (ok : HeapOk w β F H) (r : Nat) : ∀ q ∈ objRefs H (H.getD r .dead), q < H.length := by
 intro q hq
 cases h : H[r]? with
 | none => simp [List.getD, h, objRefs, objSegRefs, objTags, tagRefs] at hq
 | some o =>
  have : H.getD r .dead = o := by simp [List.getD, h]
  rw [this] at hq
  exact objRefs_lt ok h q hq
def Closed (H : Heap) (rs : List Nat) : Prop := ∀ r ∈ rs, ∀ q ∈ objRefs H (H.getD r .dead), q ∈ rs
theorem reach_spec (ok : HeapOk w β F H) : ∀ (n : Nat) (todo acc rs : List Nat), reach H n todo acc = some rs → (∀ r ∈ acc, ∀ q ∈ objRefs H (H.getD r .dead), q ∈ acc ∨ q ∈ todo) → acc.Nodup →
  (∀ r ∈ acc, r < H.length) → (∀ r ∈ todo, r < H.length) → (∃ t, rs = acc ++ t) ∧ (∀ q ∈ todo, q ∈ rs) ∧ Closed H rs ∧ rs.Nodup ∧ ∀ r ∈ rs, r < H.length
 | n, [], acc, rs, h, hinv, hnd, hlt, _ => by
  have h : some acc = some rs := by cases n <;> exact h
  cases h
  exact ⟨⟨[], by simp⟩, fun q hq => (nomatch hq), fun r hr q hq => (hinv r hr q hq).resolve_right (fun h => nomatch h), hnd, hlt⟩
 | 0, _ :: _, acc, rs, h, _, _, _, _ => by cases h
 | n + 1, r :: todo, acc, rs, h, hinv, hnd, hlt, htd => by
  simp only [reach] at h
  cases hc : acc.contains r with
  | true =>
   rw [hc] at h
   have hr : r ∈ acc := by simpa using hc
   obtain ⟨h1, h2, h3⟩ := reach_spec ok n todo acc rs h (fun q hq p hp => by
    rcases hinv q hq p hp with h | h
    ·exact .inl h
    ·rcases List.mem_cons.1 h with rfl | h
     ·exact .inl hr
     ·exact .inr h) hnd hlt (fun q hq => htd q (List.mem_cons_of_mem _ hq))
   refine ⟨h1, fun q hq => ?_, h3⟩
   rcases List.mem_cons.1 hq with rfl | hq
   ·obtain ⟨t, rfl⟩ := h1
    exact List.mem_append_left _ hr
   ·exact h2 q hq
  | false =>
   rw [hc] at h
   have hr : r ∉ acc := by
    intro h'
    have : acc.contains r = true := by simpa using h'
    rw [hc] at this
    cases this
   obtain ⟨⟨t, h1⟩, h2, h3⟩ := reach_spec ok n (objRefs H (H.getD r .dead) ++ todo) (acc ++ [r]) rs h (fun q hq p hp => by
    rcases List.mem_append.1 hq with hq | hq
    ·rcases hinv q hq p hp with h | h
     ·exact .inl (List.mem_append_left _ h)
     ·rcases List.mem_cons.1 h with rfl | h
      ·exact .inl (by simp)
      ·exact .inr (List.mem_append_right _ h)
    ·rw [List.mem_singleton.1 hq] at hp
     exact .inr (List.mem_append_left _ hp)) (by
    rw [List.nodup_append]
    refine ⟨hnd, by simp, fun a ha b hb => ?_⟩
    rw [List.mem_singleton.1 hb]
    exact fun e => hr (e ▸ ha)) (fun q hq => by
    rcases List.mem_append.1 hq with hq | hq
    ·exact hlt q hq
    ·rw [List.mem_singleton.1 hq]; exact htd r (by simp)) (fun q hq => by
    rcases List.mem_append.1 hq with hq | hq
    ·exact getD_refs_lt ok r q hq
    ·exact htd q (List.mem_cons_of_mem _ hq))
   refine ⟨⟨[r] ++ t, by rw [h1, List.append_assoc]⟩, fun q hq => ?_, h3⟩
   rcases List.mem_cons.1 hq with rfl | hq
   ·rw [h1]; simp
   ·exact h2 q (List.mem_append_right _ hq)
theorem idx_lt : ∀ {rs : List Nat} {r : Nat}, r ∈ rs → idx rs r < rs.length ∧ rs[idx rs r]? = some r
 | [], r, h => by cases h
 | x :: t, r, h => by
  simp only [idx]
  cases hb : Nat.beq x r with
  | true =>
   have := Nat.eq_of_beq_eq_true hb
   subst this
   simp
  | false =>
   have hne : x ≠ r := fun e => by subst e; simp at hb
   obtain ⟨h1, h2⟩ := idx_lt (rs := t) (r := r) ((List.mem_cons.1 h).resolve_left (Ne.symm hne))
   simp only [cond_false, List.length_cons, List.getElem?_cons_succ]
   exact ⟨by omega, h2⟩
/-! ### a part of a heap -/
def part (H : Heap) (rs : List Nat) : Heap := rs.map fun r => mapObj (idx rs) (H.getD r .dead)
def partβ (β : Nat → Loc) (rs : List Nat) : Nat → Loc := fun i => β (rs.getD i 0)
theorem part_get {rs : List Nat} {i : Nat} {o : Obj} (h : (part H rs)[i]? = some o) : ∃ r, rs[i]? = some r ∧ o = mapObj (idx rs) (H.getD r .dead) := by
 unfold part at h
 rw [List.getElem?_map] at h
 cases hr : rs[i]? with
 | none => rw [hr] at h; cases h
 | some r => rw [hr] at h; simp at h; exact ⟨r, rfl, h.symm⟩
theorem getD_get {r : Nat} (h : r < H.length) : H[r]? = some (H.getD r .dead) := by
 simp [List.getD, List.getElem?_eq_getElem h]
theorem get_unique {rs : List Nat} (hnd : rs.Nodup) {i j r : Nat} (hi : rs[i]? = some r) (hj : rs[j]? = some r) : i = j := by
 obtain ⟨h1, h2⟩ := List.getElem?_eq_some_iff.1 hi
 obtain ⟨h3, h4⟩ := List.getElem?_eq_some_iff.1 hj
 have hp := List.pairwise_iff_getElem.1 hnd
 rcases Nat.lt_trichotomy i j with h | h | h
 ·exact absurd (h2.trans h4.symm) (hp i j h1 h3 h)
 ·exact h
 ·exact absurd (h4.trans h2.symm) (hp j i h3 h1 h)
def InPool (H : Heap) (rs : List Nat) (t : Nat) : Prop := ∀ (r : Nat) (k : Bool) (s : Sh) (l : List s.T), H[r]? = some (Obj.pool k t s l) → r ∈ rs
theorem InPool.of (ok : HeapOk w β F H) {rs ts : List Nat} (h : ∀ q ∈ tagRefs H ts, q ∈ rs) {t : Nat} (ht : t ∈ ts) : InPool H rs t := fun r k s l hr => by
 cases hp : poolAt H t with
 | none => exact absurd hr (poolAt_none hp r k s l)
 | some r' =>
  obtain ⟨k', s', l', h'⟩ := poolAt_spec hp
  rw [ok.uni _ _ _ _ _ _ _ _ _ hr h']
  exact h _ (tagRefs_mem hp ht)
theorem part_own {rs : List Nat} (hlt : ∀ r ∈ rs, r < H.length) {b : Nat} (h : Own (partβ β rs) (part H rs) b) : ∃ r ∈ rs, ∃ o, H[r]? = some o ∧ has (β r) o b := by
 obtain ⟨i, o, h1, h2⟩ := h
 obtain ⟨r, hr, rfl⟩ := part_get h1
 have hm := List.mem_of_getElem? hr
 have hβ : partβ β rs i = β r := by simp [partβ, List.getD, hr]
 rw [hβ] at h2
 exact ⟨r, hm, _, getD_get (hlt r hm), has_map.1 h2⟩
theorem part_ren {rs : List Nat} (hlt : ∀ r ∈ rs, r < H.length) {F' : Nat → Prop} (hF : ∀ b, F' b → F b ∨ ∃ r o, r ∉ rs ∧ H[r]? = some o ∧ has (β r) o b) :
  Ren (idx rs) (· ∈ rs) (InPool H rs) (en w β F H) (en w (partβ β rs) F' (part H rs)) where
 w := rfl
 av b h := by
  rcases h with h | h
  ·obtain ⟨r, _, o, h1, h2⟩ := part_own hlt h
   exact .inl ⟨r, o, h1, h2⟩
  ·rcases hF b h with h | ⟨r, o, _, h1, h2⟩
   ·exact .inr h
   ·exact .inl ⟨r, o, h1, h2⟩
 lt r hr := by
  show idx rs r < (part H rs).length
  simp only [part, List.length_map]
  exact (idx_lt hr).1
 β r hr := by simp [en, partβ, List.getD, (idx_lt hr).2]
 sz r m hr hm := by
  obtain ⟨o, h1, h2⟩ := szOf_some hm
  obtain ⟨r', hr', e⟩ := part_get h1
  rw [(idx_lt hr).2] at hr'
  cases hr'
  refine (szOf_of (getD_get (hlt r hr))).trans ?_
  rw [e, szO_map] at h2
  exact h2
 pb t ht i b m hp := by
  obtain ⟨r, _, k, s, l, x, h1, h2, h3, h4⟩ := hp
  have hr := ht r k s l h1
  refine ⟨idx rs r, by show _ < (part H rs).length; simp only [part, List.length_map]; exact (idx_lt hr).1, k, s, l, x, ?_, h2, ?_, h4⟩
  ·simp only [part, List.getElem?_map, (idx_lt hr).2, Option.map_some]
   have : H.getD r .dead = .pool k t s l := by simp [List.getD, h1]
   rw [this]; rfl
  ·simp [partβ, List.getD, (idx_lt hr).2, h3]
theorem part_ok (ok : HeapOk w β F H) {rs : List Nat} (hlt : ∀ r ∈ rs, r < H.length) (hnd : rs.Nodup) (hcl : Closed H rs) {F' : Nat → Prop} (hF : ∀ b, F' b → F b ∨ ∃ r o, r ∉ rs ∧ H[r]? = some o ∧ has (β r) o b) :
  HeapOk w (partβ β rs) F' (part H rs) := by
 have ren := part_ren (w := w) hlt hF
 have hβ : ∀ {i r}, rs[i]? = some r → partβ β rs i = β r := fun h => by simp [partβ, List.getD, h]
 refine ⟨fun i o h => ?_, fun i o b h ho => ?_, fun i j o o' b h h' ho ho' => ?_, fun b hb => ?_, fun i j k k' t s s' l l' h h' => ?_⟩
 ·obtain ⟨r, hr, rfl⟩ := part_get h
  have hm := List.mem_of_getElem? hr
  have := (ok.obj r _ (getD_get (hlt r hm))).ren ren hm (fun q hq => hcl r hm q (List.mem_append_left _ hq)) (fun t ht => InPool.of ok (fun q hq => hcl r hm q (List.mem_append_right _ hq)) ht)
  rw [get_unique hnd (idx_lt hm).2 hr] at this
  exact this
 ·obtain ⟨r, hr, rfl⟩ := part_get h
  have hm := List.mem_of_getElem? hr
  have hH := getD_get (hlt r hm)
  rw [hβ hr] at ho
  obtain ⟨h1, h2⟩ := ok.ltB r _ b hH (has_map.1 ho)
  refine ⟨h1, fun hf => ?_⟩
  rcases hF _ hf with hf | ⟨r', o', hn, h3, h4⟩
  ·exact h2 hf
  ·have := ok.injB r' r o' _ b h3 hH h4 (has_map.1 ho)
   exact hn (this ▸ hm)
 ·obtain ⟨r, hr, rfl⟩ := part_get h
  obtain ⟨r', hr', rfl⟩ := part_get h'
  rw [hβ hr] at ho
  rw [hβ hr'] at ho'
  have := ok.injB r r' _ _ b (getD_get (hlt r (List.mem_of_getElem? hr))) (getD_get (hlt r' (List.mem_of_getElem? hr'))) (has_map.1 ho) (has_map.1 ho')
  subst this
  exact get_unique hnd hr hr'
 ·rcases hF b hb with h | ⟨r, o, _, h1, h2⟩
  ·exact ok.F b h
  ·exact (ok.ltB r o b h1 h2).1
 ·obtain ⟨r, hr, e⟩ := part_get h
  obtain ⟨r', hr', e'⟩ := part_get h'
  have h1 := getD_get (hlt r (List.mem_of_getElem? hr))
  have h2 := getD_get (hlt r' (List.mem_of_getElem? hr'))
  rw [map_pool e.symm] at h1
  rw [map_pool e'.symm] at h2
  have := ok.uni _ _ _ _ _ _ _ _ _ h1 h2
  subst this
  exact get_unique hnd hr hr'
end
end Go.Gx

namespace Go.Gx
section
variable {w : World} {β : Nat → Loc} {F : Nat → Prop} {H : Heap}
theorem back_some {rs : List Nat} {n i r : Nat} (h : rs[i]? = some r) : back rs n i = r := by simp [back, h]
theorem back_none {rs : List Nat} {n i : Nat} (h : rs.length ≤ i) : back rs n i = n + (i - rs.length) := by simp [back, List.getElem?_eq_none h]
theorem back_lt {rs : List Nat} {n i : Nat} (hlt : ∀ r ∈ rs, r < n) (h : i < rs.length) : back rs n i < n ∧ rs[i]? = some (back rs n i) := by
 have h1 : rs[i]? = some rs[i] := List.getElem?_eq_getElem h
 rw [back_some h1]
 exact ⟨hlt _ (List.mem_of_getElem? h1), h1⟩
theorem back_inj {rs : List Nat} {n i j : Nat} (hlt : ∀ r ∈ rs, r < n) (hnd : rs.Nodup) (h : back rs n i = back rs n j) : i = j := by
 rcases Nat.lt_or_ge i rs.length with hi | hi <;> rcases Nat.lt_or_ge j rs.length with hj | hj
 ·have h1 := (back_lt hlt hi).2
  have h2 := (back_lt hlt hj).2
  rw [h] at h1
  exact get_unique hnd h1 h2
 ·have h1 := (back_lt hlt hi).1
  rw [h, back_none hj] at h1
  omega
 ·have h1 := (back_lt hlt hj).1
  rw [← h, back_none hi] at h1
  omega
 ·rw [back_none hi, back_none hj] at h
  omega
theorem putBack_get (f : Nat → Nat) : ∀ (rs : List Nat) (G H : Heap), rs.length ≤ G.length → (∀ r ∈ rs, r < H.length) → ∀ (r : Nat) (o : Obj), (putBack f rs G H)[r]? = some o →
  (r ∉ rs ∧ H[r]? = some o) ∨ ∃ i o', G[i]? = some o' ∧ o = mapObj f o' ∧ r = back rs H.length i
 | [], G, H, _, _, r, o, h => by
  have h : (H ++ G.map (mapObj f))[r]? = some o := by
   cases G <;> exact h
  rcases Nat.lt_or_ge r H.length with hr | hr
  ·rw [List.getElem?_append_left hr] at h
   exact .inl ⟨by simp, h⟩
  ·rw [List.getElem?_append_right hr, List.getElem?_map] at h
   cases hg : G[r - H.length]? with
   | none => rw [hg] at h; cases h
   | some o' =>
    rw [hg] at h
    simp at h
    refine .inr ⟨_, o', hg, h.symm, ?_⟩
    rw [back_none (by simp)]
    simp
    omega
 | q :: rs, [], H, hl, _, r, o, h => by simp at hl
 | q :: rs, g :: G, H, hl, hlt, r, o, h => by
  have h : (putBack f rs G (H.set q (mapObj f g)))[r]? = some o := h
  have hq : q < H.length := hlt q (by simp)
  rcases putBack_get f rs G (H.set q (mapObj f g)) (by simpa using hl) (fun p hp => by simpa using hlt p (by simp [hp])) r o h with ⟨h1, h2⟩ | ⟨i, o', h1, h2, h3⟩
  ·rcases get_set h2 with ⟨rfl, rfl⟩ | ⟨hne, h4⟩
   ·exact .inr ⟨0, g, rfl, rfl, by simp [back]⟩
   ·exact .inl ⟨by simp [hne, h1], h4⟩
  ·refine .inr ⟨i + 1, o', by simpa using h1, h2, ?_⟩
   rw [h3, List.length_set]
   unfold back
   simp only [List.getElem?_cons_succ, List.length_cons]
   cases rs[i]? with
   | some _ => rfl
   | none => simp only; congr 1; omega
theorem putBackK_eq {R : Type} (f : Nat → Nat) : ∀ (rs : List Nat) (G H : Heap) (K : Heap → Option R), putBackK f rs G H K = K (putBack f rs G H)
 | [], G, H, K => by cases G <;> rfl
 | r :: rs, [], H, K => rfl
 | r :: rs, o :: G, H, K => by simp only [putBackK, putBack, setHK_eq]; exact putBackK_eq f rs G _ K
theorem putBack_length (f : Nat → Nat) : ∀ (rs : List Nat) (G H : Heap), rs.length ≤ G.length → (putBack f rs G H).length = H.length + (G.length - rs.length)
 | [], G, H, _ => by cases G <;> simp [putBack]
 | q :: rs, [], H, hl => by simp at hl
 | q :: rs, g :: G, H, hl => by
  simp only [putBack]
  rw [putBack_length f rs G _ (by simpa using hl)]
  simp
def backβ (β βG : Nat → Loc) (n : Nat) (rs : List Nat) : Nat → Loc := fun r => if r ∈ rs then βG (idx rs r) else if r < n then β r else βG (rs.length + (r - n))
def Hid (F : Nat → Prop) (β : Nat → Loc) (H : Heap) (rs : List Nat) (b : Nat) : Prop := F b ∨ ∃ r o, r ∉ rs ∧ H[r]? = some o ∧ has (β r) o b
section
variable {rs : List Nat} {w' : World} {βG : Nat → Loc} {G : Heap}
structure Back (w : World) (β : Nat → Loc) (F : Nat → Prop) (H : Heap) (rs : List Nat) (w' : World) (βG : Nat → Loc) (G : Heap) : Prop where
 ok : HeapOk w β F H
 lt : ∀ r ∈ rs, r < H.length
 nd : rs.Nodup
 okG : HeapOk w' βG (Hid F β H rs) G
 ext : Ext (en w (partβ β rs) (Hid F β H rs) (Gx.part H rs)) (en w' βG (Hid F β H rs) G)
 nc : ∀ (i r : Nat) (k k' : Bool) (t : Nat) (s s' : Sh) (l : List s.T) (l' : List s'.T), G[i]? = some (Obj.pool k t s l) → H[r]? = some (Obj.pool k' t s' l') → r = back rs H.length i
theorem Back.len (h : Back w β F H rs w' βG G) : rs.length ≤ G.length := by
 have := h.ext.n
 simpa [en, Gx.part] using this
theorem Back.nm (h : Back w β F H rs w' βG G) (i : Nat) : backβ β βG H.length rs (back rs H.length i) = βG i := by
 rcases Nat.lt_or_ge i rs.length with hi | hi
 ·obtain ⟨h1, h2⟩ := back_lt h.lt hi
  have hm := List.mem_of_getElem? h2
  simp only [backβ, if_pos hm]
  rw [get_unique h.nd (idx_lt hm).2 h2]
 ·rw [back_none hi]
  have h1 : ¬ (H.length + (i - rs.length) < H.length) := by omega
  have h0 : H.length + (i - rs.length) ∉ rs := fun hm => h1 (h.lt _ hm)
  have h2 : rs.length + (H.length + (i - rs.length) - H.length) = i := by omega
  simp only [backβ, if_neg h0, if_neg h1, h2]
theorem Back.old {r : Nat} (hn : r ∉ rs) (hr : r < H.length) : backβ β βG H.length rs r = β r := by simp [backβ, hr, hn]
theorem Back.oldc (h : Back w β F H rs w' βG G) {r : Nat} (hr : r < H.length) : (backβ β βG H.length rs r).c = (β r).c := by
 by_cases hm : r ∈ rs
 ·have h1 := idx_lt hm
  have h3 := h.ext.β (idx rs r) (by simpa [en, Gx.part] using h1.1)
  simp only [en] at h3
  simp only [backβ, if_pos hm]
  rw [h3]
  simp [partβ, List.getD, h1.2]
 ·rw [Back.old hm hr]
theorem Back.get (h : Back w β F H rs w' βG G) {r : Nat} {o : Obj} (hr : (putBack (back rs H.length) rs G H)[r]? = some o) :
  (r ∉ rs ∧ H[r]? = some o) ∨ ∃ i o', G[i]? = some o' ∧ o = mapObj (back rs H.length) o' ∧ r = back rs H.length i := putBack_get _ rs G H h.len h.lt r o hr
theorem putBack_put (f : Nat → Nat) : ∀ (rs : List Nat) (G H : Heap), rs.length ≤ G.length → (∀ r ∈ rs, r < H.length) → rs.Nodup → ∀ (i : Nat) (o : Obj), G[i]? = some o → (putBack f rs G H)[back rs H.length i]? = some (mapObj f o)
 | [], G, H, _, _, _, i, o, h => by
  have : (H ++ G.map (mapObj f))[back [] H.length i]? = some (mapObj f o) := by
   rw [back_none (by simp), List.getElem?_append_right (by simp)]
   simp [h]
  cases G <;> exact this
 | q :: rs, [], H, hl, _, _, _, _, _ => by simp at hl
 | q :: rs, g :: G, H, hl, hlt, hnd, i, o, h => by
  show (putBack f rs G (H.set q (mapObj f g)))[back (q :: rs) H.length i]? = some (mapObj f o)
  have hq : q < H.length := hlt q (by simp)
  have hlt' : ∀ p ∈ rs, p < (H.set q (mapObj f g)).length := fun p hp => by simpa using hlt p (by simp [hp])
  obtain ⟨hqn, hnd'⟩ := List.nodup_cons.1 hnd
  have hl' : rs.length ≤ G.length := by simpa using hl
  cases i with
  | zero =>
   cases h
   have e : back (q :: rs) H.length 0 = q := by simp [back]
   rw [e]
   have hq' : q < (putBack f rs G (H.set q (mapObj f g))).length := by
    rw [putBack_length _ _ _ _ hl', List.length_set]; omega
   rcases putBack_get f rs G (H.set q (mapObj f g)) hl' hlt' q _ (List.getElem?_eq_getElem hq') with ⟨_, h2⟩ | ⟨j, o', h1, h2, h3⟩
   ·rw [List.getElem?_eq_getElem hq', ← h2, List.getElem?_set_self hq]
   ·exfalso
    rw [List.length_set] at h3
    rcases Nat.lt_or_ge j rs.length with hj | hj
    ·have := (back_lt (fun r hr => hlt r (List.mem_cons_of_mem _ hr)) hj).2
     rw [← h3] at this
     exact hqn (List.mem_of_getElem? this)
    ·rw [back_none hj] at h3; omega
  | succ i =>
   have := putBack_put f rs G (H.set q (mapObj f g)) hl' hlt' hnd' i o (by simpa using h)
   rw [List.length_set] at this
   have e : back (q :: rs) H.length (i + 1) = back rs H.length i := by
    unfold back
    simp only [List.getElem?_cons_succ, List.length_cons]
    cases rs[i]? with
    | some _ => rfl
    | none => simp only; congr 1; omega
   rw [e]
   exact this
theorem Back.put (h : Back w β F H rs w' βG G) {i : Nat} {k : Bool} {t : Nat} {s : Sh} {l : List s.T} (hi : G[i]? = some (Obj.pool k t s l)) : (putBack (back rs H.length) rs G H)[back rs H.length i]? = some (Obj.pool k t s l) :=
 putBack_put _ rs G H h.len h.lt h.nd i _ hi
theorem Back.ren (h : Back w β F H rs w' βG G) : Ren (back rs H.length) (· < G.length) (fun _ => True) (en w' βG (Hid F β H rs) G) (en w' (backβ β βG H.length rs) F (putBack (back rs H.length) rs G H)) where
 w := rfl
 av b hb := by
  rcases hb with ⟨r, o, h1, h2⟩ | hb
  ·rcases h.get h1 with ⟨h4, h5⟩ | ⟨i, o', h4, rfl, rfl⟩
   ·rw [Back.old h4 (lt_len h5)] at h2
    exact .inr (.inr ⟨r, o, h4, h5, h2⟩)
   ·rw [h.nm] at h2
    exact .inl ⟨i, o', h4, has_map.1 h2⟩
  ·exact .inr (.inl hb)
 lt i hi := by
  show back rs H.length i < (putBack (back rs H.length) rs G H).length
  rw [putBack_length _ rs G H h.len]
  rcases Nat.lt_or_ge i rs.length with hi' | hi'
  ·have := (back_lt h.lt hi').1; omega
  ·rw [back_none hi']; omega
 β i _ := h.nm i
 sz i m hi hm := by
  obtain ⟨l, h1, h2⟩ := szOf_some hm
  rcases h.get h1 with ⟨h4, h5⟩ | ⟨j, o', h4, e, h6⟩
  ·exfalso
   rcases Nat.lt_or_ge i rs.length with hi' | hi'
   ·exact h4 (List.mem_of_getElem? (back_lt h.lt hi').2)
   ·have := lt_len h5
    rw [back_none hi'] at this
    omega
  ·have := back_inj h.lt h.nd h6
   subst this
   rw [e, szO_map] at h2
   exact (szOf_of h4).trans h2
 pb t _ i b m hp := by
  obtain ⟨r, _, k, s, l, x, h1, h2, h3, h4⟩ := hp
  exact ⟨back rs H.length r, lt_len (h.put h1), k, s, l, x, h.put h1, h2, by rw [h.nm]; exact h3, h4⟩
theorem Back.extH (h : Back w β F H rs w' βG G) : Ext (en w β F H) (en w' (backβ β βG H.length rs) F (putBack (back rs H.length) rs G H)) where
 n := by simp only [en]; rw [putBack_length _ rs G H h.len]; omega
 β r hr := h.oldc hr
 el r i hr hi := by
  by_cases hm : r ∈ rs
  ·have h1 := idx_lt hm
   have hr' : r < H.length := hr
   have hpn : i < pnOf (Gx.part H rs) (idx rs r) := by
    have hH := getD_get hr'
    have hi : i < pnOf H r := hi
    rw [pnOf_of hH] at hi
    rw [pnOf_of (o := mapObj (idx rs) (H.getD r .dead)) (by simp only [Gx.part, List.getElem?_map, h1.2, Option.map_some])]
    cases ho : H.getD r .dead with
    | pool => rw [ho] at hi; exact hi
    | _ => rw [ho] at hi; exact absurd hi (Nat.not_lt_zero _)
   have h3 := h.ext.el (idx rs r) i (by simpa [en, Gx.part] using h1.1) hpn
   simp only [en] at h3
   show (backβ β βG H.length rs r).e i = (β r).e i
   simp only [backβ, if_pos hm]
   rw [h3]
   simp [partβ, List.getD, h1.2]
  ·show (backβ β βG H.length rs r).e i = (β r).e i
   rw [Back.old hm hr]
 pn r hr := by
  have hr' : r < H.length := hr
  have hH := getD_get hr'
  show pnOf H r ≤ pnOf _ r
  by_cases hm : r ∈ rs
  ·have h1 := idx_lt hm
   have h3 := h.ext.pn (idx rs r) (by simpa [en, Gx.part] using h1.1)
   have h4 : pnOf (Gx.part H rs) (idx rs r) = pnOf H r := by
    rw [pnOf_of hH, pnOf_of (o := mapObj (idx rs) (H.getD r .dead)) (by simp only [Gx.part, List.getElem?_map, h1.2, Option.map_some])]
    cases H.getD r .dead <;> rfl
   have h3 : pnOf (Gx.part H rs) (idx rs r) ≤ pnOf G (idx rs r) := h3
   rw [h4] at h3
   refine Nat.le_trans h3 ?_
   have hi : idx rs r < G.length := Nat.lt_of_lt_of_le h1.1 h.len
   have h6 := putBack_put (back rs H.length) rs G H h.len h.lt h.nd _ _ (List.getElem?_eq_getElem hi)
   rw [back_some h1.2] at h6
   rw [pnOf_of (List.getElem?_eq_getElem hi), pnOf_of h6]
   cases G[idx rs r] <;> exact Nat.le_refl _
  ·have hr2 : r < (putBack (back rs H.length) rs G H).length := by rw [putBack_length _ _ _ _ h.len]; omega
   rcases h.get (List.getElem?_eq_getElem hr2) with ⟨_, h5⟩ | ⟨j, o', h5, h6, h7⟩
   ·rw [pnOf_of h5, pnOf_of (List.getElem?_eq_getElem hr2)]; exact Nat.le_refl _
   ·exfalso
    rcases Nat.lt_or_ge j rs.length with hj | hj
    ·have := (back_lt h.lt hj).2
     rw [← h7] at this
     exact hm (List.mem_of_getElem? this)
    ·rw [back_none hj] at h7; omega
 size := h.ext.size
 kept b hb ho := h.ext.kept b hb fun ho' => by
  obtain ⟨r, _, o, h1, h2⟩ := part_own h.lt ho'
  exact ho ⟨r, o, h1, h2⟩
 sub b hb := by
  rintro ⟨r, o, h1, h2⟩
  rcases h.get h1 with ⟨h4, h5⟩ | ⟨i, o', h4, rfl, rfl⟩
  ·rw [Back.old h4 (lt_len h5)] at h2
   exact ⟨r, o, h5, h2⟩
  ·rw [h.nm] at h2
   have h5 : Own βG G b := ⟨i, o', h4, has_map.1 h2⟩
   obtain ⟨r, _, o, h1, h2⟩ := part_own h.lt (h.ext.sub b hb h5)
   exact ⟨r, o, h1, h2⟩
 F := rfl
 pq r t i b m _ hp := by
  obtain ⟨k, s, l, x, h1, h2, h3, h4⟩ := hp
  by_cases hr : r ∈ rs
  ·have hi : (partβ β rs) (idx rs r) = β r := by simp [partβ, List.getD, (idx_lt hr).2]
   have hG : pqOf βG G (idx rs r) t i b m := h.ext.pq (idx rs r) t i b m (by simpa [en, Gx.part] using (idx_lt hr).1) ⟨k, s, l, x, by
    simp only [Gx.part, List.getElem?_map, (idx_lt hr).2, Option.map_some]
    have : H.getD r .dead = .pool k t s l := by simp [List.getD, h1]
    rw [this]; rfl, h2, by rw [hi]; exact h3, h4⟩
   obtain ⟨k2, s2, l2, x2, g1, g2, g3, g4⟩ := hG
   have h5 := h.put g1
   rw [back_some (idx_lt hr).2] at h5
   refine ⟨k2, s2, l2, x2, h5, g2, ?_, g4⟩
   rw [g3]
   show _ = (backβ β βG H.length rs r).e i
   simp only [backβ, if_pos hr]
  ·refine ⟨k, s, l, x, ?_, h2, by rw [Back.old hr (lt_len h1)]; exact h3, h4⟩
   have hr' : r < (putBack (back rs H.length) rs G H).length := by rw [putBack_length _ _ _ _ h.len]; have := lt_len h1; omega
   rcases h.get (List.getElem?_eq_getElem hr') with ⟨_, h5⟩ | ⟨j, o', h5, h6, h7⟩
   ·rw [List.getElem?_eq_getElem hr', ← h5, h1]
   ·exfalso
    rcases Nat.lt_or_ge j rs.length with hj | hj
    ·have := (back_lt h.lt hj).2
     rw [← h7] at this
     exact hr (List.mem_of_getElem? this)
    ·have := lt_len h1
     rw [back_none hj] at h7; omega
 sz r m hr hm := by
  obtain ⟨o, h1, h2⟩ := szOf_some hm
  rcases h.get h1 with ⟨h4, h5⟩ | ⟨i, o', h4, e, h6⟩
  ·exact (szOf_of h5).trans h2
  ·have hr' : r < H.length := hr
   have hi : i < rs.length := by
    rcases Nat.lt_or_ge i rs.length with hi | hi
    ·exact hi
    ·rw [h6, back_none hi] at hr'; omega
   rw [e, szO_map] at h2
   obtain ⟨o2, h7, h8⟩ := szOf_some (h.ext.sz i m (by simpa [en, Gx.part] using hi) ((szOf_of h4).trans h2))
   obtain ⟨r2, h9, h10⟩ := part_get h7
   have h11 := (back_lt h.lt hi).2
   rw [← h6, h9] at h11
   cases h11
   refine (szOf_of (getD_get hr')).trans ?_
   rw [h10, szO_map] at h8
   exact h8
 grow := h.ext.grow
 out := h.ext.out
 froz := h.ext.froz
theorem Back.okH (h : Back w β F H rs w' βG G) : HeapOk w' (backβ β βG H.length rs) F (putBack (back rs H.length) rs G H) where
 obj r o hr := by
  rcases h.get hr with ⟨h4, h5⟩ | ⟨i, o', h4, rfl, rfl⟩
  ·refine RepObj.keep h.ok h.extH h5 fun b ho => ?_
   obtain ⟨h6, h7⟩ := h.ok.ltB r o b h5 ho
   refine h.ext.kept _ h6 fun ho' => ?_
   obtain ⟨r', hr', o', h1, h2⟩ := part_own h.lt ho'
   have := h.ok.injB r' r o' o b h1 h5 h2 ho
   exact h4 (this ▸ hr')
  ·exact (h.okG.obj i o' h4).ren h.ren (lt_len h4) (objSegRefs_lt h.okG h4) (fun _ _ => trivial)
 ltB r o b hr ho := by
  rcases h.get hr with ⟨h4, h5⟩ | ⟨i, o', h4, rfl, rfl⟩
  ·rw [Back.old h4 (lt_len h5)] at ho
   obtain ⟨h6, h7⟩ := h.ok.ltB r o b h5 ho
   exact ⟨Nat.lt_of_lt_of_le h6 h.ext.size, h7⟩
  ·rw [h.nm] at ho
   obtain ⟨h6, h7⟩ := h.okG.ltB i o' b h4 (has_map.1 ho)
   exact ⟨h6, fun hf => h7 (.inl hf)⟩
 injB r r' o o' b hr hr' ho ho' := by
  rcases h.get hr with ⟨h4, h5⟩ | ⟨i, p, h4, rfl, rfl⟩ <;> rcases h.get hr' with ⟨h4', h5'⟩ | ⟨i', p', h4', rfl, rfl⟩
  ·rw [Back.old h4 (lt_len h5)] at ho
   rw [Back.old h4' (lt_len h5')] at ho'
   exact h.ok.injB r r' o o' b h5 h5' ho ho'
  ·rw [Back.old h4 (lt_len h5)] at ho
   rw [h.nm] at ho'
   exact absurd (.inr ⟨r, o, h4, h5, ho⟩) (h.okG.ltB i' p' b h4' (has_map.1 ho')).2
  ·rw [Back.old h4' (lt_len h5')] at ho'
   rw [h.nm] at ho
   exact absurd (.inr ⟨r', o', h4', h5', ho'⟩) (h.okG.ltB i p b h4 (has_map.1 ho)).2
  ·rw [h.nm] at ho
   rw [h.nm] at ho'
   rw [h.okG.injB i i' p p' b h4 h4' (has_map.1 ho) (has_map.1 ho')]
 F b hb := Nat.lt_of_lt_of_le (h.ok.F b hb) h.ext.size
 uni r r' k k' t s s' l l' hr hr' := by
  have hnone : ∀ {r' k' t} {s' : Sh} {l' : List s'.T} {i k} {s : Sh} {l : List s.T}, r' ∉ rs → H[r']? = some (Obj.pool k' t s' l') → G[i]? = some (Obj.pool k t s l) → False := fun {r' k' t s' l' i k s l} hn h1 h2 => by
   have e := h.nc i r' _ _ _ _ _ _ _ h2 h1
   rcases Nat.lt_or_ge i rs.length with hi | hi
   ·have := (back_lt h.lt hi).2
    rw [← e] at this
    exact hn (List.mem_of_getElem? this)
   ·have := lt_len h1
    rw [back_none hi] at e
    omega
  rcases h.get hr with ⟨h4, h5⟩ | ⟨i, p, h4, e, rfl⟩ <;> rcases h.get hr' with ⟨h4', h5'⟩ | ⟨i', p', h4', e', rfl⟩
  ·exact h.ok.uni _ _ _ _ _ _ _ _ _ h5 h5'
  ·exact (hnone h4 h5 (by rw [map_pool e'.symm] at h4'; exact h4')).elim
  ·exact (hnone h4' h5' (by rw [map_pool e.symm] at h4; exact h4)).elim
  ·rw [map_pool e.symm] at h4
   rw [map_pool e'.symm] at h4'
   rw [h.okG.uni _ _ _ _ _ _ _ _ _ h4 h4']
end
/-! ### an entry of the table -/
structure EntOK (P : Program) (f : FuncId) (E : Ent) : Prop where
 fn : ∃ fn, P.funcs[f]? = some fn ∧ (fn.name == "runtime.NumGoroutine") = false ∧ fn.body.isNone = false
 run : ∀ {R : Type} {w : World} {β : Nat → Loc} {F : Nat → Prop} {G : Heap} {args : List SV} {vs : List Value} {K : Slot → Heap → Option R} {x : R},
  HeapOk w β F G → RepSVs (en w β F G) args vs → E.run args G K = some x → Calls P f vs.toArray w fun e w' => ∃ v, e = .returned v ∧ Res w β F G x K v w'
def TabOK (P : Program) (T : Table) : Prop := ∀ f, (∃ l, T f = cfgEnt l) ∨ EntOK P f (T f)
theorem TabOK.nil {P : Program} : TabOK P fun _ => noEnt := fun _ => .inl ⟨[], rfl⟩
theorem TabOK.pools {P : Program} {l : List Nat} : TabOK P fun _ => cfgEnt l := fun _ => .inl ⟨l, rfl⟩
theorem TabOK.cons {P : Program} {T : Table} {f : FuncId} {E : Ent} (h : EntOK P f E) (k : TabOK P T) : TabOK P fun g => bif Nat.beq g f then E else T g := fun g => by
 simp only
 cases hb : Nat.beq g f with
 | true => rw [Nat.eq_of_beq_eq_true hb]; exact .inr h
 | false => exact k g
theorem callFunc_run {P : Program} {f : FuncId} {E : Ent} (h : EntOK P f E) (args : Array Value) (w : World) : (callFunc f args).run P w = .ok (.enter f args) w := by
 obtain ⟨fn, h1, h2, h3⟩ := h.fn
 unfold callFunc
 simp only [Sem.run_bind, run_program, Result.andThen_ok, h1, h2, h3, Bool.false_eq_true, if_false, Sem.run_pure]
theorem clash_spec (ok : HeapOk w β F H) {f : Nat → Nat} : ∀ {G : Heap} {n : Nat}, clash H f G n = false → ∀ (i r : Nat) (k k' : Bool) (t : Nat) (s s' : Sh) (l : List s.T) (l' : List s'.T), G[i]? = some (Obj.pool k t s l) → H[r]? = some (Obj.pool k' t s' l') → r = f (n + i)
 | [], n, _, i, r, k, k', t, s, s', l, l', hg, _ => by simp at hg
 | o :: G, n, h, i, r, k, k', t, s, s', l, l', hg, hr => by
  have hrest : clash H f G (n + 1) = false := by
   cases o with
   | pool => simp only [clash, Bool.or_eq_false_iff] at h; exact h.2
   | _ => exact h
  cases i with
  | zero =>
   cases hg
   simp only [clash, Bool.or_eq_false_iff] at h
   cases hp : poolAt H t with
   | none => exact absurd hr (poolAt_none hp _ _ _ _)
   | some q =>
    have h1 := h.1
    rw [hp] at h1
    obtain ⟨k2, s2, l2, h2⟩ := poolAt_spec hp
    have := ok.uni _ _ _ _ _ _ _ _ _ hr h2
    subst this
    simpa using h1
  | succ i =>
   have := clash_spec ok hrest i r k k' t s s' l l' (by simpa using hg) hr
   rw [this]
   congr 1; omega
theorem exCall_ok {R : Type} {P : Program} {T : Table} (hT : TabOK P T) {f : FuncId} {args : List SV} {vs : List Value} {K : Slot → Heap → Option R} {x : R} (h : exCall T f args H K = some x) (ok : HeapOk w β F H)
  (ha : RepSVs (en w β F H) args vs) : (callFunc f vs.toArray).run P w = .ok (.enter f vs.toArray) w ∧ Calls P f vs.toArray w fun e w' => ∃ v, e = .returned v ∧ Res w β F H x K v w' := by
 unfold exCall at h
 split at h
 ·rename_i rs hrs
  obtain ⟨_, h1, h2, h3, h4⟩ := reach_spec ok _ _ _ _ hrs (fun r hr => nomatch hr) List.nodup_nil (fun r hr => nomatch hr) (fun q hq => by
   rcases List.mem_append.1 hq with hq | hq
   ·exact svsRefs_lt ha q hq
   ·exact tagRefs_lt q hq)
  rw [fNats_eq, fSVs_eq, fH_eq] at h
  simp only [putBackK_eq] at h
  have h : (T f).run (args.map (mapSV (idx rs))) (part H rs) (fun s G => bif clash H (back rs H.length) G 0 then none else K (mapSlot (back rs H.length) s) (putBack (back rs H.length) rs G H)) = some x := h
  have hE : EntOK P f (T f) := by
   rcases hT f with ⟨_, e⟩ | e
   ·rw [e] at h; cases h
   ·exact e
  have ren := part_ren (w := w) (β := β) (F := F) (F' := Hid F β H rs) h4 fun b hb => hb
  have okG := part_ok ok h4 h3 h2 (F' := Hid F β H rs) fun b hb => hb
  refine ⟨callFunc_run hE _ w, Calls.mono (hE.run okG (ren.svs (fun r hr => h1 r (List.mem_append_left _ hr)) (fun t ht => InPool.of ok (fun q hq => h1 q (List.mem_append_right _ hq)) ht) ha) h) fun e w' => ?_⟩
  rintro ⟨v, he, s, G', βG, okG', hx, hs, hK⟩
  have hK : (bif clash H (back rs H.length) G' 0 then none else K (mapSlot (back rs H.length) s) (putBack (back rs H.length) rs G' H)) = some x := hK
  cases hc : clash H (back rs H.length) G' 0 with
  | true => rw [hc] at hK; cases hK
  | false =>
   rw [hc] at hK
   have hB : Back w β F H rs w' βG G' := ⟨ok, h4, h3, okG', hx, fun i r k k' t s s' l l' h1 h2 => by
    have := clash_spec ok hc i r k k' t s s' l l' h1 h2
    rw [Nat.zero_add] at this
    exact this⟩
   exact ⟨v, he, _, _, _, hB.okH, hB.extH, hB.ren.slot (slotRefs_lt hs) (fun _ _ => trivial) hs, hK⟩
 ·cases h
end
end Go.Gx

namespace Go.Gx
section
variable {R : Type} {P : Program} {T : Table} {w : World} {β : Nat → Loc} {F : Nat → Prop} {H : Heap} {fr : Fr} {a : Act} {x : R}
theorem OpOk.of_value {K : Slot → Heap → Option R} {m : Sem Value} {v : Value} {w' : World} (hr : m.run P w = .ok v w') (h : Res w β F H x K v w') :
  OpOk P w β F H x K ((do pure (Next.value (← m)) : Sem Next).run P w) := by
 rw [run_value hr]
 exact .value _ _ h
theorem okSV_regrp {t : TypeId} {v : SV} : okSV (regrp P t v) = okSV v := by
 cases v with
 | v y => rfl
 | agg l =>
  show okSV (regrp P t (.agg l)) = true
  unfold regrp
  simp only
  split
  ·rename_i ly _
   cases ly.any isRow with
   | false => rfl
   | true =>
    simp only [cond_true]
    split <;> rfl
  ·rfl
theorem Res.pre {K : Slot → Heap → Option R} {v : Value} {w' : World} {β1 : Nat → Loc} {H1 : Heap} (hx : Ext (en w β F H) (en w β1 F H1)) (h : Res w β1 F H1 x K v w') : Res w β F H x K v w' := by
 obtain ⟨s, H', β', h1, h2, h3, h4⟩ := h
 exact ⟨s, H', β', h1, hx.trans h2, h3, h4⟩
theorem OpOk.of_skip {K : Slot → Heap → Option R} {m : Sem Unit} {w' : World} (hr : m.run P w = .ok () w') (h : Res w β F H x K undef w') :
  OpOk P w β F H x K ((do m; pure Next.skip : Sem Next).run P w) := by
 rw [run_skip hr]
 exact .skip _ h
theorem RepSVs.append {e : En} : ∀ {l m : List SV} {u v : List Value}, RepSVs e l u → RepSVs e m v → RepSVs e (l ++ m) (u ++ v)
 | [], m, u, v, h, k => by rw [show u = [] from h]; exact k
 | y :: l, m, u, v, ⟨V, us, e1, h1, h2⟩, k => by
  subst e1
  exact ⟨V, us ++ v, rfl, h1, h2.append k⟩
theorem caps_rep {e : En} : ∀ {caps : List Nat}, (∀ r ∈ caps, r < e.n) → RepSVs e (caps.map fun r => .v (.ptr r 0)) (caps.map fun r => Value.pointer (some (addr e r 0)))
 | [], _ => rfl
 | r :: caps, h => ⟨_, _, rfl, ⟨h r (by simp), rfl⟩, caps_rep fun q hq => h q (by simp [hq])⟩
/-! ### pools grow -/
def updE (β : Nat → Loc) (r i b : Nat) : Nat → Loc := fun q => if q = r then ⟨(β r).b, (β r).o, (β r).k, fun j => if j = i then b else (β r).e j⟩ else β q
theorem updE_ne {β : Nat → Loc} {r i b q : Nat} (h : q ≠ r) : updE β r i b q = β q := by simp [updE, h]
theorem updE_c {β : Nat → Loc} {r i b q : Nat} : (updE β r i b q).c = (β q).c := by
 by_cases h : q = r
 ·subst h; simp [updE]
 ·rw [updE_ne h]
theorem updE_old {β : Nat → Loc} {r i b j : Nat} (h : j ≠ i) : (updE β r i b r).e j = (β r).e j := by simp [updE, h]
theorem updE_new {β : Nat → Loc} {r i b : Nat} : (updE β r i b r).e i = b := by simp [updE]
theorem pool_push_old (ok : HeapOk w β F H) {r : Nat} {k : Bool} {t : Nat} {s : Sh} {l : List s.T} (hH : H[r]? = some (.pool k t s l)) (cs : Array Value) (ty : TypeId) {y : s.T} (hy : PoolC w (en w β F H).av k s y cs.toList) :
  HeapOk (w.alloc (.cells cs ty)) (updE β r l.length w.heap.size) F (H.set r (.pool k t s (l ++ [y]))) ∧
   Ext (en w β F H) (en (w.alloc (.cells cs ty)) (updE β r l.length w.heap.size) F (H.set r (.pool k t s (l ++ [y])))) ∧
   pbOf (updE β r l.length w.heap.size) (H.set r (.pool k t s (l ++ [y]))) t l.length w.heap.size (poolM k s y) := by
 have hr := lt_len hH
 have hhas : ∀ {b}, has (updE β r l.length w.heap.size r) (.pool k t s (l ++ [y])) b → has (β r) (.pool k t s l) b ∨ b = w.heap.size := fun {b} ⟨i, h1, h2⟩ => by
  by_cases e : i = l.length
  ·subst e; rw [updE_new] at h2; exact .inr h2.symm
  ·rw [updE_old e] at h2
   exact .inl ⟨i, by simp at h1; omega, h2⟩
 have hx : Ext (en w β F H) (en (w.alloc (.cells cs ty)) (updE β r l.length w.heap.size) F (H.set r (.pool k t s (l ++ [y])))) := {
  n := by simp [en]
  β := fun q _ => updE_c
  el := fun q i hq hi => by
   by_cases e : q = r
   ·subst e
    have hi : i < pnOf H q := hi
    rw [pnOf_of hH] at hi
    have hi : i < l.length := hi
    exact updE_old (by omega)
   ·show (updE β r l.length w.heap.size q).e i = (β q).e i
    rw [updE_ne e]
  size := by simp [en]
  kept := fun b hb _ => heap_alloc_old hb
  sub := fun b hb h => by
   obtain ⟨q, o, h1, h2⟩ := h
   rcases get_set h1 with ⟨rfl, rfl⟩ | ⟨hne, h3⟩
   ·rcases hhas h2 with h2 | h2
    ·exact ⟨q, _, hH, h2⟩
    ·have hb : b < w.heap.size := hb
     omega
   ·rw [updE_ne hne] at h2
    exact ⟨q, o, h3, h2⟩
  F := rfl
  sz := fun q m _ h => by
   obtain ⟨o, h1, h2⟩ := szOf_some h
   rcases get_set h1 with ⟨rfl, rfl⟩ | ⟨_, h3⟩
   ·cases h2
   ·exact (szOf_of h3).trans h2
  grow := fun b c t f h => ⟨c, f, by simp only [en] at *; rw [heap_alloc_old (lt_of_heap h)]; exact h, rfl⟩
  out := ⟨rfl, rfl⟩
  froz := fun b c t f h => by
   have h : (w.alloc (.cells cs ty)).heap[b]? = _ := h
   by_cases hb : b < w.heap.size
   ·rw [heap_alloc_old hb] at h
    exact .inr ⟨c, h⟩
   ·have h : (w.heap.push (.cells cs ty))[b]? = _ := h
    rw [Array.getElem?_push] at h
    split at h
    ·cases h; exact .inl rfl
    ·exact .inr ⟨c, h⟩
  pq := fun r' t' i b m _ hp => by
   obtain ⟨k', s', l', z, h1, h2, h3, h4⟩ := hp
   by_cases e : r' = r
   ·subst e
    rw [hH] at h1
    cases h1
    have hi := (List.getElem?_eq_some_iff.1 h2).1
    exact ⟨k, s, l ++ [y], z, List.getElem?_set_self hr, by rw [List.getElem?_append_left hi]; exact h2, by rw [updE_old (by omega)]; exact h3, h4⟩
   ·exact ⟨k', s', l', z, by rw [List.getElem?_set_ne (Ne.symm e)]; exact h1, h2, by rw [updE_ne e]; exact h3, h4⟩
  pn := fun q _ => by
   by_cases e : q = r
   ·subst e
    show pnOf H q ≤ pnOf _ q
    rw [pnOf_of hH, pnOf_of (List.getElem?_set_self hr)]
    show l.length ≤ (l ++ [y]).length
    simp
   ·exact pn_keep fun o h => by rw [List.getElem?_set_ne (Ne.symm e)]; exact h }
 have hpb : pbOf (updE β r l.length w.heap.size) (H.set r (.pool k t s (l ++ [y]))) t l.length w.heap.size (poolM k s y) :=
  ⟨r, by rw [List.length_set]; exact hr, k, s, l ++ [y], y, List.getElem?_set_self hr, by simp, updE_new.symm, rfl⟩
 refine ⟨⟨fun q o hq => ?_, fun q o b hq ho => ?_, fun q q' o o' b hq hq' ho ho' => ?_, fun b hb => ?_, fun q q' k1 k2 t1 s1 s2 l1 l2 hq hq' => ?_⟩, hx, hpb⟩
 ·rcases get_set hq with ⟨rfl, rfl⟩ | ⟨hne, hq⟩
  ·have hold := ok.obj q _ hH
   refine ⟨fun i z hz => ?_, fun i j hi hj e => ?_⟩
   ·by_cases e : i = l.length
    ·subst e
     have : z = y := by simpa using hz.symm
     subst this
     refine ⟨cs, ty, ?_, hy.mono hx.kp⟩
     show (w.alloc (.cells cs ty)).heap[(updE β q l.length w.heap.size q).e l.length]? = _
     rw [updE_new]
     exact heap_alloc_new
    ·have hi : i < l.length := by
      have := (List.getElem?_eq_some_iff.1 hz).1
      simp at this; omega
     rw [List.getElem?_append_left hi] at hz
     have h1 := hold.1 i z hz
     show PoolEl (w.alloc (.cells cs ty)) _ k s z ((updE β q l.length w.heap.size q).e i)
     rw [updE_old e]
     exact h1.mono hx.kp (heap_alloc_old (ok.ltB q _ _ hH ⟨i, hi, rfl⟩).1)
   ·have hi : i < (l ++ [y]).length := hi
    have hj : j < (l ++ [y]).length := hj
    simp only [List.length_append, List.length_singleton] at hi hj
    have e : (updE β q l.length w.heap.size q).e i = (updE β q l.length w.heap.size q).e j := e
    have hlt : ∀ i, i < l.length → (β q).e i < w.heap.size := fun i hi => (ok.ltB q _ _ hH ⟨i, hi, rfl⟩).1
    by_cases ei : i = l.length <;> by_cases ej : j = l.length
    ·rw [ei, ej]
    ·subst ei
     rw [updE_new, updE_old ej] at e
     have := hlt j (by omega)
     omega
    ·subst ej
     rw [updE_new, updE_old ei] at e
     have := hlt i (by omega)
     omega
    ·rw [updE_old ei, updE_old ej] at e
     exact hold.2 i j (by omega) (by omega) e
  ·refine RepObj.keep ok hx hq fun b ho => ?_
   exact heap_alloc_old (ok.ltB q o b hq ho).1
 ·rcases get_set hq with ⟨rfl, rfl⟩ | ⟨hne, hq⟩
  ·rcases hhas ho with ho | rfl
   ·obtain ⟨h1, h2⟩ := ok.ltB q _ b hH ho
    exact ⟨by simp; omega, h2⟩
   ·exact ⟨by simp, fun hf => absurd (ok.F _ hf) (by simp)⟩
  ·rw [updE_ne hne] at ho
   obtain ⟨h1, h2⟩ := ok.ltB q o b hq ho
   exact ⟨by simp; omega, h2⟩
 ·rcases get_set hq with ⟨e, rfl⟩ | ⟨hne, h2⟩ <;> rcases get_set hq' with ⟨e', rfl⟩ | ⟨hne', h2'⟩
  ·rw [e, e']
  ·subst e
   rw [updE_ne hne'] at ho'
   rcases hhas ho with ho | rfl
   ·exact ok.injB q q' _ o' b hH h2' ho ho'
   ·have := (ok.ltB q' o' _ h2' ho').1
    omega
  ·subst e'
   rw [updE_ne hne] at ho
   rcases hhas ho' with ho' | rfl
   ·exact ok.injB q q' o _ b h2 hH ho ho'
   ·have := (ok.ltB q o _ h2 ho).1
    omega
  ·rw [updE_ne hne] at ho
   rw [updE_ne hne'] at ho'
   exact ok.injB q q' o o' b h2 h2' ho ho'
 ·have := ok.F b hb
  simp; omega
 ·have hp : ∀ {q k1 t1} {s1 : Sh} {l1 : List s1.T}, (H.set r (Obj.pool k t s (l ++ [y])))[q]? = some (Obj.pool k1 t1 s1 l1) → ∃ (k2 : Bool) (s2 : Sh) (l2 : List s2.T), H[q]? = some (Obj.pool k2 t1 s2 l2) := fun hq => by
   rcases get_set hq with ⟨rfl, e⟩ | ⟨_, hq⟩
   ·cases e; exact ⟨_, _, _, hH⟩
   ·exact ⟨_, _, _, hq⟩
  obtain ⟨_, _, _, h1⟩ := hp hq
  obtain ⟨_, _, _, h2⟩ := hp hq'
  exact ok.uni q q' _ _ _ _ _ _ _ h1 h2
theorem pool_none (ok : HeapOk w β F H) {t : Nat} (hn : poolAt H t = none) (k : Bool) (s : Sh) :
  HeapOk w (upd β H.length (.mk3 0 0 False)) F (H ++ [.pool k t s []]) ∧ Ext (en w β F H) (en w (upd β H.length (.mk3 0 0 False)) F (H ++ [.pool k t s []])) := by
 have hno : ∀ {p : Loc} {b}, ¬ has p (.pool k t s []) b := fun ⟨i, h, _⟩ => absurd h (Nat.not_lt_zero _)
 have hx : Ext (en w β F H) (en w (upd β H.length (.mk3 0 0 False)) F (H ++ [.pool k t s []])) := {
  n := by simp [en]
  β := fun r hr => by have hr : r < H.length := hr; simp only [en, upd_lt hr]
  el := fun r i hr _ => by have hr : r < H.length := hr; simp only [en, upd_lt hr]
  size := Nat.le_refl _
  kept := fun _ _ _ => rfl
  sub := fun b _ h => by
   rcases h.snoc with h | h
   ·exact h
   ·exact absurd h hno
  F := rfl
  sz := fun r m hr h => by
   have hr' : r < H.length := hr
   simp only [en, szOf] at h ⊢
   rw [List.getElem?_append_left hr'] at h
   exact h
  grow := fun b c t f h => ⟨c, f, h, rfl⟩
  out := ⟨rfl, rfl⟩
  froz := fun b c t f h => .inr ⟨c, h⟩
  pq := pq_snoc
  pn := fun r hr => pn_keep fun o h => by rw [List.getElem?_append_left hr]; exact h }
 refine ⟨⟨fun r o h => ?_, fun r o b h ho => ?_, fun r r' o o' b h h' ho ho' => ?_, ok.F, fun r r' k1 k2 t1 s1 s2 l1 l2 h h' => ?_⟩, hx⟩
 ·rcases get_snoc h with h | ⟨rfl, rfl⟩
  ·exact RepObj.keep ok hx h fun _ _ => rfl
  ·exact ⟨fun i y hy => by simp at hy, fun i j hi => absurd hi (Nat.not_lt_zero _)⟩
 ·rcases get_snoc h with h | ⟨rfl, rfl⟩
  ·rw [upd_lt (lt_len h)] at ho
   exact ok.ltB r o b h ho
  ·exact absurd ho hno
 ·rcases get_snoc h with h | ⟨_, rfl⟩ <;> rcases get_snoc h' with h' | ⟨_, rfl⟩
  ·rw [upd_lt (lt_len h)] at ho
   rw [upd_lt (lt_len h')] at ho'
   exact ok.injB r r' o o' b h h' ho ho'
  ·exact absurd ho' hno
  ·exact absurd ho hno
  ·exact absurd ho hno
 ·rcases get_snoc h with h | ⟨e, h⟩ <;> rcases get_snoc h' with h' | ⟨e', h'⟩
  ·exact ok.uni _ _ _ _ _ _ _ _ _ h h'
  ·cases h'; exact absurd h (poolAt_none hn _ _ _ _)
  ·cases h; exact absurd h' (poolAt_none hn _ _ _ _)
  ·rw [e, e']
theorem poolAt_snoc {H : Heap} {t : Nat} {k : Bool} {s : Sh} {l : List s.T} : (H ++ [Obj.pool k t s l])[H.length]? = some (.pool k t s l) := by simp
theorem poolPush_ok {k : Bool} {t : Nat} {s : Sh} {y : s.T} {K : Int → Heap → Option R} (h : poolPush H k t s y K = some x) (ok : HeapOk w β F H) (cs : Array Value) (ty : TypeId) (hy : PoolC w (en w β F H).av k s y cs.toList) :
  ∃ (i : Nat) (H' : Heap) (β' : Nat → Loc), K (i : Int) H' = some x ∧ HeapOk (w.alloc (.cells cs ty)) β' F H' ∧ Ext (en w β F H) (en (w.alloc (.cells cs ty)) β' F H') ∧ pbOf β' H' t i w.heap.size (poolM k s y) := by
 unfold poolPush at h
 split at h
 ·rename_i r hr
  split at h
  ·rename_i k' t' s' l hH
   split at h
   ·rename_i hh
    obtain ⟨rfl, rfl⟩ := hh
    rw [setHK_eq, castL_id] at h
    obtain ⟨_, _, _, h1⟩ := poolAt_spec hr
    rw [hH] at h1
    cases h1
    obtain ⟨q1, q2, q3⟩ := pool_push_old ok hH cs ty hy
    exact ⟨l.length, _, _, h, q1, q2, q3⟩
   ·cases h
  ·cases h
 ·rename_i hn
  rw [pushHK_eq] at h
  obtain ⟨q1, q2⟩ := pool_none ok hn k s
  obtain ⟨q3, q4, q5⟩ := pool_push_old q1 poolAt_snoc cs ty (hy.mono q2.kp)
  have e : (H ++ [Obj.pool k t s []]).set H.length (.pool k t s ([] ++ [y])) = H ++ [.pool k t s [y]] := by simp
  rw [e] at q3 q4 q5
  exact ⟨0, _, _, h, q3, q2.trans q4, q5⟩
theorem addPools_ok {cfg : List Nat} : ∀ {ts : List Nat} {H : Heap} {β : Nat → Loc} {K : Heap → Option R}, addPools P cfg ts H K = some x → HeapOk w β F H →
  ∃ H' β', K H' = some x ∧ HeapOk w β' F H' ∧ Ext (en w β F H) (en w β' F H')
 | [], H, β, K, h, ok => ⟨H, β, h, ok, Ext.refl _⟩
 | t :: ts, H, β, K, h, ok => by
  simp only [addPools] at h
  cases hb : cfg.contains t with
  | false => rw [hb] at h; exact addPools_ok h ok
  | true =>
   rw [hb] at h
   simp only [cond_true] at h
   split at h
   ·exact addPools_ok h ok
   ·rename_i hn
    split at h
    ·rename_i s hs
     rw [pushHK_eq] at h
     obtain ⟨q1, q2⟩ := pool_none ok hn (!Nat.beq (t % 2) 0) s
     obtain ⟨H', β', h1, h2, h3⟩ := addPools_ok h q1
     exact ⟨H', β', h1, h2, q2.trans h3⟩
    ·cases h
theorem exMakeRow_ok {cfg : List Nat} {t : TypeId} {k k' : IntKind} {n m : Int} {K : Sc → Heap → Option R} (h : exMakeRow P cfg t n m H K = some x) (ok : HeapOk w β F H) :
  ∃ v w', (Instr.makeSlice t (.int k n) (.int k' m)).run P w = .ok v w' ∧ Sup w w' ∧ ResC w β F H x K v w' := by
 unfold exMakeRow at h
 split at h
 ·rename_i e hd
  cases hc : cfg.contains (2 * e + 1) with
  | true =>
   rw [hc] at h
   simp only [cond_true] at h
   split at h
   ·rename_i s hs
    obtain ⟨i, z, hi, hz, hzr, hsz, hs0, hzc⟩ := elemOf_spec hs
    obtain ⟨hb, hK⟩ := br_none h
    clear h
    simp only [Bool.and_eq_true, decide_eq_true_eq] at hb
    obtain ⟨⟨⟨h0, h1⟩, h2⟩, h3⟩ := hb
    have h3 : 0 < P.bytesOf e := by simpa using h3
    have hbi : P.bytesOf e = i.bytes := by simp [Program.bytesOf, hi]
    rw [hbi] at h2 h3
    obtain ⟨cs, hcs, hrun⟩ := run_makeSlice (P := P) (k := k) (k' := k') hd hi hz w (by rw [hzc, hsz]) (by omega) h0 h1 h2 h3
    obtain ⟨vs, hvs, hve⟩ := RepRow.replicate (hzr (en w β F H)) n.toNat
    obtain ⟨q, H', β', k1, k2, k3, k4⟩ := poolPush_ok (k := true) (s := .isl s) (y := List.replicate n.toNat s.zero) hK ok cs e ⟨vs, (List.replicate (m.toNat - n.toNat) z.cells.toList).flatten, by
     rw [hcs, hve, ← List.flatten_append, List.replicate_append_replicate]
     congr 2
     omega, hvs⟩
    refine ⟨_, _, hrun, sup_alloc w _, .rf true (2 * e + 1) q, _, _, k2, k3, Or.inr ⟨by omega, w.heap.size, n.toNat, _, _, ?_, rfl, by omega, fun _ => rfl⟩, k1⟩
    have hl : poolM true (.isl s) (List.replicate n.toNat s.zero) = n.toNat := by show (List.replicate n.toNat s.zero).length = _; simp
    rw [hl] at k4
    exact k4
   ·cases h
  | false =>
   rw [hc] at h
   simp only [cond_false] at h
   split at h
   ·rename_i e' i he hi
    split at h
    ·rename_i z hz
     cases hb : (cfg.contains (2 * e' + 1) && cellMatch [.row (.ref true (2 * e' + 1)) 1 [(-1 : Int)]] z.cells.toList && Nat.beq 1 i.size) with
     | false => rw [hb] at h; exact exMakeSlice_ok h ok
     | true =>
      rw [hb] at h
      simp only [cond_true] at h
      simp only [Bool.and_eq_true] at hb
      obtain ⟨⟨_, hcm⟩, hsz⟩ := hb
      have hsz : i.size = 1 := (Nat.eq_of_beq_eq_true hsz).symm
      obtain ⟨hb, hK⟩ := br_none h
      clear h
      simp only [Bool.and_eq_true, decide_eq_true_eq] at hb
      obtain ⟨⟨⟨h0, h1⟩, h2⟩, h3⟩ := hb
      have h3 : 0 < P.bytesOf e := by simpa using h3
      have hbi : P.bytesOf e = i.bytes := by simp [Program.bytesOf, hi]
      rw [hbi] at h2 h3
      have hzr : RepT w (en w β F H).av (.ref true (2 * e' + 1)) (-1 : Int) z.cells.toList := by
       obtain ⟨_, u, v, e1, ⟨u1, u2, rfl, h4, h5⟩, h6⟩ := cellMatch_rep (e := en w β F H) hcm
       rw [e1, show u2 = [] from h5, show v = [] from h6, List.append_nil, List.append_nil]
       exact h4
      have hzc : z.cells.size = 1 := by have := hzr.size; simpa [Sh.size] using this
      obtain ⟨cs, hcs, hrun⟩ := run_makeSlice (P := P) (k := k) (k' := k') hd hi hz w (by rw [hzc, hsz]) (by omega) h0 h1 h2 h3
      obtain ⟨vs, hvs, hve⟩ := RepRow.replicate hzr n.toNat
      have hll : (List.replicate n.toNat (-1 : Int)).length = n.toNat := List.length_replicate
      have hcz : cs.size = m.toNat := by
       rw [← Array.length_toList, hcs]
       simp [List.length_flatten, hzc]
      obtain ⟨q1, q2, q3⟩ := new_row (s := .ref true (2 * e' + 1)) (l := List.replicate n.toNat (-1 : Int)) (C := m.toNat) ok e hvs (cs := cs) ⟨(List.replicate (m.toNat - n.toNat) z.cells.toList).flatten, by
       rw [hcs, hve, ← List.flatten_append, List.replicate_append_replicate]
       congr 2
       omega⟩ (by rw [hll]; omega) (by rw [hcz]; simp [Sh.size])
      rw [hll] at q1 q2 q3
      rw [pushHK_eq] at hK
      obtain ⟨H3, β3, k3, ok3, hx3⟩ := addPools_ok hK q1
      exact ⟨_, _, hrun, sup_alloc w _, _, _, _, ok3, q2.trans hx3, RepSc.mono hx3 _ _ q3, k3⟩
    ·cases h
   ·exact exMakeSlice_ok h ok
 ·cases h
theorem exGrow_ok {o : Oper} {K : Slot → Heap → Option R} (hg : grows o.op = true) (hr : exAct P T fr H o.op K = some x) (h : Rel w β F H fr a) :
  ∃ v w', (execOp a.eval o).run P w = .ok (.value v) w' ∧ Sup w w' ∧ Res w β F H x K v w' := by
 unfold exAct at hr
 split at hr
 ·rename_i t e
  cases hc : (cfgOf T).contains (2 * t) with
  | true =>
   rw [hc] at hr
   simp only [cond_true] at hr
   split at hr
   ·rename_i s hs
    obtain ⟨i, z, hi, hz, hrep, _⟩ := elemOf_spec hs
    obtain ⟨q, H', β', h1, h2, h3, h4⟩ := poolPush_ok hr h.ok z.cells t ⟨z.cells.toList, [], by simp, hrep (en w β F H)⟩
    exact ⟨.pointer (some ⟨w.heap.size, 0, none⟩), w.alloc (.cells z.cells t), by simp only [execOp, e]; exact run_value (by simp [Instr.alloc, run_zero hi hz, newVar, newRow]), sup_alloc w _, .sv (.v (.rf false (2 * t) q)), H', β', h2, h3,
     Or.inr ⟨by omega, _, h4, rfl⟩, h1⟩
   ·cases hr
  | false =>
   rw [hc] at hr
   simp only [cond_false] at hr
   split at hr
   ·rename_i l hl
    obtain ⟨i, z, hi, hz, hrep, _⟩ := zeroOf_spec hl
    obtain ⟨sg', i', H1, β1, k1, ok1, hx1, hr1, _⟩ := rebSegs_ok h.ok hr (hrep _)
    obtain ⟨w', h1, h2, s2, H2, β2, ok2, hx2, hs2, k2⟩ := alloc_ok (P := P) ok1 t hr1 (K := fun y G => addPools P (cfgOf T) (segTags sg') G fun G => K y G) k1
    obtain ⟨H3, β3, k3, ok3, hx3⟩ := addPools_ok k2 ok2
    exact ⟨_, w', by simp only [execOp, e]; exact run_value (by simp [Instr.alloc, run_zero hi hz, h1]), h2, s2, H3, β3, ok3, (hx1.trans hx2).trans hx3, RepSlot.mono0 hx3.zero _ _ hs2, k3⟩
   ·cases hr
 ·rename_i t y e
  split at hr
  ·rename_i v hv
   obtain ⟨hb, hk⟩ := bif_none hr
   cases hc : (cfgOf T).contains (2 * t) with
   | true =>
    rw [hc] at hk
    simp only [cond_true] at hk
    split at hk
    ·rename_i s cs hs hcs
     have hus := segCells_rep hcs (okSV_one (evalSV_rep h hv) hb)
     obtain ⟨cs', H1, h1, ok1, hx1, hus1⟩ := freezeL_ok h.ok hk hus
     split at h1
     ·rename_i yy hy
      have hrep := dec1_rep (e := en w β F H1) hy hus1
      obtain ⟨q, H', β', h2, h3, h4, h5⟩ := poolPush_ok (k := false) h1 ok1 (a.eval y).cells t ⟨(a.eval y).cells.toList, [], by simp, hrep⟩
      exact ⟨.pointer (some ⟨w.heap.size, 0, none⟩), w.alloc (.cells (a.eval y).cells t), by simp only [execOp, e]; exact run_value (by simp [Instr.box, newVar, newRow]), sup_alloc w _, .sv (.v (.rf false (2 * t) q)), H', β', h3, hx1.trans h4,
       Or.inr ⟨by omega, _, h5, rfl⟩, h2⟩
     ·cases h1
    ·cases hk
   | false =>
    rw [hc] at hk
    simp only [cond_false] at hk
    obtain ⟨sg', i', H1, β1, k1, ok1, hx1, hr1, _⟩ := rebSegs_ok h.ok hk (okSV_one (regrp_rep (evalSV_rep h hv)) (by rw [okSV_regrp]; exact hb))
    obtain ⟨w', h1, h2, s2, H2, β2, ok2, hx2, hs2, k2⟩ := alloc_ok (P := P) ok1 t hr1 (K := fun y G => addPools P (cfgOf T) (segTags sg') G fun G => K y G) k1
    obtain ⟨H3, β3, k3, ok3, hx3⟩ := addPools_ok k2 ok2
    exact ⟨_, w', by simp only [execOp, e]; exact run_value (by simp [Instr.box, h1]), h2, s2, H3, β3, ok3, (hx1.trans hx2).trans hx3, RepSlot.mono0 hx3.zero _ _ hs2, k3⟩
  ·cases hr
 ·rename_i t n ps e
  split at hr
  ·rename_i l hl
   obtain ⟨v, w', h1, h2, h3⟩ := exBuildSlice_ok (Ps := ps.map fun (i, x) => (i, a.eval x)) hr h.ok (by have := partList_rep h hl; simpa using this)
   exact ⟨v, w', by simp only [execOp, e]; exact run_value h1, h2, h3.res⟩
  ·cases hr
 ·rename_i e; rw [e] at hg; cases hg
 ·rename_i t r e
  split at hr
  ·obtain ⟨v, w', h1, h2, h3⟩ := exMakeMap_ok (P := P) (rv := none) hr h.ok (.inl rfl)
   exact ⟨v, w', by simp only [execOp, e]; exact run_value h1, h2, h3.res⟩
  ·rename_i y
   split at hr
   ·rename_i k n hn
    obtain ⟨v, w', h1, h2, h3⟩ := exMakeMap_ok (P := P) (rv := some (.int k n)) hr h.ok (.inr ⟨k, n, rfl⟩)
    have hy : a.eval y = .int k n := evalS_eq h hn
    refine ⟨v, w', ?_, h2, h3.res⟩
    simp only [execOp, e]
    refine run_value ?_
    simp only [Option.map_some, hy]
    exact h1
   ·cases hr
 ·rename_i t l c e
  split at hr
  ·rename_i k n k' m hn hm
   obtain ⟨v, w', h1, h2, h3⟩ := exMakeRow_ok (P := P) (k := k) (k' := k') hr h.ok
   have hl : a.eval l = .int k n := evalS_eq h hn
   have hc : a.eval c = .int k' m := evalS_eq h hm
   refine ⟨v, w', ?_, h2, h3.res⟩
   simp only [execOp, e]
   rw [hl, hc]
   exact run_value h1
  ·cases hr
 ·rename_i e; rw [e] at hg; cases hg
 ·rename_i e; rw [e] at hg; cases hg
 ·cases hr
set_option maxHeartbeats 1000000 in
theorem exAct_ok (hT : TabOK P T) {o : Oper} {K : Slot → Heap → Option R} (hr : exAct P T fr H o.op K = some x) (h : Rel w β F H fr a) : OpOk P w β F H x K ((execOp a.eval o).run P w) := by
 by_cases hg : grows o.op = true
 ·obtain ⟨v, w', h1, _, h2⟩ := exGrow_ok hg hr h
  rw [h1]
  exact .value v w' h2
 unfold exAct at hr
 split at hr
 ·rename_i e; exact absurd (by rw [e]; rfl) hg
 ·rename_i e; exact absurd (by rw [e]; rfl) hg
 ·rename_i e; exact absurd (by rw [e]; rfl) hg
 ·rename_i t p y e
  split at hr
  ·rename_i v agg n hv ht
   have hp := evalS_rep h p
   split at hr
   ·rename_i r q hrq
    rw [hrq] at hp
    obtain ⟨v', i', H1, β1, k1, ok1, hx1, hv1⟩ := rebSV_ok h.ok hr (regrp_rep (evalSV_rep h hv))
    obtain ⟨w', H', h1, h2, h3, h4⟩ := storeAt_ok ht k1 ok1 (RepSc.mono hx1 _ _ hp) hv1
    simp only [execOp, e]
    exact .of_skip h1 ⟨.undef, H', β1, h2, hx1.trans h3, trivial, h4⟩
   ·obtain ⟨w', H', h1, h2, h3, h4⟩ := storeAt_ok ht hr h.ok hp (evalSV_rep h hv)
    simp only [execOp, e]
    exact .of_skip h1 ⟨.undef, H', β, h2, h3, trivial, h4⟩
  ·cases hr
 ·rename_i e; exact absurd (by rw [e]; rfl) hg
 ·rename_i e; exact absurd (by rw [e]; rfl) hg
 ·rename_i t m k y e
  split at hr
  ·rename_i kv v hk hv
   obtain ⟨w', H', h1, h2, h3, h4⟩ := exMapUpdate_ok hr h.ok (evalS_rep h m) (evalSV_rep h hk) (evalSV_rep h hv)
   simp only [execOp, e]
   exact .of_skip h1 ⟨.undef, H', β, h2, h3, trivial, h4⟩
  ·cases hr
 ·rename_i c e
  split at hr
  ·rename_i b hb
   obtain ⟨cs, hrun⟩ := builtin_run (P := P) b c o.type hb a.eval
   have hrun : (execOp a.eval o).run P w = (builtin b c.argTypes o.type cs (c.args.map a.eval)).run P w := by
    simp only [execOp, e]
    exact hrun w
   rw [hrun]
   split at hr
   ·split at hr
    ·rename_i y z t hy ht
     have hy := toList_two hy
     obtain ⟨v, w', h1, h2⟩ := exAppend_ok (ty := o.type) ht hr h.ok (widen_rep h.ok (evalS_rep h y)) (widen_rep h.ok (evalS_rep h z))
     rw [hy]
     simp only [builtin, List.map_toArray, List.map_cons, List.map_nil]
     exact .of_value h1 h2.res
    ·rename_i y z hy ht
     have hy := toList_two hy
     split at hr
     ·rename_i t k n hz hn
      obtain ⟨v, w', h1, h2⟩ := exAppendZ_ok (ty := o.type) hz hr h.ok (evalS_rep h y) (show RepSc _ (.int k n) _ from hn ▸ evalS_rep h z)
      rw [hy]
      simp only [builtin, List.map_toArray, List.map_cons, List.map_nil]
      exact .of_value h1 h2.res
     ·cases hr
    ·cases hr
   ·split at hr
    ·rename_i y z t ts hy ht
     have hy := toList_two hy
     have ht0 : c.argTypes[0]? = some t := by rw [← Array.getElem?_toList, ht]; rfl
     obtain ⟨n, w', H', h1, h2, h3, h4⟩ := exCopy_ok (ty := o.type) ht0 hr h.ok (widen_rep h.ok (evalS_rep h y)) (widen_rep h.ok (evalS_rep h z))
     rw [hy]
     simp only [builtin, List.map_toArray, List.map_cons, List.map_nil]
     exact .of_value h1 ⟨.sv (.v (.int .i64 n)), H', β, h2, h3, rfl, h4⟩
    ·cases hr
   ·split at hr
    ·rename_i y z t ts hy ht
     have hy := toList_two hy
     have ht0 : c.argTypes[0]? = some t := by rw [← Array.getElem?_toList, ht]; rfl
     split at hr
     ·rename_i k hk
      obtain ⟨w', H', h1, h2, h3, h4⟩ := exDelete_ok (ty := o.type) ht0 hr h.ok (evalS_rep h y) (evalSV_rep h hk)
      rw [hy]
      simp only [builtin, List.map_toArray, List.map_cons, List.map_nil]
      exact .of_value h1 ⟨.tup [], H', β, h2, h3, ⟨[], rfl, rfl⟩, h4⟩
     ·cases hr
    ·cases hr
   ·cases hr
  ·rename_i f hf
   split at hr
   ·rename_i g caps args hg hargs
    obtain ⟨hcaps, hv⟩ := evalS_eq h hg
    obtain ⟨h1, h2⟩ := exCall_ok hT hr h.ok (RepSVs.append (svList_rep h hargs) (caps_rep hcaps))
    have : (execOp a.eval o).run P w = .ok (.enter g ((c.args.toList.map a.eval) ++ caps.map fun r => Value.pointer (some (addr (en w β F H) r 0))).toArray) w := by
     rw [← h1]
     simp only [execOp, e, resolve, hf, hv, Deferred.ofValue, Sem.run_bind, Sem.run_pure, Result.andThen_ok, invoke]
     congr 2
     apply Array.ext'
     simp
    rw [this]
    exact .enter _ _ _ h2
   ·cases hr
  ·cases hr
 ·cases hr
end
end Go.Gx

namespace Go.Gx
section
variable {R : Type} {P : Program} {T : Table} {w : World} {β : Nat → Loc} {F : Nat → Prop} {H : Heap} {fr : Fr} {a : Act} {x : R}
theorem Rel.set {w' : World} {β' : Nat → Loc} {H' : Heap} (h : Rel w β F H fr a) (ok : HeapOk w' β' F H') (hx : Ext (en w β F H) (en w' β' F H')) (d : Nat) {s : Slot} {v : Value} (hs : RepSlot (en w' β' F H') s v) :
  Rel w' β' F H' (fr.set d s) (a.put (some d) v) := by
 refine ⟨ok, h.defers, by simpa [Act.put] using h.len, fun t => ?_⟩
 have old := RepSlot.mono hx _ _ (h.slots t)
 by_cases e : t = d
 ·subst e
  by_cases ht : t < fr.length
  ·have ht' : t < a.tmps.size := Nat.lt_of_lt_of_le ht h.len
   simp only [Act.put, Array.getD_eq_getD_getElem?, Array.getElem?_setIfInBounds_self_of_lt ht', Option.getD_some, List.getD, List.getElem?_set_self ht]
   exact hs
  ·have : (fr.set t s).getD t .undef = .undef := by rw [List.getD_eq_getElem?_getD, List.getElem?_eq_none (by simp; omega)]; rfl
   rw [this]
   trivial
 ·have h1 : (fr.set d s).getD t .undef = fr.getD t .undef := by simp [List.getD, List.getElem?_set_ne (Ne.symm e)]
  have h2 : (a.put (some d) v).tmps.getD t undef = a.tmps.getD t undef := by
   simp [Act.put, Array.getD_eq_getD_getElem?, Array.getElem?_setIfInBounds_ne (Ne.symm e)]
  rw [h1, h2]
  exact old
theorem Rel.keep {w' : World} {β' : Nat → Loc} {H' : Heap} (h : Rel w β F H fr a) (ok : HeapOk w' β' F H') (hx : Ext (en w β F H) (en w' β' F H')) : Rel w' β' F H' fr a :=
 ⟨ok, h.defers, h.len, fun t => RepSlot.mono hx _ _ (h.slots t)⟩
theorem Rel.known (h : Rel w β F H fr a) {t : Nat} {s : Slot} (hs : RepSlot (en w β F H) s (a.tmps.getD t undef)) : Rel w β F H (fr.set t s) a := by
 refine ⟨h.ok, h.defers, by simpa using h.len, fun q => ?_⟩
 by_cases e : q = t
 ·subst e
  by_cases hq : q < fr.length
  ·simp only [List.getD, List.getElem?_set_self hq, Option.getD_some]
   exact hs
  ·have : (fr.set q s).getD q .undef = .undef := by rw [List.getD_eq_getElem?_getD, List.getElem?_eq_none (by simp; omega)]; rfl
   rw [this]
   trivial
 ·have h1 : (fr.set t s).getD q .undef = fr.getD q .undef := by simp [List.getD, List.getElem?_set_ne (Ne.symm e)]
  rw [h1]
  exact h.slots q
def setO (fr : Fr) (d : Option Nat) (s : Slot) : Fr := match d with
 | some t => fr.set t s
 | none => fr
theorem putF_set (fr : Fr) (d : Option Nat) (s : Slot) (K : Fr → Option R) : putF fr d s K = K (setO fr d s) := by
 cases d <;> simp [putF, setO]
theorem Rel.put {w' : World} {β' : Nat → Loc} {H' : Heap} (h : Rel w β F H fr a) (ok : HeapOk w' β' F H') (hx : Ext (en w β F H) (en w' β' F H')) (d : Option Nat) {s : Slot} {v : Value} (hs : RepSlot (en w' β' F H') s v) :
  Rel w' β' F H' (setO fr d s) (a.put d v) := by
 cases d with
 | some d => exact h.set ok hx d hs
 | none => exact h.keep ok hx
theorem undef_tup {e : En} : RepSlot e (.tup []) undef := ⟨[], rfl, rfl⟩
theorem res_put {o : Oper} {b : Bool} (h : Rel w β F H fr a) {K : Fr → Heap → Option R} {v : Value} {w' : World} (hr : Res w β F H x (fun s H => fHr b H fun H => putF fr o.dst s fun fr => K fr H) v w') :
  ∃ fr' H' β', Rel w' β' F H' fr' (a.put o.dst v) ∧ Ext (en w β F H) (en w' β' F H') ∧ K fr' H' = some x := by
 obtain ⟨s, H', β', ok, hx, hs, hK⟩ := hr
 replace hK : K (setO fr o.dst s) H' = some x := by simpa only [fHr_eq, putF_set] using hK
 exact ⟨_, H', β', h.put ok hx o.dst hs, hx, hK⟩
def After {R : Type} (e0 : En) (F : Nat → Prop) (x : R) (K : Fr → Heap → Option R) (a : Act) (w : World) : Prop :=
 ∃ fr H β, Rel w β F H fr a ∧ Ext e0 (en w β F H) ∧ K fr H = some x
theorem exOp_ok (hT : TabOK P T) {o : Oper} {K : Slot → Heap → Option R} (hr : exOp P T fr H o.op K = some x) (h : Rel w β F H fr a) : OpOk P w β F H x K ((execOp a.eval o).run P w) := by
 unfold exOp at hr
 cases hb : isRead o.op with
 | true =>
  rw [hb] at hr
  have hr : exRead P fr H o.op (fun s => K s H) = some x := hr
  obtain ⟨s, v, h1, h2, h3⟩ := exRead_ok hr h
  rw [h1 w (Sup.refl w)]
  exact .value _ _ (.same h.ok h2 h3)
 | false =>
  rw [hb] at hr
  exact exAct_ok hT hr h
theorem exOp_wp (hT : TabOK P T) {o : Oper} {K : Fr → Heap → Option R} (hr : exOp P T fr H o.op (fun s H => fHr (isRead o.op) H fun H => putF fr o.dst s fun fr => K fr H) = some x) (h : Rel w β F H fr a)
  {next : Act → World → Prop} {Q : Exit → Act → World → Prop} (hn : ∀ a' w', After (en w β F H) F x K a' w' → next a' w') : o.wp P a w next Q := by
 have hok := exOp_ok hT hr h
 unfold Oper.wp
 generalize (execOp a.eval o).run P w = r at hok
 cases hok with
 | value v w' hv => exact hn _ _ (res_put h hv)
 | skip w' hv => exact hn _ _ (res_put h hv)
 | enter f args w' hc =>
  refine Calls.mono hc fun e w'' he => ?_
  obtain ⟨v, rfl, hv⟩ := he
  exact hn _ _ (res_put h hv)
theorem yielded_of {ops : Array Oper} {j t : Nat} (hj : gslot ops.toList j = some t) (tmps : Array Value) : yielded ops tmps j = match tmps[t]? with
  | some (.bool b) => some b
  | _ => none := by
 unfold gslot at hj
 unfold yielded
 rw [Array.getElem?_toList] at hj
 cases ho : ops[j]? with
 | none => rw [ho] at hj; cases hj
 | some o =>
  rw [ho] at hj
  simp only at hj
  simp only [Option.bind_some, hj]
  rfl
theorem exStep_wp (hT : TabOK P T) {ops : Array Oper} {o : Oper} {K : Fr → Heap → Option R} (hr : exStep P T ops.toList o fr H K = some x) (h : Rel w β F H fr a)
  {next : Act → World → Prop} {Q : Exit → Act → World → Prop} (hn : ∀ a' w', After (en w β F H) F x K a' w' → next a' w') :
  if Region.wanted o (yielded ops a.tmps) = true then o.wp P a w next Q ∨ (o.asks P a w ∧ LetsOut Q) else next (a.put o.dst undef) w := by
 unfold exStep at hr
 split at hr
 ·rename_i hg
  have : Region.wanted o (yielded ops a.tmps) = true := by simp [Region.wanted, hg]
  rw [if_pos this]
  exact .inl (exOp_wp hT hr h hn)
 ·rename_i j want hg
  split at hr
  ·rename_i t ht
   have hs := h.slots t
   split at hr
   ·rename_i b hb
    rw [hb] at hs
    have hs : a.tmps.getD t undef = .bool b := hs
    have ht' : a.tmps[t]? = some (.bool b) := by
     rw [Array.getD_eq_getD_getElem?] at hs
     cases he : a.tmps[t]? with
     | none => rw [he] at hs; cases hs
     | some v => rw [he] at hs; simp at hs; rw [hs]
    have hw : Region.wanted o (yielded ops a.tmps) = asks want b := by
     simp only [Region.wanted, hg, yielded_of ht, ht']
     cases b <;> cases want <;> rfl
    rw [hw]
    cases hc : asks want b with
    | true =>
     rw [hc] at hr
     simp only [br, setF_eq] at hr
     have hbw : b = want := by cases b <;> cases want <;> first | rfl | (cases hc)
     subst hbw
     rw [if_pos rfl]
     have h' : Rel w β F H (fr.set t (.sv (.v (.bool b)))) a := h.known (by rw [hs]; rfl)
     exact .inl (exOp_wp hT hr h' hn)
    | false =>
     rw [hc] at hr
     simp only [br, setF_eq, putF_set] at hr
     have hbw : b = !want := by cases b <;> cases want <;> first | rfl | (cases hc)
     subst hbw
     rw [if_neg (by simp)]
     have h' : Rel w β F H (fr.set t (.sv (.v (.bool (!want))))) a := h.known (by rw [hs]; rfl)
     exact hn _ _ ⟨_, H, β, h'.put h.ok (Ext.refl _) o.dst undef_tup, Ext.refl _, hr⟩
   ·rename_i l hl
    rw [hl] at hs
    obtain ⟨vs, hs, _⟩ := hs
    have ht' : ∀ b, a.tmps[t]? ≠ some (.bool b) := fun b he => by
     rw [Array.getD_eq_getD_getElem?, he] at hs
     cases hs
    have hw : Region.wanted o (yielded ops a.tmps) = false := by
     have hm : (match a.tmps[t]? with
      | some (.bool b) => some b
      | _ => none) = none := by
      split
      ·rename_i b hb; exact absurd hb (ht' b)
      ·rfl
     simp only [Region.wanted, hg, yielded_of ht]
     rw [show (none == some want) = false from rfl] <;> rfl
    rw [hw, if_neg (by simp)]
    rw [putF_set] at hr
    exact hn _ _ ⟨_, H, β, h.put h.ok (Ext.refl _) o.dst undef_tup, Ext.refl _, hr⟩
   ·cases hr
  ·cases hr
theorem iceFr_ok {H0 : Heap} {rs : List Nat} (ok0 : HeapOk w β F H0) : ∀ {fr : Fr} {H : Heap} {K : Fr → Heap → Option R} {vs : Nat → Value}, HeapOk w β F H → Ext (en w β F H0) (en w β F H) → Dd H0 H → iceFr H0 rs fr H K = some x →
  (∀ t, RepSlot (en w β F H0) (fr.getD t .undef) (vs t)) → ∃ fr' H', K fr' H' = some x ∧ HeapOk w β F H' ∧ Ext (en w β F H) (en w β F H') ∧ Dd H0 H' ∧ fr'.length = fr.length ∧ ∀ t, RepSlot (en w β F H') (fr'.getD t .undef) (vs t)
 | [], H, K, vs, ok, _, hd, h, hs => ⟨[], H, h, ok, Ext.refl _, hd, rfl, fun t => by simp [RepSlot]⟩
 | s :: fr, H, K, vs, ok, hx, hd, h, hs => by
  unfold iceFr at h
  have h0 : RepSlot (en w β F H0) s (vs 0) := hs 0
  have hs' : ∀ t, RepSlot (en w β F H0) (fr.getD t .undef) (vs (t + 1)) := fun t => hs (t + 1)
  cases hb : (rowRef s).any rs.contains with
  | true =>
   rw [hb] at h
   cases s with
   | sv v =>
    cases v with
    | v y =>
     have h : freezeQ H0 H y (fun y H => iceFr H0 rs fr H fun fr H => K (.sv (.v y) :: fr) H) = some x := h
     obtain ⟨y', H1, h1, ok1, hx1, hy1, hd1⟩ := freezeQ_ok ok0 ok hx hd h h0
     obtain ⟨fr', H2, h2, ok2, hx2, hd2, hl, hs2⟩ := iceFr_ok ok0 (vs := fun t => vs (t + 1)) ok1 (hx.trans hx1) hd1 h1 hs'
     refine ⟨_, H2, h2, ok2, hx1.trans hx2, hd2, by simp [hl], fun t => ?_⟩
     cases t with
     | zero => exact RepSc.mono hx2 _ _ hy1
     | succ t => exact hs2 t
    | agg l => cases h
   | tup l => cases h
   | undef => cases h
  | false =>
   rw [hb] at h
   have h : iceFr H0 rs fr H (fun fr H => K (s :: fr) H) = some x := h
   obtain ⟨fr', H2, h2, ok2, hx2, hd2, hl, hs2⟩ := iceFr_ok ok0 (vs := fun t => vs (t + 1)) ok hx hd h hs'
   refine ⟨_, H2, h2, ok2, hx2, hd2, by simp [hl], fun t => ?_⟩
   cases t with
   | zero => exact RepSlot.mono (hx.trans hx2) _ _ h0
   | succ t => exact hs2 t
theorem icePre_ok {o : Op} {K : Fr → Heap → Option R} (h : icePre o fr H K = some x) (hR : Rel w β F H fr a) : ∃ fr' H', K fr' H' = some x ∧ Rel w β F H' fr' a ∧ Ext (en w β F H) (en w β F H') := by
 unfold icePre at h
 split at h
 ·exact ⟨fr, H, h, hR, Ext.refl _⟩
 ·obtain ⟨fr', H', h1, ok1, hx1, _, hl, hs1⟩ := iceFr_ok hR.ok (vs := fun t => a.tmps.getD t undef) hR.ok (Ext.refl _) (Dd.refl _) h hR.slots
  simp only [fH_eq, fFr_eq] at h1
  exact ⟨fr', H', h1, ⟨ok1, hR.defers, by rw [hl]; exact hR.len, hs1⟩, hx1⟩
theorem exOps_wp (hT : TabOK P T) {ops : Array Oper} {Q : Exit → Act → World → Prop} {e0 : En} {K : Fr → Heap → Option R} (hQ : ∀ a' w', After e0 F x K a' w' → Q .normal a' w') :
  ∀ (n k : Nat) {w : World} {β : Nat → Loc} {H : Heap} {fr : Fr} {a : Act}, k + n = ops.size → exOps P T ops.toList (ops.toList.drop k) fr H K = some x → Rel w β F H fr a → Ext e0 (en w β F H) →
  wpOps P ops Q (List.range' k n) a w
 | 0, k, w, β, H, fr, a, hk, hr, h, hx => by
  have : ops.toList.drop k = [] := by rw [List.drop_eq_nil_iff]; simp; omega
  rw [this] at hr
  exact hQ a w ⟨fr, H, β, h, hx, hr⟩
 | n + 1, k, w, β, H, fr, a, hk, hr, h, hx => by
  have hkl : k < ops.toList.length := by simp; omega
  rw [List.drop_eq_getElem_cons hkl] at hr
  have ho : ops[k]? = some ops.toList[k] := by simp
  rw [List.range'_succ]
  simp only [wpOps, ho]
  obtain ⟨fr1, H1, hr1, hR1, hx1⟩ := icePre_ok hr h
  have := exStep_wp (Q := Q) (next := wpOps P ops Q (List.range' (k + 1) n)) hT hr1 hR1 fun a' w' => by
   rintro ⟨fr', H', β', h1, h2, h3⟩
   exact exOps_wp hT hQ n (k + 1) (by omega) h3 h1 (hx.trans (hx1.trans h2))
  exact this
end
end Go.Gx
