/-
  Gx, part L: maps.
-/
import Derived.Test.YteagdmkedffplaaGxK
namespace Go.Gx
section
variable {R : Type} {P : Program} {w : World} {β : Nat → Loc} {F : Nat → Prop} {H : Heap} {fr : Fr} {a : Act} {x : R}

theorem run_getObj' {r : Nat} {es : Array MapEntry} {c : Nat} (h : w.heap[r]? = some (.map es c)) : (getObj r).run P w = .ok (.map es c) w := by
  simp [getObj, Sem.run, h]

theorem run_setObj' {r : Nat} {es : Array MapEntry} {c : Nat} {o' : Go.Obj} (h : w.heap[r]? = some (.map es c)) : (setObj r o').run P w = .ok () (setB w r o') := by
  simp [setObj, Sem.run, setB, h]

theorem run_part_one {t : TypeId} (ha : (isAgg t).run P w = .ok false w) {cs : Array Value} {o : Nat} {v : Value} (h : cs[o]? = some v) : (part t cs o).run P w = .ok v w := by
  simp [part, ha, h]

/-! ### keys that are scalars -/
theorem beq_bytes (a b : ByteArray) : (a == b) = decide (a = b) := by
  rw [beq_toListBytes, toList_beq]

theorem scalarOk_spec {av : Nat → Prop} {t : TypeId} {s : Sh} (h : scalarOk P t s = true) {a b : s.T} {us vs : List Value} (ha : RepT w av s a us) (hb : RepT w av s b vs) :
    ∃ d A B, P.underlying t = some d ∧ us = [A] ∧ vs = [B] ∧ (∀ n w, (Op.equalIn (n + 1) t A B).run P w = .ok (s.eqb a b) w) ∧ (∀ em n w, (Instr.checkKey em (n + 1) t A).run P w = .ok () w) ∧
      (s.eqb a b = true → A = B) ∧ (∀ n, Instr.sameBits n A A = true) ∧ (∀ w, (isAgg t).run P w = .ok false w) ∧ Instr.sameNow d A B = some (s.eqb a b) ∧ (∀ l, A ≠ .agg l) := by
  unfold scalarOk at h
  split at h
  · rename_i _ k k' hd
    have h : k = k' := by simpa using h
    subst h
    obtain rfl : us = [.int k a] := ha
    obtain rfl : vs = [.int k b] := hb
    refine ⟨_, _, _, hd, rfl, rfl, fun n w => ?_, fun em n w => by simp [Instr.checkKey, run_underlying hd], fun h => ?_, fun n => by cases n <;> simp [Instr.sameBits, beq_bytes], fun w => by simp [isAgg, run_underlying hd], ?_, fun l h => by cases h⟩
    · rw [run_equalIn_int w n t k k a b hd]
      congr 1
    · have : a = b := by simpa [Sh.eqb] using h
      rw [this]
    · simp [Instr.sameNow, Sh.eqb]
      rw [Bool.eq_iff_iff]; simp
  · rename_i _ hd
    obtain rfl : us = [.bool a] := ha
    obtain rfl : vs = [.bool b] := hb
    refine ⟨_, _, _, hd, rfl, rfl, fun n w => ?_, fun em n w => by simp [Instr.checkKey, run_underlying hd], fun h => ?_, fun n => by cases n <;> simp [Instr.sameBits, beq_bytes], fun w => by simp [isAgg, run_underlying hd], ?_, fun l h => by cases h⟩
    · rw [run_equalIn_bool' w n t a b hd]
      congr 1
    · have : a = b := by simpa [Sh.eqb] using h
      rw [this]
    · simp [Instr.sameNow, Sh.eqb]
      cases a <;> cases b <;> rfl
  · rename_i _ hd
    obtain rfl : us = [.string a] := ha
    obtain rfl : vs = [.string b] := hb
    refine ⟨_, _, _, hd, rfl, rfl, fun n w => ?_, fun em n w => by simp [Instr.checkKey, run_underlying hd], fun h => ?_, fun n => by cases n <;> simp [Instr.sameBits, beq_bytes], fun w => by simp [isAgg, run_underlying hd], ?_, fun l h => by cases h⟩
    · rw [run_equalIn_string w n t a b hd, toList_beq]
      rfl
    · have : a = b := by simpa [Sh.eqb] using h
      rw [this]
    · simp [Instr.sameNow, Sh.eqb, beq_bytes]
  · cases h

theorem flatOk_spec {av : Nat → Prop} : ∀ {fs : List Field} {o : Nat} {s : Sh}, flatOk P fs o s = true → ∀ {a b : s.T} {us vs : List Value}, RepT w av s a us → RepT w av s b vs →
    ∀ {pre pre' : List Value}, pre.length = o → pre'.length = o →
    (∀ n w, (Op.eqFields (n + 1) (pre ++ us).toArray (pre' ++ vs).toArray fs).run P w = .ok (s.eqb a b) w) ∧ (s.eqb a b = true → us = vs) ∧ (∀ n v, v ∈ us → Instr.sameBits n v v = true) ∧
    (∀ em n w, (forIn fs PUnit.unit fun (f : Field) (_ : PUnit) => (if f.name ≠ "_" then do
        let v ← part f.type (pre ++ us).toArray f.offset
        Instr.checkKey em (n + 1) f.type v
        pure (ForInStep.yield PUnit.unit) else pure (ForInStep.yield PUnit.unit) : Sem (ForInStep PUnit))).run P w = .ok PUnit.unit w)
  | [], _, s, h, a, b, us, vs, ha, hb, pre, pre', hp, hp' => by
    cases s <;> simp [flatOk] at h
    obtain rfl : us = [] := ha
    obtain rfl : vs = [] := hb
    exact ⟨fun n w => by simp [Op.eqFields, Sh.eqb], fun _ => rfl, fun n v hv => (nomatch hv), fun em n w => by simp⟩
  | f :: fs, o, s, h, a, b, us, vs, ha, hb, pre, pre', hp, hp' => by
    have one : ∀ {s : Sh} {a b : s.T} {us vs post post' : List Value}, (Nat.beq f.offset o && !(f.name == "_") && scalarOk P f.type s) = true → RepT w av s a us → RepT w av s b vs →
        f.name ≠ "_" ∧ ∃ A B, us = [A] ∧ vs = [B] ∧ (∀ n w, (Op.equalIn (n + 1) f.type A B).run P w = .ok (s.eqb a b) w) ∧ (∀ em n w, (Instr.checkKey em (n + 1) f.type A).run P w = .ok () w) ∧
        (s.eqb a b = true → A = B) ∧ (∀ n, Instr.sameBits n A A = true) ∧ (∀ w, (part f.type (pre ++ (us ++ post)).toArray f.offset).run P w = .ok A w) ∧ (∀ w, (part f.type (pre' ++ (vs ++ post')).toArray f.offset).run P w = .ok B w) := by
      intro s a b us vs post post' h ha hb
      simp only [Bool.and_eq_true, Bool.not_eq_true', beq_eq_false_iff_ne] at h
      obtain ⟨⟨h1, h2⟩, h3⟩ := h
      have h1 : f.offset = o := Nat.eq_of_beq_eq_true h1
      obtain ⟨d, A, B, hd, rfl, rfl, q1, q2, q3, q4, q5, q6⟩ := scalarOk_spec h3 ha hb
      refine ⟨h2, A, B, rfl, rfl, q1, q2, q3, q4, fun w => run_part_one (q5 w) ?_, fun w => run_part_one (q5 w) ?_⟩
      · simp [h1, ← hp]
      · simp [h1, ← hp']
    by_cases hfs : ∃ s1 s2, s = .pair s1 s2 ∧ (Nat.beq f.offset o && !(f.name == "_") && scalarOk P f.type s1) = true ∧ flatOk P fs (o + 1) s2 = true
    · obtain ⟨s1, s2, rfl, h1, h2⟩ := hfs
      obtain ⟨u1, u2, rfl, ha1, ha2⟩ := ha
      obtain ⟨v1, v2, rfl, hb1, hb2⟩ := hb
      obtain ⟨hn, A, B, rfl, rfl, q1, q2, q3, q4, q5, q6⟩ := one (post := u2) (post' := v2) h1 ha1 hb1
      obtain ⟨r1, r2, r3, r4⟩ := flatOk_spec h2 ha2 hb2 (pre := pre ++ [A]) (pre' := pre' ++ [B]) (by simp [hp]) (by simp [hp'])
      refine ⟨fun n w => ?_, fun he => ?_, fun n v hv => ?_, fun em n w => ?_⟩
      · simp only [Op.eqFields, if_pos hn, Sem.run_bind, q5 w, q6 w, Result.andThen_ok, q1 n w]
        have := r1 n w
        simp only [List.append_assoc] at this
        cases he : s1.eqb a.1 b.1
        · simp [Sh.eqb, he]
        · simp only [Bool.not_true, Bool.false_eq_true, if_false, Sh.eqb, he, Bool.true_and]
          exact this
      · simp only [Sh.eqb, Bool.and_eq_true] at he
        rw [q3 he.1, r2 he.2]
      · rcases List.mem_append.1 hv with h | h
        · rw [List.mem_singleton.1 h]; exact q4 n
        · exact r3 n v h
      · have := r4 em n w
        simp only [List.append_assoc] at this
        simp only [List.forIn_cons, if_pos hn, Sem.run_bind, q5 w, q2 em n w, Result.andThen_ok, Sem.run_pure]
        exact this
    · have h3 : fs = [] ∧ (Nat.beq f.offset o && !(f.name == "_") && scalarOk P f.type s) = true := by
        cases fs with
        | nil => exact ⟨rfl, by simpa [flatOk] using h⟩
        | cons g fs =>
          exfalso
          cases s with
          | pair s1 s2 =>
            simp only [flatOk, Bool.and_eq_true] at h
            exact hfs ⟨s1, s2, rfl, by simpa using h.1, h.2⟩
          | _ => simp [flatOk] at h
      obtain ⟨rfl, h3⟩ := h3
      obtain ⟨hn, A, B, rfl, rfl, q1, q2, q3, q4, q5, q6⟩ := one (post := []) (post' := []) h3 ha hb
      simp only [List.append_nil] at q5 q6
      refine ⟨fun n w => ?_, fun he => by rw [q3 he], fun n v hv => by rw [List.mem_singleton.1 hv]; exact q4 n, fun em n w => ?_⟩
      · simp only [Op.eqFields, if_pos hn, Sem.run_bind, q5 w, q6 w, Result.andThen_ok, q1 n w]
        cases he : s.eqb a b <;> simp
      · simp only [List.forIn_cons, List.forIn_nil, if_pos hn, Sem.run_bind, q5 w, q2 em n w, Result.andThen_ok, Sem.run_pure]


/-- two keys: what the program sees -/
theorem keySh_spec {av : Nat → Prop} {t : TypeId} {s : Sh} {agg : Bool} (h : keySh P t = some (s, agg)) {a b : s.T} {us vs : List Value} {A B : Value} (ha : RepT w av s a us) (hA : RepVal agg us A)
    (hb : RepT w av s b vs) (hB : RepVal agg vs B) :
    ∃ d, P.underlying t = some d ∧ (∀ w, (Op.equal t A B).run P w = .ok (s.eqb a b) w) ∧ (∀ em w, (Instr.checkKey em 10000 t A).run P w = .ok () w) ∧ (s.eqb a b = true → A = B) ∧
      Instr.sameBits 10000 A A = true ∧ (Instr.sameNow d A B = some (s.eqb a b) ∨ Instr.sameNow d A B = none) := by
  unfold keySh at h
  split at h
  · rename_i s' fs hs hd
    obtain ⟨h1, h2⟩ := bif_none h
    clear h
    cases h2
    rw [Bool.and_eq_true] at h1
    obtain ⟨h1, h2⟩ := h1
    obtain rfl : A = .agg us.toArray := hA
    obtain rfl : B = .agg vs.toArray := hB
    have hf : P.fieldsOf t = fs := by simp [Program.fieldsOf, hd]
    obtain ⟨q1, q2, q3, q4⟩ := flatOk_spec (P := P) h2 ha hb (pre := []) (pre' := []) rfl rfl
    refine ⟨_, hd, fun w => ?_, fun em w => ?_, fun h => by rw [q2 h], ?_, .inr ?_⟩
    · rw [Op.equal, Op.maxDepth, show (10000 : Nat) = 9998 + 1 + 1 from rfl, run_equalIn_struct w _ t _ _ (by rw [hf]; exact hd) (by simpa using h1), hf]
      exact q1 9998 w
    · have := q4 em 9998 w
      simp only [List.nil_append] at this
      rw [show (10000 : Nat) = 9998 + 1 + 1 from rfl]
      unfold Instr.checkKey
      simp only [Sem.run_bind, run_underlying hd, Result.andThen_ok]
      rw [← Array.forIn_toList]
      exact (congrArg (fun r => Result.andThen r _) this).trans (by simp)
    · simp only [Instr.sameBits, beq_self_eq_true, Bool.true_and, List.all_eq_true]
      intro p hp
      have : ∀ (l : List Value) p, p ∈ l.zip l → p.1 ∈ l ∧ p.1 = p.2 := by
        intro l
        induction l with
        | nil => intro p hp; simp at hp
        | cons v l ih =>
          intro p hp
          simp only [List.zip_cons_cons, List.mem_cons] at hp
          rcases hp with rfl | hp
          · exact ⟨by simp, rfl⟩
          · obtain ⟨h1, h2⟩ := ih p hp
            exact ⟨List.mem_cons_of_mem _ h1, h2⟩
      obtain ⟨h1, h2⟩ := this _ p hp
      rw [← h2]
      exact q3 _ _ (by simpa using h1)
    · rfl
  · rename_i s' d hne hs hd
    obtain ⟨h1, h2⟩ := bif_none h
    cases h2
    obtain ⟨d', A', B', hd', rfl, rfl, q1, q2, q3, q4, q5, q6, q7⟩ := scalarOk_spec h1 ha hb
    have hA : [A'] = [A] := hA
    have hB : [B'] = [B] := hB
    cases hA
    cases hB
    exact ⟨d', hd', fun w => q1 9999 w, fun em w => q2 em 9999 w, q3, q4 10000, .inl q6⟩
  · cases h

/-- what is found in a map's list -/
def Found {ks vs : Sh} (key : ks.T) (A : Value) (l : List (ks.T × vs.T)) (es : List MapEntry) (i : Nat) : Option (Nat × Value) → Prop
  | none => mfind ks vs l key = none ∧ (∀ v, mput ks vs l key v = l ++ [(key, v)]) ∧ mdel ks vs l key = l
  | some (j, V) => ∃ l1 p l2 es1 x es2, l = l1 ++ p :: l2 ∧ es = es1 ++ x :: es2 ∧ j = i + es1.length ∧ l1.length = es1.length ∧ x.val = V ∧ x.key = A ∧ mfind ks vs l key = some p.2 ∧
      (∀ v, mput ks vs l key v = l1 ++ (key, v) :: l2) ∧ mdel ks vs l key = l1 ++ l2

theorem Found.next {ks vs : Sh} {key : ks.T} {A : Value} {l : List (ks.T × vs.T)} {es : List MapEntry} {i : Nat} {r : Option (Nat × Value)} {p : ks.T × vs.T} {e : MapEntry} (hk : ks.eqb key p.1 = false)
    (h : Found key A l es (i + 1) r) : Found key A (p :: l) (e :: es) i r := by
  cases r with
  | none =>
    obtain ⟨h1, h2, h3⟩ := h
    exact ⟨by simp [mfind, hk, h1], fun v => by simp [mput, hk, h2], by simp [mdel, hk, h3]⟩
  | some q =>
    obtain ⟨j, V⟩ := q
    obtain ⟨l1, p', l2, es1, x', es2, rfl, rfl, rfl, h4, h5, h6, h7, h8, h9⟩ := h
    refine ⟨p :: l1, p', l2, e :: es1, x', es2, rfl, rfl, by simp; omega, by simp [h4], h5, h6, by simp [mfind, hk]; exact h7, fun v => ?_, ?_⟩
    · simp only [mput, hk, List.cons_append]
      rw [h8]
      rfl
    · simp only [mdel, hk, List.cons_append]
      rw [h9]
      rfl

theorem Found.here {ks vs : Sh} {key : ks.T} {A : Value} {l : List (ks.T × vs.T)} {es : List MapEntry} {i : Nat} {p : ks.T × vs.T} {e : MapEntry} (hk : ks.eqb key p.1 = true) (he : e.key = A) :
    Found key A (p :: l) (e :: es) i (some (i, e.val)) :=
  ⟨[], p, l, [], e, es, rfl, rfl, rfl, rfl, rfl, he, by simp [mfind, hk], fun v => by simp [mput, hk], by simp [mdel, hk]⟩

theorem findAsking_ok {e : En} {t : TypeId} {ks vs : Sh} {ka va : Bool} (hk : keySh P t = some (ks, ka)) {key : ks.T} {us : List Value} {A : Value} (ha : RepT e.w e.av ks key us) (hA : RepVal ka us A) :
    ∀ {l : List (ks.T × vs.T)} {es : List MapEntry} (i : Nat), RepEntries e ks vs ka va l es → ∃ r, (∀ w, (Instr.findAsking t A es i).run P w = .ok r w) ∧ Found key A l es i r
  | [], es, i, h => by
    obtain rfl : es = [] := h
    exact ⟨none, fun w => by simp [Instr.findAsking], rfl, fun _ => rfl, rfl⟩
  | p :: l, _, i, ⟨x, r, e1, ⟨us', h1, h2⟩, _, h5⟩ => by
    subst e1
    obtain ⟨d, _, q1, _, q3, _⟩ := keySh_spec hk ha hA h1 h2
    cases he : ks.eqb key p.1 with
    | true =>
      refine ⟨some (i, x.val), ?_, Found.here he (q3 he).symm⟩
      exact fun w => by simp [Instr.findAsking, q1 w, he]
    | false =>
      obtain ⟨r', h6, h7⟩ := findAsking_ok hk ha hA (i + 1) h5
      refine ⟨r', ?_, h7.next he⟩
      exact fun w => by simp [Instr.findAsking, q1 w, he, h6]

theorem findNow_ok {e : En} {t : TypeId} {d : TypeDesc} (hd : P.underlying t = some d) {ks vs : Sh} {ka va : Bool} (hk : keySh P t = some (ks, ka)) {key : ks.T} {us : List Value} {A : Value} (ha : RepT e.w e.av ks key us) (hA : RepVal ka us A) :
    ∀ {l : List (ks.T × vs.T)} {es : List MapEntry} (i : Nat) {r}, RepEntries e ks vs ka va l es → Instr.findNow d A es i = some r → Found key A l es i r
  | [], es, i, r, h, hr => by
    obtain rfl : es = [] := h
    simp [Instr.findNow] at hr
    subst hr
    exact ⟨rfl, fun _ => rfl, rfl⟩
  | p :: l, _, i, r, ⟨x, es, e1, ⟨us', h1, h2⟩, _, h5⟩, hr => by
    subst e1
    obtain ⟨d', hd', q1, _, q3, _, q5⟩ := keySh_spec hk ha hA h1 h2
    rw [hd] at hd'
    cases hd'
    simp only [Instr.findNow] at hr
    rcases q5 with q5 | q5
    · rw [q5] at hr
      cases he : ks.eqb key p.1 with
      | true =>
        rw [he] at hr
        simp at hr
        subst hr
        exact Found.here he (q3 he).symm
      | false =>
        rw [he] at hr
        exact (findNow_ok hd hk ha hA (i + 1) h5 hr).next he
    · rw [q5] at hr
      cases hr

theorem findKey_ok {e : En} {t : TypeId} {ks vs : Sh} {ka va : Bool} (hk : keySh P t = some (ks, ka)) {key : ks.T} {us : List Value} {A : Value} (ha : RepT e.w e.av ks key us) (hA : RepVal ka us A)
    {l : List (ks.T × vs.T)} {es : List MapEntry} (h : RepEntries e ks vs ka va l es) : ∃ r, (∀ w, (Instr.findKey t A es).run P w = .ok r w) ∧ Found key A l es 0 r := by
  obtain ⟨d, hd, _⟩ := keySh_spec hk ha hA ha hA
  cases hn : Instr.findNow d A es 0 with
  | some r => exact ⟨r, fun w => by simp [Instr.findKey, run_underlying hd, hn], findNow_ok hd hk ha hA 0 h hn⟩
  | none =>
    obtain ⟨r, h1, h2⟩ := findAsking_ok hk ha hA 0 h
    exact ⟨r, fun w => by simp [Instr.findKey, run_underlying hd, hn, h1], h2⟩

theorem RepEntries.split {e : En} {ks vs : Sh} {ka va : Bool} : ∀ {l1 : List (ks.T × vs.T)} {l2 : List (ks.T × vs.T)} {es1 es2 : List MapEntry}, l1.length = es1.length →
    RepEntries e ks vs ka va (l1 ++ l2) (es1 ++ es2) → RepEntries e ks vs ka va l1 es1 ∧ RepEntries e ks vs ka va l2 es2
  | [], l2, [], es2, _, h => ⟨rfl, h⟩
  | p :: l1, l2, y :: es1, es2, hl, ⟨y', r, e1, h1, h2, h3⟩ => by
    cases e1
    obtain ⟨q1, q2⟩ := RepEntries.split (by simpa using hl) h3
    exact ⟨⟨y, es1, rfl, h1, h2, q1⟩, q2⟩

theorem RepEntries.append {e : En} {ks vs : Sh} {ka va : Bool} : ∀ {l1 : List (ks.T × vs.T)} {l2 : List (ks.T × vs.T)} {es1 es2 : List MapEntry},
    RepEntries e ks vs ka va l1 es1 → RepEntries e ks vs ka va l2 es2 → RepEntries e ks vs ka va (l1 ++ l2) (es1 ++ es2)
  | [], l2, es1, es2, h, k => by rw [show es1 = [] from h]; exact k
  | p :: l1, l2, es1, es2, ⟨y, r, e1, h1, h2, h3⟩, k => by
    subst e1
    exact ⟨y, r ++ es2, rfl, h1, h2, RepEntries.append h3 k⟩

end
end Go.Gx
