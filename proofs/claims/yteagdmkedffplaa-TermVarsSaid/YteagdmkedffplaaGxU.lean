/-
  Gx, part U: regions whose order is drawn: whatever the draw, what the text's order gives.
-/
import Derived.Test.YteagdmkedffplaaGxT
namespace Go.Gx
section
variable {R : Type} {P : Program} {T : Table} {w : World} {β : Nat → Loc} {F : Nat → Prop} {H : Heap} {fr : Fr} {a A : Act} {x : R} {ops : Array Oper} {tbl : List (Nat × List Nat)}

theorem get_put {d : Option Nat} {v : Value} {t : Nat} (h : d ≠ some t) : (a.put d v).tmps[t]? = a.tmps[t]? := by
  cases d with
  | none => rfl
  | some d => simp [Act.put, Array.getElem?_setIfInBounds_ne (fun e : d = t => h (by rw [e]))]

theorem size_put {d : Option Nat} {v : Value} : (a.put d v).tmps.size = a.tmps.size := by cases d <;> simp [Act.put]
theorem defers_put {d : Option Nat} {v : Value} : (a.put d v).defers = a.defers := by cases d <;> rfl

theorem put_put {d : Option Nat} {v u : Value} : (a.put d v).put d u = a.put d u := by
  cases d with
  | none => rfl
  | some d => simp [Act.put, Array.setIfInBounds_setIfInBounds]

theorem looksAt_eq (o : Oper) : o.looksAt ops = looks ops.toList o := by
  unfold Oper.looksAt looks
  congr 1
  cases hg : o.guard with
  | none => rfl
  | some gw =>
    obtain ⟨g, want⟩ := gw
    simp only [gslot, Array.getElem?_toList]
    cases ops[g]? <;> rfl

theorem agree_exec {o : Oper} (hs : ∀ cs b, o.op ≠ .select cs b) (h : ∀ t ∈ looks ops.toList o, a.tmps[t]? = A.tmps[t]?) :
    execOp a.eval o = execOp A.eval o ∧ Region.wanted o (yielded ops a.tmps) = Region.wanted o (yielded ops A.tmps) := by
  rw [← looksAt_eq] at h
  constructor
  · refine execOp_congr o hs fun y hy => ?_
    cases y with
    | tmp t =>
      have := h t (List.mem_append_left _ (List.mem_filterMap.2 ⟨.tmp t, by simpa using hy, rfl⟩))
      simp [Act.eval, this]
    | _ => rfl
  · unfold Region.wanted
    cases hg : o.guard with
    | none => rfl
    | some gw =>
      obtain ⟨g, want⟩ := gw
      have : yielded ops a.tmps g = yielded ops A.tmps g := by
        unfold yielded
        cases ht : (ops[g]?).bind (·.dst) with
        | none => rfl
        | some t =>
          have := h t (List.mem_append_right _ (by simp [hg, ht]))
          simp only [Option.bind_some, this]
      simp only [this]

/-- the value of a step that leaves the world as it is -/
def StepVal (P : Program) (ops : Array Oper) (o : Oper) (A : Act) (w : World) (v : Value) : Prop :=
  if Region.wanted o (yielded ops A.tmps) = true then ∀ w', Sup w w' → (execOp A.eval o).run P w' = .ok (.value v) w' else v = undef

theorem StepVal.agree {o : Oper} {v : Value} (hs : ∀ cs b, o.op ≠ .select cs b) (h : ∀ t ∈ looks ops.toList o, a.tmps[t]? = A.tmps[t]?) (k : StepVal P ops o A w v) : StepVal P ops o a w v := by
  obtain ⟨h1, h2⟩ := agree_exec hs h
  unfold StepVal at *
  rw [h1, h2]
  exact k

theorem StepVal.sup {o : Oper} {v : Value} {w' : World} (hs : Sup w w') (h : StepVal P ops o A w v) : StepVal P ops o A w' v := by
  unfold StepVal at *
  split
  · rename_i hw
    rw [if_pos hw] at h
    exact fun w2 h2 => h w2 (hs.trans h2)
  · rename_i hw
    rw [if_neg hw] at h
    exact h

theorem StepVal.wpOp {i : Nat} {o : Oper} {v : Value} (hi : ops[i]? = some o) (h : StepVal P ops o a w v) {K : Act → World → Prop} {Q : Exit → Act → World → Prop} (hK : K (a.put o.dst v) w) : wpOp P ops Q i K a w := by
  unfold Go.wpOp StepVal at *
  simp only [hi]
  split
  · rename_i hw
    rw [if_pos hw] at h
    refine .inl ?_
    unfold Oper.wp
    rw [h w (Sup.refl w)]
    exact hK
  · rename_i hw
    rw [if_neg hw] at h
    subst h
    exact hK

/-- a step: it is wanted, or not -/
theorem exStep_cases {o : Oper} {K : Fr → Heap → Option R} (hr : exStep P T ops.toList o fr H K = some x) (h : Rel w β F H fr A) :
    (Region.wanted o (yielded ops A.tmps) = true ∧ ∃ fr1, Rel w β F H fr1 A ∧ exOp P T fr1 H o.op (fun s H => fH H fun H => putF fr1 o.dst s fun fr => K fr H) = some x) ∨
    (Region.wanted o (yielded ops A.tmps) = false ∧ ∃ fr1, Rel w β F H fr1 A ∧ K (setO fr1 o.dst (.tup [])) H = some x) := by
  unfold exStep at hr
  split at hr
  · rename_i hg
    exact .inl ⟨by simp [Region.wanted, hg], fr, h, hr⟩
  · rename_i j want hg
    split at hr
    · rename_i t ht
      have hs := h.slots t
      split at hr
      · rename_i b hb
        rw [hb] at hs
        have hs : A.tmps.getD t undef = .bool b := hs
        have ht' : A.tmps[t]? = some (.bool b) := by
          rw [Array.getD_eq_getD_getElem?] at hs
          cases he : A.tmps[t]? with
          | none => rw [he] at hs; cases hs
          | some v => rw [he] at hs; simp at hs; rw [hs]
        have hw : Region.wanted o (yielded ops A.tmps) = asks want b := by
          simp only [Region.wanted, hg, yielded_of ht, ht']
          cases b <;> cases want <;> rfl
        rw [hw]
        cases hc : asks want b with
        | true =>
          rw [hc] at hr
          simp only [br, setF_eq] at hr
          have hbw : b = want := by cases b <;> cases want <;> first | rfl | (cases hc)
          subst hbw
          exact .inl ⟨rfl, _, h.known (s := .sv (.v (.bool b))) (by rw [hs]; rfl), hr⟩
        | false =>
          rw [hc] at hr
          simp only [br, setF_eq, putF_set] at hr
          have hbw : b = !want := by cases b <;> cases want <;> first | rfl | (cases hc)
          subst hbw
          exact .inr ⟨rfl, _, h.known (s := .sv (.v (.bool (!want)))) (by rw [hs]; rfl), hr⟩
      · rename_i l hl
        rw [hl] at hs
        obtain ⟨vs, hs, _⟩ := hs
        have ht' : ∀ b, A.tmps[t]? ≠ some (.bool b) := fun b he => by
          rw [Array.getD_eq_getD_getElem?, he] at hs
          cases hs
        have hm : (match A.tmps[t]? with
          | some (.bool b) => some b
          | _ => none) = none := by
          split
          · rename_i b hb; exact absurd hb (ht' b)
          · rfl
        have hw : Region.wanted o (yielded ops A.tmps) = false := by
          simp only [Region.wanted, hg, yielded_of ht]
          rw [show (none == some want) = false from rfl] <;> rfl
        rw [putF_set] at hr
        exact .inr ⟨hw, fr, h, hr⟩
      · cases hr
    · cases hr

theorem exOp_ok (hT : TabOK P T) {o : Oper} {K : Slot → Heap → Option R} (hr : exOp P T fr H o.op K = some x) (h : Rel w β F H fr A) : OpOk P w β F H x K ((execOp A.eval o).run P w) := by
  unfold exOp at hr
  cases hb : isRead o.op with
  | true =>
    rw [hb] at hr
    have hr : exRead P fr H o.op (fun s => K s H) = some x := hr
    obtain ⟨s, v, h1, h2, h3⟩ := exRead_ok hr h
    rw [h1 w (Sup.refl w)]
    exact .value _ _ (.same h.ok h2 h3)
  | false =>
    rw [hb] at hr
    exact exAct_ok hT hr h

/-- a step that reads -/
theorem readStep {o : Oper} (hb : isRead o.op = true) {K : Fr → Heap → Option R} (hr : exStep P T ops.toList o fr H K = some x) (h : Rel w β F H fr A) :
    ∃ v fr', StepVal P ops o A w v ∧ Rel w β F H fr' (A.put o.dst v) ∧ K fr' H = some x := by
  rcases exStep_cases hr h with ⟨hw, fr1, h1, h2⟩ | ⟨hw, fr1, h1, h2⟩
  · unfold exOp at h2
    rw [hb] at h2
    have h2 : exRead P fr1 H o.op (fun s => fH H fun H => putF fr1 o.dst s fun fr => K fr H) = some x := h2
    obtain ⟨s, v, h3, h4, h5⟩ := exRead_ok h2 h1
    replace h5 : K (setO fr1 o.dst s) H = some x := by simpa only [fH_eq, putF_set] using h5
    exact ⟨v, _, by unfold StepVal; rw [if_pos hw]; exact h3, h1.put h1.ok (Ext.refl _) o.dst h4, h5⟩
  · exact ⟨undef, _, by unfold StepVal; rw [if_neg (by rw [hw]; simp)], h1.put h1.ok (Ext.refl _) o.dst undef_tup, h2⟩

/-! ### where the run stands -/
structure Dr (P : Program) (ops : Array Oper) (dn pend : List Nat) (listed : Array Bool) (a A : Act) (w : World) : Prop where
  size : listed.size = ops.size
  mem : ∀ i, listed.getD i false = true ↔ (i ∈ dn ∧ i ∉ pend)
  pnd : pend.Nodup
  sub : ∀ j ∈ pend, j ∈ dn
  read : ∀ j ∈ pend, ∀ o, ops[j]? = some o → isRead o.op = true
  agree : ∀ t, (∀ j ∈ pend, ∀ o, ops[j]? = some o → o.dst ≠ some t) → a.tmps[t]? = A.tmps[t]?
  asize : a.tmps.size = A.tmps.size
  adef : a.defers = A.defers
  val : ∀ j ∈ pend, ∀ o, ops[j]? = some o → ∃ v, StepVal P ops o A w v ∧ A.put o.dst v = A
  closed : ∀ i, listed.getD i false = true → ∀ o, ops[i]? = some o → ∀ j ∈ edges o, listed.getD j false = true

structure Cst (ops : Array Oper) (tbl : List (Nat × List Nat)) (c : List Nat) : Prop where
  nd : c.Nodup
  all : ∀ i, i < ops.size → i ∈ c
  lt : ∀ i ∈ c, i < ops.size
  self : ∀ i ∈ c, SelfOk ops.toList i
  pair : c.Pairwise (PairOk ops.toList tbl)
  dep : ∀ l i r, c = l ++ i :: r → ∀ o, ops[i]? = some o → ∀ j ∈ edges o, j ∈ l
  tbl : TblOk ops.toList tbl

theorem Dr.bef {dn pend : List Nat} {listed : Array Bool} (D : Dr P ops dn pend listed a A w) {i j : Nat} (h : Bef ops.toList j i) :
    (∀ o, ops[i]? = some o → ∀ k ∈ edges o, listed.getD k false = true) → listed.getD j false = true := by
  induction h with
  | one ho hj => intro hi; exact hi _ (by simpa using ho) _ hj
  | trans ho hk _ ih =>
    intro hi
    exact ih fun o' ho' => D.closed _ (hi _ (by simpa using ho) _ hk) o' ho'

theorem Cst.total {c : List Nat} (C : Cst ops tbl c) {i j : Nat} (hi : i ∈ c) (hj : j ∈ c) (hne : i ≠ j) : PairOk ops.toList tbl i j ∨ PairOk ops.toList tbl j i := by
  obtain ⟨l, r, rfl⟩ := List.append_of_mem hi
  have hp := C.pair
  rw [List.pairwise_append] at hp
  obtain ⟨_, h2, h3⟩ := hp
  rcases List.mem_append.1 hj with h | h
  · exact .inr (h3 j h i (by simp))
  · rcases List.mem_cons.1 h with e | h
    · exact absurd e.symm hne
    · exact .inl ((List.pairwise_cons.1 h2).1 j h)

/-- what a ready operation looks at, both have alike -/
theorem Dr.looks {c dn pend : List Nat} {listed : Array Bool} (C : Cst ops tbl c) (D : Dr P ops dn pend listed a A w) (hsub : ∀ j ∈ dn, j ∈ c) {i : Nat} {o : Oper} (hi : i ∈ c) (ho : ops[i]? = some o)
    (hr : ∀ k ∈ edges o, listed.getD k false = true) : ∀ t ∈ Gx.looks ops.toList o, a.tmps[t]? = A.tmps[t]? := by
  intro t ht
  refine D.agree t fun j hj oj hoj hd => ?_
  have ho' : ops.toList[i]? = some o := by simpa using ho
  have hoj' : ops.toList[j]? = some oj := by simpa using hoj
  by_cases e : i = j
  · subst e
    rw [ho] at hoj
    cases hoj
    exact (C.self i hi).look o ho' t hd ht
  · rcases C.total hi (hsub j (D.sub j hj)) e with h | h
    · exact (h.looks o oj ho' hoj' t hd).1 ht
    · rcases h.bef oj o hoj' ho' with h | ⟨_, h⟩
      · have := D.bef (C.tbl i j h) fun o' ho'' => by rw [ho] at ho''; cases ho''; exact hr
        exact ((D.mem j).1 this).2 hj
      · exact h t hd ht


/-- a value that stands in its place stays, where another is put -/
theorem val_put {o : Oper} {d : Option Nat} {u : Value} (hs : ∀ cs b, o.op ≠ .select cs b) (hl : ∀ t, d = some t → t ∉ Gx.looks ops.toList o ∧ o.dst ≠ some t) (h : ∃ v, StepVal P ops o A w v ∧ A.put o.dst v = A) :
    ∃ v, StepVal P ops o (A.put d u) w v ∧ (A.put d u).put o.dst v = A.put d u := by
  obtain ⟨v, h1, h2⟩ := h
  refine ⟨v, h1.agree hs fun t ht => get_put fun e => (hl t e).1 ht, ?_⟩
  rw [Act.put_comm A u v (fun t ht => (hl t ht).2), h2]

theorem val_own {o : Oper} {v : Value} (hs : ∀ cs b, o.op ≠ .select cs b) (hl : ∀ t, o.dst = some t → t ∉ Gx.looks ops.toList o) (h : StepVal P ops o A w v) :
    ∃ v', StepVal P ops o (A.put o.dst v) w v' ∧ (A.put o.dst v).put o.dst v' = A.put o.dst v :=
  ⟨v, h.agree hs fun t ht => get_put fun e => hl t e ht, put_put⟩

/-- the run of the text's order goes on: what it reads is still to be read in the other -/
theorem catchup {c : List Nat} (C : Cst ops tbl c) {post : List Nat} {listed : Array Bool} {K : Fr → Heap → Option R} :
    ∀ (pre : List Nat) {dn pend : List Nat} {A : Act} {fr : Fr}, dn.reverse ++ (pre ++ post) = c → (∀ i ∈ pre, ∀ o, ops[i]? = some o → isRead o.op = true) → Dr P ops dn pend listed a A w →
      exDraw P T ops.toList tbl (pre ++ post) dn fr H K = some x → Rel w β F H fr A →
      ∃ dn' pend' A' fr', dn'.reverse ++ post = c ∧ Dr P ops dn' pend' listed a A' w ∧ exDraw P T ops.toList tbl post dn' fr' H K = some x ∧ Rel w β F H fr' A' ∧
        pend'.length = pend.length + pre.length
  | [], dn, pend, A, fr, hc, _, D, hx, h => ⟨dn, pend, A, fr, hc, D, hx, h, rfl⟩
  | i :: pre, dn, pend, A, fr, hc, hr, D, hx, h => by
    simp only [List.cons_append, exDraw] at hx
    split at hx
    · rename_i o ho
      have ho' : ops[i]? = some o := by simpa using ho
      have hb := hr i (by simp) o ho'
      obtain ⟨v, fr', hv, h1, h2⟩ := readStep hb hx h
      rw [hb] at h2
      have h2 : exDraw P T ops.toList tbl (pre ++ post) (i :: dn) fr' H K = some x := h2
      have hic : i ∈ c := by rw [← hc]; simp
      have hidn : i ∉ dn := fun hm => by
        have := C.nd
        rw [← hc, List.nodup_append] at this
        exact this.2.2 i (by simpa using hm) i (by simp) rfl
      have hself := C.self i hic
      have hpair : ∀ j ∈ dn, PairOk ops.toList tbl j i := fun j hj => by
        have := C.pair
        rw [← hc, List.pairwise_append] at this
        exact this.2.2 j (by simpa using hj) i (by simp)
      have D' : Dr P ops (i :: dn) (i :: pend) listed a (A.put o.dst v) w := {
        size := D.size
        mem := fun k => by
          rw [D.mem k]
          by_cases e : k = i
          · subst e; simp [hidn]
          · simp [e]
        pnd := List.nodup_cons.2 ⟨fun hm => hidn (D.sub i hm), D.pnd⟩
        sub := fun j hj => by
          rcases List.mem_cons.1 hj with rfl | hj
          · simp
          · exact List.mem_cons_of_mem _ (D.sub j hj)
        read := fun j hj oj hoj => by
          rcases List.mem_cons.1 hj with rfl | hj
          · rw [ho'] at hoj; cases hoj; exact hb
          · exact D.read j hj oj hoj
        agree := fun t ht => by
          rw [get_put (ht i (by simp) o ho')]
          exact D.agree t fun j hj => ht j (List.mem_cons_of_mem _ hj)
        asize := by rw [size_put]; exact D.asize
        adef := by rw [defers_put]; exact D.adef
        val := fun j hj oj hoj => by
          rcases List.mem_cons.1 hj with rfl | hj
          · rw [ho'] at hoj
            cases hoj
            exact val_own (hself.sel o ho) (hself.look o ho) hv
          · have hjdn := D.sub j hj
            exact val_put ((C.self j (by rw [← hc]; simp [hjdn])).sel oj (by simpa using hoj)) (fun t ht => (hpair j hjdn).looks oj o (by simpa using hoj) ho t ht) (D.val j hj oj hoj)
        closed := D.closed }
      obtain ⟨dn', pend', A', fr'', q1, q2, q3, q4, q5⟩ := catchup C pre (dn := i :: dn) (pend := i :: pend) (by rw [← hc]; simp) (fun k hk => hr k (List.mem_cons_of_mem _ hk)) D' h2 h1
      exact ⟨dn', pend', A', fr'', q1, q2, q3, q4, by simp at q5 ⊢; omega⟩
    · cases hx

/-- what is still to be read, read once more -/
theorem recheck_ok {c : List Nat} (C : Cst ops tbl c) {pend bef : List Nat} {k : Option R} (hread : ∀ j ∈ pend, ∀ o, ops[j]? = some o → isRead o.op = true) (hbef : ∀ j ∈ pend, j ∉ bef) :
    ∀ (l S : List Nat) {A : Act}, recheck P ops.toList bef l fr H k = some x → Rel w β F H fr A → (∀ j ∈ l, j ∈ c) → l.Pairwise (PairOk ops.toList tbl) →
      (∀ j ∈ S, j ∈ c ∧ ∀ i ∈ l, PairOk ops.toList tbl j i) → (∀ j ∈ S, ∀ o, ops[j]? = some o → ∃ v, StepVal P ops o A w v ∧ A.put o.dst v = A) →
      ∃ A', Rel w β F H fr A' ∧ k = some x ∧ (∀ j ∈ S ++ l, j ∈ pend ∨ j ∈ S → ∀ o, ops[j]? = some o → ∃ v, StepVal P ops o A' w v ∧ A'.put o.dst v = A') ∧
        (∀ t, (∀ j ∈ pend, ∀ o, ops[j]? = some o → o.dst ≠ some t) → A'.tmps[t]? = A.tmps[t]?) ∧ A'.tmps.size = A.tmps.size ∧ A'.defers = A.defers
  | [], S, A, h, hR, _, _, _, hS => ⟨A, hR, h, fun j hj _ => hS j (by simpa using hj), fun _ _ => rfl, rfl, rfl⟩
  | i :: l, S, A, h, hR, hc, hp, hSc, hS => by
    have hp' := List.pairwise_cons.1 hp
    simp only [recheck] at h
    split at h
    · rename_i o ho
      have ho' : ops[i]? = some o := by simpa using ho
      have hic := hc i (by simp)
      cases hb : (bef.contains i || !isRead o.op) with
      | true =>
        rw [hb] at h
        have hip : i ∉ pend := fun hm => by
          rw [Bool.or_eq_true] at hb
          rcases hb with hb | hb
          · exact hbef i hm (by simpa using hb)
          · rw [hread i hm o ho'] at hb; cases hb
        obtain ⟨A', q1, q2, q3, q4⟩ := recheck_ok C hread hbef l S h hR (fun j hj => hc j (List.mem_cons_of_mem _ hj)) hp'.2 (fun j hj => ⟨(hSc j hj).1, fun q hq => (hSc j hj).2 q (List.mem_cons_of_mem _ hq)⟩) hS
        refine ⟨A', q1, q2, fun j hj hjp => ?_, q4⟩
        by_cases e : j = i
        · subst e
          have hjS := hjp.resolve_left hip
          exact q3 j (List.mem_append_left _ hjS) (.inr hjS)
        · refine q3 j ?_ hjp
          rcases List.mem_append.1 hj with hj | hj
          · exact List.mem_append_left _ hj
          · exact List.mem_append_right _ ((List.mem_cons.1 hj).resolve_left e)
      | false =>
        rw [hb] at h
        have hr : isRead o.op = true := by
          cases hr : isRead o.op with
          | true => rfl
          | false => rw [hr] at hb; simp at hb
        have h : exStep P (fun _ => noEnt) ops.toList o fr H (fun fr' _ => match o.dst with
          | some d => sameSlot (fr'.getD d .undef) (fr.getD d .undef) (recheck P ops.toList bef l fr H k)
          | none => recheck P ops.toList bef l fr H k) = some x := h
        obtain ⟨v, fr', hv, h1, h2⟩ := readStep hr h hR
        have hself := C.self i hic
        -- the new value stands for what the slot says
        have hnew : Rel w β F H fr (A.put o.dst v) ∧ recheck P ops.toList bef l fr H k = some x := by
          cases hd : o.dst with
          | none =>
            rw [hd] at h2
            exact ⟨hR, h2⟩
          | some d =>
            rw [hd] at h2 h1
            obtain ⟨e, h3⟩ := sameSlot_eq h2
            refine ⟨⟨hR.ok, hR.defers, by rw [size_put]; exact hR.len, fun t => ?_⟩, h3⟩
            by_cases et : t = d
            · subst et
              rw [← e]
              exact h1.slots t
            · have : (A.put (some d) v).tmps.getD t undef = A.tmps.getD t undef := by
                rw [Array.getD_eq_getD_getElem?, Array.getD_eq_getD_getElem?, get_put (fun e => et (Option.some.inj e).symm)]
              rw [this]
              exact hR.slots t
        by_cases hip : i ∈ pend
        · obtain ⟨A', q1, q2, q3, q4, q5, q6⟩ := recheck_ok C hread hbef l (i :: S) hnew.2 hnew.1 (fun j hj => hc j (List.mem_cons_of_mem _ hj)) hp'.2
            (fun j hj => by
              rcases List.mem_cons.1 hj with rfl | hj
              · exact ⟨hic, hp'.1⟩
              · exact ⟨(hSc j hj).1, fun q hq => (hSc j hj).2 q (List.mem_cons_of_mem _ hq)⟩)
            (fun j hj oj hoj => by
              rcases List.mem_cons.1 hj with rfl | hj
              · rw [ho'] at hoj
                cases hoj
                exact val_own (hself.sel o ho) (hself.look o ho) hv
              · exact val_put ((C.self j (hSc j hj).1).sel oj (by simpa using hoj)) (fun t ht => ((hSc j hj).2 i (by simp)).looks oj o (by simpa using hoj) ho t ht) (hS j hj oj hoj))
          refine ⟨A', q1, q2, fun j hj hjp => ?_, fun t ht => ?_, by rw [q5, size_put], by rw [q6, defers_put]⟩
          · refine q3 j ?_ (hjp.imp_right (List.mem_cons_of_mem _))
            rcases List.mem_append.1 hj with hj | hj
            · exact List.mem_append_left _ (List.mem_cons_of_mem _ hj)
            · rcases List.mem_cons.1 hj with rfl | hj
              · simp
              · exact List.mem_append_right _ hj
          · rw [q4 t ht, get_put (ht i hip o ho')]
        · obtain ⟨A', q1, q2, q3, q4⟩ := recheck_ok C hread hbef l S hnew.2 hR (fun j hj => hc j (List.mem_cons_of_mem _ hj)) hp'.2 (fun j hj => ⟨(hSc j hj).1, fun q hq => (hSc j hj).2 q (List.mem_cons_of_mem _ hq)⟩) hS
          refine ⟨A', q1, q2, fun j hj hjp => ?_, q4⟩
          by_cases e : j = i
          · subst e
            have hjS := hjp.resolve_left hip
            exact q3 j (List.mem_append_left _ hjS) (.inr hjS)
          · refine q3 j ?_ hjp
            rcases List.mem_append.1 hj with hj | hj
            · exact List.mem_append_left _ hj
            · exact List.mem_append_right _ ((List.mem_cons.1 hj).resolve_left e)
    · cases h

end
end Go.Gx
