/-
  Gx, part Q: one operation of those that act; one operation.
-/
import Derived.Test.YteagdmkedffplaaGxP
namespace Go.Gx
section
variable {R : Type} {P : Program} {T : Table} {w : World} {β : Nat → Loc} {F : Nat → Prop} {H : Heap} {fr : Fr} {a : Act} {x : R}

theorem OpOk.of_value {K : Slot → Heap → Option R} {m : Sem Value} {v : Value} {w' : World} (hr : m.run P w = .ok v w') (h : Res w β F H x K v w') :
    OpOk P w β F H x K ((do pure (Next.value (← m)) : Sem Next).run P w) := by
  rw [run_value hr]
  exact .value _ _ h

theorem okSV_regrp {t : TypeId} {v : SV} : okSV (regrp P t v) = okSV v := by
  cases v with
  | v y => rfl
  | agg l =>
    show okSV (regrp P t (.agg l)) = true
    unfold regrp
    simp only
    split
    · rename_i ly _
      cases ly.any isRow with
      | false => rfl
      | true =>
        simp only [cond_true]
        split <;> rfl
    · rfl

theorem Res.pre {K : Slot → Heap → Option R} {v : Value} {w' : World} {β1 : Nat → Loc} {H1 : Heap} (hx : Ext (en w β F H) (en w β1 F H1)) (h : Res w β1 F H1 x K v w') : Res w β F H x K v w' := by
  obtain ⟨s, H', β', h1, h2, h3, h4⟩ := h
  exact ⟨s, H', β', h1, hx.trans h2, h3, h4⟩

theorem OpOk.of_skip {K : Slot → Heap → Option R} {m : Sem Unit} {w' : World} (hr : m.run P w = .ok () w') (h : Res w β F H x K undef w') :
    OpOk P w β F H x K ((do m; pure Next.skip : Sem Next).run P w) := by
  rw [run_skip hr]
  exact .skip _ h

theorem RepSVs.append {e : En} : ∀ {l m : List SV} {u v : List Value}, RepSVs e l u → RepSVs e m v → RepSVs e (l ++ m) (u ++ v)
  | [], m, u, v, h, k => by rw [show u = [] from h]; exact k
  | y :: l, m, u, v, ⟨V, us, e1, h1, h2⟩, k => by
    subst e1
    exact ⟨V, us ++ v, rfl, h1, h2.append k⟩

theorem caps_rep {e : En} : ∀ {caps : List Nat}, (∀ r ∈ caps, r < e.n) → RepSVs e (caps.map fun r => .v (.ptr r 0)) (caps.map fun r => Value.pointer (some (addr e r 0)))
  | [], _ => rfl
  | r :: caps, h => ⟨_, _, rfl, ⟨h r (by simp), rfl⟩, caps_rep fun q hq => h q (by simp [hq])⟩

set_option maxHeartbeats 1000000 in
theorem exAct_ok (hT : TabOK P T) {o : Oper} {K : Slot → Heap → Option R} (hr : exAct P T fr H o.op K = some x) (h : Rel w β F H fr a) : OpOk P w β F H x K ((execOp a.eval o).run P w) := by
  unfold exAct at hr
  split at hr
  · rename_i t e
    split at hr
    · rename_i l hl
      obtain ⟨i, z, hi, hz, hrep, _⟩ := zeroOf_spec hl
      obtain ⟨sg', i', H1, β1, k1, ok1, hx1, hr1, _⟩ := rebSegs_ok h.ok hr (hrep _)
      obtain ⟨w', h1, _, h2⟩ := alloc_ok (P := P) ok1 t hr1 k1
      simp only [execOp, e]
      refine .of_value (v := .pointer (some ⟨w.heap.size, 0, none⟩)) ?_ (h2.pre hx1)
      simp [Instr.alloc, run_zero hi hz, h1]
    · cases hr
  · rename_i t y e
    split at hr
    · rename_i v hv
      obtain ⟨hb, hk⟩ := bif_none hr
      obtain ⟨sg', i', H1, β1, k1, ok1, hx1, hr1, _⟩ := rebSegs_ok h.ok hk (okSV_one (regrp_rep (evalSV_rep h hv)) (by rw [okSV_regrp]; exact hb))
      obtain ⟨w', h1, _, h2⟩ := alloc_ok (P := P) ok1 t hr1 k1
      simp only [execOp, e]
      refine .of_value (v := .pointer (some ⟨w.heap.size, 0, none⟩)) ?_ (h2.pre hx1)
      simp [Instr.box, h1]
    · cases hr
  · rename_i t n ps e
    split at hr
    · rename_i l hl
      obtain ⟨v, w', h1, _, h2⟩ := exBuildSlice_ok (Ps := ps.map fun (i, x) => (i, a.eval x)) hr h.ok (by have := partList_rep h hl; simpa using this)
      simp only [execOp, e]
      exact .of_value h1 h2.res
    · cases hr
  · rename_i t p y e
    split at hr
    · rename_i v agg n hv ht
      have hp := evalS_rep h p
      split at hr
      · rename_i r q hrq
        rw [hrq] at hp
        obtain ⟨v', i', H1, β1, k1, ok1, hx1, hv1⟩ := rebSV_ok h.ok hr (regrp_rep (evalSV_rep h hv))
        obtain ⟨w', H', h1, h2, h3, h4⟩ := storeAt_ok ht k1 ok1 (RepSc.mono hx1 _ _ hp) hv1
        simp only [execOp, e]
        exact .of_skip h1 ⟨.undef, H', β1, h2, hx1.trans h3, trivial, h4⟩
      · obtain ⟨w', H', h1, h2, h3, h4⟩ := storeAt_ok ht hr h.ok hp (evalSV_rep h hv)
        simp only [execOp, e]
        exact .of_skip h1 ⟨.undef, H', β, h2, h3, trivial, h4⟩
    · cases hr
  · rename_i t r e
    simp only [execOp, e]
    split at hr
    · obtain ⟨v, w', h1, _, h2⟩ := exMakeMap_ok (P := P) (rv := none) hr h.ok (.inl rfl)
      exact .of_value h1 h2.res
    · rename_i y
      split at hr
      · rename_i k n hn
        obtain ⟨v, w', h1, _, h2⟩ := exMakeMap_ok (P := P) (rv := some (.int k n)) hr h.ok (.inr ⟨k, n, rfl⟩)
        have hy : a.eval y = .int k n := evalS_eq h hn
        refine .of_value (v := v) (w' := w') ?_ h2.res
        simp only [Option.map_some, hy]
        exact h1
      · cases hr
  · rename_i t l c e
    split at hr
    · rename_i k n k' m hn hm
      obtain ⟨v, w', h1, _, h2⟩ := exMakeSlice_ok (P := P) (k := k) (k' := k') hr h.ok
      simp only [execOp, e]
      have hl : a.eval l = .int k n := evalS_eq h hn
      have hc : a.eval c = .int k' m := evalS_eq h hm
      rw [hl, hc]
      exact .of_value h1 h2.res
    · cases hr
  · rename_i t m k y e
    split at hr
    · rename_i kv v hk hv
      obtain ⟨w', H', h1, h2, h3, h4⟩ := exMapUpdate_ok hr h.ok (evalS_rep h m) (evalSV_rep h hk) (evalSV_rep h hv)
      simp only [execOp, e]
      exact .of_skip h1 ⟨.undef, H', β, h2, h3, trivial, h4⟩
    · cases hr
  · rename_i c e
    split at hr
    · rename_i b hb
      obtain ⟨cs, hrun⟩ := builtin_run (P := P) b c o.type hb a.eval
      have hrun : (execOp a.eval o).run P w = (builtin b c.argTypes o.type cs (c.args.map a.eval)).run P w := by
        simp only [execOp, e]
        exact hrun w
      rw [hrun]
      split at hr
      · split at hr
        · rename_i y z t hy ht
          have hy := toList_two hy
          obtain ⟨v, w', h1, h2⟩ := exAppend_ok (ty := o.type) ht hr h.ok (widen_rep (evalS_rep h y)) (widen_rep (evalS_rep h z))
          rw [hy]
          simp only [builtin, List.map_toArray, List.map_cons, List.map_nil]
          exact .of_value h1 h2.res
        · cases hr
      · split at hr
        · rename_i y z t ts hy ht
          have hy := toList_two hy
          have ht0 : c.argTypes[0]? = some t := by rw [← Array.getElem?_toList, ht]; rfl
          obtain ⟨n, w', H', h1, h2, h3, h4⟩ := exCopy_ok (ty := o.type) ht0 hr h.ok (widen_rep (evalS_rep h y)) (widen_rep (evalS_rep h z))
          rw [hy]
          simp only [builtin, List.map_toArray, List.map_cons, List.map_nil]
          exact .of_value h1 ⟨.sv (.v (.int .i64 n)), H', β, h2, h3, rfl, h4⟩
        · cases hr
      · split at hr
        · rename_i y z t ts hy ht
          have hy := toList_two hy
          have ht0 : c.argTypes[0]? = some t := by rw [← Array.getElem?_toList, ht]; rfl
          split at hr
          · rename_i k hk
            obtain ⟨w', H', h1, h2, h3, h4⟩ := exDelete_ok (ty := o.type) ht0 hr h.ok (evalS_rep h y) (evalSV_rep h hk)
            rw [hy]
            simp only [builtin, List.map_toArray, List.map_cons, List.map_nil]
            exact .of_value h1 ⟨.tup [], H', β, h2, h3, ⟨[], rfl, rfl⟩, h4⟩
          · cases hr
        · cases hr
      · cases hr
    · rename_i f hf
      split at hr
      · rename_i g caps args hg hargs
        obtain ⟨hcaps, hv⟩ := evalS_eq h hg
        obtain ⟨h1, h2⟩ := exCall_ok hT hr h.ok (RepSVs.append (svList_rep h hargs) (caps_rep hcaps))
        have : (execOp a.eval o).run P w = .ok (.enter g ((c.args.toList.map a.eval) ++ caps.map fun r => Value.pointer (some (addr (en w β F H) r 0))).toArray) w := by
          rw [← h1]
          simp only [execOp, e, resolve, hf, hv, Deferred.ofValue, Sem.run_bind, Sem.run_pure, Result.andThen_ok, invoke]
          congr 2
          apply Array.ext'
          simp
        rw [this]
        exact .enter _ _ _ h2
      · cases hr
    · cases hr
  · cases hr


/-- an operation that makes new blocks -/
theorem exGrow_ok {o : Oper} {K : Slot → Heap → Option R} (hg : grows o.op = true) (hr : exAct P T fr H o.op K = some x) (h : Rel w β F H fr a) :
    ∃ v w', (execOp a.eval o).run P w = .ok (.value v) w' ∧ Sup w w' ∧ Res w β F H x K v w' := by
  unfold exAct at hr
  split at hr
  · rename_i t e
    split at hr
    · rename_i l hl
      obtain ⟨i, z, hi, hz, hrep, _⟩ := zeroOf_spec hl
      obtain ⟨sg', i', H1, β1, k1, ok1, hx1, hr1, _⟩ := rebSegs_ok h.ok hr (hrep _)
      obtain ⟨w', h1, h2, h3⟩ := alloc_ok (P := P) ok1 t hr1 k1
      exact ⟨_, w', by simp only [execOp, e]; exact run_value (by simp [Instr.alloc, run_zero hi hz, h1]), h2, h3.pre hx1⟩
    · cases hr
  · rename_i t y e
    split at hr
    · rename_i v hv
      obtain ⟨hb, hk⟩ := bif_none hr
      obtain ⟨sg', i', H1, β1, k1, ok1, hx1, hr1, _⟩ := rebSegs_ok h.ok hk (okSV_one (regrp_rep (evalSV_rep h hv)) (by rw [okSV_regrp]; exact hb))
      obtain ⟨w', h1, h2, h3⟩ := alloc_ok (P := P) ok1 t hr1 k1
      exact ⟨_, w', by simp only [execOp, e]; exact run_value (by simp [Instr.box, h1]), h2, h3.pre hx1⟩
    · cases hr
  · rename_i t n ps e
    split at hr
    · rename_i l hl
      obtain ⟨v, w', h1, h2, h3⟩ := exBuildSlice_ok (Ps := ps.map fun (i, x) => (i, a.eval x)) hr h.ok (by have := partList_rep h hl; simpa using this)
      exact ⟨v, w', by simp only [execOp, e]; exact run_value h1, h2, h3.res⟩
    · cases hr
  · rename_i e; rw [e] at hg; cases hg
  · rename_i t r e
    split at hr
    · obtain ⟨v, w', h1, h2, h3⟩ := exMakeMap_ok (P := P) (rv := none) hr h.ok (.inl rfl)
      exact ⟨v, w', by simp only [execOp, e]; exact run_value h1, h2, h3.res⟩
    · rename_i y
      split at hr
      · rename_i k n hn
        obtain ⟨v, w', h1, h2, h3⟩ := exMakeMap_ok (P := P) (rv := some (.int k n)) hr h.ok (.inr ⟨k, n, rfl⟩)
        have hy : a.eval y = .int k n := evalS_eq h hn
        refine ⟨v, w', ?_, h2, h3.res⟩
        simp only [execOp, e]
        refine run_value ?_
        simp only [Option.map_some, hy]
        exact h1
      · cases hr
  · rename_i t l c e
    split at hr
    · rename_i k n k' m hn hm
      obtain ⟨v, w', h1, h2, h3⟩ := exMakeSlice_ok (P := P) (k := k) (k' := k') hr h.ok
      have hl : a.eval l = .int k n := evalS_eq h hn
      have hc : a.eval c = .int k' m := evalS_eq h hm
      refine ⟨v, w', ?_, h2, h3.res⟩
      simp only [execOp, e]
      rw [hl, hc]
      exact run_value h1
    · cases hr
  · rename_i e; rw [e] at hg; cases hg
  · rename_i e; rw [e] at hg; cases hg
  · cases hr

end
end Go.Gx
