/-
  Gx, part N: one operation, of those that leave the world as it is; of the others.
-/
import Derived.Test.YteagdmkedffplaaGxM
namespace Go.Gx
section
variable {R : Type} {P : Program} {w : World} {β : Nat → Loc} {F : Nat → Prop} {H : Heap} {fr : Fr} {a : Act} {x : R}

theorem partList_rep (h : Rel w β F H fr a) : ∀ {ps : List (Nat × Operand)} {l : List (Nat × SV)}, partList fr ps = some l → RepParts (en w β F H) l (ps.map fun (i, x) => (i, a.eval x))
  | [], l, hl => by cases hl; exact .nil
  | (i, y) :: ps, l, hl => by
    simp only [partList] at hl
    split at hl
    · rename_i v l' hv hl'
      cases hl
      exact .cons (evalSV_rep h hv) (partList_rep h hl')
    · cases hl

theorem capRefs_rep (h : Rel w β F H fr a) : ∀ {ps : List Operand} {l : List Nat}, capRefs fr ps = some l → (∀ r ∈ l, r < H.length) ∧ ps.map a.eval = l.map fun r => Value.pointer (some (addr (en w β F H) r 0))
  | [], l, hl => by cases hl; exact ⟨fun _ h => (nomatch h), rfl⟩
  | y :: ps, l, hl => by
    simp only [capRefs] at hl
    split at hl
    · rename_i q l' hv hl'
      cases hl
      obtain ⟨h1, h2⟩ := evalS_eq h hv
      obtain ⟨h3, h4⟩ := capRefs_rep h hl'
      refine ⟨fun r hr => ?_, by simp [h2, h4]⟩
      rcases List.mem_cons.1 hr with rfl | hr
      · exact h1
      · exact h3 r hr
    · cases hl

theorem svList_rep (h : Rel w β F H fr a) : ∀ {ps : List Operand} {l : List SV}, svList fr ps = some l → RepSVs (en w β F H) l (ps.map a.eval)
  | [], l, hl => by cases hl; exact rfl
  | y :: ps, l, hl => by
    simp only [svList] at hl
    split at hl
    · rename_i v l' hv hl'
      cases hl
      exact ⟨_, _, rfl, evalSV_rep h hv, svList_rep h hl'⟩
    · cases hl

theorem isZ_spec {o : Option Operand} (h : isZ o = true) : ∃ k, o = some (.const (.int k 0)) := by
  unfold isZ at h
  split at h
  · rename_i k n
    have : n = 0 := by simpa using h
    subst this
    exact ⟨k, rfl⟩
  · cases h

theorem exMin_ok {e : En} : ∀ {ys : List Sc} {vs : List Value} {y : Sc} {V : Value} {K : Sc → Option R}, exMinMax false y ys K = some x → RepSc e y V → RepSVs e (ys.map .v) vs →
    ∃ r v, (∀ w, (vs.foldlM Builtin.min2 V).run P w = .ok v w) ∧ RepSc e r v ∧ K r = some x
  | [], vs, y, V, K, h, hy, hs => by
    obtain rfl : vs = [] := hs
    exact ⟨y, V, fun w => by simp, hy, h⟩
  | z :: ys, vs, y, V, K, h, hy, ⟨U, us, e1, hz, hs⟩ => by
    subst e1
    unfold exMinMax at h
    split at h
    · rename_i k p k' q
      obtain rfl : V = _ := hy
      obtain rfl : U = _ := hz
      obtain ⟨r, v, h1, h2, h3⟩ := exMin_ok (V := .int k (if q < p then q else p)) h rfl hs
      exact ⟨r, v, fun w => by simp [Builtin.min2, h1], h2, h3⟩
    · cases h

theorem exMax_ok {e : En} : ∀ {ys : List Sc} {vs : List Value} {y : Sc} {V : Value} {K : Sc → Option R}, exMinMax true y ys K = some x → RepSc e y V → RepSVs e (ys.map .v) vs →
    ∃ r v, (∀ w, (vs.foldlM Builtin.max2 V).run P w = .ok v w) ∧ RepSc e r v ∧ K r = some x
  | [], vs, y, V, K, h, hy, hs => by
    obtain rfl : vs = [] := hs
    exact ⟨y, V, fun w => by simp, hy, h⟩
  | z :: ys, vs, y, V, K, h, hy, ⟨U, us, e1, hz, hs⟩ => by
    subst e1
    unfold exMinMax at h
    split at h
    · rename_i k p k' q
      obtain rfl : V = _ := hy
      obtain rfl : U = _ := hz
      obtain ⟨r, v, h1, h2, h3⟩ := exMax_ok (V := .int k (if p < q then q else p)) h rfl hs
      exact ⟨r, v, fun w => by simp [Builtin.max2, h1], h2, h3⟩
    · cases h

theorem evalS_list (h : Rel w β F H fr a) : ∀ (ps : List Operand), RepSVs (en w β F H) ((ps.map (evalS fr)).map .v) (ps.map a.eval)
  | [] => rfl
  | y :: ps => ⟨_, _, rfl, evalS_rep h y, evalS_list h ps⟩

theorem RepSVs.get {e : En} : ∀ {l : List SV} {vs : List Value} {i : Nat} {v : SV}, RepSVs e l vs → l[i]? = some v → ∃ V, vs[i]? = some V ∧ RepSV e v V
  | [], _, i, v, _, hv => by simp at hv
  | y :: l, _, 0, v, ⟨V, vs, e1, h1, h2⟩, hv => by
    subst e1
    simp at hv
    subst hv
    exact ⟨V, by simp, h1⟩
  | y :: l, _, i + 1, v, ⟨V, vs, e1, h1, h2⟩, hv => by
    subst e1
    obtain ⟨U, h3, h4⟩ := h2.get (i := i) (by simpa using hv)
    exact ⟨U, by simpa using h3, h4⟩

/-- a reading, for short -/
def RdOk {R : Type} (P : Program) (w : World) (β : Nat → Loc) (F : Nat → Prop) (H : Heap) (x : R) (K : Slot → Option R) (m : Sem Next) : Prop :=
  ∃ s v, (∀ w', Sup w w' → m.run P w' = .ok (.value v) w') ∧ RepSlot (en w β F H) s v ∧ K s = some x

theorem RdOk.sc {K : Slot → Option R} {m : Sem Value} (h : ∃ r v, Stays P m w v ∧ RepSc (en w β F H) r v ∧ K (.sv (.v r)) = some x) : RdOk P w β F H x K (do pure (.value (← m))) := by
  obtain ⟨r, v, h1, h2, h3⟩ := h
  exact ⟨.sv (.v r), v, fun w' hw => run_value (h1 w' hw), h2, h3⟩

theorem RdOk.svv {K : Slot → Option R} {m : Sem Value} (h : ∃ r v, Stays P m w v ∧ RepSV (en w β F H) r v ∧ K (.sv r) = some x) : RdOk P w β F H x K (do pure (.value (← m))) := by
  obtain ⟨r, v, h1, h2, h3⟩ := h
  exact ⟨.sv r, v, fun w' hw => run_value (h1 w' hw), h2, h3⟩

theorem builtin_run (b : Go.Builtin) (c : Call) (ty : TypeId) (hb : c.callee = .builtin b) (ρ : Operand → Value) :
    ∃ cs, ∀ w, (do let d ← resolve ρ c ty; invoke d.target d.args : Sem Next).run P w = (builtin b c.argTypes ty cs (c.args.map ρ)).run P w := by
  unfold resolve
  rw [hb]
  refine ⟨c.args.map fun | .const _ => true | _ => false, fun w => ?_⟩
  simp only [Sem.run_bind, Sem.run_pure, Result.andThen_ok, invoke]
  rfl

theorem toList_one {α : Type} {a : Array α} {x : α} (h : a.toList = [x]) : a = #[x] := Array.ext' h
theorem toList_two {α : Type} {a : Array α} {x y : α} (h : a.toList = [x, y]) : a = #[x, y] := Array.ext' h

set_option maxHeartbeats 1000000 in
theorem exRead_ok {o : Oper} {K : Slot → Option R} (hr : exRead P fr H o.op K = some x) (h : Rel w β F H fr a) : RdOk P w β F H x K (execOp a.eval o) := by
  unfold exRead at hr
  split at hr
  · rename_i y e
    exact ⟨_, _, fun w' _ => by simp [execOp, e], evalO_rep h y, hr⟩
  · rename_i y e
    exact ⟨_, _, fun w' _ => by simp [execOp, e], evalO_rep h y, hr⟩
  · rename_i c y z e
    split at hr
    · rename_i b hb
      have hc : a.eval c = .bool b := evalS_eq h hb
      cases b with
      | true => exact ⟨_, _, fun w' _ => by simp [execOp, e, hc, asBool], evalO_rep h y, hr⟩
      | false => exact ⟨_, _, fun w' _ => by simp [execOp, e, hc, asBool], evalO_rep h z, hr⟩
    · cases hr
  · rename_i t ps e
    split at hr
    · rename_i l hl
      obtain ⟨v, V, h1, h2, h3⟩ := exBuild_ok (Ps := ps.map fun (i, x) => (i, a.eval x)) hr (by have := partList_rep h hl; simpa using this) w
      exact ⟨.sv v, _, fun w' hw => by simp only [execOp, e]; exact run_value (h1 w' hw), h2, h3⟩
    · cases hr
  · rename_i t y e
    split at hr
    · rename_i agg n ht
      simp only [execOp, e]
      exact .svv (loadAt_ok ht hr h.ok (evalS_rep h y))
    · cases hr
  · rename_i y e
    split at hr
    · rename_i hy
      have hv := evalS_eq h hy
      obtain ⟨h1, h2⟩ := id hv
      refine ⟨_, a.eval y, ?_, ?_, hr⟩
      · exact fun w' _ => by simp [execOp, e, h2]
      · exact hv
    · rename_i hy
      have hv := evalS_eq h hy
      obtain ⟨h1, h2⟩ := id hv
      refine ⟨_, a.eval y, ?_, ?_, hr⟩
      · exact fun w' _ => by simp [execOp, e, h2]
      · exact hv
    · rename_i hy
      have hv := evalS_eq h hy
      obtain ⟨h1, ad, h3, h4, h2⟩ := id hv
      refine ⟨_, a.eval y, ?_, ?_, hr⟩
      · exact fun w' _ => by simp [execOp, e, h2]
      · exact hv
    · rename_i hy
      have hv := evalS_eq h hy
      obtain ⟨h1, h2⟩ := id hv
      refine ⟨_, a.eval y, ?_, ?_, hr⟩
      · exact fun w' _ => by simp [execOp, e, h2]
      · exact hv
    · cases hr
  · rename_i op t y z p e
    simp only [execOp, e]
    exact .sc (exBin_ok hr (evalS_rep h y) (evalS_rep h z) w y z)
  · rename_i op t y e
    simp only [execOp, e]
    exact .sc (exUn_ok hr (evalS_rep h y) w)
  · rename_i s d y e
    simp only [execOp, e]
    exact .sc (exConvert_ok hr h.ok (widen_rep (evalS_rep h y)))
  · rename_i fn first captured e
    split at hr
    · rename_i f caps hf hc
      have hf : first = #[] := Array.ext' hf
      subst hf
      obtain ⟨h1, h2⟩ := capRefs_rep h hc
      refine ⟨.sv (.v (.fn f caps)), _, fun w' _ => by simp [execOp, e, Instr.makeFunc]; rfl, ⟨h1, ?_⟩, hr⟩
      rw [← h2]
      congr 1
      apply Array.ext'
      simp
    · cases hr
  · rename_i t y lo hi mx e
    simp only [execOp, e]
    cases hz : (isZ hi && isZ mx && lo.isNone) with
    | true =>
      rw [hz] at hr
      simp only [Bool.and_eq_true] at hz
      obtain ⟨kh, rfl⟩ := isZ_spec hz.1.1
      obtain ⟨km, rfl⟩ := isZ_spec hz.1.2
      cases lo with
      | some _ => simp at hz
      | none => exact .sc (exClip_ok (K := fun v => K (.sv (.v v))) hr (widen_rep (evalS_rep h y)) w)
    | false =>
      rw [hz] at hr
      simp only [cond_false] at hr
      split at hr
      · rename_i l hh m hl hhh hm
        exact .sc (exSlice_ok hr h.ok (widen_rep (evalS_rep h y)) (optI_ok h hl) (optI_ok h hhh) (optI_ok h hm))
      · cases hr
  · rename_i t y f e
    simp only [execOp, e]
    exact .sc (exFieldAddr_ok hr (evalS_rep h y) w)
  · rename_i t y f e
    simp only [execOp, e]
    exact .svv (exField_ok hr (evalO_rep h y) w)
  · rename_i t y i e
    simp only [execOp, e]
    exact .sc (exIndexAddr_ok hr (widen_rep (evalS_rep h y)) (evalS_rep h i) w)
  · rename_i t y i e
    simp only [execOp, e]
    exact .svv (exIndex_ok hr (evalO_rep h y) (evalS_rep h i) w)
  · rename_i t y i ok e
    split at hr
    · rename_i k hk
      obtain ⟨s, v, h1, h2, h3⟩ := exLookup_ok hr h.ok (evalS_rep h y) (evalSV_rep h hk)
      exact ⟨s, v, fun w' hw => by simp only [execOp, e]; exact run_value (h1 w' hw), h2, h3⟩
    · cases hr
  · rename_i y i e
    split at hr
    · rename_i l hl
      split at hr
      · rename_i v hv
        have := evalO_rep h y
        rw [hl] at this
        obtain ⟨vs, h1, h2⟩ := this
        obtain ⟨V, h3, h4⟩ := h2.get hv
        exact ⟨.sv v, V, fun w' _ => by simp [execOp, e, Instr.extract, h1, h3], h4, hr⟩
      · cases hr
    · cases hr
  · rename_i c e
    split at hr
    · rename_i b hb
      obtain ⟨cs, hrun⟩ := builtin_run (P := P) b c o.type hb a.eval
      replace hrun : ∀ w, (execOp a.eval o).run P w = (builtin b c.argTypes o.type cs (c.args.map a.eval)).run P w := fun w => by
        simp only [execOp, e]
        exact hrun w
      split at hr
      · split at hr
        · rename_i y t hy ht
          have hy := toList_one hy
          have ht := toList_one ht
          obtain ⟨n, h1, h2⟩ := exLen_ok (ts := c.argTypes) hr h.ok (widen_rep (evalS_rep h y)) o.type (by rw [ht]; rfl)
          exact ⟨.sv (.v (.int .i64 n)), _, fun w' hw => by rw [hrun, hy]; simp only [builtin, List.map_toArray, List.map_cons, List.map_nil]; exact run_value (h1 w' hw), rfl, h2⟩
        · cases hr
      · split at hr
        · rename_i y ys hy
          cases hc : c.args.toList with
          | nil => rw [hc] at hy; simp at hy
          | cons p ps =>
            rw [hc] at hy
            simp only [List.map_cons, List.cons.injEq] at hy
            obtain ⟨rfl, rfl⟩ := hy
            obtain ⟨r, v, h1, h2, h3⟩ := exMin_ok (P := P) hr (evalS_rep h p) (evalS_list h ps)
            refine ⟨.sv (.v r), v, ?_, h2, h3⟩
            intro w' hw
            rw [hrun]
            refine run_value ?_
            simp [Builtin.min_, hc, h1]
        · cases hr
      · split at hr
        · rename_i y ys hy
          cases hc : c.args.toList with
          | nil => rw [hc] at hy; simp at hy
          | cons p ps =>
            rw [hc] at hy
            simp only [List.map_cons, List.cons.injEq] at hy
            obtain ⟨rfl, rfl⟩ := hy
            obtain ⟨r, v, h1, h2, h3⟩ := exMax_ok (P := P) hr (evalS_rep h p) (evalS_list h ps)
            refine ⟨.sv (.v r), v, ?_, h2, h3⟩
            intro w' hw
            rw [hrun]
            refine run_value ?_
            simp [Builtin.max_, hc, h1]
        · cases hr
      · cases hr
    · cases hr
  · cases hr

end
end Go.Gx
