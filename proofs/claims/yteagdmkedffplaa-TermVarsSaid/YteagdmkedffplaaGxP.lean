/-
  Gx, part P: calls: a part of the heap goes in, and is put back.
-/
import Derived.Test.YteagdmkedffplaaGxO
namespace Go.Gx
section
variable {w : World} {β : Nat → Loc} {F : Nat → Prop} {H : Heap}

theorem back_some {rs : List Nat} {n i r : Nat} (h : rs[i]? = some r) : back rs n i = r := by simp [back, h]
theorem back_none {rs : List Nat} {n i : Nat} (h : rs.length ≤ i) : back rs n i = n + (i - rs.length) := by simp [back, List.getElem?_eq_none h]

theorem back_lt {rs : List Nat} {n i : Nat} (hlt : ∀ r ∈ rs, r < n) (h : i < rs.length) : back rs n i < n ∧ rs[i]? = some (back rs n i) := by
  have h1 : rs[i]? = some rs[i] := List.getElem?_eq_getElem h
  rw [back_some h1]
  exact ⟨hlt _ (List.mem_of_getElem? h1), h1⟩

theorem back_inj {rs : List Nat} {n i j : Nat} (hlt : ∀ r ∈ rs, r < n) (hnd : rs.Nodup) (h : back rs n i = back rs n j) : i = j := by
  rcases Nat.lt_or_ge i rs.length with hi | hi <;> rcases Nat.lt_or_ge j rs.length with hj | hj
  · have h1 := (back_lt hlt hi).2
    have h2 := (back_lt hlt hj).2
    rw [h] at h1
    exact get_unique hnd h1 h2
  · have h1 := (back_lt hlt hi).1
    rw [h, back_none hj] at h1
    omega
  · have h1 := (back_lt hlt hj).1
    rw [← h, back_none hi] at h1
    omega
  · rw [back_none hi, back_none hj] at h
    omega

theorem putBack_get (f : Nat → Nat) : ∀ (rs : List Nat) (G H : Heap), rs.length ≤ G.length → (∀ r ∈ rs, r < H.length) → ∀ (r : Nat) (o : Obj), (putBack f rs G H)[r]? = some o →
    (r ∉ rs ∧ H[r]? = some o) ∨ ∃ i o', G[i]? = some o' ∧ o = mapObj f o' ∧ r = back rs H.length i
  | [], G, H, _, _, r, o, h => by
    have h : (H ++ G.map (mapObj f))[r]? = some o := by
      cases G <;> exact h
    rcases Nat.lt_or_ge r H.length with hr | hr
    · rw [List.getElem?_append_left hr] at h
      exact .inl ⟨by simp, h⟩
    · rw [List.getElem?_append_right hr, List.getElem?_map] at h
      cases hg : G[r - H.length]? with
      | none => rw [hg] at h; cases h
      | some o' =>
        rw [hg] at h
        simp at h
        refine .inr ⟨_, o', hg, h.symm, ?_⟩
        rw [back_none (by simp)]
        simp
        omega
  | q :: rs, [], H, hl, _, r, o, h => by simp at hl
  | q :: rs, g :: G, H, hl, hlt, r, o, h => by
    have h : (putBack f rs G (H.set q (mapObj f g)))[r]? = some o := h
    have hq : q < H.length := hlt q (by simp)
    rcases putBack_get f rs G (H.set q (mapObj f g)) (by simpa using hl) (fun p hp => by simpa using hlt p (by simp [hp])) r o h with ⟨h1, h2⟩ | ⟨i, o', h1, h2, h3⟩
    · rcases get_set h2 with ⟨rfl, rfl⟩ | ⟨hne, h4⟩
      · exact .inr ⟨0, g, rfl, rfl, by simp [back]⟩
      · exact .inl ⟨by simp [hne, h1], h4⟩
    · refine .inr ⟨i + 1, o', by simpa using h1, h2, ?_⟩
      rw [h3, List.length_set]
      unfold back
      simp only [List.getElem?_cons_succ, List.length_cons]
      cases rs[i]? with
      | some _ => rfl
      | none => simp only; congr 1; omega

theorem putBack_length (f : Nat → Nat) : ∀ (rs : List Nat) (G H : Heap), rs.length ≤ G.length → (putBack f rs G H).length = H.length + (G.length - rs.length)
  | [], G, H, _ => by cases G <;> simp [putBack]
  | q :: rs, [], H, hl => by simp at hl
  | q :: rs, g :: G, H, hl => by
    simp only [putBack]
    rw [putBack_length f rs G _ (by simpa using hl)]
    simp

def backβ (β βG : Nat → Loc) (n m : Nat) : Nat → Loc := fun r => if r < n then β r else βG (m + (r - n))

/-- the blocks that a callee does not see -/
def Hid (F : Nat → Prop) (β : Nat → Loc) (H : Heap) (rs : List Nat) (b : Nat) : Prop := F b ∨ ∃ r o, r ∉ rs ∧ H[r]? = some o ∧ owns (β r) o ∧ (β r).b = b

section
variable {rs : List Nat} {w' : World} {βG : Nat → Loc} {G : Heap}

structure Back (w : World) (β : Nat → Loc) (F : Nat → Prop) (H : Heap) (rs : List Nat) (w' : World) (βG : Nat → Loc) (G : Heap) : Prop where
  ok : HeapOk w β F H
  lt : ∀ r ∈ rs, r < H.length
  nd : rs.Nodup
  okG : HeapOk w' βG (Hid F β H rs) G
  ext : Ext (en w (partβ β rs) (Hid F β H rs) (Gx.part H rs)) (en w' βG (Hid F β H rs) G)

theorem Back.len (h : Back w β F H rs w' βG G) : rs.length ≤ G.length := by
  have := h.ext.n
  simpa [en, Gx.part] using this

theorem Back.nm (h : Back w β F H rs w' βG G) (i : Nat) : backβ β βG H.length rs.length (back rs H.length i) = βG i := by
  rcases Nat.lt_or_ge i rs.length with hi | hi
  · obtain ⟨h1, h2⟩ := back_lt h.lt hi
    have h3 := h.ext.β i (by simpa [en, Gx.part] using hi)
    simp only [en] at h3
    rw [h3]
    simp [backβ, h1, partβ, List.getD, h2]
  · rw [back_none hi]
    have h1 : ¬ (H.length + (i - rs.length) < H.length) := by omega
    have h2 : rs.length + (H.length + (i - rs.length) - H.length) = i := by omega
    simp only [backβ, if_neg h1, h2]

theorem Back.old {r : Nat} (hr : r < H.length) : backβ β βG H.length rs.length r = β r := by simp [backβ, hr]

theorem Back.get (h : Back w β F H rs w' βG G) {r : Nat} {o : Obj} (hr : (putBack (back rs H.length) rs G H)[r]? = some o) :
    (r ∉ rs ∧ H[r]? = some o) ∨ ∃ i o', G[i]? = some o' ∧ o = mapObj (back rs H.length) o' ∧ r = back rs H.length i := putBack_get _ rs G H h.len h.lt r o hr

theorem Back.ren (h : Back w β F H rs w' βG G) : Ren (back rs H.length) (· < G.length) (en w' βG (Hid F β H rs) G) (en w' (backβ β βG H.length rs.length) F (putBack (back rs H.length) rs G H)) where
  w := rfl
  av b hb := by
    rcases hb with ⟨r, o, h1, h2, h3⟩ | hb
    · rcases h.get h1 with ⟨h4, h5⟩ | ⟨i, o', h4, rfl, rfl⟩
      · rw [Back.old (lt_len h5)] at h2 h3
        exact .inr (.inr ⟨r, o, h4, h5, h2, h3⟩)
      · rw [h.nm] at h2 h3
        exact .inl ⟨i, o', h4, owns_map.1 h2, h3⟩
    · exact .inr (.inl hb)
  lt i hi := by
    show back rs H.length i < (putBack (back rs H.length) rs G H).length
    rw [putBack_length _ rs G H h.len]
    rcases Nat.lt_or_ge i rs.length with hi' | hi'
    · have := (back_lt h.lt hi').1; omega
    · rw [back_none hi']; omega
  β i _ := h.nm i
  sz i m hi hm := by
    obtain ⟨l, h1, h2⟩ := szOf_some hm
    rcases h.get h1 with ⟨h4, h5⟩ | ⟨j, o', h4, e, h6⟩
    · exfalso
      rcases Nat.lt_or_ge i rs.length with hi' | hi'
      · exact h4 (List.mem_of_getElem? (back_lt h.lt hi').2)
      · have := lt_len h5
        rw [back_none hi'] at this
        omega
    · have := back_inj h.lt h.nd h6
      subst this
      cases o' with
      | cells l' =>
        simp only [mapObj, Obj.cells.injEq] at e
        refine (szOf_of h4).trans ?_
        simp only [szO]
        rw [← mapSegs_size (back rs H.length) l', ← e, h2]
      | map => cases e
      | dead => cases e

theorem Back.extH (h : Back w β F H rs w' βG G) : Ext (en w β F H) (en w' (backβ β βG H.length rs.length) F (putBack (back rs H.length) rs G H)) where
  n := by simp only [en]; rw [putBack_length _ rs G H h.len]; omega
  β r hr := Back.old hr
  size := h.ext.size
  kept b hb ho := h.ext.kept b hb fun ho' => by
    obtain ⟨r, _, o, h1, h2, h3⟩ := part_own h.lt ho'
    exact ho ⟨r, o, h1, h2, h3⟩
  sub b hb := by
    rintro ⟨r, o, h1, h2, h3⟩
    rcases h.get h1 with ⟨h4, h5⟩ | ⟨i, o', h4, rfl, rfl⟩
    · rw [Back.old (lt_len h5)] at h2 h3
      exact ⟨r, o, h5, h2, h3⟩
    · rw [h.nm] at h2 h3
      have h5 : Own βG G b := ⟨i, o', h4, owns_map.1 h2, h3⟩
      obtain ⟨r, _, o, h1, h2, h3⟩ := part_own h.lt (h.ext.sub b hb h5)
      exact ⟨r, o, h1, h2, h3⟩
  F := rfl
  sz r m hr hm := by
    obtain ⟨l, h1, h2⟩ := szOf_some hm
    rcases h.get h1 with ⟨h4, h5⟩ | ⟨i, o', h4, e, h6⟩
    · exact (szOf_of h5).trans (by simp [szO, h2])
    · have hr' : r < H.length := hr
      have hi : i < rs.length := by
        rcases Nat.lt_or_ge i rs.length with hi | hi
        · exact hi
        · rw [h6, back_none hi] at hr'; omega
      cases o' with
      | cells l' =>
        simp only [mapObj, Obj.cells.injEq] at e
        obtain ⟨l2, h7, h8⟩ := szOf_some (h.ext.sz i m (by simpa [en, Gx.part] using hi) ((szOf_of h4).trans (by
          simp only [szO]
          rw [← mapSegs_size (back rs H.length) l', ← e, h2])))
        obtain ⟨r2, h9, h10⟩ := part_get h7
        have h11 := (back_lt h.lt hi).2
        rw [← h6, h9] at h11
        cases h11
        cases ho : H.getD r .dead with
        | cells l3 =>
          rw [ho] at h10
          simp only [mapObj, Obj.cells.injEq] at h10
          refine (szOf_of (getD_get hr')).trans ?_
          rw [ho]
          simp only [szO]
          rw [← mapSegs_size (idx rs) l3, ← h10, h8]
        | map => rw [ho] at h10; cases h10
        | dead => rw [ho] at h10; cases h10
      | map => cases e
      | dead => cases e
  grow := h.ext.grow
  out := h.ext.out
  froz := h.ext.froz

theorem Back.okH (h : Back w β F H rs w' βG G) : HeapOk w' (backβ β βG H.length rs.length) F (putBack (back rs H.length) rs G H) where
  obj r o hr := by
    rcases h.get hr with ⟨h4, h5⟩ | ⟨i, o', h4, rfl, rfl⟩
    · refine RepObj.keep h.ok h.extH h5 fun ho => ?_
      obtain ⟨h6, h7⟩ := h.ok.lt r o h5 ho
      refine h.ext.kept _ h6 fun ho' => ?_
      obtain ⟨r', hr', o', h1, h2, h3⟩ := part_own h.lt ho'
      have := h.ok.inj r' r o' o h1 h5 h2 ho h3
      exact h4 (this ▸ hr')
    · exact (h.okG.obj i o' h4).ren h.ren (lt_len h4) (objRefs_lt h.okG h4)
  lt r o hr ho := by
    rcases h.get hr with ⟨h4, h5⟩ | ⟨i, o', h4, rfl, rfl⟩
    · rw [Back.old (lt_len h5)] at ho ⊢
      obtain ⟨h6, h7⟩ := h.ok.lt r o h5 ho
      exact ⟨Nat.lt_of_lt_of_le h6 h.ext.size, h7⟩
    · rw [h.nm] at ho ⊢
      obtain ⟨h6, h7⟩ := h.okG.lt i o' h4 (owns_map.1 ho)
      exact ⟨h6, fun hf => h7 (.inl hf)⟩
  inj r r' o o' hr hr' ho ho' e := by
    rcases h.get hr with ⟨h4, h5⟩ | ⟨i, p, h4, rfl, rfl⟩ <;> rcases h.get hr' with ⟨h4', h5'⟩ | ⟨i', p', h4', rfl, rfl⟩
    · rw [Back.old (lt_len h5)] at e ho
      rw [Back.old (lt_len h5')] at e ho'
      exact h.ok.inj r r' o o' h5 h5' ho ho' e
    · rw [Back.old (lt_len h5)] at e ho
      rw [h.nm] at e ho'
      exact absurd (.inr ⟨r, o, h4, h5, ho, e⟩) (h.okG.lt i' p' h4' (owns_map.1 ho')).2
    · rw [Back.old (lt_len h5')] at e ho'
      rw [h.nm] at e ho
      exact absurd (.inr ⟨r', o', h4', h5', ho', e.symm⟩) (h.okG.lt i p h4 (owns_map.1 ho)).2
    · rw [h.nm] at e ho
      rw [h.nm] at e ho'
      rw [h.okG.inj i i' p p' h4 h4' (owns_map.1 ho) (owns_map.1 ho') e]
  F b hb := Nat.lt_of_lt_of_le (h.ok.F b hb) h.ext.size

end

/-! ### an entry of the table -/
structure EntOK (P : Program) (f : FuncId) (E : Ent) : Prop where
  fn : ∃ fn, P.funcs[f]? = some fn ∧ (fn.name == "runtime.NumGoroutine") = false ∧ fn.body.isNone = false
  run : ∀ {R : Type} {w : World} {β : Nat → Loc} {F : Nat → Prop} {G : Heap} {args : List SV} {vs : List Value} {K : Slot → Heap → Option R} {x : R},
    HeapOk w β F G → RepSVs (en w β F G) args vs → E.run args G K = some x → Calls P f vs.toArray w fun e w' => ∃ v, e = .returned v ∧ Res w β F G x K v w'

def TabOK (P : Program) (T : Table) : Prop := ∀ f, T f = noEnt ∨ EntOK P f (T f)

theorem TabOK.nil {P : Program} : TabOK P fun _ => noEnt := fun _ => .inl rfl
theorem TabOK.cons {P : Program} {T : Table} {f : FuncId} {E : Ent} (h : EntOK P f E) (k : TabOK P T) : TabOK P fun g => bif Nat.beq g f then E else T g := fun g => by
  simp only
  cases hb : Nat.beq g f with
  | true => rw [Nat.eq_of_beq_eq_true hb]; exact .inr h
  | false => exact k g

theorem callFunc_run {P : Program} {f : FuncId} {E : Ent} (h : EntOK P f E) (args : Array Value) (w : World) : (callFunc f args).run P w = .ok (.enter f args) w := by
  obtain ⟨fn, h1, h2, h3⟩ := h.fn
  unfold callFunc
  simp only [Sem.run_bind, run_program, Result.andThen_ok, h1, h2, h3, Bool.false_eq_true, if_false, Sem.run_pure]

theorem exCall_ok {R : Type} {P : Program} {T : Table} (hT : TabOK P T) {f : FuncId} {args : List SV} {vs : List Value} {K : Slot → Heap → Option R} {x : R} (h : exCall T f args H K = some x) (ok : HeapOk w β F H)
    (ha : RepSVs (en w β F H) args vs) : (callFunc f vs.toArray).run P w = .ok (.enter f vs.toArray) w ∧ Calls P f vs.toArray w fun e w' => ∃ v, e = .returned v ∧ Res w β F H x K v w' := by
  unfold exCall at h
  split at h
  · rename_i rs hrs
    obtain ⟨_, h1, h2, h3, h4⟩ := reach_spec ok _ _ _ _ hrs (fun r hr => nomatch hr) List.nodup_nil (fun r hr => nomatch hr) (svsRefs_lt ha)
    rw [fNats_eq, fSVs_eq, fH_eq] at h
    have h : (T f).run (args.map (mapSV (idx rs))) (part H rs) (fun s G => K (mapSlot (back rs H.length) s) (putBack (back rs H.length) rs G H)) = some x := h
    have hE : EntOK P f (T f) := by
      rcases hT f with e | e
      · rw [e] at h; cases h
      · exact e
    have ren := part_ren (w := w) (β := β) (F := F) (F' := Hid F β H rs) h4 fun b hb => hb
    have okG := part_ok ok h4 h3 h2 (F' := Hid F β H rs) fun b hb => hb
    refine ⟨callFunc_run hE _ w, Calls.mono (hE.run okG (ren.svs h1 ha) h) fun e w' => ?_⟩
    rintro ⟨v, he, s, G', βG, okG', hx, hs, hK⟩
    have hB : Back w β F H rs w' βG G' := ⟨ok, h4, h3, okG', hx⟩
    exact ⟨v, he, _, _, _, hB.okH, hB.extH, hB.ren.slot (slotRefs_lt hs) hs, hK⟩
  · cases h

end
end Go.Gx
