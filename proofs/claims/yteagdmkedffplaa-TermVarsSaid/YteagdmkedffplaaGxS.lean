/-
  Gx, part S: regions in the text's order.
-/
import Derived.Test.YteagdmkedffplaaGxQ
namespace Go.Gx
section
variable {R : Type} {P : Program} {T : Table} {w : World} {β : Nat → Loc} {F : Nat → Prop} {H : Heap} {fr : Fr} {a : Act} {x : R}

theorem Rel.set {w' : World} {β' : Nat → Loc} {H' : Heap} (h : Rel w β F H fr a) (ok : HeapOk w' β' F H') (hx : Ext (en w β F H) (en w' β' F H')) (d : Nat) {s : Slot} {v : Value} (hs : RepSlot (en w' β' F H') s v) :
    Rel w' β' F H' (fr.set d s) (a.put (some d) v) := by
  refine ⟨ok, h.defers, by simpa [Act.put] using h.len, fun t => ?_⟩
  have old := RepSlot.mono hx _ _ (h.slots t)
  by_cases e : t = d
  · subst e
    by_cases ht : t < fr.length
    · have ht' : t < a.tmps.size := Nat.lt_of_lt_of_le ht h.len
      simp only [Act.put, Array.getD_eq_getD_getElem?, Array.getElem?_setIfInBounds_self_of_lt ht', Option.getD_some, List.getD, List.getElem?_set_self ht]
      exact hs
    · have : (fr.set t s).getD t .undef = .undef := by rw [List.getD_eq_getElem?_getD, List.getElem?_eq_none (by simp; omega)]; rfl
      rw [this]
      trivial
  · have h1 : (fr.set d s).getD t .undef = fr.getD t .undef := by simp [List.getD, List.getElem?_set_ne (Ne.symm e)]
    have h2 : (a.put (some d) v).tmps.getD t undef = a.tmps.getD t undef := by
      simp [Act.put, Array.getD_eq_getD_getElem?, Array.getElem?_setIfInBounds_ne (Ne.symm e)]
    rw [h1, h2]
    exact old

theorem Rel.keep {w' : World} {β' : Nat → Loc} {H' : Heap} (h : Rel w β F H fr a) (ok : HeapOk w' β' F H') (hx : Ext (en w β F H) (en w' β' F H')) : Rel w' β' F H' fr a :=
  ⟨ok, h.defers, h.len, fun t => RepSlot.mono hx _ _ (h.slots t)⟩

/-- what a slot holds is known better -/
theorem Rel.known (h : Rel w β F H fr a) {t : Nat} {s : Slot} (hs : RepSlot (en w β F H) s (a.tmps.getD t undef)) : Rel w β F H (fr.set t s) a := by
  refine ⟨h.ok, h.defers, by simpa using h.len, fun q => ?_⟩
  by_cases e : q = t
  · subst e
    by_cases hq : q < fr.length
    · simp only [List.getD, List.getElem?_set_self hq, Option.getD_some]
      exact hs
    · have : (fr.set q s).getD q .undef = .undef := by rw [List.getD_eq_getElem?_getD, List.getElem?_eq_none (by simp; omega)]; rfl
      rw [this]
      trivial
  · have h1 : (fr.set t s).getD q .undef = fr.getD q .undef := by simp [List.getD, List.getElem?_set_ne (Ne.symm e)]
    rw [h1]
    exact h.slots q

def setO (fr : Fr) (d : Option Nat) (s : Slot) : Fr := match d with
  | some t => fr.set t s
  | none => fr

theorem putF_set (fr : Fr) (d : Option Nat) (s : Slot) (K : Fr → Option R) : putF fr d s K = K (setO fr d s) := by
  cases d <;> simp [putF, setO]

theorem Rel.put {w' : World} {β' : Nat → Loc} {H' : Heap} (h : Rel w β F H fr a) (ok : HeapOk w' β' F H') (hx : Ext (en w β F H) (en w' β' F H')) (d : Option Nat) {s : Slot} {v : Value} (hs : RepSlot (en w' β' F H') s v) :
    Rel w' β' F H' (setO fr d s) (a.put d v) := by
  cases d with
  | some d => exact h.set ok hx d hs
  | none => exact h.keep ok hx

theorem undef_tup {e : En} : RepSlot e (.tup []) undef := ⟨[], rfl, rfl⟩

theorem res_put {o : Oper} (h : Rel w β F H fr a) {K : Fr → Heap → Option R} {v : Value} {w' : World} (hr : Res w β F H x (fun s H => fH H fun H => putF fr o.dst s fun fr => K fr H) v w') :
    ∃ fr' H' β', Rel w' β' F H' fr' (a.put o.dst v) ∧ Ext (en w β F H) (en w' β' F H') ∧ K fr' H' = some x := by
  obtain ⟨s, H', β', ok, hx, hs, hK⟩ := hr
  replace hK : K (setO fr o.dst s) H' = some x := by simpa only [fH_eq, putF_set] using hK
  exact ⟨_, H', β', h.put ok hx o.dst hs, hx, hK⟩

/-- what stands behind a step -/
def After {R : Type} (e0 : En) (F : Nat → Prop) (x : R) (K : Fr → Heap → Option R) (a : Act) (w : World) : Prop :=
  ∃ fr H β, Rel w β F H fr a ∧ Ext e0 (en w β F H) ∧ K fr H = some x

theorem exOp_wp (hT : TabOK P T) {o : Oper} {K : Fr → Heap → Option R} (hr : exOp P T fr H o.op (fun s H => fH H fun H => putF fr o.dst s fun fr => K fr H) = some x) (h : Rel w β F H fr a)
    {next : Act → World → Prop} {Q : Exit → Act → World → Prop} (hn : ∀ a' w', After (en w β F H) F x K a' w' → next a' w') : o.wp P a w next Q := by
  have hok : OpOk P w β F H x (fun s H => fH H fun H => putF fr o.dst s fun fr => K fr H) ((execOp a.eval o).run P w) := by
    unfold exOp at hr
    cases hb : isRead o.op with
    | true =>
      rw [hb] at hr
      have hr : exRead P fr H o.op (fun s => (fun s H => fH H fun H => putF fr o.dst s fun fr => K fr H) s H) = some x := hr
      obtain ⟨s, v, h1, h2, h3⟩ := exRead_ok hr h
      rw [h1 w (Sup.refl w)]
      exact .value _ _ (.same h.ok h2 h3)
    | false =>
      rw [hb] at hr
      exact exAct_ok hT hr h
  unfold Oper.wp
  generalize (execOp a.eval o).run P w = r at hok
  cases hok with
  | value v w' hv => exact hn _ _ (res_put h hv)
  | skip w' hv => exact hn _ _ (res_put h hv)
  | enter f args w' hc =>
    refine Calls.mono hc fun e w'' he => ?_
    obtain ⟨v, rfl, hv⟩ := he
    exact hn _ _ (res_put h hv)

theorem yielded_of {ops : Array Oper} {j t : Nat} (hj : gslot ops.toList j = some t) (tmps : Array Value) : yielded ops tmps j = match tmps[t]? with
    | some (.bool b) => some b
    | _ => none := by
  unfold gslot at hj
  unfold yielded
  rw [Array.getElem?_toList] at hj
  cases ho : ops[j]? with
  | none => rw [ho] at hj; cases hj
  | some o =>
    rw [ho] at hj
    simp only at hj
    simp only [Option.bind_some, hj]
    rfl

theorem exStep_wp (hT : TabOK P T) {ops : Array Oper} {o : Oper} {K : Fr → Heap → Option R} (hr : exStep P T ops.toList o fr H K = some x) (h : Rel w β F H fr a)
    {next : Act → World → Prop} {Q : Exit → Act → World → Prop} (hn : ∀ a' w', After (en w β F H) F x K a' w' → next a' w') :
    if Region.wanted o (yielded ops a.tmps) = true then o.wp P a w next Q ∨ (o.asks P a w ∧ LetsOut Q) else next (a.put o.dst undef) w := by
  unfold exStep at hr
  split at hr
  · rename_i hg
    have : Region.wanted o (yielded ops a.tmps) = true := by simp [Region.wanted, hg]
    rw [if_pos this]
    exact .inl (exOp_wp hT hr h hn)
  · rename_i j want hg
    split at hr
    · rename_i t ht
      have hs := h.slots t
      split at hr
      · rename_i b hb
        rw [hb] at hs
        have hs : a.tmps.getD t undef = .bool b := hs
        have ht' : a.tmps[t]? = some (.bool b) := by
          rw [Array.getD_eq_getD_getElem?] at hs
          cases he : a.tmps[t]? with
          | none => rw [he] at hs; cases hs
          | some v => rw [he] at hs; simp at hs; rw [hs]
        have hw : Region.wanted o (yielded ops a.tmps) = asks want b := by
          simp only [Region.wanted, hg, yielded_of ht, ht']
          cases b <;> cases want <;> rfl
        rw [hw]
        cases hc : asks want b with
        | true =>
          rw [hc] at hr
          simp only [br, setF_eq] at hr
          have hbw : b = want := by cases b <;> cases want <;> first | rfl | (cases hc)
          subst hbw
          rw [if_pos rfl]
          have h' : Rel w β F H (fr.set t (.sv (.v (.bool b)))) a := h.known (by rw [hs]; rfl)
          exact .inl (exOp_wp hT hr h' hn)
        | false =>
          rw [hc] at hr
          simp only [br, setF_eq, putF_set] at hr
          have hbw : b = !want := by cases b <;> cases want <;> first | rfl | (cases hc)
          subst hbw
          rw [if_neg (by simp)]
          have h' : Rel w β F H (fr.set t (.sv (.v (.bool (!want))))) a := h.known (by rw [hs]; rfl)
          exact hn _ _ ⟨_, H, β, h'.put h.ok (Ext.refl _) o.dst undef_tup, Ext.refl _, hr⟩
      · rename_i l hl
        rw [hl] at hs
        obtain ⟨vs, hs, _⟩ := hs
        have ht' : ∀ b, a.tmps[t]? ≠ some (.bool b) := fun b he => by
          rw [Array.getD_eq_getD_getElem?, he] at hs
          cases hs
        have hw : Region.wanted o (yielded ops a.tmps) = false := by
          have hm : (match a.tmps[t]? with
            | some (.bool b) => some b
            | _ => none) = none := by
            split
            · rename_i b hb; exact absurd hb (ht' b)
            · rfl
          simp only [Region.wanted, hg, yielded_of ht]
          rw [show (none == some want) = false from rfl] <;> rfl
        rw [hw, if_neg (by simp)]
        rw [putF_set] at hr
        exact hn _ _ ⟨_, H, β, h.put h.ok (Ext.refl _) o.dst undef_tup, Ext.refl _, hr⟩
      · cases hr
    · cases hr

theorem exOps_wp (hT : TabOK P T) {ops : Array Oper} {Q : Exit → Act → World → Prop} {e0 : En} {K : Fr → Heap → Option R} (hQ : ∀ a' w', After e0 F x K a' w' → Q .normal a' w') :
    ∀ (n k : Nat) {w : World} {β : Nat → Loc} {H : Heap} {fr : Fr} {a : Act}, k + n = ops.size → exOps P T ops.toList (ops.toList.drop k) fr H K = some x → Rel w β F H fr a → Ext e0 (en w β F H) →
    wpOps P ops Q (List.range' k n) a w
  | 0, k, w, β, H, fr, a, hk, hr, h, hx => by
    have : ops.toList.drop k = [] := by rw [List.drop_eq_nil_iff]; simp; omega
    rw [this] at hr
    exact hQ a w ⟨fr, H, β, h, hx, hr⟩
  | n + 1, k, w, β, H, fr, a, hk, hr, h, hx => by
    have hkl : k < ops.toList.length := by simp; omega
    rw [List.drop_eq_getElem_cons hkl] at hr
    have ho : ops[k]? = some ops.toList[k] := by simp
    rw [List.range'_succ]
    simp only [wpOps, ho]
    have := exStep_wp (Q := Q) (next := wpOps P ops Q (List.range' (k + 1) n)) hT hr h fun a' w' => by
      rintro ⟨fr', H', β', h1, h2, h3⟩
      exact exOps_wp hT hQ n (k + 1) (by omega) h3 h1 (hx.trans h2)
    exact this

end
end Go.Gx
