/-
  Gx, part W: code: the rule for each form; a function's body.
-/
import Derived.Test.YteagdmkedffplaaGxV
namespace Go.Gx
section
variable {R : Type} {P : Program} {T : Table} {w : World} {β : Nat → Loc} {F : Nat → Prop} {H : Heap} {fr : Fr} {a : Act} {x : R}

theorem pinRefs_mem {H : Heap} : ∀ {rs : List Nat} {r q : Nat}, r ∈ rs → q ∈ objRefs (H.getD r .dead) → q ∈ pinRefs H rs
  | p :: rs, r, q, hr, hq => by
    simp only [pinRefs, List.mem_append]
    rcases List.mem_cons.1 hr with rfl | hr
    · exact .inl hq
    · exact .inr (pinRefs_mem hr hq)

theorem pinRefs_lt (ok : HeapOk w β F H) : ∀ {rs : List Nat}, ∀ q ∈ pinRefs H rs, q < H.length
  | p :: rs, q, hq => by
    simp only [pinRefs, List.mem_append] at hq
    rcases hq with hq | hq
    · exact getD_refs_lt ok p q hq
    · exact pinRefs_lt ok q hq

/-- a heap's part, of which the first ones stay -/
theorem pin_part (ok : HeapOk w β F H) {e0 : En} (hE : Ext e0 (en w β F H)) {todo rs : List Nat} (h : reach H fuelR (pinRefs H (List.range e0.n) ++ todo) (List.range e0.n) = some rs) (ht : ∀ q ∈ todo, q < H.length) :
    HeapOk w (partβ β rs) F (part H rs) ∧ Ext e0 (en w (partβ β rs) F (part H rs)) ∧ Ren (idx rs) (· ∈ rs) (en w β F H) (en w (partβ β rs) F (part H rs)) ∧ (∀ q ∈ todo, q ∈ rs) := by
  have hn : e0.n ≤ H.length := hE.n
  obtain ⟨⟨t, h1⟩, h2, h3, h4, h5⟩ := reach_spec ok _ _ _ _ h (fun r hr q hq => .inr (List.mem_append_left _ (pinRefs_mem hr hq))) List.nodup_range
    (fun r hr => by have := List.mem_range.1 hr; omega) (fun q hq => by
      rcases List.mem_append.1 hq with hq | hq
      · exact pinRefs_lt ok q hq
      · exact ht q hq)
  have hF : ∀ b, F b → F b ∨ ∃ r o, r ∉ rs ∧ H[r]? = some o ∧ owns (β r) o ∧ (β r).b = b := fun b hb => .inl hb
  have ok' := part_ok ok h5 h4 h3 hF
  have ren := part_ren (w := w) (β := β) (F := F) h5 hF
  have hget : ∀ r, r < e0.n → rs[r]? = some r := fun r hr => by
    rw [h1, List.getElem?_append_left (by simpa using hr)]
    simp [hr]
  refine ⟨ok', ?_, ren, fun q hq => h2 q (List.mem_append_right _ hq)⟩
  exact {
    n := by
      show e0.n ≤ (part H rs).length
      simp [part, h1]
    β := fun r hr => by
      rw [← hE.β r hr]
      simp [en, partβ, List.getD, hget r hr]
    size := hE.size
    kept := hE.kept
    sub := fun b hb ho => by
      obtain ⟨r, _, o, k1, k2, k3⟩ := part_own h5 ho
      exact hE.sub b hb ⟨r, o, k1, k2, k3⟩
    F := hE.F
    sz := fun r m hr hv => hE.sz r m hr (by
      have hm := List.mem_of_getElem? (hget r hr)
      have : idx rs r = r := get_unique h4 (idx_lt hm).2 (hget r hr)
      have := ren.sz r m hm
      rw [‹idx rs r = r›] at this
      exact this hv)
    grow := hE.grow
    out := hE.out
    froz := hE.froz }

theorem unkeep_get : ∀ (ts : List Nat) (xs : List Slot) (fr : Fr) (t : Nat), (unkeep ts xs fr).getD t .undef = fr.getD t .undef ∨ ∃ i : Nat, (ts[i]? = some t ∧ xs[i]? = some ((unkeep ts xs fr).getD t .undef)) ∨ (unkeep ts xs fr).getD t .undef = .undef
  | [], _, fr, t => .inl rfl
  | _ :: _, [], fr, t => .inl rfl
  | q :: ts, y :: xs, fr, t => by
    simp only [unkeep]
    rcases unkeep_get ts xs (fr.set q y) t with h | ⟨i, h | h⟩
    · by_cases e : t = q
      · subst e
        by_cases hq : t < fr.length
        · refine .inr ⟨0, .inl ⟨rfl, ?_⟩⟩
          rw [h]
          simp [List.getD, List.getElem?_set_self hq]
        · refine .inr ⟨0, .inr ?_⟩
          rw [h, List.getD_eq_getElem?_getD, List.getElem?_eq_none (by simp; omega)]
          rfl
      · left
        rw [h]
        simp [List.getD, List.getElem?_set_ne (Ne.symm e)]
    · exact .inr ⟨i + 1, .inl ⟨by simpa using h.1, by simpa using h.2⟩⟩
    · exact .inr ⟨i, .inr h⟩

theorem unkeep_len : ∀ (ts : List Nat) (xs : List Slot) (fr : Fr), (unkeep ts xs fr).length = fr.length
  | [], _, _ => rfl
  | _ :: _, [], _ => rfl
  | q :: ts, y :: xs, fr => by simp only [unkeep]; rw [unkeep_len ts xs]; simp

theorem slotsRefs_mem : ∀ {l : List Slot} {s : Slot} {r : Nat}, s ∈ l → r ∈ slotRefs s → r ∈ slotsRefs l
  | y :: l, s, r, hs, hr => by
    simp only [slotsRefs, List.mem_append]
    rcases List.mem_cons.1 hs with rfl | hs
    · exact .inl hr
    · exact .inr (slotsRefs_mem hs hr)

theorem slotsRefs_lt {n : Nat} : ∀ {l : List Slot}, (∀ s ∈ l, ∀ r ∈ slotRefs s, r < n) → ∀ r ∈ slotsRefs l, r < n
  | y :: l, h, r, hr => by
    simp only [slotsRefs, List.mem_append] at hr
    rcases hr with hr | hr
    · exact h y (by simp) r hr
    · exact slotsRefs_lt (fun s hs => h s (List.mem_cons_of_mem _ hs)) r hr

theorem tidy_ok {n : Nat} {pl : Plan} {sl : List Slot} {vs : Nat → Value} {K : List Slot → Heap → Option R} {e0 : En} (h : tidy n pl sl H K = some x) (ok : HeapOk w β F H) (hE : Ext e0 (en w β F H))
    (hs : ∀ j s, sl[j]? = some s → RepSlot (en w β F H) s (vs j)) :
    ∃ sl' H' β', HeapOk w β' F H' ∧ Ext e0 (en w β' F H') ∧ sl'.length = sl.length ∧ (∀ j s, sl'[j]? = some s → RepSlot (en w β' F H') s (vs j)) ∧ K sl' H' = some x := by
  unfold tidy at h
  split at h
  · rename_i rs hrs
    rw [fNats_eq, fNats_eq] at h
    obtain ⟨sl', H1, β1, k1, ok1, hx1, hl1, hs1⟩ := rebSlots_ok ok h hs
    obtain ⟨H2, β2, k2, ok2, hx2⟩ := rebObjs_ok ok1 k1
    rw [fFr_eq, fH_eq] at k2
    exact ⟨sl', H2, β2, ok2, hE.trans (hx1.trans hx2), hl1, fun j s hj => RepSlot.mono hx2 _ _ (hs1 j s hj), k2⟩
  · cases h

theorem normO_same {o : Obj} (h : ∀ s n l, o = .cells [.row s n l] → l.length = n) : normO o = o := by
  unfold normO
  split
  · rename_i s n l
    rw [h s n l rfl]
  · rfl

theorem normH_same {ws : List Nat} : ∀ {G : Heap} (i : Nat), (∀ o ∈ G, ∀ s n l, o = .cells [.row s n l] → l.length = n) → normH ws i G = G
  | [], _, _ => rfl
  | o :: r, i, h => by
    have h1 := normO_same (h o (by simp))
    have h2 := normH_same (ws := ws) (G := r) (i + 1) fun p hp => h p (List.mem_cons_of_mem _ hp)
    simp only [normH, h1, h2]
    cases ws.contains i <;> rfl

theorem rows_good (ok : HeapOk w β F H) : ∀ o ∈ H, ∀ s n l, o = .cells [.row s n l] → l.length = n := fun o ho s n l e => by
  subst e
  obtain ⟨r, hr⟩ := List.mem_iff_getElem?.1 ho
  obtain ⟨vs, ⟨hn, _⟩, _⟩ := ok.obj r _ hr
  exact hn

theorem seeSlots_ok {n : Nat} {rows : List Nat} {sl : List Slot} {vs : Nat → Value} {K : List Slot → Heap → Option R} {e0 : En} (h : seeSlots n rows sl H K = some x) (ok : HeapOk w β F H) (hE : Ext e0 (en w β F H)) (hp : e0.n = n)
    (hs : ∀ j s, sl[j]? = some s → RepSlot (en w β F H) s (vs j)) :
    ∃ sl' G β', HeapOk w β' F G ∧ Ext e0 (en w β' F G) ∧ sl'.length = sl.length ∧ (∀ j s, sl'[j]? = some s → RepSlot (en w β' F G) s (vs j)) ∧ K sl' G = some x := by
  unfold seeSlots at h
  split at h
  · rename_i rs hrs
    rw [← hp] at hrs
    have hlt : ∀ s ∈ sl, ∀ r ∈ slotRefs s, r < H.length := fun s hm r hr => by
      obtain ⟨j, hj⟩ := List.mem_iff_getElem?.1 hm
      exact slotRefs_lt (hs j s hj) r hr
    obtain ⟨ok', hE', ren, hm⟩ := pin_part ok hE hrs (slotsRefs_lt hlt)
    rw [fNats_eq, fFr_eq, fH_eq, fNats_eq, fH_eq] at h
    have hG : normH (rows ++ (wlSlots (sl.map (mapSlot (idx rs))) ++ wlHeap (part H rs))) 0 (part H rs) = part H rs := normH_same 0 (rows_good ok')
    have h : K (sl.map (mapSlot (idx rs))) (normH (rows ++ (wlSlots (sl.map (mapSlot (idx rs))) ++ wlHeap (part H rs))) 0 (part H rs)) = some x := h
    rw [hG] at h
    refine ⟨_, _, _, ok', hE', by simp, fun j s hj => ?_, h⟩
    rw [List.getElem?_map] at hj
    cases hq : sl[j]? with
    | none => rw [hq] at hj; cases hj
    | some q =>
      rw [hq] at hj
      cases hj
      exact ren.slot (fun r hr => hm r (slotsRefs_mem (List.mem_of_getElem? hq) hr)) (hs j q hq)
  · cases h

theorem view_ok {C : Ctx} {keep : List Nat} {pl : Plan} {K : List Slot → Heap → Option R} {e0 : En} (h : view C keep pl fr H K = some x) (hR : Rel w β F H fr a) (hE : Ext e0 (en w β F H)) (hp : e0.n = C.pins) :
    ∃ sl G β', Rel w β' F G (ofView C keep sl) a ∧ Ext e0 (en w β' F G) ∧ K sl G = some x := by
  unfold view at h
  obtain ⟨hsz, h⟩ := bif_none h
  obtain ⟨sl1, H1, β1, ok1, hE1, hl1, hs1, k1⟩ := tidy_ok (vs := fun j => a.tmps.getD (keep.getD j 0) undef) h hR.ok hE fun j s hj => by
    rw [List.getElem?_map] at hj
    cases hq : keep[j]? with
    | none => rw [hq] at hj; cases hj
    | some t =>
      rw [hq] at hj
      cases hj
      have : keep.getD j 0 = t := by simp [List.getD, hq]
      simp only [this]
      exact hR.slots t
  obtain ⟨sl2, G, β2, ok2, hE2, hl2, hs2, k2⟩ := seeSlots_ok k1 ok1 hE1 hp hs1
  refine ⟨sl2, G, β2, ⟨ok2, hR.defers, ?_, fun t => ?_⟩, hE2, k2⟩
  · unfold ofView
    rw [unkeep_len, List.length_replicate]
    exact Nat.le_trans (Nat.le_of_ble_eq_true hsz) hR.len
  · unfold ofView
    have hr0 : ∀ t, (List.replicate C.size Slot.undef).getD t .undef = .undef := fun t => by
      rw [List.getD_eq_getElem?_getD, List.getElem?_replicate]
      split <;> rfl
    rcases unkeep_get keep sl2 (List.replicate C.size .undef) t with h1 | ⟨i, ⟨h1, h2⟩ | h1⟩
    · rw [h1, hr0]; trivial
    · have := hs2 i _ h2
      have hk : keep.getD i 0 = t := by simp [List.getD, h1]
      simp only [hk] at this
      exact this
    · rw [h1]; trivial

theorem hand_ok {n : Nat} {pl : Plan} {s : Slot} {v : Value} {K : Slot → Heap → Option R} {e0 : En} (h : hand n pl s H K = some x) (ok : HeapOk w β F H) (hE : Ext e0 (en w β F H)) (hp : e0.n = n) (hs : RepSlot (en w β F H) s v) :
    ∃ s' G β', HeapOk w β' F G ∧ Ext e0 (en w β' F G) ∧ RepSlot (en w β' F G) s' v ∧ K s' G = some x := by
  unfold hand at h
  obtain ⟨sl1, H1, β1, ok1, hE1, hl1, hs1, k1⟩ := tidy_ok (vs := fun _ => v) h ok hE fun j q hj => by
    cases j with
    | zero => simp at hj; subst hj; exact hs
    | succ j => simp at hj
  obtain ⟨sl2, G, β2, ok2, hE2, hl2, hs2, k2⟩ := seeSlots_ok k1 ok1 hE1 hp hs1
  split at k2
  · rename_i s'
    exact ⟨s', G, β2, ok2, hE2, hs2 0 s' rfl, k2⟩
  · cases k2

/-! ### results -/
theorem resultsK_ok (hR : Rel w β F H fr a) : ∀ {rs : List ResultVar} {K : List SV → Option R}, resultsK P fr H rs K = some x → ∃ l vs, RepSVs (en w β F H) l vs ∧
    (rs.mapM fun | .tmp t => pure (a.tmps.getD t undef) | .cell q t => do loadVar t (← asAddr (a.tmps.getD q undef)) : Sem (List Value)).run P w = .ok vs w ∧ K l = some x
  | [], K, h => ⟨[], [], rfl, by simp, h⟩
  | .tmp t :: rs, K, h => by
    simp only [resultsK] at h
    split at h
    · rename_i y hy
      obtain ⟨l, vs, h1, h2, h3⟩ := resultsK_ok hR h
      have := hR.slots t
      rw [hy] at this
      exact ⟨y :: l, _ :: vs, ⟨_, vs, rfl, this, h1⟩, by rw [List.mapM_cons]; simp only [Sem.run_bind, Sem.run_pure, Result.andThen_ok, h2], h3⟩
    · cases h
  | .cell q t :: rs, K, h => by
    simp only [resultsK] at h
    split at h
    · rename_i p hp
      split at h
      · rename_i agg n ht
        have hs := hR.slots q
        rw [hp] at hs
        obtain ⟨y, v, h1, h2, h3⟩ := loadAt_ok (P := P) ht h hR.ok hs
        replace h1 := h1 w (Sup.refl w)
        obtain ⟨l, vs, h4, h5, h6⟩ := resultsK_ok hR h3
        have hrun : (do loadVar t (← asAddr (a.tmps.getD q undef)) : Sem Value).run P w = .ok v w := by
          unfold Instr.loadAt at h1
          generalize a.tmps.getD q undef = V at h1
          cases V with
          | pointer A =>
            cases A with
            | some A => simpa [Instr.sureAddr, asAddr] using h1
            | none => simp [Instr.sureAddr] at h1
          | _ => simp [Instr.sureAddr] at h1
        refine ⟨y :: l, v :: vs, ⟨v, vs, rfl, h2, h4⟩, ?_, h6⟩
        rw [List.mapM_cons]
        simp only [Sem.run_bind] at hrun ⊢
        rw [hrun]
        simp only [Result.andThen_ok, Sem.run_pure, h5]
      · cases h
    · cases h

theorem results_ok (hR : Rel w β F H fr a) {fn : Func} {K : List SV → Option R} (h : resultsK P fr H fn.results.toList K = some x) :
    ∃ l v, RepSlot (en w β F H) (resSlot l) v ∧ (results fn a.tmps).run P w = .ok v w ∧ K l = some x := by
  obtain ⟨l, vs, h1, h2, h3⟩ := resultsK_ok hR h
  have hlen : ∀ (vs : List Value), RepSVs (en w β F H) l vs → RepSlot (en w β F H) (resSlot l) (if h : vs.toArray.size = 1 then vs.toArray[0] else .tuple vs.toArray) := by
    intro vs h1
    cases l with
    | nil =>
      obtain rfl : vs = [] := h1
      exact ⟨[], rfl, rfl⟩
    | cons y l =>
      obtain ⟨V, us, rfl, k3, k4⟩ := h1
      cases l with
      | nil =>
        obtain rfl : us = [] := k4
        exact k3
      | cons z l =>
        obtain ⟨V2, us, rfl, k5, k6⟩ := k4
        exact ⟨V :: V2 :: us, by simp, V, _, rfl, k3, V2, us, rfl, k5, k6⟩
  refine ⟨l, _, hlen vs h1, ?_, h3⟩
  unfold results
  simp only [Sem.run_bind]
  rw [Array.mapM_eq_mapM_toList]
  refine (congrArg (fun r => Result.andThen r _) (?_ : _ = Result.ok vs.toArray w)).trans rfl
  rw [Sem.run_map]
  refine (congrArg (fun r => Result.andThen r _) h2).trans ?_
  rfl


/-! ### loops -/
/-- what a loop's entry in the list of loops must keep to -/
def LoopOK (P : Program) (C : Ctx) (b : Code) (L : LSpec) : Prop := ∀ {R : Type} {w : World} {β : Nat → Loc} {F : Nat → Prop} {G : Heap} {a : Act} {sl : List Slot} {K : Exit → List Slot → Heap → Option R} {x : R} {e0 : En},
  Rel w β F G (ofView C L.k.keep sl) a → Ext e0 (en w β F G) → e0.n = C.pins → L.run sl G K = some x →
  (Code.loop b).wp P (fun e a' w' => ∃ sl' G' β', Rel w' β' F G' (ofView C L.k.out sl') a' ∧ Ext e0 (en w' β' F G') ∧ K e sl' G' = some x) a w

/-- what a piece's entry must keep to -/
def CutOK (P : Program) (C : Ctx) (b : Code) (L : LSpec) : Prop := ∀ {R : Type} {w : World} {β : Nat → Loc} {F : Nat → Prop} {G : Heap} {a : Act} {sl : List Slot} {K : Exit → List Slot → Heap → Option R} {x : R} {e0 : En},
  Rel w β F G (ofView C L.k.keep sl) a → Ext e0 (en w β F G) → e0.n = C.pins → L.run sl G K = some x →
  b.wp P (fun e a' w' => ∃ sl' G' β', Rel w' β' F G' (ofView C L.k.out sl') a' ∧ Ext e0 (en w' β' F G') ∧ K e sl' G' = some x) a w

/-- all loops of some code, numbered from n on -/
def LoopsOK (P : Program) (C : Ctx) : Code → Nat → Prop
  | .seq a b, n => CutOK P C b (C.loop n) ∧ LoopsOK P C a (n + 1) ∧ LoopsOK P C b (n + 1 + loops a)
  | .cond _ a b, n => LoopsOK P C a n ∧ LoopsOK P C b (n + loops a)
  | .block _ b, n => LoopsOK P C b n
  | .loop b, n => LoopOK P C b (C.loop n)
  | _, _ => True

theorem exCode_wp (hT : TabOK P T) {C : Ctx} {e0 : En} (hp : e0.n = C.pins) : ∀ (c : Code) (n : Nat) {w : World} {β : Nat → Loc} {H : Heap} {fr : Fr} {a : Act} {K : Exit → Fr → Heap → Option R}, LoopsOK P C c n →
    exCode P T C c n fr H K = some x → Rel w β F H fr a → Ext e0 (en w β F H) → c.wp P (fun e a' w' => After e0 F x (K e) a' w') a w := by
  intro c
  induction c with
  | skip => intro n w β H fr a K _ h hR hE; exact wp_skip ⟨fr, H, β, hR, hE, h⟩
  | label l => intro n w β H fr a K _ h hR hE; exact wp_label ⟨fr, H, β, hR, hE, h⟩
  | exit i => intro n w β H fr a K _ h hR hE; exact wp_exit ⟨fr, H, β, hR, hE, h⟩
  | ret => intro n w β H fr a K _ h hR hE; exact wp_ret ⟨fr, H, β, hR, hE, h⟩
  | region id ops d =>
    intro n w β H fr a K _ h hR hE
    cases d with
    | false =>
      have h : exOps P T ops.toList ops.toList fr H (K .normal) = some x := h
      refine wp_region ?_
      rw [List.range_eq_range']
      exact exOps_wp hT (fun a' w' h => h) ops.size 0 (by omega) (by simpa using h) hR hE
    | true =>
      have h : (bif P.follows .mixedOrders then match befTbl ops.toList (eager ops.toList ops.size []) [] [] with
        | some tbl => exDraw P T ops.toList tbl (eager ops.toList ops.size []) [] fr H (K .normal)
        | none => none
      else none) = some x := h
      obtain ⟨hm, h⟩ := bif_none h
      split at h
      · rename_i tbl hb
        exact exDraw_wp hT hm hb (fun a' w' h => h) h hR hE
      · cases h
  | seq c d ihc ihd =>
    intro n w β H fr a K hL h hR hE
    refine wp_seq (wp_mono (ihc (n + 1) hL.2.1 h hR hE) fun e a' w' => ?_)
    rintro ⟨fr', H', β', h1, h2, h3⟩
    cases e with
    | normal =>
      have h3 : (match (C.loop n).k.cut with
        | true => view C (C.loop n).k.keep (C.loop n).k.pk fr' H' fun sl G => (C.loop n).run sl G fun e sl G => fH G fun G => fFr (ofView C (C.loop n).k.out sl) fun fr => K e fr G
        | false => exCode P T C d (n + 1 + loops c) fr' H' K) = some x := h3
      split at h3
      · obtain ⟨sl, G, β2, q1, q2, q3⟩ := view_ok h3 h1 h2 hp
        refine wp_mono (hL.1 q1 q2 hp q3) fun e a' w' => ?_
        rintro ⟨sl', G', β3, r1, r2, r3⟩
        rw [fH_eq, fFr_eq] at r3
        exact ⟨_, G', β3, r1, r2, r3⟩
      · exact ihd _ hL.2.2 h3 h1 h2
    | exit i => exact ⟨fr', H', β', h1, h2, h3⟩
    | goto l => exact ⟨fr', H', β', h1, h2, h3⟩
    | ret => exact ⟨fr', H', β', h1, h2, h3⟩
    | panic ch => exact ⟨fr', H', β', h1, h2, h3⟩
    | outgrown => exact ⟨fr', H', β', h1, h2, h3⟩
  | cond o c d ihc ihd =>
    intro n w β H fr a K hL h hR hE
    simp only [exCode] at h
    split at h
    · rename_i t
      have hs := hR.slots t
      split at h
      · rename_i b hb
        rw [hb] at hs
        have hs : a.tmps.getD t undef = .bool b := hs
        simp only [setF_eq] at h
        rcases br_some h with ⟨hbt, h⟩ | ⟨hbf, h⟩
        · subst hbt
          exact wp_cond_true hs (ihc n hL.1 h (hR.known (s := .sv (.v (.bool true))) (by rw [hs]; rfl)) hE)
        · subst hbf
          exact wp_cond_false hs (ihd _ hL.2 h (hR.known (s := .sv (.v (.bool false))) (by rw [hs]; rfl)) hE)
      · cases h
    · exact wp_cond_true rfl (ihc n hL.1 h hR hE)
    · exact wp_cond_false rfl (ihd _ hL.2 h hR hE)
    · cases h
  | block id b ih =>
    intro n w β H fr a K hL h hR hE
    refine wp_block (wp_mono (ih n hL h hR hE) fun e a' w' => ?_)
    rintro ⟨fr', H', β', h1, h2, h3⟩
    cases e with
    | exit i =>
      simp only [Exit.inBlock]
      cases hb : Nat.beq i id with
      | true =>
        have h3 : (bif Nat.beq i id then K .normal fr' H' else K (.exit i) fr' H') = some x := h3
        rw [hb] at h3
        rw [if_pos (Nat.eq_of_beq_eq_true hb)]
        exact ⟨fr', H', β', h1, h2, h3⟩
      | false =>
        have h3 : (bif Nat.beq i id then K .normal fr' H' else K (.exit i) fr' H') = some x := h3
        rw [hb] at h3
        rw [if_neg (fun e => by subst e; simp at hb)]
        exact ⟨fr', H', β', h1, h2, h3⟩
    | normal => exact ⟨fr', H', β', h1, h2, h3⟩
    | goto l => exact ⟨fr', H', β', h1, h2, h3⟩
    | ret => exact ⟨fr', H', β', h1, h2, h3⟩
    | panic ch => exact ⟨fr', H', β', h1, h2, h3⟩
    | outgrown => exact ⟨fr', H', β', h1, h2, h3⟩
  | loop b ih =>
    intro n w β H fr a K hL h hR hE
    have h : view C (C.loop n).k.keep (C.loop n).k.pk fr H (fun sl G => (C.loop n).run sl G fun e sl G => fH G fun G => fFr (ofView C (C.loop n).k.out sl) fun fr => K e fr G) = some x := h
    obtain ⟨sl, G, β', h1, h2, h3⟩ := view_ok h hR hE hp
    refine wp_mono (hL h1 h2 hp h3) fun e a' w' => ?_
    rintro ⟨sl', G', β2, q1, q2, q3⟩
    rw [fH_eq, fFr_eq] at q3
    exact ⟨_, G', β2, q1, q2, q3⟩
  | _ => intro n w β H fr a K _ h; cases h

theorem least {p : Nat → Prop} (h : ∃ m, p m) : ∃ m, p m ∧ ∀ k, p k → m ≤ k := by
  obtain ⟨m, hm⟩ := h
  induction m using Nat.strongRecOn with
  | _ m ih =>
    by_cases h : ∃ k, k < m ∧ p k
    · obtain ⟨k, h1, h2⟩ := h
      exact ih k h1 h2
    · exact ⟨m, hm, fun k hk => Nat.le_of_not_lt fun hlt => h ⟨k, hlt, hk⟩⟩

/-! ### a function's body -/
theorem RepSVs.length {e : En} : ∀ {l : List SV} {vs : List Value}, RepSVs e l vs → vs.length = l.length
  | [], _, h => by rw [show _ = [] from h]; rfl
  | _ :: l, _, ⟨_, _, e1, _, h⟩ => by rw [e1]; simp [h.length]

theorem RepSVs.slots {e : En} : ∀ {l : List SV} {vs : List Value}, RepSVs e l vs → ∀ (t k : Nat), RepSlot e (((l.map Slot.sv) ++ List.replicate k Slot.undef).getD t Slot.undef) ((vs.toArray ++ Array.replicate k undef).getD t undef)
  | [], _, h, t, k => by
    rw [show _ = [] from h]
    have : (([] : List SV).map Slot.sv ++ List.replicate k Slot.undef).getD t .undef = .undef := by
      simp only [List.map_nil, List.nil_append]
      rw [List.getD_eq_getElem?_getD, List.getElem?_replicate]
      split <;> rfl
    rw [this]
    trivial
  | y :: l, _, ⟨V, vs, e1, h1, h2⟩, 0, k => by
    subst e1
    have e2 : ((V :: vs).toArray ++ Array.replicate k undef).getD 0 undef = V := by
      rw [Array.getD_eq_getD_getElem?, ← Array.getElem?_toList]
      simp
    rw [e2]
    exact h1
  | y :: l, _, ⟨V, vs, e1, h1, h2⟩, t + 1, k => by
    subst e1
    have := h2.slots t k
    simp only [Array.getD_eq_getD_getElem?, List.map_cons, List.cons_append, List.getD_eq_getElem?_getD, List.getElem?_cons_succ] at this ⊢
    have e2 : ((V :: vs).toArray ++ Array.replicate k undef)[t + 1]? = (vs.toArray ++ Array.replicate k undef)[t]? := by
      rw [← Array.getElem?_toList, ← Array.getElem?_toList]
      simp
    rw [e2]
    exact this

theorem exBody_calls' (hT : TabOK P T) {f : FuncId} {fn : Func} {c : Code} (hf : P.funcs[f]? = some fn) (hb : fn.body = some c) {pl : Plan} {ls : Nat → LSpec} (hL : LoopsOK P ⟨H.length, fn.ntmps, ls, pl.rows⟩ c 0)
    {args : List SV} {vs : List Value} {K : Slot → Heap → Option R} (h : exBody P T fn pl ls args H K = some x) (ok : HeapOk w β F H) (ha : RepSVs (en w β F H) args vs) :
    Calls P f vs.toArray w fun e w' => ∃ v, e = .returned v ∧ Res w β F H x K v w' := by
  unfold exBody at h
  rw [hb] at h
  simp only [fFr_eq] at h
  refine calls_of_wp hf hb ?_
  have hR : Rel w β F H (args.map Slot.sv ++ List.replicate (fn.ntmps - args.length) .undef) { tmps := vs.toArray ++ Array.replicate (fn.ntmps - vs.toArray.size) undef, defers := [] } := by
    refine ⟨ok, rfl, ?_, fun t => ?_⟩
    · simp [ha.length]
    · have : vs.toArray.size = args.length := by simp [ha.length]
      rw [this]
      exact ha.slots t _
  refine wp_mono (exCode_wp hT (C := ⟨H.length, fn.ntmps, ls, pl.rows⟩) (e0 := en w β F H) rfl c 0 hL h hR (Ext.refl _)) fun e a' w' => ?_
  rintro ⟨fr', H', β', h1, h2, h3⟩
  have fin : (resultsK P fr' H' fn.results.toList fun l => hand H.length pl (resSlot l) H' K) = some x →
      a'.defers = [] ∧ ∃ v, (results fn a'.tmps).run P w' = .ok v w' ∧ ∃ v', Ending.returned v = .returned v' ∧ Res w β F H x K v' w' := fun h => by
    obtain ⟨l, v, q1, q2, q3⟩ := results_ok h1 h
    obtain ⟨s, G, β2, r1, r2, r3, r4⟩ := hand_ok q3 h1.ok h2 rfl q1
    exact ⟨h1.defers, v, q2, v, rfl, s, G, β2, r1, r2, r3, r4⟩
  cases e with
  | normal => exact fin h3
  | ret => exact fin h3
  | exit i => cases h3
  | goto l => cases h3
  | panic ch => cases h3
  | outgrown => cases h3

theorem exBody_calls (hT : TabOK P T) {f : FuncId} {fn : Func} {c : Code} (hf : P.funcs[f]? = some fn) (hb : fn.body = some c) {pl : Plan} {ls : Nat → LSpec} (hL : ∀ pins, LoopsOK P ⟨pins, fn.ntmps, ls, pl.rows⟩ c 0)
    {args : List SV} {vs : List Value} {K : Slot → Heap → Option R} (h : exBody P T fn pl ls args H K = some x) (ok : HeapOk w β F H) (ha : RepSVs (en w β F H) args vs) :
    Calls P f vs.toArray w fun e w' => ∃ v, e = .returned v ∧ Res w β F H x K v w' := exBody_calls' hT hf hb (hL _) h ok ha

/-- an entry that a function's body bears out -/
theorem EntOK.of (hT : TabOK P T) {f : FuncId} {fn : Func} {c : Code} (hf : P.funcs[f]? = some fn) (hn : (fn.name == "runtime.NumGoroutine") = false) (hb : fn.body = some c) {pl : Plan} {ls : Nat → LSpec} (hL : ∀ pins, LoopsOK P ⟨pins, fn.ntmps, ls, pl.rows⟩ c 0) {E : Ent}
    (h : ∀ {R : Type} (args : List SV) (G : Heap) (K : Slot → Heap → Option R) (x : R), E.run args G K = some x → exBody P T fn pl ls args G K = some x) : EntOK P f E :=
  ⟨⟨fn, hf, hn, by rw [hb]; rfl⟩, fun ok ha hr => exBody_calls hT hf hb hL (h _ _ _ _ hr) ok ha⟩

end
end Go.Gx
