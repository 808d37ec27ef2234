/-
  Gx, part M: operations on maps.
-/
import Derived.Test.YteagdmkedffplaaGxL
namespace Go.Gx
section
variable {R : Type} {P : Program} {w : World} {β : Nat → Loc} {F : Nat → Prop} {H : Heap} {fr : Fr} {a : Act} {x : R}

theorem cells_one {V : Value} (h : V.oneCell' = true) : V.cells = #[V] := by cases V <;> first | rfl | (simp [Value.oneCell'] at h)

theorem svAgg_rep {e : En} {v : SV} {V : Value} (h : RepSV e v V) (hv : okSV v = true) : RepVal (svAgg v) V.cells.toList V := by
  cases v with
  | agg l => obtain ⟨vs, rfl, _⟩ := h; simp [RepVal, svAgg, Value.cells]
  | v y =>
    have h1 : V.oneCell' = true := RepSc.one h (fun hu => by subst hu; cases hv)
    simp [RepVal, svAgg, cells_one h1]

theorem svCells_ok {v : SV} {cs : List Sc} (h : svCells v = some cs) : okSV v = true := (bif_none h).1

theorem keyOfSV_rep {e : En} {s : Sh} {agg : Bool} {k : SV} {key : s.T} {V : Value} (h : keyOfSV s agg k = some key) (hk : RepSV e k V) : ∃ us, RepT e.w e.av s key us ∧ RepVal agg us V := by
  unfold keyOfSV at h
  obtain ⟨h1, h2⟩ := bif_none h
  clear h
  obtain rfl : svAgg k = agg := by simpa using h1
  split at h2
  · rename_i cs hcs
    exact ⟨_, dec1_rep h2 (svCells_rep hcs hk), svAgg_rep hk (svCells_ok hcs)⟩
  · cases h2

theorem valSh_spec {t : TypeId} {s : Sh} {agg : Bool} (h : valSh P t = some (s, agg)) : ∃ i z, P.info? t = some i ∧ i.zero = some z ∧ (∀ e : En, RepT e.w e.av s s.zero z.cells.toList) ∧ RepVal agg z.cells.toList z := by
  unfold valSh at h
  split at h
  · rename_i s' i hs hi
    obtain ⟨i', z, hi', hz, hr, _⟩ := elemOf_spec hs
    rw [hi] at hi'
    cases hi'
    rw [hz] at h
    refine ⟨i, z, hi, hz, ?_⟩
    cases z <;> simp only at h
    case agg l =>
      obtain ⟨h1, h2⟩ := bif_none h
      cases h2
      exact ⟨hr, rfl⟩
    all_goals
      (cases ha : isAggT P t <;> rw [ha] at h <;> simp at h
       obtain ⟨rfl, rfl⟩ := h
       exact ⟨hr, rfl⟩)
  · cases h

theorem scsSV_rep {e : En} {s : Sh} {agg : Bool} {v : s.T} {us : List Value} {V : Value} (h : RepT e.w e.av s v us) (hV : RepVal agg us V) : RepSV e (scsSV agg (Gx.enc s v)) V := by
  have h1 := RepT.enc (e := e) s v us h
  cases agg with
  | true =>
    obtain rfl : V = .agg us.toArray := hV
    exact ⟨us, rfl, h1.segs⟩
  | false =>
    obtain rfl : us = [V] := hV
    unfold scsSV
    simp only
    cases hc : Gx.enc s v with
    | nil => rw [hc] at h1; cases h1
    | cons c r =>
      rw [hc] at h1
      obtain ⟨V', v', e1, h2, h3, h4⟩ := h1
      cases e1
      cases r with
      | nil => exact h3
      | cons c' r => obtain ⟨_, _, e2, _⟩ := h4; cases e2

theorem obj_map (ok : HeapOk w β F H) {r : Nat} {ks vs : Sh} {ka va : Bool} {l : List (ks.T × vs.T)} (hH : H[r]? = some (.map ks vs ka va l)) :
    ∃ (es : Array MapEntry) (c : Nat), w.heap[(β r).b]? = some (.map es c) ∧ RepEntries (en w β F H) ks vs ka va l es.toList ∧ (∀ y ∈ es.toList, y.born < c) ∧ (es.toList.map (·.born)).Nodup := by
  obtain ⟨es, c, h1, h2, h3, h4⟩ := ok.obj r _ hH
  exact ⟨es, c, h1, h2, h3, h4⟩

theorem exLookup_ok {t : TypeId} {y : Sc} {k : SV} {c : Bool} {V U : Value} {K : Slot → Option R} (h : exLookup P t H y k c K = some x) (ok : HeapOk w β F H) (hy : RepSc (en w β F H) y V) (hk : RepSV (en w β F H) k U) :
    ∃ s v, Stays P (Instr.lookup t V U c) w v ∧ RepSlot (en w β F H) s v ∧ K s = some x := by
  unfold exLookup at h
  split at h
  · rename_i kt vt hd
    split at h
    · rename_i ks ka vs va r hks hvs
      split at h
      · rename_i ks' vs' ka' va' l key hH hkey
        split at h
        · rename_i hh
          obtain ⟨rfl, rfl, rfl, rfl⟩ := hh
          obtain ⟨hr, rfl⟩ := hy
          obtain ⟨es, cl, hb, hes, _⟩ := obj_map ok hH
          obtain ⟨us, hku, hkv⟩ := keyOfSV_rep hkey hk
          obtain ⟨d, hkd, _, hcheck, _⟩ := keySh_spec hks hku hkv hku hkv
          obtain ⟨f, hf, hfound⟩ := findKey_ok hks hku hkv hes
          obtain ⟨i, z, hi, hz, hzr, hzv⟩ := valSh_spec hvs
          have hbl : (en w β F H).β r = β r := rfl
          have hcast : castM (rfl : ks' = ks') (rfl : vs' = vs') l = l := rfl
          have res : ∃ v, Stays P (Instr.lookup t (.map (some (β r).b)) U c) w (if c = true then .tuple #[v, .bool (mfind ks' vs' l key).isSome] else v) ∧
              RepSV (en w β F H) (scsSV va' (Gx.enc vs' ((mfind ks' vs' l key).getD vs'.zero))) v := by
            cases f with
            | none =>
              obtain ⟨h1, _⟩ := hfound
              refine ⟨z, ?_, ?_⟩
              · exact fun w' hw => by simp [Instr.lookup, run_underlying hd, run_getObj' (hw _ _ hb), hcheck, hf, run_zero hi hz, h1]
              · rw [h1]
                exact scsSV_rep (hzr _) hzv
            | some q =>
              obtain ⟨j, V'⟩ := q
              obtain ⟨l1, p, l2, es1, y, es2, e1, e2, e3, e4, e5, e6, e7, e8, e9⟩ := hfound
              refine ⟨V', ?_, ?_⟩
              · exact fun w' hw => by simp [Instr.lookup, run_underlying hd, run_getObj' (hw _ _ hb), hcheck, hf, e7]
              · rw [e7]
                rw [e1, e2] at hes
                obtain ⟨_, y', r', e10, _, ⟨ws, h4, h5⟩, _⟩ := RepEntries.split e4 hes
                cases e10
                rw [← e5]
                exact scsSV_rep h4 h5
          obtain ⟨v, h1, h2⟩ := res
          cases c with
          | true => exact ⟨.tup [_, .v (.bool _)], .tuple #[v, .bool _], h1, ⟨[v, .bool _], rfl, v, [.bool _], rfl, h2, .bool _, [], rfl, rfl, rfl⟩, h⟩
          | false => exact ⟨.sv _, v, h1, h2, h⟩
        · cases h
      · cases h
    · cases h
  · cases h

/-- a map is put in the place of a map -/
theorem map_store (ok : HeapOk w β F H) {r : Nat} {ks vs : Sh} {ka va : Bool} {l l' : List (ks.T × vs.T)} (hH : H[r]? = some (.map ks vs ka va l)) {es' : Array MapEntry} {c' : Nat}
    (hes : RepEntries (en w β F H) ks vs ka va l' es'.toList) (h1 : ∀ y ∈ es'.toList, y.born < c') (h2 : (es'.toList.map (·.born)).Nodup) :
    HeapOk (setB w (β r).b (.map es' c')) β F (H.set r (.map ks vs ka va l')) ∧ Ext (en w β F H) (en (setB w (β r).b (.map es' c')) β F (H.set r (.map ks vs ka va l'))) := by
  obtain ⟨es, c, hb, _⟩ := obj_map ok hH
  have hx : Ext (en w β F H) (en (setB w (β r).b (.map es' c')) β F (H.set r (.map ks vs ka va l'))) :=
    ext_set hH trivial (fun m h => by simp [szO] at h) size_setB (fun b hb' => heap_setB_other hb') ⟨rfl, rfl⟩ (fun c t f h => by rw [heap_setB_same (lt_of_heap hb)] at h; cases h) fun c t f h => by rw [hb] at h; cases h
  exact ⟨ok_set ok hH trivial size_setB (fun b hb' => heap_setB_other hb') hx ⟨es', c', heap_setB_same (lt_of_heap hb), hes.mono hx, h1, h2⟩, hx⟩

theorem modify_mid {α : Type} : ∀ (l1 : List α) (y : α) (l2 : List α) (f : α → α), (l1 ++ y :: l2).modify l1.length f = l1 ++ f y :: l2
  | [], _, _, _ => by simp
  | _ :: l1, y, l2, f => by simp [modify_mid l1 y l2 f]

theorem exMapUpdate_ok {t : TypeId} {y : Sc} {k v : SV} {V U W : Value} {K : Heap → Option R} (h : exMapUpdate P t H y k v K = some x) (ok : HeapOk w β F H) (hy : RepSc (en w β F H) y V) (hk : RepSV (en w β F H) k U) (hv : RepSV (en w β F H) v W) :
    ∃ w' H', (Instr.mapUpdate t V U W).run P w = .ok () w' ∧ HeapOk w' β F H' ∧ Ext (en w β F H) (en w' β F H') ∧ K H' = some x := by
  unfold exMapUpdate at h
  split at h
  · rename_i kt vt hd
    split at h
    · rename_i ks ka vs va r hks hvs
      split at h
      · rename_i cs hcs
        obtain ⟨hva, h1⟩ := bif_none h
        clear h
        obtain rfl : svAgg v = va := by simpa using hva
        obtain ⟨cs', H1, h2, ok1, hx1, hcs1⟩ := freezeL_ok ok h1 (svCells_rep hcs hv)
        have hWv := svAgg_rep hv (svCells_ok hcs)
        clear h1
        split at h2
        · rename_i ks' vs' ka' va' l key val hH hkey hval
          split at h2
          · rename_i hh
            obtain ⟨rfl, rfl, rfl, rfl⟩ := hh
            obtain ⟨hr, rfl⟩ := hy
            obtain ⟨es, cl, hb, hes, hborn, hnd⟩ := obj_map ok1 hH
            obtain ⟨us, hku, hkv⟩ := keyOfSV_rep hkey (RepSV.mono hx1 _ _ hk)
            obtain ⟨d, hkd, _, hcheck, _, hbits, _⟩ := keySh_spec hks hku hkv hku hkv
            obtain ⟨f, hf, hfound⟩ := findKey_ok hks hku hkv hes
            have hval' := dec1_rep hval hcs1
            have hcast : castM (rfl : ks' = ks') (rfl : vs' = vs') l = l := rfl
            rw [hcast] at h2
            cases f with
            | none =>
              obtain ⟨_, h4, _⟩ := hfound
              obtain ⟨q1, q2⟩ := map_store (l' := mput ks' vs' l key val) ok1 hH (es' := es.push { key := U, val := W, born := cl }) (c' := cl + 1) (by
                  rw [h4, Array.toList_push]
                  exact hes.append ⟨_, [], rfl, ⟨us, hku, hkv⟩, ⟨_, hval', hWv⟩, rfl⟩)
                (fun y hy => by
                  rw [Array.toList_push] at hy
                  rcases List.mem_append.1 hy with hy | hy
                  · have := hborn y hy; omega
                  · rw [List.mem_singleton.1 hy]; exact Nat.lt_succ_self _)
                (by
                  rw [Array.toList_push, List.map_append, List.nodup_append]
                  refine ⟨hnd, by simp, fun b hb' c hc => ?_⟩
                  obtain ⟨y, hy, rfl⟩ := List.mem_map.1 hb'
                  simp at hc
                  subst hc
                  have := hborn y hy
                  omega)
              refine ⟨_, _, ?_, q1, hx1.trans q2, h2⟩
              have hbl : (en w β F H).β r = β r := rfl
              simp [Instr.mapUpdate, run_underlying hd, run_getObj' hb, hcheck, hf, run_setObj' hb, hbl]
            | some q =>
              obtain ⟨j, V'⟩ := q
              obtain ⟨l1, p, l2, es1, y, es2, e1, e2, e3, e4, e5, e6, e7, e8, e9⟩ := hfound
              have hj : j = es1.length := by omega
              have hmod : (es.modify j fun e => { e with key := U, val := W }).toList = es1 ++ { y with key := U, val := W } :: es2 := by
                rw [Array.toList_modify, e2, hj]
                exact modify_mid es1 y es2 _
              have hes' := hes
              rw [e1, e2] at hes'
              obtain ⟨s1, y', r', e10, _, _, s2⟩ := RepEntries.split e4 hes'
              cases e10
              obtain ⟨q1, q2⟩ := map_store (l' := mput ks' vs' l key val) ok1 hH (es' := es.modify j fun e => { e with key := U, val := W }) (c' := cl) (by
                  rw [e8, hmod]
                  exact s1.append ⟨_, es2, rfl, ⟨us, hku, hkv⟩, ⟨_, hval', hWv⟩, s2⟩)
                (fun z hz => by
                  rw [hmod] at hz
                  rw [e2] at hborn
                  rcases List.mem_append.1 hz with hz | hz
                  · exact hborn z (List.mem_append_left _ hz)
                  · rcases List.mem_cons.1 hz with rfl | hz
                    · exact hborn y (by simp)
                    · exact hborn z (by simp [hz]))
                (by
                  rw [hmod]
                  rw [e2] at hnd
                  simpa using hnd)
              refine ⟨_, _, ?_, q1, hx1.trans q2, h2⟩
              have hbl : (en w β F H).β r = β r := rfl
              have hold : ((es[j]?).map (·.key)).getD U = U := by
                have : es[j]? = some y := by
                  rw [← Array.getElem?_toList, e2, hj]
                  simp
                rw [this]
                exact e6
              simp only [Instr.mapUpdate, Sem.run_bind, run_underlying hd, run_getObj' hb, hcheck, hf, Result.andThen_ok, hbl, hold]
              simp [Instr.keyThatStays, hbits, run_setObj' hb]
          · cases h2
        · cases h2
      · cases h
    · cases h
  · cases h

theorem exDelete_ok {t ty : TypeId} {ts : Array TypeId} (hts : ts[0]? = some t) {y : Sc} {k : SV} {V U : Value} {K : Heap → Option R} (h : exDelete P t H y k K = some x) (ok : HeapOk w β F H) (hy : RepSc (en w β F H) y V) (hk : RepSV (en w β F H) k U) :
    ∃ w' H', (Builtin.delete_ ts ty #[V, U]).run P w = .ok (.tuple #[]) w' ∧ HeapOk w' β F H' ∧ Ext (en w β F H) (en w' β F H') ∧ K H' = some x := by
  unfold exDelete at h
  split at h
  · rename_i kt vt hd
    split at h
    · rename_i ks ka vs va r hks hvs
      split at h
      · rename_i ks' vs' ka' va' l key hH hkey
        split at h
        · rename_i hh
          obtain ⟨rfl, rfl, rfl, rfl⟩ := hh
          obtain ⟨hr, rfl⟩ := hy
          obtain ⟨es, cl, hb, hes, hborn, hnd⟩ := obj_map ok hH
          obtain ⟨us, hku, hkv⟩ := keyOfSV_rep hkey hk
          obtain ⟨d, hkd, _, hcheck, _, hbits, _⟩ := keySh_spec hks hku hkv hku hkv
          obtain ⟨f, hf, hfound⟩ := findKey_ok hks hku hkv hes
          have hcast : castM (rfl : ks' = ks') (rfl : vs' = vs') l = l := rfl
          rw [hcast] at h
          have hbl : (en w β F H).β r = β r := rfl
          cases f with
          | none =>
            obtain ⟨_, _, h5⟩ := hfound
            obtain ⟨q1, q2⟩ := map_store (l' := mdel ks' vs' l key) ok hH (es' := es) (c' := cl) (by rw [h5]; exact hes) hborn hnd
            refine ⟨_, _, ?_, q1, q2, h⟩
            simp [Builtin.delete_, hts, run_underlying hd, run_getObj' hb, hcheck, hf, run_setObj' hb, hbl]
          | some q =>
            obtain ⟨j, V'⟩ := q
            obtain ⟨l1, p, l2, es1, y, es2, e1, e2, e3, e4, e5, e6, e7, e8, e9⟩ := hfound
            have hj : j = es1.length := by omega
            have hmod : (es.eraseIdxIfInBounds j).toList = es1 ++ es2 := by
              rw [Array.toList_eraseIdxIfInBounds, e2, hj]
              simp [List.eraseIdx_append_of_length_le]
            have hes' := hes
            rw [e1, e2] at hes'
            obtain ⟨s1, y', r', e10, _, _, s2⟩ := RepEntries.split e4 hes'
            cases e10
            obtain ⟨q1, q2⟩ := map_store (l' := mdel ks' vs' l key) ok hH (es' := es.eraseIdxIfInBounds j) (c' := cl) (by rw [e9, hmod]; exact s1.append s2)
              (fun z hz => by
                rw [hmod] at hz
                rw [e2] at hborn
                rcases List.mem_append.1 hz with hz | hz
                · exact hborn z (List.mem_append_left _ hz)
                · exact hborn z (by simp [hz]))
              (by
                rw [hmod]
                rw [e2] at hnd
                refine hnd.sublist (List.Sublist.map _ ?_)
                simp)
            refine ⟨_, _, ?_, q1, q2, h⟩
            simp [Builtin.delete_, hts, run_underlying hd, run_getObj' hb, hcheck, hf, run_setObj' hb, hbl]
        · cases h
      · cases h
    · cases h
  · cases h

theorem exMakeMap_ok {t : TypeId} {rv : Option Value} {K : Sc → Heap → Option R} (h : exMakeMap P t H K = some x) (ok : HeapOk w β F H) (hrv : rv = none ∨ ∃ k n, rv = some (.int k n)) :
    ∃ v w', (Instr.makeMap t rv).run P w = .ok v w' ∧ Sup w w' ∧ ResC w β F H x K v w' := by
  unfold exMakeMap at h
  split at h
  · rename_i kt vt hd
    split at h
    · rename_i ks ka vs va hks hvs
      refine ⟨.map (some w.heap.size), w.alloc (.map #[] 0), ?_, sup_alloc w _, .map H.length, _, _, ok_alloc ok _ _ (fun _ _ _ e => by cases e) ?_, ext_alloc _ _ (fun _ _ _ e => by cases e), ⟨by simp [en], by simp [en, upd_eq]⟩, h⟩
      · rcases hrv with rfl | ⟨k, n, rfl⟩
        · simp [Instr.makeMap]
        · simp [Instr.makeMap, run_underlying hd, asInt, asIntOf]
      · exact ⟨#[], 0, by simp only [en, upd_eq]; exact heap_alloc_new, rfl, by simp, by simp⟩
    · cases h
  · cases h

end
end Go.Gx
