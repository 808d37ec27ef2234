/-
  Gx, part I: append, copy, rows built.
-/
import Derived.Test.YteagdmkedffplaaGxH
namespace Go.Gx
section
variable {R : Type} {P : Program} {w : World} {β : Nat → Loc} {F : Nat → Prop} {H : Heap} {fr : Fr} {a : Act} {x : R}

def ResC {R : Type} (w : World) (β : Nat → Loc) (F : Nat → Prop) (H : Heap) (x : R) (K : Sc → Heap → Option R) (v : Value) (w' : World) : Prop :=
  ∃ y H' β', HeapOk w' β' F H' ∧ Ext (en w β F H) (en w' β' F H') ∧ RepSc (en w' β' F H') y v ∧ K y H' = some x

theorem ResC.res {K : Slot → Heap → Option R} {v : Value} {w' : World} (h : ResC w β F H x (fun y H => K (.sv (.v y)) H) v w') : Res w β F H x K v w' := by
  obtain ⟨y, H', β', h1, h2, h3, h4⟩ := h
  exact ⟨.sv (.v y), H', β', h1, h2, h3, h4⟩

theorem ResC.same {K : Sc → Heap → Option R} {v : Value} {y : Sc} (ok : HeapOk w β F H) (hy : RepSc (en w β F H) y v) (h : K y H = some x) : ResC w β F H x K v w :=
  ⟨y, H, β, ok, Ext.refl _, hy, h⟩

/-- append where there is no room -/
theorem app_new {ts : Array TypeId} {t ty e : TypeId} {i : TypeInfo} {z : Value} {s : Sh} (hts : appT P ts.toList = some t) (ht : P.underlying t = some (.slice e)) (hi : P.info? e = some i) (hz : i.zero = some z)
    (hsz : s.size = i.size) (hs0 : 0 < s.size) (hzc : z.cells.size = s.size) {H1 : Heap} (ok : HeapOk w β F H1) (hx : Ext (en w β F H) (en w β F H1)) {os xs : List s.T} {A : Option Addr} {C : Nat} {U : Value}
    (ho : ∃ vs, RepRow w (en w β F H).av s os vs ∧ ∀ w', Sup w w' → (Builtin.firstCells s.size os.length (.slice A os.length C)).run P w' = .ok vs.toArray w')
    (hu : Lst (P := P) (en w β F H) s xs U) (hg : C < os.length + xs.length) (hb : (os.length + xs.length) * P.bytesOf e ≤ 2 ^ 46) (h0 : 0 < P.bytesOf e)
    {K : Sc → Heap → Option R} (hK : K (.wl H1.length s.size) (H1 ++ [.cells [.row s (os.length + xs.length) (os ++ xs)]]) = some x) :
    ∃ v w', (Builtin.append_ ts ty #[.slice A os.length C, U]).run P w = .ok v w' ∧ ResC w β F H x K v w' := by
  have hbi : P.bytesOf e = i.bytes := by simp [Program.bytesOf, hi]
  rw [hbi] at hb h0
  obtain ⟨ovs, ho1, ho2⟩ := ho
  obtain ⟨nvs, hn1, hn2⟩ := hu.first xs.length (Nat.le_refl _)
  rw [List.take_length] at hn1
  have hrun := run_append_new (ty := ty) hts ht hi hz w (A := A) (L := os.length) (C := C) (U := U) (olds := ovs) (news := nvs) hu.len (by rw [← hsz]; exact ho2 _ (fun _ _ h => h)) (by rw [← hsz]; exact hn2 _ (fun _ _ h => h)) hg hb h0
  refine ⟨_, _, hrun, ?_⟩
  have hge := grownCap_ge w (os.length + xs.length) C e
  have hrow : RepRow w.drew (en w.drew β F H1).av s (os ++ xs) (ovs ++ nvs) := ((ho1.append hn1).mono hx.kp).mono ext_drew.kp
  have hlen : (os ++ xs).length = os.length + xs.length := List.length_append
  obtain ⟨h1, h2, h3⟩ := new_row (ok_drew ok) e hrow (cs := ovs.toArray ++ nvs.toArray ++ Builtin.zeroCells z.cells (grownCap w (os.length + xs.length) C e - (os.length + xs.length)))
    (C := grownCap w (os.length + xs.length) C e) ⟨_, by simp; rfl⟩ (by rw [hlen]; exact hge) (by
      have h1 := ho1.len
      have h2 := hn1.len
      simp only [Array.size_append, List.size_toArray, size_zeroCells, hzc, h1, h2, ← Nat.add_mul]
      refine Nat.mul_le_mul_right _ ?_
      omega)
  rw [hlen] at h1 h2 h3
  exact ⟨_, _, _, h1, hx.trans (ext_drew.trans h2), h3, hK⟩

theorem rowOwn_spec {r : Nat} {s : Sh} {l : List s.T} (h : rowOwn H r = some ⟨s, l⟩) (ok : HeapOk w β F H) : H[r]? = some (.cells [.row s l.length l]) := by
  unfold rowOwn at h
  split at h
  · rename_i s' n l' hH
    cases h
    obtain ⟨vs, ⟨hn, _⟩, _⟩ := ok.obj r _ hH
    rw [hn]
    exact hH
  · cases h

/-- what a slice of a row of its own holds, and what may come behind -/
theorem own_row (ok : HeapOk w β F H) {s : Sh} {l : List s.T} {r : Nat} (hH : H[r]? = some (.cells [.row s l.length l])) (h0 : (β r).k) :
    ∃ (c : Array Value) (ty : TypeId) (vs pre post : List Value), w.heap[(β r).b]? = some (.cells c ty (0, 0)) ∧ c.toList = pre ++ (vs ++ post) ∧ pre.length = (β r).o ∧ RepRow w (en w β F H).av s l vs := by
  obtain ⟨c, ty, vs, pre, post, hc, hcl, hpre, ⟨_, u, v, rfl, hrow, hv⟩, _⟩ := obj_cells' ok hH h0
  obtain rfl : v = [] := hv
  exact ⟨c, ty, u, pre, post, hc, by simpa using hcl, hpre, hrow⟩


theorem set_self {H : Heap} {r : Nat} {o : Obj} (h : H[r]? = some o) : H.set r o = H := by
  obtain ⟨h1, rfl⟩ := List.getElem?_eq_some_iff.1 h
  exact List.set_getElem_self h1

/-- append where there is room that was not told of: a new object in the old block -/
theorem app_over {s : Sh} (ok : HeapOk w β F H) {r lo len C : Nat} {cap : Option Nat} {l xs : List s.T} {A : Option Addr} (hH : H[r]? = some (.cells [.row s l.length l])) (hy : RepSc (en w β F H) (.sl r 0 s.size lo len cap) (.slice A len C))
    (hfit : lo + len ≤ l.length) (hn : len + xs.length ≤ C) (h0 : 0 < C) {nvs : List Value} (hnew : RepRow w (en w β F H).av s xs nvs) :
    ∃ ad w' β' H', A = some ad ∧ (storeCells (ad.add (len * s.size)) nvs).run P w = .ok () w' ∧ H' = H.set r .dead ++ [.cells [.row s (len + xs.length) (sub l lo len ++ xs)]] ∧
      HeapOk w' β' F H' ∧ Ext (en w β F H) (en w' β' F H') ∧ RepSc (en w' β' F H') (.wl H.length s.size) (.slice (some ad) (len + xs.length) C) := by
  obtain ⟨hr, hlen, A', C', e', hC, hA⟩ := id hy
  cases e'
  obtain ⟨rfl, hv, c, ty, fz, hc, hroom⟩ := hA h0
  have hv : (β r).k := hv
  obtain ⟨c2, ty2, vs, pre, post, hc2, hcl, hpre, hrow⟩ := own_row ok hH hv
  have hc3 : w.heap[(β r).b]? = some (.cells c ty fz) := hc
  rw [hc2] at hc3
  cases hc3
  have hnl := hnew.len
  have hvl := hrow.len
  have hroom' : (β r).o + (lo + C) * s.size ≤ c.size := by simpa [en] using hroom
  have hle : (lo + len + xs.length) * s.size ≤ (lo + C) * s.size := Nat.mul_le_mul_right _ (by omega)
  have hsplit : (lo + len + xs.length) * s.size = (lo + len) * s.size + nvs.length := by rw [Nat.add_mul, hnl]
  have hll : (lo + len) * s.size = lo * s.size + len * s.size := Nat.add_mul _ _ _
  have hfl : (lo + len) * s.size ≤ l.length * s.size := Nat.mul_le_mul_right _ hfit
  have hb : (β r).b < w.heap.size := lt_of_heap hc2
  have hrun := run_storeCells_of (P := P) (a := addr (en w β F H) r ((lo + len) * s.size)) (t := ty) rfl nvs 0 w c hc2 (by simp only [addr, en]; omega) (RepRow.one (e := en w β F H) hnew)
  have hoff : (addr (en w β F H) r ((lo + len) * s.size)).off + 0 = (β r).o + (lo + len) * s.size := rfl
  have hbl : (addr (en w β F H) r ((lo + len) * s.size)).block = (β r).b := rfl
  rw [hoff, hbl] at hrun
  let ovs := (vs.drop (lo * s.size)).take (len * s.size)
  have hovl : ovs.length = len * s.size := by simp only [ovs, List.length_take, List.length_drop]; omega
  have hcs : c.size = pre.length + (vs.length + post.length) := by rw [← Array.length_toList, hcl]; simp
  have hspl := splice_list nvs c ((β r).o + (lo + len) * s.size) (pre ++ vs.take (lo * s.size) ++ ovs) ((vs.drop ((lo + len) * s.size) ++ post).take nvs.length) ((vs.drop ((lo + len) * s.size) ++ post).drop nvs.length)
    (by
      rw [List.take_append_drop, hcl]
      simp only [ovs, List.append_assoc]
      rw [hll, ← List.drop_drop, ← List.append_assoc ((vs.drop (lo * s.size)).take (len * s.size)), List.take_append_drop, ← List.append_assoc (vs.take (lo * s.size)), List.take_append_drop])
    (by simp [hovl, hpre]; omega) (by simp; omega)
  have h1 : (H.set r .dead).length = H.length := List.length_set
  let w' := setB w (β r).b (.cells (splice c ((β r).o + (lo + len) * s.size) nvs) ty (0, 0))
  let β' := upd β H.length ⟨(β r).b, (β r).o + lo * s.size, True⟩
  let H' := H.set r .dead ++ [.cells [.row s (len + xs.length) (sub l lo len ++ xs)]]
  have hget : ∀ q o, H'[q]? = some o → (q ≠ r ∧ H[q]? = some o) ∨ o = .dead ∨ (q = H.length ∧ o = .cells [.row s (len + xs.length) (sub l lo len ++ xs)]) := fun q o hq => by
    rcases get_snoc hq with h | ⟨h, h'⟩
    · rcases get_set h with ⟨_, h⟩ | h
      · exact .inr (.inl h)
      · exact .inl h
    · exact .inr (.inr ⟨by rw [h, h1], h'⟩)
  have hβ : ∀ q, q < H.length → β' q = β q := fun q hq => upd_lt hq
  have hx : Ext (en w β F H) (en w' β' F H') := {
    n := by simp [en, H']
    β := fun q hq => hβ q hq
    size := by simp [en, w', size_setB]
    kept := fun b _ ho => heap_setB_other fun e => ho ⟨r, _, hH, hv, e.symm⟩
    sub := fun b _ ho => by
      obtain ⟨q, o, h2, h3, h4⟩ := ho
      rcases hget q o h2 with ⟨_, h⟩ | rfl | ⟨rfl, rfl⟩
      · rw [hβ q (lt_len h)] at h3 h4
        exact ⟨q, o, h, h3, h4⟩
      · exact h3.elim
      · refine ⟨r, _, hH, hv, ?_⟩
        rw [← h4]
        simp [β', upd_eq]
    F := rfl
    sz := fun q m hq hm => by
      obtain ⟨l', h2, h3⟩ := szOf_some hm
      rcases hget q _ h2 with ⟨_, h⟩ | h | ⟨rfl, _⟩
      · exact (szOf_of h).trans (by simp [szO, h3])
      · cases h
      · exact absurd hq (Nat.lt_irrefl _)
    grow := fun b c' t' f' hb' => by
      by_cases e : b = (β r).b
      · subst e
        have hb' : w.heap[(β r).b]? = some (.cells c' t' f') := hb'
        rw [hc2] at hb'
        cases hb'
        exact ⟨_, _, heap_setB_same hb, splice_size _ _ _⟩
      · exact ⟨c', f', by simp only [en, w'] at *; rw [heap_setB_other e]; exact hb', rfl⟩
    out := ⟨rfl, rfl⟩
    froz := fun b c' t' f' hb' => by
      by_cases e : b = (β r).b
      · subst e
        have hb' : w'.heap[(β r).b]? = some (.cells c' t' f') := hb'
        rw [heap_setB_same hb] at hb'
        cases hb'
        exact .inl rfl
      · exact .inr ⟨c', by simp only [en, w'] at *; rw [heap_setB_other e] at hb'; exact hb'⟩ }
  have hrow' : RepRow w' (en w' β' F H').av s (sub l lo len ++ xs) (ovs ++ nvs) := ((hrow.sub lo len).append hnew).mono hx.kp
  have hlen' : (sub l lo len ++ xs).length = len + xs.length := by simp [sub]; omega
  refine ⟨_, w', β', H', rfl, by rw [addr_add, Nat.zero_add, ← Nat.add_mul]; exact hrun, rfl, ⟨?_, ?_, ?_, ?_⟩, hx, ?_⟩
  · intro q o hq
    rcases hget q o hq with ⟨hne, h⟩ | rfl | ⟨rfl, rfl⟩
    · refine RepObj.keep ok hx h fun ho => heap_setB_other fun e => hne (ok.inj q r o _ h hH ho hv e)
    · trivial
    · refine ⟨ovs ++ nvs, ⟨hlen', _, [], by simp, hrow', rfl⟩, fun h => absurd (by simp [en, β', upd_eq]) h, fun _ => ⟨splice c ((β r).o + (lo + len) * s.size) nvs, ty, pre ++ vs.take (lo * s.size), (vs.drop ((lo + len) * s.size) ++ post).drop nvs.length, ?_, ?_, ?_⟩⟩
      · simp only [en, β', upd_eq]; exact heap_setB_same hb
      · rw [hspl]; simp
      · simp [en, β', upd_eq, hpre]; omega
  · intro q o hq ho
    rcases hget q o hq with ⟨hne, h⟩ | rfl | ⟨rfl, rfl⟩
    · rw [hβ q (lt_len h)] at ho ⊢
      rw [size_setB]
      exact ok.lt q o h ho
    · exact ho.elim
    · simp only [β', upd_eq, w', size_setB]
      exact ok.lt r _ hH hv
  · intro q q' o o' hq hq' ho ho' e
    have hown : owns (β r) (.cells [.row s l.length l]) := hv
    rcases hget q o hq with ⟨hne, h⟩ | rfl | ⟨k, rfl⟩ <;> rcases hget q' o' hq' with ⟨hne', h'⟩ | rfl | ⟨k', rfl⟩
    · rw [hβ q (lt_len h)] at e ho
      rw [hβ q' (lt_len h')] at e ho'
      exact ok.inj q q' o o' h h' ho ho' e
    · exact ho'.elim
    · rw [hβ q (lt_len h)] at e ho
      rw [k'] at e
      simp only [β', upd_eq] at e
      exact absurd (ok.inj q r o _ h hH ho hown e) hne
    · exact ho.elim
    · exact ho.elim
    · exact ho.elim
    · rw [hβ q' (lt_len h')] at e ho'
      rw [k] at e
      simp only [β', upd_eq] at e
      exact absurd (ok.inj r q' _ o' hH h' hown ho' e).symm hne'
    · exact ho'.elim
    · rw [k, k']
  · intro b hb'
    rw [size_setB]
    exact ok.F b hb'
  · refine ⟨by simp [en, H'], _, len + xs.length, C, rfl, hn, fun m hm => ?_, fun _ => ⟨?_, ?_, splice c ((β r).o + (lo + len) * s.size) nvs, ty, (0, 0), ?_, ?_⟩⟩
    · have hm : szOf H' H.length = some m := hm
      rw [szOf_set_snoc] at hm
      simp [szO, segsSize, segSize] at hm
      exact hm.symm
    · simp [addr, en, β', upd_eq]
    · simp [en, β', upd_eq]
    · simp only [en, β', upd_eq]; exact heap_setB_same hb
    · rw [splice_size]
      simp [en, β', upd_eq]
      rw [Nat.add_mul] at hroom'
      omega


theorem first_cells {s : Sh} {l : List s.T} {V : Value} (h : Lst (P := P) (en w β F H) s l V) : ∃ vs, RepRow w (en w β F H).av s l vs ∧ ∀ w', Sup w w' → (Builtin.firstCells s.size l.length V).run P w' = .ok vs.toArray w' := by
  obtain ⟨vs, h1, h2⟩ := h.first l.length (Nat.le_refl _)
  rw [List.take_length] at h1
  exact ⟨vs, h1, h2⟩

theorem exAppend_ok {t ty : TypeId} {ts : Array TypeId} {y u : Sc} {V U : Value} {K : Sc → Heap → Option R} (hts : appT P ts.toList = some t) (h : exAppend P t H y u K = some x) (ok : HeapOk w β F H)
    (hy : RepSc (en w β F H) y V) (hu : RepSc (en w β F H) u U) : ∃ v w', (Builtin.append_ ts ty #[V, U]).run P w = .ok v w' ∧ ResC w β F H x K v w' := by
  unfold exAppend at h
  split at h
  · rename_i e hd
    split at h
    · rename_i s hs
      obtain ⟨i, z, hi, hz, hzr, hsz, hs0, hzc⟩ := elemOf_spec hs
      obtain ⟨xs, h1, hxs⟩ := srcOf_ok (P := P) ok h hu hs0
      clear h
      obtain ⟨nvs, hn1, hn2⟩ := first_cells hxs
      have hzero : xs.length = 0 → nvs = [] := fun h => by
        have := hn1.len
        rw [h, Nat.zero_mul] at this
        exact List.eq_nil_of_length_eq_zero this
      have zrun : ∀ (A : Option Addr) (L C : Nat), xs.length = 0 → L ≤ C → (Builtin.append_ ts ty #[.slice A L C, U]).run P w = .ok (.slice A L C) w := fun A L C h0 hLC =>
        run_append_zero (ty := ty) hts hd hi w (by rw [← h0]; exact hxs.len) (by
          have := hn2 w (fun _ _ h => h)
          rw [hzero h0, h0, hsz] at this
          exact this) hLC
      -- nothing there
      have empty : ∀ (A : Option Addr), V = .slice A 0 0 →
          br (decide (xs.length * P.bytesOf e ≤ 2 ^ 46) && Nat.blt 0 (P.bytesOf e)) (K (.wl H.length s.size) (H ++ [.cells [.row s xs.length xs]])) none = some x →
          ∃ v w', (Builtin.append_ ts ty #[V, U]).run P w = .ok v w' ∧ ResC w β F H x K v w' := by
        rintro A rfl h
        obtain ⟨hb, h⟩ := br_none h
        simp only [Bool.and_eq_true, decide_eq_true_eq] at hb
        by_cases h0 : xs.length = 0
        · have hx0 : xs = [] := List.eq_nil_of_length_eq_zero h0
          obtain ⟨q1, q2⟩ := new_virt ok s
          subst hx0
          exact ⟨_, _, zrun A 0 0 rfl (Nat.le_refl _), _, _, _, q1, q2, virt_rep, h⟩
        · have := app_new (H := H) (os := ([] : List s.T)) (xs := xs) (A := A) (C := 0) (ty := ty) hts hd hi hz hsz hs0 hzc ok (Ext.refl _) ⟨[], rfl, fun w' _ => by cases A <;> simp [Builtin.firstCells, loadCells, loadCellsFrom]⟩ hxs (by simp; omega) (by simpa using hb.1) (by simpa using hb.2)
            (K := K) (by simpa using h)
          exact this
      split at h1
      · rename_i r zz lo len cap
        split at h1
        · rename_i s' l hrow
          have hH := rowOwn_spec hrow ok
          split at h1
          · rename_i hh
            obtain ⟨rfl, rfl⟩ := hh
            simp only [castL_id] at h1
            obtain ⟨hb, h⟩ := br_none h1
            clear h1
            simp only [Bool.and_eq_true, decide_eq_true_eq] at hb
            obtain ⟨⟨hfit, hb1⟩, hb2⟩ := hb
            obtain ⟨hr, hlen, A, C, rfl, hC, hA⟩ := id hy
            have hfit' : lo + len ≤ l.length := by simpa [fits] using hfit
            by_cases h0 : xs.length = 0
            · have hx0 : xs = [] := List.eq_nil_of_length_eq_zero h0
              obtain ⟨β', q1, q2, q3⟩ := reborn_row ok hH hy hfit
              subst hx0
              simp only [List.length_nil, Nat.add_zero, List.append_nil] at h
              exact ⟨_, _, zrun A len C rfl (by omega), _, _, _, q1, q2, q3, h⟩
            · by_cases hin : len + xs.length ≤ C
              · obtain ⟨ad, w', β', H', rfl, hrun, rfl, ok', hx, hrep⟩ := app_over (P := P) ok hH hy (by omega) hin (by omega) hn1
                refine ⟨_, _, run_append_in (ty := ty) hts hd hi w hxs.len (by rw [← hsz]; exact hn2 w (fun _ _ h => h)) hin (by rw [← hsz]; exact hrun), _, _, _, ok', hx, hrep, h⟩
              · have hsl : (sub l lo len).length = len := by simp [sub]; omega
                have hlst : ∃ vs, RepRow w (en w β F H).av s' (sub l lo len) vs ∧ ∀ w', Sup w w' → (Builtin.firstCells s'.size (sub l lo len).length (.slice A (sub l lo len).length C)).run P w' = .ok vs.toArray w' := by
                  have hl : listOf s' H (.sl r 0 s'.size lo len cap) (fun l => some l) = some (sub l lo len) := by
                    simp only [listOf, hH, seek]
                    have h1 : Nat.blt 0 s'.size = true := by simpa using hs0
                    have h2 : fits lo len l = true := by simp [fits]; omega
                    rw [h1]
                    simp [h2, br, castL_id]
                  obtain ⟨l', e1, hl2⟩ := listOf_ok (P := P) ok hl hy hs0
                  cases e1
                  rw [hsl]
                  have := first_cells hl2
                  rw [hsl] at this
                  exact this
                have := app_new (H := H) (os := sub l lo len) (xs := xs) (A := A) (C := C) (ty := ty) hts hd hi hz hsz hs0 hzc (ok_kill ok r) ext_kill hlst hxs (by rw [hsl]; omega) (by rw [hsl]; exact hb1) (by simpa using hb2)
                  (K := K) (by rw [hsl, List.length_set]; exact h)
                rw [hsl] at this
                exact this
          · cases h1
        · cases h1
      · obtain rfl : V = _ := hy
        exact empty none rfl h1
      · obtain ⟨A, rfl⟩ := hy
        exact empty A rfl h1
      · cases h1
    · cases h
  · cases h

end
end Go.Gx
