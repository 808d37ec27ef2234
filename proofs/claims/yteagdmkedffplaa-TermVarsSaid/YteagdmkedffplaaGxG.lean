/-
  Gx, part G: operations that make, change and give up memory: new variables, stores, rows.
-/
import Derived.Test.YteagdmkedffplaaGxF
namespace Go.Gx
section
variable {R : Type} {P : Program} {w : World} {β : Nat → Loc} {F : Nat → Prop} {H : Heap} {fr : Fr} {a : Act} {x : R}

/-! ### noughts -/
theorem scMatch_rep {e : En} {y : Sc} {v : Value} (h : scMatch y v = true) : RepSc e y v ∧ v.oneCell' = true := by
  unfold scMatch at h
  split at h
  · simp at h; obtain ⟨rfl, rfl⟩ := h; exact ⟨rfl, rfl⟩
  · simp at h; subst h; exact ⟨rfl, rfl⟩
  · simp at h; subst h; exact ⟨rfl, rfl⟩
  · rename_i s l
    have : l = [] := by cases l <;> simp_all
    subst this
    exact ⟨⟨none, 0, rfl, Nat.le_refl _, fun h => absurd rfl h⟩, rfl⟩
  · exact ⟨rfl, rfl⟩
  · exact ⟨rfl, rfl⟩
  · exact ⟨rfl, rfl⟩
  · exact ⟨rfl, rfl⟩
  · cases h

theorem scsMatch_rep {e : En} : ∀ {cs : List Sc} {vs r : List Value}, scsMatch cs vs = some r → ∃ u, vs = u ++ r ∧ RepScs e cs u
  | [], vs, r, h => by cases h; exact ⟨[], rfl, rfl⟩
  | y :: cs, v :: vs, r, h => by
    simp only [scsMatch] at h
    obtain ⟨h1, h2⟩ := bif_none h
    obtain ⟨u, rfl, h3⟩ := scsMatch_rep (e := e) h2
    obtain ⟨h4, h5⟩ := scMatch_rep (e := e) h1
    exact ⟨v :: u, rfl, v, u, rfl, h5, h4, h3⟩
  | y :: cs, [], r, h => by cases h

/-- cells that fit a datum's own are a reading of it -/
theorem RepT.of_enc {e : En} : ∀ (s : Sh) (y : s.T) (vs : List Value), RepScs e (Gx.enc s y) vs → RepT e.w e.av s y vs
  | .int k, y, vs, h => by obtain ⟨V, v, rfl, _, h1, h2⟩ := h; rw [show v = [] from h2, show V = _ from h1]; rfl
  | .bool, y, vs, h => by obtain ⟨V, v, rfl, _, h1, h2⟩ := h; rw [show v = [] from h2, show V = _ from h1]; rfl
  | .str, y, vs, h => by obtain ⟨V, v, rfl, _, h1, h2⟩ := h; rw [show v = [] from h2, show V = _ from h1]; rfl
  | .isl s, y, vs, h => by
    obtain ⟨V, v, rfl, _, h1, h2⟩ := h
    rw [show v = [] from h2]
    exact ⟨V, rfl, h1⟩
  | .pair a b, y, vs, h => by
    obtain ⟨u, v, rfl, h1, h2⟩ := RepScs.split h
    exact ⟨u, v, rfl, RepT.of_enc a _ _ h1, RepT.of_enc b _ _ h2⟩
  | .unit, _, vs, h => h

theorem rowMatch_rep {e : En} {s : Sh} : ∀ {l : List s.T} {vs r : List Value}, rowMatch s l vs = some r → ∃ u, vs = u ++ r ∧ RepRow e.w e.av s l u
  | [], vs, r, h => by cases h; exact ⟨[], rfl, rfl⟩
  | y :: l, vs, r, h => by
    simp only [rowMatch] at h
    split at h
    · rename_i r1 h1
      obtain ⟨u, rfl, h2⟩ := scsMatch_rep (e := e) h1
      obtain ⟨v, rfl, h3⟩ := rowMatch_rep h
      exact ⟨u ++ v, by simp, u, v, rfl, RepT.of_enc s y u h2, h3⟩
    · cases h

theorem cellMatch_rep {e : En} : ∀ {l : List Seg} {vs : List Value}, cellMatch l vs = true → RepSegs e l vs
  | [], [], _ => rfl
  | [], _ :: _, h => by simp [cellMatch] at h
  | .c y :: r, [], h => by simp [cellMatch] at h
  | .c y :: r, v :: vs, h => by
    simp only [cellMatch, Bool.and_eq_true] at h
    obtain ⟨h1, h2⟩ := scMatch_rep (e := e) h.1
    exact ⟨v, vs, rfl, h2, h1, cellMatch_rep h.2⟩
  | .row s n l :: r, vs, h => by
    have h : (bif Nat.beq l.length n then match rowMatch s l vs with
      | some t => cellMatch r t
      | none => false
      else false) = true := by cases vs <;> exact h
    cases hb : Nat.beq l.length n with
    | false => rw [hb] at h; cases h
    | true =>
      rw [hb] at h
      simp only [cond_true] at h
      split at h
      · rename_i t ht
        obtain ⟨u, rfl, h1⟩ := rowMatch_rep (e := e) ht
        rename_i h2
        exact ⟨Nat.eq_of_beq_eq_true hb, u, t, rfl, h1, cellMatch_rep h2⟩
      · cases h

theorem zeroOf_spec {t : TypeId} {l : List Seg} (h : zeroOf P t = some l) : ∃ i z, P.info? t = some i ∧ i.zero = some z ∧ (∀ e : En, RepSegs e l z.cells.toList) ∧ segsSize l = i.size := by
  unfold zeroOf at h
  split at h
  · rename_i l' i hl hi
    split at h
    · rename_i z hz
      obtain ⟨hb, h⟩ := bif_none h
      cases h
      rw [Bool.and_eq_true] at hb
      exact ⟨i, z, hi, hz, fun e => cellMatch_rep hb.1, Nat.eq_of_beq_eq_true hb.2⟩
    · cases h
  · cases h

theorem run_zero {t : TypeId} {i : TypeInfo} {z : Value} (hi : P.info? t = some i) (hz : i.zero = some z) (w : World) : (zeroValue t).run P w = .ok z w := by
  simp [zeroValue, run_info hi, hz]

theorem elemOf_spec {t : TypeId} {s : Sh} (h : elemOf P t = some s) : ∃ i z, P.info? t = some i ∧ i.zero = some z ∧ (∀ e : En, RepT e.w e.av s s.zero z.cells.toList) ∧ s.size = i.size ∧ 0 < s.size ∧ z.cells.size = s.size := by
  unfold elemOf at h
  split at h
  · rename_i s' i hs hi
    split at h
    · rename_i z hz
      obtain ⟨hb, h⟩ := bif_none h
      cases h
      simp only [Bool.and_eq_true] at hb
      obtain ⟨⟨h1, h2⟩, h3⟩ := hb
      have hr : ∀ e : En, RepT e.w e.av s s.zero z.cells.toList := fun e => by
        obtain ⟨_, u, v, e1, ⟨u1, u2, rfl, h4, h5⟩, h6⟩ := cellMatch_rep (e := e) h1
        rw [e1, show u2 = [] from h5, show v = [] from h6]
        simpa using h4
      refine ⟨i, z, hi, hz, hr, Nat.eq_of_beq_eq_true h2, by simpa using h3, ?_⟩
      have := (hr ⟨default, fun _ => ⟨0, 0, False⟩, fun _ => False, fun _ => False, fun _ => none, 0⟩).size
      simpa using this
    · cases h
  · cases h

/-! ### new variables -/
theorem cells_of_rep {e : En} {v : SV} {V : Value} (h : RepSV e v V) (h1 : ∀ y, v = .v y → V.oneCell' = true) : RepSegs e (svSegs v) V.cells.toList := by
  cases v with
  | agg l => obtain ⟨vs, rfl, hl⟩ := h; simpa [Value.cells, svSegs] using hl
  | v y =>
    have hV := h1 y rfl
    have : V.cells = #[V] := by cases V <;> first | rfl | (simp [Value.oneCell'] at hV)
    rw [this]
    exact ⟨V, [], rfl, hV, h, rfl⟩

theorem RepSc.one {e : En} {y : Sc} {V : Value} (h : RepSc e y V) (hy : y ≠ .undef) : V.oneCell' = true := by
  cases y with
  | int | bool | str | nilp | nils | nilm | nilf => rw [show V = _ from h]; rfl
  | ptr | el | map => obtain ⟨_, rfl⟩ := h; rfl
  | eptr => obtain ⟨_, _, _, _, rfl⟩ := h; rfl
  | sl => obtain ⟨_, _, _, _, rfl, _⟩ := h; rfl
  | wl => obtain ⟨_, _, _, _, rfl, _⟩ := h; rfl
  | isl => obtain ⟨_, _, rfl, _⟩ := h; rfl
  | emp => obtain ⟨_, rfl⟩ := h; rfl
  | fn => obtain ⟨_, rfl⟩ := h; rfl
  | undef => exact absurd rfl hy

theorem sup_alloc (w : World) (o : Go.Obj) : Sup w (w.alloc o) := fun b p h => by rw [heap_alloc_old (lt_of_heap h)]; exact h

/-- a new variable: what it holds -/
theorem alloc_ok (ok : HeapOk w β F H) (t : TypeId) {sg : List Seg} {V : Value} (hs : RepSegs (en w β F H) sg V.cells.toList) {K : Slot → Heap → Option R}
    (hK : K (.sv (.v (.ptr H.length 0))) (H ++ [.cells sg]) = some x) :
    ∃ w', (newVar t V).run P w = .ok ⟨w.heap.size, 0, none⟩ w' ∧ Sup w w' ∧ Res w β F H x K (.pointer (some ⟨w.heap.size, 0, none⟩)) w' := by
  obtain ⟨h1, h2⟩ := new_cells ok t hs (.inl rfl)
  exact ⟨w.alloc (.cells V.cells t), by simp [newVar, newRow], sup_alloc w _, .sv (.v (.ptr H.length 0)), _, _, h1, h2, ⟨by simp [en], by simp [addr, en, upd_eq]⟩, hK⟩

/-! ### stores -/
/-- the cells of an object, some of them by others -/
theorem obj_store (ok : HeapOk w β F H) {r : Nat} {sg sg' : List Seg} (hH : H[r]? = some (.cells sg)) {us : List Value} {off : Nat}
    (hvs : ∀ vs : List Value, RepSegs (en w β F H) sg vs → ∃ u m t : List Value, vs = u ++ (m ++ t) ∧ u.length = off ∧ m.length = us.length ∧ RepSegs (en w β F H) sg' (u ++ (us ++ t)))
    (hone : ∀ v ∈ us, v.oneCell' = true) (h0 : 0 < segsSize sg) :
    ∃ w', (storeCells (addr (en w β F H) r off) us).run P w = .ok () w' ∧ HeapOk w' β F (H.set r (.cells sg')) ∧ Ext (en w β F H) (en w' β F (H.set r (.cells sg'))) := by
  obtain ⟨c, ty, vs, pre, post, hc, hcl, hpre, hrep, hlen, _⟩ := obj_cells ok hH h0
  obtain ⟨u, m, t, rfl, hu, hm, hrep'⟩ := hvs vs hrep
  have hpre' : pre.length = (β r).o := hpre
  have hcs : c.size = pre.length + (u ++ (m ++ t)).length + post.length := by rw [← Array.length_toList, hcl]; simp; omega
  have hrun := run_storeCells_of (P := P) (a := addr (en w β F H) r off) (t := ty) rfl us 0 w c hc (by
    simp only [addr, en, List.length_append] at *; omega) hone
  have hspl := splice_list us c ((β r).o + off) (pre ++ u) m (t ++ post) (by rw [hcl]; simp) (by simp; omega) hm
  have hoff : (addr (en w β F H) r off).off + 0 = (β r).o + off := rfl
  rw [hoff] at hrun
  have hbl : (addr (en w β F H) r off).block = (β r).b := rfl
  rw [hbl] at hrun
  have hb : (β r).b < w.heap.size := lt_of_heap hc
  have h0' : segsSize sg' = segsSize sg := by
    have h1 := hrep'.len
    have h2 := hrep.len
    simp only [List.length_append] at h1 h2
    omega
  have hk : owns (β r) (.cells sg) := obj_k ok hH h0
  have hx : Ext (en w β F H) (en (setB w (β r).b (.cells (splice c ((β r).o + off) us) ty (0, 0))) β F (H.set r (.cells sg'))) :=
    ext_set hH hk (fun m hm => by simpa [szO, h0'] using hm) size_setB (fun b hb' => heap_setB_other hb') ⟨rfl, rfl⟩ (fun c' t' f' h' => by rw [heap_setB_same hb] at h'; cases h'; rfl) fun c' t' f' h' => by
      rw [hc] at h'
      cases h'
      exact ⟨_, _, heap_setB_same hb, splice_size _ _ _⟩
  refine ⟨_, hrun, ok_set ok hH hk size_setB (fun b hb' => heap_setB_other hb') hx ⟨u ++ (us ++ t), hrep'.mono hx, fun h => absurd hk h, fun _ => ?_⟩, hx⟩
  exact ⟨_, ty, pre, post, heap_setB_same hb, by rw [hspl]; simp, hpre⟩

/-- a row's piece in the world -/
theorem row_piece {e : En} {s : Sh} {l : List s.T} {rv : List Value} (hrow : RepRow e.w e.av s l rv) {ad : Addr} {c : Array Value} {t : TypeId} {f : Nat × Nat} (hs : ad.spot = none)
    (hc : e.w.heap[ad.block]? = some (.cells c t f)) {lo len base : Nat} (hcell : ∀ j v, rv[j]? = some v → c[base + j]? = some v) (hoff : ad.off = base + lo * s.size) :
    RowAt e.w (RepT e.w e.av s) s.size ad (sub l lo len) := by
  refine (hrow.sub lo len).rowAt hs hc fun j v hj => ?_
  have hlt := (List.getElem?_eq_some_iff.1 hj).1
  rw [List.length_take, List.length_drop] at hlt
  rw [List.getElem?_take_of_lt (by omega), List.getElem?_drop] at hj
  have := hcell _ v hj
  rw [hoff, Nat.add_assoc]
  exact this

theorem sub_length {α : Type} {l : List α} {lo len : Nat} (h : fits lo len l = true) : (sub l lo len).length = len := by
  have : lo + len ≤ l.length := by simpa [fits] using h
  simp [sub]; omega

/-- objects that are no single rows stay as they are -/
def KeepsO (H H' : Heap) : Prop := ∀ (i : Nat) (o : Obj), H[i]? = some o → (∀ s n l, o ≠ .cells [.row s n l]) → H'[i]? = some o
theorem KeepsO.refl (H : Heap) : KeepsO H H := fun _ _ h _ => h
theorem KeepsO.trans {A B C : Heap} (h : KeepsO A B) (k : KeepsO B C) : KeepsO A C := fun i o hi ho => k i o (h i o hi ho) ho
theorem KeepsO.snoc {H : Heap} {o : Obj} : KeepsO H (H ++ [o]) := fun i p h _ => by rw [List.getElem?_append_left (lt_len h)]; exact h
theorem KeepsO.kill {H : Heap} {r n : Nat} {s : Sh} {l : List s.T} {o : Obj} (hH : H[r]? = some (.cells [.row s n l])) : KeepsO H (H.set r .dead ++ [o]) := fun i p h hp => by
  have hi : i < (H.set r .dead).length := by rw [List.length_set]; exact lt_len h
  rw [List.getElem?_append_left hi]
  have : r ≠ i := fun e => by subst e; rw [hH] at h; cases h; exact hp _ _ _ rfl
  rw [List.getElem?_set_ne this]
  exact h

theorem KeepsO.dead {H : Heap} {r n : Nat} {s : Sh} {l : List s.T} (hH : H[r]? = some (.cells [.row s n l])) : KeepsO H (H.set r .dead) := fun i p h hp => by
  have : r ≠ i := fun e => by subst e; rw [hH] at h; cases h; exact hp _ _ _ rfl
  rw [List.getElem?_set_ne this]
  exact h

/-- a slice whose row is given up: it is a list from now on -/
theorem freeze0_ok (ok : HeapOk w β F H) {y : Sc} {K : Sc → Heap → Option R} {V : Value} (h : freeze0 H y K = some x) (hy : RepSc (en w β F H) y V) :
    ∃ y' H', K y' H' = some x ∧ HeapOk w β F H' ∧ Ext (en w β F H) (en w β F H') ∧ RepSc (en w β F H') y' V ∧ (y = .undef → y' = .undef) ∧ KeepsO H H' := by
  unfold freeze0 at h
  split at h
  · rename_i r z lo len cap
    split at h
    · rename_i s l hrow
      obtain ⟨hz, h1⟩ := bif_none h
      clear h
      rw [Bool.and_eq_true] at hz
      obtain rfl : z = s.size := Nat.eq_of_beq_eq_true hz.1
      have hs0 : 0 < s.size := by simpa using hz.2
      obtain ⟨hfit, hK⟩ := br_none h1
      have hkeep : KeepsO H (H.set r .dead) := by
        unfold rowOwn at hrow
        split at hrow
        · rename_i hH
          exact .dead hH
        · cases hrow
      refine ⟨_, _, hK, ok_kill ok r, ext_kill, ?_, fun h => (nomatch h), hkeep⟩
      unfold rowOwn at hrow
      split at hrow
      · rename_i s' n l' hH
        cases hrow
        obtain ⟨hr, hlen, A, C, rfl, hC, hA⟩ := hy
        have hsub := sub_length hfit
        refine ⟨A, C, by rw [hsub], by rw [hsub]; omega, fun hne => ?_⟩
        have hl0 : 0 < len := by rw [← hsub]; exact List.length_pos_iff.2 hne
        obtain ⟨rfl, _⟩ := hA (by omega)
        have hn : l.length = n := by obtain ⟨vs, ⟨hn, _⟩, _⟩ := ok.obj r _ hH; exact hn
        have hfit' : lo + len ≤ l.length := by simpa [fits] using hfit
        have h0 : 0 < segsSize [Seg.row s n l] := by
          have : 0 < n * s.size := Nat.mul_pos (by omega) hs0
          simpa [segsSize, segSize] using this
        obtain ⟨c, ty, vs, pre, post, hc, hcl, hpre, ⟨_, rv, v', rfl, hrowr, hv'⟩, hvl, hcell⟩ := obj_cells ok hH h0
        obtain rfl : v' = [] := hv'
        refine ⟨_, rfl, not_av_kill ok hH (obj_k ok hH h0), row_piece (e := en w β F (H.set r .dead)) (hrowr.mono ext_kill.kp) rfl hc (base := (β r).o) (fun j v hj => hcell j v (by simpa using hj)) ?_⟩
        simp [addr, en]
      · cases hrow
    · cases h
  · cases h
  · exact ⟨y, H, h, ok, Ext.refl _, hy, fun h => h, .refl _⟩

theorem freeze1_ok (ok : HeapOk w β F H) {y : Sc} {K : Sc → Heap → Option R} {V : Value} (h : freeze1 H y K = some x) (hy : RepSc (en w β F H) y V) :
    ∃ y' H', K y' H' = some x ∧ HeapOk w β F H' ∧ Ext (en w β F H) (en w β F H') ∧ RepSc (en w β F H') y' V ∧ (y = .undef → y' = .undef) ∧ KeepsO H H' := by
  obtain ⟨y', H', h1, h2, h3, h4, h5, h6⟩ := freeze0_ok ok h (widen_rep hy)
  exact ⟨y', H', h1, h2, h3, h4, fun e => h5 (by subst e; rfl), h6⟩

theorem freezeL_ok : ∀ {cs : List Sc} {H : Heap} {K : List Sc → Heap → Option R} {vs : List Value}, HeapOk w β F H → freezeL H cs K = some x → RepScs (en w β F H) cs vs →
    ∃ cs' H', K cs' H' = some x ∧ HeapOk w β F H' ∧ Ext (en w β F H) (en w β F H') ∧ RepScs (en w β F H') cs' vs
  | [], H, K, vs, ok, h, hr => ⟨[], H, h, ok, Ext.refl _, hr⟩
  | y :: cs, H, K, vs, ok, h, hr => by
    obtain ⟨V, v', rfl, h0, h1, h2⟩ := hr
    simp only [freezeL] at h
    obtain ⟨y', H1, hK, ok1, hx1, hy1, _⟩ := freeze1_ok ok h h1
    obtain ⟨cs', H2, hK2, ok2, hx2, hr2⟩ := freezeL_ok ok1 hK (h2.mono hx1)
    exact ⟨y' :: cs', H2, hK2, ok2, hx1.trans hx2, V, v', rfl, h0, hy1.mono hx2, hr2⟩

theorem cells_size {e : En} {v : SV} {V : Value} (h : RepSegs e (svSegs v) V.cells.toList) : V.cells.size = segsSize (svSegs v) := by
  rw [← Array.length_toList, h.len]

theorem okSV_one {e : En} {v : SV} {V : Value} (h : RepSV e v V) (hv : okSV v = true) : RepSegs e (svSegs v) V.cells.toList := by
  refine cells_of_rep h fun y hy => ?_
  subst hy
  refine RepSc.one h fun hu => ?_
  subst hu
  cases hv

theorem run_storeVar {t : TypeId} {n : Nat} (hsz : (sizeOf t).run P w = .ok n w) {ad : Addr} {U : Value} (hU : U.cells.size = n) {w' : World} (h : (storeCells ad U.cells.toList).run P w = .ok () w') :
    (storeVar t ad U).run P w = .ok () w' := by
  simp [storeVar, hsz, hU, h]

theorem storeAt_ok {agg : Bool} {n : Nat} {t : TypeId} {p : Sc} {v : SV} {V U : Value} {K : Heap → Option R} (ht : aggO P t = some (agg, n)) (h : storeAt n H p v K = some x) (ok : HeapOk w β F H)
    (hp : RepSc (en w β F H) p V) (hv : RepSV (en w β F H) v U) :
    ∃ w' H', (Instr.storeAt t V U).run P w = .ok () w' ∧ HeapOk w' β F H' ∧ Ext (en w β F H) (en w' β F H') ∧ K H' = some x := by
  obtain ⟨ha, hsz, _, hn0⟩ := aggO_spec ht w
  unfold storeAt at h
  split at h
  · rename_i r o
    obtain ⟨hb, h1⟩ := bif_none h
    clear h
    rw [Bool.and_eq_true] at hb
    have hn : segsSize (svSegs v) = n := Nat.eq_of_beq_eq_true hb.1
    have hus := okSV_one hv hb.2
    have hul : U.cells.toList.length = n := by rw [hus.len, hn]
    obtain ⟨hr, rfl⟩ := hp
    split at h1
    · rename_i sg hH
      split at h1
      · rename_i sg' hset
        have h0 : 0 < segsSize sg := by
          obtain ⟨vs, hvs, _⟩ := ok.obj r _ hH
          obtain ⟨u, m, t, rfl, h2, h3, _⟩ := setSegs_rep hus sg o sg' vs hset hvs
          have := hvs.len
          simp at this; omega
        obtain ⟨w', hrun, ok', hx⟩ := obj_store (P := P) ok hH (sg' := sg') (us := U.cells.toList) (off := o) (fun vs hvs => by
          obtain ⟨u, m, t, h2, h3, h4, h5⟩ := setSegs_rep hus sg o sg' vs hset hvs
          exact ⟨u, m, t, h2, h3, by rw [h4, hul], h5⟩) hus.one h0
        exact ⟨w', _, by simp [Instr.storeAt, Instr.sureAddr, run_storeVar hsz (by rw [← Array.length_toList]; exact hul) hrun], ok', hx, h1⟩
      · cases h1
    · cases h1
  · rename_i r o i z
    split at h
    · rename_i cs hcs
      have hok : okSV v = true := by
        cases v with
        | agg l => rfl
        | v y =>
          cases y <;> first
            | rfl
            | (exfalso
               have hcs' : cs = [Sc.undef] := by simpa [svSegs, segCells] using hcs.symm
               subst hcs'
               simp only [freezeL, freeze1, widen, freeze0] at h
               (repeat' split at h) <;> first
                 | (cases h; done)
                 | (obtain ⟨hb, _⟩ := bif_none h
                    simp [okSV] at hb))
      have hus := segCells_rep hcs (okSV_one hv hok)
      obtain ⟨cs', H1, h1, ok1, hx1, hus1⟩ := freezeL_ok ok h hus
      clear h
      split at h1
      · rename_i sg hH
        split at h1
        · rename_i s m l g fo hsk
          obtain ⟨hb, h2⟩ := bif_none h1
          clear h1
          simp only [Bool.and_eq_true] at hb
          obtain ⟨⟨⟨hz, hn⟩, hfo⟩, _⟩ := hb
          obtain rfl : z = s.size := Nat.eq_of_beq_eq_true hz
          have hn : cs'.length = n := Nat.eq_of_beq_eq_true hn
          have hfo : fo + n ≤ s.size := Nat.le_of_ble_eq_true hfo
          split at h2
          · rename_i y hy
            obtain ⟨hb, h3⟩ := br_none h2
            clear h2
            have him : i.toNat < m := by simpa using hb
            have hul : U.cells.toList.length = n := by rw [hus1.len, hn]
            have hp1 : RepSc (en w β F H1) (.el r o i s.size) V := hp.mono hx1
            obtain ⟨hr, rfl⟩ := hp1
            have h0 : 0 < segsSize sg := by
              refine Nat.lt_of_lt_of_le ?_ (seek_size hsk)
              have : 0 < m * s.size := Nat.mul_pos (by omega) (by omega)
              simp [segsSize, segSize]; omega
            obtain ⟨w', hrun, ok', hx⟩ := obj_store (P := P) ok1 hH (sg' := setRow s (l.set i.toNat y) sg o) (us := U.cells.toList) (off := o + i.toNat * s.size) (fun vs hvs => by
              have hlm : l.length = m := by
                obtain ⟨_, v', _, _, hlm, _⟩ := seek_rep sg o _ fo vs hsk hvs
                exact hlm
              obtain ⟨u, rv, t, rfl, hu, hrow, _, hput⟩ := setRow_rep (l1 := l.set i.toNat y) sg o m l g fo vs hsk hvs (by simpa using hlm)
              obtain ⟨p1, p2, p3, rfl, hp1, hp2, ht1, hd1⟩ := hrow.at (i := i.toNat) (by omega)
              rw [getD_of (by omega : i.toNat < l.length)] at hy
              have henc := RepT.enc (e := en w β F H1) s _ p2 hp2
              have hp2l := hp2.size
              have hnew : RepT w (en w β F H1).av s y (p2.take fo ++ (U.cells.toList ++ p2.drop (fo + n))) :=
                dec1_rep (e := en w β F H1) hy ((henc.take fo).append (hus1.append (henc.drop (fo + n))))
              have hset := RepRow.set (i := i.toNat) (by omega : i.toNat < l.length) ht1 hd1 hnew
              refine ⟨u ++ (p1 ++ p2.take fo), (p2.drop fo).take n, p2.drop (fo + n) ++ (p3 ++ t), ?_, ?_, by rw [List.length_take, List.length_drop, hul]; omega, ?_⟩
              · have : p2 = p2.take fo ++ ((p2.drop fo).take n ++ p2.drop (fo + n)) := by
                  rw [← List.drop_drop, List.take_append_drop, List.take_append_drop]
                simp only [List.append_assoc]
                rw [← List.append_assoc ((p2.drop fo).take n), ← List.append_assoc (p2.take fo), ← this]
              · simp [List.length_take]; omega
              · have := hput _ hset
                simpa only [List.append_assoc] using this) hus1.one h0
            exact ⟨w', _, by simp [Instr.storeAt, Instr.sureAddr, run_storeVar hsz (by rw [← Array.length_toList]; exact hul) hrun], ok', hx1.trans hx, h3⟩
          · cases h2
        · cases h1
      · cases h1
    · cases h
  · cases h

/-! ### tidying -/
/-- a slice whose row is its own: that row, whole, under a new index -/
theorem reborn_row (ok : HeapOk w β F H) {r : Nat} {s : Sh} {n : Nat} {l : List s.T} (hH : H[r]? = some (.cells [.row s n l])) {lo len : Nat} {cap : Option Nat} {V : Value}
    (hy : RepSc (en w β F H) (.sl r 0 s.size lo len cap) V) (hfit : fits lo len l = true) :
    ∃ β', HeapOk w β' F (H.set r .dead ++ [.cells [.row s len (sub l lo len)]]) ∧ Ext (en w β F H) (en w β' F (H.set r .dead ++ [.cells [.row s len (sub l lo len)]])) ∧
      RepSc (en w β' F (H.set r .dead ++ [.cells [.row s len (sub l lo len)]])) (.wl H.length s.size) V := by
  obtain ⟨hr, hlen, A, C, rfl, hC, hA⟩ := hy
  have hsl := sub_length hfit
  have hsz : ∀ m, szOf (H.set r .dead ++ [.cells [.row s len (sub l lo len)]]) H.length = some m → m = len * s.size := fun m hm => by
    rw [szOf_set_snoc] at hm
    simp [szO, segsSize, segSize] at hm
    exact hm.symm
  by_cases hC0 : 0 < C
  · obtain ⟨rfl, hk, c0, t0, fz0, hc0, hsz0⟩ := hA hC0
    obtain ⟨c, ty, vs, pre, post, hc, hcl, hpre, ⟨hn, rv, v', rfl, hrow, hv'⟩, hvl, hcell⟩ := obj_cells' ok hH hk
    obtain rfl : v' = [] := hv'
    have e0 : w.heap[(β r).b]? = some (.cells c0 t0 fz0) := hc0
    rw [hc] at e0
    cases e0
    have hfit' : lo + len ≤ l.length := by simpa [fits] using hfit
    have hrl := hrow.len
    have hle : (lo + len) * s.size ≤ rv.length := by rw [hrl]; exact Nat.mul_le_mul_right _ hfit'
    rw [Nat.add_mul] at hle
    obtain ⟨h1, h2⟩ := reborn ok r (o' := .cells [.row s len (sub l lo len)]) (p := ⟨(β r).b, (β r).o + lo * s.size, True⟩) (fun _ => ⟨_, hH, hk, rfl⟩) (fun hx =>
      ⟨(rv.drop (lo * s.size)).take (len * s.size), ⟨hsl, _, [], by simp, (hrow.sub lo len).mono hx.kp, rfl⟩, fun h => absurd (by simp [en, upd_eq]) h, fun _ =>
        ⟨c0, t0, pre ++ rv.take (lo * s.size), (rv.drop (lo * s.size)).drop (len * s.size) ++ post, by simp only [en, upd_eq]; exact hc, by
          rw [hcl]
          simp only [List.append_assoc, List.append_nil]
          rw [← List.append_assoc ((rv.drop (lo * s.size)).take (len * s.size)), List.take_append_drop, ← List.append_assoc (rv.take (lo * s.size)), List.take_append_drop], by
          have hpre' : pre.length = (β r).o := hpre
          simp [en, upd_eq, hpre']; omega⟩⟩)
    refine ⟨_, h1, h2, by simp [en], _, len, C, rfl, Nat.le_trans hlen hC, hsz, fun _ => ⟨by simp [addr, en, upd_eq], by simp [en, upd_eq], c0, t0, (0, 0), by simp only [en, upd_eq]; exact hc, ?_⟩⟩
    simp only [en, upd_eq] at hsz0 ⊢
    rw [Nat.add_mul] at hsz0
    omega
  · obtain ⟨rfl, rfl⟩ : C = 0 ∧ len = 0 := ⟨by omega, by omega⟩
    have hnil : sub l lo 0 = [] := by simp [sub]
    obtain ⟨h1, h2⟩ := reborn ok r (o' := .cells [.row s 0 (sub l lo 0)]) (p := ⟨0, 0, False⟩) (fun h => h.elim) (fun hx =>
      ⟨[], ⟨hsl, [], [], rfl, by rw [hnil]; rfl, rfl⟩, fun _ => by simp [segsSize, segSize], fun h => by simp [en, upd_eq] at h⟩)
    exact ⟨_, h1, h2, by simp [en], _, 0, 0, rfl, Nat.le_refl _, hsz, fun h => absurd h (Nat.lt_irrefl _)⟩

theorem sub_whole {α : Type} {l : List α} {n : Nat} (h : l.length = n) : sub l 0 n = l := by subst h; simp [sub]

/-- one slice tidied -/
theorem reb1_ok (ok : HeapOk w β F H) {hot : List Nat} {one : Nat → Bool} {pr : Option (Bool × Sh)} {y : Sc} {V : Value} {K : Sc → Heap → Option R} (h : reb1 hot one pr y H K = some x) (hy : RepSc (en w β F H) y V) :
    ∃ y' H' β', K y' H' = some x ∧ HeapOk w β' F H' ∧ Ext (en w β F H) (en w β' F H') ∧ RepSc (en w β' F H') y' V ∧ KeepsO H H' := by
  have same : ∀ y', K y' H = some x → RepSc (en w β F H) y' V → ∃ y' H' β', K y' H' = some x ∧ HeapOk w β' F H' ∧ Ext (en w β F H) (en w β' F H') ∧ RepSc (en w β' F H') y' V ∧ KeepsO H H' :=
    fun y' h hy => ⟨y', H, β, h, ok, Ext.refl _, hy, .refl _⟩
  have virt : ∀ (s : Sh) A, V = .slice A 0 0 → K (.wl H.length s.size) (H ++ [.cells [.row s 0 []]]) = some x →
      ∃ y' H' β', K y' H' = some x ∧ HeapOk w β' F H' ∧ Ext (en w β F H) (en w β' F H') ∧ RepSc (en w β' F H') y' V ∧ KeepsO H H' := fun s A hV h => by
    obtain ⟨h1, h2⟩ := new_virt ok s
    subst hV
    exact ⟨_, _, _, h, h1, h2, virt_rep, .snoc⟩
  have nolist : ∀ (s : Sh) A, V = .slice A 0 0 → RepSc (en w β F H) (.isl s []) V := fun s A hV => ⟨A, 0, hV, Nat.le_refl _, fun h => absurd rfl h⟩
  unfold reb1 at h
  split at h
  · split at h
    · rename_i s
      cases hb : Nat.blt 0 s.size with
      | true => rw [hb] at h; exact virt s none hy h
      | false => rw [hb] at h; exact same _ h hy
    · exact same _ h (nolist _ none hy)
    · exact same _ h hy
  · obtain ⟨A, hV⟩ := id hy
    split at h
    · rename_i s
      cases hb : Nat.blt 0 s.size with
      | true => rw [hb] at h; exact virt s A hV h
      | false => rw [hb] at h; exact same _ h hy
    · exact same _ h (nolist _ A hV)
    · exact same _ h hy
  · rename_i r z
    split at h
    · obtain ⟨y', H', h1, h2, h3, h4, _, h6⟩ := freeze1_ok ok h hy
      exact ⟨y', H', β, h1, h2, h3, h4, h6⟩
    cases hb : (hot.contains r && one r) with
    | false => rw [hb] at h; exact same _ h hy
    | true =>
      rw [hb] at h
      simp only [cond_true] at h
      split at h
      · rename_i s n l hH
        cases hb : (Nat.beq z s.size && Nat.blt 0 s.size) with
        | false => rw [hb] at h; exact same _ h hy
        | true =>
          rw [hb] at h
          simp only [cond_true] at h
          have hw := widen_rep hy
          simp only [widen, hH, hb, cond_true] at hw
          rw [Bool.and_eq_true] at hb
          obtain rfl : z = s.size := Nat.eq_of_beq_eq_true hb.1
          have hn : l.length = n := by obtain ⟨vs, ⟨hn, _⟩, _⟩ := ok.obj r _ hH; exact hn
          obtain ⟨β', h1, h2, h3⟩ := reborn_row ok hH hw (by simp [fits, hn])
          rw [sub_whole hn] at h1 h2 h3
          exact ⟨_, _, β', h, h1, h2, h3, .kill hH⟩
      · exact same _ h hy
  · rename_i r o z lo len cap
    split at h
    · obtain ⟨y', H', h1, h2, h3, h4, _, h6⟩ := freeze1_ok ok h hy
      exact ⟨y', H', β, h1, h2, h3, h4, h6⟩
    split at h
    · cases hb : one r with
      | false => rw [hb] at h; exact same _ h hy
      | true =>
        rw [hb] at h
        simp only [cond_true] at h
        split at h
        · rename_i s n l hH
          cases hb : (Nat.beq z s.size && Nat.blt 0 s.size) with
          | false => rw [hb] at h; exact same _ h hy
          | true =>
            rw [hb] at h
            simp only [cond_true] at h
            rw [Bool.and_eq_true] at hb
            obtain rfl : z = s.size := Nat.eq_of_beq_eq_true hb.1
            obtain ⟨hfit, h⟩ := br_none h
            obtain ⟨β', h1, h2, h3⟩ := reborn_row ok hH hy hfit
            exact ⟨_, _, β', h, h1, h2, h3, .kill hH⟩
        · exact same _ h hy
    · exact same _ h hy
  · exact same _ h hy

theorem rebSegs_ok {hot : List Nat} {one : Nat → Bool} {f : Nat → Option (Bool × Sh)} : ∀ {sg : List Seg} {i : Nat} {H : Heap} {β : Nat → Loc} {vs : List Value} {K : List Seg → Nat → Heap → Option R}, HeapOk w β F H →
    rebSegs hot one f sg i H K = some x → RepSegs (en w β F H) sg vs →
    ∃ sg' i' H' β', K sg' i' H' = some x ∧ HeapOk w β' F H' ∧ Ext (en w β F H) (en w β' F H') ∧ RepSegs (en w β' F H') sg' vs ∧ segsSize sg' = segsSize sg ∧ KeepsO H H'
  | [], i, H, β, vs, K, ok, h, hs => ⟨[], i, H, β, h, ok, Ext.refl _, hs, rfl, .refl _⟩
  | .c y :: r, i, H, β, vs, K, ok, h, hs => by
    obtain ⟨V, v, rfl, h1, h2, h3⟩ := hs
    obtain ⟨y', H1, β1, k1, ok1, hx1, hy1, q1⟩ := reb1_ok ok h h2
    obtain ⟨r', i', H2, β2, k2, ok2, hx2, hr2, hsz, q2⟩ := rebSegs_ok ok1 k1 (h3.mono hx1)
    exact ⟨_, i', H2, β2, k2, ok2, hx1.trans hx2, ⟨V, v, rfl, h1, RepSc.mono hx2 _ _ hy1, hr2⟩, by simp [segsSize, segSize, hsz], q1.trans q2⟩
  | .row s n l :: r, i, H, β, vs, K, ok, h, hs => by
    obtain ⟨hn, u, v, rfl, h2, h3⟩ := hs
    have h : rebSegs hot one f r (i + 1) H (fun r i H => K (.row s n l :: r) i H) = some x := h
    obtain ⟨r', i', H2, β2, k2, ok2, hx2, hr2, hsz, q⟩ := rebSegs_ok ok h h3
    exact ⟨.row s n l :: r', i', H2, β2, k2, ok2, hx2, ⟨hn, u, v, rfl, h2.mono hx2.kp, hr2⟩, by simp [segsSize, segSize, hsz], q⟩

theorem rebSV_ok {hot : List Nat} {one : Nat → Bool} {f : Nat → Option (Bool × Sh)} (ok : HeapOk w β F H) {v : SV} {i : Nat} {V : Value} {K : SV → Nat → Heap → Option R}
    (h : rebSV hot one f v i H K = some x) (hs : RepSV (en w β F H) v V) :
    ∃ v' i' H' β', K v' i' H' = some x ∧ HeapOk w β' F H' ∧ Ext (en w β F H) (en w β' F H') ∧ RepSV (en w β' F H') v' V := by
  cases v with
  | v y =>
    have h : reb1 hot one (f i) y H (fun y H => K (.v y) (i + 1) H) = some x := h
    obtain ⟨y', H1, β1, k1, ok1, hx1, hy1, _⟩ := reb1_ok ok h hs
    exact ⟨.v y', _, H1, β1, k1, ok1, hx1, hy1⟩
  | agg l =>
    obtain ⟨vs, rfl, hl⟩ := hs
    have h : rebSegs hot one f l i H (fun l i H => K (.agg l) i H) = some x := h
    obtain ⟨l', i', H1, β1, k1, ok1, hx1, hy1, _⟩ := rebSegs_ok ok h hl
    exact ⟨.agg l', _, H1, β1, k1, ok1, hx1, vs, rfl, hy1⟩

theorem rebSVs_ok {hot : List Nat} {one : Nat → Bool} {f : Nat → Option (Bool × Sh)} : ∀ {l : List SV} {i : Nat} {H : Heap} {β : Nat → Loc} {vs : List Value} {K : List SV → Nat → Heap → Option R}, HeapOk w β F H →
    rebSVs hot one f l i H K = some x → RepSVs (en w β F H) l vs →
    ∃ l' i' H' β', K l' i' H' = some x ∧ HeapOk w β' F H' ∧ Ext (en w β F H) (en w β' F H') ∧ RepSVs (en w β' F H') l' vs
  | [], i, H, β, vs, K, ok, h, hs => ⟨[], i, H, β, h, ok, Ext.refl _, hs⟩
  | y :: r, i, H, β, vs, K, ok, h, hs => by
    obtain ⟨V, v, rfl, h2, h3⟩ := hs
    obtain ⟨y', i1, H1, β1, k1, ok1, hx1, hy1⟩ := rebSV_ok ok h h2
    obtain ⟨r', i', H2, β2, k2, ok2, hx2, hr2⟩ := rebSVs_ok ok1 k1 (h3.mono hx1)
    exact ⟨_, i', H2, β2, k2, ok2, hx1.trans hx2, V, v, rfl, hy1.mono hx2, hr2⟩

theorem rebSlot_ok {hot : List Nat} {one : Nat → Bool} {f : Nat → Option (Bool × Sh)} (ok : HeapOk w β F H) {v : Slot} {i : Nat} {V : Value} {K : Slot → Nat → Heap → Option R}
    (h : rebSlot hot one f v i H K = some x) (hs : RepSlot (en w β F H) v V) :
    ∃ v' i' H' β', K v' i' H' = some x ∧ HeapOk w β' F H' ∧ Ext (en w β F H) (en w β' F H') ∧ RepSlot (en w β' F H') v' V := by
  cases v with
  | sv y =>
    have h : rebSV hot one f y i H (fun v i H => K (.sv v) i H) = some x := h
    obtain ⟨y', i1, H1, β1, k1, ok1, hx1, hy1⟩ := rebSV_ok ok h hs
    exact ⟨.sv y', _, H1, β1, k1, ok1, hx1, hy1⟩
  | tup l =>
    obtain ⟨vs, rfl, hl⟩ := hs
    have h : rebSVs hot one f l i H (fun l i H => K (.tup l) i H) = some x := h
    obtain ⟨l', i1, H1, β1, k1, ok1, hx1, hy1⟩ := rebSVs_ok ok h hl
    exact ⟨.tup l', _, H1, β1, k1, ok1, hx1, vs, rfl, hy1⟩
  | undef => exact ⟨_, _, H, β, h, ok, Ext.refl _, trivial⟩

theorem rebSlots_ok {hot : List Nat} {one : Nat → Bool} {f : Nat → Option (Bool × Sh)} : ∀ {l : List Slot} {i : Nat} {H : Heap} {β : Nat → Loc} {vs : Nat → Value} {K : List Slot → Heap → Option R}, HeapOk w β F H →
    rebSlots hot one f l i H K = some x → (∀ j s, l[j]? = some s → RepSlot (en w β F H) s (vs j)) →
    ∃ l' H' β', K l' H' = some x ∧ HeapOk w β' F H' ∧ Ext (en w β F H) (en w β' F H') ∧ l'.length = l.length ∧ ∀ j s, l'[j]? = some s → RepSlot (en w β' F H') s (vs j)
  | [], i, H, β, vs, K, ok, h, hs => ⟨[], H, β, h, ok, Ext.refl _, rfl, hs⟩
  | y :: r, i, H, β, vs, K, ok, h, hs => by
    obtain ⟨y', i1, H1, β1, k1, ok1, hx1, hy1⟩ := rebSlot_ok ok h (hs 0 y rfl)
    obtain ⟨r', H2, β2, k2, ok2, hx2, hl, hr2⟩ := rebSlots_ok (vs := fun j => vs (j + 1)) ok1 k1 fun j s hj => (hs (j + 1) s (by simpa using hj)).mono hx1
    refine ⟨_, H2, β2, k2, ok2, hx1.trans hx2, by simp [hl], fun j s hj => ?_⟩
    cases j with
    | zero => simp at hj; subst hj; exact hy1.mono hx2
    | succ j => exact hr2 j s (by simpa using hj)

/-- an object read anew -/
theorem reread (ok : HeapOk w β F H) {i : Nat} {sg sg' : List Seg} (hH : H[i]? = some (.cells sg)) (hsz : segsSize sg' = segsSize sg) (ho : RepObj (en w β F H) i (.cells sg')) :
    HeapOk w β F (H.set i (.cells sg')) ∧ Ext (en w β F H) (en w β F (H.set i (.cells sg'))) := by
  have hx : Ext (en w β F H) (en w β F (H.set i (.cells sg'))) := {
    n := by simp [en]
    β := fun _ _ => rfl
    size := Nat.le_refl _
    kept := fun _ _ _ => rfl
    sub := fun b _ ⟨q, o, h1, h2, h3⟩ => by
      rcases get_set h1 with ⟨rfl, rfl⟩ | ⟨_, h4⟩
      · exact ⟨q, _, hH, h2, h3⟩
      · exact ⟨q, o, h4, h2, h3⟩
    F := rfl
    sz := fun q m _ hm => by
      obtain ⟨l, h1, h2⟩ := szOf_some hm
      rcases get_set h1 with ⟨rfl, e⟩ | ⟨_, h4⟩
      · cases e
        exact (szOf_of hH).trans (by simp [szO, ← hsz, h2])
      · exact (szOf_of h4).trans (by simp [szO, h2])
    grow := fun b c t f hb => ⟨c, f, hb, rfl⟩
    out := ⟨rfl, rfl⟩
    froz := fun b c t f hb => .inr ⟨c, hb⟩ }
  refine ⟨⟨fun q o hq => ?_, fun q o hq ho => ?_, fun q q' o o' hq hq' ho ho' e => ?_, ok.F⟩, hx⟩
  · rcases get_set hq with ⟨rfl, rfl⟩ | ⟨_, h4⟩
    · exact ho.mono hx (lt_len hH) fun _ => rfl
    · exact RepObj.keep ok hx h4 fun _ => rfl
  · rcases get_set hq with ⟨rfl, rfl⟩ | ⟨_, h4⟩
    · exact ok.lt q _ hH ho
    · exact ok.lt q o h4 ho
  · rcases get_set hq with ⟨k, k2⟩ | ⟨_, k⟩ <;> rcases get_set hq' with ⟨k', k2'⟩ | ⟨_, k'⟩
    · rw [k, k']
    · subst k2; rw [k] at e ho ⊢; exact ok.inj i q' _ o' hH k' ho ho' e
    · subst k2'; rw [k'] at e ho' ⊢; exact ok.inj q i o _ k hH ho ho' e
    · exact ok.inj q q' o o' k k' ho ho' e

theorem rebObjs_ok {hot : List Nat} {one : Nat → Bool} : ∀ {is : List Nat} {H : Heap} {β : Nat → Loc} {K : Heap → Option R}, HeapOk w β F H → rebObjs hot one is H K = some x →
    ∃ H' β', K H' = some x ∧ HeapOk w β' F H' ∧ Ext (en w β F H) (en w β' F H')
  | [], H, β, K, ok, h => ⟨H, β, h, ok, Ext.refl _⟩
  | i :: is, H, β, K, ok, h => by
    simp only [rebObjs] at h
    split at h
    · rename_i sg hH
      cases hb : sg.any isSl with
      | false => rw [hb] at h; exact rebObjs_ok ok h
      | true =>
        rw [hb] at h
        simp only [cond_true] at h
        obtain ⟨vs, hvs, h0, hk⟩ := ok.obj i _ hH
        obtain ⟨sg', i', H1, β1, k1, ok1, hx1, hr1, hsz, q⟩ := rebSegs_ok ok h hvs
        have hH1 : H1[i]? = some (.cells sg) := q i _ hH fun s n l e => by cases e; simp [isSl] at hb
        have hβ : β1 i = β i := hx1.β i (lt_len hH)
        obtain ⟨ok2, hx2⟩ := reread ok1 hH1 hsz ⟨vs, hr1, fun hn => by
          have hn : ¬ (β1 i).k := hn
          rw [hsz]; exact h0 (by rw [hβ] at hn; exact hn), fun hkk => by
          have hkk : (β1 i).k := hkk
          have := hk (by rw [hβ] at hkk; exact hkk)
          show ∃ c t pre post, w.heap[(β1 i).b]? = _ ∧ _ ∧ _ = (β1 i).o
          rw [hβ]
          exact this⟩
        obtain ⟨H', β', k3, ok3, hx3⟩ := rebObjs_ok ok2 k1
        exact ⟨H', β', k3, ok3, (hx1.trans hx2).trans hx3⟩
    · exact rebObjs_ok ok h

end
end Go.Gx
