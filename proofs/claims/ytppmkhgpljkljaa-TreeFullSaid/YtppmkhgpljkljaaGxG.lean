/-
  Gx, part G: operations that make, change and give up memory: new variables, stores, rows.
-/
import Derived.Test.YtppmkhgpljkljaaGxF
namespace Go.Gx
section
variable {R : Type} {P : Program} {w : World} {β : Nat → Nat × Nat} {F : Nat → Prop} {H : Heap} {fr : Fr} {a : Act} {x : R}

/-! ### noughts -/
theorem scMatch_rep {e : En} {y : Sc} {v : Value} (h : scMatch y v = true) : RepSc e y v ∧ v.oneCell' = true := by
  unfold scMatch at h
  split at h
  · simp at h; obtain ⟨rfl, rfl⟩ := h; exact ⟨rfl, rfl⟩
  · simp at h; subst h; exact ⟨rfl, rfl⟩
  · simp at h; subst h; exact ⟨rfl, rfl⟩
  · rename_i s l
    have : l = [] := by cases l <;> simp_all
    subst this
    exact ⟨⟨none, 0, rfl, Nat.le_refl _, fun h => absurd rfl h⟩, rfl⟩
  · exact ⟨rfl, rfl⟩
  · exact ⟨rfl, rfl⟩
  · exact ⟨rfl, rfl⟩
  · exact ⟨rfl, rfl⟩
  · cases h

theorem scsMatch_rep {e : En} : ∀ {cs : List Sc} {vs r : List Value}, scsMatch cs vs = some r → ∃ u, vs = u ++ r ∧ RepScs e cs u
  | [], vs, r, h => by cases h; exact ⟨[], rfl, rfl⟩
  | y :: cs, v :: vs, r, h => by
    simp only [scsMatch] at h
    obtain ⟨h1, h2⟩ := bif_none h
    obtain ⟨u, rfl, h3⟩ := scsMatch_rep (e := e) h2
    obtain ⟨h4, h5⟩ := scMatch_rep (e := e) h1
    exact ⟨v :: u, rfl, v, u, rfl, h5, h4, h3⟩
  | y :: cs, [], r, h => by cases h

/-- cells that fit a datum's own are a reading of it -/
theorem RepT.of_enc {e : En} : ∀ (s : Sh) (y : s.T) (vs : List Value), RepScs e (Gx.enc s y) vs → RepT e.w e.av s y vs
  | .int k, y, vs, h => by obtain ⟨V, v, rfl, _, h1, h2⟩ := h; rw [show v = [] from h2, show V = _ from h1]; rfl
  | .bool, y, vs, h => by obtain ⟨V, v, rfl, _, h1, h2⟩ := h; rw [show v = [] from h2, show V = _ from h1]; rfl
  | .str, y, vs, h => by obtain ⟨V, v, rfl, _, h1, h2⟩ := h; rw [show v = [] from h2, show V = _ from h1]; rfl
  | .isl s, y, vs, h => by
    obtain ⟨V, v, rfl, _, h1, h2⟩ := h
    rw [show v = [] from h2]
    exact ⟨V, rfl, h1⟩
  | .pair a b, y, vs, h => by
    obtain ⟨u, v, rfl, h1, h2⟩ := RepScs.split h
    exact ⟨u, v, rfl, RepT.of_enc a _ _ h1, RepT.of_enc b _ _ h2⟩
  | .unit, _, vs, h => h

theorem rowMatch_rep {e : En} {s : Sh} : ∀ {l : List s.T} {vs r : List Value}, rowMatch s l vs = some r → ∃ u, vs = u ++ r ∧ RepRow e.w e.av s l u
  | [], vs, r, h => by cases h; exact ⟨[], rfl, rfl⟩
  | y :: l, vs, r, h => by
    simp only [rowMatch] at h
    split at h
    · rename_i r1 h1
      obtain ⟨u, rfl, h2⟩ := scsMatch_rep (e := e) h1
      obtain ⟨v, rfl, h3⟩ := rowMatch_rep h
      exact ⟨u ++ v, by simp, u, v, rfl, RepT.of_enc s y u h2, h3⟩
    · cases h

theorem cellMatch_rep {e : En} : ∀ {l : List Seg} {vs : List Value}, cellMatch l vs = true → RepSegs e l vs
  | [], [], _ => rfl
  | [], _ :: _, h => by simp [cellMatch] at h
  | .c y :: r, [], h => by simp [cellMatch] at h
  | .c y :: r, v :: vs, h => by
    simp only [cellMatch, Bool.and_eq_true] at h
    obtain ⟨h1, h2⟩ := scMatch_rep (e := e) h.1
    exact ⟨v, vs, rfl, h2, h1, cellMatch_rep h.2⟩
  | .row s n l :: r, vs, h => by
    have h : (bif Nat.beq l.length n then match rowMatch s l vs with
      | some t => cellMatch r t
      | none => false
      else false) = true := by cases vs <;> exact h
    cases hb : Nat.beq l.length n with
    | false => rw [hb] at h; cases h
    | true =>
      rw [hb] at h
      simp only [cond_true] at h
      split at h
      · rename_i t ht
        obtain ⟨u, rfl, h1⟩ := rowMatch_rep (e := e) ht
        rename_i h2
        exact ⟨Nat.eq_of_beq_eq_true hb, u, t, rfl, h1, cellMatch_rep h2⟩
      · cases h

theorem zeroOf_spec {t : TypeId} {l : List Seg} (h : zeroOf P t = some l) : ∃ i z, P.info? t = some i ∧ i.zero = some z ∧ (∀ e : En, RepSegs e l z.cells.toList) ∧ segsSize l = i.size := by
  unfold zeroOf at h
  split at h
  · rename_i l' i hl hi
    split at h
    · rename_i z hz
      obtain ⟨hb, h⟩ := bif_none h
      cases h
      rw [Bool.and_eq_true] at hb
      exact ⟨i, z, hi, hz, fun e => cellMatch_rep hb.1, Nat.eq_of_beq_eq_true hb.2⟩
    · cases h
  · cases h

theorem run_zero {t : TypeId} {i : TypeInfo} {z : Value} (hi : P.info? t = some i) (hz : i.zero = some z) (w : World) : (zeroValue t).run P w = .ok z w := by
  simp [zeroValue, run_info hi, hz]

theorem elemOf_spec {t : TypeId} {s : Sh} (h : elemOf P t = some s) : ∃ i z, P.info? t = some i ∧ i.zero = some z ∧ (∀ e : En, RepT e.w e.av s s.zero z.cells.toList) ∧ s.size = i.size ∧ 0 < s.size ∧ z.cells.size = s.size := by
  unfold elemOf at h
  split at h
  · rename_i s' i hs hi
    split at h
    · rename_i z hz
      obtain ⟨hb, h⟩ := bif_none h
      cases h
      simp only [Bool.and_eq_true] at hb
      obtain ⟨⟨h1, h2⟩, h3⟩ := hb
      have hr : ∀ e : En, RepT e.w e.av s s.zero z.cells.toList := fun e => by
        obtain ⟨_, u, v, e1, ⟨u1, u2, rfl, h4, h5⟩, h6⟩ := cellMatch_rep (e := e) h1
        rw [e1, show u2 = [] from h5, show v = [] from h6]
        simpa using h4
      refine ⟨i, z, hi, hz, hr, Nat.eq_of_beq_eq_true h2, by simpa using h3, ?_⟩
      have := (hr ⟨default, fun _ => (0, 0), fun _ => False, fun _ => False, fun _ => False, 0⟩).size
      simpa using this
    · cases h
  · cases h

/-! ### new variables -/
theorem cells_of_rep {e : En} {v : SV} {V : Value} (h : RepSV e v V) (h1 : ∀ y, v = .v y → V.oneCell' = true) : RepSegs e (svSegs v) V.cells.toList := by
  cases v with
  | agg l => obtain ⟨vs, rfl, hl⟩ := h; simpa [Value.cells, svSegs] using hl
  | v y =>
    have hV := h1 y rfl
    have : V.cells = #[V] := by cases V <;> first | rfl | (simp [Value.oneCell'] at hV)
    rw [this]
    exact ⟨V, [], rfl, hV, h, rfl⟩

theorem RepSc.one {e : En} {y : Sc} {V : Value} (h : RepSc e y V) (hy : y ≠ .undef) : V.oneCell' = true := by
  cases y with
  | int | bool | str | nilp | nils | nilm | nilf => rw [show V = _ from h]; rfl
  | ptr | el | map => obtain ⟨_, rfl⟩ := h; rfl
  | eptr => obtain ⟨_, _, _, _, rfl⟩ := h; rfl
  | sl => obtain ⟨_, _, _, _, rfl, _⟩ := h; rfl
  | isl => obtain ⟨_, _, rfl, _⟩ := h; rfl
  | emp => obtain ⟨_, rfl⟩ := h; rfl
  | fn => obtain ⟨_, rfl⟩ := h; rfl
  | undef => exact absurd rfl hy

theorem sup_alloc (w : World) (o : Go.Obj) : Sup w (w.alloc o) := fun b p h => by rw [heap_alloc_old (lt_of_heap h)]; exact h

/-- a new variable: what it holds -/
theorem alloc_ok (ok : HeapOk w β F H) (t : TypeId) {sg : List Seg} {V : Value} (hs : RepSegs (en w β F H) sg V.cells.toList) {K : Slot → Heap → Option R}
    (hK : K (.sv (.v (.ptr H.length 0))) (H ++ [.cells sg]) = some x) :
    ∃ w', (newVar t V).run P w = .ok ⟨w.heap.size, 0, none⟩ w' ∧ Sup w w' ∧ Res w β F H x K (.pointer (some ⟨w.heap.size, 0, none⟩)) w' := by
  obtain ⟨h1, h2⟩ := new_cells ok t hs (.inl rfl)
  exact ⟨w.alloc (.cells V.cells t), by simp [newVar, newRow], sup_alloc w _, .sv (.v (.ptr H.length 0)), _, _, h1, h2, ⟨by simp [en], by simp [addr, en, upd_eq]⟩, hK⟩

/-! ### stores -/
/-- the cells of an object, some of them by others -/
theorem obj_store (ok : HeapOk w β F H) {r : Nat} {sg sg' : List Seg} (hH : H[r]? = some (.cells sg)) {us : List Value} {off : Nat}
    (hvs : ∀ vs : List Value, RepSegs (en w β F H) sg vs → ∃ u m t : List Value, vs = u ++ (m ++ t) ∧ u.length = off ∧ m.length = us.length ∧ RepSegs (en w β F H) sg' (u ++ (us ++ t)))
    (hone : ∀ v ∈ us, v.oneCell' = true) (h0 : 0 < segsSize sg) :
    ∃ w', (storeCells (addr (en w β F H) r off) us).run P w = .ok () w' ∧ HeapOk w' β F (H.set r (.cells sg')) ∧ Ext (en w β F H) (en w' β F (H.set r (.cells sg'))) := by
  obtain ⟨c, ty, vs, pre, post, hc, hcl, hpre, hrep, hlen, _⟩ := obj_cells ok hH h0
  obtain ⟨u, m, t, rfl, hu, hm, hrep'⟩ := hvs vs hrep
  have hpre' : pre.length = (β r).2 := hpre
  have hcs : c.size = pre.length + (u ++ (m ++ t)).length + post.length := by rw [← Array.length_toList, hcl]; simp; omega
  have hrun := run_storeCells_of (P := P) (a := addr (en w β F H) r off) (t := ty) rfl us 0 w c hc (by
    simp only [addr, en, List.length_append] at *; omega) hone
  have hspl := splice_list us c ((β r).2 + off) (pre ++ u) m (t ++ post) (by rw [hcl]; simp) (by simp; omega) hm
  have hoff : (addr (en w β F H) r off).off + 0 = (β r).2 + off := rfl
  rw [hoff] at hrun
  have hbl : (addr (en w β F H) r off).block = (β r).1 := rfl
  rw [hbl] at hrun
  have hb : (β r).1 < w.heap.size := lt_of_heap hc
  have h0' : owns (.cells sg') := by
    have h1 := hrep'.len
    have h2 := hrep.len
    simp only [List.length_append] at h1 h2
    show 0 < segsSize sg'
    omega
  have hx : Ext (en w β F H) (en (setB w (β r).1 (.cells (splice c ((β r).2 + off) us) ty (0, 0))) β F (H.set r (.cells sg'))) :=
    ext_set hH h0 h0' size_setB (fun b hb' => heap_setB_other hb') ⟨rfl, rfl⟩ (fun c' t' f' h' => by rw [heap_setB_same hb] at h'; cases h'; rfl) fun c' t' f' h' => by
      rw [hc] at h'
      cases h'
      exact ⟨_, _, heap_setB_same hb, splice_size _ _ _⟩
  refine ⟨_, hrun, ok_set ok hH h0 size_setB (fun b hb' => heap_setB_other hb') hx ⟨u ++ (us ++ t), hrep'.mono hx, fun _ => ?_⟩, hx⟩
  exact ⟨_, ty, pre, post, heap_setB_same hb, by rw [hspl]; simp, hpre⟩

/-- a row's piece in the world -/
theorem row_piece {e : En} {s : Sh} {l : List s.T} {rv : List Value} (hrow : RepRow e.w e.av s l rv) {ad : Addr} {c : Array Value} {t : TypeId} {f : Nat × Nat} (hs : ad.spot = none)
    (hc : e.w.heap[ad.block]? = some (.cells c t f)) {lo len base : Nat} (hcell : ∀ j v, rv[j]? = some v → c[base + j]? = some v) (hoff : ad.off = base + lo * s.size) :
    RowAt e.w (RepT e.w e.av s) s.size ad (sub l lo len) := by
  refine (hrow.sub lo len).rowAt hs hc fun j v hj => ?_
  have hlt := (List.getElem?_eq_some_iff.1 hj).1
  rw [List.length_take, List.length_drop] at hlt
  rw [List.getElem?_take_of_lt (by omega), List.getElem?_drop] at hj
  have := hcell _ v hj
  rw [hoff, Nat.add_assoc]
  exact this

theorem sub_length {α : Type} {l : List α} {lo len : Nat} (h : fits lo len l = true) : (sub l lo len).length = len := by
  have : lo + len ≤ l.length := by simpa [fits] using h
  simp [sub]; omega

/-- a slice whose row is given up: it is a list from now on -/
theorem freeze1_ok (ok : HeapOk w β F H) {y : Sc} {K : Sc → Heap → Option R} {V : Value} (h : freeze1 H y K = some x) (hy : RepSc (en w β F H) y V) :
    ∃ y' H', K y' H' = some x ∧ HeapOk w β F H' ∧ Ext (en w β F H) (en w β F H') ∧ RepSc (en w β F H') y' V ∧ (y = .undef → y' = .undef) := by
  unfold freeze1 at h
  split at h
  · rename_i r z lo len cap
    split at h
    · rename_i s l hrow
      obtain ⟨hz, h1⟩ := bif_none h
      clear h
      rw [Bool.and_eq_true] at hz
      obtain rfl : z = s.size := Nat.eq_of_beq_eq_true hz.1
      have hs0 : 0 < s.size := by simpa using hz.2
      obtain ⟨hfit, hK⟩ := br_none h1
      refine ⟨_, _, hK, ok_kill ok r, ext_kill, ?_, fun h => (nomatch h)⟩
      unfold rowOwn at hrow
      split at hrow
      · rename_i s' n l' hH
        cases hrow
        obtain ⟨hr, hlen, A, C, rfl, hC, hA⟩ := hy
        have hsub := sub_length hfit
        refine ⟨A, C, by rw [hsub], by rw [hsub]; omega, fun hne => ?_⟩
        have hl0 : 0 < len := by rw [← hsub]; exact List.length_pos_iff.2 hne
        obtain ⟨rfl, _⟩ := hA (by omega)
        have hn : l.length = n := by obtain ⟨vs, ⟨hn, _⟩, _⟩ := ok.obj r _ hH; exact hn
        have hfit' : lo + len ≤ l.length := by simpa [fits] using hfit
        have h0 : 0 < segsSize [Seg.row s n l] := by
          have : 0 < n * s.size := Nat.mul_pos (by omega) hs0
          simpa [segsSize, segSize] using this
        obtain ⟨c, ty, vs, pre, post, hc, hcl, hpre, ⟨_, rv, v', rfl, hrowr, hv'⟩, hvl, hcell⟩ := obj_cells ok hH h0
        obtain rfl : v' = [] := hv'
        refine ⟨_, rfl, not_av_kill ok hH h0, row_piece (e := en w β F (H.set r .dead)) (hrowr.mono ext_kill.kp) rfl hc (base := (β r).2) (fun j v hj => hcell j v (by simpa using hj)) ?_⟩
        simp [addr, en]
      · cases hrow
    · cases h
  · cases h
  · exact ⟨y, H, h, ok, Ext.refl _, hy, fun h => h⟩

theorem freezeL_ok : ∀ {cs : List Sc} {H : Heap} {K : List Sc → Heap → Option R} {vs : List Value}, HeapOk w β F H → freezeL H cs K = some x → RepScs (en w β F H) cs vs →
    ∃ cs' H', K cs' H' = some x ∧ HeapOk w β F H' ∧ Ext (en w β F H) (en w β F H') ∧ RepScs (en w β F H') cs' vs
  | [], H, K, vs, ok, h, hr => ⟨[], H, h, ok, Ext.refl _, hr⟩
  | y :: cs, H, K, vs, ok, h, hr => by
    obtain ⟨V, v', rfl, h0, h1, h2⟩ := hr
    simp only [freezeL] at h
    obtain ⟨y', H1, hK, ok1, hx1, hy1, _⟩ := freeze1_ok ok h h1
    obtain ⟨cs', H2, hK2, ok2, hx2, hr2⟩ := freezeL_ok ok1 hK (h2.mono hx1)
    exact ⟨y' :: cs', H2, hK2, ok2, hx1.trans hx2, V, v', rfl, h0, hy1.mono hx2, hr2⟩

theorem cells_size {e : En} {v : SV} {V : Value} (h : RepSegs e (svSegs v) V.cells.toList) : V.cells.size = segsSize (svSegs v) := by
  rw [← Array.length_toList, h.len]

theorem okSV_one {e : En} {v : SV} {V : Value} (h : RepSV e v V) (hv : okSV v = true) : RepSegs e (svSegs v) V.cells.toList := by
  refine cells_of_rep h fun y hy => ?_
  subst hy
  refine RepSc.one h fun hu => ?_
  subst hu
  cases hv

theorem run_storeVar {t : TypeId} {n : Nat} (hsz : (sizeOf t).run P w = .ok n w) {ad : Addr} {U : Value} (hU : U.cells.size = n) {w' : World} (h : (storeCells ad U.cells.toList).run P w = .ok () w') :
    (storeVar t ad U).run P w = .ok () w' := by
  simp [storeVar, hsz, hU, h]

theorem storeAt_ok {agg : Bool} {n : Nat} {t : TypeId} {p : Sc} {v : SV} {V U : Value} {K : Heap → Option R} (ht : aggO P t = some (agg, n)) (h : storeAt n H p v K = some x) (ok : HeapOk w β F H)
    (hp : RepSc (en w β F H) p V) (hv : RepSV (en w β F H) v U) :
    ∃ w' H', (Instr.storeAt t V U).run P w = .ok () w' ∧ HeapOk w' β F H' ∧ Ext (en w β F H) (en w' β F H') ∧ K H' = some x := by
  obtain ⟨ha, hsz, _, hn0⟩ := aggO_spec ht w
  unfold storeAt at h
  split at h
  · rename_i r o
    obtain ⟨hb, h1⟩ := bif_none h
    clear h
    rw [Bool.and_eq_true] at hb
    have hn : segsSize (svSegs v) = n := Nat.eq_of_beq_eq_true hb.1
    have hus := okSV_one hv hb.2
    have hul : U.cells.toList.length = n := by rw [hus.len, hn]
    obtain ⟨hr, rfl⟩ := hp
    split at h1
    · rename_i sg hH
      split at h1
      · rename_i sg' hset
        have h0 : 0 < segsSize sg := by
          obtain ⟨vs, hvs, _⟩ := ok.obj r _ hH
          obtain ⟨u, m, t, rfl, h2, h3, _⟩ := setSegs_rep hus sg o sg' vs hset hvs
          have := hvs.len
          simp at this; omega
        obtain ⟨w', hrun, ok', hx⟩ := obj_store (P := P) ok hH (sg' := sg') (us := U.cells.toList) (off := o) (fun vs hvs => by
          obtain ⟨u, m, t, h2, h3, h4, h5⟩ := setSegs_rep hus sg o sg' vs hset hvs
          exact ⟨u, m, t, h2, h3, by rw [h4, hul], h5⟩) hus.one h0
        exact ⟨w', _, by simp [Instr.storeAt, Instr.sureAddr, run_storeVar hsz (by rw [← Array.length_toList]; exact hul) hrun], ok', hx, h1⟩
      · cases h1
    · cases h1
  · rename_i r o i z
    split at h
    · rename_i cs hcs
      have hok : okSV v = true := by
        cases v with
        | agg l => rfl
        | v y =>
          cases y <;> first
            | rfl
            | (exfalso
               have hcs' : cs = [Sc.undef] := by simpa [svSegs, segCells] using hcs.symm
               subst hcs'
               simp only [freezeL, freeze1] at h
               (repeat' split at h) <;> first
                 | (cases h; done)
                 | (obtain ⟨hb, _⟩ := bif_none h
                    simp [okSV] at hb))
      have hus := segCells_rep hcs (okSV_one hv hok)
      obtain ⟨cs', H1, h1, ok1, hx1, hus1⟩ := freezeL_ok ok h hus
      clear h
      split at h1
      · rename_i sg hH
        split at h1
        · rename_i s m l g fo hsk
          obtain ⟨hb, h2⟩ := bif_none h1
          clear h1
          simp only [Bool.and_eq_true] at hb
          obtain ⟨⟨⟨hz, hn⟩, hfo⟩, _⟩ := hb
          obtain rfl : z = s.size := Nat.eq_of_beq_eq_true hz
          have hn : cs'.length = n := Nat.eq_of_beq_eq_true hn
          have hfo : fo + n ≤ s.size := Nat.le_of_ble_eq_true hfo
          split at h2
          · rename_i y hy
            obtain ⟨hb, h3⟩ := br_none h2
            clear h2
            have him : i.toNat < m := by simpa using hb
            have hul : U.cells.toList.length = n := by rw [hus1.len, hn]
            have hp1 : RepSc (en w β F H1) (.el r o i s.size) V := hp.mono hx1
            obtain ⟨hr, rfl⟩ := hp1
            have h0 : 0 < segsSize sg := by
              refine Nat.lt_of_lt_of_le ?_ (seek_size hsk)
              have : 0 < m * s.size := Nat.mul_pos (by omega) (by omega)
              simp [segsSize, segSize]; omega
            obtain ⟨w', hrun, ok', hx⟩ := obj_store (P := P) ok1 hH (sg' := setRow s (l.set i.toNat y) sg o) (us := U.cells.toList) (off := o + i.toNat * s.size) (fun vs hvs => by
              have hlm : l.length = m := by
                obtain ⟨_, v', _, _, hlm, _⟩ := seek_rep sg o _ fo vs hsk hvs
                exact hlm
              obtain ⟨u, rv, t, rfl, hu, hrow, _, hput⟩ := setRow_rep (l1 := l.set i.toNat y) sg o m l g fo vs hsk hvs (by simpa using hlm)
              obtain ⟨p1, p2, p3, rfl, hp1, hp2, ht1, hd1⟩ := hrow.at (i := i.toNat) (by omega)
              rw [getD_of (by omega : i.toNat < l.length)] at hy
              have henc := RepT.enc (e := en w β F H1) s _ p2 hp2
              have hp2l := hp2.size
              have hnew : RepT w (en w β F H1).av s y (p2.take fo ++ (U.cells.toList ++ p2.drop (fo + n))) :=
                dec1_rep (e := en w β F H1) hy ((henc.take fo).append (hus1.append (henc.drop (fo + n))))
              have hset := RepRow.set (i := i.toNat) (by omega : i.toNat < l.length) ht1 hd1 hnew
              refine ⟨u ++ (p1 ++ p2.take fo), (p2.drop fo).take n, p2.drop (fo + n) ++ (p3 ++ t), ?_, ?_, by rw [List.length_take, List.length_drop, hul]; omega, ?_⟩
              · have : p2 = p2.take fo ++ ((p2.drop fo).take n ++ p2.drop (fo + n)) := by
                  rw [← List.drop_drop, List.take_append_drop, List.take_append_drop]
                simp only [List.append_assoc]
                rw [← List.append_assoc ((p2.drop fo).take n), ← List.append_assoc (p2.take fo), ← this]
              · simp [List.length_take]; omega
              · have := hput _ hset
                simpa only [List.append_assoc] using this) hus1.one h0
            exact ⟨w', _, by simp [Instr.storeAt, Instr.sureAddr, run_storeVar hsz (by rw [← Array.length_toList]; exact hul) hrun], ok', hx1.trans hx, h3⟩
          · cases h2
        · cases h1
      · cases h1
    · cases h
  · cases h

end
end Go.Gx
