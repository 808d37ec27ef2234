/-
  Gx, part J: copy, rows and structs that are built.
-/
import Derived.Test.YteagdmkedffplaaGxI
namespace Go.Gx
section
variable {R : Type} {P : Program} {w : World} {β : Nat → Loc} {F : Nat → Prop} {H : Heap} {fr : Fr} {a : Act} {x : R}

theorem setRow_same {s : Sh} : ∀ {sg : List Seg} {o m f : Nat} {l : List s.T} {g : List Seg}, seek sg o = some (.row s m l :: g, f) → setRow s l sg o = sg
  | [], _, _, _, _, _, h => by cases h
  | .c y :: r, 0, _, _, _, _, h => by cases h
  | .c y :: r, o + 1, m, f, l, g, h => by
    have h : seek r o = some (.row s m l :: g, f) := h
    show Seg.c y :: setRow s l r o = _
    rw [setRow_same h]
  | .row s' n l' :: r, o, m, f, l, g, h => by
    simp only [seek] at h
    simp only [setRow]
    cases h1 : Nat.blt o s'.size with
    | true => rw [h1] at h; simp at h; obtain ⟨⟨⟨rfl, h2⟩, _⟩, _⟩ := h; obtain ⟨rfl, h3⟩ := h2; cases h3; rfl
    | false =>
      rw [h1] at h
      cases h2 : Nat.blt o (n * s'.size) with
      | true => rw [h2] at h; simp at h; obtain ⟨⟨⟨rfl, h2⟩, _⟩, _⟩ := h; obtain ⟨rfl, h3⟩ := h2; cases h3; rfl
      | false =>
        rw [h2] at h
        simp only [cond_false] at h ⊢
        rw [setRow_same h]

theorem run_copy {ts : Array TypeId} {t ty e : TypeId} {i : TypeInfo} (hts : ts[0]? = some t) (ht : P.underlying t = some (.slice e)) (hi : P.info? e = some i) (w : World) {A : Option Addr} {L C n : Nat} {U : Value} {news : List Value}
    (hlen : (Builtin.lenOf U).run P w = .ok n w) (hnew : (Builtin.firstCells i.size (min n L) U).run P w = .ok news.toArray w) {w' : World} (hs : ∀ ad, A = some ad → (storeCells ad news).run P w = .ok () w') (hn : A = none → w' = w) :
    (Builtin.copy_ ts ty #[.slice A L C, U]).run P w = .ok (.int .i64 ((min n L : Nat) : Int)) w' := by
  have hm : Nat.min n L = min n L := rfl
  cases A with
  | none => obtain rfl := hn rfl; simp [Builtin.copy_, hts, run_underlying ht, hlen, run_size hi, hnew, hm, goInt]
  | some ad => simp [Builtin.copy_, hts, run_underlying ht, hlen, run_size hi, hnew, hm, goInt, hs ad rfl]

theorem exCopy_ok {t ty : TypeId} {ts : Array TypeId} {y u : Sc} {V U : Value} {K : Int → Heap → Option R} (hts : ts[0]? = some t) (h : exCopy P t H y u K = some x) (ok : HeapOk w β F H)
    (hy : RepSc (en w β F H) y V) (hu : RepSc (en w β F H) u U) : ∃ n w' H', (Builtin.copy_ ts ty #[V, U]).run P w = .ok (.int .i64 n) w' ∧ HeapOk w' β F H' ∧ Ext (en w β F H) (en w' β F H') ∧ K n H' = some x := by
  unfold exCopy at h
  split at h
  · rename_i e hd
    split at h
    · rename_i s hs
      obtain ⟨i, z, hi, hz, hzr, hsz, hs0, hzc⟩ := elemOf_spec hs
      obtain ⟨xs, h1, hxs⟩ := srcOf_ok (P := P) ok h hu hs0
      clear h
      have empty : ∀ A, V = .slice A 0 0 → K 0 H = some x → ∃ n w' H', (Builtin.copy_ ts ty #[V, U]).run P w = .ok (.int .i64 n) w' ∧ HeapOk w' β F H' ∧ Ext (en w β F H) (en w' β F H') ∧ K n H' = some x := by
        rintro A rfl h
        obtain ⟨nvs, hn1, hn2⟩ := hxs.first 0 (Nat.zero_le _)
        obtain rfl : nvs = [] := by rw [List.take_zero] at hn1; exact hn1
        refine ⟨_, w, H, run_copy (ty := ty) hts hd hi w hxs.len (news := []) (by
          have := hn2 w (fun _ _ h => h)
          rw [hsz] at this
          simpa using this) (fun ad _ => by simp [storeCells]) (fun _ => rfl), ok, Ext.refl _, by simpa using h⟩
      split at h1
      · rename_i r o zz lo len cap
        split at h1
        · rename_i sg hH
          split at h1
          · rename_i s' m l g hsk
            split at h1
            · rename_i hh
              obtain ⟨rfl, rfl⟩ := hh
              simp only [castL_id] at h1
              obtain ⟨hfit, h2⟩ := br_none h1
              clear h1
              have hfit' : lo + len ≤ l.length := by simpa [fits] using hfit
              obtain ⟨hr, hlen, A, C, rfl, hC, hA⟩ := id hy
              have hlen' : len ≤ C := Nat.le_trans hlen hC
              obtain ⟨nvs, hn1, hn2⟩ := hxs.first (min xs.length len) (Nat.min_le_left _ _)
              have hn3 := hn2 w (fun _ _ h => h)
              rw [hsz] at hn3
              by_cases h0 : min xs.length len = 0
              · rw [h0] at h2 hn1 hn3
                simp only [List.take_zero, List.nil_append, Nat.add_zero, List.take_append_drop] at h2
                rw [setRow_same hsk, set_self hH] at h2
                obtain rfl : nvs = [] := by rw [List.take_zero] at hn1; exact hn1
                refine ⟨_, w, H, run_copy (ty := ty) hts hd hi w hxs.len (news := []) (by rw [h0]; exact hn3) (fun ad _ => by simp [storeCells]) (fun _ => rfl), ok, Ext.refl _, by rw [h0]; exact h2⟩
              · have hl0 : 0 < len := by have := Nat.min_le_right xs.length len; omega
                obtain ⟨rfl, hv, _⟩ := hA (by omega)
                have hml : l.length = m := by
                  obtain ⟨vs, hvs, _⟩ := ok.obj r _ hH
                  obtain ⟨_, v', _, _, hlm, _⟩ := seek_rep sg o _ 0 vs hsk hvs
                  exact hlm
                have hsg0 : 0 < segsSize sg := by
                  refine Nat.lt_of_lt_of_le ?_ (seek_size hsk)
                  have : 0 < m * s'.size := Nat.mul_pos (by omega) hs0
                  simp [segsSize, segSize]; omega
                have hnl := hn1.len
                rw [take_sub_le (Nat.min_le_left _ _)] at hnl
                have hmin : min xs.length len ≤ len := Nat.min_le_right _ _
                have hll : (l.take lo ++ (xs.take (min xs.length len) ++ l.drop (lo + min xs.length len))).length = m := by
                  simp only [List.length_append, List.length_take, List.length_drop]; omega
                obtain ⟨w', hrun, ok', hx⟩ := obj_store (P := P) ok hH (us := nvs) (off := o + lo * s'.size)
                    (sg' := setRow s' (l.take lo ++ (xs.take (min xs.length len) ++ l.drop (lo + min xs.length len))) sg o) (fun vs hvs => by
                  obtain ⟨u, rv, t', rfl, hu', hrow, hrl, hput⟩ := setRow_rep (l1 := l.take lo ++ (xs.take (min xs.length len) ++ l.drop (lo + min xs.length len))) sg o m l g 0 vs hsk hvs hll
                  have hrv := hrow.len
                  have hle : (lo + min xs.length len) * s'.size ≤ l.length * s'.size := Nat.mul_le_mul_right _ (by omega)
                  have hsplit : (lo + min xs.length len) * s'.size = lo * s'.size + nvs.length := by rw [Nat.add_mul, hnl]
                  have h1 := hrow.take lo
                  have h2 := hrow.drop (lo + min xs.length len)
                  refine ⟨u ++ rv.take (lo * s'.size), (rv.drop (lo * s'.size)).take nvs.length, rv.drop ((lo + min xs.length len) * s'.size) ++ t', ?_, ?_, ?_, ?_⟩
                  · simp only [List.append_assoc]
                    rw [hsplit, ← List.drop_drop, ← List.append_assoc ((rv.drop (lo * s'.size)).take nvs.length), List.take_append_drop, ← List.append_assoc (rv.take (lo * s'.size)), List.take_append_drop]
                  · simp only [List.length_append, List.length_take]; omega
                  · rw [List.length_take, List.length_drop]; omega
                  · have := hput _ (h1.append (hn1.append h2))
                    simpa only [List.append_assoc] using this) (RepRow.one (e := en w β F H) hn1) hsg0
                exact ⟨_, w', _, run_copy (ty := ty) hts hd hi w hxs.len hn3 (fun ad e => by cases e; exact hrun) (fun e => by cases e), ok', hx, h2⟩
            · cases h1
          · cases h1
        · cases h1
      · obtain rfl : V = _ := hy
        exact empty none rfl h1
      · obtain ⟨A, rfl⟩ := hy
        exact empty A rfl h1
      · cases h1
    · cases h
  · cases h

/-! ### noughts in a row -/
theorem map_zero : ∀ (n : Nat) (u : List Value), 0 < u.length → ((Array.range (n * u.length)).map (u.toArray[· % u.toArray.size]!)).toList = (List.replicate n u).flatten
  | 0, u, _ => by simp
  | n + 1, u, h => by
    have ih := map_zero n u h
    simp only [Array.toList_map, Array.toList_range, List.size_toArray] at ih ⊢
    rw [Nat.succ_mul, List.range_add, List.map_append, ih, List.replicate_succ', List.flatten_append]
    congr 1
    simp only [List.map_map, List.flatten_cons, List.flatten_nil, List.append_nil]
    apply List.ext_getElem?
    intro j
    by_cases hj : j < u.length
    · rw [List.getElem?_map, List.getElem?_range hj]
      simp [Nat.mod_eq_of_lt hj, hj]
    · rw [List.getElem?_eq_none (by simp; omega), List.getElem?_eq_none (by omega)]

theorem map_none (f : Nat → Value) : (Array.range 0).map f = #[] := by simp

theorem run_makeSlice {t e : TypeId} {i : TypeInfo} {z : Value} (ht : P.underlying t = some (.slice e)) (hi : P.info? e = some i) (hz : i.zero = some z) (w : World) {k k' : IntKind} {n m : Int} (hzs : z.cells.size = i.size)
    (hs0 : 0 < i.size) (h0 : 0 ≤ n) (h1 : n ≤ m) (h2 : m * (i.bytes : Int) ≤ 2 ^ 46) (h3 : 0 < i.bytes) :
    ∃ cs : Array Value, cs.toList = (List.replicate m.toNat z.cells.toList).flatten ∧
      (Instr.makeSlice t (.int k n) (.int k' m)).run P w = .ok (.slice (some ⟨w.heap.size, 0, none⟩) n.toNat m.toNat) (w.alloc (.cells cs e)) := by
  have hm : m ≤ m * (i.bytes : Int) := by
    have : m * 1 ≤ m * (i.bytes : Int) := Int.mul_le_mul_of_nonneg_left (by omega) (by omega)
    omega
  have w1 : IntKind.i64.wrap n = n := by rw [IntKind.wrap_i64]; omega
  have w2 : IntKind.i64.wrap m = m := by rw [IntKind.wrap_i64]; omega
  refine ⟨_, map_zero m.toNat z.cells.toList (by rw [Array.length_toList]; omega), ?_⟩
  have hb1 : (i.bytes : Int) * m ≤ 2 ^ 46 := by rw [Int.mul_comm]; exact h2
  have ha : ¬ ((m < 0 ∨ 2 ^ 48 < (i.bytes : Int) * m)) := by omega
  have hm0 : m.toNat * i.size = 0 → m.toNat = 0 := fun h => by
    rcases Nat.mul_eq_zero.1 h with h | h
    · exact h
    · omega
  by_cases hz0 : m.toNat = 0
  · simp [Instr.makeSlice, run_underlying ht, typeInfo, hi, asInt, asIntOf, w1, w2, show ¬ m < 0 by omega, show ¬ n < 0 by omega, show ¬ m < n by omega, show ¬ (281474976710656 < (i.bytes : Int) * m) by omega, sizeOf, hz0, newRow, zeroValue]
    exact congrArg (fun c => w.alloc (.cells c e)) (by rw [map_none, map_none])
  · have : ¬ (m.toNat * i.size = 0) := fun h => hz0 (hm0 h)
    simp [Instr.makeSlice, run_underlying ht, typeInfo, hi, asInt, asIntOf, w1, w2, show ¬ m < 0 by omega, show ¬ n < 0 by omega, show ¬ m < n by omega, show ¬ (281474976710656 < (i.bytes : Int) * m) by omega, sizeOf, newRow, zeroValue, hz, hzs]
    exact fun h => absurd h this

theorem exMakeSlice_ok {t : TypeId} {k k' : IntKind} {n m : Int} {K : Sc → Heap → Option R} (h : exMakeSlice P t n m H K = some x) (ok : HeapOk w β F H) :
    ∃ v w', (Instr.makeSlice t (.int k n) (.int k' m)).run P w = .ok v w' ∧ Sup w w' ∧ ResC w β F H x K v w' := by
  unfold exMakeSlice at h
  split at h
  · rename_i e hd
    split at h
    · rename_i s hs
      obtain ⟨i, z, hi, hz, hzr, hsz, hs0, hzc⟩ := elemOf_spec hs
      obtain ⟨hb, hK⟩ := br_none h
      clear h
      simp only [Bool.and_eq_true, decide_eq_true_eq] at hb
      obtain ⟨⟨⟨h0, h1⟩, h2⟩, h3⟩ := hb
      have h3 : 0 < P.bytesOf e := by simpa using h3
      have hbi : P.bytesOf e = i.bytes := by simp [Program.bytesOf, hi]
      rw [hbi] at h2 h3
      obtain ⟨cs, hcs, hrun⟩ := run_makeSlice (P := P) (k := k) (k' := k') hd hi hz w (by rw [hzc, hsz]) (by omega) h0 h1 h2 h3
      refine ⟨_, _, hrun, sup_alloc w _, ?_⟩
      obtain ⟨vs, hvs, hve⟩ := RepRow.replicate (hzr (en w β F H)) n.toNat
      have hll : (List.replicate n.toNat s.zero).length = n.toNat := List.length_replicate
      have hnm : n.toNat ≤ m.toNat := by omega
      have hcz : cs.size = m.toNat * s.size := by
        rw [← Array.length_toList, hcs]
        simp [List.length_flatten, hzc]
      obtain ⟨q1, q2, q3⟩ := new_row (C := m.toNat) ok e hvs (cs := cs) ⟨(List.replicate (m.toNat - n.toNat) z.cells.toList).flatten, by
        rw [hcs, hve, ← List.flatten_append, List.replicate_append_replicate]
        congr 2
        omega⟩ (by rw [hll]; exact hnm) (by rw [hcz]; exact Nat.le_refl _)
      rw [hll] at q1 q2 q3
      exact ⟨_, _, _, q1, q2, q3, hK⟩
    · cases h
  · cases h


/-! ### parts that are filled in -/
theorem foldl_splice : ∀ (vs : List Value) (k off : Nat) (c : Array Value), (vs.zipIdx k).foldl (fun cs (p : Value × Nat) => cs.setIfInBounds (off + p.2) p.1) c = splice c (off + k) vs
  | [], _, _, _ => rfl
  | v :: vs, k, off, c => by
    simp only [List.zipIdx_cons, List.foldl_cons, splice]
    rw [foldl_splice vs (k + 1) off, Nat.add_assoc]

theorem fill_cons {place : Nat → Option (Nat × Nat)} {cells : Array Value} {i off size : Nat} {v : Value} {rest : List (Nat × Value)} (hp : place i = some (off, size)) (hs : v.cells.size = size) (hl : off + size ≤ cells.size) :
    Instr.fill place cells ((i, v) :: rest) = Instr.fill place (splice cells off v.cells.toList) rest := by
  have h1 : ¬ (v.cells.size ≠ size || off + v.cells.size > cells.size) = true := by simp [hs]; omega
  rw [Instr.fill, hp]
  simp only
  rw [if_neg h1]
  congr 1
  rw [← Array.foldl_toList, Array.toList_zipIdx]
  have := foldl_splice v.cells.toList 0 off cells
  rw [Nat.add_zero] at this
  exact this

theorem svCells_rep {e : En} {v : SV} {cs : List Sc} {V : Value} (h : svCells v = some cs) (hv : RepSV e v V) : RepScs e cs V.cells.toList := by
  unfold svCells at h
  obtain ⟨h1, h2⟩ := bif_none h
  exact segCells_rep h2 (okSV_one hv h1)

/-- parts: the operands' own values -/
inductive RepParts (e : En) : List (Nat × SV) → List (Nat × Value) → Prop
  | nil : RepParts e [] []
  | cons {i v V ps Ps} : RepSV e v V → RepParts e ps Ps → RepParts e ((i, v) :: ps) ((i, V) :: Ps)

theorem RepParts.mono {e e' : En} (h : Ext e e') : ∀ {ps Ps}, RepParts e ps Ps → RepParts e' ps Ps
  | _, _, .nil => .nil
  | _, _, .cons h1 h2 => .cons (RepSV.mono h _ _ h1) (h2.mono h)

theorem fillRow_ok {s : Sh} : ∀ {ps : List (Nat × SV)} {Ps : List (Nat × Value)} {H : Heap} {l : List s.T} {cells : Array Value} {K : List s.T → Heap → Option R}, HeapOk w β F H →
    fillRow s ps H l K = some x → RepParts (en w β F H) ps Ps → RepRow w (en w β F H).av s l cells.toList →
    ∃ l' cells' H', Instr.fill (fun i => some (i * s.size, s.size)) cells Ps = some cells' ∧ K l' H' = some x ∧ HeapOk w β F H' ∧ Ext (en w β F H) (en w β F H') ∧ RepRow w (en w β F H').av s l' cells'.toList ∧ l'.length = l.length
  | [], _, H, l, cells, K, ok, h, .nil, hr => ⟨l, cells, H, rfl, h, ok, Ext.refl _, hr, rfl⟩
  | (i, v) :: ps, _, H, l, cells, K, ok, h, .cons (V := V) hv hps, hr => by
    simp only [fillRow] at h
    split at h
    · rename_i cs hcs
      have h1 := svCells_rep hcs hv
      obtain ⟨cs', H1, h2, ok1, hx1, hcs1⟩ := freezeL_ok ok h h1
      clear h
      split at h2
      · rename_i y hy
        obtain ⟨hb, h3⟩ := bif_none h2
        have hi : i < l.length := by simpa using hb
        have hnew := dec1_rep hy hcs1
        have hr1 : RepRow w (en w β F H1).av s l cells.toList := RepRow.mono hx1.kp l _ hr
        obtain ⟨p1, p2, p3, e1, hp1, hp2, ht1, hd1⟩ := hr1.at hi
        have hset := RepRow.set hi ht1 hd1 hnew
        have hvl := hnew.size
        have hp2l := hp2.size
        have hcl := hr1.len
        have hle : (i + 1) * s.size ≤ l.length * s.size := Nat.mul_le_mul_right _ hi
        rw [Nat.add_mul, Nat.one_mul] at hle
        have hsz : cells.size = l.length * s.size := by rw [← Array.length_toList]; exact hcl
        have hspl := splice_list V.cells.toList cells (i * s.size) p1 p2 p3 e1 hp1 (by rw [hp2l, hvl])
        obtain ⟨l', cells', H', q1, q2, q3, q4, q5, q6⟩ := fillRow_ok (cells := splice cells (i * s.size) V.cells.toList) ok1 h3 (hps.mono hx1) (by rw [hspl]; exact hset)
        refine ⟨l', cells', H', ?_, q2, q3, hx1.trans q4, q5, by simpa using q6⟩
        rw [fill_cons rfl (by rw [← Array.length_toList]; exact hvl) (by rw [hsz]; exact hle)]
        exact q1
      · cases h2
    · cases h

theorem exBuildSlice_ok {t : TypeId} {n : Nat} {ps : List (Nat × SV)} {Ps : Array (Nat × Value)} {K : Sc → Heap → Option R} (h : exBuildSlice P t n ps H K = some x) (ok : HeapOk w β F H) (hps : RepParts (en w β F H) ps Ps.toList) :
    ∃ v w', (Instr.buildSlice t n Ps).run P w = .ok v w' ∧ Sup w w' ∧ ResC w β F H x K v w' := by
  unfold exBuildSlice at h
  split at h
  · rename_i e hd
    split at h
    · rename_i s hs
      obtain ⟨i, z, hi, hz, hzr, hsz, hs0, hzc⟩ := elemOf_spec hs
      obtain ⟨hb, h1⟩ := bif_none h
      clear h
      have hb : n * s.size ≤ 1000000 := Nat.le_of_ble_eq_true hb
      obtain ⟨vs, hvs, hve⟩ := RepRow.replicate (hzr (en w β F H)) n
      have hz0 := map_zero n z.cells.toList (by rw [Array.length_toList, hzc]; exact hs0)
      simp only [Array.length_toList, Array.toArray_toList] at hz0
      obtain ⟨l', cells', H1, q1, q2, q3, q4, q5, q6⟩ := fillRow_ok (cells := (Array.range (n * z.cells.size)).map (z.cells[· % z.cells.size]!)) ok h1 hps (by rw [hz0, ← hve]; exact hvs)
      have hll : l'.length = n := by rw [q6]; exact List.length_replicate
      obtain ⟨r1, r2, r3⟩ := new_row (C := n) q3 e q5 (cs := cells') ⟨[], by simp⟩ (by rw [hll]; exact Nat.le_refl _) (by
        have := q5.len
        rw [← Array.length_toList, this, hll]
        exact Nat.le_refl _)
      rw [hll] at r1 r2 r3
      have hlen : (Array.range (n * i.size)).map (z.cells[· % z.cells.size]!) = (Array.range (n * z.cells.size)).map (z.cells[· % z.cells.size]!) := by rw [hzc, hsz]
      rw [hsz] at q1 hb
      refine ⟨_, _, ?_, sup_alloc w _, _, _, _, r1, q4.trans r2, r3, q2⟩
      by_cases hn : n * i.size = 0
      · have hn0 : n = 0 := by
          rcases Nat.mul_eq_zero.1 hn with h | h
          · exact h
          · omega
        subst hn0
        have e0 : (Array.range (0 * z.cells.size)).map (z.cells[· % z.cells.size]!) = #[] := by simp
        rw [e0] at q1
        simp [Instr.buildSlice, run_underlying hd, run_size hi, q1, newRow, map_none]
      · have hn' := hn
        simp only [Nat.mul_eq_zero, not_or] at hn'
        rw [← hlen] at q1
        simp [Instr.buildSlice, run_underlying hd, run_size hi, run_zero hi hz, q1, newRow, show ¬ (16777216 < n * i.size) by omega]
        exact fun h => absurd h hn
    · cases h
  · cases h

end
end Go.Gx
