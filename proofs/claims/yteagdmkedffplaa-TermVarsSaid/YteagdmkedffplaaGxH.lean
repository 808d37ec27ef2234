/-
  Gx, part H: rows that are made, appended to, copied.
-/
import Derived.Test.YteagdmkedffplaaGxG
namespace Go.Gx
section
variable {R : Type} {P : Program} {w : World} {β : Nat → Loc} {F : Nat → Prop} {H : Heap} {fr : Fr} {a : Act} {x : R}

theorem ok_drew (ok : HeapOk w β F H) : HeapOk w.drew β F H :=
  ⟨fun r o h => by
    have := ok.obj r o h
    have hx : Ext (en w β F H) (en w.drew β F H) := ⟨Nat.le_refl _, fun _ _ => rfl, Nat.le_refl _, fun _ _ _ => rfl, fun _ _ h => h, rfl, fun _ _ _ h => h, fun _ c _ f h => ⟨c, f, h, rfl⟩, ⟨rfl, rfl⟩, fun _ c _ _ h => .inr ⟨c, h⟩⟩
    exact this.mono hx (lt_len h) fun _ => rfl, ok.lt, ok.inj, ok.F⟩

theorem ext_drew : Ext (en w β F H) (en w.drew β F H) :=
  ⟨Nat.le_refl _, fun _ _ => rfl, Nat.le_refl _, fun _ _ _ => rfl, fun _ _ h => h, rfl, fun _ _ _ h => h, fun _ c _ f h => ⟨c, f, h, rfl⟩, ⟨rfl, rfl⟩, fun _ c _ _ h => .inr ⟨c, h⟩⟩

/-- what a slice holds that is read: its list, its cells -/
structure Lst (e : En) (s : Sh) (l : List s.T) (V : Value) : Prop where
  len : (Builtin.lenOf V).run P e.w = .ok l.length e.w
  first : ∀ n, n ≤ l.length → ∃ vs, RepRow e.w e.av s (l.take n) vs ∧ ∀ w', Sup e.w w' → (Builtin.firstCells s.size n V).run P w' = .ok vs.toArray w'

theorem take_sub_le {α : Type} {l : List α} {n : Nat} (h : n ≤ l.length) : (l.take n).length = n := by simp; omega

theorem firstCells_run {e : En} {s : Sh} {l : List s.T} {vs : List Value} (hrow : RepRow e.w e.av s l vs) {ad : Addr} {c : Array Value} {t : TypeId} {f : Nat × Nat} (hs : ad.spot = none)
    (hc : e.w.heap[ad.block]? = some (.cells c t f)) (hcell : ∀ j v, vs[j]? = some v → c[ad.off + j]? = some v) {n : Nat} (hn : n ≤ l.length) (k C : Nat) :
    ∃ us, RepRow e.w e.av s (l.take n) us ∧ ∀ w', Sup e.w w' → (Builtin.firstCells s.size n (.slice (some ad) k C)).run P w' = .ok us.toArray w' := by
  have h1 := hrow.take n
  have h2 := h1.len
  rw [take_sub_le hn] at h2
  refine ⟨_, h1, fun w' hw => ?_⟩
  have := run_loadCells_of (P := P) (w := w') hs (hw _ _ hc) (vs := vs.take (n * s.size)) fun j v hj => hcell j v (by
    have := (List.getElem?_eq_some_iff.1 hj).1
    rw [List.length_take] at this
    rwa [List.getElem?_take_of_lt (by omega)] at hj)
  rw [h2] at this
  simp [Builtin.firstCells, this]

theorem castL_id {s : Sh} (h : s = s) (l : List s.T) : castL h l = l := rfl

theorem listOf_ok {s : Sh} {y : Sc} {V : Value} {K : List s.T → Option R} (ok : HeapOk w β F H) (h : listOf s H y K = some x) (hy : RepSc (en w β F H) y V) (hs0 : 0 < s.size) :
    ∃ l, K l = some x ∧ Lst (P := P) (en w β F H) s l V := by
  unfold listOf at h
  split at h
  · rename_i r o z lo len cap
    split at h
    · rename_i sg hH
      split at h
      · rename_i s' n l g hsk
        split at h
        · rename_i hh
          obtain ⟨rfl, rfl⟩ := hh
          rw [castL_id] at h
          obtain ⟨hfit, h1⟩ := br_none h
          clear h
          obtain ⟨hr, hlen, A, C, rfl, hC, hA⟩ := hy
          have hsub := sub_length hfit
          refine ⟨_, h1, by simp [Builtin.lenOf, hsub], fun m hm => ?_⟩
          by_cases hm0 : m = 0
          · subst hm0
            refine ⟨[], by rw [List.take_zero]; rfl, fun _ _ => ?_⟩
            cases A with
            | none => simp [Builtin.firstCells]
            | some ad => simp [Builtin.firstCells, loadCells, loadCellsFrom]
          · obtain ⟨rfl, hv, _⟩ := hA (by omega)
            have hfit' : lo + len ≤ l.length := by simpa [fits] using hfit
            have h0 : 0 < segsSize sg := by
              obtain ⟨vs, hvs, _⟩ := ok.obj r _ hH
              obtain ⟨_, v', _, _, hlm, _⟩ := seek_rep sg o _ 0 vs hsk hvs
              refine Nat.lt_of_lt_of_le ?_ (seek_size hsk)
              have : 0 < n * s'.size := Nat.mul_pos (by omega) hs0
              simp [segsSize, segSize]; omega
            obtain ⟨c, ty, vs, pre, post, hc, _, _, hvs, _, hcell⟩ := obj_cells ok hH h0
            obtain ⟨u, v, rfl, hu, hlm, rv, v', rfl, hrow, _⟩ := seek_rep sg o _ 0 vs hsk hvs
            have hp := hrow.sub lo len
            refine firstCells_run (P := P) (ad := addr (en w β F H) r (o + lo * s'.size)) hp rfl hc (fun j y hj => ?_) hm _ _
            have hlt := (List.getElem?_eq_some_iff.1 hj).1
            rw [List.length_take, List.length_drop] at hlt
            rw [List.getElem?_take_of_lt (by omega), List.getElem?_drop] at hj
            have := hcell (u.length + (lo * s'.size + j)) y (by
              rw [List.getElem?_append_right (by omega), show u.length + (lo * s'.size + j) - u.length = lo * s'.size + j by omega, List.getElem?_append_left (by omega)]
              exact hj)
            rw [show (addr (en w β F H) r (o + lo * s'.size)).off + j = (β r).o + (u.length + (lo * s'.size + j)) by simp [addr, en]; omega]
            exact this
        · cases h
      · cases h
    · cases h
  · rename_i s' l
    split at h
    · rename_i hh
      subst hh
      rw [castL_id] at h
      obtain ⟨A, C, rfl, hC, hA⟩ := hy
      refine ⟨_, h, by simp [Builtin.lenOf], fun m hm => ?_⟩
      by_cases hm0 : m = 0
      · subst hm0
        refine ⟨[], by rw [List.take_zero]; rfl, fun _ _ => ?_⟩
        cases A with
        | none => simp [Builtin.firstCells]
        | some ad => simp [Builtin.firstCells, loadCells, loadCellsFrom]
      · obtain ⟨ad, rfl, hav, hrow⟩ := hA (by intro e; subst e; simp at hm; omega)
        obtain ⟨hsp, c, ty, fz, hc, _⟩ := id hrow
        obtain ⟨vs, h1, h2⟩ := hrow.repRow c ty fz hc
        exact firstCells_run (P := P) h1 hsp hc h2 hm _ _
    · cases h
  · obtain ⟨A, rfl⟩ := hy
    refine ⟨_, h, by simp [Builtin.lenOf], fun m hm => ?_⟩
    obtain rfl : m = 0 := by simpa using hm
    refine ⟨[], rfl, fun _ _ => ?_⟩
    cases A with
    | none => simp [Builtin.firstCells]
    | some ad => simp [Builtin.firstCells, loadCells, loadCellsFrom]
  · obtain rfl : V = _ := hy
    refine ⟨_, h, by simp [Builtin.lenOf], fun m hm => ?_⟩
    obtain rfl : m = 0 := by simpa using hm
    exact ⟨[], rfl, fun _ _ => by simp [Builtin.firstCells]⟩
  · cases h

theorem bytes_row {av : Nat → Prop} : ∀ (l : List UInt8), RepRow w av (.int .u8) (l.map fun b => (b.toNat : Int)) (l.map fun b => Value.int .u8 b.toNat)
  | [] => rfl
  | _ :: l => ⟨[_], _, rfl, rfl, bytes_row l⟩

theorem srcOf_ok {s : Sh} {y : Sc} {V : Value} {K : List s.T → Option R} (ok : HeapOk w β F H) (h : srcOf s H y K = some x) (hy : RepSc (en w β F H) y V) (hs0 : 0 < s.size) :
    ∃ l, K l = some x ∧ Lst (P := P) (en w β F H) s l V := by
  unfold srcOf at h
  split at h
  · rename_i b
    obtain rfl : V = .string b := hy
    split at h
    · rename_i hh
      subst hh
      rw [castL_id] at h
      refine ⟨_, h, by simp [Builtin.lenOf, bytesOf], fun n hn => ?_⟩
      refine ⟨(b.data.toList.take n).map fun b => Value.int .u8 b.toNat, ?_, fun w' _ => ?_⟩
      · have := bytes_row (w := w) (av := (en w β F H).av) (b.data.toList.take n)
        unfold bytesOf
        rw [← List.map_take]
        exact this
      · simp only [Builtin.firstCells]
        refine congrArg (fun v => Result.ok v w') ?_
        apply Array.ext'
        simp [List.map_take]
    · cases h
  · exact listOf_ok ok h hy hs0

/-! ### append -/
theorem appT_cases {ts : Array TypeId} {t : TypeId} (h : appT P ts.toList = some t) :
    ts = #[t] ∨ ∃ u, ts = #[t, u] ∧ ((∃ e, P.underlying u = some (.slice e)) ∨ P.underlying u = some .string) := by
  obtain ⟨l⟩ := ts
  simp only at h
  unfold appT at h
  split at h
  · cases h; exact .inl rfl
  · split at h
    · rename_i hu; cases h; exact .inr ⟨_, rfl, .inl ⟨_, hu⟩⟩
    · rename_i hu; cases h; exact .inr ⟨_, rfl, .inr hu⟩
    · cases h
  · cases h

theorem run_append_new {ts : Array TypeId} {t ty e : TypeId} {i : TypeInfo} {z : Value} (hts : appT P ts.toList = some t) (ht : P.underlying t = some (.slice e)) (hi : P.info? e = some i) (hz : i.zero = some z)
    (w : World) {A : Option Addr} {L C n : Nat} {U : Value} {olds news : List Value} (hlen : (Builtin.lenOf U).run P w = .ok n w)
    (hold : (Builtin.firstCells i.size L (.slice A L C)).run P w.drew = .ok olds.toArray w.drew) (hnew : (Builtin.firstCells i.size n U).run P w.drew = .ok news.toArray w.drew)
    (hg : C < L + n) (hb : (L + n) * i.bytes ≤ 2 ^ 46) (h0 : 0 < i.bytes) :
    (Builtin.append_ ts ty #[.slice A L C, U]).run P w = .ok (.slice (some ⟨w.heap.size, 0, none⟩) (L + n) (grownCap w (L + n) C e))
      (w.drew.alloc (.cells (olds.toArray ++ news.toArray ++ Builtin.zeroCells z.cells (grownCap w (L + n) C e - (L + n))) e)) := by
  have hn : ¬ (L + n ≤ C) := by omega
  have h1 : L + n ≤ (L + n) * i.bytes := Nat.le_mul_of_pos_right _ h0
  have h63' : ¬ (9223372036854775807 < ((L : Int) + (n : Int))) := by omega
  have h48' : ¬ (281474976710656 < Builtin.nextslicecap (L + n) C * i.bytes) := by
    have := growslice_fits (bytes := i.bytes) hg (by omega)
    omega
  rcases appT_cases hts with rfl | ⟨u, rfl, ⟨e', hu⟩ | hu⟩
  · simp [Builtin.append_, run_underlying ht, sizeOf, typeInfo, zeroValue, hi, hz, hlen, hn, h63', h48', Question.forced, hold, hnew, newRow, grownCap]
    exact congrArg (fun c => w.drew.alloc (.cells c e)) (Array.ext' (by simp))
  · simp [Builtin.append_, run_underlying ht, run_underlying hu, sizeOf, typeInfo, zeroValue, hi, hz, hlen, hn, h63', h48', Question.forced, hold, hnew, newRow, grownCap]
    exact congrArg (fun c => w.drew.alloc (.cells c e)) (Array.ext' (by simp))
  · simp [Builtin.append_, run_underlying ht, run_underlying hu, sizeOf, typeInfo, zeroValue, hi, hz, hlen, hn, h63', h48', Question.forced, hold, hnew, newRow, grownCap]
    exact congrArg (fun c => w.drew.alloc (.cells c e)) (Array.ext' (by simp))

theorem run_append_in {ts : Array TypeId} {t ty e : TypeId} {i : TypeInfo} (hts : appT P ts.toList = some t) (ht : P.underlying t = some (.slice e)) (hi : P.info? e = some i)
    (w : World) {ad : Addr} {L C n : Nat} {U : Value} {news : List Value} (hlen : (Builtin.lenOf U).run P w = .ok n w)
    (hnew : (Builtin.firstCells i.size n U).run P w = .ok news.toArray w) (hg : L + n ≤ C) {w' : World} (hs : (storeCells (ad.add (L * i.size)) news).run P w = .ok () w') :
    (Builtin.append_ ts ty #[.slice (some ad) L C, U]).run P w = .ok (.slice (some ad) (L + n) C) w' := by
  rcases appT_cases hts with rfl | ⟨u, rfl, ⟨e', hu⟩ | hu⟩
  · simp [Builtin.append_, run_underlying ht, sizeOf, typeInfo, hi, hlen, hg, hnew, hs]
  · simp [Builtin.append_, run_underlying ht, run_underlying hu, sizeOf, typeInfo, hi, hlen, hg, hnew, hs]
  · simp [Builtin.append_, run_underlying ht, run_underlying hu, sizeOf, typeInfo, hi, hlen, hg, hnew, hs]

theorem run_append_zero {ts : Array TypeId} {t ty e : TypeId} {i : TypeInfo} (hts : appT P ts.toList = some t) (ht : P.underlying t = some (.slice e)) (hi : P.info? e = some i)
    (w : World) {A : Option Addr} {L C : Nat} {U : Value} (hlen : (Builtin.lenOf U).run P w = .ok 0 w)
    (hnew : (Builtin.firstCells i.size 0 U).run P w = .ok #[] w) (hg : L ≤ C) :
    (Builtin.append_ ts ty #[.slice A L C, U]).run P w = .ok (.slice A L C) w := by
  have hz : ∀ a : Addr, (storeCells a []).run P w = .ok () w := fun a => by simp [storeCells]
  rcases appT_cases hts with rfl | ⟨u, rfl, ⟨e', hu⟩ | hu⟩ <;> cases A
  · simp [Builtin.append_, run_underlying ht, sizeOf, typeInfo, hi, hlen, hg, hnew]
  · simp [Builtin.append_, run_underlying ht, sizeOf, typeInfo, hi, hlen, hg, hnew, hz]
  · simp [Builtin.append_, run_underlying ht, run_underlying hu, sizeOf, typeInfo, hi, hlen, hg, hnew]
  · simp [Builtin.append_, run_underlying ht, run_underlying hu, sizeOf, typeInfo, hi, hlen, hg, hnew, hz]
  · simp [Builtin.append_, run_underlying ht, run_underlying hu, sizeOf, typeInfo, hi, hlen, hg, hnew]
  · simp [Builtin.append_, run_underlying ht, run_underlying hu, sizeOf, typeInfo, hi, hlen, hg, hnew, hz]

/-- a row is made: what stands behind its list may be anything -/
theorem new_row (ok : HeapOk w β F H) (t : TypeId) {s : Sh} {l : List s.T} {vs : List Value} (hs : RepRow w (en w β F H).av s l vs) {cs : Array Value} {C : Nat} (hc : ∃ post, cs.toList = vs ++ post)
    (hC : l.length ≤ C) (hcs : C * s.size ≤ cs.size) :
    let w' := w.alloc (.cells cs t); let β' := upd β H.length ⟨w.heap.size, 0, True⟩; let H' := H ++ [.cells [.row s l.length l]]
    HeapOk w' β' F H' ∧ Ext (en w β F H) (en w' β' F H') ∧ RepSc (en w' β' F H') (.wl H.length s.size) (.slice (some ⟨w.heap.size, 0, none⟩) l.length C) := by
  obtain ⟨h1, h2⟩ := new_cells (sg := [.row s l.length l]) ok t (vs := vs) ⟨rfl, vs, [], by simp, hs, rfl⟩ (.inr hc)
  refine ⟨h1, h2, by simp [en], _, _, C, rfl, hC, fun m hm => ?_, fun _ => ⟨by simp [addr, en, upd_eq], by simp [en, upd_eq], cs, t, (0, 0), ?_, ?_⟩⟩
  · have hm : szOf (H ++ [.cells [.row s l.length l]]) H.length = some m := hm
    rw [szOf_snoc] at hm
    simp [szO, segsSize, segSize] at hm
    exact hm.symm
  · simp only [en, upd_eq]; exact heap_alloc_new
  · simp [en, upd_eq]; exact hcs

end
end Go.Gx
