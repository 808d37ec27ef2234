/-
  Gx, part K: structs that are built, conversions, maps.
-/
import Derived.Test.YteagdmkedffplaaGxJ
namespace Go.Gx
section
variable {R : Type} {P : Program} {w : World} {β : Nat → Loc} {F : Nat → Prop} {H : Heap} {fr : Fr} {a : Act} {x : R}

/-! ### structs -/
theorem places_of : ∀ (fs : List Field), fs.all (fun f => (P.info? f.type).isSome) = true →
    ∃ places, fs.mapM (fun f => (P.info? f.type).map fun i => (f.offset, i.size)) = some places ∧ ∀ (j : Nat) f, fs[j]? = some f → places[j]? = some (f.offset, P.cellsOf f.type)
  | [], _ => ⟨[], rfl, fun j f h => by simp at h⟩
  | f :: fs, h => by
    simp only [List.all_cons, Bool.and_eq_true] at h
    obtain ⟨i, hi⟩ := Option.isSome_iff_exists.1 h.1
    obtain ⟨ps, hp, hj⟩ := places_of fs h.2
    refine ⟨(f.offset, i.size) :: ps, by simp [List.mapM_cons, hi, hp], fun j g hg => ?_⟩
    cases j with
    | zero =>
      simp at hg
      subst hg
      simp [Program.cellsOf, hi]
    | succ j => exact hj j g (by simpa using hg)

theorem fillSegs_ok {e : En} {fs : List Field} {places : List (Nat × Nat)} (hpl : ∀ (j : Nat) f, fs[j]? = some f → places[j]? = some (f.offset, P.cellsOf f.type)) :
    ∀ {ps : List (Nat × SV)} {Ps : List (Nat × Value)} {l l' : List Seg} {cells : Array Value}, fillSegs P fs ps l = some l' → RepParts e ps Ps → RepSegs e l cells.toList →
    ∃ cells', Instr.fill (places.toArray[·]?) cells Ps = some cells' ∧ RepSegs e l' cells'.toList
  | [], _, l, l', cells, h, .nil, hr => by cases h; exact ⟨cells, rfl, hr⟩
  | (i, v) :: ps, _, l, l', cells, h, .cons (V := V) hv hps, hr => by
    simp only [fillSegs] at h
    split at h
    · rename_i f hf
      obtain ⟨hb, h1⟩ := bif_none h
      clear h
      rw [Bool.and_eq_true] at hb
      have hn : segsSize (svSegs v) = P.cellsOf f.type := Nat.eq_of_beq_eq_true hb.1
      have hus := okSV_one hv hb.2
      have hul : V.cells.toList.length = P.cellsOf f.type := by rw [hus.len, hn]
      split at h1
      · rename_i l1 hset
        obtain ⟨u, m, t, e1, hu, hm, hrep⟩ := setSegs_rep hus l f.offset l1 cells.toList hset hr
        have hcl : cells.size = u.length + (m.length + t.length) := by rw [← Array.length_toList, e1]; simp
        have hspl := splice_list V.cells.toList cells f.offset u m t e1 hu (by rw [hm, hul])
        obtain ⟨cells', q1, q2⟩ := fillSegs_ok hpl (cells := splice cells f.offset V.cells.toList) h1 hps (by rw [hspl]; exact hrep)
        refine ⟨cells', ?_, q2⟩
        rw [fill_cons (off := f.offset) (size := P.cellsOf f.type) (by simpa using hpl i f hf) (by rw [← Array.length_toList, hul]) (by omega)]
        exact q1
      · cases h1
    · cases h

theorem fillArr_ok {e : En} {s : Sh} : ∀ {ps : List (Nat × SV)} {Ps : List (Nat × Value)} {l l' : List s.T} {cells : Array Value}, fillArr s ps l = some l' → RepParts e ps Ps → RepRow e.w e.av s l cells.toList →
    ∃ cells', Instr.fill (fun i => some (i * s.size, s.size)) cells Ps = some cells' ∧ RepRow e.w e.av s l' cells'.toList ∧ l'.length = l.length
  | [], _, l, l', cells, h, .nil, hr => by cases h; exact ⟨cells, rfl, hr, rfl⟩
  | (i, v) :: ps, _, l, l', cells, h, .cons (V := V) hv hps, hr => by
    simp only [fillArr] at h
    split at h
    · rename_i cs hcs
      have hcs1 := svCells_rep hcs hv
      split at h
      · rename_i y hy
        obtain ⟨hb, h3⟩ := bif_none h
        have hi : i < l.length := by simpa using hb
        have hnew := dec1_rep hy hcs1
        obtain ⟨p1, p2, p3, e1, hp1, hp2, ht1, hd1⟩ := hr.at hi
        have hset := RepRow.set hi ht1 hd1 hnew
        have hvl := hnew.size
        have hp2l := hp2.size
        have hcl := hr.len
        have hle : (i + 1) * s.size ≤ l.length * s.size := Nat.mul_le_mul_right _ hi
        rw [Nat.add_mul, Nat.one_mul] at hle
        have hsz : cells.size = l.length * s.size := by rw [← Array.length_toList]; exact hcl
        have hspl := splice_list V.cells.toList cells (i * s.size) p1 p2 p3 e1 hp1 (by rw [hp2l, hvl])
        obtain ⟨cells', q1, q5, q6⟩ := fillArr_ok (cells := splice cells (i * s.size) V.cells.toList) h3 hps (by rw [hspl]; exact hset)
        refine ⟨cells', ?_, q5, by simpa using q6⟩
        rw [fill_cons rfl (by rw [← Array.length_toList]; exact hvl) (by rw [hsz]; exact hle)]
        exact q1
      · cases h
    · cases h

theorem exBuild_ok {t : TypeId} {ps : List (Nat × SV)} {Ps : Array (Nat × Value)} {K : SV → Option R} {e : En} (h : exBuild P t ps K = some x) (hps : RepParts e ps Ps.toList) (w : World) :
    ∃ v V, Stays P (Instr.build t Ps) w V ∧ RepSV e v V ∧ K v = some x := by
  unfold exBuild at h
  split at h
  · rename_i fs l hd hz
    obtain ⟨i, z, hi, hiz, hrep, _⟩ := zeroOf_spec hz
    obtain ⟨hb, h1⟩ := bif_none h
    clear h
    obtain ⟨places, hp, hpl⟩ := places_of fs.toList hb
    split at h1
    · rename_i l' hl
      obtain ⟨cells', q1, q2⟩ := fillSegs_ok hpl hl hps (hrep e)
      exact ⟨.agg l', .agg cells', fun w _ => run_build w t Ps cells' (by simp [Program.built, hi, hd, hiz, hp]; simpa using q1), ⟨cells'.toList, by simp, q2⟩, h1⟩
    · cases h1
  · rename_i n el l hd hz
    obtain ⟨i, z, hi, hiz, hrep, _⟩ := zeroOf_spec hz
    split at h
    · rename_i i' hi'
      have : Ps.toList = [] := by cases hps' : Ps.toList with
        | nil => rfl
        | cons p r => rw [hps'] at hps; cases hps
      exact ⟨.agg l, .agg z.cells, fun w _ => run_build w t Ps z.cells (by simp [Program.built, hi, hd, hiz, hi', this, Instr.fill]), ⟨z.cells.toList, by simp, hrep e⟩, h⟩
    · rename_i ie _ hie
      split at h
      · rename_i s m l0 _
        obtain ⟨hb, h1⟩ := bif_none h
        have hss : s.size = ie.size := Nat.eq_of_beq_eq_true hb
        split at h1
        · rename_i l' hl'
          obtain ⟨hn, u, v, hu, hrow, hv⟩ := hrep e
          obtain rfl : v = [] := hv
          rw [List.append_nil] at hu
          obtain ⟨cells', q1, q2, q3⟩ := fillArr_ok (cells := z.cells) hl' hps (by rw [hu]; exact hrow)
          refine ⟨.agg [.row s m l'], .agg cells', fun w _ => run_build w t Ps cells' (by simp only [Program.built, hi, hd, hiz, hie]; rw [← hss]; exact q1), ⟨cells'.toList, by simp, ?_⟩, h1⟩
          exact ⟨by omega, cells'.toList, [], by simp, q2, rfl⟩
        · cases h1
      · cases h
    · cases h
  · cases h

/-! ### conversions -/
theorem row_bytes {av : Nat → Prop} : ∀ {l : List Int} {vs : List Value}, RepRow w av (.int .u8) l vs → vs = l.map (Value.int .u8)
  | [], _, h => h
  | n :: l, _, ⟨u, v, e, h1, h2⟩ => by rw [e, show u = _ from h1, row_bytes h2]; rfl

theorem listOf_slice {s : Sh} {y : Sc} {V : Value} {K : List s.T → Option R} {e : En} (h : listOf s H y K = some x) (hy : RepSc e y V) : ∃ A n C, V = .slice A n C := by
  unfold listOf at h
  split at h
  · obtain ⟨_, _, A, C, rfl, _⟩ := hy; exact ⟨_, _, _, rfl⟩
  · obtain ⟨A, C, rfl, _⟩ := hy; exact ⟨_, _, _, rfl⟩
  · obtain ⟨A, rfl⟩ := hy; exact ⟨_, _, _, rfl⟩
  · obtain rfl : V = _ := hy; exact ⟨_, _, _, rfl⟩
  · cases h

theorem exConvert_ok {s d : TypeId} {y : Sc} {V : Value} {K : Sc → Option R} (h : exConvert P s d H y K = some x) (ok : HeapOk w β F H) (hy : RepSc (en w β F H) y V) :
    ∃ r v, Stays P (convert s d V) w v ∧ RepSc (en w β F H) r v ∧ K r = some x := by
  unfold exConvert at h
  split at h
  · rename_i ds k k' n hs hd
    obtain rfl : V = .int k' n := hy
    exact ⟨.int k (k.wrap n), .int k (k.wrap n), fun w _ => by cases ds <;> simp [convert, run_underlying hs, run_underlying hd, Conv.intToInt], rfl, h⟩
  · rename_i ds b hs hd
    obtain rfl : V = .string b := hy
    exact ⟨.str b, .string b, fun w _ => by cases ds <;> simp [convert, run_underlying hs, run_underlying hd], rfl, h⟩
  · rename_i e hs hd _
    split at h
    · rename_i he
      obtain ⟨l, h1, hl⟩ := listOf_ok (P := P) ok h hy (by decide)
      obtain ⟨vs, hr, hrun⟩ := first_cells hl
      have hlen := hl.len
      refine ⟨.str (mkStr l), .string (mkStr l), ?_, rfl, h1⟩
      have hvs := row_bytes hr
      subst hvs
      obtain ⟨A, n, C, rfl⟩ := listOf_slice h hy
      obtain rfl : n = l.length := by
        have := congrArg (fun r => match r with | Result.ok v _ => v | _ => 0) hlen
        simpa [Builtin.lenOf] using this
      intro w' hw
      have hrun := hrun w' hw
      rw [run_convert_bytes_string w' s d e _ _ _ hs he hd]
      cases A with
      | none =>
        have hl0 : l = [] := by
          have := congrArg (fun r => match r with | Result.ok (v : Array Value) _ => v.size | _ => 0) hrun
          simp [Builtin.firstCells] at this
          exact List.eq_nil_of_length_eq_zero this.symm
        subst hl0
        simp [Conv.bytesToString, mkStr]
        rfl
      | some ad =>
        rw [run_bytesToString w' ad l.length C l (by simpa [Builtin.firstCells, Sh.size] using hrun), foldl_push_bytes]
        simp [mkStr, ByteArray.empty, ByteArray.emptyWithCapacity]
        rfl
    · cases h
  · cases h

end
end Go.Gx
