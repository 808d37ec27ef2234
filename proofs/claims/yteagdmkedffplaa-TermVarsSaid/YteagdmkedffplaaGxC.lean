/-
  Gx, part C: rows, parts and places, as lists of values.
-/
import Derived.Test.YteagdmkedffplaaGxB
namespace Go.Gx

theorem RepT.size {w : World} {av : Nat → Prop} : ∀ (s : Sh) (x : s.T) (vs : List Value), RepT w av s x vs → vs.length = s.size
  | .int _, _, _, h => by rw [h]; rfl
  | .bool, _, _, h => by rw [h]; rfl
  | .str, _, _, h => by rw [h]; rfl
  | .isl _, _, _, h => by obtain ⟨V, rfl, _⟩ := h; rfl
  | .pair a b, x, vs, h => by
    obtain ⟨u, v, rfl, h1, h2⟩ := h
    simp [Sh.size, RepT.size a _ _ h1, RepT.size b _ _ h2]
  | .unit, _, _, h => by rw [h]; rfl

theorem RepRow.len {w : World} {av : Nat → Prop} {s : Sh} : ∀ (l : List s.T) (vs : List Value), RepRow w av s l vs → vs.length = l.length * s.size
  | [], vs, h => by rw [show vs = [] from h]; simp
  | x :: r, vs, h => by
    obtain ⟨u, v, rfl, h1, h2⟩ := h
    rw [List.length_append, h1.size, RepRow.len r v h2, List.length_cons, Nat.succ_mul, Nat.add_comm]

theorem RepSegs.len {e : En} : ∀ (l : List Seg) (vs : List Value), RepSegs e l vs → vs.length = segsSize l
  | [], vs, h => by rw [show vs = [] from h]; rfl
  | .c x :: r, vs, h => by
    obtain ⟨V, v, rfl, _, _, h2⟩ := h
    simp [segsSize, segSize, RepSegs.len r v h2, Nat.add_comm]
  | .row s n l :: r, vs, h => by
    obtain ⟨hn, u, v, rfl, h1, h2⟩ := h
    simp [segsSize, segSize, RepSegs.len r v h2, h1.len, hn]

/-! ### cells -/
def RepScs (e : En) : List Sc → List Value → Prop
  | [], vs => vs = []
  | x :: r, vs => ∃ V v, vs = V :: v ∧ V.oneCell' = true ∧ RepSc e x V ∧ RepScs e r v

theorem RepScs.append {e : En} : ∀ {a b : List Sc} {u v : List Value}, RepScs e a u → RepScs e b v → RepScs e (a ++ b) (u ++ v)
  | [], b, u, v, h, k => by rw [show u = [] from h]; exact k
  | x :: r, b, u, v, h, k => by
    obtain ⟨V, u', rfl, h0, h1, h2⟩ := h
    exact ⟨V, u' ++ v, rfl, h0, h1, RepScs.append h2 k⟩

theorem RepScs.split {e : En} : ∀ {a b : List Sc} {vs : List Value}, RepScs e (a ++ b) vs → ∃ u v, vs = u ++ v ∧ RepScs e a u ∧ RepScs e b v
  | [], b, vs, h => ⟨[], vs, rfl, rfl, h⟩
  | x :: r, b, vs, h => by
    obtain ⟨V, v', rfl, h0, h1, h2⟩ := h
    obtain ⟨u, v, rfl, h3, h4⟩ := RepScs.split h2
    exact ⟨V :: u, v, rfl, ⟨V, u, rfl, h0, h1, h3⟩, h4⟩

theorem RepScs.len {e : En} : ∀ {a : List Sc} {vs : List Value}, RepScs e a vs → vs.length = a.length
  | [], vs, h => by rw [show vs = [] from h]; rfl
  | x :: r, vs, h => by
    obtain ⟨V, v', rfl, _, _, h2⟩ := h
    simp [RepScs.len h2]

theorem RepScs.mono {e e' : En} (h : Ext e e') : ∀ {a : List Sc} {vs : List Value}, RepScs e a vs → RepScs e' a vs
  | [], _, k => k
  | x :: r, vs, k => by
    obtain ⟨V, v', e1, h0, h1, h2⟩ := k
    exact ⟨V, v', e1, h0, h1.mono h, RepScs.mono h h2⟩

theorem RepScs.drop {e : En} : ∀ {a : List Sc} {vs : List Value} (n : Nat), RepScs e a vs → RepScs e (a.drop n) (vs.drop n)
  | _, _, 0, h => h
  | [], vs, n + 1, h => by rw [show vs = [] from h]; exact rfl
  | x :: r, vs, n + 1, h => by
    obtain ⟨V, v', rfl, _, _, h2⟩ := h
    exact RepScs.drop n h2

theorem RepScs.take {e : En} : ∀ {a : List Sc} {vs : List Value} (n : Nat), RepScs e a vs → RepScs e (a.take n) (vs.take n)
  | a, vs, 0, h => by simp only [List.take_zero]; exact rfl
  | [], vs, n + 1, h => by rw [show vs = [] from h]; exact rfl
  | x :: r, vs, n + 1, h => by
    obtain ⟨V, v', rfl, h0, h1, h2⟩ := h
    exact ⟨V, v'.take n, rfl, h0, h1, RepScs.take n h2⟩

theorem RepScs.one {e : En} : ∀ {a : List Sc} {vs : List Value}, RepScs e a vs → ∀ v ∈ vs, v.oneCell' = true
  | [], vs, h, v, hv => by rw [show vs = [] from h] at hv; cases hv
  | x :: r, vs, h, v, hv => by
    obtain ⟨V, v', rfl, h0, h1, h2⟩ := h
    rcases List.mem_cons.1 hv with rfl | hv
    · exact h0
    · exact RepScs.one h2 v hv

theorem RepScs.segs {e : En} : ∀ {a : List Sc} {vs : List Value}, RepScs e a vs → RepSegs e (a.map .c) vs
  | [], _, h => h
  | x :: r, vs, h => by
    obtain ⟨V, v', rfl, h0, h1, h2⟩ := h
    exact ⟨V, v', rfl, h0, h1, RepScs.segs h2⟩

/-- a typed datum, cell by cell -/
theorem RepT.enc {e : En} : ∀ (s : Sh) (x : s.T) (vs : List Value), RepT e.w e.av s x vs → RepScs e (Gx.enc s x) vs
  | .int k, x, vs, h => ⟨_, [], h, rfl, rfl, rfl⟩
  | .bool, x, vs, h => ⟨_, [], h, rfl, rfl, rfl⟩
  | .str, x, vs, h => ⟨_, [], h, rfl, rfl, rfl⟩
  | .isl s, x, vs, h => by
    obtain ⟨V, rfl, hl⟩ := h
    refine ⟨V, [], rfl, ?_, hl, rfl⟩
    obtain ⟨A, C, rfl, _⟩ := hl
    rfl
  | .pair a b, x, vs, h => by
    obtain ⟨u, v, rfl, h1, h2⟩ := h
    exact RepScs.append (RepT.enc a x.1 u h1) (RepT.enc b x.2 v h2)
  | .unit, _, _, h => h

theorem rowCells_rep {e : En} {s : Sh} {l : List s.T} : ∀ {k i : Nat} {u : List Value}, i + k = l.length → RepRow e.w e.av s (l.drop i) u → RepScs e (rowCells s l i k) u
  | 0, i, u, h, hr => by
    rw [List.drop_eq_nil_of_le (by omega)] at hr
    exact hr
  | k + 1, i, u, h, hr => by
    have hi : i < l.length := by omega
    rw [List.drop_eq_getElem_cons hi] at hr
    obtain ⟨p, q, rfl, h1, h2⟩ := hr
    have : l.getD i s.zero = l[i] := by simp [List.getD, hi]
    simp only [rowCells, this]
    exact (RepT.enc s _ _ h1).append (rowCells_rep (by omega) h2)

theorem segCells_rep {e : En} : ∀ {l : List Seg} {cs : List Sc} {vs : List Value}, segCells l = some cs → RepSegs e l vs → RepScs e cs vs
  | [], cs, vs, h, k => by cases h; exact k
  | .c x :: r, cs, vs, h, k => by
    obtain ⟨V, v', rfl, h0, h1, h2⟩ := k
    simp only [segCells] at h
    split at h
    · rename_i l hl
      cases h
      exact ⟨V, v', rfl, h0, h1, segCells_rep hl h2⟩
    · cases h
  | .row s n l :: r, cs, vs, h, k => by
    obtain ⟨hn, u, v, rfl, h1, h2⟩ := k
    simp only [segCells] at h
    split at h
    · rename_i cs' hcs
      cases h
      have := rowCells_rep (l := l) (i := 0) (k := n) (by omega) (by simpa using h1)
      exact this.append (segCells_rep hcs h2)
    · cases h

theorem castL_rfl {a : Sh} (h : a = a) (l : List a.T) : castL h l = l := rfl

theorem dec_rep {e : En} : ∀ (s : Sh) (cs : List Sc) (x : s.T) (r : List Sc) (vs : List Value), dec s cs = some (x, r) → RepScs e cs vs →
    ∃ u v, vs = u ++ v ∧ RepT e.w e.av s x u ∧ RepScs e r v := by
  intro s
  induction s with
  | int k =>
    intro cs x r vs h hr
    simp only [dec] at h
    split at h <;> try cases h
    rename_i k' n r' 
    split at h
    · rename_i hk
      cases h
      obtain ⟨V, v, rfl, _, h1, h2⟩ := hr
      exact ⟨[V], v, rfl, by rw [show V = _ from h1, hk]; rfl, h2⟩
    · cases h
  | bool =>
    intro cs x r vs h hr
    simp only [dec] at h
    split at h <;> try cases h
    obtain ⟨V, v, rfl, _, h1, h2⟩ := hr
    exact ⟨[V], v, rfl, by rw [show V = _ from h1]; rfl, h2⟩
  | str =>
    intro cs x r vs h hr
    simp only [dec] at h
    split at h <;> try cases h
    obtain ⟨V, v, rfl, _, h1, h2⟩ := hr
    exact ⟨[V], v, rfl, by rw [show V = _ from h1]; rfl, h2⟩
  | isl s ih =>
    intro cs x r vs h hr
    simp only [dec] at h
    split at h <;> try cases h
    · rename_i s' l r'
      split at h
      · rename_i hs
        subst hs
        cases h
        obtain ⟨V, v, rfl, _, h1, h2⟩ := hr
        exact ⟨[V], v, rfl, ⟨V, rfl, h1⟩, h2⟩
      · cases h
    · obtain ⟨V, v, rfl, _, h1, h2⟩ := hr
      exact ⟨[V], v, rfl, ⟨V, rfl, none, 0, h1, Nat.le_refl _, fun h => absurd rfl h⟩, h2⟩
    · obtain ⟨V, v, rfl, _, ⟨A, h1⟩, h2⟩ := hr
      exact ⟨[V], v, rfl, ⟨V, rfl, A, 0, h1, Nat.le_refl _, fun h => absurd rfl h⟩, h2⟩
  | pair a b iha ihb =>
    intro cs x r vs h hr
    simp only [dec] at h
    split at h
    · rename_i y r1 h1
      split at h
      · rename_i z r2 h2
        cases h
        obtain ⟨u, v, rfl, h3, h4⟩ := iha cs y r1 vs h1 hr
        obtain ⟨u', v', rfl, h5, h6⟩ := ihb r1 _ _ v h2 h4
        exact ⟨u ++ u', v', by simp, ⟨u, u', rfl, h3, h5⟩, h6⟩
      · cases h
    · cases h
  | unit =>
    intro cs x r vs h hr
    simp only [dec] at h
    cases h
    exact ⟨[], vs, rfl, rfl, hr⟩

theorem dec1_rep {e : En} {s : Sh} {cs : List Sc} {x : s.T} {vs : List Value} (h : dec1 s cs = some x) (hr : RepScs e cs vs) : RepT e.w e.av s x vs := by
  unfold dec1 at h
  split at h
  · rename_i y hd
    cases h
    obtain ⟨u, v, rfl, h1, h2⟩ := dec_rep s cs _ _ vs hd hr
    rw [show v = [] from h2, List.append_nil]
    exact h1
  · cases h

theorem decN_rep {e : En} {s : Sh} : ∀ {n : Nat} {cs r : List Sc} {l : List s.T} {vs : List Value}, decN s n cs = some (l, r) → RepScs e cs vs → ∃ u v, vs = u ++ v ∧ RepRow e.w e.av s l u ∧ RepScs e r v ∧ l.length = n
  | 0, cs, r, l, vs, h, k => by
    cases h
    exact ⟨[], vs, rfl, rfl, k, rfl⟩
  | n + 1, cs, r, l, vs, h, k => by
    simp only [decN] at h
    split at h
    · rename_i y r1 h1
      split at h
      · rename_i l' r' h2
        cases h
        obtain ⟨u, v, rfl, h3, h4⟩ := dec_rep s cs y r1 vs h1 k
        obtain ⟨u2, v2, rfl, h5, h6, h7⟩ := decN_rep h2 h4
        exact ⟨u ++ u2, v2, by simp, ⟨u, u2, rfl, h3, h5⟩, h6, by simp [h7]⟩
      · cases h
    · cases h

theorem headCells_rep {e : En} : ∀ {k : Nat} {l r : List Seg} {cs : List Sc} {vs : List Value}, headCells k l = some (cs, r) → RepSegs e l vs → ∃ u v, vs = u ++ v ∧ RepScs e cs u ∧ RepSegs e r v
  | 0, l, r, cs, vs, h, k => by cases h; exact ⟨[], vs, rfl, rfl, k⟩
  | k + 1, [], _, _, _, h, _ => by cases h
  | k + 1, .row _ _ _ :: _, _, _, _, h, _ => by cases h
  | k + 1, .c y :: l, r, cs, vs, h, hk => by
    obtain ⟨V, v, rfl, h0, h1, h2⟩ := hk
    simp only [headCells] at h
    split at h
    · rename_i cs' t' h3
      cases h
      obtain ⟨u, v2, rfl, h4, h5⟩ := headCells_rep h3 h2
      exact ⟨V :: u, v2, rfl, ⟨V, u, rfl, h0, h1, h4⟩, h5⟩
    · cases h

theorem regroup_rep {e : En} : ∀ {ly l l' : List Seg} {vs : List Value}, regroup ly l = some l' → RepSegs e l vs → RepSegs e l' vs
  | [], l, l', vs, h, k => by
    simp only [regroup] at h
    split at h
    · cases h; exact k
    · cases h
  | .c _ :: ly, l, l', vs, h, k => by
    simp only [regroup] at h
    split at h
    · split at h
      · rename_i r' h1
        cases h
        obtain ⟨V, v, rfl, h0, h2, h3⟩ := k
        exact ⟨V, v, rfl, h0, h2, regroup_rep h1 h3⟩
      · cases h
    · cases h
  | .row s n _ :: ly, l, l', vs, h, k => by
    unfold regroup at h
    split at h
    · split at h
      · rename_i r' h1
        cases h
        obtain ⟨hn, u, v, rfl, h2, h3⟩ := k
        exact ⟨hn, u, v, rfl, h2, regroup_rep h1 h3⟩
      · cases h
    · split at h
      · rename_i cs r h1
        split at h
        · rename_i l2 h2
          split at h
          · rename_i r' h3
            cases h
            obtain ⟨u, v, rfl, h4, h5⟩ := headCells_rep h1 k
            obtain ⟨u2, v2, rfl, h6, h7, h8⟩ := decN_rep h2 h4
            obtain rfl : v2 = [] := h7
            exact ⟨h8, u2, v, by simp, h6, regroup_rep h3 h5⟩
          · cases h
        · cases h
      · cases h

theorem regrp_rep {e : En} {P : Program} {t : TypeId} {v : SV} {V : Value} (h : RepSV e v V) : RepSV e (regrp P t v) V := by
  unfold regrp
  split
  · rename_i l
    split
    · rename_i ly _
      cases ly.any isRow with
      | false => exact h
      | true =>
        simp only [cond_true]
        split
        · rename_i l' h1
          obtain ⟨vs, hV, hl⟩ := h
          exact ⟨vs, hV, regroup_rep h1 hl⟩
        · exact h
    · exact h
  · exact h

/-! ### rows -/
section
variable {w : World} {av : Nat → Prop} {s : Sh}

theorem RepRow.append : ∀ {a b : List s.T} {u v : List Value}, RepRow w av s a u → RepRow w av s b v → RepRow w av s (a ++ b) (u ++ v)
  | [], b, u, v, h, k => by rw [show u = [] from h]; exact k
  | x :: r, b, u, v, h, k => by
    obtain ⟨u1, u2, rfl, h1, h2⟩ := h
    exact ⟨u1, u2 ++ v, by simp, h1, RepRow.append h2 k⟩

theorem RepRow.split : ∀ {a b : List s.T} {vs : List Value}, RepRow w av s (a ++ b) vs → ∃ u v, vs = u ++ v ∧ RepRow w av s a u ∧ RepRow w av s b v
  | [], b, vs, h => ⟨[], vs, rfl, rfl, h⟩
  | x :: r, b, vs, h => by
    obtain ⟨u1, u2, rfl, h1, h2⟩ := h
    obtain ⟨u, v, rfl, h3, h4⟩ := RepRow.split h2
    exact ⟨u1 ++ u, v, by simp, ⟨u1, u, rfl, h1, h3⟩, h4⟩

theorem RepRow.take {l : List s.T} {vs : List Value} (k : Nat) (h : RepRow w av s l vs) : RepRow w av s (l.take k) (vs.take (k * s.size)) := by
  rw [← List.take_append_drop k l] at h
  obtain ⟨u, v, rfl, h1, h2⟩ := h.split
  by_cases hk : k ≤ l.length
  · have : u.length = k * s.size := by rw [h1.len, List.length_take, Nat.min_eq_left hk]
    rw [← this, List.take_left]
    exact h1
  · rw [List.drop_eq_nil_of_le (by omega)] at h2
    have e1 : u.length ≤ k * s.size := by rw [h1.len]; exact Nat.mul_le_mul_right _ (by simp; omega)
    rw [show v = [] from h2, List.append_nil, List.take_of_length_le e1]
    exact h1

theorem RepRow.drop {l : List s.T} {vs : List Value} (k : Nat) (h : RepRow w av s l vs) : RepRow w av s (l.drop k) (vs.drop (k * s.size)) := by
  rw [← List.take_append_drop k l] at h
  obtain ⟨u, v, rfl, h1, h2⟩ := h.split
  by_cases hk : k ≤ l.length
  · have : u.length = k * s.size := by rw [h1.len, List.length_take, Nat.min_eq_left hk]
    rw [← this, List.drop_left]
    exact h2
  · rw [List.drop_eq_nil_of_le (by omega : l.length ≤ k)] at h2 ⊢
    have e1 : u.length ≤ k * s.size := by rw [h1.len]; exact Nat.mul_le_mul_right _ (by simp; omega)
    rw [show v = [] from h2, List.append_nil, List.drop_eq_nil_of_le e1]
    exact rfl

theorem RepRow.sub {l : List s.T} {vs : List Value} (lo n : Nat) (h : RepRow w av s l vs) : RepRow w av s (Gx.sub l lo n) ((vs.drop (lo * s.size)).take (n * s.size)) :=
  (h.drop lo).take n

theorem RepRow.at {l : List s.T} {vs : List Value} {i : Nat} (h : RepRow w av s l vs) (hi : i < l.length) :
    ∃ u v t, vs = u ++ (v ++ t) ∧ u.length = i * s.size ∧ RepT w av s l[i] v ∧ RepRow w av s (l.take i) u ∧ RepRow w av s (l.drop (i + 1)) t := by
  have e : l = l.take i ++ (l[i] :: l.drop (i + 1)) := by simp
  rw [e] at h
  obtain ⟨u, r, rfl, h1, v, t, rfl, h2, h3⟩ := h.split
  exact ⟨u, v, t, rfl, by rw [h1.len, List.length_take, Nat.min_eq_left (by omega)], h2, h1, h3⟩

theorem RepRow.set {l : List s.T} {u t v : List Value} {i : Nat} {y : s.T} (hi : i < l.length) (h1 : RepRow w av s (l.take i) u) (h2 : RepRow w av s (l.drop (i + 1)) t)
    (hy : RepT w av s y v) : RepRow w av s (l.set i y) (u ++ (v ++ t)) := by
  rw [List.set_eq_take_append_cons_drop, if_pos hi]
  exact h1.append ⟨v, t, rfl, hy, h2⟩

theorem RepRow.cons {x : s.T} {l : List s.T} {u v : List Value} (h : RepT w av s x u) (k : RepRow w av s l v) : RepRow w av s (x :: l) (u ++ v) := ⟨u, v, rfl, h, k⟩

theorem RepRow.replicate {x : s.T} {u : List Value} (h : RepT w av s x u) : ∀ n, ∃ vs, RepRow w av s (List.replicate n x) vs ∧ vs = (List.replicate n u).flatten
  | 0 => ⟨[], rfl, rfl⟩
  | n + 1 => by
    obtain ⟨vs, h1, h2⟩ := RepRow.replicate h n
    exact ⟨u ++ vs, ⟨u, vs, rfl, h, h1⟩, by rw [h2, List.replicate_succ, List.flatten_cons]⟩

end

/-- a row read element by element -/
theorem RepRow.rowAt {w : World} {av : Nat → Prop} {s : Sh} {l : List s.T} {vs : List Value} (h : RepRow w av s l vs) {ad : Addr} {c : Array Value} {t : TypeId} {fz : Nat × Nat}
    (hs : ad.spot = none) (hc : w.heap[ad.block]? = some (.cells c t fz)) (hv : ∀ j v, vs[j]? = some v → c[ad.off + j]? = some v) : RowAt w (RepT w av s) s.size ad l := by
  refine ⟨hs, c, t, fz, hc, fun i x hx => ?_⟩
  obtain ⟨hi, rfl⟩ := List.getElem?_eq_some_iff.1 hx
  obtain ⟨u, v, r, rfl, hu, h1, _, _⟩ := h.at hi
  refine ⟨v, h1.size, h1, fun j y hy => ?_⟩
  have hj := (List.getElem?_eq_some_iff.1 hy).1
  have := hv (i * s.size + j) y (by
    rw [List.getElem?_append_right (by omega), hu, show i * s.size + j - i * s.size = j by omega, List.getElem?_append_left hj]
    exact hy)
  rwa [← Nat.add_assoc] at this

/-- .. and back: the cells of elements -/
theorem RowAt.repRow {w : World} {av : Nat → Prop} {s : Sh} {ad : Addr} : ∀ {l : List s.T}, RowAt w (RepT w av s) s.size ad l → ∀ c t fz, w.heap[ad.block]? = some (.cells c t fz) →
    ∃ vs, RepRow w av s l vs ∧ ∀ j v, vs[j]? = some v → c[ad.off + j]? = some v := by
  intro l
  induction l generalizing ad with
  | nil => exact fun _ _ _ _ _ => ⟨[], rfl, fun j v h => by simp at h⟩
  | cons x l ih =>
    intro h c t fz hc
    obtain ⟨hs, c', t', fz', hc', hl⟩ := h
    rw [hc] at hc'
    cases hc'
    obtain ⟨u, hu, h1, h2⟩ := hl 0 x rfl
    have hrest : RowAt w (RepT w av s) s.size ⟨ad.block, ad.off + s.size, none⟩ l := by
      refine ⟨rfl, c, t, fz, hc, fun i y hy => ?_⟩
      obtain ⟨v, hv, h3, h4⟩ := hl (i + 1) y (by simpa using hy)
      refine ⟨v, hv, h3, fun j z hz => ?_⟩
      have := h4 j z hz
      rw [Nat.succ_mul] at this
      rw [show ad.off + s.size + i * s.size + j = ad.off + (i * s.size + s.size) + j by omega]
      exact this
    obtain ⟨v, h3, h4⟩ := ih hrest c t fz hc
    refine ⟨u ++ v, ⟨u, v, rfl, h1, h3⟩, fun j y hy => ?_⟩
    by_cases hj : j < u.length
    · rw [List.getElem?_append_left hj] at hy
      have := h2 j y hy
      simpa using this
    · rw [List.getElem?_append_right (by omega)] at hy
      have := h4 _ y hy
      rw [show ad.off + s.size + (j - u.length) = ad.off + j by omega] at this
      exact this

/-! ### parts -/
section
variable {e : En}

theorem seek_rep : ∀ (l : List Seg) (o : Nat) (l' : List Seg) (f : Nat) (vs : List Value), seek l o = some (l', f) → RepSegs e l vs →
    ∃ u v, vs = u ++ v ∧ u.length + f = o ∧ RepSegs e l' v
  | [], _, _, _, _, h, _ => by cases h
  | .c x :: r, 0, l', f, vs, h, k => by
    simp only [seek] at h
    cases h
    exact ⟨[], vs, rfl, rfl, k⟩
  | .c x :: r, o + 1, l', f, vs, h, k => by
    simp only [seek] at h
    obtain ⟨V, v, rfl, _, _, h2⟩ := k
    obtain ⟨u, v', rfl, h3, h4⟩ := seek_rep r o l' f v h h2
    exact ⟨V :: u, v', rfl, by simp; omega, h4⟩
  | .row s n x :: r, o, l', f, vs, h, k => by
    simp only [seek] at h
    cases hb : Nat.blt o s.size with
    | true => rw [hb] at h; cases h; exact ⟨[], vs, rfl, by simp, k⟩
    | false =>
      rw [hb] at h
      cases hc : Nat.blt o (n * s.size) with
      | true => rw [hc] at h; cases h; exact ⟨[], vs, rfl, by simp, k⟩
      | false =>
        rw [hc] at h
        simp only [cond_false] at h
        obtain ⟨hn, u, v, rfl, h1, h2⟩ := k
        obtain ⟨u', v', rfl, h3, h4⟩ := seek_rep r _ l' f v h h2
        refine ⟨u ++ u', v', by simp, ?_, h4⟩
        have hlen := h1.len
        rw [hn] at hlen
        have : ¬ o < n * s.size := fun h => by rw [show Nat.blt o _ = true from (Nat.blt_eq).mpr h] at hc; cases hc
        simp only [List.length_append]
        omega

theorem takeSegs_rep : ∀ (l : List Seg) (n : Nat) (a b : List Seg) (vs : List Value), takeSegs l n = some (a, b) → RepSegs e l vs →
    ∃ u v, vs = u ++ v ∧ u.length = n ∧ RepSegs e a u ∧ RepSegs e b v
  | l, 0, a, b, vs, h, k => by
    simp only [takeSegs] at h
    cases h
    exact ⟨[], vs, rfl, rfl, rfl, k⟩
  | [], n + 1, _, _, _, h, _ => by cases h
  | .c x :: r, n + 1, a, b, vs, h, k => by
    simp only [takeSegs] at h
    split at h
    · rename_i a' b' h'
      cases h
      obtain ⟨V, v, rfl, h0, h1, h2⟩ := k
      obtain ⟨u, v', rfl, h3, h4, h5⟩ := takeSegs_rep r n a' _ v h' h2
      exact ⟨V :: u, v', rfl, by simp [h3], ⟨V, u, rfl, h0, h1, h4⟩, h5⟩
    · cases h
  | .row s m x :: r, n + 1, a, b, vs, h, k => by
    simp only [takeSegs] at h
    cases hb : Nat.ble (m * s.size) (n + 1) with
    | false => rw [hb] at h; cases h
    | true =>
      rw [hb] at h
      simp only [cond_true] at h
      split at h
      · rename_i a' b' h'
        cases h
        obtain ⟨hn, u, v, rfl, h1, h2⟩ := k
        obtain ⟨u', v', rfl, h3, h4, h5⟩ := takeSegs_rep r _ a' _ v h' h2
        have hlen := h1.len
        rw [hn] at hlen
        have := Nat.le_of_ble_eq_true hb
        exact ⟨u ++ u', v', by simp, by simp; omega, ⟨hn, u, u', rfl, h1, h4⟩, h5⟩
      · cases h

theorem setSegs_rep {new : List Seg} {n : Nat} {us : List Value} (hus : RepSegs e new us) : ∀ (l : List Seg) (o : Nat) (l' : List Seg) (vs : List Value),
    setSegs new n l o = some l' → RepSegs e l vs → ∃ u m t, vs = u ++ (m ++ t) ∧ u.length = o ∧ m.length = n ∧ RepSegs e l' (u ++ (us ++ t))
  | l, 0, l', vs, h, k => by
    have h' : (match takeSegs l n with | some (_, b) => some (new ++ b) | none => none) = some l' := by
      cases l <;> exact h
    split at h'
    · rename_i a b hab
      cases h'
      obtain ⟨u, v, rfl, h1, _, h3⟩ := takeSegs_rep l n _ b vs hab k
      refine ⟨[], u, v, rfl, rfl, h1, ?_⟩
      simp only [List.nil_append]
      clear hab h k
      induction new generalizing us with
      | nil => rw [show us = [] from hus]; exact h3
      | cons x r ih =>
        cases x with
        | c x =>
          obtain ⟨V, v', rfl, h4, h5, h6⟩ := hus
          exact ⟨V, v' ++ v, rfl, h4, h5, ih h6⟩
        | row s m x =>
          obtain ⟨hm, u1, v1, rfl, h4, h5⟩ := hus
          exact ⟨hm, u1, v1 ++ v, by simp, h4, ih h5⟩
    · cases h'
  | [], o + 1, _, _, h, _ => by cases h
  | .c x :: r, o + 1, l', vs, h, k => by
    simp only [setSegs] at h
    split at h
    · rename_i a ha
      cases h
      obtain ⟨V, v, rfl, h0, h1, h2⟩ := k
      obtain ⟨u, m, t, rfl, h3, h4, h5⟩ := setSegs_rep hus r o a v ha h2
      exact ⟨V :: u, m, t, rfl, by simp [h3], h4, ⟨V, u ++ (us ++ t), rfl, h0, h1, h5⟩⟩
    · cases h
  | .row s q x :: r, o + 1, l', vs, h, k => by
    simp only [setSegs] at h
    cases hb : Nat.ble (q * s.size) (o + 1) with
    | false => rw [hb] at h; cases h
    | true =>
      rw [hb] at h
      simp only [cond_true] at h
      split at h
      · rename_i a ha
        cases h
        obtain ⟨hn, u, v, rfl, h1, h2⟩ := k
        obtain ⟨u', m, t, rfl, h3, h4, h5⟩ := setSegs_rep hus r _ a v ha h2
        have hlen := h1.len
        rw [hn] at hlen
        have := Nat.le_of_ble_eq_true hb
        exact ⟨u ++ u', m, t, by simp, by simp; omega, h4, ⟨hn, u, u' ++ (us ++ t), by simp, h1, h5⟩⟩
      · cases h

theorem setRow_rep {s : Sh} {l1 : List s.T} : ∀ (l : List Seg) (o : Nat) (n : Nat) (x : List s.T) (g : List Seg) (f : Nat) (vs : List Value),
    seek l o = some (.row s n x :: g, f) → RepSegs e l vs → l1.length = n →
    ∃ u m t, vs = u ++ (m ++ t) ∧ u.length + f = o ∧ RepRow e.w e.av s x m ∧ x.length = n ∧
      ∀ us, RepRow e.w e.av s l1 us → RepSegs e (setRow s l1 l o) (u ++ (us ++ t))
  | [], _, _, _, _, _, _, h, _, _ => by cases h
  | .c y :: r, 0, n, x, g, f, vs, h, k, _ => by
    simp only [seek] at h
    cases h
  | .c y :: r, o + 1, n, x, g, f, vs, h, k, hl => by
    simp only [seek] at h
    obtain ⟨V, v, rfl, h0, h1, h2⟩ := k
    obtain ⟨u, m, t, rfl, h3, h4, h5, h6⟩ := setRow_rep r o n x g f v h h2 hl
    exact ⟨V :: u, m, t, rfl, by simp; omega, h4, h5, fun us hu => ⟨V, u ++ (us ++ t), rfl, h0, h1, h6 us hu⟩⟩
  | .row s' n' x' :: r, o, n, x, g, f, vs, h, k, hl => by
    simp only [seek] at h
    have here : ∀ {P : Prop}, some (Seg.row s' n' x' :: r, o) = some (Seg.row s n x :: g, f) → setRow s l1 (.row s' n' x' :: r) o = .row s n' l1 :: r →
        ∃ u m t, vs = u ++ (m ++ t) ∧ u.length + f = o ∧ RepRow e.w e.av s x m ∧ x.length = n ∧
          ∀ us, RepRow e.w e.av s l1 us → RepSegs e (setRow s l1 (.row s' n' x' :: r) o) (u ++ (us ++ t)) := by
      intro P h hset
      injection h with h
      injection h with h hf
      injection h with h hg
      injection h with hs hn hx
      subst hs hn hf
      cases hx
      obtain ⟨hn, u, v, rfl, h1, h2⟩ := k
      refine ⟨[], u, v, by simp, by simp, h1, hn, fun us hu => ?_⟩
      rw [hset]
      exact ⟨hl, us, v, by simp, hu, h2⟩
    cases hb : Nat.blt o s'.size with
    | true => rw [hb] at h; exact here (P := True) h (by simp [setRow, hb])
    | false =>
      rw [hb] at h
      cases hc : Nat.blt o (n' * s'.size) with
      | true => rw [hc] at h; exact here (P := True) h (by simp [setRow, hb, hc])
      | false =>
        rw [hc] at h
        simp only [cond_false] at h
        obtain ⟨hn, u, v, rfl, h1, h2⟩ := k
        obtain ⟨u', m, t, rfl, h3, h4, h5, h6⟩ := setRow_rep r _ n x g f v h h2 hl
        have hlen := h1.len
        rw [hn] at hlen
        have : ¬ o < n' * s'.size := fun h => by rw [show Nat.blt o _ = true from (Nat.blt_eq).mpr h] at hc; cases hc
        refine ⟨u ++ u', m, t, by simp, by simp only [List.length_append]; omega, h4, h5, fun us hu => ?_⟩
        simp only [setRow, hb, hc, cond_false]
        exact ⟨hn, u, u' ++ (us ++ t), by simp, h1, h6 us hu⟩

theorem RepRow.one {s : Sh} : ∀ {x : List s.T} {vs : List Value}, RepRow e.w e.av s x vs → ∀ v ∈ vs, v.oneCell' = true
  | [], vs, h, v, hv => by rw [show vs = [] from h] at hv; cases hv
  | y :: x, vs, h, v, hv => by
    obtain ⟨a, b, rfl, h3, h4⟩ := h
    rcases List.mem_append.1 hv with hv | hv
    · exact (RepT.enc s y a h3).one v hv
    · exact RepRow.one h4 v hv

theorem RepSegs.append : ∀ {a b : List Seg} {u v : List Value}, RepSegs e a u → RepSegs e b v → RepSegs e (a ++ b) (u ++ v)
  | [], b, u, v, h, k => by rw [show u = [] from h]; exact k
  | .c x :: r, b, u, v, h, k => by
    obtain ⟨V, u', rfl, h0, h1, h2⟩ := h
    exact ⟨V, u' ++ v, rfl, h0, h1, RepSegs.append h2 k⟩
  | .row s n x :: r, b, u, v, h, k => by
    obtain ⟨hn, u1, u2, rfl, h1, h2⟩ := h
    exact ⟨hn, u1, u2 ++ v, by simp, h1, RepSegs.append h2 k⟩

theorem RepSegs.one : ∀ {l : List Seg} {vs : List Value}, RepSegs e l vs → ∀ v ∈ vs, v.oneCell' = true
  | [], vs, h, v, hv => by rw [show vs = [] from h] at hv; cases hv
  | .c x :: r, vs, h, v, hv => by
    obtain ⟨V, u', rfl, h0, h1, h2⟩ := h
    rcases List.mem_cons.1 hv with rfl | hv
    · exact h0
    · exact RepSegs.one h2 v hv
  | .row s n x :: r, vs, h, v, hv => by
    obtain ⟨hn, u1, u2, rfl, h1, h2⟩ := h
    rcases List.mem_append.1 hv with hv | hv
    · clear h2 hn
      exact RepRow.one h1 v hv
    · exact RepSegs.one h2 v hv
end

end Go.Gx
