/-
  Gx, part O: other names for objects; a heap's part, and what comes of it put back.
-/
import Derived.Test.YteagdmkedffplaaGxN
namespace Go.Gx
section
variable {w : World} {β : Nat → Loc} {F : Nat → Prop} {H : Heap}

structure Ren (f : Nat → Nat) (S : Nat → Prop) (e e' : En) : Prop where
  w : e'.w = e.w
  av : ∀ b, e'.av b → e.av b
  lt : ∀ r, S r → f r < e'.n
  β : ∀ r, S r → e'.β (f r) = e.β r
  sz : ∀ r m, S r → e'.sz (f r) = some m → e.sz r = some m

namespace Ren
variable {f : Nat → Nat} {S : Nat → Prop} {e e' : En}

theorem kp (h : Ren f S e e') : Kp e.w e.av e'.w e'.av := fun b _ hav => ⟨by rw [h.w], fun h' => hav (h.av b h')⟩

theorem addr (h : Ren f S e e') {r o : Nat} (hr : S r) : Gx.addr e' (f r) o = Gx.addr e r o := by simp [Gx.addr, h.β r hr]

theorem sc (h : Ren f S e e') {x : Sc} {V : Value} (hs : ∀ r ∈ scRefs x, S r) (k : RepSc e x V) : RepSc e' (mapSc f x) V := by
  cases x with
  | int | bool | str | nilp | nils | nilm | nilf | undef => exact k
  | ptr r o =>
    have hr := hs r (by simp [scRefs])
    exact ⟨h.lt r hr, by rw [h.addr hr]; exact k.2⟩
  | el r o i z =>
    have hr := hs r (by simp [scRefs])
    exact ⟨h.lt r hr, by rw [h.addr hr]; exact k.2⟩
  | eptr s l i o =>
    obtain ⟨hi, ad, hav, hrow, hV⟩ := k
    obtain ⟨_, c, t, fz, hc, _⟩ := id hrow
    obtain ⟨h1, h2⟩ := h.kp ad.block (lt_of_heap hc) hav
    exact ⟨hi, ad, h2, hrow.mono h1 fun y us _ hy => hy.mono h.kp, hV⟩
  | sl r o z lo len cap =>
    have hr := hs r (by simp [scRefs])
    obtain ⟨_, hc, A, C, hV, hC, hl⟩ := k
    refine ⟨h.lt r hr, hc, A, C, hV, hC, fun h0 => ?_⟩
    obtain ⟨hA, hv, c, t, fz, hx, hs'⟩ := hl h0
    exact ⟨by rw [h.addr hr]; exact hA, by rw [h.β r hr]; exact hv, c, t, fz, by rw [h.β r hr, h.w]; exact hx, by rw [h.β r hr]; exact hs'⟩
  | wl r z =>
    have hr := hs r (by simp [scRefs])
    obtain ⟨_, A, len, C, hV, hC, hm, hl⟩ := k
    refine ⟨h.lt r hr, A, len, C, hV, hC, fun m hm' => hm m (h.sz r m hr hm'), fun h0 => ?_⟩
    obtain ⟨hA, hv, c, t, fz, hx, hs'⟩ := hl h0
    exact ⟨by rw [h.addr hr]; exact hA, by rw [h.β r hr]; exact hv, c, t, fz, by rw [h.β r hr, h.w]; exact hx, by rw [h.β r hr]; exact hs'⟩
  | isl s l => exact RepL.mono k h.kp fun y us _ hy => hy.mono h.kp
  | emp => exact k
  | map r =>
    have hr := hs r (by simp [scRefs])
    exact ⟨h.lt r hr, by rw [h.β r hr]; exact k.2⟩
  | fn g caps =>
    have hr : ∀ r ∈ caps, S r := hs
    obtain ⟨k1, k2⟩ := k
    refine ⟨fun r hr' => ?_, ?_⟩
    · obtain ⟨q, hq, rfl⟩ := List.mem_map.1 hr'
      exact h.lt q (hr q hq)
    · rw [k2, List.map_map]
      congr 2
      exact List.map_congr_left fun r hr' => by simp [h.addr (hr r hr')]

theorem segs (h : Ren f S e e') : ∀ {l : List Seg} {vs : List Value}, (∀ r ∈ segRefs l, S r) → RepSegs e l vs → RepSegs e' (mapSegs f l) vs
  | [], _, _, k => k
  | .c x :: l, vs, hs, ⟨V, v, e1, h0, h1, h2⟩ => ⟨V, v, e1, h0, h.sc (fun r hr => hs r (by simp [segRefs, hr])) h1, h.segs (fun r hr => hs r (by simp [segRefs, hr])) h2⟩
  | .row s n y :: l, vs, hs, ⟨hn, u, v, e1, h1, h2⟩ => ⟨hn, u, v, e1, h1.mono h.kp, h.segs hs h2⟩

theorem sv (h : Ren f S e e') {x : SV} {V : Value} (hs : ∀ r ∈ svRefs x, S r) (k : RepSV e x V) : RepSV e' (mapSV f x) V := by
  cases x with
  | v y => exact h.sc (fun r hr => hs r (by simp [svRefs, svSegs, segRefs, hr])) k
  | agg l =>
    obtain ⟨vs, hV, hl⟩ := k
    exact ⟨vs, hV, h.segs hs hl⟩

theorem svs (h : Ren f S e e') : ∀ {l : List SV} {vs : List Value}, (∀ r ∈ svsRefs l, S r) → RepSVs e l vs → RepSVs e' (l.map (mapSV f)) vs
  | [], _, _, k => k
  | x :: l, vs, hs, ⟨V, v, e1, h1, h2⟩ => ⟨V, v, e1, h.sv (fun r hr => hs r (by simp [svsRefs, hr])) h1, h.svs (fun r hr => hs r (by simp [svsRefs, hr])) h2⟩

theorem slot (h : Ren f S e e') {x : Slot} {V : Value} (hs : ∀ r ∈ slotRefs x, S r) (k : RepSlot e x V) : RepSlot e' (mapSlot f x) V := by
  cases x with
  | sv y => exact h.sv hs k
  | tup l =>
    obtain ⟨vs, hV, hl⟩ := k
    exact ⟨vs, hV, h.svs hs hl⟩
  | undef => trivial

end Ren

theorem mapSegs_size (f : Nat → Nat) : ∀ l, segsSize (mapSegs f l) = segsSize l
  | [] => rfl
  | .c x :: l => by simp [mapSegs, segsSize, segSize, mapSegs_size f l]
  | .row s n y :: l => by simp [mapSegs, segsSize, segSize, mapSegs_size f l]

theorem owns_map {f : Nat → Nat} {p : Loc} {o : Obj} : owns p (mapObj f o) ↔ owns p o := by
  cases o with
  | cells l => rfl
  | map => rfl
  | dead => rfl

theorem RepEntries.ren {f : Nat → Nat} {S : Nat → Prop} {e e' : En} (h : Ren f S e e') {ks vs : Sh} {ka va : Bool} : ∀ {l : List (ks.T × vs.T)} {es : List MapEntry}, RepEntries e ks vs ka va l es → RepEntries e' ks vs ka va l es
  | [], _, k => k
  | p :: l, es, k => by
    obtain ⟨x, r, e1, ⟨us, h1, h2⟩, ⟨ws, h3, h4⟩, h5⟩ := k
    exact ⟨x, r, e1, ⟨us, h1.mono h.kp, h2⟩, ⟨ws, h3.mono h.kp, h4⟩, RepEntries.ren h h5⟩

theorem RepObj.ren {f : Nat → Nat} {S : Nat → Prop} {e e' : En} (h : Ren f S e e') {r : Nat} (hr : S r) {o : Obj} (hs : ∀ q ∈ objRefs o, S q) (k : RepObj e r o) : RepObj e' (f r) (mapObj f o) := by
  cases o with
  | cells l =>
    obtain ⟨vs, h3, k0, k⟩ := k
    refine ⟨vs, h.segs hs h3, fun h0 => by rw [mapSegs_size]; exact k0 (by rw [h.β r hr] at h0; exact h0), fun h0 => ?_⟩
    rw [h.β r hr] at h0
    obtain ⟨c, t, pre, post, hc, h1, h2⟩ := k h0
    exact ⟨c, t, pre, post, by rw [h.β r hr, h.w]; exact hc, h1, by rw [h.β r hr]; exact h2⟩
  | map ks vs ka va l =>
    obtain ⟨es, clock, hc, h1, h2, h3⟩ := k
    exact ⟨es, clock, by rw [h.β r hr, h.w]; exact hc, h1.ren h, h2, h3⟩
  | dead => trivial

/-! ### what is reached -/
theorem scRefs_lt {e : En} {x : Sc} {V : Value} (k : RepSc e x V) : ∀ r ∈ scRefs x, r < e.n := by
  intro r hr
  cases x <;> simp [scRefs] at hr
  case ptr => rw [hr]; exact k.1
  case el => rw [hr]; exact k.1
  case sl => rw [hr]; exact k.1
  case wl => rw [hr]; exact k.1
  case map => rw [hr]; exact k.1
  case fn => exact k.1 r hr

theorem segRefs_lt {e : En} : ∀ {l : List Seg} {vs : List Value}, RepSegs e l vs → ∀ r ∈ segRefs l, r < e.n
  | [], _, _, r, hr => by simp [segRefs] at hr
  | .c x :: l, vs, ⟨V, v, e1, h0, h1, h2⟩, r, hr => by
    simp only [segRefs, List.mem_append] at hr
    rcases hr with hr | hr
    · exact scRefs_lt h1 r hr
    · exact segRefs_lt h2 r hr
  | .row s n y :: l, vs, ⟨hn, u, v, e1, h1, h2⟩, r, hr => segRefs_lt h2 r hr

theorem svRefs_lt {e : En} {x : SV} {V : Value} (k : RepSV e x V) : ∀ r ∈ svRefs x, r < e.n := by
  intro r hr
  cases x with
  | v y => simp only [svRefs, svSegs, segRefs, List.append_nil] at hr; exact scRefs_lt k r hr
  | agg l => obtain ⟨vs, _, hl⟩ := k; exact segRefs_lt hl r hr

theorem svsRefs_lt {e : En} : ∀ {l : List SV} {vs : List Value}, RepSVs e l vs → ∀ r ∈ svsRefs l, r < e.n
  | [], _, _, r, hr => by simp [svsRefs] at hr
  | x :: l, vs, ⟨V, v, e1, h1, h2⟩, r, hr => by
    simp only [svsRefs, List.mem_append] at hr
    rcases hr with hr | hr
    · exact svRefs_lt h1 r hr
    · exact svsRefs_lt h2 r hr

theorem slotRefs_lt {e : En} {x : Slot} {V : Value} (k : RepSlot e x V) : ∀ r ∈ slotRefs x, r < e.n := by
  intro r hr
  cases x with
  | sv y => exact svRefs_lt k r hr
  | tup l => obtain ⟨vs, _, hl⟩ := k; exact svsRefs_lt hl r hr
  | undef => simp [slotRefs] at hr

theorem objRefs_lt (ok : HeapOk w β F H) {r : Nat} {o : Obj} (h : H[r]? = some o) : ∀ q ∈ objRefs o, q < H.length := by
  intro q hq
  cases o with
  | cells l => obtain ⟨vs, hl, _⟩ := ok.obj r _ h; exact segRefs_lt hl q hq
  | map => simp [objRefs] at hq
  | dead => simp [objRefs] at hq

theorem getD_refs_lt (ok : HeapOk w β F H) (r : Nat) : ∀ q ∈ objRefs (H.getD r .dead), q < H.length := by
  intro q hq
  cases h : H[r]? with
  | none => simp [List.getD, h, objRefs] at hq
  | some o =>
    have : H.getD r .dead = o := by simp [List.getD, h]
    rw [this] at hq
    exact objRefs_lt ok h q hq

def Closed (H : Heap) (rs : List Nat) : Prop := ∀ r ∈ rs, ∀ q ∈ objRefs (H.getD r .dead), q ∈ rs

theorem reach_spec (ok : HeapOk w β F H) : ∀ (n : Nat) (todo acc rs : List Nat), reach H n todo acc = some rs → (∀ r ∈ acc, ∀ q ∈ objRefs (H.getD r .dead), q ∈ acc ∨ q ∈ todo) → acc.Nodup →
    (∀ r ∈ acc, r < H.length) → (∀ r ∈ todo, r < H.length) → (∃ t, rs = acc ++ t) ∧ (∀ q ∈ todo, q ∈ rs) ∧ Closed H rs ∧ rs.Nodup ∧ ∀ r ∈ rs, r < H.length
  | n, [], acc, rs, h, hinv, hnd, hlt, _ => by
    have h : some acc = some rs := by cases n <;> exact h
    cases h
    exact ⟨⟨[], by simp⟩, fun q hq => (nomatch hq), fun r hr q hq => (hinv r hr q hq).resolve_right (fun h => nomatch h), hnd, hlt⟩
  | 0, _ :: _, acc, rs, h, _, _, _, _ => by cases h
  | n + 1, r :: todo, acc, rs, h, hinv, hnd, hlt, htd => by
    simp only [reach] at h
    cases hc : acc.contains r with
    | true =>
      rw [hc] at h
      have hr : r ∈ acc := by simpa using hc
      obtain ⟨h1, h2, h3⟩ := reach_spec ok n todo acc rs h (fun q hq p hp => by
        rcases hinv q hq p hp with h | h
        · exact .inl h
        · rcases List.mem_cons.1 h with rfl | h
          · exact .inl hr
          · exact .inr h) hnd hlt (fun q hq => htd q (List.mem_cons_of_mem _ hq))
      refine ⟨h1, fun q hq => ?_, h3⟩
      rcases List.mem_cons.1 hq with rfl | hq
      · obtain ⟨t, rfl⟩ := h1
        exact List.mem_append_left _ hr
      · exact h2 q hq
    | false =>
      rw [hc] at h
      have hr : r ∉ acc := by
        intro h'
        have : acc.contains r = true := by simpa using h'
        rw [hc] at this
        cases this
      obtain ⟨⟨t, h1⟩, h2, h3⟩ := reach_spec ok n (objRefs (H.getD r .dead) ++ todo) (acc ++ [r]) rs h (fun q hq p hp => by
        rcases List.mem_append.1 hq with hq | hq
        · rcases hinv q hq p hp with h | h
          · exact .inl (List.mem_append_left _ h)
          · rcases List.mem_cons.1 h with rfl | h
            · exact .inl (by simp)
            · exact .inr (List.mem_append_right _ h)
        · rw [List.mem_singleton.1 hq] at hp
          exact .inr (List.mem_append_left _ hp)) (by
        rw [List.nodup_append]
        refine ⟨hnd, by simp, fun a ha b hb => ?_⟩
        rw [List.mem_singleton.1 hb]
        exact fun e => hr (e ▸ ha)) (fun q hq => by
        rcases List.mem_append.1 hq with hq | hq
        · exact hlt q hq
        · rw [List.mem_singleton.1 hq]; exact htd r (by simp)) (fun q hq => by
        rcases List.mem_append.1 hq with hq | hq
        · exact getD_refs_lt ok r q hq
        · exact htd q (List.mem_cons_of_mem _ hq))
      refine ⟨⟨[r] ++ t, by rw [h1, List.append_assoc]⟩, fun q hq => ?_, h3⟩
      rcases List.mem_cons.1 hq with rfl | hq
      · rw [h1]; simp
      · exact h2 q (List.mem_append_right _ hq)

theorem idx_lt : ∀ {rs : List Nat} {r : Nat}, r ∈ rs → idx rs r < rs.length ∧ rs[idx rs r]? = some r
  | [], r, h => by cases h
  | x :: t, r, h => by
    simp only [idx]
    cases hb : Nat.beq x r with
    | true =>
      have := Nat.eq_of_beq_eq_true hb
      subst this
      simp
    | false =>
      have hne : x ≠ r := fun e => by subst e; simp at hb
      obtain ⟨h1, h2⟩ := idx_lt (rs := t) (r := r) ((List.mem_cons.1 h).resolve_left (Ne.symm hne))
      simp only [cond_false, List.length_cons, List.getElem?_cons_succ]
      exact ⟨by omega, h2⟩

/-! ### a part of a heap -/
def part (H : Heap) (rs : List Nat) : Heap := rs.map fun r => mapObj (idx rs) (H.getD r .dead)
def partβ (β : Nat → Loc) (rs : List Nat) : Nat → Loc := fun i => β (rs.getD i 0)

theorem part_get {rs : List Nat} {i : Nat} {o : Obj} (h : (part H rs)[i]? = some o) : ∃ r, rs[i]? = some r ∧ o = mapObj (idx rs) (H.getD r .dead) := by
  unfold part at h
  rw [List.getElem?_map] at h
  cases hr : rs[i]? with
  | none => rw [hr] at h; cases h
  | some r => rw [hr] at h; simp at h; exact ⟨r, rfl, h.symm⟩

theorem getD_get {r : Nat} (h : r < H.length) : H[r]? = some (H.getD r .dead) := by
  simp [List.getD, List.getElem?_eq_getElem h]

theorem get_unique {rs : List Nat} (hnd : rs.Nodup) {i j r : Nat} (hi : rs[i]? = some r) (hj : rs[j]? = some r) : i = j := by
  obtain ⟨h1, h2⟩ := List.getElem?_eq_some_iff.1 hi
  obtain ⟨h3, h4⟩ := List.getElem?_eq_some_iff.1 hj
  have hp := List.pairwise_iff_getElem.1 hnd
  rcases Nat.lt_trichotomy i j with h | h | h
  · exact absurd (h2.trans h4.symm) (hp i j h1 h3 h)
  · exact h
  · exact absurd (h4.trans h2.symm) (hp j i h3 h1 h)

theorem part_own {rs : List Nat} (hlt : ∀ r ∈ rs, r < H.length) {b : Nat} (h : Own (partβ β rs) (part H rs) b) : ∃ r ∈ rs, ∃ o, H[r]? = some o ∧ owns (β r) o ∧ (β r).b = b := by
  obtain ⟨i, o, h1, h2, h3⟩ := h
  obtain ⟨r, hr, rfl⟩ := part_get h1
  have hm := List.mem_of_getElem? hr
  have hβ : partβ β rs i = β r := by simp [partβ, List.getD, hr]
  rw [hβ] at h2 h3
  exact ⟨r, hm, _, getD_get (hlt r hm), owns_map.1 h2, h3⟩

theorem part_ren {rs : List Nat} (hlt : ∀ r ∈ rs, r < H.length) {F' : Nat → Prop} (hF : ∀ b, F' b → F b ∨ ∃ r o, r ∉ rs ∧ H[r]? = some o ∧ owns (β r) o ∧ (β r).b = b) :
    Ren (idx rs) (· ∈ rs) (en w β F H) (en w (partβ β rs) F' (part H rs)) where
  w := rfl
  av b h := by
    rcases h with h | h
    · obtain ⟨r, _, o, h1, h2, h3⟩ := part_own hlt h
      exact .inl ⟨r, o, h1, h2, h3⟩
    · rcases hF b h with h | ⟨r, o, _, h1, h2, h3⟩
      · exact .inr h
      · exact .inl ⟨r, o, h1, h2, h3⟩
  lt r hr := by
    show idx rs r < (part H rs).length
    simp only [part, List.length_map]
    exact (idx_lt hr).1
  β r hr := by simp [en, partβ, List.getD, (idx_lt hr).2]
  sz r m hr hm := by
    obtain ⟨l, h1, h2⟩ := szOf_some hm
    obtain ⟨r', hr', e⟩ := part_get h1
    rw [(idx_lt hr).2] at hr'
    cases hr'
    cases ho : H.getD r .dead with
    | cells l' =>
      rw [ho] at e
      simp only [mapObj, Obj.cells.injEq] at e
      refine (szOf_of (getD_get (hlt r hr))).trans ?_
      rw [ho]
      simp only [szO]
      rw [← mapSegs_size (idx rs) l', ← e, h2]
    | map => rw [ho] at e; cases e
    | dead => rw [ho] at e; cases e

theorem part_ok (ok : HeapOk w β F H) {rs : List Nat} (hlt : ∀ r ∈ rs, r < H.length) (hnd : rs.Nodup) (hcl : Closed H rs) {F' : Nat → Prop} (hF : ∀ b, F' b → F b ∨ ∃ r o, r ∉ rs ∧ H[r]? = some o ∧ owns (β r) o ∧ (β r).b = b) :
    HeapOk w (partβ β rs) F' (part H rs) := by
  have ren := part_ren (w := w) hlt hF
  have hβ : ∀ {i r}, rs[i]? = some r → partβ β rs i = β r := fun h => by simp [partβ, List.getD, h]
  refine ⟨fun i o h => ?_, fun i o h ho => ?_, fun i j o o' h h' ho ho' e => ?_, fun b hb => ?_⟩
  · obtain ⟨r, hr, rfl⟩ := part_get h
    have hm := List.mem_of_getElem? hr
    have := (ok.obj r _ (getD_get (hlt r hm))).ren ren hm (hcl r hm)
    rw [get_unique hnd (idx_lt hm).2 hr] at this
    exact this
  · obtain ⟨r, hr, rfl⟩ := part_get h
    have hm := List.mem_of_getElem? hr
    have hH := getD_get (hlt r hm)
    rw [hβ hr] at ho
    obtain ⟨h1, h2⟩ := ok.lt r _ hH (owns_map.1 ho)
    rw [hβ hr]
    refine ⟨h1, fun hf => ?_⟩
    rcases hF _ hf with hf | ⟨r', o', hn, h3, h4, h5⟩
    · exact h2 hf
    · have := ok.inj r' r o' _ h3 hH h4 (owns_map.1 ho) h5
      exact hn (this ▸ hm)
  · obtain ⟨r, hr, rfl⟩ := part_get h
    obtain ⟨r', hr', rfl⟩ := part_get h'
    rw [hβ hr] at e ho
    rw [hβ hr'] at e ho'
    have := ok.inj r r' _ _ (getD_get (hlt r (List.mem_of_getElem? hr))) (getD_get (hlt r' (List.mem_of_getElem? hr'))) (owns_map.1 ho) (owns_map.1 ho') e
    subst this
    exact get_unique hnd hr hr'
  · rcases hF b hb with h | ⟨r, o, _, h1, h2, rfl⟩
    · exact ok.F b h
    · exact (ok.lt r o h1 h2).1

end
end Go.Gx
