/-
  Gx, part D: an object is made, changed, given up; what the world's cells then are.
-/
import Derived.Test.YteagdmkedffplaaGxC
namespace Go.Gx

def setB (w : World) (b : Nat) (o : Go.Obj) : World := { w with heap := w.heap.setIfInBounds b o }

theorem heap_setB_same {w : World} {b : Nat} {o : Go.Obj} (h : b < w.heap.size) : (setB w b o).heap[b]? = some o := by
  simp [setB, h]
theorem heap_setB_other {w : World} {b b' : Nat} {o : Go.Obj} (h : b' ≠ b) : (setB w b o).heap[b']? = w.heap[b']? := by
  simp [setB, Array.getElem?_setIfInBounds_ne (Ne.symm h)]
theorem size_setB {w : World} {b : Nat} {o : Go.Obj} : (setB w b o).heap.size = w.heap.size := by simp [setB]
theorem heap_alloc_old {w : World} {o : Go.Obj} {b : Nat} (h : b < w.heap.size) : (w.alloc o).heap[b]? = w.heap[b]? := by
  show (w.heap.push o)[b]? = _
  rw [Array.getElem?_push, if_neg (Nat.ne_of_lt h)]
theorem heap_alloc_new {w : World} {o : Go.Obj} : (w.alloc o).heap[w.heap.size]? = some o := by
  show (w.heap.push o)[w.heap.size]? = _
  simp

theorem Own.lt {w : World} {β : Nat → Loc} {F : Nat → Prop} {H : Heap} (ok : HeapOk w β F H) {b : Nat} (h : Own β H b) : b < w.heap.size := by
  obtain ⟨r, o, h1, h2, rfl⟩ := h
  exact (ok.lt r o h1 h2).1

theorem lt_len {H : Heap} {r : Nat} {o : Obj} (h : H[r]? = some o) : r < H.length := (List.getElem?_eq_some_iff.1 h).1

/-- what holds of an object in a world that has gone on: its own block but for one -/
theorem RepObj.keep {w w' : World} {β β' : Nat → Loc} {F : Nat → Prop} {H H' : Heap} (ok : HeapOk w β F H) (hx : Ext (en w β F H) (en w' β' F H')) {r : Nat} {o : Obj}
    (h : H[r]? = some o) (hb : owns (β r) o → w'.heap[(β r).b]? = w.heap[(β r).b]?) : RepObj (en w' β' F H') r o :=
  (ok.obj r o h).mono hx (lt_len h) hb

/-! ### a new object -/
def upd (β : Nat → Loc) (n : Nat) (p : Loc) : Nat → Loc := fun r => if r = n then p else β r

theorem upd_lt {β : Nat → Loc} {n r : Nat} {p : Loc} (h : r < n) : upd β n p r = β r := by simp [upd, Nat.ne_of_lt h]
theorem upd_eq {β : Nat → Loc} {n : Nat} {p : Loc} : upd β n p n = p := by simp [upd]

theorem get_snoc {H : Heap} {o x : Obj} {r : Nat} (h : (H ++ [o])[r]? = some x) : (H[r]? = some x) ∨ (r = H.length ∧ x = o) := by
  by_cases hr : r < H.length
  · rw [List.getElem?_append_left hr] at h; exact .inl h
  · rw [List.getElem?_append_right (by omega)] at h
    have : r - H.length = 0 := by
      have := (List.getElem?_eq_some_iff.1 h).1
      simp at this; omega
    rw [this] at h
    simp at h
    exact .inr ⟨by omega, h.symm⟩

theorem Own.snoc {β : Nat → Loc} {H : Heap} {o : Obj} {p : Loc} {b : Nat} : Own (upd β H.length p) (H ++ [o]) b → Own β H b ∨ b = p.b := by
  rintro ⟨r, x, h1, h2, h3⟩
  rcases get_snoc h1 with h | ⟨rfl, rfl⟩
  · rw [upd_lt (lt_len h)] at h2 h3
    exact .inl ⟨r, x, h, h2, h3⟩
  · rw [upd_eq] at h3
    exact .inr h3.symm

theorem ext_alloc {w : World} {β : Nat → Loc} {F : Nat → Prop} {H : Heap} (g : Go.Obj) (o : Obj) (hg : ∀ c t f, g = .cells c t f → f = (0, 0)) :
    Ext (en w β F H) (en (w.alloc g) (upd β H.length ⟨w.heap.size, 0, True⟩) F (H ++ [o])) where
  n := by simp [en]
  β r hr := upd_lt hr
  size := by simp [en]
  kept b hb _ := heap_alloc_old hb
  sub b hb h := by
    rcases h.snoc with h | h
    · exact h
    · simp [en] at hb h; omega
  F := rfl
  sz r m hr h := by
    have hr' : r < H.length := hr
    simp only [en, szOf] at h ⊢
    rw [List.getElem?_append_left hr'] at h
    exact h
  grow b c t f h := ⟨c, f, by simp only [en] at *; rw [heap_alloc_old (lt_of_heap h)]; exact h, rfl⟩
  out := ⟨rfl, rfl⟩
  froz b c t f h := by
    by_cases hb : b < w.heap.size
    · have h : (w.alloc g).heap[b]? = _ := h
      rw [heap_alloc_old hb] at h
      exact .inr ⟨c, h⟩
    · have h : (w.heap.push g)[b]? = _ := h
      rw [Array.getElem?_push] at h
      split at h
      · cases h
        exact .inl (hg _ _ _ rfl)
      · exact .inr ⟨c, h⟩

theorem ok_alloc {w : World} {β : Nat → Loc} {F : Nat → Prop} {H : Heap} (ok : HeapOk w β F H) (g : Go.Obj) (o : Obj) (hg : ∀ c t f, g = .cells c t f → f = (0, 0))
    (ho : RepObj (en (w.alloc g) (upd β H.length ⟨w.heap.size, 0, True⟩) F (H ++ [o])) H.length o) :
    HeapOk (w.alloc g) (upd β H.length ⟨w.heap.size, 0, True⟩) F (H ++ [o]) where
  obj r x h := by
    rcases get_snoc h with h | ⟨rfl, rfl⟩
    · exact RepObj.keep ok (ext_alloc g o hg) h fun hw => heap_alloc_old (ok.lt r x h hw).1
    · exact ho
  lt r x h hw := by
    rcases get_snoc h with h | ⟨rfl, rfl⟩
    · rw [upd_lt (lt_len h)] at hw ⊢
      obtain ⟨h1, h2⟩ := ok.lt r x h hw
      exact ⟨by simp; omega, h2⟩
    · rw [upd_eq]
      exact ⟨by simp, fun hf => absurd (ok.F _ hf) (by simp)⟩
  inj r r' x x' h h' hw hw' e := by
    rcases get_snoc h with k | ⟨k, kx⟩ <;> rcases get_snoc h' with k' | ⟨k', kx'⟩
    · rw [upd_lt (lt_len k)] at hw e
      rw [upd_lt (lt_len k')] at hw' e
      exact ok.inj r r' x x' k k' hw hw' e
    · rw [upd_lt (lt_len k)] at hw e
      rw [k', upd_eq] at e
      have := (ok.lt r x k hw).1
      simp at e; omega
    · rw [upd_lt (lt_len k')] at hw' e
      rw [k, upd_eq] at e
      have := (ok.lt r' x' k' hw').1
      simp at e; omega
    · rw [k, k']
  F b hb := by have := ok.F b hb; simp; omega

/-- a new block of cells -/
theorem new_cells {w : World} {β : Nat → Loc} {F : Nat → Prop} {H : Heap} (ok : HeapOk w β F H) (t : TypeId) {sg : List Seg} {vs : List Value} (hs : RepSegs (en w β F H) sg vs)
    {cs : Array Value} (hc : cs.toList = vs ∨ ∃ post, cs.toList = vs ++ post) :
    let w' := w.alloc (.cells cs t); let β' := upd β H.length ⟨w.heap.size, 0, True⟩; let H' := H ++ [.cells sg]
    HeapOk w' β' F H' ∧ Ext (en w β F H) (en w' β' F H') := by
  have hg : ∀ (c : Array Value) (t' : TypeId) f, Go.Obj.cells cs t = .cells c t' f → f = (0, 0) := fun _ _ _ e => by cases e; rfl
  refine ⟨ok_alloc ok _ _ hg ⟨vs, hs.mono (ext_alloc _ _ hg), fun h => absurd (by simp [en, upd_eq]) h, fun _ => ?_⟩, ext_alloc _ _ hg⟩
  obtain ⟨post, hp⟩ : ∃ post, cs.toList = vs ++ post := by
    rcases hc with h | h
    · exact ⟨[], by simp [h]⟩
    · exact h
  exact ⟨cs, t, [], post, by simp only [en, upd_eq]; exact heap_alloc_new, by simpa using hp, by simp [en, upd_eq]⟩

/-! ### an object changed -/
theorem get_set {H : Heap} {r r' : Nat} {o x : Obj} (h : (H.set r o)[r']? = some x) : (r' = r ∧ x = o) ∨ (r' ≠ r ∧ H[r']? = some x) := by
  by_cases e : r' = r
  · subst e
    have hr : r' < H.length := by have := lt_len h; simpa using this
    rw [List.getElem?_set_self hr] at h
    exact .inl ⟨rfl, (Option.some.inj h).symm⟩
  · rw [List.getElem?_set_ne (Ne.symm e)] at h
    exact .inr ⟨e, h⟩

theorem ext_set {w w' : World} {β : Nat → Loc} {F : Nat → Prop} {H : Heap} {r : Nat} {o o' : Obj} (h : H[r]? = some o) (hw : owns (β r) o) (hsz : ∀ m, szO o' = some m → szO o = some m)
    (hsize : w'.heap.size = w.heap.size) (hoth : ∀ b, b ≠ (β r).b → w'.heap[b]? = w.heap[b]?)
    (hout : w'.os = w.os ∧ w'.output = w.output) (hfroz : ∀ c t f, w'.heap[(β r).b]? = some (.cells c t f) → f = (0, 0)) (hgrow : ∀ c t f, w.heap[(β r).b]? = some (.cells c t f) → ∃ c' f', w'.heap[(β r).b]? = some (.cells c' t f') ∧ c'.size = c.size) :
    Ext (en w β F H) (en w' β F (H.set r o')) where
  n := by simp [en]
  β _ _ := rfl
  size := by simp [en, hsize]
  kept b _ hb := hoth b fun e => hb ⟨r, o, h, hw, e.symm⟩
  sub b _ hb := by
    obtain ⟨q, x, h1, h2, h3⟩ := hb
    rcases get_set h1 with ⟨rfl, rfl⟩ | ⟨_, h4⟩
    · exact ⟨q, o, h, hw, h3⟩
    · exact ⟨q, x, h4, h2, h3⟩
  F := rfl
  sz q m hq h := by
    obtain ⟨l, h1, h2⟩ := szOf_some h
    rcases get_set h1 with ⟨rfl, e⟩ | ⟨_, h4⟩
    · subst e
      exact (szOf_of ‹H[q]? = some o›).trans (hsz m (by simp [szO, h2]))
    · exact (szOf_of h4).trans (by simp [szO, h2])
  grow b c t f hb := by
    by_cases e : b = (β r).b
    · subst e; exact hgrow c t f hb
    · exact ⟨c, f, by simp only [en] at *; rw [hoth b e]; exact hb, rfl⟩
  out := hout
  froz b c t f hb := by
    by_cases e : b = (β r).b
    · subst e; exact .inl (hfroz c t f hb)
    · exact .inr ⟨c, by simp only [en] at *; rw [hoth b e] at hb; exact hb⟩

theorem ok_set {w w' : World} {β : Nat → Loc} {F : Nat → Prop} {H : Heap} (ok : HeapOk w β F H) {r : Nat} {o o' : Obj} (h : H[r]? = some o) (hw : owns (β r) o)
    (hsize : w'.heap.size = w.heap.size) (hoth : ∀ b, b ≠ (β r).b → w'.heap[b]? = w.heap[b]?)
    (hx : Ext (en w β F H) (en w' β F (H.set r o'))) (ho : RepObj (en w' β F (H.set r o')) r o') : HeapOk w' β F (H.set r o') where
  obj q x hq := by
    rcases get_set hq with ⟨rfl, rfl⟩ | ⟨hne, hq⟩
    · exact ho
    · exact RepObj.keep ok hx hq fun hx => hoth _ fun e => hne (ok.inj q r x o hq h hx hw e)
  lt q x hq hx := by
    rw [hsize]
    rcases get_set hq with ⟨rfl, rfl⟩ | ⟨_, hq⟩
    · exact ok.lt q o h hw
    · exact ok.lt q x hq hx
  inj q q' x x' hq hq' hx hx' e := by
    rcases get_set hq with ⟨k, _⟩ | ⟨_, k⟩ <;> rcases get_set hq' with ⟨k', _⟩ | ⟨_, k'⟩
    · rw [k, k']
    · rw [k] at e ⊢; exact ok.inj r q' o x' h k' hw hx' e
    · rw [k'] at e ⊢; exact ok.inj q r x o k h hx hw e
    · exact ok.inj q q' x x' k k' hx hx' e
  F b hb := by rw [hsize]; exact ok.F b hb

/-- an object is given up: the world stays -/
theorem ext_kill {w : World} {β : Nat → Loc} {F : Nat → Prop} {H : Heap} {r : Nat} : Ext (en w β F H) (en w β F (H.set r .dead)) where
  n := by simp [en]
  β _ _ := rfl
  size := Nat.le_refl _
  kept _ _ _ := rfl
  sub b _ hb := by
    obtain ⟨q, x, h1, h2, h3⟩ := hb
    rcases get_set h1 with ⟨rfl, rfl⟩ | ⟨_, h4⟩
    · exact h2.elim
    · exact ⟨q, x, h4, h2, h3⟩
  F := rfl
  sz q m _ h := by
    obtain ⟨l, h1, h2⟩ := szOf_some h
    rcases get_set h1 with ⟨rfl, e⟩ | ⟨_, h4⟩
    · cases e
    · exact (szOf_of h4).trans (by simp [szO, h2])
  grow b c t f hb := ⟨c, f, hb, rfl⟩
  out := ⟨rfl, rfl⟩
  froz b c t f hb := .inr ⟨c, hb⟩

theorem ok_kill {w : World} {β : Nat → Loc} {F : Nat → Prop} {H : Heap} (ok : HeapOk w β F H) (r : Nat) : HeapOk w β F (H.set r .dead) where
  obj q x hq := by
    rcases get_set hq with ⟨rfl, rfl⟩ | ⟨_, hq⟩
    · trivial
    · exact RepObj.keep ok ext_kill hq fun _ => rfl
  lt q x hq hx := by
    rcases get_set hq with ⟨rfl, rfl⟩ | ⟨_, hq⟩
    · exact hx.elim
    · exact ok.lt q x hq hx
  inj q q' x x' hq hq' hx hx' e := by
    rcases get_set hq with ⟨rfl, rfl⟩ | ⟨_, hq⟩
    · exact hx.elim
    · rcases get_set hq' with ⟨rfl, rfl⟩ | ⟨_, hq'⟩
      · exact hx'.elim
      · exact ok.inj q q' x x' hq hq' hx hx' e
  F := ok.F

/-- a given-up object's block is nobody's -/
theorem not_av_kill {w : World} {β : Nat → Loc} {F : Nat → Prop} {H : Heap} (ok : HeapOk w β F H) {r : Nat} {o : Obj} (h : H[r]? = some o) (hw : owns (β r) o) :
    ¬ (en w β F (H.set r .dead)).av (β r).b := by
  rintro (⟨q, x, h1, h2, h3⟩ | hf)
  · rcases get_set h1 with ⟨rfl, rfl⟩ | ⟨hne, h4⟩
    · exact h2.elim
    · exact hne (ok.inj q r x o h4 h h2 hw h3)
  · exact (ok.lt r o h hw).2 hf

/-! ### an object by another in its place; an object that stands for nothing -/
/-- a new index, and no new block: it has that of an object that is given up, or none -/
theorem reborn {w : World} {β : Nat → Loc} {F : Nat → Prop} {H : Heap} (ok : HeapOk w β F H) (r : Nat) {o' : Obj} {p : Loc} (hp : owns p o' → ∃ o, H[r]? = some o ∧ owns (β r) o ∧ p.b = (β r).b)
    (hob : ∀ (hx : Ext (en w β F H) (en w (upd β H.length p) F (H.set r .dead ++ [o']))), RepObj (en w (upd β H.length p) F (H.set r .dead ++ [o'])) H.length o') :
    HeapOk w (upd β H.length p) F (H.set r .dead ++ [o']) ∧ Ext (en w β F H) (en w (upd β H.length p) F (H.set r .dead ++ [o'])) := by
  have h1 : (H.set r .dead).length = H.length := List.length_set
  have hget : ∀ q o, (H.set r .dead ++ [o'])[q]? = some o → (q ≠ r ∧ H[q]? = some o) ∨ o = .dead ∨ (q = H.length ∧ o = o') := fun q o hq => by
    rcases get_snoc hq with h | ⟨h, h'⟩
    · rcases get_set h with ⟨_, h⟩ | h
      · exact .inr (.inl h)
      · exact .inl h
    · exact .inr (.inr ⟨by rw [h, h1], h'⟩)
  have hβ : ∀ q, q < H.length → upd β H.length p q = β q := fun q hq => upd_lt hq
  have hx : Ext (en w β F H) (en w (upd β H.length p) F (H.set r .dead ++ [o'])) := {
    n := by simp [en]
    β := fun q hq => hβ q hq
    size := Nat.le_refl _
    kept := fun b _ _ => rfl
    sub := fun b _ ho => by
      obtain ⟨q, o, h2, h3, h4⟩ := ho
      rcases hget q o h2 with ⟨_, h⟩ | rfl | ⟨rfl, rfl⟩
      · rw [hβ q (lt_len h)] at h3 h4
        exact ⟨q, o, h, h3, h4⟩
      · exact h3.elim
      · rw [upd_eq] at h3 h4
        obtain ⟨o, k1, k2, k3⟩ := hp h3
        exact ⟨r, o, k1, k2, by rw [← k3, h4]⟩
    F := rfl
    sz := fun q m hq h => by
      obtain ⟨l, k1, k2⟩ := szOf_some h
      rcases hget q _ k1 with ⟨_, h⟩ | h | ⟨rfl, _⟩
      · exact (szOf_of h).trans (by simp [szO, k2])
      · cases h
      · exact absurd hq (Nat.lt_irrefl _)
    grow := fun b c t f hb => ⟨c, f, hb, rfl⟩
    out := ⟨rfl, rfl⟩
    froz := fun b c t f hb => .inr ⟨c, hb⟩ }
  refine ⟨⟨?_, ?_, ?_, ok.F⟩, hx⟩
  · intro q o hq
    rcases hget q o hq with ⟨hne, h⟩ | rfl | ⟨rfl, rfl⟩
    · exact RepObj.keep ok hx h fun _ => rfl
    · trivial
    · exact hob hx
  · intro q o hq ho
    rcases hget q o hq with ⟨hne, h⟩ | rfl | ⟨rfl, rfl⟩
    · rw [hβ q (lt_len h)] at ho ⊢
      exact ok.lt q o h ho
    · exact ho.elim
    · rw [upd_eq] at ho ⊢
      obtain ⟨o, k1, k2, k3⟩ := hp ho
      rw [k3]
      exact ok.lt r o k1 k2
  · intro q q' o p' hq hq' ho ho' e
    rcases hget q o hq with ⟨hne, h⟩ | rfl | ⟨k, rfl⟩ <;> rcases hget q' p' hq' with ⟨hne', h'⟩ | rfl | ⟨k', rfl⟩
    · rw [hβ q (lt_len h)] at ho e
      rw [hβ q' (lt_len h')] at ho' e
      exact ok.inj q q' o p' h h' ho ho' e
    · exact ho'.elim
    · rw [hβ q (lt_len h)] at ho e
      rw [k', upd_eq] at ho' e
      obtain ⟨o2, k1, k2, k3⟩ := hp ho'
      rw [k3] at e
      exact absurd (ok.inj q r o _ h k1 ho k2 e) hne
    · exact ho.elim
    · exact ho.elim
    · exact ho.elim
    · rw [hβ q' (lt_len h')] at ho' e
      rw [k, upd_eq] at ho e
      obtain ⟨o2, k1, k2, k3⟩ := hp ho
      rw [k3] at e
      exact absurd (ok.inj r q' _ p' k1 h' k2 ho' e).symm hne'
    · exact ho'.elim
    · rw [k, k']

theorem set_len_self {H : Heap} {o : Obj} : H.set H.length o = H := List.set_eq_of_length_le (Nat.le_refl _)

/-- an empty row that no block stands for -/
theorem new_virt {w : World} {β : Nat → Loc} {F : Nat → Prop} {H : Heap} (ok : HeapOk w β F H) (s : Sh) :
    HeapOk w (upd β H.length ⟨0, 0, False⟩) F (H ++ [.cells [.row s 0 []]]) ∧ Ext (en w β F H) (en w (upd β H.length ⟨0, 0, False⟩) F (H ++ [.cells [.row s 0 []]])) := by
  have := reborn ok H.length (o' := .cells [.row s 0 []]) (p := ⟨0, 0, False⟩) (fun h => h.elim) fun hx =>
    ⟨[], ⟨rfl, [], [], rfl, rfl, rfl⟩, fun _ => by simp [segsSize, segSize], fun h => by simp [en, upd_eq] at h⟩
  rw [set_len_self] at this
  exact this

theorem szOf_snoc {H : Heap} {o : Obj} : szOf (H ++ [o]) H.length = szO o := szOf_of (by simp)
theorem szOf_set_snoc {H : Heap} {r : Nat} {o o' : Obj} : szOf (H.set r o' ++ [o]) H.length = szO o := by
  have h : (H.set r o').length = H.length := List.length_set
  have := szOf_snoc (H := H.set r o') (o := o)
  rwa [h] at this

theorem virt_rep {w : World} {β : Nat → Loc} {F : Nat → Prop} {H : Heap} {s : Sh} {A : Option Addr} {p : Loc} : RepSc (en w (upd β H.length p) F (H ++ [.cells [.row s 0 []]])) (.wl H.length s.size) (.slice A 0 0) :=
  ⟨by simp [en], A, 0, 0, rfl, Nat.le_refl _, fun m hm => by
    have : szOf (H ++ [.cells [.row s 0 []]]) H.length = some m := hm
    rw [szOf_snoc] at this
    simp [szO, segsSize, segSize] at this
    omega, fun h => absurd h (Nat.lt_irrefl _)⟩

/-- a whole row with its length -/
theorem widen_rep {w : World} {β : Nat → Loc} {F : Nat → Prop} {H : Heap} {x : Sc} {V : Value} (h : RepSc (en w β F H) x V) : RepSc (en w β F H) (widen H x) V := by
  unfold widen
  split
  · rename_i r z
    split
    · rename_i s n l hH
      cases hb : (Nat.beq z s.size && Nat.blt 0 s.size) with
      | false => trivial
      | true =>
        rw [Bool.and_eq_true] at hb
        obtain rfl : z = s.size := Nat.eq_of_beq_eq_true hb.1
        have hs0 : 0 < s.size := by simpa using hb.2
        obtain ⟨hr, A, len, C, rfl, hC, hm, hl⟩ := h
        have h1 := hm (n * s.size) ((szOf_of hH).trans (by simp [szO, segsSize, segSize]))
        obtain rfl : n = len := Nat.eq_of_mul_eq_mul_right hs0 h1
        refine ⟨hr, Nat.le_refl _, A, C, rfl, hC, fun h0 => ?_⟩
        obtain ⟨h2, h3, c, t, fz, h4, h5⟩ := hl h0
        exact ⟨by simpa using h2, h3, c, t, fz, h4, by simpa using h5⟩
    · trivial
  · exact h

/-- a slice of all of a row -/
theorem wl_rep {e : En} {r z n : Nat} {V : Value} (h : RepSc e (.sl r 0 z 0 n none) V) (hs : e.sz r = some (n * z)) : RepSc e (.wl r z) V := by
  obtain ⟨hr, hlen, A, C, rfl, hC, hA⟩ := h
  refine ⟨hr, A, n, C, rfl, hC, fun m hm => by rw [hs] at hm; exact (Option.some.inj hm).symm, fun h0 => ?_⟩
  obtain ⟨h2, h3, c, t, fz, h4, h5⟩ := hA h0
  exact ⟨by simpa using h2, h3, c, t, fz, h4, by simpa using h5⟩

/-! ### cells of the world -/
theorem cell_of {w : World} {a : Addr} {c : Array Value} {t : TypeId} {f : Nat × Nat} (hs : a.spot = none) (h : w.heap[a.block]? = some (.cells c t f)) : w.cell? a = c[a.off]? := by
  simp [World.cell?, h, hs]

theorem frozen_of {w : World} {a : Addr} {c : Array Value} {t : TypeId} (h : w.heap[a.block]? = some (.cells c t (0, 0))) : w.frozen? a = false := by
  simp [World.frozen?, h]

theorem add_block (a : Addr) (n : Nat) : (a.add n).block = a.block := by unfold Addr.add; split <;> rfl
theorem add_off (a : Addr) (n : Nat) : (a.add n).off = a.off + n := by unfold Addr.add; split <;> simp_all
theorem add_spot {a : Addr} (h : a.spot = none) (n : Nat) : (a.add n).spot = none := by unfold Addr.add; split <;> simp_all

/-- n cells read -/
theorem run_loadCells_of {P : Program} {w : World} {a : Addr} {c : Array Value} {t : TypeId} {f : Nat × Nat} (hs : a.spot = none) (h : w.heap[a.block]? = some (.cells c t f))
    {vs : List Value} (hv : ∀ j v, vs[j]? = some v → c[a.off + j]? = some v) : (loadCells a vs.length).run P w = .ok vs.toArray w :=
  run_loadCells_list (P := P) (w := w) a vs fun j v hj => by
    rw [cell_of (add_spot hs j) (by rw [add_block]; exact h), add_off]
    exact hv j v hj

theorem run_load_of {P : Program} {w : World} {a : Addr} {c : Array Value} {t : TypeId} {f : Nat × Nat} (hs : a.spot = none) (h : w.heap[a.block]? = some (.cells c t f))
    {v : Value} (hv : c[a.off]? = some v) (m : Mode) : (load a m).run P w = .ok v w := by
  rw [run_load, cell_of hs h, hv]

/-- cells by others, from a place on -/
def splice (c : Array Value) (o : Nat) : List Value → Array Value
  | [] => c
  | v :: vs => splice (c.setIfInBounds o v) (o + 1) vs

theorem splice_size : ∀ (vs : List Value) (c : Array Value) (o : Nat), (splice c o vs).size = c.size
  | [], _, _ => rfl
  | v :: vs, c, o => by simp [splice, splice_size vs]

theorem splice_list : ∀ (vs : List Value) (c : Array Value) (o : Nat) (pre mid post : List Value), c.toList = pre ++ (mid ++ post) → pre.length = o → mid.length = vs.length →
    (splice c o vs).toList = pre ++ (vs ++ post)
  | [], c, o, pre, mid, post, h, _, hm => by
    have : mid = [] := List.eq_nil_of_length_eq_zero hm
    subst this
    exact h
  | v :: vs, c, o, pre, [], post, _, _, hm => by simp at hm
  | v :: vs, c, o, pre, m :: mid, post, h, ho, hm => by
    have := splice_list vs (c.setIfInBounds o v) (o + 1) (pre ++ [v]) mid post (by
      rw [Array.toList_setIfInBounds, h, List.set_append_right _ _ (by omega)]
      simp [ho]) (by simp [ho]) (by simpa using hm)
    simpa [splice] using this

theorem setB_setB (w : World) (b : Nat) (o o' : Go.Obj) : setB (setB w b o) b o' = setB w b o' := by
  simp [setB, Array.setIfInBounds_setIfInBounds]

theorem setB_self {w : World} {b : Nat} {o : Go.Obj} (h : w.heap[b]? = some o) : setB w b o = w := by
  obtain ⟨hb, rfl⟩ := Array.getElem?_eq_some_iff.1 h
  have e : w.heap.setIfInBounds b w.heap[b] = w.heap := by
    apply Array.ext_getElem?
    intro i
    rw [Array.getElem?_setIfInBounds]
    split
    · rename_i e
      subst e
      simp
    · rfl
  unfold setB
  rw [e]

theorem setCell_eq {w : World} {a : Addr} {c : Array Value} {t : TypeId} {f : Nat × Nat} (hs : a.spot = none) (h : w.heap[a.block]? = some (.cells c t f)) (v : Value) :
    w.setCell a v = setB w a.block (.cells (c.setIfInBounds a.off v) t f) := by
  obtain ⟨hb, hc⟩ := Array.getElem?_eq_some_iff.1 h
  unfold World.setCell setB
  congr 1
  apply Array.ext_getElem?
  intro i
  rw [Array.getElem?_modify, Array.getElem?_setIfInBounds]
  by_cases e : a.block = i
  · subst e
    simp only [if_true, if_pos hb]
    rw [h]
    simp [hs]
  · simp [e]

theorem run_storeCells_of {P : Program} {a : Addr} {t : TypeId} (hs : a.spot = none) : ∀ (vs : List Value) (i : Nat) (w : World) (c : Array Value), w.heap[a.block]? = some (.cells c t (0, 0)) →
    a.off + i + vs.length ≤ c.size → (∀ v ∈ vs, v.oneCell' = true) →
    (storeCells a vs i).run P w = .ok () (setB w a.block (.cells (splice c (a.off + i) vs) t (0, 0)))
  | [], i, w, c, h, _, _ => by simp [storeCells, splice, setB_self h]
  | v :: vs, i, w, c, h, hl, h1 => by
    have hcell : w.cell? (a.add i) = some (c[a.off + i]'(by simp at hl; omega)) := by
      rw [cell_of (add_spot hs i) (by rw [add_block]; exact h), add_off]
      exact Array.getElem?_eq_getElem _
    have hfr : w.frozen? (a.add i) = false := frozen_of (by rw [add_block]; exact h)
    have hset := setCell_eq (add_spot hs i) (by rw [add_block]; exact h : w.heap[(a.add i).block]? = _) v
    rw [add_block, add_off] at hset
    unfold storeCells
    simp only [Sem.run_bind]
    rw [run_store P w (a.add i) v .plain (h1 v (by simp)), hcell]
    simp only [hfr, Bool.false_eq_true, if_false, Result.andThen_ok]
    rw [hset, run_storeCells_of hs vs (i + 1) _ (c.setIfInBounds (a.off + i) v) (heap_setB_same (lt_of_heap h)) (by simp at hl ⊢; omega) (fun u hu => h1 u (by simp [hu])),
      setB_setB]
    rfl

end Go.Gx
