/-
  Gx, part B: what the machine's values and objects stand for in a world; that this lasts while the world goes on.
-/
import Derived.Test.YteagdmkedffplaaGxA
import Derived.WalkKit
import Derived.Laws.Append
namespace Go.Gx

/-! ### forcing changes nothing -/
section
variable {R : Type}
@[simp] theorem fSc_eq (x : Sc) (K : Sc → Option R) : fSc x K = K x := by cases x <;> rfl
@[simp] theorem fSegs_eq : ∀ (l : List Seg) (K : List Seg → Option R), fSegs l K = K l
  | [], _ => rfl
  | .c x :: r, K => by simp [fSegs, fSegs_eq r]
  | .row s n l :: r, K => by simp [fSegs, fSegs_eq r]
@[simp] theorem fSV_eq (x : SV) (K : SV → Option R) : fSV x K = K x := by cases x <;> simp [fSV]
@[simp] theorem fSVs_eq : ∀ (l : List SV) (K : List SV → Option R), fSVs l K = K l
  | [], _ => rfl
  | x :: r, K => by simp [fSVs, fSVs_eq r]
@[simp] theorem fS_eq (s : Slot) (K : Slot → Option R) : fS s K = K s := by cases s <;> simp [fS]
@[simp] theorem fFr_eq : ∀ (l : Fr) (K : Fr → Option R), fFr l K = K l
  | [], _ => rfl
  | x :: r, K => by simp [fFr, fFr_eq r]
@[simp] theorem fObj_eq (o : Obj) (K : Obj → Option R) : fObj o K = K o := by cases o <;> simp [fObj]
@[simp] theorem fH_eq : ∀ (l : Heap) (K : Heap → Option R), fH l K = K l
  | [], _ => rfl
  | x :: r, K => by simp [fH, fH_eq r]
@[simp] theorem fNats_eq : ∀ (l : List Nat) (K : List Nat → Option R), fNats l K = K l
  | [], _ => rfl
  | x :: r, K => by simp [fNats, fNats_eq r]
@[simp] theorem setF_eq : ∀ (fr : Fr) (t : Nat) (s : Slot) (K : Fr → Option R), setF fr t s K = K (fr.set t s)
  | [], _, _, _ => rfl
  | _ :: _, 0, _, _ => rfl
  | x :: r, t + 1, s, K => by simp [setF, setF_eq r]
def putS (fr : Fr) (d : Option Nat) (s : Slot) : Fr := match d with
  | some t => fr.set t s
  | none => fr
@[simp] theorem putF_eq (fr : Fr) (d : Option Nat) (s : Slot) (K : Fr → Option R) : putF fr d s K = K (putS fr d s) := by
  cases d <;> simp [putF, putS]
theorem br_some {b : Bool} {x y : Option R} {r : R} (h : br b x y = some r) : (b = true ∧ x = some r) ∨ (b = false ∧ y = some r) := by
  cases b
  · exact .inr ⟨rfl, h⟩
  · exact .inl ⟨rfl, h⟩
theorem br_none {b : Bool} {x : Option R} {r : R} (h : br b x none = some r) : b = true ∧ x = some r := by
  cases b
  · cases h
  · exact ⟨rfl, h⟩
theorem br_none' {b : Bool} {x : Option R} {r : R} (h : br b none x = some r) : b = false ∧ x = some r := by
  cases b
  · exact ⟨rfl, h⟩
  · cases h
theorem bif_none {b : Bool} {x : Option R} {r : R} (h : (bif b then x else none) = some r) : b = true ∧ x = some r := by
  cases b
  · cases h
  · exact ⟨rfl, h⟩
end

/-! ### the relation -/
/-- where an object lies: a block, a place in it; whether it has one -/
structure Loc where
  b : Nat
  o : Nat
  k : Prop

structure En where
  w : World
  β : Nat → Loc
  Own : Nat → Prop
  F : Nat → Prop
  sz : Nat → Option Nat
  n : Nat

def En.av (e : En) (b : Nat) : Prop := e.Own b ∨ e.F b

def RowAt {α : Type} (w : World) (R : α → List Value → Prop) (z : Nat) (ad : Addr) (l : List α) : Prop :=
  ad.spot = none ∧ ∃ c t fz, w.heap[ad.block]? = some (.cells c t fz) ∧
    ∀ i x, l[i]? = some x → ∃ vs : List Value, vs.length = z ∧ R x vs ∧ ∀ j v, vs[j]? = some v → c[ad.off + i * z + j]? = some v

def RepL {α : Type} (w : World) (av : Nat → Prop) (R : α → List Value → Prop) (z : Nat) (l : List α) (V : Value) : Prop :=
  ∃ A C, V = .slice A l.length C ∧ l.length ≤ C ∧ (l ≠ [] → ∃ ad, A = some ad ∧ ¬ av ad.block ∧ RowAt w R z ad l)

def RepT (w : World) (av : Nat → Prop) : (s : Sh) → s.T → List Value → Prop
  | .int k, x, vs => vs = [.int k x]
  | .bool, x, vs => vs = [.bool x]
  | .str, x, vs => vs = [.string x]
  | .isl s, x, vs => ∃ V, vs = [V] ∧ RepL w av (RepT w av s) s.size x V
  | .pair a b, x, vs => ∃ u v, vs = u ++ v ∧ RepT w av a x.1 u ∧ RepT w av b x.2 v
  | .unit, _, vs => vs = []

def addr (e : En) (r o : Nat) : Addr := ⟨(e.β r).b, (e.β r).o + o, none⟩

def RepSc (e : En) : Sc → Value → Prop
  | .int k n, V => V = .int k n
  | .bool b, V => V = .bool b
  | .str s, V => V = .string s
  | .ptr r o, V => r < e.n ∧ V = .pointer (some (addr e r o))
  | .el r o i z, V => r < e.n ∧ V = .pointer (some (addr e r (o + i.toNat * z)))
  | .eptr s l i o, V => i.toNat < l.length ∧ ∃ ad, ¬ e.av ad.block ∧ RowAt e.w (RepT e.w e.av s) s.size ad l ∧
      V = .pointer (some ⟨ad.block, ad.off + i.toNat * s.size + o, none⟩)
  | .nilp, V => V = .pointer none
  | .sl r o z lo len cap, V => r < e.n ∧ len ≤ capOf len cap ∧ ∃ A C, V = .slice A len C ∧ capOf len cap ≤ C ∧
      (0 < C → A = some (addr e r (o + lo * z)) ∧ (e.β r).k ∧ ∃ c t fz, e.w.heap[(e.β r).b]? = some (.cells c t fz) ∧ (e.β r).o + o + (lo + C) * z ≤ c.size)
  | .wl r z, V => r < e.n ∧ ∃ A len C, V = .slice A len C ∧ len ≤ C ∧ (∀ m, e.sz r = some m → m = len * z) ∧
      (0 < C → A = some (addr e r 0) ∧ (e.β r).k ∧ ∃ c t fz, e.w.heap[(e.β r).b]? = some (.cells c t fz) ∧ (e.β r).o + C * z ≤ c.size)
  | .isl s l, V => RepL e.w e.av (RepT e.w e.av s) s.size l V
  | .emp, V => ∃ A, V = .slice A 0 0
  | .nils, V => V = .slice none 0 0
  | .map r, V => r < e.n ∧ V = .map (some (e.β r).b)
  | .nilm, V => V = .map none
  | .fn f caps, V => (∀ r, r ∈ caps → r < e.n) ∧ V = .func (.func f) #[] (caps.map fun r => Value.pointer (some (addr e r 0))).toArray
  | .nilf, V => V = .nilFunc
  | .undef, _ => True

def RepRow (w : World) (av : Nat → Prop) (s : Sh) : List s.T → List Value → Prop
  | [], vs => vs = []
  | x :: r, vs => ∃ u v, vs = u ++ v ∧ RepT w av s x u ∧ RepRow w av s r v

def RepSegs (e : En) : List Seg → List Value → Prop
  | [], vs => vs = []
  | .c x :: r, vs => ∃ V v, vs = V :: v ∧ V.oneCell' = true ∧ RepSc e x V ∧ RepSegs e r v
  | .row s n l :: r, vs => l.length = n ∧ ∃ u v, vs = u ++ v ∧ RepRow e.w e.av s l u ∧ RepSegs e r v

def RepSV (e : En) : SV → Value → Prop
  | .v x, V => RepSc e x V
  | .agg l, V => ∃ vs : List Value, V = .agg vs.toArray ∧ RepSegs e l vs

def RepSVs (e : En) : List SV → List Value → Prop
  | [], vs => vs = []
  | x :: r, vs => ∃ V v, vs = V :: v ∧ RepSV e x V ∧ RepSVs e r v

def RepSlot (e : En) : Slot → Value → Prop
  | .sv x, V => RepSV e x V
  | .tup l, V => ∃ vs : List Value, V = .tuple vs.toArray ∧ RepSVs e l vs
  | .undef, _ => True

def owns (p : Loc) : Obj → Prop
  | .cells _ => p.k
  | .map _ _ _ _ _ => True
  | .dead => False

def Own (β : Nat → Loc) (H : Heap) (b : Nat) : Prop := ∃ r o, H[r]? = some o ∧ owns (β r) o ∧ (β r).b = b

def RepVal (agg : Bool) (us : List Value) (V : Value) : Prop := match agg with
  | true => V = .agg us.toArray
  | false => us = [V]

def RepEntries (e : En) (ks vs : Sh) (ka va : Bool) : List (ks.T × vs.T) → List MapEntry → Prop
  | [], es => es = []
  | p :: l, es => ∃ x r, es = x :: r ∧ (∃ us, RepT e.w e.av ks p.1 us ∧ RepVal ka us x.key) ∧ (∃ us, RepT e.w e.av vs p.2 us ∧ RepVal va us x.val) ∧ RepEntries e ks vs ka va l r

def RepObj (e : En) (r : Nat) : Obj → Prop
  | .cells l => ∃ vs : List Value, RepSegs e l vs ∧ (¬ (e.β r).k → segsSize l = 0) ∧ ((e.β r).k → ∃ (c : Array Value) (t : TypeId) (pre post : List Value), e.w.heap[(e.β r).b]? = some (.cells c t (0, 0)) ∧ c.toList = pre ++ vs ++ post ∧ pre.length = (e.β r).o)
  | .map ks vs ka va l => ∃ (es : Array MapEntry) (clock : Nat), e.w.heap[(e.β r).b]? = some (.map es clock) ∧ RepEntries e ks vs ka va l es.toList ∧
      (∀ x ∈ es.toList, x.born < clock) ∧ (es.toList.map (·.born)).Nodup
  | .dead => True

/-- how many cells an object has -/
def szO : Obj → Option Nat
  | .cells l => some (segsSize l)
  | _ => none

def szOf (H : Heap) (r : Nat) : Option Nat := match H[r]? with
  | some o => szO o
  | none => none

def en (w : World) (β : Nat → Loc) (F : Nat → Prop) (H : Heap) : En := ⟨w, β, Own β H, F, szOf H, H.length⟩

theorem szOf_of {H : Heap} {r : Nat} {o : Obj} (h : H[r]? = some o) : szOf H r = szO o := by simp [szOf, h]
theorem szOf_some {H : Heap} {r m : Nat} (h : szOf H r = some m) : ∃ l, H[r]? = some (.cells l) ∧ segsSize l = m := by
  unfold szOf at h
  split at h
  · rename_i o ho
    cases o with
    | cells l => exact ⟨l, ho, by simpa [szO] using h⟩
    | map => cases h
    | dead => cases h
  · cases h

structure HeapOk (w : World) (β : Nat → Loc) (F : Nat → Prop) (H : Heap) : Prop where
  obj : ∀ r o, H[r]? = some o → RepObj (en w β F H) r o
  lt : ∀ r o, H[r]? = some o → owns (β r) o → (β r).b < w.heap.size ∧ ¬ F (β r).b
  inj : ∀ r r' o o', H[r]? = some o → H[r']? = some o' → owns (β r) o → owns (β r') o' → (β r).b = (β r').b → r = r'
  F : ∀ b, F b → b < w.heap.size

structure Ext (e e' : En) : Prop where
  n : e.n ≤ e'.n
  β : ∀ r, r < e.n → e'.β r = e.β r
  size : e.w.heap.size ≤ e'.w.heap.size
  kept : ∀ b, b < e.w.heap.size → ¬ e.Own b → e'.w.heap[b]? = e.w.heap[b]?
  sub : ∀ b, b < e.w.heap.size → e'.Own b → e.Own b
  F : e'.F = e.F
  sz : ∀ r m, r < e.n → e'.sz r = some m → e.sz r = some m
  grow : ∀ (b : Nat) c t f, e.w.heap[b]? = some (.cells c t f) → ∃ c' f', e'.w.heap[b]? = some (.cells c' t f') ∧ c'.size = c.size
  out : e'.w.os = e.w.os ∧ e'.w.output = e.w.output
  froz : ∀ (b : Nat) c t f, e'.w.heap[b]? = some (.cells c t f) → f = (0, 0) ∨ ∃ c', e.w.heap[b]? = some (.cells c' t f)

theorem lt_of_heap {w : World} {b : Nat} {o : Go.Obj} (h : w.heap[b]? = some o) : b < w.heap.size := (Array.getElem?_eq_some_iff.1 h).1


/-! ### lasting -/
def Kp (w : World) (av : Nat → Prop) (w' : World) (av' : Nat → Prop) : Prop :=
  ∀ b, b < w.heap.size → ¬ av b → w'.heap[b]? = w.heap[b]? ∧ ¬ av' b

theorem RowAt.mono {α : Type} {w w' : World} {R R' : α → List Value → Prop} {z : Nat} {ad : Addr} {l : List α} (h : RowAt w R z ad l)
    (hb : w'.heap[ad.block]? = w.heap[ad.block]?) (hR : ∀ x vs, x ∈ l → R x vs → R' x vs) : RowAt w' R' z ad l := by
  obtain ⟨hs, c, t, fz, hc, hl⟩ := h
  refine ⟨hs, c, t, fz, by rw [hb]; exact hc, fun i x hx => ?_⟩
  obtain ⟨vs, h1, h2, h3⟩ := hl i x hx
  exact ⟨vs, h1, hR x vs (List.mem_of_getElem? hx) h2, h3⟩

theorem RepL.mono {α : Type} {w w' : World} {av av' : Nat → Prop} {R R' : α → List Value → Prop} {z : Nat} {l : List α} {V : Value}
    (h : RepL w av R z l V) (hk : Kp w av w' av') (hR : ∀ x vs, x ∈ l → R x vs → R' x vs) : RepL w' av' R' z l V := by
  obtain ⟨A, C, hV, hC, hl⟩ := h
  refine ⟨A, C, hV, hC, fun hn => ?_⟩
  obtain ⟨ad, hA, hav, hrow⟩ := hl hn
  obtain ⟨_, c, t, fz, hc, _⟩ := id hrow
  obtain ⟨h1, h2⟩ := hk ad.block (lt_of_heap hc) hav
  exact ⟨ad, hA, h2, hrow.mono h1 hR⟩

theorem RepT.mono {w w' : World} {av av' : Nat → Prop} (hk : Kp w av w' av') : ∀ (s : Sh) (x : s.T) (vs : List Value), RepT w av s x vs → RepT w' av' s x vs
  | .int _, _, _, h => h
  | .bool, _, _, h => h
  | .str, _, _, h => h
  | .isl s, x, vs, h => by
    obtain ⟨V, hV, hl⟩ := h
    exact ⟨V, hV, hl.mono hk fun y us _ hy => RepT.mono hk s y us hy⟩
  | .pair a b, x, vs, h => by
    obtain ⟨u, v, e, h1, h2⟩ := h
    exact ⟨u, v, e, RepT.mono hk a x.1 u h1, RepT.mono hk b x.2 v h2⟩
  | .unit, _, _, h => h

theorem RepRow.mono {w w' : World} {av av' : Nat → Prop} (hk : Kp w av w' av') {s : Sh} : ∀ (l : List s.T) (vs : List Value), RepRow w av s l vs → RepRow w' av' s l vs
  | [], _, h => h
  | x :: r, vs, h => by
    obtain ⟨u, v, e, h1, h2⟩ := h
    exact ⟨u, v, e, h1.mono hk, RepRow.mono hk r v h2⟩

theorem Ext.kp {e e' : En} (h : Ext e e') : Kp e.w e.av e'.w e'.av := fun b hb hav => by
  refine ⟨h.kept b hb fun ho => hav (.inl ho), fun hav' => hav ?_⟩
  rcases hav' with ho | hf
  · exact .inl (h.sub b hb ho)
  · exact .inr (by rw [h.F] at hf; exact hf)

theorem Ext.refl (e : En) : Ext e e := ⟨Nat.le_refl _, fun _ _ => rfl, Nat.le_refl _, fun _ _ _ => rfl, fun _ _ h => h, rfl, fun _ _ _ h => h, fun _ c _ f h => ⟨c, f, h, rfl⟩, ⟨rfl, rfl⟩, fun _ c _ _ h => .inr ⟨c, h⟩⟩

theorem Ext.trans {a b c : En} (h : Ext a b) (k : Ext b c) : Ext a c where
  n := Nat.le_trans h.n k.n
  β r hr := (k.β r (Nat.lt_of_lt_of_le hr h.n)).trans (h.β r hr)
  size := Nat.le_trans h.size k.size
  kept i hi ho := by
    rw [k.kept i (Nat.lt_of_lt_of_le hi h.size) fun hb => ho (h.sub i hi hb)]
    exact h.kept i hi ho
  sub i hi ho := h.sub i hi (k.sub i (Nat.lt_of_lt_of_le hi h.size) ho)
  F := k.F.trans h.F
  sz r m hr hv := h.sz r m hr (k.sz r m (Nat.lt_of_lt_of_le hr h.n) hv)
  grow i x t f hx := by
    obtain ⟨c', f', h1, h2⟩ := h.grow i x t f hx
    obtain ⟨c2, f2, h3, h4⟩ := k.grow i c' t f' h1
    exact ⟨c2, f2, h3, h4.trans h2⟩
  out := ⟨k.out.1.trans h.out.1, k.out.2.trans h.out.2⟩
  froz i x t f hx := by
    rcases k.froz i x t f hx with h1 | ⟨c', h1⟩
    · exact .inl h1
    · exact h.froz i c' t f h1

theorem Ext.addr {e e' : En} (h : Ext e e') {r o : Nat} (hr : r < e.n) : Gx.addr e' r o = Gx.addr e r o := by
  simp [Gx.addr, h.β r hr]

theorem RepSc.mono {e e' : En} (h : Ext e e') : ∀ (x : Sc) (V : Value), RepSc e x V → RepSc e' x V
  | .int _ _, _, k => k
  | .bool _, _, k => k
  | .str _, _, k => k
  | .ptr r o, V, k => ⟨Nat.lt_of_lt_of_le k.1 h.n, by rw [h.addr k.1]; exact k.2⟩
  | .el r o i z, V, k => ⟨Nat.lt_of_lt_of_le k.1 h.n, by rw [h.addr k.1]; exact k.2⟩
  | .eptr s l i o, V, k => by
    obtain ⟨hi, ad, hav, hrow, hV⟩ := k
    obtain ⟨_, c, t, fz, hc, _⟩ := id hrow
    obtain ⟨h1, h2⟩ := h.kp ad.block (lt_of_heap hc) hav
    exact ⟨hi, ad, h2, hrow.mono h1 fun y us _ hy => hy.mono h.kp, hV⟩
  | .nilp, _, k => k
  | .sl r o z lo len cap, V, k => by
    obtain ⟨hr, hc, A, C, hV, hC, hl⟩ := k
    refine ⟨Nat.lt_of_lt_of_le hr h.n, hc, A, C, hV, hC, fun h0 => ?_⟩
    obtain ⟨hA, hv, c, t, fz, hx, hs⟩ := hl h0
    obtain ⟨c', f', h1, h2⟩ := h.grow _ c t fz hx
    exact ⟨by rw [h.addr hr]; exact hA, by rw [h.β r hr]; exact hv, c', t, f', by rw [h.β r hr]; exact h1, by rw [h.β r hr, h2]; exact hs⟩
  | .wl r z, V, k => by
    obtain ⟨hr, A, len, C, hV, hC, hm, hl⟩ := k
    refine ⟨Nat.lt_of_lt_of_le hr h.n, A, len, C, hV, hC, fun m hm' => hm m (h.sz r m hr hm'), fun h0 => ?_⟩
    obtain ⟨hA, hv, c, t, fz, hx, hs⟩ := hl h0
    obtain ⟨c', f', h1, h2⟩ := h.grow _ c t fz hx
    exact ⟨by rw [h.addr hr]; exact hA, by rw [h.β r hr]; exact hv, c', t, f', by rw [h.β r hr]; exact h1, by rw [h.β r hr, h2]; exact hs⟩
  | .isl s l, V, k => RepL.mono k h.kp fun y us _ hy => hy.mono h.kp
  | .emp, _, k => k
  | .nils, _, k => k
  | .map r, V, k => ⟨Nat.lt_of_lt_of_le k.1 h.n, by rw [h.β r k.1]; exact k.2⟩
  | .nilm, _, k => k
  | .fn f caps, V, k => ⟨fun r hr => Nat.lt_of_lt_of_le (k.1 r hr) h.n, by
      rw [show (caps.map fun r => Value.pointer (some (Gx.addr e' r 0))) = caps.map fun r => Value.pointer (some (Gx.addr e r 0)) from
        List.map_congr_left fun r hr => by rw [h.addr (k.1 r hr)]]
      exact k.2⟩
  | .nilf, _, k => k
  | .undef, _, k => k

theorem RepSegs.mono {e e' : En} (h : Ext e e') : ∀ (l : List Seg) (vs : List Value), RepSegs e l vs → RepSegs e' l vs
  | [], _, k => k
  | .c x :: r, vs, k => by
    obtain ⟨V, v, e1, h0, h1, h2⟩ := k
    exact ⟨V, v, e1, h0, h1.mono h, RepSegs.mono h r v h2⟩
  | .row s n l :: r, vs, k => by
    obtain ⟨hn, u, v, e1, h1, h2⟩ := k
    exact ⟨hn, u, v, e1, h1.mono h.kp, RepSegs.mono h r v h2⟩

theorem RepSV.mono {e e' : En} (h : Ext e e') : ∀ (x : SV) (V : Value), RepSV e x V → RepSV e' x V
  | .v x, V, k => RepSc.mono h x V k
  | .agg l, V, k => by
    obtain ⟨vs, hV, hl⟩ := k
    exact ⟨vs, hV, hl.mono h⟩

theorem RepSVs.mono {e e' : En} (h : Ext e e') : ∀ (l : List SV) (vs : List Value), RepSVs e l vs → RepSVs e' l vs
  | [], _, k => k
  | x :: r, vs, k => by
    obtain ⟨V, v, e1, h1, h2⟩ := k
    exact ⟨V, v, e1, h1.mono h, RepSVs.mono h r v h2⟩

theorem RepSlot.mono {e e' : En} (h : Ext e e') : ∀ (x : Slot) (V : Value), RepSlot e x V → RepSlot e' x V
  | .sv x, V, k => RepSV.mono h x V k
  | .tup l, V, k => by
    obtain ⟨vs, hV, hl⟩ := k
    exact ⟨vs, hV, hl.mono h⟩
  | .undef, _, k => k

theorem RepEntries.mono {e e' : En} (h : Ext e e') {ks vs : Sh} {ka va : Bool} : ∀ (l : List (ks.T × vs.T)) (es : List MapEntry), RepEntries e ks vs ka va l es → RepEntries e' ks vs ka va l es
  | [], _, k => k
  | p :: l, es, k => by
    obtain ⟨x, r, e1, ⟨us, h1, h2⟩, ⟨ws, h3, h4⟩, h5⟩ := k
    exact ⟨x, r, e1, ⟨us, h1.mono h.kp, h2⟩, ⟨ws, h3.mono h.kp, h4⟩, RepEntries.mono h l r h5⟩

/-- an object whose block is as it was -/
theorem RepObj.mono {e e' : En} (h : Ext e e') {r : Nat} (hr : r < e.n) {o : Obj} (k : RepObj e r o)
    (hb : owns (e.β r) o → e'.w.heap[(e.β r).b]? = e.w.heap[(e.β r).b]?) : RepObj e' r o := by
  cases o with
  | cells l =>
    obtain ⟨vs, h3, k0, k⟩ := k
    refine ⟨vs, h3.mono h, fun h0 => k0 (by rw [h.β r hr] at h0; exact h0), fun h0 => ?_⟩
    rw [h.β r hr] at h0
    obtain ⟨c, t, pre, post, hc, h1, h2⟩ := k h0
    refine ⟨c, t, pre, post, ?_, h1, ?_⟩
    · rw [h.β r hr, hb h0]; exact hc
    · rw [h.β r hr]; exact h2
  | map ks vs ka va l =>
    obtain ⟨es, clock, hc, h1, h2, h3⟩ := k
    exact ⟨es, clock, by rw [h.β r hr, hb trivial]; exact hc, h1.mono h, h2, h3⟩
  | dead => trivial

end Go.Gx
