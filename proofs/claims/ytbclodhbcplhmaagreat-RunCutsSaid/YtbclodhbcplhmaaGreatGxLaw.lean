/-
  Gx, part Law: what comes in, read as typed values; a law's row out of its entry.
-/
import Derived.Test.YtbclodhbcplhmaaGreatGx5
import Derived.ProofKit
import Derived.OpenShut
namespace Go.Gx
open Go.ChangeShapes Go.WideShapes Go.ChangeAt Go.RowKit
def fieldsOk (P : Program) (ok : TypeId → Sh → Bool) : List Field → Nat → Sh → Bool
 | [], _, .unit => true
 | [f], o, s => Nat.beq f.offset o && Nat.beq (P.cellsOf f.type) s.size && ok f.type s
 | f :: g :: fs, o, .pair a b => Nat.beq f.offset o && Nat.beq (P.cellsOf f.type) a.size && ok f.type a && fieldsOk P ok (g :: fs) (o + a.size) b
 | _, _, _ => false
def arrOk (P : Program) (ok : TypeId → Sh → Bool) (e : TypeId) : Nat → Sh → Bool
 | 0, .unit => true
 | 1, s => Nat.beq (P.cellsOf e) s.size && ok e s
 | n + 2, .pair a b => Nat.beq (P.cellsOf e) a.size && ok e a && arrOk P ok e (n + 1) b
 | _, _ => false
def shapeOk (P : Program) : Nat → TypeId → Sh → Bool
 | 0, _, _ => false
 | d + 1, t, s => match P.underlying t with
  | some (.int k) => match s with
   | .int k' => decide (k = k')
   | _ => false
  | some .bool => match s with
   | .bool => true
   | _ => false
  | some .string => match s with
   | .str => true
   | _ => false
  | some (.slice e) => match s with
   | .isl s => Nat.beq (P.cellsOf e) s.size && Nat.blt 0 s.size && shapeOk P d e s
   | _ => false
  | some (.struct fs) => Nat.beq (P.cellsOf t) s.size && fieldsOk P (shapeOk P d) fs.toList 0 s
  | some (.array n e) => Nat.beq (P.cellsOf t) s.size && arrOk P (shapeOk P d) e n s
  | _ => false
def WfT : (s : Sh) → s.T → Prop
 | .int k, x => (Lit.int k x).wf = true
 | .bool, _ => True
 | .str, s => s.size ≤ maxLen
 | .isl s, l => (l : List s.T).length ≤ maxLen ∧ ∀ x ∈ (l : List s.T), WfT s x
 | .pair a b, x => WfT a x.1 ∧ WfT b x.2
 | .unit, _ => True
 | .ref _ _, _ => True
def WfB (B : Nat) : (s : Sh) → s.T → Prop
 | .int _, _ => True
 | .bool, _ => True
 | .str, s => s.size ≤ B
 | .isl s, l => (l : List s.T).length ≤ B ∧ ∀ x ∈ (l : List s.T), WfB B s x
 | .pair a b, x => WfB B a x.1 ∧ WfB B b x.2
 | .unit, _ => True
 | .ref _ _, _ => True
structure Bulk {H : Type} (m : DataW H → Nat) (ml : List (DataW H) → Nat) : Prop where
 cons : ∀ d r, ml (d :: r) = m d + ml r
 pos : ∀ d, 1 ≤ m d
 str : ∀ b : List UInt8, b.length ≤ m (.lit (.string b))
 slice : ∀ a b, ml a ≤ m (.slice a b)
 agg : ∀ a, ml a ≤ m (.agg a)
theorem Bulk.mem {H : Type} {m : DataW H → Nat} {ml : List (DataW H) → Nat} (h : Bulk m ml) : ∀ {l : List (DataW H)} {d : DataW H}, d ∈ l → m d ≤ ml l
 | x :: r, d, hd => by
  rw [h.cons]
  rcases List.mem_cons.1 hd with e | hd
  ·subst e; omega
  ·have := h.mem hd; omega
theorem Bulk.len {H : Type} {m : DataW H → Nat} {ml : List (DataW H) → Nat} (h : Bulk m ml) : ∀ l : List (DataW H), l.length ≤ ml l
 | [] => by simp
 | x :: r => by
  have := h.len r
  have := h.pos x
  rw [h.cons, List.length_cons]
  omega
section
variable {H : Type} {enc : TypeId × Value → H} {P : Program} {w : World} {bm : DataW H → Nat} {bl : List (DataW H) → Nat}
theorem add_add {a : Addr} (h : a.spot = none) (m k : Nat) : (a.add m).add k = ⟨a.block, a.off + m + k, none⟩ := by
 cases a
 simp only at h
 subst h
 unfold Addr.add
 by_cases hm : m = 0 <;> by_cases hk : k = 0 <;> simp [hm, hk]
def noAv : Av := ⟨fun _ => False, fun _ _ _ _ => False⟩
theorem beq_of {a b : Nat} (h : Nat.beq a b = true) : a = b := Nat.eq_of_beq_eq_true h
theorem fields_open {ok : TypeId → Sh → Bool} {base n : Nat} {sp : Nat → Bool} {held : Bool} {cs : List Value}
  (ih : ∀ t s, ok t s = true → ∀ cs x, DataW.trod enc P w base sp held n t cs = some x → ∃ v : s.T, RepT w noAv s v cs ∧ WfT s v ∧ (Bulk bm bl → ∀ B, bm x.1 ≤ B → WfB B s v)) (M : Nat) :
  ∀ (fs : List Field) (o : Nat) (s : Sh), fieldsOk P ok fs o s = true → (∀ f ∈ fs, ∃ y, DataW.trod enc P w base sp held n f.type ((cs.drop f.offset).take (P.cellsOf f.type)) = some y ∧ (Bulk bm bl → bm y.1 ≤ M)) →
   ∃ v : s.T, RepT w noAv s v ((cs.drop o).take s.size) ∧ WfT s v ∧ (Bulk bm bl → ∀ B, M ≤ B → WfB B s v)
 | [], o, s, h, _ => by
  cases s <;> simp only [fieldsOk] at h <;> try cases h
  exact ⟨(), by simp [RepT, Sh.size], trivial, fun _ _ _ => trivial⟩
 | [f], o, s, h, hf => by
  simp only [fieldsOk, Bool.and_eq_true] at h
  obtain ⟨y, hy, hb⟩ := hf f (by simp)
  rw [beq_of h.1.1, beq_of h.1.2] at hy
  obtain ⟨v, h1, h2, h3⟩ := ih _ _ h.2 _ _ hy
  exact ⟨v, h1, h2, fun hB B hM => h3 hB B (Nat.le_trans (hb hB) hM)⟩
 | f :: g :: fs, o, s, h, hf => by
  cases s with
  | pair a b =>
   simp only [fieldsOk, Bool.and_eq_true] at h
   obtain ⟨y, hy, hb⟩ := hf f (by simp)
   rw [beq_of h.1.1.1, beq_of h.1.1.2] at hy
   obtain ⟨u, hu, wu, bu⟩ := ih _ _ h.1.2 _ _ hy
   obtain ⟨v, hv, wv, bv⟩ := fields_open ih M (g :: fs) (o + a.size) b h.2 (fun f' hf' => hf f' (List.mem_cons_of_mem _ hf'))
   refine ⟨(u, v), ⟨_, _, ?_, hu, hv⟩, ⟨wu, wv⟩, fun hB B hM => ⟨bu hB B (Nat.le_trans (hb hB) hM), bv hB B hM⟩⟩
   simp only [Sh.size]
   rw [List.take_add, List.drop_drop]
  | _ => simp [fieldsOk] at h
theorem arr_open {ok : TypeId → Sh → Bool} {base m : Nat} {sp : Nat → Bool} {held : Bool} {cs : List Value} {e : TypeId}
  (ih : ∀ t s, ok t s = true → ∀ cs x, DataW.trod enc P w base sp held m t cs = some x → ∃ v : s.T, RepT w noAv s v cs ∧ WfT s v ∧ (Bulk bm bl → ∀ B, bm x.1 ≤ B → WfB B s v)) (M : Nat) :
  ∀ (n i : Nat) (s : Sh), arrOk P ok e n s = true → (∀ j, i ≤ j → j < i + n → ∃ y, DataW.trod enc P w base sp held m e ((cs.drop (j * P.cellsOf e)).take (P.cellsOf e)) = some y ∧ (Bulk bm bl → bm y.1 ≤ M)) →
   ∃ v : s.T, RepT w noAv s v ((cs.drop (i * P.cellsOf e)).take s.size) ∧ WfT s v ∧ (Bulk bm bl → ∀ B, M ≤ B → WfB B s v)
 | 0, i, s, h, _ => by
  cases s <;> simp only [arrOk] at h <;> try cases h
  exact ⟨(), by simp [RepT, Sh.size], trivial, fun _ _ _ => trivial⟩
 | 1, i, s, h, hf => by
  simp only [arrOk, Bool.and_eq_true] at h
  obtain ⟨y, hy, hb⟩ := hf i (Nat.le_refl _) (by omega)
  rw [← beq_of h.1]
  obtain ⟨v, h1, h2, h3⟩ := ih _ _ h.2 _ _ hy
  exact ⟨v, h1, h2, fun hB B hM => h3 hB B (Nat.le_trans (hb hB) hM)⟩
 | n + 2, i, s, h, hf => by
  cases s with
  | pair a b =>
   simp only [arrOk, Bool.and_eq_true] at h
   obtain ⟨y, hy, hb⟩ := hf i (Nat.le_refl _) (by omega)
   have ha := beq_of h.1.1
   obtain ⟨u, hu, wu, bu⟩ := ih _ _ h.1.2 _ _ hy
   obtain ⟨v, hv, wv, bv⟩ := arr_open ih M (n + 1) (i + 1) b h.2 (fun j h1 h2 => hf j (by omega) (by omega))
   refine ⟨(u, v), ⟨_, _, ?_, hu, hv⟩, ⟨wu, wv⟩, fun hB B hM => ⟨bu hB B (Nat.le_trans (hb hB) hM), bv hB B hM⟩⟩
   simp only [Sh.size]
   rw [← ha, List.take_add, List.drop_drop, Nat.succ_mul]
  | _ => simp [arrOk] at h
theorem open_sh {base : Nat} {sp : Nat → Bool} {held : Bool} : ∀ (d : Nat) (t : TypeId) (s : Sh), shapeOk P d t s = true → ∀ (fuel : Nat) (cs : List Value) (x : DataW H × List MemPlace),
  DataW.trod enc P w base sp held fuel t cs = some x → ∃ v : s.T, RepT w noAv s v cs ∧ WfT s v ∧ (Bulk bm bl → ∀ B, bm x.1 ≤ B → WfB B s v) := by
 intro d
 induction d with
 | zero => intro t s h; cases h
 | succ d ih =>
  intro t s h fuel cs x hx
  simp only [shapeOk] at h
  split at h
  ·rename_i k ht
   cases s <;> simp only at h <;> try cases h
   rename_i k'
   cases of_decide_eq_true h
   obtain ⟨n, rfl, _, hw⟩ := DataW.trod_int ht hx
   exact ⟨n, rfl, hw, fun _ _ _ => trivial⟩
  ·rename_i ht
   cases s <;> simp only at h <;> try cases h
   obtain ⟨b, rfl, _⟩ := DataW.trod_bool ht hx
   exact ⟨b, rfl, trivial, fun _ _ _ => trivial⟩
  ·rename_i ht
   cases s <;> simp only at h <;> try cases h
   obtain ⟨b, rfl, rfl, hb⟩ := DataW.trod_string ht hx
   refine ⟨b, rfl, hb, fun hB B hM => ?_⟩
   have := hB.str b.data.toList
   have hz : b.size = b.data.toList.length := (Array.length_toList).symm
   show b.size ≤ B
   rw [hz]
   exact Nat.le_trans this hM
  ·rename_i e ht
   cases s with
   | isl s =>
    simp only [Bool.and_eq_true] at h
    have hsz := beq_of h.1.1
    have hpos : 0 < s.size := by have := h.1.2; rw [Nat.blt_eq] at this; exact this
    rcases DataW.trod_slice ht hx with ⟨rfl, _⟩ | ⟨a, len, cap, elems, rest, n, _, rfl, rfl, hb, hl, hm, hlen, hel, _, _⟩
    ·exact ⟨[], ⟨_, rfl, none, 0, rfl, Nat.le_refl _, fun h => absurd rfl h⟩, ⟨Nat.zero_le _, fun _ h => (by cases h)⟩, fun _ _ _ => ⟨Nat.zero_le _, fun _ h => (by cases h)⟩⟩
    ·have each : ∀ i, i < len → ∃ y : s.T, (WfT s y ∧ (Bulk bm bl → ∀ B, bl (elems.map (·.1)) ≤ B → WfB B s y)) ∧ ∃ vs : List Value, vs.length = s.size ∧ RepT w noAv s y vs ∧ ∀ j, j < s.size → w.cell? ((a.add (i * s.size)).add j) = vs[j]? := by
      intro i hi
      have h1 := hel i hi
      rw [List.getElem?_eq_getElem (by omega), Option.bind_eq_some_iff] at h1
      obtain ⟨vs, h2, h3⟩ := h1
      obtain ⟨y, h4, h5, h5b⟩ := ih _ _ h.2 _ _ _ h3
      rw [hsz] at h2
      obtain ⟨_, h6, h7⟩ := World.cells?_some h2
      exact ⟨y, ⟨h5, fun hB B hM => h5b hB B (Nat.le_trans (hB.mem (List.mem_map_of_mem (List.getElem_mem _))) hM)⟩, vs, h6, h4, h7⟩
     have build : ∀ m, m ≤ len → ∃ l : List s.T, l.length = m ∧ (∀ y ∈ l, WfT s y ∧ (Bulk bm bl → ∀ B, bl (elems.map (·.1)) ≤ B → WfB B s y)) ∧ ∀ (i : Nat) y, l[i]? = some y → ∃ vs : List Value, vs.length = s.size ∧ RepT w noAv s y vs ∧ ∀ j, j < s.size → w.cell? ((a.add (i * s.size)).add j) = vs[j]? := by
      intro m
      induction m with
      | zero => intro _; exact ⟨[], rfl, (fun y hy => absurd hy (List.not_mem_nil)), (fun i y hy => absurd hy (by simp))⟩
      | succ m ihm =>
       intro hm'
       obtain ⟨l, h1, h2, h3⟩ := ihm (by omega)
       obtain ⟨y, h4, h5⟩ := each m (by omega)
       refine ⟨l ++ [y], by simp [h1], fun z hz => ?_, fun i z hz => ?_⟩
       ·rcases List.mem_append.1 hz with hz | hz
        ·exact h2 z hz
        ·rw [List.mem_singleton] at hz; subst hz; exact h4
       ·by_cases hi : i < m
        ·rw [List.getElem?_append_left (by omega)] at hz
         exact h3 i z hz
        ·rw [List.getElem?_append_right (by omega)] at hz
         have : i - l.length = 0 := by
          have := (List.getElem?_eq_some_iff.1 hz).1
          simp at this
          omega
         rw [this] at hz
         simp at hz
         subst hz
         have : i = m := by omega
         subst this
         exact h5
     obtain ⟨l, h1, h2, h3⟩ := build len (Nat.le_refl _)
     have hm' : l.length ≤ maxLen := by omega
     refine ⟨l, ⟨_, rfl, some a, cap, by rw [h1], by omega, fun hne => ⟨a, rfl, fun h => h, ?_⟩⟩, ⟨hm', fun y hy => (h2 y hy).1⟩, fun hB B hM => by
      have hM := Nat.le_trans (hB.slice _ _) hM
      refine ⟨?_, fun y hy => (h2 y hy).2 hB B hM⟩
      have := hB.len (elems.map (·.1))
      rw [List.length_map] at this
      omega⟩
     obtain ⟨y0, hy0⟩ : ∃ y, l[0]? = some y := by
      cases l with
      | nil => exact absurd rfl hne
      | cons y l => exact ⟨y, rfl⟩
     obtain ⟨vs0, g1, _, g3⟩ := h3 0 y0 hy0
     have g4 := g3 0 hpos
     rw [List.getElem?_eq_getElem (by omega), show (a.add (0 * s.size)).add 0 = a by simp [Addr.add]] at g4
     have hcell : ∀ {b : Addr} {v : Value}, w.cell? b = some v → b.spot = none ∧ ∃ c t f, w.heap[b.block]? = some (.cells c t f) ∧ c[b.off]? = some v := by
      intro b v hv
      unfold World.cell? at hv
      split at hv
      ·rename_i c t f hc
       split at hv
       ·cases hv
       ·rename_i hs
        exact ⟨by simpa using hs, c, t, f, hc, hv⟩
      ·cases hv
     obtain ⟨s0, c, tt, ff, hc, _⟩ := hcell g4
     refine ⟨s0, c, tt, ff, hc, fun i y hy => ?_⟩
     obtain ⟨vs, k1, k2, k3⟩ := h3 i y hy
     refine ⟨vs, k1, k2, fun j v hv => ?_⟩
     have hj := (List.getElem?_eq_some_iff.1 hv).1
     have k4 := k3 j (by omega)
     rw [hv, add_add s0] at k4
     obtain ⟨_, c', _, _, hc', hv'⟩ := hcell k4
     have hc' : w.heap[a.block]? = some (.cells c' _ _) := hc'
     rw [hc] at hc'
     cases hc'
     exact hv'
   | _ => simp only at h; cases h
  ·rename_i fs ht
   simp only [Bool.and_eq_true] at h
   obtain ⟨xs, n, _, hx1, hlen, hxl, hf⟩ := DataW.trod_struct ht hx
   have := fields_open (cs := cs) (fun t s hts cs x hx => ih t s hts n cs x hx) (bl (xs.map (·.1))) fs.toList 0 s h.2 (fun f hff => by
    obtain ⟨i, hi, he⟩ := List.getElem_of_mem hff
    have h1 := hf i f (by rw [← he]; simp)
    rw [List.getElem?_eq_getElem (by simpa [hxl] using hi)] at h1
    exact ⟨_, h1, fun hB => hB.mem (List.mem_map_of_mem (List.getElem_mem _))⟩)
   rw [List.drop_zero, ← beq_of h.1, ← hlen, List.take_length] at this
   obtain ⟨v, h1, h2, h3⟩ := this
   exact ⟨v, h1, h2, fun hB B hM => h3 hB B (Nat.le_trans (hB.agg _) (by rw [hx1] at hM; exact hM))⟩
  ·rename_i n e ht
   simp only [Bool.and_eq_true] at h
   obtain ⟨xs, m, _, hx1, hlen, hxl, hf⟩ := DataW.trod_array ht hx
   have := arr_open (cs := cs) (e := e) (fun t s hts cs x hx => ih t s hts m cs x hx) (bl (xs.map (·.1))) n 0 s h.2 (fun j _ hj => by
    have h1 := hf j (by omega)
    rw [List.getElem?_eq_getElem (by omega)] at h1
    exact ⟨_, h1, fun hB => hB.mem (List.mem_map_of_mem (List.getElem_mem _))⟩)
   rw [Nat.zero_mul, List.drop_zero, ← beq_of h.1, ← hlen, List.take_length] at this
   obtain ⟨v, h1, h2, h3⟩ := this
   exact ⟨v, h1, h2, fun hB B hM => h3 hB B (Nat.le_trans (hB.agg _) (by rw [hx1] at hM; exact hM))⟩
  ·cases h
theorem wf_isl {s : Sh} {l : List s.T} (h : WfT (.isl s) l) : l.length ≤ 9223372036854775807 := by
 have h1 : l.length ≤ maxLen := h.1
 have h2 : maxLen = 9223372036854775807 := by decide
 omega
theorem wf_str {s : ByteArray} (h : WfT .str s) : s.size ≤ 9223372036854775807 := by
 have h1 : s.size ≤ maxLen := h
 have h2 : maxLen = 9223372036854775807 := by decide
 omega
theorem wf_u8 {x : Int} (h : WfT (.int .u8) x) : 0 ≤ x ∧ x ≤ 255 := by
 have h : (Lit.int .u8 x).wf = true := h
 simp [Lit.wf, IntKind.min, IntKind.max, IntKind.signed, IntKind.bits] at h
 omega
theorem wf_u16 {x : Int} (h : WfT (.int .u16) x) : 0 ≤ x ∧ x ≤ 65535 := by
 have h : (Lit.int .u16 x).wf = true := h
 simp [Lit.wf, IntKind.min, IntKind.max, IntKind.signed, IntKind.bits] at h
 omega
theorem wf_i64 {x : Int} (h : WfT (.int .i64) x) : -9223372036854775808 ≤ x ∧ x ≤ 9223372036854775807 := by
 have h : (Lit.int .i64 x).wf = true := h
 simp [Lit.wf, IntKind.min, IntKind.max, IntKind.signed, IntKind.bits] at h
 omega
/-! all that comes in -/
abbrev PSh := Sh × Bool
abbrev AT (l : List PSh) := LT (fun p : PSh => p.1.T) l
def putP (l : List PSh) (t : AT l) : List SV := putL (fun p : PSh => p.1.T) (fun p v => scsSV p.2 (Gx.enc p.1 v)) l t
def AllWf : (l : List PSh) → AT l → Prop
 | [], _ => True
 | p :: r, t => WfT p.1 t.1 ∧ AllWf r t.2
def AllB (B : Nat) : (l : List PSh) → AT l → Prop
 | [], _ => True
 | p :: r, t => WfB B p.1 t.1 ∧ AllB B r t.2
def paramsOk (P : Program) : List TypeId → List PSh → Bool
 | [], [] => true
 | t :: ts, p :: ps => shapeOk P dep t p.1 && (isAggT P t == p.2) && P.readableRec t && decide (t < P.types.size) && paramsOk P ts ps
 | _, _ => false
theorem cells_of_ok {r : Reach} {b : Nat} {t : TypeId} {v : Value} (h : Value.okWide P w r b t v) : RepVal (isAggT P t) v.cells.toList v := by
 unfold Value.okWide at h
 unfold isAggT
 have other : Cell.okWide P w r b t v → (match v with | .agg _ => False | _ => True) := by
  intro h
  unfold Cell.okWide at h
  split at h <;> try trivial
  unfold Cell.ok at h
  split at h <;> first | trivial | cases h
 split at h
 ·rename_i ht
  rw [ht]
  obtain ⟨cs, rfl, _⟩ := h
  simp [RepVal, Value.cells]
 ·rename_i ht
  rw [ht]
  obtain ⟨cs, rfl, _⟩ := h
  simp [RepVal, Value.cells]
 ·rename_i h1 h2
  have hv := other h
  have hc : v.cells.toList = [v] := by
   cases v <;> first | rfl | exact hv.elim
  split
  ·rename_i he; exact absurd he (h1 _)
  ·rename_i he; exact absurd he (h2 _ _)
  ·exact hc
theorem open_all {sp : Nat → Bool} {held : Bool} {r : Reach} {b : Nat} : ∀ {ts : List TypeId} {l : List PSh} {vs : List Value} {ds : List (DataW H)} {ps : List MemPlace}, paramsOk P ts l = true →
  DataW.TrodAll enc P w 0 sp held ts vs ds ps → (∀ (j : Nat) t v, ts[j]? = some t → vs[j]? = some v → Value.okWide P w r b t v) → ∃ t : AT l, RepSVs (en w β0 F0 []) (putP l t) vs ∧ AllWf l t ∧ (Bulk bm bl → ∀ B, bl ds ≤ B → AllB B l t)
 | [], [], [], [], _, _, _, _ => ⟨(), rfl, trivial, fun _ _ _ => trivial⟩
 | t :: ts, p :: l, v :: vs, d :: ds, ps, hp, ha, hok => by
  obtain ⟨p1, q1, ⟨fuel, h1⟩, h2, _⟩ := ha
  simp only [paramsOk, Bool.and_eq_true] at hp
  obtain ⟨y, h3, h4, h4b⟩ := open_sh (bm := bm) (bl := bl) _ _ _ hp.1.1.1.1 _ _ _ h1
  obtain ⟨u, h5, h6, h6b⟩ := open_all (l := l) hp.2 h2 (fun j t v ht hv => hok (j + 1) t v ht hv)
  have hcv := cells_of_ok (hok 0 t v rfl rfl)
  have hag : isAggT P t = p.2 := by simpa using hp.1.1.1.2
  rw [hag] at hcv
  have hav : (en w β0 F0 []).av = noAv := by
   have h1 : (fun b => (en w β0 F0 []).Own b ∨ (en w β0 F0 []).F b) = fun _ => False := funext fun b => propext ⟨fun h => av0 h, fun h => h.elim⟩
   have h2 : (en w β0 F0 []).pb = fun _ _ _ _ => False := by
    funext t i b m
    exact propext ⟨fun ⟨r, hr, _⟩ => absurd hr (Nat.not_lt_zero _), fun h => h.elim⟩
   show Av.mk _ _ = _
   rw [h1, h2]
   rfl
  exact ⟨(y, u), ⟨v, vs, rfl, scsSV_rep (e := en w β0 F0 []) (by rw [hav]; exact h3) hcv, h5⟩, ⟨h4, h6⟩, fun hB B hM => by
   rw [hB.cons] at hM
   exact ⟨h4b hB B (by show bm d ≤ B; omega), h6b hB B (by omega)⟩⟩
 | [], _ :: _, _, _, _, hp, _, _ => by cases hp
 | _ :: _, [], _, _, _, hp, _, _ => by cases hp
 | [], [], _ :: _, _, _, _, ha, _ => by cases ha
 | [], [], [], _ :: _, _, _, ha, _ => by cases ha
 | _ :: _, _ :: _, [], _, _, _, ha, _ => by cases ha
 | _ :: _, _ :: _, _ :: _, [], _, _, ha, _ => by cases ha
theorem trodAll_stays (hl : laidOutB P = true) {w' : World} {sp' : Nat → Bool} : ∀ {ts : List TypeId} {l : List PSh} {vs : List Value} {ds : List (DataW H)} {ps : List MemPlace}, paramsOk P ts l = true →
  DataW.TrodAll enc P w 0 (fun _ => true) true ts vs ds ps → (∀ p ∈ ps, w.sameAt w' p) → (∀ p ∈ ps, sp' p.block = true) → DataW.TrodAll enc P w' 0 sp' true ts vs ds ps
 | [], [], [], [], ps, _, ha, _, _ => ha
 | t :: ts, p :: l, v :: vs, d :: ds, ps, hp, ha, h1, h2 => by
  obtain ⟨p1, q1, ht, hr, rfl⟩ := ha
  simp only [paramsOk, Bool.and_eq_true, decide_eq_true_eq] at hp
  exact ⟨p1, q1, WideElems.Trod_stays hl hp.1.1.2 hp.1.2 ht (fun p hp => h1 p (List.mem_append_left _ hp)) (fun p hp => h2 p (List.mem_append_left _ hp)),
   trodAll_stays hl hp.2 hr (fun p hp => h1 p (List.mem_append_right _ hp)) (fun p hp => h2 p (List.mem_append_right _ hp)), rfl⟩
 | [], _ :: _, _, _, _, hp, _, _, _ => by cases hp
 | _ :: _, [], _, _, _, hp, _, _, _ => by cases hp
 | [], [], _ :: _, _, _, _, ha, _, _ => by cases ha
 | [], [], [], _ :: _, _, _, ha, _, _ => by cases ha
 | _ :: _, _ :: _, [], _, _, _, ha, _, _ => by cases ha
 | _ :: _, _ :: _, _ :: _, [], _, _, ha, _, _ => by cases ha
theorem law_post {F : FuncId} {f : Func} (hl : laidOutB P = true) {s : ChangeSpec} (hvars : s.vars = []) {l : List PSh} (hp : paramsOk P f.params.toList l = true)
  {tb : TypeId} (hres : f.resultTypes = #[tb]) (htb : P.underlying tb = some .bool)
  (hfn : ∀ ds : List (DataW H), ds.length = f.params.toList.length → (s.fn H ds).results = [.lit (.bool true)] ∧ (s.fn H ds).args = ds ∧ (s.fn H ds).vars = [])
  (h : ∀ t : AT l, AllWf l t → ∃ E, EntOK P F E ∧ E.run (putP l t) [] (fun s _ => isTrue s) = some ())
  {apart fresh handsOn again : Bool} {W : World} {b : Nat} {r : Reach} {args : Array Value} {ds gs : List (DataW H)} {before : List MemPlace}
  (hval : ∀ (j : Nat) t v, f.params[j]? = some t → args[j]? = some v → Value.okWide P W r b t v)
  (hW : DataW.Whole enc P f.params.toList s.vars apart W args.toList ds gs before) :
  Calls P F args W fun e W' => ∃ v, e = .returned v ∧ s.post enc P f apart fresh handsOn again W args v W' := by
 have hW' := hW
 obtain ⟨p, q, hA, hV, rfl, _, _⟩ := hW
 rw [hvars] at hV
 obtain ⟨rfl, rfl⟩ := trodVars_none hV
 obtain ⟨t, ht, wt, _⟩ := open_all (enc := enc) (bm := fun _ => 0) (bl := fun _ => 0) hp hA (fun j t v h1 h2 => hval j t v (by simpa using h1) (by simpa using h2))
 have hlen : ds.length = f.params.toList.length := trodAll_len hA
 obtain ⟨e1, e2, e3⟩ := hfn (ds ++ []) (by simpa using hlen)
 obtain ⟨E, hE, hrun⟩ := h t wt
 have hc := law_calls hE ht hrun
 have ea : args.toList.toArray = args := by simp
 rw [ea] at hc
 refine hc.mono fun e W' => ?_
 rintro ⟨v, he, rfl, hg⟩
 have hsame : ∀ x ∈ p ++ [], W.sameAt W' x := fun x hx => hg.sameAt (by simpa using hW'.lt x hx)
 refine ⟨_, he, post_of_same (pa := p) (pv := []) hW' ?_ ?_ ?_ rfl (hg.keptBut _) hg.froz ?_⟩
 ·intro _ _ _
  rw [e1, hres]
  exact trodAll_mk1 (shut_bool htb true)
 ·intro sp hs
  rw [e2, List.append_nil]
  exact trodAll_stays hl hp hA (fun x hx => hsame x (by simpa using hx)) (fun x hx => hs x (by simpa using hx))
 ·intro _ _
  rw [e3, hvars]
  rfl
 ·exact ok_one hres rfl (okWide_bool_mk htb true)
where
 trodAll_len : ∀ {ts : List TypeId} {vs : List Value} {ds : List (DataW H)} {ps : List MemPlace} {w : World} {sp : Nat → Bool} {held : Bool}, DataW.TrodAll enc P w 0 sp held ts vs ds ps → ds.length = ts.length
  | [], [], [], _, _, _, _, _ => rfl
  | _ :: _, _ :: _, _ :: _, _, _, _, _, ⟨_, _, _, h, _⟩ => by simp [trodAll_len h]
  | [], _ :: _, _, _, _, _, _, h => by cases h
  | [], [], _ :: _, _, _, _, _, h => by cases h
  | _ :: _, [], _, _, _, _, _, h => by cases h
  | _ :: _, _ :: _, [], _, _, _, _, h => by cases h
theorem law_postB {F : FuncId} {f : Func} (hl : laidOutB P = true) {s : ChangeSpec} (hvars : s.vars = []) {l : List PSh} (hp : paramsOk P f.params.toList l = true)
  {tb : TypeId} (hres : f.resultTypes = #[tb]) (htb : P.underlying tb = some .bool)
  (hfn : ∀ ds : List (DataW H), ds.length = f.params.toList.length → (s.fn H ds).results = [.lit (.bool true)] ∧ (s.fn H ds).args = ds ∧ (s.fn H ds).vars = [])
  {B : Nat} (hB : Bulk bm bl) (h : ∀ t : AT l, AllWf l t → AllB B l t → ∃ E, EntOK P F E ∧ E.run (putP l t) [] (fun s _ => isTrue s) = some ())
  {apart fresh handsOn again : Bool} {W : World} {b : Nat} {r : Reach} {args : Array Value} {ds gs : List (DataW H)} {before : List MemPlace}
  (hval : ∀ (j : Nat) t v, f.params[j]? = some t → args[j]? = some v → Value.okWide P W r b t v)
  (hW : DataW.Whole enc P f.params.toList s.vars apart W args.toList ds gs before) (hk : bl (ds ++ gs) ≤ B) :
  Calls P F args W fun e W' => ∃ v, e = .returned v ∧ s.post enc P f apart fresh handsOn again W args v W' := by
 have hW' := hW
 obtain ⟨p, q, hA, hV, rfl, _, _⟩ := hW
 rw [hvars] at hV
 obtain ⟨rfl, rfl⟩ := trodVars_none hV
 obtain ⟨t, ht, wt, bt⟩ := open_all (enc := enc) (bm := bm) (bl := bl) hp hA (fun j t v h1 h2 => hval j t v (by simpa using h1) (by simpa using h2))
 have hlen : ds.length = f.params.toList.length := law_post.trodAll_len hA
 obtain ⟨e1, e2, e3⟩ := hfn (ds ++ []) (by simpa using hlen)
 rw [List.append_nil] at hk
 obtain ⟨E, hE, hrun⟩ := h t wt (bt hB B hk)
 have hc := law_calls hE ht hrun
 have ea : args.toList.toArray = args := by simp
 rw [ea] at hc
 refine hc.mono fun e W' => ?_
 rintro ⟨v, he, rfl, hg⟩
 have hsame : ∀ x ∈ p ++ [], W.sameAt W' x := fun x hx => hg.sameAt (by simpa using hW'.lt x hx)
 refine ⟨_, he, post_of_same (pa := p) (pv := []) hW' ?_ ?_ ?_ rfl (hg.keptBut _) hg.froz ?_⟩
 ·intro _ _ _
  rw [e1, hres]
  exact trodAll_mk1 (shut_bool htb true)
 ·intro sp hs
  rw [e2, List.append_nil]
  exact trodAll_stays hl hp hA (fun x hx => hsame x (by simpa using hx)) (fun x hx => hs x (by simpa using hx))
 ·intro _ _
  rw [e3, hvars]
  rfl
 ·exact ok_one hres rfl (okWide_bool_mk htb true)
end
end Go.Gx
