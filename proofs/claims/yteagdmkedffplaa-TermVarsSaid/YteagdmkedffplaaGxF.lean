/-
  Gx, part F: parts of values, indexes, slices, lengths, conversions.
-/
import Derived.Test.YteagdmkedffplaaGxE
namespace Go.Gx
section
variable {R : Type} {P : Program} {w : World} {β : Nat → Loc} {F : Nat → Prop} {H : Heap} {fr : Fr} {a : Act} {x : R} {K : Slot → Heap → Option R}

theorem extract_mid (u p q : List Value) : ((u ++ (p ++ q)).toArray.extract u.length (u.length + p.length)) = p.toArray := by
  apply Array.ext'
  simp

theorem exPart_ok {t : TypeId} {sg : List Seg} {off : Nat} {K : SV → Option R} {e : En} (h : exPart P t sg off K = some x) {vs : List Value} (hs : RepSegs e sg vs) (w : World) :
    ∃ r v, Stays P (part t vs.toArray off) w v ∧ RepSV e r v ∧ K r = some x := by
  unfold exPart at h
  split at h
  · rename_i g n hsk ht
    obtain ⟨_, _, _, hn0⟩ := aggO_spec ht w
    have ha := fun w => (aggO_spec ht w).1
    have hsz := fun w => (aggO_spec ht w).2.1
    split at h
    · rename_i p b hp
      obtain ⟨u, v, rfl, hu, hv⟩ := seek_rep sg off _ 0 vs hsk hs
      obtain ⟨q, q', rfl, hq, hqa, _⟩ := takeSegs_rep _ n p b v hp hv
      obtain rfl : u.length = off := by omega
      refine ⟨.agg p, _, fun w _ => by simp [part, ha, hsz]; rfl, ⟨q, ?_, hqa⟩, h⟩
      rw [← hq]
      have := extract_mid u q q'
      simp
    · cases h
  · rename_i y g n hsk ht
    obtain ⟨_, _, _, hn0⟩ := aggO_spec ht w
    have ha := fun w => (aggO_spec ht w).1
    have hsz := fun w => (aggO_spec ht w).2.1
    obtain ⟨u, v, rfl, hu, Y, v', rfl, _, hY, _⟩ := seek_rep sg off _ 0 vs hsk hs
    obtain rfl : u.length = off := by omega
    exact ⟨.v y, Y, fun w _ => by simp [part, ha], hY, h⟩
  · cases h

theorem exField_ok {t : TypeId} {s : Slot} {f : Nat} {V : Value} {K : SV → Option R} {e : En} (h : exField P t s f K = some x) (hs : RepSlot e s V) (w : World) :
    ∃ r v, Stays P (Instr.field t V f) w v ∧ RepSV e r v ∧ K r = some x := by
  unfold exField at h
  split at h
  · rename_i fs hd
    split at h
    · rename_i fd sg hf
      obtain ⟨vs, rfl, hvs⟩ := hs
      obtain ⟨r, v, h1, h2, h3⟩ := exPart_ok (P := P) h hvs w
      exact ⟨r, v, fun w' hw => by simp [Instr.field, run_underlying hd, hf, asAgg, h1 w' hw], h2, h3⟩
    · cases h
  · cases h

theorem chainV_ok {e : TypeId} {sg : List Seg} {i : Int} {K : SV → Option R} : ∀ {k j : Nat}, chainV P e sg i K j k = some x → ∃ q : Nat, q < j + k ∧ i = (q : Int) ∧ exPart P e sg (q * P.cellsOf e) K = some x
  | 0, j, h => by cases h
  | k + 1, j, h => by
    simp only [chainV] at h
    rcases br_some h with ⟨h1, h2⟩ | ⟨_, h2⟩
    · exact ⟨j, by omega, of_decide_eq_true h1, h2⟩
    · obtain ⟨q, h4, h5, h6⟩ := chainV_ok h2
      exact ⟨q, by omega, h5, h6⟩

theorem exIndex_ok {t : TypeId} {s : Slot} {u : Sc} {V U : Value} {K : SV → Option R} {e : En} (h : exIndex P t s u K = some x) (hs : RepSlot e s V) (hu : RepSc e u U) (w : World) :
    ∃ r v, Stays P (Instr.index t V U) w v ∧ RepSV e r v ∧ K r = some x := by
  unfold exIndex at h
  split at h
  · rename_i k i
    obtain rfl : U = .int k i := hu
    split at h
    · rename_i s hd
      obtain ⟨hb, h⟩ := br_none h
      obtain ⟨h0, h1⟩ := inB_spec hb
      obtain rfl : V = .string s := hs
      have hlt : i.toNat < s.size := by omega
      have hget : s[i.toNat]? = some (s[i.toNat]'hlt) := getElem?_pos s i.toNat hlt
      refine ⟨.v (.int .u8 (bt s i)), .int .u8 (bt s i), ?_, rfl, h⟩
      have hbt : bt s i = ((s[i.toNat]'hlt).toNat : Int) := by
        unfold bt
        have : s.data.getD i.toNat 0 = s[i.toNat]'hlt := by
          have hl : i.toNat < s.data.size := hlt
          rw [Array.getD, dif_pos hl]; rfl
        rw [this]
      exact fun w _ => by simp [Instr.index, asIntOf, run_underlying hd, h0, hget, hbt]
    · rename_i n el s m l hd
      split at h
      · rename_i ht
        have ha := fun w => (aggO_spec ht w).1
        have hsz := fun w => (aggO_spec ht w).2.1
        obtain ⟨hc, h⟩ := bif_none h
        rw [Bool.and_eq_true] at hc
        have hs1 : s.size = 1 := Nat.eq_of_beq_eq_true hc.1
        obtain rfl : m = n := Nat.eq_of_beq_eq_true hc.2
        obtain ⟨hb, h⟩ := br_none h
        obtain ⟨h0, h1⟩ := inB_spec hb
        obtain ⟨vs, rfl, hlm, rv, v', rfl, hrow, rfl⟩ := hs
        have him : i.toNat < l.length := by omega
        rw [getD_of him] at h
        obtain ⟨p1, p2, p3, rfl, hp1, hp2, _, _⟩ := hrow.at him
        have henc := RepT.enc (e := e) s _ p2 hp2
        split at h
        · rename_i y hy
          rw [hy] at henc
          obtain ⟨Y, v'', rfl, _, hY, hv''⟩ := henc
          obtain rfl : v'' = [] := hv''
          refine ⟨.v y, Y, ?_, hY, h⟩
          have : p1.length = i.toNat := by rw [hp1, hs1]; omega
          exact fun w _ => by simp [Instr.index, asIntOf, run_underlying hd, h0, h1, hsz, part, ha, ← this]
        · cases h
      · cases h
    · rename_i n el sg _ hd
      obtain ⟨_, h⟩ := bif_none h
      obtain ⟨q, hq, rfl, hK⟩ := chainV_ok h
      obtain ⟨vs, rfl, hvs⟩ := hs
      have hsz : ∃ c, P.cellsOf el = c + 1 := by
        unfold exPart at hK
        split at hK
        · rename_i ht
          have := (aggO_spec ht w).2.2
          exact ⟨P.cellsOf el - 1, by omega⟩
        · rename_i ht
          have := (aggO_spec ht w).2.2
          exact ⟨P.cellsOf el - 1, by omega⟩
        · cases hK
      obtain ⟨c, hc⟩ := hsz
      obtain ⟨r, v, h1, h2, h3⟩ := exPart_ok (P := P) hK hvs w
      refine ⟨r, v, fun w' hw => ?_, h2, h3⟩
      have h4 := h1 w' hw
      rw [hc] at h4
      simp [Instr.index, asIntOf, run_underlying hd, show q < n by omega, run_sizeOf hc, h4]
    · cases h
  · cases h

theorem exLen_ok {t : TypeId} {s : Sc} {V : Value} {K : Int → Option R} (h : exLen P t H s K = some x) (ok : HeapOk w β F H) (hs : RepSc (en w β F H) s V) (ty : TypeId) (ts : Array TypeId) (ht : ts[0]? = some t) :
    ∃ n, Stays P (Builtin.len_ ts ty #[V]) w (.int .i64 n) ∧ K n = some x := by
  unfold exLen at h
  split at h
  · rename_i s hd
    obtain rfl : V = .string s := hs
    exact ⟨_, fun w _ => by simp [Builtin.len_, ht, run_underlying hd, goInt], h⟩
  · rename_i hd
    obtain ⟨_, _, A, C, rfl, _⟩ := hs
    exact ⟨_, fun w _ => by simp [Builtin.len_, ht, run_underlying hd, goInt], h⟩
  · rename_i hd
    obtain ⟨A, C, rfl, _⟩ := hs
    exact ⟨_, fun w _ => by simp [Builtin.len_, ht, run_underlying hd, goInt], h⟩
  · rename_i hd
    obtain ⟨A, rfl⟩ := hs
    exact ⟨_, fun w _ => by simp [Builtin.len_, ht, run_underlying hd, goInt], h⟩
  · rename_i hd
    obtain rfl : V = _ := hs
    exact ⟨_, fun w _ => by simp [Builtin.len_, ht, run_underlying hd, goInt], h⟩
  · rename_i hd
    obtain rfl : V = _ := hs
    exact ⟨_, fun w _ => by simp [Builtin.len_, ht, run_underlying hd, goInt], h⟩
  · rename_i r hd
    obtain ⟨hr, rfl⟩ := hs
    split at h
    · rename_i ks vs ka va l hH
      obtain ⟨es, clock, hb, hent, _⟩ := ok.obj r _ hH
      have hlen : es.size = l.length := by
        rw [← Array.length_toList]
        clear h hb hH
        generalize es.toList = es at hent
        induction l generalizing es with
        | nil => rw [show es = [] from hent]; rfl
        | cons p l ih =>
          obtain ⟨y, r', rfl, _, _, h5⟩ := hent
          simp [ih r' h5]
      have hb' : w.heap[(β r).b]? = some (.map es clock) := hb
      exact ⟨_, fun w hw => by simp [Builtin.len_, ht, run_underlying hd, goInt, getObj, Sem.run, en, hw _ _ hb', hlen], h⟩
    · cases h
  · rename_i hd
    exact ⟨_, fun w _ => by simp [Builtin.len_, ht, run_underlying hd, goInt], h⟩
  · rename_i arr hd
    split at h
    · rename_i hd2
      exact ⟨_, fun w _ => by simp [Builtin.len_, ht, run_underlying hd, run_underlying hd2, goInt], h⟩
    · cases h
  · cases h

/-! ### slice expressions -/
/-- an operand that may be left out -/
def OptRep (o : Option Int) (v : Option Value) : Prop := match o, v with
  | none, none => True
  | some n, some V => ∃ k, V = .int k n
  | _, _ => False

theorem optI_ok (h : Rel w β F H fr a) {o : Option Operand} {r : Option Int} (ho : optI fr o = some r) : OptRep r (o.map a.eval) := by
  unfold optI at ho
  split at ho
  · cases ho; trivial
  · rename_i y
    split at ho
    · rename_i k n hn
      cases ho
      exact ⟨k, evalS_eq h hn⟩
    · cases ho

theorem exLow_ok {K : Nat → Nat → Nat → Option R} {lo : Option Int} {vl : Option Value} {hN m : Nat} (h : exLow K lo hN m = some x) (hl : OptRep lo vl) (code : BoundsCode) :
    ∃ l, (∀ w, (match vl with | some v => Instr.sliceBound v hN code | none => pure 0 : Sem Nat).run P w = .ok l w) ∧ K l hN m = some x ∧ l ≤ hN := by
  cases lo with
  | none =>
    cases vl with
    | none => exact ⟨0, fun _ => rfl, h, Nat.zero_le _⟩
    | some _ => exact hl.elim
  | some l =>
    cases vl with
    | none => exact hl.elim
    | some v =>
      obtain ⟨k, rfl⟩ := hl
      obtain ⟨hb, hk⟩ := br_none h
      obtain ⟨h0, h1⟩ := leB_spec hb
      exact ⟨l.toNat, fun w => run_sliceBound (P := P) (w := w) k l hN _ h0 h1, hk, by omega⟩

theorem exHigh_ok {len : Nat} {K : Nat → Nat → Nat → Option R} {lo hi : Option Int} {vl vh : Option Value} {m M : Nat} (h : exHigh len K lo hi m = some x) (hl : OptRep lo vl) (hh : OptRep hi vh)
    (hm : m ≤ M) (hlen : hi = none → len ≤ m) (code code' : BoundsCode) :
    ∃ l hN, (∀ w, (match vh with | some v => Instr.sliceBound v M code' | none => pure len : Sem Nat).run P w = .ok hN w) ∧
      (∀ w, (match vl with | some v => Instr.sliceBound v hN code | none => pure 0 : Sem Nat).run P w = .ok l w) ∧ K l hN m = some x ∧ l ≤ hN ∧ hN ≤ m := by
  cases hi with
  | none =>
    cases vh with
    | some _ => exact hh.elim
    | none =>
      obtain ⟨l, h1, h2, h3⟩ := exLow_ok (P := P) h hl code
      exact ⟨l, len, fun _ => rfl, h1, h2, h3, hlen rfl⟩
  | some q =>
    cases vh with
    | none => exact hh.elim
    | some v =>
      obtain ⟨k, rfl⟩ := hh
      obtain ⟨hb, h⟩ := br_none h
      obtain ⟨h0, h1⟩ := leB_spec hb
      obtain ⟨l, h2, h3, h4⟩ := exLow_ok (P := P) h hl code
      exact ⟨l, q.toNat, fun w => run_sliceBound (P := P) (w := w) k q M _ h0 (by omega), h2, h3, h4, by omega⟩

theorem exBounds_ok {len cap C : Nat} {lo hi mx : Option Int} {K : Nat → Nat → Nat → Option R} {vl vh vm : Option Value} (h : exBounds len cap lo hi mx K = some x)
    (hl : OptRep lo vl) (hh : OptRep hi vh) (hm : OptRep mx vm) (hC : cap ≤ C) (hlen : len ≤ cap) (isl : Bool) :
    ∃ l hN m M, (∀ w, (Instr.sliceBounds isl len C vl vh vm).run P w = .ok (l, hN, M) w) ∧ K l hN m = some x ∧ l ≤ hN ∧ hN ≤ m ∧ m ≤ cap ∧ m ≤ M ∧ M ≤ C ∧ (hi = none → hN = len) ∧ (mx = none → m = cap) := by
  unfold exBounds at h
  cases mx with
  | none =>
    cases vm with
    | some _ => exact hm.elim
    | none =>
      obtain ⟨l, hN, h1, h2, h3, h4, h5⟩ := exHigh_ok (P := P) h hl hh hC (fun _ => hlen) .sliceB (if isl then .sliceAcap else .sliceAlen)
      refine ⟨l, hN, cap, C, ?_, h3, h4, h5, Nat.le_refl _, hC, Nat.le_refl _, fun hi0 => ?_, fun _ => rfl⟩
      · cases vl <;> cases vh <;> simp_all [Instr.sliceBounds]
      · subst hi0
        cases vh with
        | none => simpa using (h1 default).symm
        | some _ => exact hh.elim
  | some mI =>
    cases vm with
    | none => exact hm.elim
    | some vmv =>
      obtain ⟨km, rfl⟩ := hm
      cases hi with
      | none => cases h
      | some q =>
        obtain ⟨hb, h⟩ := br_none h
        obtain ⟨m0, m1⟩ := leB_spec hb
        obtain ⟨l, hN, h1, h2, h3, h4, h5⟩ := exHigh_ok (P := P) h hl hh (Nat.le_refl _) (fun h => (nomatch h)) .slice3C .slice3B
        have hm' := fun w => run_sliceBound (P := P) (w := w) km mI C (if isl then .slice3Acap else .slice3Alen) m0 (by omega)
        refine ⟨l, hN, mI.toNat, mI.toNat, ?_, h3, h4, h5, by omega, Nat.le_refl _, by omega, fun h => (nomatch h), fun h => (nomatch h)⟩
        cases vh with
        | none => exact hh.elim
        | some v => cases vl <;> simp_all [Instr.sliceBounds]

theorem addN_eq (a b : Nat) : addN a b = a + b := by cases a <;> cases b <;> simp [addN]

/-- a piece of a slice of an object -/
theorem sl_piece {e : En} {r o z l0 : Nat} {A : Option Addr} {C l hN m M : Nat} (hr : r < e.n)
    (hA : 0 < C → A = some (addr e r (o + l0 * z)) ∧ (e.β r).k ∧ ∃ c t fz, e.w.heap[(e.β r).b]? = some (.cells c t fz) ∧ (e.β r).o + o + (l0 + C) * z ≤ c.size)
    (h1 : l ≤ hN) (h2 : hN ≤ m) (h4 : m ≤ M) (h5 : M ≤ C) {cap' : Option Nat} (hcap : capOf (hN - l) cap' = m - l) {sz : Nat} (hz : sz = z) :
    RepSc e (.sl r o z (addN l0 l) (hN - l) cap') (.slice (if M = l then A else A.map (·.add (l * sz))) (hN - l) (M - l)) := by
  refine ⟨hr, by rw [hcap]; omega, _, _, rfl, by rw [hcap]; omega, fun h0 => ?_⟩
  obtain ⟨rfl, hv, c, t, fz, hc, hs⟩ := hA (by omega)
  rw [if_neg (by omega)]
  subst hz
  refine ⟨by simp only [Option.map_some]; rw [addr_add, addN_eq, Nat.add_mul, Nat.add_assoc], hv, c, t, fz, hc, ?_⟩
  rw [addN_eq]
  refine Nat.le_trans (Nat.add_le_add_left (Nat.mul_le_mul_right _ ?_) _) hs
  omega

theorem sliceAt_slice {t e : TypeId} (hd : P.underlying t = some (.slice e)) (V : Value) (lo hi mx : Option Value) (w : World) : (Instr.sliceAt t V lo hi mx).run P w = (Instr.slice t V lo hi mx).run P w := by
  simp [Instr.sliceAt, run_underlying hd]

/-- a piece of a list -/
theorem isl_piece {e : En} {s : Sh} {l0 : List s.T} {A : Option Addr} {C l hN M : Nat} (hC : l0.length ≤ C)
    (hA : l0 ≠ [] → ∃ ad, A = some ad ∧ ¬ e.av ad.block ∧ RowAt e.w (RepT e.w e.av s) s.size ad l0) (h1 : l ≤ hN) (h2 : hN ≤ l0.length) (h3 : l0.length ≤ M) {sz : Nat} (hz : sz = s.size) :
    RepSc e (.isl s (sub l0 l (hN - l))) (.slice (if M = l then A else A.map (·.add (l * sz))) (hN - l) (M - l)) := by
  have hlen : (sub l0 l (hN - l)).length = hN - l := by simp [sub]; omega
  refine ⟨_, _, by rw [hlen], by rw [hlen]; omega, fun hne => ?_⟩
  have hpos : 0 < hN - l := by rw [← hlen]; exact List.length_pos_iff.2 hne
  obtain ⟨ad, rfl, hav, hsp, c, t, fz, hc, hel⟩ := hA (by intro e; subst e; simp at h2; omega)
  rw [if_neg (by omega)]
  subst hz
  refine ⟨ad.add (l * s.size), rfl, by rw [add_block]; exact hav, add_spot hsp _, c, t, fz, by rw [add_block]; exact hc, fun i y hy => ?_⟩
  obtain ⟨vs, h5, h6, h7⟩ := hel (l + i) y (by
    have hi := (List.getElem?_eq_some_iff.1 hy).1
    rw [hlen] at hi
    unfold sub at hy
    rw [List.getElem?_take_of_lt hi, List.getElem?_drop] at hy
    exact hy)
  refine ⟨vs, h5, h6, fun j v hj => ?_⟩
  have := h7 j v hj
  rw [Nat.add_mul] at this
  rw [add_off, show ad.off + l * s.size + i * s.size + j = ad.off + (l * s.size + i * s.size) + j by omega]
  exact this

theorem exSlice_ok {t : TypeId} {s : Sc} {V : Value} {lo hi mx : Option Int} {vl vh vm : Option Value} {K : Sc → Option R} (h : exSlice P t H s lo hi mx K = some x) (ok : HeapOk w β F H) (hs : RepSc (en w β F H) s V)
    (hl : OptRep lo vl) (hh : OptRep hi vh) (hm : OptRep mx vm) :
    ∃ r v, Stays P (Instr.sliceAt t V vl vh vm) w v ∧ RepSc (en w β F H) r v ∧ K r = some x := by
  unfold exSlice at h
  split at h
  · -- a string
    rename_i s hd
    obtain rfl : V = .string s := hs
    split at h
    · cases vm with
      | some _ => exact hm.elim
      | none =>
        obtain ⟨l, hN, m, M, h1, h2, h3, h4, _⟩ := exBounds_ok (P := P) h hl hh hm (Nat.le_refl _) (Nat.le_refl _) false
        exact run_mk h2 rfl (fun w _ => by simp [Instr.sliceAt, run_underlying hd, Instr.slice, h1])
    · cases h
  · -- a slice of an object
    rename_i el r o z l0 len cap hd
    obtain ⟨hr, hlen, A, C, rfl, hC, hA⟩ := id hs
    split at h
    · cases h
    · rename_i sz hsz
      obtain ⟨hz, hk⟩ := bif_none h
      have hz := Nat.eq_of_beq_eq_true hz
      obtain ⟨l, hN, m, M, h1, h2, h3, h4, h5, h6, h7, h8, h9⟩ := exBounds_ok (P := P) hk hl hh hm hC hlen true
      refine run_mk h2 (sl_piece (cap' := newCap cap hi mx l m) hr hA h3 h4 h6 h7 ?_ hz) (fun w _ => by rw [sliceAt_slice hd]; simp [Instr.slice, run_underlying hd, h1, run_sizeOf hsz])
      unfold newCap
      split
      · cases cap with
        | none => simp [capOf, h8 rfl, h9 rfl]
        | some c => simp [capOf, h9 rfl]
      · rfl
  · -- a list
    rename_i el s l0 hd
    obtain ⟨A, C, rfl, hC, hA⟩ := id hs
    split at h
    · rename_i sz hsz
      obtain ⟨hz, hk⟩ := bif_none h
      have hz := Nat.eq_of_beq_eq_true hz
      obtain ⟨l, hN, m, M, h1, h2, h3, h4, h5, h6, h7, _, h9⟩ := exBounds_ok (P := P) hk hl hh hm hC (Nat.le_refl _) true
      have hm' : m = l0.length := h9 rfl
      exact run_mk h2 (isl_piece (M := M) hC hA h3 (by omega) (by omega) hz) (fun w _ => by rw [sliceAt_slice hd]; simp [Instr.slice, run_underlying hd, h1, run_sizeOf hsz])
    · cases h
  · rename_i el hd
    obtain rfl : V = _ := hs
    split at h
    · cases h
    · rename_i sz hsz
      obtain ⟨l, hN, m, M, h1, h2, h3, h4, h5, h6, h7, _⟩ := exBounds_ok (P := P) h hl hh hm (Nat.le_refl _) (Nat.le_refl _) true
      obtain ⟨rfl, rfl, rfl⟩ : l = 0 ∧ hN = 0 ∧ M = 0 := ⟨by omega, by omega, by omega⟩
      exact run_mk (r := .nils) h2 rfl (fun w _ => by rw [sliceAt_slice hd]; simp [Instr.slice, run_underlying hd, h1, run_sizeOf hsz])
  · rename_i el hd
    obtain ⟨A, rfl⟩ := hs
    split at h
    · cases h
    · rename_i sz hsz
      obtain ⟨l, hN, m, M, h1, h2, h3, h4, h5, h6, h7, _⟩ := exBounds_ok (P := P) h hl hh hm (Nat.le_refl _) (Nat.le_refl _) true
      obtain ⟨rfl, rfl, rfl⟩ : l = 0 ∧ hN = 0 ∧ M = 0 := ⟨by omega, by omega, by omega⟩
      exact run_mk (r := .emp) h2 ⟨A, rfl⟩ (fun w _ => by rw [sliceAt_slice hd]; simp [Instr.slice, run_underlying hd, h1, run_sizeOf hsz])
  · -- an array
    rename_i n el r o hd
    obtain ⟨hr, rfl⟩ := hs
    split at h
    · rename_i z sg hsz hH
      obtain ⟨hc, hk⟩ := bif_none h
      rw [Bool.and_eq_true] at hc
      have hle : o + n * (z + 1) ≤ segsSize sg := Nat.le_of_ble_eq_true hc.1
      have hn0 : 0 < n := by simpa using hc.2
      have hpos : 0 < n * (z + 1) := Nat.mul_pos hn0 (Nat.succ_pos _)
      obtain ⟨c, ty, vs, pre, post, hcell, hcl, hpre, hvs, hvl, _⟩ := obj_cells ok hH (by omega)
      obtain ⟨l, hN, m, M, h1, h2, h3, h4, h5, h6, h7, _⟩ := exBounds_ok (P := P) hk hl hh hm (Nat.le_refl _) (Nat.le_refl _) false
      have := sl_piece (e := en w β F H) (r := r) (o := o) (z := z + 1) (l0 := 0) (A := some (addr (en w β F H) r o)) (C := n) (cap' := some (m - l)) hr (fun _ => ⟨by simp, obj_k ok hH (by omega), c, ty, (0, 0), hcell, by
        have hsz : c.size = pre.length + vs.length + post.length := by rw [← Array.length_toList, hcl]; simp; omega
        rw [Nat.zero_add, hsz]
        have : (en w β F H).β r = β r := rfl
        rw [this]
        omega⟩) h3 h4 h6 h7 rfl rfl
      have h0 : addN 0 l = l := by cases l <;> rfl
      rw [h0] at this
      exact run_mk h2 this (fun w _ => by simp [Instr.sliceAt, run_underlying hd, h1, run_sizeOf hsz, Instr.sureAddr]; split <;> rfl)
    · cases h
  · cases h

theorem exClip_ok {t : TypeId} {s : Sc} {V : Value} {K : Sc → Option R} {e : En} (h : exClip P t s K = some x) (hs : RepSc e s V) {kh km : IntKind} (w : World) :
    ∃ r v, Stays P (Instr.sliceAt t V none (some (.int kh 0)) (some (.int km 0))) w v ∧ RepSc e r v ∧ K r = some x := by
  have hb : ∀ len C w, (Instr.sliceBounds true len C none (some (.int kh 0)) (some (.int km 0))).run P w = .ok (0, 0, 0) w := fun len C w => by
    have h1 := run_sliceBound (P := P) (w := w) km 0 C .slice3Acap (by omega) (by omega)
    have h2 := run_sliceBound (P := P) (w := w) kh 0 0 .slice3B (by omega) (by omega)
    simp [Instr.sliceBounds, h1, h2]
  unfold exClip at h
  split at h
  · rename_i el hd
    split at h
    · cases h
    · rename_i sz hsz
      split at h
      · obtain ⟨_, _, A, C, rfl, _⟩ := hs
        exact run_mk (r := .emp) h ⟨A, rfl⟩ (fun w _ => by rw [sliceAt_slice hd]; simp [Instr.slice, run_underlying hd, hb, run_sizeOf hsz])
      · obtain ⟨A, C, rfl, _⟩ := hs
        exact run_mk (r := .emp) h ⟨A, rfl⟩ (fun w _ => by rw [sliceAt_slice hd]; simp [Instr.slice, run_underlying hd, hb, run_sizeOf hsz])
      · obtain ⟨A, rfl⟩ := hs
        exact run_mk (r := .emp) h ⟨A, rfl⟩ (fun w _ => by rw [sliceAt_slice hd]; simp [Instr.slice, run_underlying hd, hb, run_sizeOf hsz])
      · obtain rfl : V = _ := hs
        exact run_mk (r := .nils) h rfl (fun w _ => by rw [sliceAt_slice hd]; simp [Instr.slice, run_underlying hd, hb, run_sizeOf hsz])
      · cases h
  · cases h

end
end Go.Gx
