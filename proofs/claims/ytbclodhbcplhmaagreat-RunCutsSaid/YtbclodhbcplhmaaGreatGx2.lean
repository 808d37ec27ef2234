/-
  Gx, part F: parts of values, indexes, slices, lengths, conversions.
  Gx, part G: operations that make, change and give up memory: new variables, stores, rows.
  Gx, part H: rows that are made, appended to, copied.
  Gx, part I: append, copy, rows built.
  Gx, part J: copy, rows and structs that are built.
  Gx, part K: structs that are built, conversions, maps.
-/
import Derived.Test.YtbclodhbcplhmaaGreatGx1
namespace Go.Gx
section
variable {R : Type} {P : Program} {w : World} {β : Nat → Loc} {F : Nat → Prop} {H : Heap} {fr : Fr} {a : Act} {x : R} {K : Slot → Heap → Option R}
theorem extract_mid (u p q : List Value) : ((u ++ (p ++ q)).toArray.extract u.length (u.length + p.length)) = p.toArray := by
 apply Array.ext'
 simp
theorem exPart_ok {t : TypeId} {sg : List Seg} {off : Nat} {K : SV → Option R} {e : En} (h : exPart P t sg off K = some x) {vs : List Value} (hs : RepSegs e sg vs) (w : World) :
  ∃ r v, Stays P (part t vs.toArray off) w v ∧ RepSV e r v ∧ K r = some x := by
 unfold exPart at h
 split at h
 ·rename_i g n hsk ht
  obtain ⟨_, _, _, hn0⟩ := aggO_spec ht w
  have ha := fun w => (aggO_spec ht w).1
  have hsz := fun w => (aggO_spec ht w).2.1
  split at h
  ·rename_i p b hp
   obtain ⟨u, v, rfl, hu, hv⟩ := seek_rep sg off _ 0 vs hsk hs
   obtain ⟨q, q', rfl, hq, hqa, _⟩ := takeSegs_rep _ n p b v hp hv
   obtain rfl : u.length = off := by omega
   refine ⟨.agg p, _, fun w _ => by simp [part, ha, hsz]; rfl, ⟨q, ?_, hqa⟩, h⟩
   rw [← hq]
   have := extract_mid u q q'
   simp
  ·cases h
 ·rename_i y g n hsk ht
  obtain ⟨_, _, _, hn0⟩ := aggO_spec ht w
  have ha := fun w => (aggO_spec ht w).1
  have hsz := fun w => (aggO_spec ht w).2.1
  obtain ⟨u, v, rfl, hu, Y, v', rfl, _, hY, _⟩ := seek_rep sg off _ 0 vs hsk hs
  obtain rfl : u.length = off := by omega
  exact ⟨.v y, Y, fun w _ => by simp [part, ha], hY, h⟩
 ·cases h
theorem exField_ok {t : TypeId} {s : Slot} {f : Nat} {V : Value} {K : SV → Option R} {e : En} (h : exField P t s f K = some x) (hs : RepSlot e s V) (w : World) :
  ∃ r v, Stays P (Instr.field t V f) w v ∧ RepSV e r v ∧ K r = some x := by
 unfold exField at h
 split at h
 ·rename_i fs hd
  split at h
  ·rename_i fd sg hf
   obtain ⟨vs, rfl, hvs⟩ := hs
   obtain ⟨r, v, h1, h2, h3⟩ := exPart_ok (P := P) h hvs w
   exact ⟨r, v, fun w' hw => by simp [Instr.field, run_underlying hd, hf, asAgg, h1 w' hw], h2, h3⟩
  ·cases h
 ·cases h
theorem chainV_ok {e : TypeId} {sg : List Seg} {i : Int} {K : SV → Option R} : ∀ {k j : Nat}, chainV P e sg i K j k = some x → ∃ q : Nat, q < j + k ∧ i = (q : Int) ∧ exPart P e sg (q * P.cellsOf e) K = some x
 | 0, j, h => by cases h
 | k + 1, j, h => by
  simp only [chainV] at h
  rcases br_some h with ⟨h1, h2⟩ | ⟨_, h2⟩
  ·exact ⟨j, by omega, of_decide_eq_true h1, h2⟩
  ·obtain ⟨q, h4, h5, h6⟩ := chainV_ok h2
   exact ⟨q, by omega, h5, h6⟩
theorem exIndex_ok {t : TypeId} {s : Slot} {u : Sc} {V U : Value} {K : SV → Option R} {e : En} (h : exIndex P t s u K = some x) (hs : RepSlot e s V) (hu : RepSc e u U) (w : World) :
  ∃ r v, Stays P (Instr.index t V U) w v ∧ RepSV e r v ∧ K r = some x := by
 unfold exIndex at h
 split at h
 ·rename_i k i
  obtain rfl : U = .int k i := hu
  split at h
  ·rename_i s hd
   obtain ⟨hb, h⟩ := br_none h
   obtain ⟨h0, h1⟩ := inB_spec hb
   obtain rfl : V = .string s := hs
   have hlt : i.toNat < s.size := by omega
   have hget : s[i.toNat]? = some (s[i.toNat]'hlt) := getElem?_pos s i.toNat hlt
   refine ⟨.v (.int .u8 (bt s i)), .int .u8 (bt s i), ?_, rfl, h⟩
   have hbt : bt s i = ((s[i.toNat]'hlt).toNat : Int) := by
    unfold bt
    have : s.data.getD i.toNat 0 = s[i.toNat]'hlt := by
     have hl : i.toNat < s.data.size := hlt
     rw [Array.getD, dif_pos hl]; rfl
    rw [this]
   exact fun w _ => by simp [Instr.index, asIntOf, run_underlying hd, h0, hget, hbt]
  ·rename_i n el s m l hd
   split at h
   ·rename_i ht
    have ha := fun w => (aggO_spec ht w).1
    have hsz := fun w => (aggO_spec ht w).2.1
    obtain ⟨hc, h⟩ := bif_none h
    rw [Bool.and_eq_true] at hc
    have hs1 : s.size = 1 := Nat.eq_of_beq_eq_true hc.1
    obtain rfl : m = n := Nat.eq_of_beq_eq_true hc.2
    obtain ⟨hb, h⟩ := br_none h
    obtain ⟨h0, h1⟩ := inB_spec hb
    obtain ⟨vs, rfl, hlm, rv, v', rfl, hrow, rfl⟩ := hs
    have him : i.toNat < l.length := by omega
    rw [getD_of him] at h
    obtain ⟨p1, p2, p3, rfl, hp1, hp2, _, _⟩ := hrow.at him
    have henc := RepT.enc (e := e) s _ p2 hp2
    split at h
    ·rename_i y hy
     rw [hy] at henc
     obtain ⟨Y, v'', rfl, _, hY, hv''⟩ := henc
     obtain rfl : v'' = [] := hv''
     refine ⟨.v y, Y, ?_, hY, h⟩
     have : p1.length = i.toNat := by rw [hp1, hs1]; omega
     exact fun w _ => by simp [Instr.index, asIntOf, run_underlying hd, h0, h1, hsz, part, ha, ← this]
    ·cases h
   ·cases h
  ·rename_i n el sg _ hd
   obtain ⟨_, h⟩ := bif_none h
   obtain ⟨q, hq, rfl, hK⟩ := chainV_ok h
   obtain ⟨vs, rfl, hvs⟩ := hs
   have hsz : ∃ c, P.cellsOf el = c + 1 := by
    unfold exPart at hK
    split at hK
    ·rename_i ht
     have := (aggO_spec ht w).2.2
     exact ⟨P.cellsOf el - 1, by omega⟩
    ·rename_i ht
     have := (aggO_spec ht w).2.2
     exact ⟨P.cellsOf el - 1, by omega⟩
    ·cases hK
   obtain ⟨c, hc⟩ := hsz
   obtain ⟨r, v, h1, h2, h3⟩ := exPart_ok (P := P) hK hvs w
   refine ⟨r, v, fun w' hw => ?_, h2, h3⟩
   have h4 := h1 w' hw
   rw [hc] at h4
   simp [Instr.index, asIntOf, run_underlying hd, show q < n by omega, run_sizeOf hc, h4]
  ·cases h
 ·cases h
theorem exCap_ok {t : TypeId} {s : Sc} {V : Value} {K : Int → Option R} (h : exCap P t s K = some x) (hs : RepSc (en w β F H) s V) (ty : TypeId) (ts : Array TypeId) (ht : ts[0]? = some t) :
  ∃ n, Stays P (Builtin.cap_ ts ty #[V]) w (.int .i64 n) ∧ K n = some x := by
 unfold exCap at h
 split at h
 ·rename_i hd
  obtain rfl : V = _ := hs
  exact ⟨_, fun w _ => by simp [Builtin.cap_, ht, run_underlying hd, goInt], h⟩
 ·cases h
theorem exLen_ok {t : TypeId} {s : Sc} {V : Value} {K : Int → Option R} (h : exLen P t H s K = some x) (ok : HeapOk w β F H) (hs : RepSc (en w β F H) s V) (ty : TypeId) (ts : Array TypeId) (ht : ts[0]? = some t) :
  ∃ n, Stays P (Builtin.len_ ts ty #[V]) w (.int .i64 n) ∧ K n = some x := by
 unfold exLen at h
 split at h
 ·rename_i s hd
  obtain rfl : V = .string s := hs
  exact ⟨_, fun w _ => by simp [Builtin.len_, ht, run_underlying hd, goInt], h⟩
 ·rename_i hd
  obtain ⟨_, _, A, C, rfl, _⟩ := hs
  exact ⟨_, fun w _ => by simp [Builtin.len_, ht, run_underlying hd, goInt], h⟩
 ·rename_i hd
  obtain ⟨A, C, rfl, _⟩ := hs
  exact ⟨_, fun w _ => by simp [Builtin.len_, ht, run_underlying hd, goInt], h⟩
 ·rename_i hd
  obtain ⟨A, C, rfl, _⟩ := hs
  exact ⟨_, fun w _ => by simp [Builtin.len_, ht, run_underlying hd, goInt], h⟩
 ·rename_i hd
  obtain ⟨A, rfl⟩ := hs
  exact ⟨_, fun w _ => by simp [Builtin.len_, ht, run_underlying hd, goInt], h⟩
 ·rename_i hd
  obtain rfl : V = _ := hs
  exact ⟨_, fun w _ => by simp [Builtin.len_, ht, run_underlying hd, goInt], h⟩
 ·rename_i hd
  obtain rfl : V = _ := hs
  exact ⟨_, fun w _ => by simp [Builtin.len_, ht, run_underlying hd, goInt], h⟩
 ·rename_i r hd
  obtain ⟨hr, rfl⟩ := hs
  split at h
  ·rename_i ks vs ka va l hH
   obtain ⟨es, clock, hb, hent, _⟩ := ok.obj r _ hH
   have hlen : es.size = l.length := by
    rw [← Array.length_toList]
    clear h hb hH
    generalize es.toList = es at hent
    induction l generalizing es with
    | nil => rw [show es = [] from hent]; rfl
    | cons p l ih =>
     obtain ⟨y, r', rfl, _, _, h5⟩ := hent
     simp [ih r' h5]
   have hb' : w.heap[(β r).b]? = some (.map es clock) := hb
   exact ⟨_, fun w hw => by simp [Builtin.len_, ht, run_underlying hd, goInt, getObj, Sem.run, en, hw _ _ hb', hlen], h⟩
  ·cases h
 ·rename_i hd
  exact ⟨_, fun w _ => by simp [Builtin.len_, ht, run_underlying hd, goInt], h⟩
 ·rename_i arr hd
  split at h
  ·rename_i hd2
   exact ⟨_, fun w _ => by simp [Builtin.len_, ht, run_underlying hd, run_underlying hd2, goInt], h⟩
  ·cases h
 ·cases h
/-! ### slice expressions -/
def OptRep (o : Option Int) (v : Option Value) : Prop := match o, v with
 | none, none => True
 | some n, some V => ∃ k, V = .int k n
 | _, _ => False
theorem optI_ok (h : Rel w β F H fr a) {o : Option Operand} {r : Option Int} (ho : optI fr o = some r) : OptRep r (o.map a.eval) := by
 unfold optI at ho
 split at ho
 ·cases ho; trivial
 ·rename_i y
  split at ho
  ·rename_i k n hn
   cases ho
   exact ⟨k, evalS_eq h hn⟩
  ·cases ho
theorem exLow_ok {K : Nat → Nat → Nat → Option R} {lo : Option Int} {vl : Option Value} {hN m : Nat} (h : exLow K lo hN m = some x) (hl : OptRep lo vl) (code : BoundsCode) :
  ∃ l, (∀ w, (match vl with | some v => Instr.sliceBound v hN code | none => pure 0 : Sem Nat).run P w = .ok l w) ∧ K l hN m = some x ∧ l ≤ hN := by
 cases lo with
 | none =>
  cases vl with
  | none => exact ⟨0, fun _ => rfl, h, Nat.zero_le _⟩
  | some _ => exact hl.elim
 | some l =>
  cases vl with
  | none => exact hl.elim
  | some v =>
   obtain ⟨k, rfl⟩ := hl
   obtain ⟨hb, hk⟩ := br_none h
   obtain ⟨h0, h1⟩ := leB_spec hb
   exact ⟨l.toNat, fun w => run_sliceBound (P := P) (w := w) k l hN _ h0 h1, hk, by omega⟩
theorem exHigh_ok {len : Nat} {K : Nat → Nat → Nat → Option R} {lo hi : Option Int} {vl vh : Option Value} {m M : Nat} (h : exHigh len K lo hi m = some x) (hl : OptRep lo vl) (hh : OptRep hi vh)
  (hm : m ≤ M) (hlen : hi = none → len ≤ m) (code code' : BoundsCode) :
  ∃ l hN, (∀ w, (match vh with | some v => Instr.sliceBound v M code' | none => pure len : Sem Nat).run P w = .ok hN w) ∧
   (∀ w, (match vl with | some v => Instr.sliceBound v hN code | none => pure 0 : Sem Nat).run P w = .ok l w) ∧ K l hN m = some x ∧ l ≤ hN ∧ hN ≤ m := by
 cases hi with
 | none =>
  cases vh with
  | some _ => exact hh.elim
  | none =>
   obtain ⟨l, h1, h2, h3⟩ := exLow_ok (P := P) h hl code
   exact ⟨l, len, fun _ => rfl, h1, h2, h3, hlen rfl⟩
 | some q =>
  cases vh with
  | none => exact hh.elim
  | some v =>
   obtain ⟨k, rfl⟩ := hh
   obtain ⟨hb, h⟩ := br_none h
   obtain ⟨h0, h1⟩ := leB_spec hb
   obtain ⟨l, h2, h3, h4⟩ := exLow_ok (P := P) h hl code
   exact ⟨l, q.toNat, fun w => run_sliceBound (P := P) (w := w) k q M _ h0 (by omega), h2, h3, h4, by omega⟩
theorem exBounds_ok {len cap C : Nat} {lo hi mx : Option Int} {K : Nat → Nat → Nat → Option R} {vl vh vm : Option Value} (h : exBounds len cap lo hi mx K = some x)
  (hl : OptRep lo vl) (hh : OptRep hi vh) (hm : OptRep mx vm) (hC : cap ≤ C) (hlen : len ≤ cap) (isl : Bool) :
  ∃ l hN m M, (∀ w, (Instr.sliceBounds isl len C vl vh vm).run P w = .ok (l, hN, M) w) ∧ K l hN m = some x ∧ l ≤ hN ∧ hN ≤ m ∧ m ≤ cap ∧ m ≤ M ∧ M ≤ C ∧ (hi = none → hN = len) ∧ (mx = none → m = cap) := by
 unfold exBounds at h
 cases mx with
 | none =>
  cases vm with
  | some _ => exact hm.elim
  | none =>
   obtain ⟨l, hN, h1, h2, h3, h4, h5⟩ := exHigh_ok (P := P) h hl hh hC (fun _ => hlen) .sliceB (if isl then .sliceAcap else .sliceAlen)
   refine ⟨l, hN, cap, C, ?_, h3, h4, h5, Nat.le_refl _, hC, Nat.le_refl _, fun hi0 => ?_, fun _ => rfl⟩
   ·cases vl <;> cases vh <;> simp_all [Instr.sliceBounds]
   ·subst hi0
    cases vh with
    | none => simpa using (h1 default).symm
    | some _ => exact hh.elim
 | some mI =>
  cases vm with
  | none => exact hm.elim
  | some vmv =>
   obtain ⟨km, rfl⟩ := hm
   cases hi with
   | none => cases h
   | some q =>
    obtain ⟨hb, h⟩ := br_none h
    obtain ⟨m0, m1⟩ := leB_spec hb
    obtain ⟨l, hN, h1, h2, h3, h4, h5⟩ := exHigh_ok (P := P) h hl hh (Nat.le_refl _) (fun h => (nomatch h)) .slice3C .slice3B
    have hm' := fun w => run_sliceBound (P := P) (w := w) km mI C (if isl then .slice3Acap else .slice3Alen) m0 (by omega)
    refine ⟨l, hN, mI.toNat, mI.toNat, ?_, h3, h4, h5, by omega, Nat.le_refl _, by omega, fun h => (nomatch h), fun h => (nomatch h)⟩
    cases vh with
    | none => exact hh.elim
    | some v => cases vl <;> simp_all [Instr.sliceBounds]
theorem addN_eq (a b : Nat) : addN a b = a + b := by cases a <;> cases b <;> simp [addN]
theorem sl_piece {e : En} {r o z l0 : Nat} {A : Option Addr} {C l hN m M : Nat} (hr : r < e.n)
  (hA : 0 < C → A = some (addr e r (o + l0 * z)) ∧ (e.β r).k ∧ ∃ c t fz, e.w.heap[(e.β r).b]? = some (.cells c t fz) ∧ (e.β r).o + o + (l0 + C) * z ≤ c.size)
  (h1 : l ≤ hN) (h2 : hN ≤ m) (h4 : m ≤ M) (h5 : M ≤ C) {cap' : Option Nat} (hcap : capOf (hN - l) cap' = m - l) {sz : Nat} (hz : sz = z) :
  RepSc e (.sl r o z (addN l0 l) (hN - l) cap') (.slice (if M = l then A else A.map (·.add (l * sz))) (hN - l) (M - l)) := by
 refine ⟨hr, by rw [hcap]; omega, _, _, rfl, by rw [hcap]; omega, fun h0 => ?_⟩
 obtain ⟨rfl, hv, c, t, fz, hc, hs⟩ := hA (by omega)
 rw [if_neg (by omega)]
 subst hz
 refine ⟨by simp only [Option.map_some]; rw [addr_add, addN_eq, Nat.add_mul, Nat.add_assoc], hv, c, t, fz, hc, ?_⟩
 rw [addN_eq]
 refine Nat.le_trans (Nat.add_le_add_left (Nat.mul_le_mul_right _ ?_) _) hs
 omega
theorem sliceAt_slice {t e : TypeId} (hd : P.underlying t = some (.slice e)) (V : Value) (lo hi mx : Option Value) (w : World) : (Instr.sliceAt t V lo hi mx).run P w = (Instr.slice t V lo hi mx).run P w := by
 simp [Instr.sliceAt, run_underlying hd]
theorem isl_piece {e : En} {s : Sh} {l0 : List s.T} {A : Option Addr} {C l hN M : Nat} (hC : l0.length ≤ C)
  (hA : l0 ≠ [] → ∃ ad, A = some ad ∧ ¬ e.av ad.block ∧ RowAt e.w (RepT e.w e.av s) s.size ad l0) (h1 : l ≤ hN) (h2 : hN ≤ l0.length) (h3 : l0.length ≤ M) {sz : Nat} (hz : sz = s.size) :
  RepSc e (.isl s (sub l0 l (hN - l))) (.slice (if M = l then A else A.map (·.add (l * sz))) (hN - l) (M - l)) := by
 have hlen : (sub l0 l (hN - l)).length = hN - l := by simp [sub]; omega
 refine ⟨_, _, by rw [hlen], by rw [hlen]; omega, fun hne => ?_⟩
 have hpos : 0 < hN - l := by rw [← hlen]; exact List.length_pos_iff.2 hne
 obtain ⟨ad, rfl, hav, hsp, c, t, fz, hc, hel⟩ := hA (by intro e; subst e; simp at h2; omega)
 rw [if_neg (by omega)]
 subst hz
 refine ⟨ad.add (l * s.size), rfl, by rw [add_block]; exact hav, add_spot hsp _, c, t, fz, by rw [add_block]; exact hc, fun i y hy => ?_⟩
 obtain ⟨vs, h5, h6, h7⟩ := hel (l + i) y (by
  have hi := (List.getElem?_eq_some_iff.1 hy).1
  rw [hlen] at hi
  unfold sub at hy
  rw [List.getElem?_take_of_lt hi, List.getElem?_drop] at hy
  exact hy)
 refine ⟨vs, h5, h6, fun j v hj => ?_⟩
 have := h7 j v hj
 rw [Nat.add_mul] at this
 rw [add_off, show ad.off + l * s.size + i * s.size + j = ad.off + (l * s.size + i * s.size) + j by omega]
 exact this
theorem exSlice_ok {t : TypeId} {s : Sc} {V : Value} {lo hi mx : Option Int} {vl vh vm : Option Value} {K : Sc → Option R} (h : exSlice P t H s lo hi mx K = some x) (ok : HeapOk w β F H) (hs : RepSc (en w β F H) s V)
  (hl : OptRep lo vl) (hh : OptRep hi vh) (hm : OptRep mx vm) :
  ∃ r v, Stays P (Instr.sliceAt t V vl vh vm) w v ∧ RepSc (en w β F H) r v ∧ K r = some x := by
 unfold exSlice at h
 split at h
 ·-- a string
  rename_i s hd
  obtain rfl : V = .string s := hs
  split at h
  ·cases vm with
   | some _ => exact hm.elim
   | none =>
    obtain ⟨l, hN, m, M, h1, h2, h3, h4, _⟩ := exBounds_ok (P := P) h hl hh hm (Nat.le_refl _) (Nat.le_refl _) false
    exact run_mk h2 rfl (fun w _ => by simp [Instr.sliceAt, run_underlying hd, Instr.slice, h1])
  ·cases h
 ·-- a slice of an object
  rename_i el r o z l0 len cap hd
  obtain ⟨hr, hlen, A, C, rfl, hC, hA⟩ := id hs
  split at h
  ·cases h
  ·rename_i sz hsz
   obtain ⟨hz, hk⟩ := bif_none h
   have hz := Nat.eq_of_beq_eq_true hz
   obtain ⟨l, hN, m, M, h1, h2, h3, h4, h5, h6, h7, h8, h9⟩ := exBounds_ok (P := P) hk hl hh hm hC hlen true
   refine run_mk h2 (sl_piece (cap' := newCap cap hi mx l m) hr hA h3 h4 h6 h7 ?_ hz) (fun w _ => by rw [sliceAt_slice hd]; simp [Instr.slice, run_underlying hd, h1, run_sizeOf hsz])
   unfold newCap
   split
   ·cases cap with
    | none => simp [capOf, h8 rfl, h9 rfl]
    | some c => simp [capOf, h9 rfl]
   ·rfl
 ·-- a list
  rename_i el s l0 hd
  obtain ⟨A, C, rfl, hC, hA⟩ := id hs
  split at h
  ·rename_i sz hsz
   obtain ⟨hz, hk⟩ := bif_none h
   have hz := Nat.eq_of_beq_eq_true hz
   obtain ⟨l, hN, m, M, h1, h2, h3, h4, h5, h6, h7, _, h9⟩ := exBounds_ok (P := P) hk hl hh hm hC (Nat.le_refl _) true
   have hm' : m = l0.length := h9 rfl
   exact run_mk h2 (isl_piece (M := M) hC hA h3 (by omega) (by omega) hz) (fun w _ => by rw [sliceAt_slice hd]; simp [Instr.slice, run_underlying hd, h1, run_sizeOf hsz])
  ·cases h
 ·rename_i el hd
  obtain rfl : V = _ := hs
  split at h
  ·cases h
  ·rename_i sz hsz
   obtain ⟨l, hN, m, M, h1, h2, h3, h4, h5, h6, h7, _⟩ := exBounds_ok (P := P) h hl hh hm (Nat.le_refl _) (Nat.le_refl _) true
   obtain ⟨rfl, rfl, rfl⟩ : l = 0 ∧ hN = 0 ∧ M = 0 := ⟨by omega, by omega, by omega⟩
   exact run_mk (r := .nils) h2 rfl (fun w _ => by rw [sliceAt_slice hd]; simp [Instr.slice, run_underlying hd, h1, run_sizeOf hsz])
 ·rename_i el hd
  obtain ⟨A, rfl⟩ := hs
  split at h
  ·cases h
  ·rename_i sz hsz
   obtain ⟨l, hN, m, M, h1, h2, h3, h4, h5, h6, h7, _⟩ := exBounds_ok (P := P) h hl hh hm (Nat.le_refl _) (Nat.le_refl _) true
   obtain ⟨rfl, rfl, rfl⟩ : l = 0 ∧ hN = 0 ∧ M = 0 := ⟨by omega, by omega, by omega⟩
   exact run_mk (r := .emp) h2 ⟨A, rfl⟩ (fun w _ => by rw [sliceAt_slice hd]; simp [Instr.slice, run_underlying hd, h1, run_sizeOf hsz])
 ·-- an array
  rename_i n el r o hd
  obtain ⟨hr, rfl⟩ := hs
  split at h
  ·rename_i z sg hsz hH
   obtain ⟨hc, hk⟩ := bif_none h
   rw [Bool.and_eq_true] at hc
   have hle : o + n * (z + 1) ≤ segsSize sg := Nat.le_of_ble_eq_true hc.1
   have hn0 : 0 < n := by simpa using hc.2
   have hpos : 0 < n * (z + 1) := Nat.mul_pos hn0 (Nat.succ_pos _)
   obtain ⟨c, ty, vs, pre, post, hcell, hcl, hpre, hvs, hvl, _⟩ := obj_cells ok hH (by omega)
   obtain ⟨l, hN, m, M, h1, h2, h3, h4, h5, h6, h7, _⟩ := exBounds_ok (P := P) hk hl hh hm (Nat.le_refl _) (Nat.le_refl _) false
   have := sl_piece (e := en w β F H) (r := r) (o := o) (z := z + 1) (l0 := 0) (A := some (addr (en w β F H) r o)) (C := n) (cap' := some (m - l)) hr (fun _ => ⟨by simp, obj_k ok hH (by omega), c, ty, (0, 0), hcell, by
    have hsz : c.size = pre.length + vs.length + post.length := by rw [← Array.length_toList, hcl]; simp; omega
    rw [Nat.zero_add, hsz]
    have : (en w β F H).β r = β r := rfl
    rw [this]
    omega⟩) h3 h4 h6 h7 rfl rfl
   have h0 : addN 0 l = l := by cases l <;> rfl
   rw [h0] at this
   exact run_mk h2 this (fun w _ => by simp [Instr.sliceAt, run_underlying hd, h1, run_sizeOf hsz, Instr.sureAddr]; split <;> rfl)
  ·cases h
 ·cases h
theorem exClip_ok {t : TypeId} {s : Sc} {V : Value} {K : Sc → Option R} {e : En} (h : exClip P t s K = some x) (hs : RepSc e s V) {kh km : IntKind} (w : World) :
  ∃ r v, Stays P (Instr.sliceAt t V none (some (.int kh 0)) (some (.int km 0))) w v ∧ RepSc e r v ∧ K r = some x := by
 have hb : ∀ len C w, (Instr.sliceBounds true len C none (some (.int kh 0)) (some (.int km 0))).run P w = .ok (0, 0, 0) w := fun len C w => by
  have h1 := run_sliceBound (P := P) (w := w) km 0 C .slice3Acap (by omega) (by omega)
  have h2 := run_sliceBound (P := P) (w := w) kh 0 0 .slice3B (by omega) (by omega)
  simp [Instr.sliceBounds, h1, h2]
 unfold exClip at h
 split at h
 ·rename_i el hd
  split at h
  ·cases h
  ·rename_i sz hsz
   split at h
   ·obtain ⟨_, _, A, C, rfl, _⟩ := hs
    exact run_mk (r := .emp) h ⟨A, rfl⟩ (fun w _ => by rw [sliceAt_slice hd]; simp [Instr.slice, run_underlying hd, hb, run_sizeOf hsz])
   ·obtain ⟨A, C, rfl, _⟩ := hs
    exact run_mk (r := .emp) h ⟨A, rfl⟩ (fun w _ => by rw [sliceAt_slice hd]; simp [Instr.slice, run_underlying hd, hb, run_sizeOf hsz])
   ·obtain ⟨A, rfl⟩ := hs
    exact run_mk (r := .emp) h ⟨A, rfl⟩ (fun w _ => by rw [sliceAt_slice hd]; simp [Instr.slice, run_underlying hd, hb, run_sizeOf hsz])
   ·obtain rfl : V = _ := hs
    exact run_mk (r := .nils) h rfl (fun w _ => by rw [sliceAt_slice hd]; simp [Instr.slice, run_underlying hd, hb, run_sizeOf hsz])
   ·cases h
 ·cases h
end
end Go.Gx

namespace Go.Gx
section
variable {R : Type} {P : Program} {w : World} {β : Nat → Loc} {F : Nat → Prop} {H : Heap} {fr : Fr} {a : Act} {x : R}
/-! ### noughts -/
theorem scMatch_rep {e : En} {y : Sc} {v : Value} (h : scMatch y v = true) : RepSc e y v ∧ v.oneCell' = true := by
 unfold scMatch at h
 split at h
 ·simp at h; obtain ⟨rfl, rfl⟩ := h; exact ⟨rfl, rfl⟩
 ·simp at h; subst h; exact ⟨rfl, rfl⟩
 ·simp at h; subst h; exact ⟨rfl, rfl⟩
 ·rename_i s l
  have : l = [] := by cases l <;> simp_all
  subst this
  exact ⟨⟨none, 0, rfl, Nat.le_refl _, fun h => absurd rfl h⟩, rfl⟩
 ·exact ⟨rfl, rfl⟩
 ·exact ⟨rfl, rfl⟩
 ·exact ⟨rfl, rfl⟩
 ·exact ⟨rfl, rfl⟩
 ·exact ⟨.inl ⟨of_decide_eq_true h, rfl⟩, rfl⟩
 ·exact ⟨.inl ⟨of_decide_eq_true h, rfl⟩, rfl⟩
 ·cases h
theorem scsMatch_rep {e : En} : ∀ {cs : List Sc} {vs r : List Value}, scsMatch cs vs = some r → ∃ u, vs = u ++ r ∧ RepScs e cs u
 | [], vs, r, h => by cases h; exact ⟨[], rfl, rfl⟩
 | y :: cs, v :: vs, r, h => by
  simp only [scsMatch] at h
  obtain ⟨h1, h2⟩ := bif_none h
  obtain ⟨u, rfl, h3⟩ := scsMatch_rep (e := e) h2
  obtain ⟨h4, h5⟩ := scMatch_rep (e := e) h1
  exact ⟨v :: u, rfl, v, u, rfl, h5, h4, h3⟩
 | y :: cs, [], r, h => by cases h
theorem RepT.of_enc {e : En} : ∀ (s : Sh) (y : s.T) (vs : List Value), RepScs e (Gx.enc s y) vs → RepT e.w e.av s y vs
 | .int k, y, vs, h => by obtain ⟨V, v, rfl, _, h1, h2⟩ := h; rw [show v = [] from h2, show V = _ from h1]; rfl
 | .bool, y, vs, h => by obtain ⟨V, v, rfl, _, h1, h2⟩ := h; rw [show v = [] from h2, show V = _ from h1]; rfl
 | .str, y, vs, h => by obtain ⟨V, v, rfl, _, h1, h2⟩ := h; rw [show v = [] from h2, show V = _ from h1]; rfl
 | .isl s, y, vs, h => by
  obtain ⟨V, v, rfl, _, h1, h2⟩ := h
  rw [show v = [] from h2]
  exact ⟨V, rfl, h1⟩
 | .pair a b, y, vs, h => by
  obtain ⟨u, v, rfl, h1, h2⟩ := RepScs.split h
  exact ⟨u, v, rfl, RepT.of_enc a _ _ h1, RepT.of_enc b _ _ h2⟩
 | .unit, _, vs, h => h
 | .ref _ _, y, vs, h => by
  obtain ⟨V, v, rfl, _, h1, h2⟩ := h
  rw [show v = [] from h2]
  exact ⟨V, rfl, h1⟩
theorem rowMatch_rep {e : En} {s : Sh} : ∀ {l : List s.T} {vs r : List Value}, rowMatch s l vs = some r → ∃ u, vs = u ++ r ∧ RepRow e.w e.av s l u
 | [], vs, r, h => by cases h; exact ⟨[], rfl, rfl⟩
 | y :: l, vs, r, h => by
  simp only [rowMatch] at h
  split at h
  ·rename_i r1 h1
   obtain ⟨u, rfl, h2⟩ := scsMatch_rep (e := e) h1
   obtain ⟨v, rfl, h3⟩ := rowMatch_rep h
   exact ⟨u ++ v, by simp, u, v, rfl, RepT.of_enc s y u h2, h3⟩
  ·cases h
theorem cellMatch_rep {e : En} : ∀ {l : List Seg} {vs : List Value}, cellMatch l vs = true → RepSegs e l vs
 | [], [], _ => rfl
 | [], _ :: _, h => by simp [cellMatch] at h
 | .c y :: r, [], h => by simp [cellMatch] at h
 | .c y :: r, v :: vs, h => by
  simp only [cellMatch, Bool.and_eq_true] at h
  obtain ⟨h1, h2⟩ := scMatch_rep (e := e) h.1
  exact ⟨v, vs, rfl, h2, h1, cellMatch_rep h.2⟩
 | .row s n l :: r, vs, h => by
  have h : (bif Nat.beq l.length n then match rowMatch s l vs with
   | some t => cellMatch r t
   | none => false
   else false) = true := by cases vs <;> exact h
  cases hb : Nat.beq l.length n with
  | false => rw [hb] at h; cases h
  | true =>
   rw [hb] at h
   simp only [cond_true] at h
   split at h
   ·rename_i t ht
    obtain ⟨u, rfl, h1⟩ := rowMatch_rep (e := e) ht
    rename_i h2
    exact ⟨Nat.eq_of_beq_eq_true hb, u, t, rfl, h1, cellMatch_rep h2⟩
   ·cases h
theorem zeroOf_spec {t : TypeId} {l : List Seg} (h : zeroOf P t = some l) : ∃ i z, P.info? t = some i ∧ i.zero = some z ∧ (∀ e : En, RepSegs e l z.cells.toList) ∧ segsSize l = i.size := by
 unfold zeroOf at h
 split at h
 ·rename_i l' i hl hi
  split at h
  ·rename_i z hz
   obtain ⟨hb, h⟩ := bif_none h
   cases h
   rw [Bool.and_eq_true] at hb
   exact ⟨i, z, hi, hz, fun e => cellMatch_rep hb.1, Nat.eq_of_beq_eq_true hb.2⟩
  ·cases h
 ·cases h
theorem run_zero {t : TypeId} {i : TypeInfo} {z : Value} (hi : P.info? t = some i) (hz : i.zero = some z) (w : World) : (zeroValue t).run P w = .ok z w := by
 simp [zeroValue, run_info hi, hz]
theorem elemOf_spec {t : TypeId} {s : Sh} (h : elemOf P t = some s) : ∃ i z, P.info? t = some i ∧ i.zero = some z ∧ (∀ e : En, RepT e.w e.av s s.zero z.cells.toList) ∧ s.size = i.size ∧ 0 < s.size ∧ z.cells.size = s.size := by
 unfold elemOf at h
 split at h
 ·rename_i s' i hs hi
  split at h
  ·rename_i z hz
   obtain ⟨hb, h⟩ := bif_none h
   cases h
   simp only [Bool.and_eq_true] at hb
   obtain ⟨⟨h1, h2⟩, h3⟩ := hb
   have hr : ∀ e : En, RepT e.w e.av s s.zero z.cells.toList := fun e => by
    obtain ⟨_, u, v, e1, ⟨u1, u2, rfl, h4, h5⟩, h6⟩ := cellMatch_rep (e := e) h1
    rw [e1, show u2 = [] from h5, show v = [] from h6]
    simpa using h4
   refine ⟨i, z, hi, hz, hr, Nat.eq_of_beq_eq_true h2, by simpa using h3, ?_⟩
   have := (hr ⟨default, fun _ => .mk3 0 0 False, fun _ => False, fun _ => False, fun _ => none, 0, fun _ _ _ _ _ => False, fun _ => 0⟩).size
   simpa using this
  ·cases h
 ·cases h
/-! ### new variables -/
theorem cells_of_rep {e : En} {v : SV} {V : Value} (h : RepSV e v V) (h1 : ∀ y, v = .v y → V.oneCell' = true) : RepSegs e (svSegs v) V.cells.toList := by
 cases v with
 | agg l => obtain ⟨vs, rfl, hl⟩ := h; simpa [Value.cells, svSegs] using hl
 | v y =>
  have hV := h1 y rfl
  have : V.cells = #[V] := by cases V <;> first | rfl | (simp [Value.oneCell'] at hV)
  rw [this]
  exact ⟨V, [], rfl, hV, h, rfl⟩
theorem RepSc.one {e : En} {y : Sc} {V : Value} (h : RepSc e y V) (hy : y ≠ .undef) : V.oneCell' = true := by
 cases y with
 | int | bool | str | nilp | nils | nilm | nilf => rw [show V = _ from h]; rfl
 | ptr | el | map => obtain ⟨_, rfl⟩ := h; rfl
 | eptr => obtain ⟨_, _, _, _, rfl⟩ := h; rfl
 | sl => obtain ⟨_, _, _, _, rfl, _⟩ := h; rfl
 | wl => obtain ⟨_, _, _, _, rfl, _⟩ := h; rfl
 | isl => obtain ⟨_, _, rfl, _⟩ := h; rfl
 | emp => obtain ⟨_, rfl⟩ := h; rfl
 | fn => obtain ⟨_, rfl⟩ := h; rfl
 | undef => exact absurd rfl hy
 | rf => exact RefV.one h
 | pi => obtain ⟨_, _, _, _, _, rfl⟩ := h; rfl
 | ps => obtain ⟨_, _, rfl, _⟩ := h; rfl
theorem sup_alloc (w : World) (o : Go.Obj) : Sup w (w.alloc o) := fun b p h => by rw [heap_alloc_old (lt_of_heap h)]; exact h
theorem alloc_ok (ok : HeapOk w β F H) (t : TypeId) {sg : List Seg} {V : Value} (hs : RepSegs (en w β F H) sg V.cells.toList) {K : Slot → Heap → Option R}
  (hK : K (.sv (.v (.ptr H.length 0))) (H ++ [.cells sg]) = some x) :
  ∃ w', (newVar t V).run P w = .ok ⟨w.heap.size, 0, none⟩ w' ∧ Sup w w' ∧ Res w β F H x K (.pointer (some ⟨w.heap.size, 0, none⟩)) w' := by
 obtain ⟨h1, h2⟩ := new_cells ok t hs (.inl rfl)
 exact ⟨w.alloc (.cells V.cells t), by simp [newVar, newRow], sup_alloc w _, .sv (.v (.ptr H.length 0)), _, _, h1, h2, ⟨by simp [en], by simp [addr, en, upd_eq]⟩, hK⟩
/-! ### stores -/
theorem obj_store (ok : HeapOk w β F H) {r : Nat} {sg sg' : List Seg} (hH : H[r]? = some (.cells sg)) {us : List Value} {off : Nat}
  (hvs : ∀ vs : List Value, RepSegs (en w β F H) sg vs → ∃ u m t : List Value, vs = u ++ (m ++ t) ∧ u.length = off ∧ m.length = us.length ∧ RepSegs (en w β F H) sg' (u ++ (us ++ t)))
  (hone : ∀ v ∈ us, v.oneCell' = true) (h0 : 0 < segsSize sg) :
  ∃ w', (storeCells (addr (en w β F H) r off) us).run P w = .ok () w' ∧ HeapOk w' β F (H.set r (.cells sg')) ∧ Ext (en w β F H) (en w' β F (H.set r (.cells sg'))) := by
 obtain ⟨c, ty, vs, pre, post, hc, hcl, hpre, hrep, hlen, _⟩ := obj_cells ok hH h0
 obtain ⟨u, m, t, rfl, hu, hm, hrep'⟩ := hvs vs hrep
 have hpre' : pre.length = (β r).o := hpre
 have hcs : c.size = pre.length + (u ++ (m ++ t)).length + post.length := by rw [← Array.length_toList, hcl]; simp; omega
 have hrun := run_storeCells_of (P := P) (a := addr (en w β F H) r off) (t := ty) rfl us 0 w c hc (by
  simp only [addr, en, List.length_append] at *; omega) hone
 have hspl := splice_list us c ((β r).o + off) (pre ++ u) m (t ++ post) (by rw [hcl]; simp) (by simp; omega) hm
 have hoff : (addr (en w β F H) r off).off + 0 = (β r).o + off := rfl
 rw [hoff] at hrun
 have hbl : (addr (en w β F H) r off).block = (β r).b := rfl
 rw [hbl] at hrun
 have hb : (β r).b < w.heap.size := lt_of_heap hc
 have h0' : segsSize sg' = segsSize sg := by
  have h1 := hrep'.len
  have h2 := hrep.len
  simp only [List.length_append] at h1 h2
  omega
 have hk : owns (β r) (.cells sg) := obj_k ok hH h0
 have hx : Ext (en w β F H) (en (setB w (β r).b (.cells (splice c ((β r).o + off) us) ty (0, 0))) β F (H.set r (.cells sg'))) :=
  ext_set hH hk (fun _ _ _ _ h => nomatch h) (fun m hm => by simpa [szO, h0'] using hm) size_setB (fun b hb' => heap_setB_other hb') ⟨rfl, rfl⟩ (fun c' t' f' h' => by rw [heap_setB_same hb] at h'; cases h'; rfl) fun c' t' f' h' => by
   rw [hc] at h'
   cases h'
   exact ⟨_, _, heap_setB_same hb, splice_size _ _ _⟩
 refine ⟨_, hrun, ok_set ok hH hk (fun _ _ _ _ h => nomatch h) size_setB (fun b hb' => heap_setB_other hb') hx ⟨u ++ (us ++ t), hrep'.mono hx, fun h => absurd hk h, fun _ => ?_⟩, hx⟩
 exact ⟨_, ty, pre, post, heap_setB_same hb, by rw [hspl]; simp, hpre⟩
theorem row_piece {e : En} {s : Sh} {l : List s.T} {rv : List Value} (hrow : RepRow e.w e.av s l rv) {ad : Addr} {c : Array Value} {t : TypeId} {f : Nat × Nat} (hs : ad.spot = none)
  (hc : e.w.heap[ad.block]? = some (.cells c t f)) {lo len base : Nat} (hcell : ∀ j v, rv[j]? = some v → c[base + j]? = some v) (hoff : ad.off = base + lo * s.size) :
  RowAt e.w (RepT e.w e.av s) s.size ad (sub l lo len) := by
 refine (hrow.sub lo len).rowAt hs hc fun j v hj => ?_
 have hlt := (List.getElem?_eq_some_iff.1 hj).1
 rw [List.length_take, List.length_drop] at hlt
 rw [List.getElem?_take_of_lt (by omega), List.getElem?_drop] at hj
 have := hcell _ v hj
 rw [hoff, Nat.add_assoc]
 exact this
theorem sub_length {α : Type} {l : List α} {lo len : Nat} (h : fits lo len l = true) : (sub l lo len).length = len := by
 have : lo + len ≤ l.length := by simpa [fits] using h
 simp [sub]; omega
def KeepsO (H H' : Heap) : Prop := ∀ (i : Nat) (o : Obj), H[i]? = some o → (∀ s n l, o ≠ .cells [.row s n l]) → H'[i]? = some o
theorem KeepsO.refl (H : Heap) : KeepsO H H := fun _ _ h _ => h
theorem KeepsO.trans {A B C : Heap} (h : KeepsO A B) (k : KeepsO B C) : KeepsO A C := fun i o hi ho => k i o (h i o hi ho) ho
theorem KeepsO.snoc {H : Heap} {o : Obj} : KeepsO H (H ++ [o]) := fun i p h _ => by rw [List.getElem?_append_left (lt_len h)]; exact h
theorem KeepsO.kill {H : Heap} {r n : Nat} {s : Sh} {l : List s.T} {o : Obj} (hH : H[r]? = some (.cells [.row s n l])) : KeepsO H (H.set r .dead ++ [o]) := fun i p h hp => by
 have hi : i < (H.set r .dead).length := by rw [List.length_set]; exact lt_len h
 rw [List.getElem?_append_left hi]
 have : r ≠ i := fun e => by subst e; rw [hH] at h; cases h; exact hp _ _ _ rfl
 rw [List.getElem?_set_ne this]
 exact h
theorem KeepsO.set {H : Heap} {r n : Nat} {s : Sh} {l : List s.T} {o : Obj} (hH : H[r]? = some (.cells [.row s n l])) : KeepsO H (H.set r o) := fun i p h hp => by
 have : r ≠ i := fun e => by subst e; rw [hH] at h; cases h; exact hp _ _ _ rfl
 rw [List.getElem?_set_ne this]
 exact h
/-! rows that are lists from now on -/
theorem RowAt.sub {α : Type} {w : World} {Q : α → List Value → Prop} {z : Nat} {ad ad' : Addr} {l : List α} (h : RowAt w Q z ad l) {lo len : Nat} (hb : ad'.block = ad.block) (ho : ad'.off = ad.off + lo * z) (hs : ad'.spot = none) : RowAt w Q z ad' (Gx.sub l lo len) := by
 obtain ⟨_, c, t, fz, hc, hl⟩ := h
 refine ⟨hs, c, t, fz, by rw [hb]; exact hc, fun i y hi => ?_⟩
 have hlt := (List.getElem?_eq_some_iff.1 hi).1
 simp only [Gx.sub, List.length_take, List.length_drop] at hlt
 have hi : l[lo + i]? = some y := by
  simp only [Gx.sub] at hi
  rw [List.getElem?_take_of_lt (by omega), List.getElem?_drop] at hi
  exact hi
 obtain ⟨vs, h1, h2, h3⟩ := hl (lo + i) y hi
 refine ⟨vs, h1, h2, fun j v hj => ?_⟩
 have := h3 j v hj
 rw [ho, Nat.add_assoc ad.off, ← Nat.add_mul]
 exact this
theorem ice_isl (ok : HeapOk w β F H) {r lo len : Nat} {s : Sh} {l : List s.T} {cap : Option Nat} {V : Value} (hH : H[r]? = some (.ice s l)) (hy : RepSc (en w β F H) (.sl r 0 s.size lo len cap) V) (hfit : fits lo len l = true) :
  RepSc (en w β F H) (.isl s (sub l lo len)) V := by
 obtain ⟨hr, hlen, A, C, rfl, hC, hA⟩ := hy
 have hsub := sub_length hfit
 refine ⟨A, C, by rw [hsub], by rw [hsub]; omega, fun hne => ?_⟩
 have hl0 : 0 < len := by rw [← hsub]; exact List.length_pos_iff.2 hne
 obtain ⟨rfl, _⟩ := hA (by omega)
 have hfit' : lo + len ≤ l.length := by simpa [fits] using hfit
 obtain ⟨hav, hrow⟩ := ok.obj r _ hH (by intro e; subst e; simp at hfit'; omega)
 exact ⟨_, rfl, hav, hrow.sub rfl (by simp [addr, en]) rfl⟩
theorem ext_ice {r n : Nat} {s : Sh} {l : List s.T} (hH : H[r]? = some (.cells [.row s n l])) (hn : l.length = n) : Ext (en w β F H) (en w β F (H.set r (.ice s l))) where
 n := by simp [en]
 β _ _ := rfl
 el _ _ _ _ := rfl
 size := Nat.le_refl _
 kept _ _ _ := rfl
 sub b _ hb := by
  obtain ⟨q, x, h1, h2⟩ := hb
  rcases get_set h1 with ⟨rfl, rfl⟩ | ⟨_, h4⟩
  ·exact h2.elim
  ·exact ⟨q, x, h4, h2⟩
 F := rfl
 sz q m _ h := by
  obtain ⟨o, h1, h2⟩ := szOf_some h
  rcases get_set h1 with ⟨rfl, e⟩ | ⟨_, h4⟩
  ·subst e
   refine (szOf_of hH).trans ?_
   simp only [szO, segsSize, segSize, Nat.add_zero] at h2 ⊢
   rw [← hn]
   exact h2
  ·exact (szOf_of h4).trans h2
 grow b c t f hb := ⟨c, f, hb, rfl⟩
 out := ⟨rfl, rfl⟩
 froz b c t f hb := .inr ⟨c, hb⟩
 pq := pq_set hH (fun _ _ _ _ h => nomatch h)
 pn q _ := pn_set hH (fun _ _ _ _ h => nomatch h) q
theorem ok_ice (ok : HeapOk w β F H) {r n : Nat} {s : Sh} {l : List s.T} (hH : H[r]? = some (.cells [.row s n l])) (hs0 : 0 < s.size) : HeapOk w β F (H.set r (.ice s l)) where
 obj q y hq := by
  have hn : l.length = n := by obtain ⟨vs, ⟨hn, _⟩, _⟩ := ok.obj r _ hH; exact hn
  rcases get_set hq with ⟨rfl, rfl⟩ | ⟨_, hq⟩
  ·intro hl
   have h0 : 0 < segsSize [Seg.row s n l] := by
    have : 0 < n * s.size := Nat.mul_pos (by rw [← hn]; exact List.length_pos_iff.2 hl) hs0
    simpa [segsSize, segSize] using this
   obtain ⟨c, ty, vs, pre, post, hc, hcl, hpre, ⟨_, rv, v', rfl, hrowr, hv'⟩, hvl, hcell⟩ := obj_cells ok hH h0
   obtain rfl : v' = [] := hv'
   have hnav : ¬ (en w β F (H.set q (.ice s l))).av (β q).b := by
    rintro (⟨q', y, h1, h2⟩ | hf)
    ·rcases get_set h1 with ⟨rfl, rfl⟩ | ⟨hne, h4⟩
     ·exact h2.elim
     ·exact hne (ok.injB q' q y _ _ h4 hH h2 ⟨obj_k ok hH h0, rfl⟩)
    ·exact (ok.lt q _ hH (obj_k ok hH h0)).2 hf
   refine ⟨hnav, ?_⟩
   have := row_piece (e := en w β F (H.set q (.ice s l))) (hrowr.mono (ext_ice hH hn).kp) (ad := addr (en w β F (H.set q (.ice s l))) q 0) (lo := 0) (len := l.length) rfl hc (base := (β q).o) (fun j v hj => hcell j v (by simpa using hj)) (by simp [addr, en])
   rw [show Gx.sub l 0 l.length = l by simp [Gx.sub]] at this
   exact this
  ·exact RepObj.keep ok (ext_ice hH hn) hq fun _ _ => rfl
 ltB q y b hq hy := by
  rcases get_set hq with ⟨rfl, rfl⟩ | ⟨_, hq⟩
  ·exact hy.elim
  ·exact ok.ltB q y b hq hy
 injB q q' y y' b hq hq' hy hy' := by
  rcases get_set hq with ⟨rfl, rfl⟩ | ⟨_, hq⟩
  ·exact hy.elim
  ·rcases get_set hq' with ⟨rfl, rfl⟩ | ⟨_, hq'⟩
   ·exact hy'.elim
   ·exact ok.injB q q' y y' b hq hq' hy hy'
 F := ok.F
 uni q q' k k' t s s' l l' hq hq' := by
  rcases get_set hq with ⟨_, h1⟩ | ⟨_, h1⟩
  ·cases h1
  ·rcases get_set hq' with ⟨_, h2⟩ | ⟨_, h2⟩
   ·cases h2
   ·exact ok.uni q q' k k' t s s' l l' h1 h2
def Dd (_ _ : Heap) : Prop := True
theorem Dd.refl (H : Heap) : Dd H H := trivial
theorem freeze0_ok (ok : HeapOk w β F H) {y : Sc} {K : Sc → Heap → Option R} {V : Value} (h : freeze0 H y K = some x) (hy : RepSc (en w β F H) y V) :
  ∃ y' H', K y' H' = some x ∧ HeapOk w β F H' ∧ Ext (en w β F H) (en w β F H') ∧ RepSc (en w β F H') y' V ∧ (y = .undef → y' = .undef) ∧ KeepsO H H' := by
 unfold freeze0 at h
 split at h
 ·rename_i r z lo len cap
  split at h
  ·rename_i s n l hH
   obtain ⟨hz, h1⟩ := bif_none h
   clear h
   rw [Bool.and_eq_true] at hz
   obtain rfl : z = s.size := Nat.eq_of_beq_eq_true hz.1
   have hs0 : 0 < s.size := by simpa using hz.2
   obtain ⟨hfit, hK⟩ := br_none h1
   rw [setHK_eq] at hK
   have hn : l.length = n := by obtain ⟨vs, ⟨hn, _⟩, _⟩ := ok.obj r _ hH; exact hn
   have ok' := ok_ice ok hH hs0
   exact ⟨_, _, hK, ok', ext_ice hH hn, ice_isl ok' (by rw [List.getElem?_set_self (lt_len hH)]) (RepSc.mono (ext_ice hH hn) _ _ hy) hfit, fun h => (nomatch h), .set hH⟩
  ·rename_i s l hH
   obtain ⟨hz, h1⟩ := bif_none h
   clear h
   rw [Bool.and_eq_true] at hz
   obtain rfl : z = s.size := Nat.eq_of_beq_eq_true hz.1
   obtain ⟨hfit, hK⟩ := br_none h1
   exact ⟨_, _, hK, ok, Ext.refl _, ice_isl ok hH hy hfit, fun h => (nomatch h), .refl _⟩
  ·cases h
 ·cases h
 ·exact ⟨y, H, h, ok, Ext.refl _, hy, fun h => h, .refl _⟩
theorem freeze1_ok (ok : HeapOk w β F H) {y : Sc} {K : Sc → Heap → Option R} {V : Value} (h : freeze1 H y K = some x) (hy : RepSc (en w β F H) y V) :
  ∃ y' H', K y' H' = some x ∧ HeapOk w β F H' ∧ Ext (en w β F H) (en w β F H') ∧ RepSc (en w β F H') y' V ∧ (y = .undef → y' = .undef) ∧ KeepsO H H' := by
 unfold freeze1 at h
 split at h
 ·exact ⟨_, H, h, ok, Ext.refl _, hy, fun e => (nomatch e), .refl _⟩
 ·obtain ⟨y', H', h1, h2, h3, h4, h5, h6⟩ := freeze0_ok ok h (widen_rep ok hy)
  exact ⟨y', H', h1, h2, h3, h4, fun e => h5 (by subst e; rfl), h6⟩
theorem freezeQ_ok {H0 : Heap} (_ok0 : HeapOk w β F H0) (ok : HeapOk w β F H) (hx : Ext (en w β F H0) (en w β F H)) (_hd : Dd H0 H) {y : Sc} {K : Sc → Heap → Option R} {V : Value} (h : freezeQ H0 H y K = some x)
  (hy : RepSc (en w β F H0) y V) : ∃ y' H', K y' H' = some x ∧ HeapOk w β F H' ∧ Ext (en w β F H) (en w β F H') ∧ RepSc (en w β F H') y' V ∧ Dd H0 H' := by
 obtain ⟨y', H', h1, h2, h3, h4, _⟩ := freeze1_ok ok h (RepSc.mono hx _ _ hy)
 exact ⟨y', H', h1, h2, h3, h4, trivial⟩
theorem freezeQL_ok {H0 : Heap} (ok0 : HeapOk w β F H0) : ∀ {cs : List Sc} {H : Heap} {K : List Sc → Heap → Option R} {vs : List Value}, HeapOk w β F H → Ext (en w β F H0) (en w β F H) → Dd H0 H → freezeQL H0 H cs K = some x → RepScs (en w β F H0) cs vs →
  ∃ cs' H', K cs' H' = some x ∧ HeapOk w β F H' ∧ Ext (en w β F H) (en w β F H') ∧ RepScs (en w β F H') cs' vs ∧ Dd H0 H'
 | [], H, K, vs, ok, _, hd, h, hr => by
  obtain rfl : vs = [] := hr
  exact ⟨[], H, h, ok, Ext.refl _, rfl, hd⟩
 | y :: cs, H, K, vs, ok, hx, hd, h, hr => by
  obtain ⟨V, v', rfl, h0, h1, h2⟩ := hr
  simp only [freezeQL] at h
  obtain ⟨y', H1, hK, ok1, hx1, hy1, hd1⟩ := freezeQ_ok ok0 ok hx hd h h1
  obtain ⟨cs', H2, hK2, ok2, hx2, hr2, hd2⟩ := freezeQL_ok ok0 ok1 (hx.trans hx1) hd1 hK h2
  exact ⟨y' :: cs', H2, hK2, ok2, hx1.trans hx2, ⟨V, v', rfl, h0, RepSc.mono hx2 _ _ hy1, hr2⟩, hd2⟩
theorem freezeL_ok : ∀ {cs : List Sc} {H : Heap} {K : List Sc → Heap → Option R} {vs : List Value}, HeapOk w β F H → freezeL H cs K = some x → RepScs (en w β F H) cs vs →
  ∃ cs' H', K cs' H' = some x ∧ HeapOk w β F H' ∧ Ext (en w β F H) (en w β F H') ∧ RepScs (en w β F H') cs' vs
 | [], H, K, vs, ok, h, hr => ⟨[], H, h, ok, Ext.refl _, hr⟩
 | y :: cs, H, K, vs, ok, h, hr => by
  obtain ⟨V, v', rfl, h0, h1, h2⟩ := hr
  simp only [freezeL] at h
  obtain ⟨y', H1, hK, ok1, hx1, hy1, _⟩ := freeze1_ok ok h h1
  obtain ⟨cs', H2, hK2, ok2, hx2, hr2⟩ := freezeL_ok ok1 hK (h2.mono hx1)
  exact ⟨y' :: cs', H2, hK2, ok2, hx1.trans hx2, V, v', rfl, h0, hy1.mono hx2, hr2⟩
theorem cells_size {e : En} {v : SV} {V : Value} (h : RepSegs e (svSegs v) V.cells.toList) : V.cells.size = segsSize (svSegs v) := by
 rw [← Array.length_toList, h.len]
theorem okSV_one {e : En} {v : SV} {V : Value} (h : RepSV e v V) (hv : okSV v = true) : RepSegs e (svSegs v) V.cells.toList := by
 refine cells_of_rep h fun y hy => ?_
 subst hy
 refine RepSc.one h fun hu => ?_
 subst hu
 cases hv
theorem run_storeVar {t : TypeId} {n : Nat} (hsz : (sizeOf t).run P w = .ok n w) {ad : Addr} {U : Value} (hU : U.cells.size = n) {w' : World} (h : (storeCells ad U.cells.toList).run P w = .ok () w') :
  (storeVar t ad U).run P w = .ok () w' := by
 simp [storeVar, hsz, hU, h]
/-! one of a pool's, changed -/
theorem ext_pset {w w' : World} {β : Nat → Loc} {F : Nat → Prop} {H : Heap} {r : Nat} {k : Bool} {t : Nat} {s : Sh} {l l' : List s.T} (h : H[r]? = some (.pool k t s l)) {i0 : Nat} (hi0 : i0 < l.length) (hl : l'.length = l.length)
  (hm : ∀ (i : Nat) (y y' : s.T), l[i]? = some y → l'[i]? = some y' → poolM k s y' = poolM k s y) (hsize : w'.heap.size = w.heap.size) (hoth : ∀ b, b ≠ (β r).e i0 → w'.heap[b]? = w.heap[b]?)
  (hout : w'.os = w.os ∧ w'.output = w.output) (hfroz : ∀ c t f, w'.heap[(β r).e i0]? = some (.cells c t f) → f = (0, 0))
  (hgrow : ∀ c t f, w.heap[(β r).e i0]? = some (.cells c t f) → ∃ c' f', w'.heap[(β r).e i0]? = some (.cells c' t f') ∧ c'.size = c.size) :
  Ext (en w β F H) (en w' β F (H.set r (.pool k t s l'))) where
 n := by simp [en]
 β _ _ := rfl
 el _ _ _ _ := rfl
 size := by simp [en, hsize]
 kept b _ hb := hoth b fun e => hb ⟨r, _, h, i0, hi0, e.symm⟩
 sub b _ hb := by
  obtain ⟨q, y, h1, h2⟩ := hb
  rcases get_set h1 with ⟨rfl, rfl⟩ | ⟨_, h4⟩
  ·obtain ⟨i, h3, h4⟩ := h2
   exact ⟨q, _, h, i, by omega, h4⟩
  ·exact ⟨q, y, h4, h2⟩
 F := rfl
 sz q m hq hs := by
  obtain ⟨l, h1, h2⟩ := szOf_some hs
  rcases get_set h1 with ⟨rfl, e⟩ | ⟨_, h4⟩
  ·subst e; cases h2
  ·exact (szOf_of h4).trans h2
 grow b c t f hb := by
  by_cases e : b = (β r).e i0
  ·subst e; exact hgrow c t f hb
  ·exact ⟨c, f, by simp only [en] at *; rw [hoth b e]; exact hb, rfl⟩
 out := hout
 froz b c t f hb := by
  by_cases e : b = (β r).e i0
  ·subst e; exact .inl (hfroz c t f hb)
  ·exact .inr ⟨c, by simp only [en] at *; rw [hoth b e] at hb; exact hb⟩
 pn q _ := by
  by_cases e : q = r
  ·subst e
   show pnOf H q ≤ pnOf _ q
   rw [pnOf_of h, pnOf_of (List.getElem?_set_self (lt_len h))]
   show l.length ≤ l'.length
   omega
  ·exact pn_keep fun o h => by rw [List.getElem?_set_ne (Ne.symm e)]; exact h
 pq r' t' i b m _ hp := by
  obtain ⟨k', s', l2, y, h1, h2, h3, h4⟩ := hp
  by_cases e : r' = r
  ·subst e
   rw [h] at h1
   cases h1
   have hi := (List.getElem?_eq_some_iff.1 h2).1
   have hi' : i < l'.length := by omega
   exact ⟨k, s, l', l'[i], List.getElem?_set_self (lt_len h), List.getElem?_eq_getElem hi', h3, by rw [h4]; exact (hm i y _ h2 (List.getElem?_eq_getElem hi')).symm⟩
  ·exact ⟨k', s', l2, y, by rw [List.getElem?_set_ne (Ne.symm e)]; exact h1, h2, h3, h4⟩
theorem ok_pset {w w' : World} {β : Nat → Loc} {F : Nat → Prop} {H : Heap} (ok : HeapOk w β F H) {r : Nat} {k : Bool} {t : Nat} {s : Sh} {l l' : List s.T} (h : H[r]? = some (.pool k t s l)) {i0 : Nat} (hi0 : i0 < l.length) (hl : l'.length = l.length)
  (hsize : w'.heap.size = w.heap.size) (hoth : ∀ b, b ≠ (β r).e i0 → w'.heap[b]? = w.heap[b]?) (hx : Ext (en w β F H) (en w' β F (H.set r (.pool k t s l'))))
  (ho : RepObj (en w' β F (H.set r (.pool k t s l'))) r (.pool k t s l')) : HeapOk w' β F (H.set r (.pool k t s l')) := by
 have hh : ∀ {b}, has (β r) (.pool k t s l') b → has (β r) (.pool k t s l) b := fun ⟨i, h1, h2⟩ => ⟨i, by omega, h2⟩
 refine ⟨fun q y hq => ?_, fun q y b hq hy => ?_, fun q q' y y' b hq hq' hy hy' => ?_, fun b hb => by rw [hsize]; exact ok.F b hb, fun q q' k1 k2 t1 s1 s2 l1 l2 hq hq' => ?_⟩
 ·rcases get_set hq with ⟨rfl, rfl⟩ | ⟨hne, hq⟩
  ·exact ho
  ·exact RepObj.keep ok hx hq fun b hy => hoth _ fun e => hne (ok.injB q r y _ b hq h hy ⟨i0, hi0, e.symm⟩)
 ·rw [hsize]
  rcases get_set hq with ⟨rfl, rfl⟩ | ⟨_, hq⟩
  ·exact ok.ltB q _ b h (hh hy)
  ·exact ok.ltB q y b hq hy
 ·rcases get_set hq with ⟨e, rfl⟩ | ⟨_, h2⟩ <;> rcases get_set hq' with ⟨e', rfl⟩ | ⟨_, h2'⟩
  ·rw [e, e']
  ·subst e; exact ok.injB q q' _ y' b h h2' (hh hy) hy'
  ·subst e'; exact ok.injB q q' y _ b h2 h hy (hh hy')
  ·exact ok.injB q q' y y' b h2 h2' hy hy'
 ·have hp : ∀ {q k1 t1} {s1 : Sh} {l1 : List s1.T}, (H.set r (Obj.pool k t s l'))[q]? = some (Obj.pool k1 t1 s1 l1) → ∃ (k2 : Bool) (s2 : Sh) (l2 : List s2.T), H[q]? = some (Obj.pool k2 t1 s2 l2) := fun hq => by
   rcases get_set hq with ⟨rfl, e⟩ | ⟨_, hq⟩
   ·cases e; exact ⟨_, _, _, h⟩
   ·exact ⟨_, _, _, hq⟩
  obtain ⟨_, _, _, h1⟩ := hp hq
  obtain ⟨_, _, _, h2⟩ := hp hq'
  exact ok.uni q q' _ _ _ _ _ _ _ h1 h2
theorem pool_store (ok : HeapOk w β F H) {r : Nat} {k : Bool} {t : Nat} {s : Sh} {l : List s.T} (hH : H[r]? = some (.pool k t s l)) {i : Nat} {y y' : s.T} (hy : l[i]? = some y) (hm : poolM k s y' = poolM k s y) {us : List Value} {off : Nat}
  (hone : ∀ v ∈ us, v.oneCell' = true) (hc : ∀ cl, PoolC w (en w β F H).av k s y cl → ∃ u m t : List Value, cl = u ++ (m ++ t) ∧ u.length = off ∧ m.length = us.length ∧ PoolC w (en w β F H).av k s y' (u ++ (us ++ t))) :
  ∃ w', (storeCells ⟨(β r).e i, off, none⟩ us).run P w = .ok () w' ∧ HeapOk w' β F (H.set r (.pool k t s (l.set i y'))) ∧ Ext (en w β F H) (en w' β F (H.set r (.pool k t s (l.set i y')))) := by
 have hi := (List.getElem?_eq_some_iff.1 hy).1
 obtain ⟨c, ty, hcell, hcl⟩ := (ok.obj r _ hH).1 i y hy
 have hcell : w.heap[(β r).e i]? = some (.cells c ty (0, 0)) := hcell
 obtain ⟨u, m, p, e1, hu, hml, hnew⟩ := hc _ hcl
 have hb : (β r).e i < w.heap.size := lt_of_heap hcell
 have hcs : c.size = u.length + (m.length + p.length) := by rw [← Array.length_toList, e1]; simp
 have hrun := run_storeCells_of (P := P) (a := ⟨(β r).e i, off, none⟩) (t := ty) rfl us 0 w c hcell (by show off + 0 + us.length ≤ c.size; omega) hone
 have hspl := splice_list us c off u m p e1 hu hml
 have hoff : (⟨(β r).e i, off, none⟩ : Addr).off + 0 = off := rfl
 rw [hoff] at hrun
 have hx : Ext (en w β F H) (en (setB w ((β r).e i) (.cells (splice c off us) ty (0, 0))) β F (H.set r (.pool k t s (l.set i y')))) :=
  ext_pset hH hi List.length_set (fun j a a' h1 h2 => by
   by_cases e : i = j
   ·subst e
    rw [List.getElem?_set_self hi] at h2
    rw [hy] at h1
    cases h1; cases h2
    exact hm
   ·rw [List.getElem?_set_ne e, h1] at h2
    cases h2; rfl) size_setB (fun b hb' => heap_setB_other hb') ⟨rfl, rfl⟩ (fun c' t' f' h' => by rw [heap_setB_same hb] at h'; cases h'; rfl) fun c' t' f' h' => by
   rw [hcell] at h'
   cases h'
   exact ⟨_, _, heap_setB_same hb, splice_size _ _ _⟩
 refine ⟨_, hrun, ok_pset ok hH hi List.length_set size_setB (fun b hb' => heap_setB_other hb') hx ⟨fun j a ha => ?_, fun i j => by rw [List.length_set]; exact (ok.obj r _ hH).2 i j⟩, hx⟩
 by_cases e : i = j
 ·subst e
  rw [List.getElem?_set_self hi] at ha
  cases ha
  exact ⟨_, ty, heap_setB_same hb, by rw [hspl]; exact hnew.mono hx.kp⟩
 ·rw [List.getElem?_set_ne e] at ha
  have hj := (List.getElem?_eq_some_iff.1 ha).1
  exact ((ok.obj r _ hH).1 j a ha).mono hx.kp (heap_setB_other fun e' => e ((ok.obj r _ hH).2 j i hj hi e').symm)
theorem splitAt3 {α : Type} (p : List α) (o n : Nat) : p = p.take o ++ ((p.drop o).take n ++ p.drop (o + n)) := by
 rw [← List.drop_drop, List.take_append_drop, List.take_append_drop]
theorem storePool_ok {n t : Nat} {ty : TypeId} {i j : Int} {z o : Nat} {v : SV} {V U : Value} {K : Heap → Option R} (hsz : (sizeOf ty).run P w = .ok n w) (h : storePool n H t i j z o v K = some x) (ok : HeapOk w β F H)
  (hp : 0 ≤ i ∧ ∃ b m, pbOf β H t i.toNat b m ∧ j.toNat < m ∧ V = .pointer (some ⟨b, j.toNat * z + o, none⟩)) (hv : RepSV (en w β F H) v U) :
  ∃ w' H', (Instr.storeAt ty V U).run P w = .ok () w' ∧ HeapOk w' β F H' ∧ Ext (en w β F H) (en w' β F H') ∧ K H' = some x := by
 unfold storePool at h
 obtain ⟨hok, h1⟩ := bif_none h
 clear h
 split at h1
 ·rename_i cs hcs
  have hus := segCells_rep hcs (okSV_one hv hok)
  obtain ⟨cs', H1, h2, ok1, hx1, hus1⟩ := freezeL_ok ok h1 hus
  clear h1
  obtain ⟨h0, b, m, hb, hj, rfl⟩ := hp
  have hb := hx1.pb _ _ _ _ hb
  split at h2
  ·rename_i r hr
   split at h2
   ·rename_i t2 s l hH
    obtain ⟨hc, h3⟩ := bif_none h2
    clear h2
    simp only [Bool.and_eq_true] at hc
    obtain ⟨⟨hz, hn⟩, hfo⟩ := hc
    obtain rfl : z = 0 := Nat.eq_of_beq_eq_true hz
    have hn : cs'.length = n := Nat.eq_of_beq_eq_true hn
    have hfo : o + n ≤ s.size := Nat.le_of_ble_eq_true hfo
    have hul : U.cells.toList.length = n := by rw [hus1.len, hn]
    obtain ⟨rfl, y, hy, rfl, _⟩ := pool_at ok1 hr hH hb
    have hg : l.getD i.toNat s.zero = y := by rw [List.getD_eq_getElem?_getD, hy]; rfl
    rw [hg] at h3
    split at h3
    ·rename_i y' hy'
     rw [setHK_eq] at h3
     obtain ⟨w', hrun, ok', hx⟩ := pool_store (P := P) ok1 hH hy (y' := y') rfl (us := U.cells.toList) (off := o) hus1.one fun cl hcl => by
      obtain ⟨vs, post, rfl, hrep⟩ := hcl
      have henc := RepT.enc (e := en w β F H1) s _ vs hrep
      have hvl := hrep.size
      refine ⟨vs.take o, (vs.drop o).take n, vs.drop (o + n) ++ post, ?_, by rw [List.length_take]; omega, by rw [List.length_take, List.length_drop, hul]; omega, vs.take o ++ (U.cells.toList ++ vs.drop (o + n)), post, by simp, ?_⟩
      ·conv => lhs; rw [splitAt3 vs o n]
       simp
      ·exact dec1_rep (e := en w β F H1) hy' ((henc.take o).append (hus1.append (henc.drop (o + n))))
     exact ⟨w', _, by simp [Instr.storeAt, Instr.sureAddr]; exact run_storeVar hsz (by rw [← Array.length_toList]; exact hul) hrun, ok', hx1.trans hx, h3⟩
    ·cases h3
   ·rename_i t2 s l hH
    obtain ⟨hc, h3⟩ := bif_none h2
    clear h2
    simp only [Bool.and_eq_true] at hc
    obtain ⟨⟨hz, hn⟩, hfo⟩ := hc
    obtain rfl : z = s.size := Nat.eq_of_beq_eq_true hz
    have hn : cs'.length = n := Nat.eq_of_beq_eq_true hn
    have hfo : o + n ≤ s.size := Nat.le_of_ble_eq_true hfo
    have hul : U.cells.toList.length = n := by rw [hus1.len, hn]
    obtain ⟨rfl, y, hy, rfl, rfl⟩ := pool_at ok1 hr hH hb
    have hg : l.getD i.toNat [] = y := by rw [List.getD_eq_getElem?_getD, hy]; rfl
    have hj : j.toNat < y.length := hj
    rw [hg, getD_of hj] at h3
    split at h3
    ·rename_i y' hy'
     rw [setHK_eq] at h3
     obtain ⟨w', hrun, ok', hx⟩ := pool_store (P := P) ok1 hH hy (y' := y.set j.toNat y') (by show (y.set j.toNat y').length = y.length; simp) (us := U.cells.toList) (off := j.toNat * s.size + o) hus1.one fun cl hcl => by
      obtain ⟨vs, post, rfl, hrow⟩ := hcl
      obtain ⟨p1, p2, p3, rfl, hp1, hp2, ht1, hd1⟩ := hrow.at hj
      have henc := RepT.enc (e := en w β F H1) s _ p2 hp2
      have hvl := hp2.size
      have hnew : RepT w (en w β F H1).av s y' (p2.take o ++ (U.cells.toList ++ p2.drop (o + n))) := dec1_rep (e := en w β F H1) hy' ((henc.take o).append (hus1.append (henc.drop (o + n))))
      refine ⟨p1 ++ p2.take o, (p2.drop o).take n, p2.drop (o + n) ++ (p3 ++ post), ?_, by simp [List.length_take]; omega, by rw [List.length_take, List.length_drop, hul]; omega, p1 ++ ((p2.take o ++ (U.cells.toList ++ p2.drop (o + n))) ++ p3), post, by simp, ?_⟩
      ·conv => lhs; rw [splitAt3 p2 o n]
       simp
      ·exact RepRow.set hj ht1 hd1 hnew
     exact ⟨w', _, by simp [Instr.storeAt, Instr.sureAddr]; exact run_storeVar hsz (by rw [← Array.length_toList]; exact hul) hrun, ok', hx1.trans hx, h3⟩
    ·cases h3
   ·cases h2
  ·cases h2
 ·cases h1
theorem storeAt_ok {agg : Bool} {n : Nat} {t : TypeId} {p : Sc} {v : SV} {V U : Value} {K : Heap → Option R} (ht : aggO P t = some (agg, n)) (h : storeAt n H p v K = some x) (ok : HeapOk w β F H)
  (hp : RepSc (en w β F H) p V) (hv : RepSV (en w β F H) v U) :
  ∃ w' H', (Instr.storeAt t V U).run P w = .ok () w' ∧ HeapOk w' β F H' ∧ Ext (en w β F H) (en w' β F H') ∧ K H' = some x := by
 obtain ⟨ha, hsz, _, hn0⟩ := aggO_spec ht w
 unfold storeAt at h
 split at h
 ·rename_i r o
  obtain ⟨hb, h1⟩ := bif_none h
  clear h
  rw [Bool.and_eq_true] at hb
  have hn : segsSize (svSegs v) = n := Nat.eq_of_beq_eq_true hb.1
  have hus := okSV_one hv hb.2
  have hul : U.cells.toList.length = n := by rw [hus.len, hn]
  obtain ⟨hr, rfl⟩ := hp
  split at h1
  ·rename_i sg hH
   split at h1
   ·rename_i sg' hset
    have h0 : 0 < segsSize sg := by
     obtain ⟨vs, hvs, _⟩ := ok.obj r _ hH
     obtain ⟨u, m, t, rfl, h2, h3, _⟩ := setSegs_rep hus sg o sg' vs hset hvs
     have := hvs.len
     simp at this; omega
    obtain ⟨w', hrun, ok', hx⟩ := obj_store (P := P) ok hH (sg' := sg') (us := U.cells.toList) (off := o) (fun vs hvs => by
     obtain ⟨u, m, t, h2, h3, h4, h5⟩ := setSegs_rep hus sg o sg' vs hset hvs
     exact ⟨u, m, t, h2, h3, by rw [h4, hul], h5⟩) hus.one h0
    exact ⟨w', _, by simp [Instr.storeAt, Instr.sureAddr, run_storeVar hsz (by rw [← Array.length_toList]; exact hul) hrun], ok', hx, h1⟩
   ·cases h1
  ·cases h1
 ·rename_i r o i z
  split at h
  ·rename_i cs hcs
   have hok : okSV v = true := by
    cases v with
    | agg l => rfl
    | v y =>
     cases y <;> first
      | rfl
      | (
        exfalso
        have hcs' : cs = [Sc.undef] := by simpa [svSegs, segCells] using hcs.symm
        subst hcs'
        simp only [freezeL, freeze1, widen, freeze0] at h
        (repeat' split at h) <;> first
         | (cases h; done)
         | (
          obtain ⟨hb, _⟩ := bif_none h
          simp [okSV] at hb))
   have hus := segCells_rep hcs (okSV_one hv hok)
   obtain ⟨cs', H1, h1, ok1, hx1, hus1⟩ := freezeL_ok ok h hus
   clear h
   split at h1
   ·rename_i sg hH
    split at h1
    ·rename_i s m l g fo hsk
     obtain ⟨hb, h2⟩ := bif_none h1
     clear h1
     simp only [Bool.and_eq_true] at hb
     obtain ⟨⟨⟨hz, hn⟩, hfo⟩, _⟩ := hb
     obtain rfl : z = s.size := Nat.eq_of_beq_eq_true hz
     have hn : cs'.length = n := Nat.eq_of_beq_eq_true hn
     have hfo : fo + n ≤ s.size := Nat.le_of_ble_eq_true hfo
     split at h2
     ·rename_i y hy
      obtain ⟨hb, h3⟩ := br_none h2
      clear h2
      have him : i.toNat < m := by simpa using hb
      have hul : U.cells.toList.length = n := by rw [hus1.len, hn]
      have hp1 : RepSc (en w β F H1) (.el r o i s.size) V := hp.mono hx1
      obtain ⟨hr, rfl⟩ := hp1
      have h0 : 0 < segsSize sg := by
       refine Nat.lt_of_lt_of_le ?_ (seek_size hsk)
       have : 0 < m * s.size := Nat.mul_pos (by omega) (by omega)
       simp [segsSize, segSize]; omega
      obtain ⟨w', hrun, ok', hx⟩ := obj_store (P := P) ok1 hH (sg' := setRow s (l.set i.toNat y) sg o) (us := U.cells.toList) (off := o + i.toNat * s.size) (fun vs hvs => by
       have hlm : l.length = m := by
        obtain ⟨_, v', _, _, hlm, _⟩ := seek_rep sg o _ fo vs hsk hvs
        exact hlm
       obtain ⟨u, rv, t, rfl, hu, hrow, _, hput⟩ := setRow_rep (l1 := l.set i.toNat y) sg o m l g fo vs hsk hvs (by simpa using hlm)
       obtain ⟨p1, p2, p3, rfl, hp1, hp2, ht1, hd1⟩ := hrow.at (i := i.toNat) (by omega)
       rw [getD_of (by omega : i.toNat < l.length)] at hy
       have henc := RepT.enc (e := en w β F H1) s _ p2 hp2
       have hp2l := hp2.size
       have hnew : RepT w (en w β F H1).av s y (p2.take fo ++ (U.cells.toList ++ p2.drop (fo + n))) :=
        dec1_rep (e := en w β F H1) hy ((henc.take fo).append (hus1.append (henc.drop (fo + n))))
       have hset := RepRow.set (i := i.toNat) (by omega : i.toNat < l.length) ht1 hd1 hnew
       refine ⟨u ++ (p1 ++ p2.take fo), (p2.drop fo).take n, p2.drop (fo + n) ++ (p3 ++ t), ?_, ?_, by rw [List.length_take, List.length_drop, hul]; omega, ?_⟩
       ·have : p2 = p2.take fo ++ ((p2.drop fo).take n ++ p2.drop (fo + n)) := by
         rw [← List.drop_drop, List.take_append_drop, List.take_append_drop]
        simp only [List.append_assoc]
        rw [← List.append_assoc ((p2.drop fo).take n), ← List.append_assoc (p2.take fo), ← this]
       ·simp [List.length_take]; omega
       ·have := hput _ hset
        simpa only [List.append_assoc] using this) hus1.one h0
      exact ⟨w', _, by simp [Instr.storeAt, Instr.sureAddr, run_storeVar hsz (by rw [← Array.length_toList]; exact hul) hrun], ok', hx1.trans hx, h3⟩
     ·cases h2
    ·cases h1
   ·cases h1
  ·cases h
 ·rename_i t' i
  obtain ⟨hb, h⟩ := br_none h
  have h0 : 0 ≤ i := of_decide_eq_true hb
  refine storePool_ok hsz h ok ?_ hv
  rcases hp with ⟨h1, _⟩ | ⟨_, b, h1, rfl⟩
  ·omega
  ·exact ⟨h0, b, 1, h1, by decide, by simp⟩
 ·exact storePool_ok hsz h ok hp hv
 ·cases h
/-! ### tidying -/
theorem reborn_row (ok : HeapOk w β F H) {r : Nat} {s : Sh} {n : Nat} {l : List s.T} (hH : H[r]? = some (.cells [.row s n l])) {lo len : Nat} {cap : Option Nat} {V : Value}
  (hy : RepSc (en w β F H) (.sl r 0 s.size lo len cap) V) (hfit : fits lo len l = true) :
  ∃ β', HeapOk w β' F (H.set r .dead ++ [.cells [.row s len (sub l lo len)]]) ∧ Ext (en w β F H) (en w β' F (H.set r .dead ++ [.cells [.row s len (sub l lo len)]])) ∧
   RepSc (en w β' F (H.set r .dead ++ [.cells [.row s len (sub l lo len)]])) (.wl H.length s.size) V := by
 obtain ⟨hr, hlen, A, C, rfl, hC, hA⟩ := hy
 have hsl := sub_length hfit
 have hsz : ∀ m, szOf (H.set r .dead ++ [.cells [.row s len (sub l lo len)]]) H.length = some m → m = len * s.size := fun m hm => by
  rw [szOf_set_snoc] at hm
  simp [szO, segsSize, segSize] at hm
  exact hm.symm
 by_cases hC0 : 0 < C
 ·obtain ⟨rfl, hk, c0, t0, fz0, hc0, hsz0⟩ := hA hC0
  obtain ⟨c, ty, vs, pre, post, hc, hcl, hpre, ⟨hn, rv, v', rfl, hrow, hv'⟩, hvl, hcell⟩ := obj_cells' ok hH hk
  obtain rfl : v' = [] := hv'
  have e0 : w.heap[(β r).b]? = some (.cells c0 t0 fz0) := hc0
  rw [hc] at e0
  cases e0
  have hfit' : lo + len ≤ l.length := by simpa [fits] using hfit
  have hrl := hrow.len
  have hle : (lo + len) * s.size ≤ rv.length := by rw [hrl]; exact Nat.mul_le_mul_right _ hfit'
  rw [Nat.add_mul] at hle
  obtain ⟨h1, h2⟩ := reborn ok r (fun o h => by rw [hH] at h; cases h; exact fun _ _ _ _ h => nomatch h) (o' := .cells [.row s len (sub l lo len)]) (fun _ _ _ _ h => nomatch h) (p := .mk3 (β r).b ((β r).o + lo * s.size) True) (fun _ => ⟨_, hH, hk, rfl⟩) (fun hx =>
   ⟨(rv.drop (lo * s.size)).take (len * s.size), ⟨hsl, _, [], by simp, (hrow.sub lo len).mono hx.kp, rfl⟩, fun h => absurd (by simp [en, upd_eq]) h, fun _ =>
    ⟨c0, t0, pre ++ rv.take (lo * s.size), (rv.drop (lo * s.size)).drop (len * s.size) ++ post, by simp only [en, upd_eq]; exact hc, by
     rw [hcl]
     simp only [List.append_assoc, List.append_nil]
     rw [← List.append_assoc ((rv.drop (lo * s.size)).take (len * s.size)), List.take_append_drop, ← List.append_assoc (rv.take (lo * s.size)), List.take_append_drop], by
     have hpre' : pre.length = (β r).o := hpre
     simp [en, upd_eq, hpre']; omega⟩⟩)
  refine ⟨_, h1, h2, by simp [en], _, len, C, rfl, Nat.le_trans hlen hC, hsz, fun _ => ⟨by simp [addr, en, upd_eq], by simp [en, upd_eq], c0, t0, (0, 0), by simp only [en, upd_eq]; exact hc, ?_⟩⟩
  simp only [en, upd_eq] at hsz0 ⊢
  rw [Nat.add_mul] at hsz0
  omega
 ·obtain ⟨rfl, rfl⟩ : C = 0 ∧ len = 0 := ⟨by omega, by omega⟩
  have hnil : sub l lo 0 = [] := by simp [sub]
  obtain ⟨h1, h2⟩ := reborn ok r (fun o h => by rw [hH] at h; cases h; exact fun _ _ _ _ h => nomatch h) (o' := .cells [.row s 0 (sub l lo 0)]) (fun _ _ _ _ h => nomatch h) (p := .mk3 0 0 False) (fun h => h.elim) (fun hx =>
   ⟨[], ⟨hsl, [], [], rfl, by rw [hnil]; rfl, rfl⟩, fun _ => by simp [segsSize, segSize], fun h => by simp [en, upd_eq] at h⟩)
  exact ⟨_, h1, h2, by simp [en], _, 0, 0, rfl, Nat.le_refl _, hsz, fun h => absurd h (Nat.lt_irrefl _)⟩
theorem sub_whole {α : Type} {l : List α} {n : Nat} (h : l.length = n) : sub l 0 n = l := by subst h; simp [sub]
theorem reb1_ok (ok : HeapOk w β F H) {hot : List Nat} {one : Nat → Bool} {pr : Option (Bool × Sh)} {y : Sc} {V : Value} {K : Sc → Heap → Option R} (h : reb1 hot one pr y H K = some x) (hy : RepSc (en w β F H) y V) :
  ∃ y' H' β', K y' H' = some x ∧ HeapOk w β' F H' ∧ Ext (en w β F H) (en w β' F H') ∧ RepSc (en w β' F H') y' V ∧ KeepsO H H' := by
 have same : ∀ y', K y' H = some x → RepSc (en w β F H) y' V → ∃ y' H' β', K y' H' = some x ∧ HeapOk w β' F H' ∧ Ext (en w β F H) (en w β' F H') ∧ RepSc (en w β' F H') y' V ∧ KeepsO H H' :=
  fun y' h hy => ⟨y', H, β, h, ok, Ext.refl _, hy, .refl _⟩
 have virt : ∀ (s : Sh) A, V = .slice A 0 0 → K (.wl H.length s.size) (H ++ [.cells [.row s 0 []]]) = some x →
   ∃ y' H' β', K y' H' = some x ∧ HeapOk w β' F H' ∧ Ext (en w β F H) (en w β' F H') ∧ RepSc (en w β' F H') y' V ∧ KeepsO H H' := fun s A hV h => by
  obtain ⟨h1, h2⟩ := new_virt ok s
  subst hV
  exact ⟨_, _, _, h, h1, h2, virt_rep, .snoc⟩
 have nolist : ∀ (s : Sh) A, V = .slice A 0 0 → RepSc (en w β F H) (.isl s []) V := fun s A hV => ⟨A, 0, hV, Nat.le_refl _, fun h => absurd rfl h⟩
 unfold reb1 at h
 split at h
 ·split at h
  ·rename_i s
   cases hb : Nat.blt 0 s.size with
   | true => rw [hb] at h; exact virt s none hy h
   | false => rw [hb] at h; exact same _ h hy
  ·exact same _ h (nolist _ none hy)
  ·exact same _ h hy
 ·obtain ⟨A, hV⟩ := id hy
  split at h
  ·rename_i s
   cases hb : Nat.blt 0 s.size with
   | true => rw [hb] at h; exact virt s A hV h
   | false => rw [hb] at h; exact same _ h hy
  ·exact same _ h (nolist _ A hV)
  ·exact same _ h hy
 ·rename_i r z
  split at h
  ·obtain ⟨y', H', h1, h2, h3, h4, _, h6⟩ := freeze1_ok ok h hy
   exact ⟨y', H', β, h1, h2, h3, h4, h6⟩
  cases hb : (hot.contains r && one r) with
  | false => rw [hb] at h; exact same _ h hy
  | true =>
   rw [hb] at h
   simp only [cond_true] at h
   split at h
   ·rename_i s n l hH
    cases hb : (Nat.beq z s.size && Nat.blt 0 s.size) with
    | false => rw [hb] at h; exact same _ h hy
    | true =>
     rw [hb] at h
     simp only [cond_true] at h
     have hw := widen_rep ok hy
     simp only [widen, hH, hb, cond_true] at hw
     rw [Bool.and_eq_true] at hb
     obtain rfl : z = s.size := Nat.eq_of_beq_eq_true hb.1
     have hn : l.length = n := by obtain ⟨vs, ⟨hn, _⟩, _⟩ := ok.obj r _ hH; exact hn
     obtain ⟨β', h1, h2, h3⟩ := reborn_row ok hH hw (by simp [fits, hn])
     rw [sub_whole hn] at h1 h2 h3
     rw [setHK_eq, pushHK_eq] at h
     exact ⟨_, _, β', h, h1, h2, h3, .kill hH⟩
   ·exact same _ h hy
 ·rename_i r o z lo len cap
  split at h
  ·obtain ⟨y', H', h1, h2, h3, h4, _, h6⟩ := freeze1_ok ok h hy
   exact ⟨y', H', β, h1, h2, h3, h4, h6⟩
  split at h
  ·cases hb : one r with
   | false => rw [hb] at h; exact same _ h hy
   | true =>
    rw [hb] at h
    simp only [cond_true] at h
    split at h
    ·rename_i s n l hH
     cases hb : (Nat.beq z s.size && Nat.blt 0 s.size) with
     | false => rw [hb] at h; exact same _ h hy
     | true =>
      rw [hb] at h
      simp only [cond_true] at h
      rw [Bool.and_eq_true] at hb
      obtain rfl : z = s.size := Nat.eq_of_beq_eq_true hb.1
      obtain ⟨hfit, h⟩ := br_none h
      obtain ⟨β', h1, h2, h3⟩ := reborn_row ok hH hy hfit
      rw [setHK_eq, pushHK_eq] at h
      exact ⟨_, _, β', h, h1, h2, h3, .kill hH⟩
    ·exact same _ h hy
  ·exact same _ h hy
 ·exact same _ h hy
theorem rebSegs_ok {hot : List Nat} {one : Nat → Bool} {f : Nat → Option (Bool × Sh)} : ∀ {sg : List Seg} {i : Nat} {H : Heap} {β : Nat → Loc} {vs : List Value} {K : List Seg → Nat → Heap → Option R}, HeapOk w β F H →
  rebSegs hot one f sg i H K = some x → RepSegs (en w β F H) sg vs →
  ∃ sg' i' H' β', K sg' i' H' = some x ∧ HeapOk w β' F H' ∧ Ext (en w β F H) (en w β' F H') ∧ RepSegs (en w β' F H') sg' vs ∧ segsSize sg' = segsSize sg ∧ KeepsO H H'
 | [], i, H, β, vs, K, ok, h, hs => ⟨[], i, H, β, h, ok, Ext.refl _, hs, rfl, .refl _⟩
 | .c y :: r, i, H, β, vs, K, ok, h, hs => by
  obtain ⟨V, v, rfl, h1, h2, h3⟩ := hs
  obtain ⟨y', H1, β1, k1, ok1, hx1, hy1, q1⟩ := reb1_ok ok h h2
  obtain ⟨r', i', H2, β2, k2, ok2, hx2, hr2, hsz, q2⟩ := rebSegs_ok ok1 k1 (h3.mono hx1)
  exact ⟨_, i', H2, β2, k2, ok2, hx1.trans hx2, ⟨V, v, rfl, h1, RepSc.mono hx2 _ _ hy1, hr2⟩, by simp [segsSize, segSize, hsz], q1.trans q2⟩
 | .row s n l :: r, i, H, β, vs, K, ok, h, hs => by
  obtain ⟨hn, u, v, rfl, h2, h3⟩ := hs
  have h : rebSegs hot one f r (i + 1) H (fun r i H => K (.row s n l :: r) i H) = some x := h
  obtain ⟨r', i', H2, β2, k2, ok2, hx2, hr2, hsz, q⟩ := rebSegs_ok ok h h3
  exact ⟨.row s n l :: r', i', H2, β2, k2, ok2, hx2, ⟨hn, u, v, rfl, h2.mono hx2.kp, hr2⟩, by simp [segsSize, segSize, hsz], q⟩
theorem rebSV_ok {hot : List Nat} {one : Nat → Bool} {f : Nat → Option (Bool × Sh)} (ok : HeapOk w β F H) {v : SV} {i : Nat} {V : Value} {K : SV → Nat → Heap → Option R}
  (h : rebSV hot one f v i H K = some x) (hs : RepSV (en w β F H) v V) :
  ∃ v' i' H' β', K v' i' H' = some x ∧ HeapOk w β' F H' ∧ Ext (en w β F H) (en w β' F H') ∧ RepSV (en w β' F H') v' V := by
 cases v with
 | v y =>
  have h : reb1 hot one (f i) y H (fun y H => K (.v y) (i + 1) H) = some x := h
  obtain ⟨y', H1, β1, k1, ok1, hx1, hy1, _⟩ := reb1_ok ok h hs
  exact ⟨.v y', _, H1, β1, k1, ok1, hx1, hy1⟩
 | agg l =>
  obtain ⟨vs, rfl, hl⟩ := hs
  have h : rebSegs hot one f l i H (fun l i H => K (.agg l) i H) = some x := h
  obtain ⟨l', i', H1, β1, k1, ok1, hx1, hy1, _⟩ := rebSegs_ok ok h hl
  exact ⟨.agg l', _, H1, β1, k1, ok1, hx1, vs, rfl, hy1⟩
theorem rebSVs_ok {hot : List Nat} {one : Nat → Bool} {f : Nat → Option (Bool × Sh)} : ∀ {l : List SV} {i : Nat} {H : Heap} {β : Nat → Loc} {vs : List Value} {K : List SV → Nat → Heap → Option R}, HeapOk w β F H →
  rebSVs hot one f l i H K = some x → RepSVs (en w β F H) l vs →
  ∃ l' i' H' β', K l' i' H' = some x ∧ HeapOk w β' F H' ∧ Ext (en w β F H) (en w β' F H') ∧ RepSVs (en w β' F H') l' vs
 | [], i, H, β, vs, K, ok, h, hs => ⟨[], i, H, β, h, ok, Ext.refl _, hs⟩
 | y :: r, i, H, β, vs, K, ok, h, hs => by
  obtain ⟨V, v, rfl, h2, h3⟩ := hs
  obtain ⟨y', i1, H1, β1, k1, ok1, hx1, hy1⟩ := rebSV_ok ok h h2
  obtain ⟨r', i', H2, β2, k2, ok2, hx2, hr2⟩ := rebSVs_ok ok1 k1 (h3.mono hx1)
  exact ⟨_, i', H2, β2, k2, ok2, hx1.trans hx2, V, v, rfl, hy1.mono hx2, hr2⟩
theorem rebSlot_ok {hot : List Nat} {one : Nat → Bool} {f : Nat → Option (Bool × Sh)} (ok : HeapOk w β F H) {v : Slot} {i : Nat} {V : Value} {K : Slot → Nat → Heap → Option R}
  (h : rebSlot hot one f v i H K = some x) (hs : RepSlot (en w β F H) v V) :
  ∃ v' i' H' β', K v' i' H' = some x ∧ HeapOk w β' F H' ∧ Ext (en w β F H) (en w β' F H') ∧ RepSlot (en w β' F H') v' V := by
 cases v with
 | sv y =>
  have h : rebSV hot one f y i H (fun v i H => K (.sv v) i H) = some x := h
  obtain ⟨y', i1, H1, β1, k1, ok1, hx1, hy1⟩ := rebSV_ok ok h hs
  exact ⟨.sv y', _, H1, β1, k1, ok1, hx1, hy1⟩
 | tup l =>
  obtain ⟨vs, rfl, hl⟩ := hs
  have h : rebSVs hot one f l i H (fun l i H => K (.tup l) i H) = some x := h
  obtain ⟨l', i1, H1, β1, k1, ok1, hx1, hy1⟩ := rebSVs_ok ok h hl
  exact ⟨.tup l', _, H1, β1, k1, ok1, hx1, vs, rfl, hy1⟩
 | undef => exact ⟨_, _, H, β, h, ok, Ext.refl _, trivial⟩
theorem rebSlots_ok {hot : List Nat} {one : Nat → Bool} {f : Nat → Option (Bool × Sh)} : ∀ {l : List Slot} {i : Nat} {H : Heap} {β : Nat → Loc} {vs : Nat → Value} {K : List Slot → Heap → Option R}, HeapOk w β F H →
  rebSlots hot one f l i H K = some x → (∀ j s, l[j]? = some s → RepSlot (en w β F H) s (vs j)) →
  ∃ l' H' β', K l' H' = some x ∧ HeapOk w β' F H' ∧ Ext (en w β F H) (en w β' F H') ∧ l'.length = l.length ∧ ∀ j s, l'[j]? = some s → RepSlot (en w β' F H') s (vs j)
 | [], i, H, β, vs, K, ok, h, hs => ⟨[], H, β, h, ok, Ext.refl _, rfl, hs⟩
 | y :: r, i, H, β, vs, K, ok, h, hs => by
  obtain ⟨y', i1, H1, β1, k1, ok1, hx1, hy1⟩ := rebSlot_ok ok h (hs 0 y rfl)
  obtain ⟨r', H2, β2, k2, ok2, hx2, hl, hr2⟩ := rebSlots_ok (vs := fun j => vs (j + 1)) ok1 k1 fun j s hj => (hs (j + 1) s (by simpa using hj)).mono hx1
  refine ⟨_, H2, β2, k2, ok2, hx1.trans hx2, by simp [hl], fun j s hj => ?_⟩
  cases j with
  | zero => simp at hj; subst hj; exact hy1.mono hx2
  | succ j => exact hr2 j s (by simpa using hj)
theorem reread (ok : HeapOk w β F H) {i : Nat} {sg sg' : List Seg} (hH : H[i]? = some (.cells sg)) (hsz : segsSize sg' = segsSize sg) (ho : RepObj (en w β F H) i (.cells sg')) :
  HeapOk w β F (H.set i (.cells sg')) ∧ Ext (en w β F H) (en w β F (H.set i (.cells sg'))) := by
 have hx : Ext (en w β F H) (en w β F (H.set i (.cells sg'))) := {
  n := by simp [en]
  β := fun _ _ => rfl
  el := fun _ _ _ _ => rfl
  size := Nat.le_refl _
  kept := fun _ _ _ => rfl
  sub := fun b _ ⟨q, o, h1, h2⟩ => by
   rcases get_set h1 with ⟨rfl, rfl⟩ | ⟨_, h4⟩
   ·exact ⟨q, _, hH, h2⟩
   ·exact ⟨q, o, h4, h2⟩
  F := rfl
  sz := fun q m _ hm => by
   obtain ⟨l, h1, h2⟩ := szOf_some hm
   rcases get_set h1 with ⟨rfl, e⟩ | ⟨_, h4⟩
   ·cases e
    exact (szOf_of hH).trans (by simpa [szO, ← hsz] using h2)
   ·exact (szOf_of h4).trans h2
  grow := fun b c t f hb => ⟨c, f, hb, rfl⟩
  out := ⟨rfl, rfl⟩
  froz := fun b c t f hb => .inr ⟨c, hb⟩
  pq := pq_set hH (fun _ _ _ _ h => nomatch h)
  pn := fun q _ => pn_set hH (fun _ _ _ _ h => nomatch h) q }
 refine ⟨⟨fun q o hq => ?_, fun q o b hq ho => ?_, fun q q' o o' b hq hq' ho ho' => ?_, ok.F, fun q q' k k' t s s' l l' hq hq' => ?_⟩, hx⟩
 ·rcases get_set hq with ⟨rfl, rfl⟩ | ⟨_, h4⟩
  ·exact ho.mono hx (lt_len hH) (Nat.zero_le _) fun _ _ => rfl
  ·exact RepObj.keep ok hx h4 fun _ _ => rfl
 ·rcases get_set hq with ⟨rfl, rfl⟩ | ⟨_, h4⟩
  ·exact ok.ltB q _ b hH ho
  ·exact ok.ltB q o b h4 ho
 ·rcases get_set hq with ⟨k, k2⟩ | ⟨_, k⟩ <;> rcases get_set hq' with ⟨k', k2'⟩ | ⟨_, k'⟩
  ·rw [k, k']
  ·subst k2; rw [k] at ho ⊢; exact ok.injB i q' _ o' b hH k' ho ho'
  ·subst k2'; rw [k'] at ho' ⊢; exact ok.injB q i o _ b k hH ho ho'
  ·exact ok.injB q q' o o' b k k' ho ho'
 ·rcases get_set hq with ⟨_, h1⟩ | ⟨_, h1⟩
  ·cases h1
  ·rcases get_set hq' with ⟨_, h2⟩ | ⟨_, h2⟩
   ·cases h2
   ·exact ok.uni q q' k k' t s s' l l' h1 h2
theorem rebObjs_ok {hot : List Nat} {one : Nat → Bool} : ∀ {is : List Nat} {H : Heap} {β : Nat → Loc} {K : Heap → Option R}, HeapOk w β F H → rebObjs hot one is H K = some x →
  ∃ H' β', K H' = some x ∧ HeapOk w β' F H' ∧ Ext (en w β F H) (en w β' F H')
 | [], H, β, K, ok, h => ⟨H, β, h, ok, Ext.refl _⟩
 | i :: is, H, β, K, ok, h => by
  simp only [rebObjs] at h
  split at h
  ·rename_i sg hH
   cases hb : sg.any isSl with
   | false => rw [hb] at h; exact rebObjs_ok ok h
   | true =>
    rw [hb] at h
    simp only [cond_true] at h
    obtain ⟨vs, hvs, h0, hk⟩ := ok.obj i _ hH
    obtain ⟨sg', i', H1, β1, k1, ok1, hx1, hr1, hsz, q⟩ := rebSegs_ok ok h hvs
    have hH1 : H1[i]? = some (.cells sg) := q i _ hH fun s n l e => by cases e; simp [isSl] at hb
    have hβ : (β1 i).c = (β i).c := hx1.β i (lt_len hH)
    have hβk : (β1 i).k = (β i).k := by have := congrArg Loc.k hβ; exact this
    have hβb : (β1 i).b = (β i).b := by have := congrArg Loc.b hβ; exact this
    have hβo : (β1 i).o = (β i).o := by have := congrArg Loc.o hβ; exact this
    obtain ⟨ok2, hx2⟩ := reread ok1 hH1 hsz ⟨vs, hr1, fun hn => by
     have hn : ¬ (β1 i).k := hn
     rw [hsz]; exact h0 (by rw [hβk] at hn; exact hn), fun hkk => by
     have hkk : (β1 i).k := hkk
     have := hk (by rw [hβk] at hkk; exact hkk)
     show ∃ c t pre post, w.heap[(β1 i).b]? = _ ∧ _ ∧ _ = (β1 i).o
     rw [hβb, hβo]
     exact this⟩
    obtain ⟨H', β', k3, ok3, hx3⟩ := rebObjs_ok ok2 k1
    exact ⟨H', β', k3, ok3, (hx1.trans hx2).trans hx3⟩
  ·exact rebObjs_ok ok h
end
end Go.Gx

namespace Go.Gx
section
variable {R : Type} {P : Program} {w : World} {β : Nat → Loc} {F : Nat → Prop} {H : Heap} {fr : Fr} {a : Act} {x : R}
theorem ok_drew (ok : HeapOk w β F H) : HeapOk w.drew β F H :=
 ⟨fun r o h => by
  have := ok.obj r o h
  have hx : Ext (en w β F H) (en w.drew β F H) := ⟨Nat.le_refl _, fun _ _ => rfl, fun _ _ _ _ => rfl, Nat.le_refl _, fun _ _ _ => rfl, fun _ _ h => h, rfl, fun _ _ _ h => h, fun _ c _ f h => ⟨c, f, h, rfl⟩, ⟨rfl, rfl⟩, fun _ c _ _ h => .inr ⟨c, h⟩, fun _ _ _ _ _ _ h => h, fun _ _ => Nat.le_refl _⟩
  exact this.mono hx (lt_len h) (Nat.le_of_eq (pnOf_of h).symm) fun _ _ => rfl, ok.ltB, ok.injB, ok.F, ok.uni⟩
theorem ext_drew : Ext (en w β F H) (en w.drew β F H) :=
 ⟨Nat.le_refl _, fun _ _ => rfl, fun _ _ _ _ => rfl, Nat.le_refl _, fun _ _ _ => rfl, fun _ _ h => h, rfl, fun _ _ _ h => h, fun _ c _ f h => ⟨c, f, h, rfl⟩, ⟨rfl, rfl⟩, fun _ c _ _ h => .inr ⟨c, h⟩, fun _ _ _ _ _ _ h => h, fun _ _ => Nat.le_refl _⟩
structure Lst (e : En) (s : Sh) (l : List s.T) (V : Value) : Prop where
 len : (Builtin.lenOf V).run P e.w = .ok l.length e.w
 first : ∀ n, n ≤ l.length → ∃ vs, RepRow e.w e.av s (l.take n) vs ∧ ∀ w', Sup e.w w' → (Builtin.firstCells s.size n V).run P w' = .ok vs.toArray w'
theorem take_sub_le {α : Type} {l : List α} {n : Nat} (h : n ≤ l.length) : (l.take n).length = n := by simp; omega
theorem firstCells_run {e : En} {s : Sh} {l : List s.T} {vs : List Value} (hrow : RepRow e.w e.av s l vs) {ad : Addr} {c : Array Value} {t : TypeId} {f : Nat × Nat} (hs : ad.spot = none)
  (hc : e.w.heap[ad.block]? = some (.cells c t f)) (hcell : ∀ j v, vs[j]? = some v → c[ad.off + j]? = some v) {n : Nat} (hn : n ≤ l.length) (k C : Nat) :
  ∃ us, RepRow e.w e.av s (l.take n) us ∧ ∀ w', Sup e.w w' → (Builtin.firstCells s.size n (.slice (some ad) k C)).run P w' = .ok us.toArray w' := by
 have h1 := hrow.take n
 have h2 := h1.len
 rw [take_sub_le hn] at h2
 refine ⟨_, h1, fun w' hw => ?_⟩
 have := run_loadCells_of (P := P) (w := w') hs (hw _ _ hc) (vs := vs.take (n * s.size)) fun j v hj => hcell j v (by
  have := (List.getElem?_eq_some_iff.1 hj).1
  rw [List.length_take] at this
  rwa [List.getElem?_take_of_lt (by omega)] at hj)
 rw [h2] at this
 simp [Builtin.firstCells, this]
theorem castL_id {s : Sh} (h : s = s) (l : List s.T) : castL h l = l := rfl
theorem isl_lst {s : Sh} {l : List s.T} {V : Value} (hy : RepSc (en w β F H) (.isl s l) V) : Lst (P := P) (en w β F H) s l V := by
 obtain ⟨A, C, rfl, hC, hA⟩ := hy
 refine ⟨by simp [Builtin.lenOf], fun m hm => ?_⟩
 by_cases hm0 : m = 0
 ·subst hm0
  refine ⟨[], by rw [List.take_zero]; rfl, fun _ _ => ?_⟩
  cases A with
  | none => simp [Builtin.firstCells]
  | some ad => simp [Builtin.firstCells, loadCells, loadCellsFrom]
 ·obtain ⟨ad, rfl, hav, hrow⟩ := hA (by intro e; subst e; simp at hm; omega)
  obtain ⟨hsp, c, ty, fz, hc, _⟩ := id hrow
  obtain ⟨vs, h1, h2⟩ := hrow.repRow c ty fz hc
  exact firstCells_run (P := P) h1 hsp hc h2 hm _ _
theorem listOf_ok {s : Sh} {y : Sc} {V : Value} {K : List s.T → Option R} (ok : HeapOk w β F H) (h : listOf s H y K = some x) (hy : RepSc (en w β F H) y V) (hs0 : 0 < s.size) :
  ∃ l, K l = some x ∧ Lst (P := P) (en w β F H) s l V := by
 unfold listOf at h
 split at h
 ·rename_i r o z lo len cap
  split at h
  ·rename_i sg hH
   split at h
   ·rename_i s' n l g hsk
    split at h
    ·rename_i hh
     obtain ⟨rfl, rfl⟩ := hh
     rw [castL_id] at h
     obtain ⟨hfit, h1⟩ := br_none h
     clear h
     obtain ⟨hr, hlen, A, C, rfl, hC, hA⟩ := hy
     have hsub := sub_length hfit
     refine ⟨_, h1, by simp [Builtin.lenOf, hsub], fun m hm => ?_⟩
     by_cases hm0 : m = 0
     ·subst hm0
      refine ⟨[], by rw [List.take_zero]; rfl, fun _ _ => ?_⟩
      cases A with
      | none => simp [Builtin.firstCells]
      | some ad => simp [Builtin.firstCells, loadCells, loadCellsFrom]
     ·obtain ⟨rfl, hv, _⟩ := hA (by omega)
      have hfit' : lo + len ≤ l.length := by simpa [fits] using hfit
      have h0 : 0 < segsSize sg := by
       obtain ⟨vs, hvs, _⟩ := ok.obj r _ hH
       obtain ⟨_, v', _, _, hlm, _⟩ := seek_rep sg o _ 0 vs hsk hvs
       refine Nat.lt_of_lt_of_le ?_ (seek_size hsk)
       have : 0 < n * s'.size := Nat.mul_pos (by omega) hs0
       simp [segsSize, segSize]; omega
      obtain ⟨c, ty, vs, pre, post, hc, _, _, hvs, _, hcell⟩ := obj_cells ok hH h0
      obtain ⟨u, v, rfl, hu, hlm, rv, v', rfl, hrow, _⟩ := seek_rep sg o _ 0 vs hsk hvs
      have hp := hrow.sub lo len
      refine firstCells_run (P := P) (ad := addr (en w β F H) r (o + lo * s'.size)) hp rfl hc (fun j y hj => ?_) hm _ _
      have hlt := (List.getElem?_eq_some_iff.1 hj).1
      rw [List.length_take, List.length_drop] at hlt
      rw [List.getElem?_take_of_lt (by omega), List.getElem?_drop] at hj
      have := hcell (u.length + (lo * s'.size + j)) y (by
       rw [List.getElem?_append_right (by omega), show u.length + (lo * s'.size + j) - u.length = lo * s'.size + j by omega, List.getElem?_append_left (by omega)]
       exact hj)
      rw [show (addr (en w β F H) r (o + lo * s'.size)).off + j = (β r).o + (u.length + (lo * s'.size + j)) by simp [addr, en]; omega]
      exact this
    ·cases h
   ·cases h
  ·rename_i s' l hH
   split at h
   ·split at h
    ·rename_i hh
     obtain ⟨rfl, rfl⟩ := hh
     rw [castL_id] at h
     obtain ⟨hfit, h1⟩ := br_none h
     exact ⟨_, h1, isl_lst (ice_isl ok hH hy hfit)⟩
    ·cases h
   ·cases h
  ·cases h
 ·rename_i s' l
  split at h
  ·rename_i hh
   subst hh
   rw [castL_id] at h
   obtain ⟨A, C, rfl, hC, hA⟩ := hy
   refine ⟨_, h, by simp [Builtin.lenOf], fun m hm => ?_⟩
   by_cases hm0 : m = 0
   ·subst hm0
    refine ⟨[], by rw [List.take_zero]; rfl, fun _ _ => ?_⟩
    cases A with
    | none => simp [Builtin.firstCells]
    | some ad => simp [Builtin.firstCells, loadCells, loadCellsFrom]
   ·obtain ⟨ad, rfl, hav, hrow⟩ := hA (by intro e; subst e; simp at hm; omega)
    obtain ⟨hsp, c, ty, fz, hc, _⟩ := id hrow
    obtain ⟨vs, h1, h2⟩ := hrow.repRow c ty fz hc
    exact firstCells_run (P := P) h1 hsp hc h2 hm _ _
  ·cases h
 ·obtain ⟨A, rfl⟩ := hy
  refine ⟨_, h, by simp [Builtin.lenOf], fun m hm => ?_⟩
  obtain rfl : m = 0 := by simpa using hm
  refine ⟨[], rfl, fun _ _ => ?_⟩
  cases A with
  | none => simp [Builtin.firstCells]
  | some ad => simp [Builtin.firstCells, loadCells, loadCellsFrom]
 ·obtain rfl : V = _ := hy
  refine ⟨_, h, by simp [Builtin.lenOf], fun m hm => ?_⟩
  obtain rfl : m = 0 := by simpa using hm
  exact ⟨[], rfl, fun _ _ => by simp [Builtin.firstCells]⟩
 ·cases h
theorem bytes_row {av : Av} : ∀ (l : List UInt8), RepRow w av (.int .u8) (l.map fun b => (b.toNat : Int)) (l.map fun b => Value.int .u8 b.toNat)
 | [] => rfl
 | _ :: l => ⟨[_], _, rfl, rfl, bytes_row l⟩
theorem srcOf_ok {s : Sh} {y : Sc} {V : Value} {K : List s.T → Option R} (ok : HeapOk w β F H) (h : srcOf s H y K = some x) (hy : RepSc (en w β F H) y V) (hs0 : 0 < s.size) :
  ∃ l, K l = some x ∧ Lst (P := P) (en w β F H) s l V := by
 unfold srcOf at h
 split at h
 ·rename_i b
  obtain rfl : V = .string b := hy
  split at h
  ·rename_i hh
   subst hh
   rw [castL_id] at h
   refine ⟨_, h, by simp [Builtin.lenOf, bytesOf], fun n hn => ?_⟩
   refine ⟨(b.data.toList.take n).map fun b => Value.int .u8 b.toNat, ?_, fun w' _ => ?_⟩
   ·have := bytes_row (w := w) (av := (en w β F H).av) (b.data.toList.take n)
    unfold bytesOf
    rw [← List.map_take]
    exact this
   ·simp only [Builtin.firstCells]
    refine congrArg (fun v => Result.ok v w') ?_
    apply Array.ext'
    simp [List.map_take]
  ·cases h
 ·exact listOf_ok ok h hy hs0
/-! ### append -/
theorem appT_cases {ts : Array TypeId} {t : TypeId} (h : appT P ts.toList = some t) :
  ts = #[t] ∨ ∃ u, ts = #[t, u] ∧ ((∃ e, P.underlying u = some (.slice e)) ∨ P.underlying u = some .string) := by
 obtain ⟨l⟩ := ts
 simp only at h
 unfold appT at h
 split at h
 ·cases h; exact .inl rfl
 ·split at h
  ·rename_i hu; cases h; exact .inr ⟨_, rfl, .inl ⟨_, hu⟩⟩
  ·rename_i hu; cases h; exact .inr ⟨_, rfl, .inr hu⟩
  ·cases h
 ·cases h
theorem run_append_new {ts : Array TypeId} {t ty e : TypeId} {i : TypeInfo} {z : Value} (hts : appT P ts.toList = some t) (ht : P.underlying t = some (.slice e)) (hi : P.info? e = some i) (hz : i.zero = some z)
  (w : World) {A : Option Addr} {L C n : Nat} {U : Value} {olds news : List Value} (hlen : (Builtin.lenOf U).run P w = .ok n w)
  (hold : (Builtin.firstCells i.size L (.slice A L C)).run P w.drew = .ok olds.toArray w.drew) (hnew : (Builtin.firstCells i.size n U).run P w.drew = .ok news.toArray w.drew)
  (hg : C < L + n) (hb : (L + n) * i.bytes ≤ 2 ^ 46) (h0 : 0 < i.bytes) :
  (Builtin.append_ ts ty #[.slice A L C, U]).run P w = .ok (.slice (some ⟨w.heap.size, 0, none⟩) (L + n) (grownCap w (L + n) C e))
   (w.drew.alloc (.cells (olds.toArray ++ news.toArray ++ Builtin.zeroCells z.cells (grownCap w (L + n) C e - (L + n))) e)) := by
 have hn : ¬ (L + n ≤ C) := by omega
 have h1 : L + n ≤ (L + n) * i.bytes := Nat.le_mul_of_pos_right _ h0
 have h63' : ¬ (9223372036854775807 < ((L : Int) + (n : Int))) := by omega
 have h48' : ¬ (281474976710656 < Builtin.nextslicecap (L + n) C * i.bytes) := by
  have := growslice_fits (bytes := i.bytes) hg (by omega)
  omega
 rcases appT_cases hts with rfl | ⟨u, rfl, ⟨e', hu⟩ | hu⟩
 ·simp [Builtin.append_, run_underlying ht, sizeOf, typeInfo, zeroValue, hi, hz, hlen, hn, h63', h48', Question.forced, hold, hnew, newRow, grownCap]
  exact congrArg (fun c => w.drew.alloc (.cells c e)) (Array.ext' (by simp))
 ·simp [Builtin.append_, run_underlying ht, run_underlying hu, sizeOf, typeInfo, zeroValue, hi, hz, hlen, hn, h63', h48', Question.forced, hold, hnew, newRow, grownCap]
  exact congrArg (fun c => w.drew.alloc (.cells c e)) (Array.ext' (by simp))
 ·simp [Builtin.append_, run_underlying ht, run_underlying hu, sizeOf, typeInfo, zeroValue, hi, hz, hlen, hn, h63', h48', Question.forced, hold, hnew, newRow, grownCap]
  exact congrArg (fun c => w.drew.alloc (.cells c e)) (Array.ext' (by simp))
theorem run_append_in {ts : Array TypeId} {t ty e : TypeId} {i : TypeInfo} (hts : appT P ts.toList = some t) (ht : P.underlying t = some (.slice e)) (hi : P.info? e = some i)
  (w : World) {ad : Addr} {L C n : Nat} {U : Value} {news : List Value} (hlen : (Builtin.lenOf U).run P w = .ok n w)
  (hnew : (Builtin.firstCells i.size n U).run P w = .ok news.toArray w) (hg : L + n ≤ C) {w' : World} (hs : (storeCells (ad.add (L * i.size)) news).run P w = .ok () w') :
  (Builtin.append_ ts ty #[.slice (some ad) L C, U]).run P w = .ok (.slice (some ad) (L + n) C) w' := by
 rcases appT_cases hts with rfl | ⟨u, rfl, ⟨e', hu⟩ | hu⟩
 ·simp [Builtin.append_, run_underlying ht, sizeOf, typeInfo, hi, hlen, hg, hnew, hs]
 ·simp [Builtin.append_, run_underlying ht, run_underlying hu, sizeOf, typeInfo, hi, hlen, hg, hnew, hs]
 ·simp [Builtin.append_, run_underlying ht, run_underlying hu, sizeOf, typeInfo, hi, hlen, hg, hnew, hs]
theorem run_append_zero {ts : Array TypeId} {t ty e : TypeId} {i : TypeInfo} (hts : appT P ts.toList = some t) (ht : P.underlying t = some (.slice e)) (hi : P.info? e = some i)
  (w : World) {A : Option Addr} {L C : Nat} {U : Value} (hlen : (Builtin.lenOf U).run P w = .ok 0 w)
  (hnew : (Builtin.firstCells i.size 0 U).run P w = .ok #[] w) (hg : L ≤ C) :
  (Builtin.append_ ts ty #[.slice A L C, U]).run P w = .ok (.slice A L C) w := by
 have hz : ∀ a : Addr, (storeCells a []).run P w = .ok () w := fun a => by simp [storeCells]
 rcases appT_cases hts with rfl | ⟨u, rfl, ⟨e', hu⟩ | hu⟩ <;> cases A
 ·simp [Builtin.append_, run_underlying ht, sizeOf, typeInfo, hi, hlen, hg, hnew]
 ·simp [Builtin.append_, run_underlying ht, sizeOf, typeInfo, hi, hlen, hg, hnew, hz]
 ·simp [Builtin.append_, run_underlying ht, run_underlying hu, sizeOf, typeInfo, hi, hlen, hg, hnew]
 ·simp [Builtin.append_, run_underlying ht, run_underlying hu, sizeOf, typeInfo, hi, hlen, hg, hnew, hz]
 ·simp [Builtin.append_, run_underlying ht, run_underlying hu, sizeOf, typeInfo, hi, hlen, hg, hnew]
 ·simp [Builtin.append_, run_underlying ht, run_underlying hu, sizeOf, typeInfo, hi, hlen, hg, hnew, hz]
theorem new_row (ok : HeapOk w β F H) (t : TypeId) {s : Sh} {l : List s.T} {vs : List Value} (hs : RepRow w (en w β F H).av s l vs) {cs : Array Value} {C : Nat} (hc : ∃ post, cs.toList = vs ++ post)
  (hC : l.length ≤ C) (hcs : C * s.size ≤ cs.size) :
  let w' := w.alloc (.cells cs t); let β' := upd β H.length (.mk3 w.heap.size 0 True); let H' := H ++ [.cells [.row s l.length l]]
  HeapOk w' β' F H' ∧ Ext (en w β F H) (en w' β' F H') ∧ RepSc (en w' β' F H') (.wl H.length s.size) (.slice (some ⟨w.heap.size, 0, none⟩) l.length C) := by
 obtain ⟨h1, h2⟩ := new_cells (sg := [.row s l.length l]) ok t (vs := vs) ⟨rfl, vs, [], by simp, hs, rfl⟩ (.inr hc)
 refine ⟨h1, h2, by simp [en], _, _, C, rfl, hC, fun m hm => ?_, fun _ => ⟨by simp [addr, en, upd_eq], by simp [en, upd_eq], cs, t, (0, 0), ?_, ?_⟩⟩
 ·have hm : szOf (H ++ [.cells [.row s l.length l]]) H.length = some m := hm
  rw [szOf_snoc] at hm
  simp [szO, segsSize, segSize] at hm
  exact hm.symm
 ·simp only [en, upd_eq]; exact heap_alloc_new
 ·simp [en, upd_eq]; exact hcs
end
end Go.Gx

namespace Go.Gx
section
variable {R : Type} {P : Program} {w : World} {β : Nat → Loc} {F : Nat → Prop} {H : Heap} {fr : Fr} {a : Act} {x : R}
def ResC {R : Type} (w : World) (β : Nat → Loc) (F : Nat → Prop) (H : Heap) (x : R) (K : Sc → Heap → Option R) (v : Value) (w' : World) : Prop :=
 ∃ y H' β', HeapOk w' β' F H' ∧ Ext (en w β F H) (en w' β' F H') ∧ RepSc (en w' β' F H') y v ∧ K y H' = some x
theorem ResC.res {K : Slot → Heap → Option R} {v : Value} {w' : World} (h : ResC w β F H x (fun y H => K (.sv (.v y)) H) v w') : Res w β F H x K v w' := by
 obtain ⟨y, H', β', h1, h2, h3, h4⟩ := h
 exact ⟨.sv (.v y), H', β', h1, h2, h3, h4⟩
theorem ResC.same {K : Sc → Heap → Option R} {v : Value} {y : Sc} (ok : HeapOk w β F H) (hy : RepSc (en w β F H) y v) (h : K y H = some x) : ResC w β F H x K v w :=
 ⟨y, H, β, ok, Ext.refl _, hy, h⟩
theorem app_new {ts : Array TypeId} {t ty e : TypeId} {i : TypeInfo} {z : Value} {s : Sh} (hts : appT P ts.toList = some t) (ht : P.underlying t = some (.slice e)) (hi : P.info? e = some i) (hz : i.zero = some z)
  (hsz : s.size = i.size) (_hs0 : 0 < s.size) (hzc : z.cells.size = s.size) {H1 : Heap} (ok : HeapOk w β F H1) (hx : Ext (en w β F H) (en w β F H1)) {os xs : List s.T} {A : Option Addr} {C : Nat} {U : Value}
  (ho : ∃ vs, RepRow w (en w β F H).av s os vs ∧ ∀ w', Sup w w' → (Builtin.firstCells s.size os.length (.slice A os.length C)).run P w' = .ok vs.toArray w')
  (hu : Lst (P := P) (en w β F H) s xs U) (hg : C < os.length + xs.length) (hb : (os.length + xs.length) * P.bytesOf e ≤ 2 ^ 46) (h0 : 0 < P.bytesOf e)
  {K : Sc → Heap → Option R} (hK : K (.wl H1.length s.size) (H1 ++ [.cells [.row s (os.length + xs.length) (os ++ xs)]]) = some x) :
  ∃ v w', (Builtin.append_ ts ty #[.slice A os.length C, U]).run P w = .ok v w' ∧ ResC w β F H x K v w' := by
 have hbi : P.bytesOf e = i.bytes := by simp [Program.bytesOf, hi]
 rw [hbi] at hb h0
 obtain ⟨ovs, ho1, ho2⟩ := ho
 obtain ⟨nvs, hn1, hn2⟩ := hu.first xs.length (Nat.le_refl _)
 rw [List.take_length] at hn1
 have hrun := run_append_new (ty := ty) hts ht hi hz w (A := A) (L := os.length) (C := C) (U := U) (olds := ovs) (news := nvs) hu.len (by rw [← hsz]; exact ho2 _ (fun _ _ h => h)) (by rw [← hsz]; exact hn2 _ (fun _ _ h => h)) hg hb h0
 refine ⟨_, _, hrun, ?_⟩
 have hge := grownCap_ge w (os.length + xs.length) C e
 have hrow : RepRow w.drew (en w.drew β F H1).av s (os ++ xs) (ovs ++ nvs) := ((ho1.append hn1).mono hx.kp).mono ext_drew.kp
 have hlen : (os ++ xs).length = os.length + xs.length := List.length_append
 obtain ⟨h1, h2, h3⟩ := new_row (ok_drew ok) e hrow (cs := ovs.toArray ++ nvs.toArray ++ Builtin.zeroCells z.cells (grownCap w (os.length + xs.length) C e - (os.length + xs.length)))
  (C := grownCap w (os.length + xs.length) C e) ⟨_, by simp; rfl⟩ (by rw [hlen]; exact hge) (by
   have h1 := ho1.len
   have h2 := hn1.len
   simp only [Array.size_append, List.size_toArray, size_zeroCells, hzc, h1, h2, ← Nat.add_mul]
   refine Nat.mul_le_mul_right _ ?_
   omega)
 rw [hlen] at h1 h2 h3
 exact ⟨_, _, _, h1, hx.trans (ext_drew.trans h2), h3, hK⟩
theorem rowOwn_spec {r : Nat} {s : Sh} {l : List s.T} (h : rowOwn H r = some ⟨s, l⟩) (ok : HeapOk w β F H) : H[r]? = some (.cells [.row s l.length l]) := by
 unfold rowOwn at h
 split at h
 ·rename_i s' n l' hH
  cases h
  obtain ⟨vs, ⟨hn, _⟩, _⟩ := ok.obj r _ hH
  rw [hn]
  exact hH
 ·cases h
theorem own_row (ok : HeapOk w β F H) {s : Sh} {l : List s.T} {r : Nat} (hH : H[r]? = some (.cells [.row s l.length l])) (h0 : (β r).k) :
  ∃ (c : Array Value) (ty : TypeId) (vs pre post : List Value), w.heap[(β r).b]? = some (.cells c ty (0, 0)) ∧ c.toList = pre ++ (vs ++ post) ∧ pre.length = (β r).o ∧ RepRow w (en w β F H).av s l vs := by
 obtain ⟨c, ty, vs, pre, post, hc, hcl, hpre, ⟨_, u, v, rfl, hrow, hv⟩, _⟩ := obj_cells' ok hH h0
 obtain rfl : v = [] := hv
 exact ⟨c, ty, u, pre, post, hc, by simpa using hcl, hpre, hrow⟩
theorem set_self {H : Heap} {r : Nat} {o : Obj} (h : H[r]? = some o) : H.set r o = H := by
 obtain ⟨h1, rfl⟩ := List.getElem?_eq_some_iff.1 h
 exact List.set_getElem_self h1
theorem app_over {s : Sh} (ok : HeapOk w β F H) {r lo len C : Nat} {cap : Option Nat} {l xs : List s.T} {A : Option Addr} (hH : H[r]? = some (.cells [.row s l.length l])) (hy : RepSc (en w β F H) (.sl r 0 s.size lo len cap) (.slice A len C))
  (hfit : lo + len ≤ l.length) (hn : len + xs.length ≤ C) (h0 : 0 < C) {nvs : List Value} (hnew : RepRow w (en w β F H).av s xs nvs) :
  ∃ ad w' β' H', A = some ad ∧ (storeCells (ad.add (len * s.size)) nvs).run P w = .ok () w' ∧ H' = H.set r .dead ++ [.cells [.row s (len + xs.length) (sub l lo len ++ xs)]] ∧
   HeapOk w' β' F H' ∧ Ext (en w β F H) (en w' β' F H') ∧ RepSc (en w' β' F H') (.wl H.length s.size) (.slice (some ad) (len + xs.length) C) := by
 obtain ⟨hr, hlen, A', C', e', hC, hA⟩ := id hy
 cases e'
 obtain ⟨rfl, hv, c, ty, fz, hc, hroom⟩ := hA h0
 have hv : (β r).k := hv
 obtain ⟨c2, ty2, vs, pre, post, hc2, hcl, hpre, hrow⟩ := own_row ok hH hv
 have hc3 : w.heap[(β r).b]? = some (.cells c ty fz) := hc
 rw [hc2] at hc3
 cases hc3
 have hnl := hnew.len
 have hvl := hrow.len
 have hroom' : (β r).o + (lo + C) * s.size ≤ c.size := by simpa [en] using hroom
 have hle : (lo + len + xs.length) * s.size ≤ (lo + C) * s.size := Nat.mul_le_mul_right _ (by omega)
 have hsplit : (lo + len + xs.length) * s.size = (lo + len) * s.size + nvs.length := by rw [Nat.add_mul, hnl]
 have hll : (lo + len) * s.size = lo * s.size + len * s.size := Nat.add_mul _ _ _
 have hfl : (lo + len) * s.size ≤ l.length * s.size := Nat.mul_le_mul_right _ hfit
 have hb : (β r).b < w.heap.size := lt_of_heap hc2
 have hrun := run_storeCells_of (P := P) (a := addr (en w β F H) r ((lo + len) * s.size)) (t := ty) rfl nvs 0 w c hc2 (by simp only [addr, en]; omega) (RepRow.one (e := en w β F H) hnew)
 have hoff : (addr (en w β F H) r ((lo + len) * s.size)).off + 0 = (β r).o + (lo + len) * s.size := rfl
 have hbl : (addr (en w β F H) r ((lo + len) * s.size)).block = (β r).b := rfl
 rw [hoff, hbl] at hrun
 let ovs := (vs.drop (lo * s.size)).take (len * s.size)
 have hovl : ovs.length = len * s.size := by simp only [ovs, List.length_take, List.length_drop]; omega
 have hcs : c.size = pre.length + (vs.length + post.length) := by rw [← Array.length_toList, hcl]; simp
 have hspl := splice_list nvs c ((β r).o + (lo + len) * s.size) (pre ++ vs.take (lo * s.size) ++ ovs) ((vs.drop ((lo + len) * s.size) ++ post).take nvs.length) ((vs.drop ((lo + len) * s.size) ++ post).drop nvs.length)
  (by
   rw [List.take_append_drop, hcl]
   simp only [ovs, List.append_assoc]
   rw [hll, ← List.drop_drop, ← List.append_assoc ((vs.drop (lo * s.size)).take (len * s.size)), List.take_append_drop, ← List.append_assoc (vs.take (lo * s.size)), List.take_append_drop])
  (by simp [hovl, hpre]; omega) (by simp; omega)
 have h1 : (H.set r .dead).length = H.length := List.length_set
 let w' := setB w (β r).b (.cells (splice c ((β r).o + (lo + len) * s.size) nvs) ty (0, 0))
 let β' := upd β H.length (.mk3 (β r).b ((β r).o + lo * s.size) True)
 let H' := H.set r .dead ++ [.cells [.row s (len + xs.length) (sub l lo len ++ xs)]]
 have hget : ∀ q o, H'[q]? = some o → (q ≠ r ∧ H[q]? = some o) ∨ o = .dead ∨ (q = H.length ∧ o = .cells [.row s (len + xs.length) (sub l lo len ++ xs)]) := fun q o hq => by
  rcases get_snoc hq with h | ⟨h, h'⟩
  ·rcases get_set h with ⟨_, h⟩ | h
   ·exact .inr (.inl h)
   ·exact .inl h
  ·exact .inr (.inr ⟨by rw [h, h1], h'⟩)
 have hβ : ∀ q, q < H.length → β' q = β q := fun q hq => upd_lt hq
 have hx : Ext (en w β F H) (en w' β' F H') := {
  n := by simp [en, H']
  β := fun q hq => by simp only [en, hβ q hq]
  el := fun q i hq _ => by simp only [en, hβ q hq]
  pn := fun q hq => by
   by_cases e : q = r
   ·subst e
    show pnOf H q ≤ _
    rw [pnOf_of hH]
    exact Nat.zero_le _
   ·exact pn_keep fun o h => by
     rw [List.getElem?_append_left (by rw [h1]; exact lt_len h), List.getElem?_set_ne (Ne.symm e)]
     exact h
  size := by simp [en, w', size_setB]
  kept := fun b _ ho => heap_setB_other fun e => ho ⟨r, _, hH, hv, e.symm⟩
  pq := pq_keep fun q k t s2 l2 hq => by
   have hne : r ≠ q := fun e => by subst e; rw [hH] at hq; cases hq
   refine ⟨?_, hβ q (lt_len hq)⟩
   rw [List.getElem?_append_left (by rw [h1]; exact lt_len hq), List.getElem?_set_ne hne]
   exact hq
  sub := fun b _ ho => by
   obtain ⟨q, o, h2, h3⟩ := ho
   rcases hget q o h2 with ⟨_, h⟩ | rfl | ⟨rfl, rfl⟩
   ·rw [hβ q (lt_len h)] at h3
    exact ⟨q, o, h, h3⟩
   ·exact h3.elim
   ·refine ⟨r, _, hH, hv, ?_⟩
    rw [← h3.2]
    simp [β', upd_eq]
  F := rfl
  sz := fun q m hq hm => by
   obtain ⟨l', h2, h3⟩ := szOf_some hm
   rcases hget q _ h2 with ⟨_, h⟩ | h | ⟨rfl, _⟩
   ·exact (szOf_of h).trans h3
   ·subst h
    cases h3
   ·exact absurd hq (Nat.lt_irrefl _)
  grow := fun b c' t' f' hb' => by
   by_cases e : b = (β r).b
   ·subst e
    have hb' : w.heap[(β r).b]? = some (.cells c' t' f') := hb'
    rw [hc2] at hb'
    cases hb'
    exact ⟨_, _, heap_setB_same hb, splice_size _ _ _⟩
   ·exact ⟨c', f', by simp only [en, w'] at *; rw [heap_setB_other e]; exact hb', rfl⟩
  out := ⟨rfl, rfl⟩
  froz := fun b c' t' f' hb' => by
   by_cases e : b = (β r).b
   ·subst e
    have hb' : w'.heap[(β r).b]? = some (.cells c' t' f') := hb'
    rw [heap_setB_same hb] at hb'
    cases hb'
    exact .inl rfl
   ·exact .inr ⟨c', by simp only [en, w'] at *; rw [heap_setB_other e] at hb'; exact hb'⟩ }
 have hrow' : RepRow w' (en w' β' F H').av s (sub l lo len ++ xs) (ovs ++ nvs) := ((hrow.sub lo len).append hnew).mono hx.kp
 have hlen' : (sub l lo len ++ xs).length = len + xs.length := by simp [sub]; omega
 refine ⟨_, w', β', H', rfl, by rw [addr_add, Nat.zero_add, ← Nat.add_mul]; exact hrun, rfl, ⟨?_, ?_, ?_, ?_, ?_⟩, hx, ?_⟩
 ·intro q o hq
  rcases hget q o hq with ⟨hne, h⟩ | rfl | ⟨rfl, rfl⟩
  ·refine RepObj.keep ok hx h fun b ho => heap_setB_other fun e => hne (ok.injB q r o _ b h hH ho ⟨hv, e.symm⟩)
  ·trivial
  ·refine ⟨ovs ++ nvs, ⟨hlen', _, [], by simp, hrow', rfl⟩, fun h => absurd (by simp [en, β', upd_eq]) h, fun _ => ⟨splice c ((β r).o + (lo + len) * s.size) nvs, ty, pre ++ vs.take (lo * s.size), (vs.drop ((lo + len) * s.size) ++ post).drop nvs.length, ?_, ?_, ?_⟩⟩
   ·simp only [en, β', upd_eq]; exact heap_setB_same hb
   ·rw [hspl]; simp
   ·simp [en, β', upd_eq, hpre]; omega
 ·intro q o b hq ho
  rcases hget q o hq with ⟨hne, h⟩ | rfl | ⟨rfl, rfl⟩
  ·rw [hβ q (lt_len h)] at ho
   rw [size_setB]
   exact ok.ltB q o b h ho
  ·exact ho.elim
  ·rw [← ho.2]
   simp only [β', upd_eq, w', size_setB]
   exact ok.lt r _ hH hv
 ·intro q q' o o' b hq hq' ho ho'
  have hown : owns (β r) (.cells [.row s l.length l]) := hv
  rcases hget q o hq with ⟨hne, h⟩ | rfl | ⟨k, rfl⟩ <;> rcases hget q' o' hq' with ⟨hne', h'⟩ | rfl | ⟨k', rfl⟩
  ·rw [hβ q (lt_len h)] at ho
   rw [hβ q' (lt_len h')] at ho'
   exact ok.injB q q' o o' b h h' ho ho'
  ·exact ho'.elim
  ·rw [hβ q (lt_len h)] at ho
   rw [k'] at ho'
   have e := ho'.2
   simp only [β', upd_eq] at e
   exact absurd (ok.injB q r o _ b h hH ho ⟨hown, e⟩) hne
  ·exact ho.elim
  ·exact ho.elim
  ·exact ho.elim
  ·rw [hβ q' (lt_len h')] at ho'
   rw [k] at ho
   have e := ho.2
   simp only [β', upd_eq] at e
   exact absurd (ok.injB r q' _ o' b hH h' ⟨hown, e⟩ ho').symm hne'
  ·exact ho'.elim
  ·rw [k, k']
 ·intro b hb'
  rw [size_setB]
  exact ok.F b hb'
 ·intro q q' k k' t s1 s2 l1 l2 hq hq'
  rcases hget q _ hq with ⟨_, h⟩ | h | ⟨_, h⟩
  ·rcases hget q' _ hq' with ⟨_, h'⟩ | h' | ⟨_, h'⟩
   ·exact ok.uni q q' k k' t s1 s2 l1 l2 h h'
   ·cases h'
   ·cases h'
  ·cases h
  ·cases h
 ·refine ⟨by simp [en, H'], _, len + xs.length, C, rfl, hn, fun m hm => ?_, fun _ => ⟨?_, ?_, splice c ((β r).o + (lo + len) * s.size) nvs, ty, (0, 0), ?_, ?_⟩⟩
  ·have hm : szOf H' H.length = some m := hm
   rw [szOf_set_snoc] at hm
   simp [szO, segsSize, segSize] at hm
   exact hm.symm
  ·simp [addr, en, β', upd_eq]
  ·simp [en, β', upd_eq]
  ·simp only [en, β', upd_eq]; exact heap_setB_same hb
  ·rw [splice_size]
   simp [en, β', upd_eq]
   rw [Nat.add_mul] at hroom'
   omega
theorem first_cells {s : Sh} {l : List s.T} {V : Value} (h : Lst (P := P) (en w β F H) s l V) : ∃ vs, RepRow w (en w β F H).av s l vs ∧ ∀ w', Sup w w' → (Builtin.firstCells s.size l.length V).run P w' = .ok vs.toArray w' := by
 obtain ⟨vs, h1, h2⟩ := h.first l.length (Nat.le_refl _)
 rw [List.take_length] at h1
 exact ⟨vs, h1, h2⟩
theorem exAppend_ok {t ty : TypeId} {ts : Array TypeId} {y u : Sc} {V U : Value} {K : Sc → Heap → Option R} (hts : appT P ts.toList = some t) (h : exAppend P t H y u K = some x) (ok : HeapOk w β F H)
  (hy : RepSc (en w β F H) y V) (hu : RepSc (en w β F H) u U) : ∃ v w', (Builtin.append_ ts ty #[V, U]).run P w = .ok v w' ∧ ResC w β F H x K v w' := by
 unfold exAppend at h
 split at h
 ·rename_i e hd
  split at h
  ·rename_i s hs
   obtain ⟨i, z, hi, hz, hzr, hsz, hs0, hzc⟩ := elemOf_spec hs
   obtain ⟨xs, h1, hxs⟩ := srcOf_ok (P := P) ok h hu hs0
   clear h
   obtain ⟨nvs, hn1, hn2⟩ := first_cells hxs
   have hzero : xs.length = 0 → nvs = [] := fun h => by
    have := hn1.len
    rw [h, Nat.zero_mul] at this
    exact List.eq_nil_of_length_eq_zero this
   have zrun : ∀ (A : Option Addr) (L C : Nat), xs.length = 0 → L ≤ C → (Builtin.append_ ts ty #[.slice A L C, U]).run P w = .ok (.slice A L C) w := fun A L C h0 hLC =>
    run_append_zero (ty := ty) hts hd hi w (by rw [← h0]; exact hxs.len) (by
     have := hn2 w (fun _ _ h => h)
     rw [hzero h0, h0, hsz] at this
     exact this) hLC
   -- nothing there
   have empty : ∀ (A : Option Addr), V = .slice A 0 0 →
     br (decide (xs.length * P.bytesOf e ≤ 2 ^ 46) && Nat.blt 0 (P.bytesOf e)) (K (.wl H.length s.size) (H ++ [.cells [.row s xs.length xs]])) none = some x →
     ∃ v w', (Builtin.append_ ts ty #[V, U]).run P w = .ok v w' ∧ ResC w β F H x K v w' := by
    rintro A rfl h
    obtain ⟨hb, h⟩ := br_none h
    simp only [Bool.and_eq_true, decide_eq_true_eq] at hb
    by_cases h0 : xs.length = 0
    ·have hx0 : xs = [] := List.eq_nil_of_length_eq_zero h0
     obtain ⟨q1, q2⟩ := new_virt ok s
     subst hx0
     exact ⟨_, _, zrun A 0 0 rfl (Nat.le_refl _), _, _, _, q1, q2, virt_rep, h⟩
    ·have := app_new (H := H) (os := ([] : List s.T)) (xs := xs) (A := A) (C := 0) (ty := ty) hts hd hi hz hsz hs0 hzc ok (Ext.refl _) ⟨[], rfl, fun w' _ => by cases A <;> simp [Builtin.firstCells, loadCells, loadCellsFrom]⟩ hxs (by simp; omega) (by simpa using hb.1) (by simpa using hb.2)
      (K := K) (by simpa using h)
     exact this
   split at h1
   ·rename_i r zz lo len cap
    split at h1
    ·rename_i s' l hrow
     have hH := rowOwn_spec hrow ok
     split at h1
     ·rename_i hh
      obtain ⟨rfl, rfl⟩ := hh
      simp only [castL_id] at h1
      obtain ⟨hb, h⟩ := br_none h1
      clear h1
      simp only [Bool.and_eq_true, decide_eq_true_eq] at hb
      obtain ⟨⟨hfit, hb1⟩, hb2⟩ := hb
      obtain ⟨hr, hlen, A, C, rfl, hC, hA⟩ := id hy
      have hfit' : lo + len ≤ l.length := by simpa [fits] using hfit
      by_cases h0 : xs.length = 0
      ·have hx0 : xs = [] := List.eq_nil_of_length_eq_zero h0
       obtain ⟨β', q1, q2, q3⟩ := reborn_row ok hH hy hfit
       subst hx0
       simp only [List.length_nil, Nat.add_zero, List.append_nil] at h
       exact ⟨_, _, zrun A len C rfl (by omega), _, _, _, q1, q2, q3, h⟩
      ·by_cases hin : len + xs.length ≤ C
       ·obtain ⟨ad, w', β', H', rfl, hrun, rfl, ok', hx, hrep⟩ := app_over (P := P) ok hH hy (by omega) hin (by omega) hn1
        refine ⟨_, _, run_append_in (ty := ty) hts hd hi w hxs.len (by rw [← hsz]; exact hn2 w (fun _ _ h => h)) hin (by rw [← hsz]; exact hrun), _, _, _, ok', hx, hrep, h⟩
       ·have hsl : (sub l lo len).length = len := by simp [sub]; omega
        have hlst : ∃ vs, RepRow w (en w β F H).av s' (sub l lo len) vs ∧ ∀ w', Sup w w' → (Builtin.firstCells s'.size (sub l lo len).length (.slice A (sub l lo len).length C)).run P w' = .ok vs.toArray w' := by
         have hl : listOf s' H (.sl r 0 s'.size lo len cap) (fun l => some l) = some (sub l lo len) := by
          simp only [listOf, hH, seek]
          have h1 : Nat.blt 0 s'.size = true := by simpa using hs0
          have h2 : fits lo len l = true := by simp [fits]; omega
          rw [h1]
          simp [h2, br, castL_id]
         obtain ⟨l', e1, hl2⟩ := listOf_ok (P := P) ok hl hy hs0
         cases e1
         rw [hsl]
         have := first_cells hl2
         rw [hsl] at this
         exact this
        have := app_new (H := H) (os := sub l lo len) (xs := xs) (A := A) (C := C) (ty := ty) hts hd hi hz hsz hs0 hzc (ok_kill ok hH (fun _ _ _ _ h => nomatch h)) (ext_kill hH (fun _ _ _ _ h => nomatch h)) hlst hxs (by rw [hsl]; omega) (by rw [hsl]; exact hb1) (by simpa using hb2)
         (K := K) (by rw [hsl, List.length_set]; exact h)
        rw [hsl] at this
        exact this
     ·cases h1
    ·cases h1
   ·obtain rfl : V = _ := hy
    exact empty none rfl h1
   ·obtain ⟨A, rfl⟩ := hy
    exact empty A rfl h1
   ·cases h1
  ·cases h
 ·cases h
end
end Go.Gx

namespace Go.Gx
section
variable {R : Type} {P : Program} {w : World} {β : Nat → Loc} {F : Nat → Prop} {H : Heap} {fr : Fr} {a : Act} {x : R}
theorem setRow_same {s : Sh} : ∀ {sg : List Seg} {o m f : Nat} {l : List s.T} {g : List Seg}, seek sg o = some (.row s m l :: g, f) → setRow s l sg o = sg
 | [], _, _, _, _, _, h => by cases h
 | .c y :: r, 0, _, _, _, _, h => by cases h
 | .c y :: r, o + 1, m, f, l, g, h => by
  have h : seek r o = some (.row s m l :: g, f) := h
  show Seg.c y :: setRow s l r o = _
  rw [setRow_same h]
 | .row s' n l' :: r, o, m, f, l, g, h => by
  simp only [seek] at h
  simp only [setRow]
  cases h1 : Nat.blt o s'.size with
  | true => rw [h1] at h; simp at h; obtain ⟨⟨⟨rfl, h2⟩, _⟩, _⟩ := h; obtain ⟨rfl, h3⟩ := h2; cases h3; rfl
  | false =>
   rw [h1] at h
   cases h2 : Nat.blt o (n * s'.size) with
   | true => rw [h2] at h; simp at h; obtain ⟨⟨⟨rfl, h2⟩, _⟩, _⟩ := h; obtain ⟨rfl, h3⟩ := h2; cases h3; rfl
   | false =>
    rw [h2] at h
    simp only [cond_false] at h ⊢
    rw [setRow_same h]
theorem run_copy {ts : Array TypeId} {t ty e : TypeId} {i : TypeInfo} (hts : ts[0]? = some t) (ht : P.underlying t = some (.slice e)) (hi : P.info? e = some i) (w : World) {A : Option Addr} {L C n : Nat} {U : Value} {news : List Value}
  (hlen : (Builtin.lenOf U).run P w = .ok n w) (hnew : (Builtin.firstCells i.size (min n L) U).run P w = .ok news.toArray w) {w' : World} (hs : ∀ ad, A = some ad → (storeCells ad news).run P w = .ok () w') (hn : A = none → w' = w) :
  (Builtin.copy_ ts ty #[.slice A L C, U]).run P w = .ok (.int .i64 ((min n L : Nat) : Int)) w' := by
 have hm : Nat.min n L = min n L := rfl
 cases A with
 | none => obtain rfl := hn rfl; simp [Builtin.copy_, hts, run_underlying ht, hlen, run_size hi, hnew, hm, goInt]
 | some ad => simp [Builtin.copy_, hts, run_underlying ht, hlen, run_size hi, hnew, hm, goInt, hs ad rfl]
theorem exCopy_ok {t ty : TypeId} {ts : Array TypeId} {y u : Sc} {V U : Value} {K : Int → Heap → Option R} (hts : ts[0]? = some t) (h : exCopy P t H y u K = some x) (ok : HeapOk w β F H)
  (hy : RepSc (en w β F H) y V) (hu : RepSc (en w β F H) u U) : ∃ n w' H', (Builtin.copy_ ts ty #[V, U]).run P w = .ok (.int .i64 n) w' ∧ HeapOk w' β F H' ∧ Ext (en w β F H) (en w' β F H') ∧ K n H' = some x := by
 unfold exCopy at h
 split at h
 ·rename_i e hd
  split at h
  ·rename_i s hs
   obtain ⟨i, z, hi, hz, hzr, hsz, hs0, hzc⟩ := elemOf_spec hs
   obtain ⟨xs, h1, hxs⟩ := srcOf_ok (P := P) ok h hu hs0
   clear h
   have empty : ∀ A, V = .slice A 0 0 → K 0 H = some x → ∃ n w' H', (Builtin.copy_ ts ty #[V, U]).run P w = .ok (.int .i64 n) w' ∧ HeapOk w' β F H' ∧ Ext (en w β F H) (en w' β F H') ∧ K n H' = some x := by
    rintro A rfl h
    obtain ⟨nvs, hn1, hn2⟩ := hxs.first 0 (Nat.zero_le _)
    obtain rfl : nvs = [] := by rw [List.take_zero] at hn1; exact hn1
    refine ⟨_, w, H, run_copy (ty := ty) hts hd hi w hxs.len (news := []) (by
     have := hn2 w (fun _ _ h => h)
     rw [hsz] at this
     simpa using this) (fun ad _ => by simp [storeCells]) (fun _ => rfl), ok, Ext.refl _, by simpa using h⟩
   split at h1
   ·rename_i r o zz lo len cap
    split at h1
    ·rename_i sg hH
     split at h1
     ·rename_i s' m l g hsk
      split at h1
      ·rename_i hh
       obtain ⟨rfl, rfl⟩ := hh
       simp only [castL_id] at h1
       obtain ⟨hfit, h2⟩ := br_none h1
       clear h1
       have hfit' : lo + len ≤ l.length := by simpa [fits] using hfit
       obtain ⟨hr, hlen, A, C, rfl, hC, hA⟩ := id hy
       have hlen' : len ≤ C := Nat.le_trans hlen hC
       obtain ⟨nvs, hn1, hn2⟩ := hxs.first (min xs.length len) (Nat.min_le_left _ _)
       have hn3 := hn2 w (fun _ _ h => h)
       rw [hsz] at hn3
       by_cases h0 : min xs.length len = 0
       ·rw [h0] at h2 hn1 hn3
        simp only [List.take_zero, List.nil_append, Nat.add_zero, List.take_append_drop] at h2
        rw [setRow_same hsk, set_self hH] at h2
        obtain rfl : nvs = [] := by rw [List.take_zero] at hn1; exact hn1
        refine ⟨_, w, H, run_copy (ty := ty) hts hd hi w hxs.len (news := []) (by rw [h0]; exact hn3) (fun ad _ => by simp [storeCells]) (fun _ => rfl), ok, Ext.refl _, by rw [h0]; exact h2⟩
       ·have hl0 : 0 < len := by have := Nat.min_le_right xs.length len; omega
        obtain ⟨rfl, hv, _⟩ := hA (by omega)
        have hml : l.length = m := by
         obtain ⟨vs, hvs, _⟩ := ok.obj r _ hH
         obtain ⟨_, v', _, _, hlm, _⟩ := seek_rep sg o _ 0 vs hsk hvs
         exact hlm
        have hsg0 : 0 < segsSize sg := by
         refine Nat.lt_of_lt_of_le ?_ (seek_size hsk)
         have : 0 < m * s'.size := Nat.mul_pos (by omega) hs0
         simp [segsSize, segSize]; omega
        have hnl := hn1.len
        rw [take_sub_le (Nat.min_le_left _ _)] at hnl
        have hmin : min xs.length len ≤ len := Nat.min_le_right _ _
        have hll : (l.take lo ++ (xs.take (min xs.length len) ++ l.drop (lo + min xs.length len))).length = m := by
         simp only [List.length_append, List.length_take, List.length_drop]; omega
        obtain ⟨w', hrun, ok', hx⟩ := obj_store (P := P) ok hH (us := nvs) (off := o + lo * s'.size)
          (sg' := setRow s' (l.take lo ++ (xs.take (min xs.length len) ++ l.drop (lo + min xs.length len))) sg o) (fun vs hvs => by
         obtain ⟨u, rv, t', rfl, hu', hrow, hrl, hput⟩ := setRow_rep (l1 := l.take lo ++ (xs.take (min xs.length len) ++ l.drop (lo + min xs.length len))) sg o m l g 0 vs hsk hvs hll
         have hrv := hrow.len
         have hle : (lo + min xs.length len) * s'.size ≤ l.length * s'.size := Nat.mul_le_mul_right _ (by omega)
         have hsplit : (lo + min xs.length len) * s'.size = lo * s'.size + nvs.length := by rw [Nat.add_mul, hnl]
         have h1 := hrow.take lo
         have h2 := hrow.drop (lo + min xs.length len)
         refine ⟨u ++ rv.take (lo * s'.size), (rv.drop (lo * s'.size)).take nvs.length, rv.drop ((lo + min xs.length len) * s'.size) ++ t', ?_, ?_, ?_, ?_⟩
         ·simp only [List.append_assoc]
          rw [hsplit, ← List.drop_drop, ← List.append_assoc ((rv.drop (lo * s'.size)).take nvs.length), List.take_append_drop, ← List.append_assoc (rv.take (lo * s'.size)), List.take_append_drop]
         ·simp only [List.length_append, List.length_take]; omega
         ·rw [List.length_take, List.length_drop]; omega
         ·have := hput _ (h1.append (hn1.append h2))
          simpa only [List.append_assoc] using this) (RepRow.one (e := en w β F H) hn1) hsg0
        exact ⟨_, w', _, run_copy (ty := ty) hts hd hi w hxs.len hn3 (fun ad e => by cases e; exact hrun) (fun e => by cases e), ok', hx, h2⟩
      ·cases h1
     ·cases h1
    ·cases h1
   ·obtain rfl : V = _ := hy
    exact empty none rfl h1
   ·obtain ⟨A, rfl⟩ := hy
    exact empty A rfl h1
   ·cases h1
  ·cases h
 ·cases h
/-! ### noughts in a row -/
theorem map_zero : ∀ (n : Nat) (u : List Value), 0 < u.length → ((Array.range (n * u.length)).map (u.toArray[· % u.toArray.size]!)).toList = (List.replicate n u).flatten
 | 0, u, _ => by simp
 | n + 1, u, h => by
  have ih := map_zero n u h
  simp only [Array.toList_map, Array.toList_range, List.size_toArray] at ih ⊢
  rw [Nat.succ_mul, List.range_add, List.map_append, ih, List.replicate_succ', List.flatten_append]
  congr 1
  simp only [List.map_map, List.flatten_cons, List.flatten_nil, List.append_nil]
  apply List.ext_getElem?
  intro j
  by_cases hj : j < u.length
  ·rw [List.getElem?_map, List.getElem?_range hj]
   simp [Nat.mod_eq_of_lt hj, hj]
  ·rw [List.getElem?_eq_none (by simp; omega), List.getElem?_eq_none (by omega)]
theorem map_none (f : Nat → Value) : (Array.range 0).map f = #[] := by simp
theorem run_makeSlice {t e : TypeId} {i : TypeInfo} {z : Value} (ht : P.underlying t = some (.slice e)) (hi : P.info? e = some i) (hz : i.zero = some z) (w : World) {k k' : IntKind} {n m : Int} (hzs : z.cells.size = i.size)
  (hs0 : 0 < i.size) (h0 : 0 ≤ n) (h1 : n ≤ m) (h2 : m * (i.bytes : Int) ≤ 2 ^ 46) (h3 : 0 < i.bytes) :
  ∃ cs : Array Value, cs.toList = (List.replicate m.toNat z.cells.toList).flatten ∧
   (Instr.makeSlice t (.int k n) (.int k' m)).run P w = .ok (.slice (some ⟨w.heap.size, 0, none⟩) n.toNat m.toNat) (w.alloc (.cells cs e)) := by
 have hm : m ≤ m * (i.bytes : Int) := by
  have : m * 1 ≤ m * (i.bytes : Int) := Int.mul_le_mul_of_nonneg_left (by omega) (by omega)
  omega
 have w1 : IntKind.i64.wrap n = n := by rw [IntKind.wrap_i64]; omega
 have w2 : IntKind.i64.wrap m = m := by rw [IntKind.wrap_i64]; omega
 refine ⟨_, map_zero m.toNat z.cells.toList (by rw [Array.length_toList]; omega), ?_⟩
 have hb1 : (i.bytes : Int) * m ≤ 2 ^ 46 := by rw [Int.mul_comm]; exact h2
 have ha : ¬ ((m < 0 ∨ 2 ^ 48 < (i.bytes : Int) * m)) := by omega
 have hm0 : m.toNat * i.size = 0 → m.toNat = 0 := fun h => by
  rcases Nat.mul_eq_zero.1 h with h | h
  ·exact h
  ·omega
 by_cases hz0 : m.toNat = 0
 ·simp [Instr.makeSlice, run_underlying ht, typeInfo, hi, asInt, asIntOf, w1, w2, show ¬ m < 0 by omega, show ¬ n < 0 by omega, show ¬ m < n by omega, show ¬ (281474976710656 < (i.bytes : Int) * m) by omega, sizeOf, hz0, newRow, zeroValue]
  exact congrArg (fun c => w.alloc (.cells c e)) (by rw [map_none, map_none])
 ·have : ¬ (m.toNat * i.size = 0) := fun h => hz0 (hm0 h)
  simp [Instr.makeSlice, run_underlying ht, typeInfo, hi, asInt, asIntOf, w1, w2, show ¬ m < 0 by omega, show ¬ n < 0 by omega, show ¬ m < n by omega, show ¬ (281474976710656 < (i.bytes : Int) * m) by omega, sizeOf, newRow, zeroValue, hz, hzs]
  exact fun h => absurd h this
theorem exMakeSlice_ok {t : TypeId} {k k' : IntKind} {n m : Int} {K : Sc → Heap → Option R} (h : exMakeSlice P t n m H K = some x) (ok : HeapOk w β F H) :
  ∃ v w', (Instr.makeSlice t (.int k n) (.int k' m)).run P w = .ok v w' ∧ Sup w w' ∧ ResC w β F H x K v w' := by
 unfold exMakeSlice at h
 split at h
 ·rename_i e hd
  split at h
  ·rename_i s hs
   obtain ⟨i, z, hi, hz, hzr, hsz, hs0, hzc⟩ := elemOf_spec hs
   obtain ⟨hb, hK⟩ := br_none h
   clear h
   simp only [Bool.and_eq_true, decide_eq_true_eq] at hb
   obtain ⟨⟨⟨h0, h1⟩, h2⟩, h3⟩ := hb
   have h3 : 0 < P.bytesOf e := by simpa using h3
   have hbi : P.bytesOf e = i.bytes := by simp [Program.bytesOf, hi]
   rw [hbi] at h2 h3
   obtain ⟨cs, hcs, hrun⟩ := run_makeSlice (P := P) (k := k) (k' := k') hd hi hz w (by rw [hzc, hsz]) (by omega) h0 h1 h2 h3
   refine ⟨_, _, hrun, sup_alloc w _, ?_⟩
   obtain ⟨vs, hvs, hve⟩ := RepRow.replicate (hzr (en w β F H)) n.toNat
   have hll : (List.replicate n.toNat s.zero).length = n.toNat := List.length_replicate
   have hnm : n.toNat ≤ m.toNat := by omega
   have hcz : cs.size = m.toNat * s.size := by
    rw [← Array.length_toList, hcs]
    simp [List.length_flatten, hzc]
   obtain ⟨q1, q2, q3⟩ := new_row (C := m.toNat) ok e hvs (cs := cs) ⟨(List.replicate (m.toNat - n.toNat) z.cells.toList).flatten, by
    rw [hcs, hve, ← List.flatten_append, List.replicate_append_replicate]
    congr 2
    omega⟩ (by rw [hll]; exact hnm) (by rw [hcz]; exact Nat.le_refl _)
   rw [hll] at q1 q2 q3
   exact ⟨_, _, _, q1, q2, q3, hK⟩
  ·cases h
 ·cases h
theorem appZ_spec {ts : Array TypeId} {t : TypeId} (h : appZ P ts.toList = some t) : ∃ u k, ts = #[t, u] ∧ P.underlying u = some (.int k) := by
 obtain ⟨l⟩ := ts
 simp only at h
 unfold appZ at h
 split at h
 ·split at h
  ·rename_i hu; cases h; exact ⟨_, _, rfl, hu⟩
  ·cases h
 ·cases h
theorem zeroCells_list (z : Array Value) : ∀ (n : Nat), (Builtin.zeroCells z n).toList = (List.replicate n z.toList).flatten
 | 0 => by simp [Builtin.zeroCells]
 | n + 1 => by
  have ih := zeroCells_list z n
  rw [List.replicate_succ', List.flatten_append, ← ih]
  simp only [Builtin.zeroCells, Array.toList_map, Array.toList_range, Nat.add_mul, Nat.one_mul, List.range_add, List.map_append, List.map_map]
  congr 1
  simp only [List.flatten_cons, List.flatten_nil, List.append_nil]
  apply List.ext_getElem
  ·simp
  ·intro j h1 h2
   have hj : j < z.size := by simpa using h2
   simp [Function.comp, Nat.add_mod, Nat.mod_eq_of_lt hj, hj]
theorem run_append_zeros {ts : Array TypeId} {t ty e : TypeId} {i : TypeInfo} {z : Value} (hts : appZ P ts.toList = some t) (ht : P.underlying t = some (.slice e)) (hi : P.info? e = some i) (hz : i.zero = some z)
  (w : World) {k : IntKind} {n : Int} (h0 : 0 < n) (hb : n.toNat * i.bytes ≤ 2 ^ 46) (hb0 : 0 < i.bytes) (hsz : 0 < i.size) :
  (Builtin.append_ ts ty #[.slice none 0 0, .int k n]).run P w = .ok (.slice (some ⟨w.heap.size, 0, none⟩) n.toNat (grownCap w n.toNat 0 e))
   (w.drew.alloc (.cells (Builtin.zeroCells z.cells n.toNat ++ Builtin.zeroCells z.cells (grownCap w n.toNat 0 e - n.toNat)) e)) := by
 obtain ⟨u, k', rfl, hu⟩ := appZ_spec hts
 have h1 : n.toNat ≤ n.toNat * i.bytes := Nat.le_mul_of_pos_right _ hb0
 have hw : IntKind.i64.wrap n = n := by rw [IntKind.wrap_i64]; omega
 have hn0 : ¬ (n ≤ 0) := by omega
 have hneg : ¬ (n < 0) := by omega
 have h63 : ¬ ((9223372036854775807 : Int) < max n 0) := by omega
 have hns : ¬ (n.toNat * i.size = 0) := by
  have := Nat.mul_pos (show 0 < n.toNat by omega) hsz
  omega
 have h48 : ¬ ((281474976710656 : Int) < n * i.bytes) := by
  have : ((n.toNat * i.bytes : Nat) : Int) = n * i.bytes := by rw [Int.natCast_mul, Int.toNat_of_nonneg (by omega)]
  omega
 have h48' : ¬ (281474976710656 < Builtin.nextslicecap n.toNat 0 * i.bytes) := by
  have := growslice_fits (old := 0) (bytes := i.bytes) (show 0 < n.toNat by omega) (by omega)
  omega
 simp [Builtin.append_, run_underlying ht, run_underlying hu, sizeOf, typeInfo, zeroValue, hi, hz, asInt, asIntOf, hw, hneg, h48, hn0, h63, h48', hns, Question.forced, Builtin.firstCells, newRow, grownCap]
theorem exAppendZ_ok {t ty : TypeId} {ts : Array TypeId} {y : Sc} {k : IntKind} {n : Int} {V U : Value} {K : Sc → Heap → Option R} (hts : appZ P ts.toList = some t) (h : exAppendZ P t n H y K = some x) (ok : HeapOk w β F H)
  (hy : RepSc (en w β F H) y V) (hu : RepSc (en w β F H) (.int k n) U) : ∃ v w', (Builtin.append_ ts ty #[V, U]).run P w = .ok v w' ∧ ResC w β F H x K v w' := by
 obtain rfl : U = .int k n := hu
 unfold exAppendZ at h
 split at h
 ·rename_i e hd
  split at h
  ·rename_i s hs
   obtain ⟨i, z, hi, hz, hzr, hsz, hs0, hzc⟩ := elemOf_spec hs
   split at h
   ·obtain rfl : V = .slice none 0 0 := hy
    obtain ⟨hb, h⟩ := br_none h
    simp only [Bool.and_eq_true, decide_eq_true_eq] at hb
    obtain ⟨⟨hn, hb1⟩, hb2⟩ := hb
    have hbi : P.bytesOf e = i.bytes := by simp [Program.bytesOf, hi]
    have hb2 : 0 < P.bytesOf e := by simpa using hb2
    rw [hbi] at hb1 hb2
    by_cases h0 : n = 0
    ·subst h0
     obtain ⟨q1, q2⟩ := new_virt ok s
     obtain ⟨u, k', rfl, hu⟩ := appZ_spec hts
     have hw : IntKind.i64.wrap 0 = 0 := by decide
     refine ⟨.slice none 0 0, w, ?_, _, _, _, q1, q2, virt_rep, h⟩
     simp [Builtin.append_, run_underlying hd, run_underlying hu, sizeOf, typeInfo, hi, asInt, asIntOf, hw]
    ·have hrun := run_append_zeros (ty := ty) (k := k) hts hd hi hz w (show 0 < n by omega) hb1 hb2 (by rw [← hsz]; exact hs0)
     refine ⟨_, _, hrun, ?_⟩
     obtain ⟨vs, hvs, hve⟩ := RepRow.replicate (hzr (en w β F H)) n.toNat
     have hll : (List.replicate n.toNat s.zero).length = n.toNat := List.length_replicate
     have hge := grownCap_ge w n.toNat 0 e
     obtain ⟨q1, q2, q3⟩ := new_row (C := grownCap w n.toNat 0 e) (ok_drew ok) e (hvs.mono ext_drew.kp) (cs := Builtin.zeroCells z.cells n.toNat ++ Builtin.zeroCells z.cells (grownCap w n.toNat 0 e - n.toNat))
      ⟨(Builtin.zeroCells z.cells (grownCap w n.toNat 0 e - n.toNat)).toList, by rw [Array.toList_append, zeroCells_list z.cells n.toNat, hve]⟩ (by rw [hll]; exact hge) (by
       simp only [Array.size_append, size_zeroCells, hzc, ← Nat.add_mul]
       refine Nat.mul_le_mul_right _ ?_
       omega)
     rw [hll] at q1 q2 q3
     exact ⟨_, _, _, q1, ext_drew.trans q2, q3, h⟩
   ·cases h
  ·cases h
 ·cases h
/-! ### parts that are filled in -/
theorem foldl_splice : ∀ (vs : List Value) (k off : Nat) (c : Array Value), (vs.zipIdx k).foldl (fun cs (p : Value × Nat) => cs.setIfInBounds (off + p.2) p.1) c = splice c (off + k) vs
 | [], _, _, _ => rfl
 | v :: vs, k, off, c => by
  simp only [List.zipIdx_cons, List.foldl_cons, splice]
  rw [foldl_splice vs (k + 1) off, Nat.add_assoc]
theorem fill_cons {place : Nat → Option (Nat × Nat)} {cells : Array Value} {i off size : Nat} {v : Value} {rest : List (Nat × Value)} (hp : place i = some (off, size)) (hs : v.cells.size = size) (hl : off + size ≤ cells.size) :
  Instr.fill place cells ((i, v) :: rest) = Instr.fill place (splice cells off v.cells.toList) rest := by
 have h1 : ¬ (v.cells.size ≠ size || off + v.cells.size > cells.size) = true := by simp [hs]; omega
 rw [Instr.fill, hp]
 simp only
 rw [if_neg h1]
 congr 1
 rw [← Array.foldl_toList, Array.toList_zipIdx]
 have := foldl_splice v.cells.toList 0 off cells
 rw [Nat.add_zero] at this
 exact this
theorem svCells_rep {e : En} {v : SV} {cs : List Sc} {V : Value} (h : svCells v = some cs) (hv : RepSV e v V) : RepScs e cs V.cells.toList := by
 unfold svCells at h
 obtain ⟨h1, h2⟩ := bif_none h
 exact segCells_rep h2 (okSV_one hv h1)
inductive RepParts (e : En) : List (Nat × SV) → List (Nat × Value) → Prop
 | nil : RepParts e [] []
 | cons {i v V ps Ps} : RepSV e v V → RepParts e ps Ps → RepParts e ((i, v) :: ps) ((i, V) :: Ps)
theorem RepParts.mono {e e' : En} (h : Ext e e') : ∀ {ps Ps}, RepParts e ps Ps → RepParts e' ps Ps
 | _, _, .nil => .nil
 | _, _, .cons h1 h2 => .cons (RepSV.mono h _ _ h1) (h2.mono h)
theorem fillRow_ok {s : Sh} {H0 : Heap} (ok0 : HeapOk w β F H0) : ∀ {ps : List (Nat × SV)} {Ps : List (Nat × Value)} {H : Heap} {l : List s.T} {cells : Array Value} {K : List s.T → Heap → Option R}, HeapOk w β F H → Ext (en w β F H0) (en w β F H) → Dd H0 H →
  fillRow s H0 ps H l K = some x → RepParts (en w β F H0) ps Ps → RepRow w (en w β F H).av s l cells.toList →
  ∃ l' cells' H', Instr.fill (fun i => some (i * s.size, s.size)) cells Ps = some cells' ∧ K l' H' = some x ∧ HeapOk w β F H' ∧ Ext (en w β F H) (en w β F H') ∧ RepRow w (en w β F H').av s l' cells'.toList ∧ l'.length = l.length
 | [], _, H, l, cells, K, ok, _, _, h, .nil, hr => ⟨l, cells, H, rfl, h, ok, Ext.refl _, hr, rfl⟩
 | (i, v) :: ps, _, H, l, cells, K, ok, hx, hdd, h, .cons (V := V) hv hps, hr => by
  simp only [fillRow] at h
  split at h
  ·rename_i cs hcs
   have h1 := svCells_rep hcs hv
   obtain ⟨cs', H1, h2, ok1, hx1, hcs1, hd1'⟩ := freezeQL_ok ok0 ok hx hdd h h1
   clear h
   split at h2
   ·rename_i y hy
    obtain ⟨hb, h3⟩ := bif_none h2
    have hi : i < l.length := by simpa using hb
    have hnew := dec1_rep hy hcs1
    have hr1 : RepRow w (en w β F H1).av s l cells.toList := RepRow.mono hx1.kp l _ hr
    obtain ⟨p1, p2, p3, e1, hp1, hp2, ht1, hd1⟩ := hr1.at hi
    have hset := RepRow.set hi ht1 hd1 hnew
    have hvl := hnew.size
    have hp2l := hp2.size
    have hcl := hr1.len
    have hle : (i + 1) * s.size ≤ l.length * s.size := Nat.mul_le_mul_right _ hi
    rw [Nat.add_mul, Nat.one_mul] at hle
    have hsz : cells.size = l.length * s.size := by rw [← Array.length_toList]; exact hcl
    have hspl := splice_list V.cells.toList cells (i * s.size) p1 p2 p3 e1 hp1 (by rw [hp2l, hvl])
    obtain ⟨l', cells', H', q1, q2, q3, q4, q5, q6⟩ := fillRow_ok ok0 (cells := splice cells (i * s.size) V.cells.toList) ok1 (hx.trans hx1) hd1' h3 hps (by rw [hspl]; exact hset)
    refine ⟨l', cells', H', ?_, q2, q3, hx1.trans q4, q5, by simpa using q6⟩
    rw [fill_cons rfl (by rw [← Array.length_toList]; exact hvl) (by rw [hsz]; exact hle)]
    exact q1
   ·cases h2
  ·cases h
theorem exBuildSlice_ok {t : TypeId} {n : Nat} {ps : List (Nat × SV)} {Ps : Array (Nat × Value)} {K : Sc → Heap → Option R} (h : exBuildSlice P t n ps H K = some x) (ok : HeapOk w β F H) (hps : RepParts (en w β F H) ps Ps.toList) :
  ∃ v w', (Instr.buildSlice t n Ps).run P w = .ok v w' ∧ Sup w w' ∧ ResC w β F H x K v w' := by
 unfold exBuildSlice at h
 split at h
 ·rename_i e hd
  split at h
  ·rename_i s hs
   obtain ⟨i, z, hi, hz, hzr, hsz, hs0, hzc⟩ := elemOf_spec hs
   obtain ⟨hb, h1⟩ := bif_none h
   clear h
   have hb : n * s.size ≤ 1000000 := Nat.le_of_ble_eq_true hb
   obtain ⟨vs, hvs, hve⟩ := RepRow.replicate (hzr (en w β F H)) n
   have hz0 := map_zero n z.cells.toList (by rw [Array.length_toList, hzc]; exact hs0)
   simp only [Array.length_toList, Array.toArray_toList] at hz0
   obtain ⟨l', cells', H1, q1, q2, q3, q4, q5, q6⟩ := fillRow_ok ok (cells := (Array.range (n * z.cells.size)).map (z.cells[· % z.cells.size]!)) ok (Ext.refl _) (Dd.refl _) h1 hps (by rw [hz0, ← hve]; exact hvs)
   have hll : l'.length = n := by rw [q6]; exact List.length_replicate
   obtain ⟨r1, r2, r3⟩ := new_row (C := n) q3 e q5 (cs := cells') ⟨[], by simp⟩ (by rw [hll]; exact Nat.le_refl _) (by
    have := q5.len
    rw [← Array.length_toList, this, hll]
    exact Nat.le_refl _)
   rw [hll] at r1 r2 r3
   have hlen : (Array.range (n * i.size)).map (z.cells[· % z.cells.size]!) = (Array.range (n * z.cells.size)).map (z.cells[· % z.cells.size]!) := by rw [hzc, hsz]
   rw [hsz] at q1 hb
   refine ⟨_, _, ?_, sup_alloc w _, _, _, _, r1, q4.trans r2, r3, q2⟩
   by_cases hn : n * i.size = 0
   ·have hn0 : n = 0 := by
     rcases Nat.mul_eq_zero.1 hn with h | h
     ·exact h
     ·omega
    subst hn0
    have e0 : (Array.range (0 * z.cells.size)).map (z.cells[· % z.cells.size]!) = #[] := by simp
    rw [e0] at q1
    simp [Instr.buildSlice, run_underlying hd, run_size hi, q1, newRow, map_none]
   ·have hn' := hn
    simp only [Nat.mul_eq_zero, not_or] at hn'
    rw [← hlen] at q1
    simp [Instr.buildSlice, run_underlying hd, run_size hi, run_zero hi hz, q1, newRow, show ¬ (16777216 < n * i.size) by omega]
    exact fun h => absurd h hn
  ·cases h
 ·cases h
end
end Go.Gx

namespace Go.Gx
section
variable {R : Type} {P : Program} {w : World} {β : Nat → Loc} {F : Nat → Prop} {H : Heap} {fr : Fr} {a : Act} {x : R}
/-! ### structs -/
theorem places_of : ∀ (fs : List Field), fs.all (fun f => (P.info? f.type).isSome) = true →
  ∃ places, fs.mapM (fun f => (P.info? f.type).map fun i => (f.offset, i.size)) = some places ∧ ∀ (j : Nat) f, fs[j]? = some f → places[j]? = some (f.offset, P.cellsOf f.type)
 | [], _ => ⟨[], rfl, fun j f h => by simp at h⟩
 | f :: fs, h => by
  simp only [List.all_cons, Bool.and_eq_true] at h
  obtain ⟨i, hi⟩ := Option.isSome_iff_exists.1 h.1
  obtain ⟨ps, hp, hj⟩ := places_of fs h.2
  refine ⟨(f.offset, i.size) :: ps, by simp [List.mapM_cons, hi, hp], fun j g hg => ?_⟩
  cases j with
  | zero =>
   simp at hg
   subst hg
   simp [Program.cellsOf, hi]
  | succ j => exact hj j g (by simpa using hg)
theorem fillSegs_ok {e : En} {fs : List Field} {places : List (Nat × Nat)} (hpl : ∀ (j : Nat) f, fs[j]? = some f → places[j]? = some (f.offset, P.cellsOf f.type)) :
  ∀ {ps : List (Nat × SV)} {Ps : List (Nat × Value)} {l l' : List Seg} {cells : Array Value}, fillSegs P fs ps l = some l' → RepParts e ps Ps → RepSegs e l cells.toList →
  ∃ cells', Instr.fill (places.toArray[·]?) cells Ps = some cells' ∧ RepSegs e l' cells'.toList
 | [], _, l, l', cells, h, .nil, hr => by cases h; exact ⟨cells, rfl, hr⟩
 | (i, v) :: ps, _, l, l', cells, h, .cons (V := V) hv hps, hr => by
  simp only [fillSegs] at h
  split at h
  ·rename_i f hf
   obtain ⟨hb, h1⟩ := bif_none h
   clear h
   rw [Bool.and_eq_true] at hb
   have hn : segsSize (svSegs v) = P.cellsOf f.type := Nat.eq_of_beq_eq_true hb.1
   have hus := okSV_one hv hb.2
   have hul : V.cells.toList.length = P.cellsOf f.type := by rw [hus.len, hn]
   split at h1
   ·rename_i l1 hset
    obtain ⟨u, m, t, e1, hu, hm, hrep⟩ := setSegs_rep hus l f.offset l1 cells.toList hset hr
    have hcl : cells.size = u.length + (m.length + t.length) := by rw [← Array.length_toList, e1]; simp
    have hspl := splice_list V.cells.toList cells f.offset u m t e1 hu (by rw [hm, hul])
    obtain ⟨cells', q1, q2⟩ := fillSegs_ok hpl (cells := splice cells f.offset V.cells.toList) h1 hps (by rw [hspl]; exact hrep)
    refine ⟨cells', ?_, q2⟩
    rw [fill_cons (off := f.offset) (size := P.cellsOf f.type) (by simpa using hpl i f hf) (by rw [← Array.length_toList, hul]) (by omega)]
    exact q1
   ·cases h1
  ·cases h
theorem fillArr_ok {e : En} {s : Sh} : ∀ {ps : List (Nat × SV)} {Ps : List (Nat × Value)} {l l' : List s.T} {cells : Array Value}, fillArr s ps l = some l' → RepParts e ps Ps → RepRow e.w e.av s l cells.toList →
  ∃ cells', Instr.fill (fun i => some (i * s.size, s.size)) cells Ps = some cells' ∧ RepRow e.w e.av s l' cells'.toList ∧ l'.length = l.length
 | [], _, l, l', cells, h, .nil, hr => by cases h; exact ⟨cells, rfl, hr, rfl⟩
 | (i, v) :: ps, _, l, l', cells, h, .cons (V := V) hv hps, hr => by
  simp only [fillArr] at h
  split at h
  ·rename_i cs hcs
   have hcs1 := svCells_rep hcs hv
   split at h
   ·rename_i y hy
    obtain ⟨hb, h3⟩ := bif_none h
    have hi : i < l.length := by simpa using hb
    have hnew := dec1_rep hy hcs1
    obtain ⟨p1, p2, p3, e1, hp1, hp2, ht1, hd1⟩ := hr.at hi
    have hset := RepRow.set hi ht1 hd1 hnew
    have hvl := hnew.size
    have hp2l := hp2.size
    have hcl := hr.len
    have hle : (i + 1) * s.size ≤ l.length * s.size := Nat.mul_le_mul_right _ hi
    rw [Nat.add_mul, Nat.one_mul] at hle
    have hsz : cells.size = l.length * s.size := by rw [← Array.length_toList]; exact hcl
    have hspl := splice_list V.cells.toList cells (i * s.size) p1 p2 p3 e1 hp1 (by rw [hp2l, hvl])
    obtain ⟨cells', q1, q5, q6⟩ := fillArr_ok (cells := splice cells (i * s.size) V.cells.toList) h3 hps (by rw [hspl]; exact hset)
    refine ⟨cells', ?_, q5, by simpa using q6⟩
    rw [fill_cons rfl (by rw [← Array.length_toList]; exact hvl) (by rw [hsz]; exact hle)]
    exact q1
   ·cases h
  ·cases h
theorem exBuild_ok {t : TypeId} {ps : List (Nat × SV)} {Ps : Array (Nat × Value)} {K : SV → Option R} {e : En} (h : exBuild P t ps K = some x) (hps : RepParts e ps Ps.toList) (w : World) :
  ∃ v V, Stays P (Instr.build t Ps) w V ∧ RepSV e v V ∧ K v = some x := by
 unfold exBuild at h
 split at h
 ·rename_i fs l hd hz
  obtain ⟨i, z, hi, hiz, hrep, _⟩ := zeroOf_spec hz
  obtain ⟨hb, h1⟩ := bif_none h
  clear h
  obtain ⟨places, hp, hpl⟩ := places_of fs.toList hb
  split at h1
  ·rename_i l' hl
   obtain ⟨cells', q1, q2⟩ := fillSegs_ok hpl hl hps (hrep e)
   exact ⟨.agg l', .agg cells', fun w _ => run_build w t Ps cells' (by simp [Program.built, hi, hd, hiz, hp]; simpa using q1), ⟨cells'.toList, by simp, q2⟩, h1⟩
  ·cases h1
 ·rename_i n el l hd hz
  obtain ⟨i, z, hi, hiz, hrep, _⟩ := zeroOf_spec hz
  split at h
  ·rename_i i' hi'
   have : Ps.toList = [] := by cases hps' : Ps.toList with
    | nil => rfl
    | cons p r => rw [hps'] at hps; cases hps
   exact ⟨.agg l, .agg z.cells, fun w _ => run_build w t Ps z.cells (by simp [Program.built, hi, hd, hiz, hi', this, Instr.fill]), ⟨z.cells.toList, by simp, hrep e⟩, h⟩
  ·rename_i ie _ hie
   split at h
   ·rename_i s m l0 _
    obtain ⟨hb, h1⟩ := bif_none h
    have hss : s.size = ie.size := Nat.eq_of_beq_eq_true hb
    split at h1
    ·rename_i l' hl'
     obtain ⟨hn, u, v, hu, hrow, hv⟩ := hrep e
     obtain rfl : v = [] := hv
     rw [List.append_nil] at hu
     obtain ⟨cells', q1, q2, q3⟩ := fillArr_ok (cells := z.cells) hl' hps (by rw [hu]; exact hrow)
     refine ⟨.agg [.row s m l'], .agg cells', fun w _ => run_build w t Ps cells' (by simp only [Program.built, hi, hd, hiz, hie]; rw [← hss]; exact q1), ⟨cells'.toList, by simp, ?_⟩, h1⟩
     exact ⟨by omega, cells'.toList, [], by simp, q2, rfl⟩
    ·cases h1
   ·cases h
  ·cases h
 ·cases h
/-! ### conversions -/
theorem row_bytes {av : Av} : ∀ {l : List Int} {vs : List Value}, RepRow w av (.int .u8) l vs → vs = l.map (Value.int .u8)
 | [], _, h => h
 | n :: l, _, ⟨u, v, e, h1, h2⟩ => by rw [e, show u = _ from h1, row_bytes h2]; rfl
theorem listOf_slice {s : Sh} {y : Sc} {V : Value} {K : List s.T → Option R} {e : En} (h : listOf s H y K = some x) (hy : RepSc e y V) : ∃ A n C, V = .slice A n C := by
 unfold listOf at h
 split at h
 ·obtain ⟨_, _, A, C, rfl, _⟩ := hy; exact ⟨_, _, _, rfl⟩
 ·obtain ⟨A, C, rfl, _⟩ := hy; exact ⟨_, _, _, rfl⟩
 ·obtain ⟨A, rfl⟩ := hy; exact ⟨_, _, _, rfl⟩
 ·obtain rfl : V = _ := hy; exact ⟨_, _, _, rfl⟩
 ·cases h
theorem exConvert_ok {s d : TypeId} {y : Sc} {V : Value} {K : Sc → Option R} (h : exConvert P s d H y K = some x) (ok : HeapOk w β F H) (hy : RepSc (en w β F H) y V) :
  ∃ r v, Stays P (convert s d V) w v ∧ RepSc (en w β F H) r v ∧ K r = some x := by
 unfold exConvert at h
 split at h
 ·rename_i ds k k' n hs hd
  obtain rfl : V = .int k' n := hy
  exact ⟨.int k (k.wrap n), .int k (k.wrap n), fun w _ => by cases ds <;> simp [convert, run_underlying hs, run_underlying hd, Conv.intToInt], rfl, h⟩
 ·rename_i ds b hs hd
  obtain rfl : V = .string b := hy
  exact ⟨.str b, .string b, fun w _ => by cases ds <;> simp [convert, run_underlying hs, run_underlying hd], rfl, h⟩
 ·rename_i e hs hd _
  split at h
  ·rename_i he
   obtain ⟨l, h1, hl⟩ := listOf_ok (P := P) ok h hy (by decide)
   obtain ⟨vs, hr, hrun⟩ := first_cells hl
   have hlen := hl.len
   refine ⟨.str (mkStr l), .string (mkStr l), ?_, rfl, h1⟩
   have hvs := row_bytes hr
   subst hvs
   obtain ⟨A, n, C, rfl⟩ := listOf_slice h hy
   obtain rfl : n = l.length := by
    have := congrArg (fun r => match r with | Result.ok v _ => v | _ => 0) hlen
    simpa [Builtin.lenOf] using this
   intro w' hw
   have hrun := hrun w' hw
   rw [run_convert_bytes_string w' s d e _ _ _ hs he hd]
   cases A with
   | none =>
    have hl0 : l = [] := by
     have := congrArg (fun r => match r with | Result.ok (v : Array Value) _ => v.size | _ => 0) hrun
     simp [Builtin.firstCells] at this
     exact List.eq_nil_of_length_eq_zero this.symm
    subst hl0
    simp [Conv.bytesToString, mkStr]
    rfl
   | some ad =>
    rw [run_bytesToString w' ad l.length C l (by simpa [Builtin.firstCells, Sh.size] using hrun), foldl_push_bytes]
    simp [mkStr, ByteArray.empty, ByteArray.emptyWithCapacity]
    rfl
  ·cases h
 ·cases h
end
end Go.Gx
