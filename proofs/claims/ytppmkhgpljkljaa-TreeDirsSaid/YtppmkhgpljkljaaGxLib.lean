/-
  Gx: an entry for a function that counts a map's keys, in whatever order they come.
-/
import Derived.Test.YtppmkhgpljkljaaGx5
import Derived.Maps.RangeRun
namespace Go.Gx
open Go.ChangeMaps (setBlock)

/-- all that stood stands; what is new is not frozen -/
structure Gw (w w' : World) : Prop where
  size : w.heap.size ≤ w'.heap.size
  kept : ∀ b, b < w.heap.size → w'.heap[b]? = w.heap[b]?
  out : w'.os = w.os ∧ w'.output = w.output
  froz : ∀ (b : Nat) c t f, w'.heap[b]? = some (.cells c t f) → f = (0, 0) ∨ w.heap[b]? = some (.cells c t f)

def hit (path : ByteArray) (x : MapEntry) : Bool := match x.key with
  | Value.agg cs => match cs[0]? with
    | some (Value.string d) => decide (d = path)
    | _ => false
  | _ => false
/-- how many of those that were seen stand in a directory -/
def seenC (path : ByteArray) : List MapEntry → Array Nat → Int
  | [], _ => 0
  | x :: l, seen => (if seen.contains x.born && hit path x then 1 else 0) + seenC path l seen
theorem seenC_other (path : ByteArray) (seen : Array Nat) (b : Nat) : ∀ (es : List MapEntry), b ∉ es.map (·.born) → seenC path es (seen.push b) = seenC path es seen
  | [], _ => rfl
  | x :: l, h => by
    have hx : (x.born == b) = false := by
      cases hc : x.born == b with
      | false => rfl
      | true => exact absurd (List.mem_cons.2 (Or.inl (beq_iff_eq.1 hc).symm)) h
    simp only [seenC, contains_push, hx, Bool.or_false, seenC_other path seen b l (fun e => h (List.mem_cons.2 (Or.inr e)))]
theorem seenC_push (path : ByteArray) (seen : Array Nat) (e : MapEntry) (hs : seen.contains e.born = false) : ∀ (es : List MapEntry), (es.map (·.born)).Nodup → e ∈ es → seenC path es (seen.push e.born) = seenC path es seen + (if hit path e then 1 else 0)
  | x :: l, hn, he => by
    have hn' : x.born ∉ l.map (·.born) ∧ (l.map (·.born)).Nodup := List.nodup_cons.1 hn
    rcases List.mem_cons.1 he with rfl | h
    · simp only [seenC, contains_push, hs, beq_self_eq_true, Bool.or_true, Bool.true_and, Bool.false_and, Bool.false_eq_true, if_false, seenC_other path seen e.born l hn'.1]
      omega
    · have hx : (x.born == e.born) = false := by
        cases hc : x.born == e.born with
        | false => rfl
        | true => exact absurd (List.mem_map.2 ⟨e, h, (beq_iff_eq.1 hc).symm⟩) hn'.1
      simp only [seenC, contains_push, hx, Bool.or_false, seenC_push path seen e hs l hn'.2 h]
      omega
theorem seenC_none (path : ByteArray) : ∀ (es : List MapEntry), seenC path es #[] = 0
  | [] => rfl
  | x :: l => by
    have : (#[] : Array Nat).contains x.born = false := by simp
    simp only [seenC, this, Bool.false_and, Bool.false_eq_true, if_false, seenC_none path l]
    rfl
theorem seenC_full (path : ByteArray) (seen : Array Nat) : ∀ (es : List MapEntry), (∀ x ∈ es, seen.contains x.born = true) → seenC path es seen = ((es.filter (hit path)).length : Int)
  | [], _ => rfl
  | x :: l, h => by
    simp only [seenC, h x (List.mem_cons.2 (Or.inl rfl)), Bool.true_and, seenC_full path seen l (fun y hy => h y (List.mem_cons.2 (Or.inr hy))), List.filter_cons]
    split
    · rw [List.length_cons]; omega
    · omega
theorem seenC_all (path : ByteArray) (es : Array MapEntry) (seen : Array Nat) (h : (leftOf es seen).size = 0) : seenC path es.toList seen = ((es.toList.filter (hit path)).length : Int) := by
  refine seenC_full path seen es.toList (fun x hx => ?_)
  have h2 : leftOf es seen = #[] := Array.eq_empty_of_size_eq_zero h
  unfold leftOf at h2
  rw [Array.filter_eq_empty_iff] at h2
  have h3 := h2 x (Array.mem_toList_iff.1 hx)
  cases hc : seen.contains x.born with
  | true => rfl
  | false => rw [hc] at h3; exact absurd rfl h3

theorem str_beq (a b : ByteArray) : (a.toList == b.toList) = decide (a = b) := by
  rw [ByteArray.toList_eq, ByteArray.toList_eq]
  by_cases h : a = b
  · rw [h]; simp
  · rw [decide_eq_false h]
    cases hc : (a.data.toList == b.data.toList) with
    | false => rfl
    | true =>
      exfalso
      apply h
      have := beq_iff_eq.1 hc
      cases a; cases b
      simpa using this
theorem wrap64_eq (x : Int) : RowKit.wrap64 x = IntKind.wrap .i64 x := by
  simp only [RowKit.wrap64, IntKind.wrap, IntKind.bits, IntKind.signed]
  simp
  omega
theorem wrap_succ (x : Int) : IntKind.wrap .i64 (IntKind.wrap .i64 x + 1) = IntKind.wrap .i64 (x + 1) := by
  simp only [← wrap64_eq, RowKit.wrap64]
  omega
theorem Gw.iter {w : World} (o : Go.Obj) (h : ∀ c t f, o = .cells c t f → f = (0, 0)) : Gw w (w.alloc o) where
  size := by rw [size_alloc]; omega
  kept b hb := Go.heap_alloc_old w o hb
  out := ⟨rfl, rfl⟩
  froz b c t f hx := by
    by_cases hb : b < w.heap.size
    · rw [Go.heap_alloc_old w o hb] at hx; exact .inr hx
    · left
      have h1 := lt_of_heap hx
      rw [size_alloc] at h1
      have : b = w.heap.size := by omega
      subst this
      rw [Go.heap_alloc_new] at hx
      exact h c t f (Option.some.inj hx)
where
  size_alloc : (w.alloc o).heap.size = w.heap.size + 1 := by show (w.heap.push o).size = _; simp
theorem size_alloc (w : World) (o : Go.Obj) : (w.alloc o).heap.size = w.heap.size + 1 := by show (w.heap.push o).size = _; simp

theorem set_at {w : World} {r : Nat} {o : Go.Obj} (h : r < w.heap.size) : (setBlock w r o).heap[r]? = some o := by simp [setBlock, h]
theorem set_ne {w : World} {r b : Nat} {o : Go.Obj} (h : b ≠ r) : (setBlock w r o).heap[b]? = w.heap[b]? := by simp [setBlock, Ne.symm h]
theorem set_size {w : World} {r : Nat} {o : Go.Obj} : (setBlock w r o).heap.size = w.heap.size := by simp [setBlock]

theorem Gw.step {w wr w1 : World} {m : Option Nat} {s c : Nat} {sn : Array Nat} {cs : Array Value} {t : TypeId} (h : Gw w wr) (hw : w1 = wr ∨ w1 = wr.drew) (hr : w.heap.size < wr.heap.size) :
    Gw w ((setBlock w1 w.heap.size (.mapIter m s sn c)).alloc (.cells cs t)) := by
  have e : w1.heap = wr.heap ∧ w1.os = wr.os ∧ w1.output = wr.output := by rcases hw with rfl | rfl <;> exact ⟨rfl, rfl, rfl⟩
  have hsz : ((setBlock w1 w.heap.size (.mapIter m s sn c))).heap.size = wr.heap.size := by rw [set_size, e.1]
  refine ⟨by rw [size_alloc, hsz]; omega, fun b hb => ?_, ⟨e.2.1.trans h.out.1, e.2.2.trans h.out.2⟩, fun b c' t' f hx => ?_⟩
  · rw [Go.heap_alloc_old _ _ (by rw [hsz]; omega), set_ne (by omega), e.1]
    exact h.kept b hb
  · by_cases hb : b < wr.heap.size
    · rw [Go.heap_alloc_old _ _ (by rw [hsz]; omega)] at hx
      by_cases hbr : b = w.heap.size
      · subst hbr
        rw [set_at (by rw [e.1]; exact hr)] at hx
        cases hx
      · rw [set_ne hbr, e.1] at hx
        exact h.froz b c' t' f hx
    · left
      have h1 := lt_of_heap hx
      rw [size_alloc, hsz] at h1
      have : b = (setBlock w1 w.heap.size (.mapIter m s sn c)).heap.size := by omega
      subst this
      rw [Go.heap_alloc_new] at hx
      cases hx
      rfl


theorem Gw.ext {w w' : World} {β : Nat → Loc} {F : Nat → Prop} {H : Heap} (h : Gw w w') : Ext (en w β F H) (en w' β F H) where
  n := Nat.le_refl _
  β _ _ := rfl
  size := h.size
  kept b hb _ := h.kept b hb
  sub _ _ hb := hb
  F := rfl
  sz _ _ _ hm := hm
  grow b c _ f hx := ⟨c, f, (h.kept b (lt_of_heap hx)).trans hx, rfl⟩
  out := h.out
  froz b c _ f hx := (h.froz b c _ f hx).imp_right fun hx => ⟨c, hx⟩
theorem Gw.ok {w w' : World} {β : Nat → Loc} {F : Nat → Prop} {H : Heap} (h : Gw w w') (ok : HeapOk w β F H) : HeapOk w' β F H where
  obj r o hr := RepObj.mono h.ext (lt_len hr) (ok.obj r o hr) fun hb => h.kept _ (ok.lt r o hr hb).1
  lt r o hr hb := ⟨Nat.lt_of_lt_of_le (ok.lt r o hr hb).1 h.size, (ok.lt r o hr hb).2⟩
  inj := ok.inj
  F b hb := Nat.lt_of_lt_of_le (ok.F b hb) h.size

theorem many_keys {e : En} (path : ByteArray) : ∀ {l : List ((ByteArray × ByteArray) × (Int × Bool))} {es : List MapEntry}, RepEntries e (.pair .str .str) (.pair (.int .i64) .bool) true true l es →
    (∀ x ∈ es, ∃ d n, x.key = Value.agg #[Value.string d, Value.string n]) ∧ (es.filter (hit path)).length = (l.filter fun p => decide (p.1.1 = path)).length
  | [], es, h => by
    have h : es = [] := h
    subst h
    exact ⟨fun x hx => absurd hx (by simp), rfl⟩
  | p :: l, es, h => by
    obtain ⟨x, r, rfl, ⟨us, h1, h2⟩, _, h3⟩ := h
    obtain ⟨i1, i2⟩ := many_keys path h3
    obtain ⟨u, v, rfl, e1, e2⟩ := h1
    have e1 : u = [Value.string p.1.1] := e1
    have e2 : v = [Value.string p.1.2] := e2
    subst e1
    subst e2
    have hk : x.key = Value.agg #[Value.string p.1.1, Value.string p.1.2] := by simpa [RepVal] using h2
    refine ⟨fun y hy => ?_, ?_⟩
    · rcases List.mem_cons.1 hy with rfl | hy
      · exact ⟨_, _, hk⟩
      · exact i1 y hy
    · have hh : hit path x = decide (p.1.1 = path) := by unfold hit; rw [hk]; rfl
      rw [List.filter_cons, List.filter_cons, hh]
      by_cases h : p.1.1 = path
      · simp [h, i2]
      · simp [h, i2]

def many_W : Var := ⟨[.v (.ptr 0 0), .v .str], [.cells [.c (.map 1), .c (.int .i64)], .map (.pair .str .str) (.pair (.int .i64) .bool) true true],
  fun t u K => K (.sv (.v (.int .i64 (mcount t.2.1 u.2.1)))) [(.cells [(.c (.map 1)), (.c (.int .i64 u.1.2.1))]), (.map (.pair .str .str) (.pair (.int .i64) .bool) true true u.2.1)]⟩
theorem many_ent {P : Program} {f : FuncId} {fn : Func} (hf : P.funcs[f]? = some fn) (hn : (fn.name == "runtime.NumGoroutine") = false) (hb : fn.body.isNone = false)
    (h : ∀ (b0 o0 bm : Nat) (c0 : Array Value) (t0 : TypeId) (es : Array MapEntry) (clock : Nat) (path : ByteArray) (w : World), w.heap[b0]? = some (.cells c0 t0 (0, 0)) → c0[o0]? = some (.map (some bm)) →
      w.heap[bm]? = some (.map es clock) → ((∀ x ∈ es.toList, x.born < clock) ∧ (es.toList.map (·.born)).Nodup) → (∀ x ∈ es.toList, ∃ d n, x.key = .agg #[.string d, .string n]) →
      Calls P f #[.pointer (some ⟨b0, o0, none⟩), .string path] w fun e w' => e = .returned (.int .i64 (IntKind.wrap .i64 ((es.toList.filter (hit path)).length : Int))) ∧ Gw w w') : EntOK P f (.of [many_W]) := by
  refine ⟨⟨fn, hf, hn, hb⟩, fun {R w β F G args vals K x} ok ha hr => ?_⟩
  obtain ⟨v, hv, t, u, rfl, rfl, hx⟩ := runVars_some (good_heap ok) hr
  cases List.mem_singleton.1 hv
  obtain ⟨_, _, rfl, e1, _, _, rfl, e2, rfl⟩ := ha
  obtain ⟨_, rfl⟩ := e1
  cases e2
  obtain ⟨vs, h1, h2, h3⟩ := ok.obj 0 _ (show (putH many_W.g u)[0]? = some (.cells [.c (.map 1), .c (.int .i64 u.1.2.1)]) from rfl)
  obtain ⟨es, clock, hm, he, hc, hd⟩ := ok.obj 1 _ (show (putH many_W.g u)[1]? = some (.map (.pair .str .str) (.pair (.int .i64) .bool) true true u.2.1) from rfl)
  obtain ⟨V, v1, rfl, _, hV, _⟩ := h1
  obtain ⟨_, rfl⟩ := hV
  have hk : ((en w β F (putH many_W.g u)).β 0).k := Classical.byContradiction fun hk => absurd (h2 hk) (by simp [segsSize, segSize])
  obtain ⟨c, t0, pre, post, hcell, hcl, hpl⟩ := h3 hk
  obtain ⟨k1, k2⟩ := many_keys t.2.1 he
  have hco : c[((en w β F (putH many_W.g u)).β 0).o + 0]? = some (.map (some ((en w β F (putH many_W.g u)).β 1).b)) := by
    rw [← Array.getElem?_toList, hcl, Nat.add_zero, ← hpl]
    simp
  refine (h _ _ _ c t0 es clock t.2.1 w hcell hco hm ⟨hc, hd⟩ k1).mono fun e w' => ?_
  rintro ⟨he', hg⟩
  refine ⟨_, he', .sv (.v (.int .i64 (mcount t.2.1 u.2.1))), _, β, hg.ok ok, hg.ext, ?_, hx⟩
  rw [k2]
  rfl

end Go.Gx
