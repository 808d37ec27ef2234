/-
  Gx, part Y: shapes as data: entries and loops by lists of shapes; loops and functions that call themselves, by fuel.
-/
import Derived.Test.YteagdmkedffplaaGxX
namespace Go.Gx

/-- the shape of a scalar; what is open in it is its T -/
inductive Pt where
  | int (k : IntKind)
  | bool
  | str
  | ptr (r o : Nat)
  | el (r o z : Nat)
  | eptr (s : Sh) (o : Nat)
  | nilp
  | sl (r o z : Nat) (lo cap : Bool)
  | wl (r z : Nat)
  | isl (s : Sh)
  | emp
  | nils
  | map (r : Nat)
  | nilm
  | fn (f : Nat) (caps : List Nat)
  | nilf
  | undef

@[reducible] def Pt.T : Pt → Type
  | .int _ => Int
  | .bool => Bool
  | .str => ByteArray
  | .el _ _ _ => Int
  | .eptr s _ => List s.T × Int
  | .sl _ _ _ false false => Nat
  | .sl _ _ _ false true => Nat × Nat
  | .sl _ _ _ true false => Nat × Nat
  | .sl _ _ _ true true => Nat × Nat × Nat
  | .isl s => List s.T
  | _ => Unit

def Pt.put : (p : Pt) → p.T → Sc
  | .int k, n => .int k n
  | .bool, b => .bool b
  | .str, s => .str s
  | .ptr r o, _ => .ptr r o
  | .el r o z, i => .el r o i z
  | .eptr s o, t => .eptr s t.1 t.2 o
  | .nilp, _ => .nilp
  | .sl r o z false false, n => .sl r o z 0 n none
  | .sl r o z false true, t => .sl r o z 0 t.1 (some t.2)
  | .sl r o z true false, t => .sl r o z t.1 t.2 none
  | .sl r o z true true, t => .sl r o z t.1 t.2.1 (some t.2.2)
  | .wl r z, _ => .wl r z
  | .isl s, l => .isl s l
  | .emp, _ => .emp
  | .nils, _ => .nils
  | .map r, _ => .map r
  | .nilm, _ => .nilm
  | .fn f c, _ => .fn f c
  | .nilf, _ => .nilf
  | .undef, _ => .undef

def natsEq : List Nat → List Nat → Bool
  | [], [] => true
  | a :: l, b :: m => Nat.beq a b && natsEq l m
  | _, _ => false

theorem natsEq_eq : ∀ {l m : List Nat}, natsEq l m = true → l = m
  | [], [], _ => rfl
  | a :: l, b :: m, h => by
    have h : (Nat.beq a b && natsEq l m) = true := h
    rw [Bool.and_eq_true] at h
    rw [Nat.eq_of_beq_eq_true h.1, natsEq_eq h.2]
  | [], _ :: _, h => nomatch h
  | _ :: _, [], h => nomatch h

def Pt.get : (p : Pt) → Sc → Option p.T
  | .int k, x => match x with
    | .int k' n => bif decide (k' = k) then some n else none
    | _ => none
  | .bool, x => match x with
    | .bool b => some b
    | _ => none
  | .str, x => match x with
    | .str b => some b
    | _ => none
  | .ptr r o, x => match x with
    | .ptr r' o' => bif Nat.beq r' r && Nat.beq o' o then some () else none
    | _ => none
  | .el r o z, x => match x with
    | .el r' o' i z' => bif Nat.beq r' r && Nat.beq o' o && Nat.beq z' z then some i else none
    | _ => none
  | .eptr s o, x => match x with
    | .eptr s' l i o' => bif Nat.beq o' o then (if h : s' = s then some (castL h l, i) else none) else none
    | _ => none
  | .nilp, x => match x with
    | .nilp => some ()
    | _ => none
  | .sl r o z false false, x => match x with
    | .sl r' o' z' 0 n none => bif Nat.beq r' r && Nat.beq o' o && Nat.beq z' z then some n else none
    | _ => none
  | .sl r o z false true, x => match x with
    | .sl r' o' z' 0 n (some c) => bif Nat.beq r' r && Nat.beq o' o && Nat.beq z' z then some (n, c) else none
    | _ => none
  | .sl r o z true false, x => match x with
    | .sl r' o' z' lo n none => bif Nat.beq r' r && Nat.beq o' o && Nat.beq z' z then some (lo, n) else none
    | _ => none
  | .sl r o z true true, x => match x with
    | .sl r' o' z' lo n (some c) => bif Nat.beq r' r && Nat.beq o' o && Nat.beq z' z then some (lo, n, c) else none
    | _ => none
  | .wl r z, x => match x with
    | .wl r' z' => bif Nat.beq r' r && Nat.beq z' z then some () else none
    | _ => none
  | .isl s, x => match x with
    | .isl s' l => if h : s' = s then some (castL h l) else none
    | _ => none
  | .emp, x => match x with
    | .emp => some ()
    | _ => none
  | .nils, x => match x with
    | .nils => some ()
    | _ => none
  | .map r, x => match x with
    | .map r' => bif Nat.beq r' r then some () else none
    | _ => none
  | .nilm, x => match x with
    | .nilm => some ()
    | _ => none
  | .fn f c, x => match x with
    | .fn f' c' => bif Nat.beq f' f && natsEq c' c then some () else none
    | _ => none
  | .nilf, x => match x with
    | .nilf => some ()
    | _ => none
  | .undef, x => match x with
    | .undef => some ()
    | _ => none

theorem bif_some {α : Type} {b : Bool} {x : Option α} {r : α} (h : (bif b then x else none) = some r) : b = true ∧ x = some r := by
  cases b
  · cases h
  · exact ⟨rfl, h⟩

theorem Pt.get_put : ∀ {p : Pt} {x : Sc} {t : p.T}, p.get x = some t → x = p.put t := by
  intro p x t h
  cases p with
  | int k =>
    cases x <;> simp only [Pt.get] at h <;> try cases h
    obtain ⟨h1, h2⟩ := bif_some h
    cases of_decide_eq_true h1
    cases h2
    rfl
  | bool => cases x <;> simp only [Pt.get] at h <;> cases h; rfl
  | str => cases x <;> simp only [Pt.get] at h <;> cases h; rfl
  | ptr r o =>
    cases x <;> simp only [Pt.get] at h <;> try cases h
    obtain ⟨h1, h2⟩ := bif_some h
    rw [Bool.and_eq_true] at h1
    rw [Nat.eq_of_beq_eq_true h1.1, Nat.eq_of_beq_eq_true h1.2]
    rfl
  | el r o z =>
    cases x <;> simp only [Pt.get] at h <;> try cases h
    obtain ⟨h1, h2⟩ := bif_some h
    rw [Bool.and_eq_true, Bool.and_eq_true] at h1
    rw [Nat.eq_of_beq_eq_true h1.1.1, Nat.eq_of_beq_eq_true h1.1.2, Nat.eq_of_beq_eq_true h1.2]
    cases h2
    rfl
  | eptr s o =>
    cases x <;> simp only [Pt.get] at h <;> try cases h
    obtain ⟨h1, h2⟩ := bif_some h
    rw [Nat.eq_of_beq_eq_true h1]
    split at h2
    · rename_i e; cases e; cases h2; rfl
    · cases h2
  | nilp => cases x <;> simp only [Pt.get] at h <;> cases h; rfl
  | sl r o z lo cap =>
    cases x <;> cases lo <;> cases cap <;> simp only [Pt.get] at h <;> try cases h
    all_goals
      split at h
      · rename_i e
        obtain ⟨h1, h2⟩ := bif_some h
        rw [Bool.and_eq_true, Bool.and_eq_true] at h1
        cases e
        rw [Nat.eq_of_beq_eq_true h1.1.1, Nat.eq_of_beq_eq_true h1.1.2, Nat.eq_of_beq_eq_true h1.2]
        cases h2
        rfl
      · cases h
  | wl r z =>
    cases x <;> simp only [Pt.get] at h <;> try cases h
    obtain ⟨h1, h2⟩ := bif_some h
    rw [Bool.and_eq_true] at h1
    rw [Nat.eq_of_beq_eq_true h1.1, Nat.eq_of_beq_eq_true h1.2]
    rfl
  | isl s =>
    cases x <;> simp only [Pt.get] at h <;> try cases h
    split at h
    · rename_i e; cases e; cases h; rfl
    · cases h
  | emp => cases x <;> simp only [Pt.get] at h <;> cases h; rfl
  | nils => cases x <;> simp only [Pt.get] at h <;> cases h; rfl
  | map r =>
    cases x <;> simp only [Pt.get] at h <;> try cases h
    obtain ⟨h1, h2⟩ := bif_some h
    rw [Nat.eq_of_beq_eq_true h1]
    rfl
  | nilm => cases x <;> simp only [Pt.get] at h <;> cases h; rfl
  | fn f c =>
    cases x <;> simp only [Pt.get] at h <;> try cases h
    obtain ⟨h1, h2⟩ := bif_some h
    rw [Bool.and_eq_true] at h1
    rw [Nat.eq_of_beq_eq_true h1.1, natsEq_eq h1.2]
    rfl
  | nilf => cases x <;> simp only [Pt.get] at h <;> cases h; rfl
  | undef => cases x <;> simp only [Pt.get] at h <;> cases h; rfl

/-- the shape of a segment: a row's length may be open -/
inductive PSeg where
  | c (p : Pt)
  | row (s : Sh) (n : Nat)
  | rowN (s : Sh)

@[reducible] def PSeg.T : PSeg → Type
  | .c p => p.T
  | .row s _ => List s.T
  | .rowN s => Nat × List s.T

def PSeg.put : (p : PSeg) → p.T → Seg
  | .c p, t => .c (p.put t)
  | .row s n, l => .row s n l
  | .rowN s, t => .row s t.1 t.2

def PSeg.get : (p : PSeg) → Seg → Option p.T
  | .c p, x => match x with
    | .c y => p.get y
    | _ => none
  | .row s n, x => match x with
    | .row s' n' l => bif Nat.beq n' n then (if h : s' = s then some (castL h l) else none) else none
    | _ => none
  | .rowN s, x => match x with
    | .row s' n' l => if h : s' = s then some (n', castL h l) else none
    | _ => none

theorem PSeg.get_put {p : PSeg} {x : Seg} {t : p.T} (h : p.get x = some t) : x = p.put t := by
  cases p with
  | c p =>
    cases x <;> simp only [PSeg.get] at h <;> try cases h
    rw [Pt.get_put h]
    rfl
  | row s n =>
    cases x <;> simp only [PSeg.get] at h <;> try cases h
    obtain ⟨h1, h2⟩ := bif_some h
    rw [Nat.eq_of_beq_eq_true h1]
    split at h2
    · rename_i e; cases e; cases h2; rfl
    · cases h2
  | rowN s =>
    cases x <;> simp only [PSeg.get] at h <;> try cases h
    split at h
    · rename_i e; cases e; cases h; rfl
    · cases h

section
variable {P X : Type} (T : P → Type) (put : (p : P) → T p → X) (get : (p : P) → X → Option (T p))

@[reducible] def LT : List P → Type
  | [] => Unit
  | p :: r => T p × LT r

def putL : (l : List P) → LT T l → List X
  | [], _ => []
  | p :: r, t => put p t.1 :: putL r t.2

def getL : (l : List P) → List X → Option (LT T l)
  | [], xs => match xs with
    | [] => some ()
    | _ => none
  | p :: r, xs => match xs with
    | x :: xs => match get p x with
      | some t => match getL r xs with
        | some u => some (t, u)
        | none => none
      | none => none
    | [] => none

theorem getL_putL (ok : ∀ {p : P} {x : X} {t : T p}, get p x = some t → x = put p t) : ∀ {l : List P} {xs : List X} {t : LT T l}, getL T get l xs = some t → xs = putL T put l t
  | [], xs, t, h => by
    cases xs with
    | nil => rfl
    | cons => cases h
  | p :: r, xs, t, h => by
    cases xs with
    | nil => cases h
    | cons x xs =>
      simp only [getL] at h
      split at h
      · rename_i t1 h1
        split at h
        · rename_i u h2
          cases h
          rw [ok h1, getL_putL ok h2]
          rfl
        · cases h
      · cases h
end

inductive PSV where
  | v (p : Pt)
  | agg (l : List PSeg)

@[reducible] def PSV.T : PSV → Type
  | .v p => p.T
  | .agg l => LT PSeg.T l

def PSV.put : (p : PSV) → p.T → SV
  | .v p, t => .v (p.put t)
  | .agg l, t => .agg (putL PSeg.T PSeg.put l t)

def PSV.get : (p : PSV) → SV → Option p.T
  | .v p, x => match x with
    | .v y => p.get y
    | _ => none
  | .agg l, x => match x with
    | .agg m => getL PSeg.T PSeg.get l m
    | _ => none

theorem PSV.get_put {p : PSV} {x : SV} {t : p.T} (h : p.get x = some t) : x = p.put t := by
  cases p with
  | v p =>
    cases x <;> simp only [PSV.get] at h <;> try cases h
    rw [Pt.get_put h]
    rfl
  | agg l =>
    cases x <;> simp only [PSV.get] at h <;> try cases h
    rw [getL_putL PSeg.T PSeg.put PSeg.get PSeg.get_put h]
    rfl

inductive PSlot where
  | sv (p : PSV)
  | tup (l : List PSV)
  | undef

@[reducible] def PSlot.T : PSlot → Type
  | .sv p => p.T
  | .tup l => LT PSV.T l
  | .undef => Unit

def PSlot.put : (p : PSlot) → p.T → Slot
  | .sv p, t => .sv (p.put t)
  | .tup l, t => .tup (putL PSV.T PSV.put l t)
  | .undef, _ => .undef

def PSlot.get : (p : PSlot) → Slot → Option p.T
  | .sv p, x => match x with
    | .sv y => p.get y
    | _ => none
  | .tup l, x => match x with
    | .tup m => getL PSV.T PSV.get l m
    | _ => none
  | .undef, x => match x with
    | .undef => some ()
    | _ => none

theorem PSlot.get_put {p : PSlot} {x : Slot} {t : p.T} (h : p.get x = some t) : x = p.put t := by
  cases p with
  | sv p =>
    cases x <;> simp only [PSlot.get] at h <;> try cases h
    rw [PSV.get_put h]
    rfl
  | tup l =>
    cases x <;> simp only [PSlot.get] at h <;> try cases h
    rw [getL_putL PSV.T PSV.put PSV.get PSV.get_put h]
    rfl
  | undef => cases x <;> simp only [PSlot.get] at h <;> cases h; rfl

inductive PObj where
  | cells (l : List PSeg)
  | rows (s : Sh)
  | map (ks vs : Sh) (ka va : Bool)
  | dead

@[reducible] def PObj.T : PObj → Type
  | .cells l => LT PSeg.T l
  | .rows s => List s.T
  | .map ks vs _ _ => List (ks.T × vs.T)
  | .dead => Unit

def PObj.put : (p : PObj) → p.T → Obj
  | .cells l, t => .cells (putL PSeg.T PSeg.put l t)
  | .rows s, l => .cells [.row s l.length l]
  | .map ks vs ka va, l => .map ks vs ka va l
  | .dead, _ => .dead

def PObj.get : (p : PObj) → Obj → Option p.T
  | .cells l, x => match x with
    | .cells m => getL PSeg.T PSeg.get l m
    | _ => none
  | .rows s, x => match x with
    | .cells [.row s' _ l] => if h : s' = s then some (castL h l) else none
    | _ => none
  | .map ks vs ka va, x => match x with
    | .map ks' vs' ka' va' l => if h : ks' = ks ∧ vs' = vs ∧ ka' = ka ∧ va' = va then some (castM h.1 h.2.1 l) else none
    | _ => none
  | .dead, x => match x with
    | .dead => some ()
    | _ => none

/-- a row's length is that of its list -/
def GoodObj : Obj → Prop
  | .cells [.row _ n l] => l.length = n
  | _ => True

theorem PObj.get_put {p : PObj} {x : Obj} {t : p.T} (hg : GoodObj x) (h : p.get x = some t) : x = p.put t := by
  cases p with
  | rows s =>
    cases x with
    | cells m =>
      match m, h with
      | [.row s' n l], h =>
        simp only [PObj.get] at h
        split at h
        · rename_i e
          subst e
          cases h
          have hg : l.length = n := hg
          subst hg
          rfl
        · cases h
      | [], h => cases h
      | [.c _], h => cases h
      | .c _ :: _ :: _, h => cases h
      | .row _ _ _ :: _ :: _, h => cases h
    | map => cases h
    | dead => cases h
  | cells l =>
    cases x <;> simp only [PObj.get] at h <;> try cases h
    rw [getL_putL PSeg.T PSeg.put PSeg.get PSeg.get_put h]
    rfl
  | map ks vs ka va =>
    cases x <;> simp only [PObj.get] at h <;> try cases h
    split at h
    · rename_i e
      obtain ⟨e1, e2, e3, e4⟩ := e
      cases e1; cases e2; cases e3; cases e4
      cases h
      rfl
    · cases h
  | dead => cases x <;> simp only [PObj.get] at h <;> cases h; rfl

abbrev ArgT (l : List PSV) := LT PSV.T l
abbrev HeapT (l : List PObj) := LT PObj.T l
abbrev SlotT (l : List PSlot) := LT PSlot.T l
def putA (l : List PSV) (t : ArgT l) : List SV := putL PSV.T PSV.put l t
def putH (l : List PObj) (t : HeapT l) : Heap := putL PObj.T PObj.put l t
def putS' (l : List PSlot) (t : SlotT l) : List Slot := putL PSlot.T PSlot.put l t
def getA (l : List PSV) (x : List SV) : Option (ArgT l) := getL PSV.T PSV.get l x
def getH (l : List PObj) (x : Heap) : Option (HeapT l) := getL PObj.T PObj.get l x
def getS' (l : List PSlot) (x : List Slot) : Option (SlotT l) := getL PSlot.T PSlot.get l x

theorem getH_putH : ∀ {l : List PObj} {xs : Heap} {t : HeapT l}, (∀ x ∈ xs, GoodObj x) → getH l xs = some t → xs = putH l t
  | [], xs, t, _, h => by
    cases xs with
    | nil => rfl
    | cons => cases h
  | p :: r, xs, t, hg, h => by
    cases xs with
    | nil => cases h
    | cons x xs =>
      simp only [getH, getL] at h
      split at h
      · rename_i t1 h1
        split at h
        · rename_i u h2
          cases h
          rw [PObj.get_put (hg x (by simp)) h1, getH_putH (fun y hy => hg y (List.mem_cons_of_mem _ hy)) h2]
          rfl
        · cases h
      · cases h

theorem good_heap {w : World} {β : Nat → Loc} {F : Nat → Prop} {H : Heap} (ok : HeapOk w β F H) : ∀ x ∈ H, GoodObj x := fun x hx => by
  obtain ⟨r, hr⟩ := List.mem_iff_getElem?.1 hx
  unfold GoodObj
  split
  · obtain ⟨vs, ⟨hn, _⟩, _⟩ := ok.obj r _ hr
    exact hn
  · trivial

/-! ### entries by shapes -/
structure Var where
  a : List PSV
  g : List PObj
  m : {R : Type} → ArgT a → HeapT g → (Slot → Heap → Option R) → Option R

def runVars {R : Type} : List Var → List SV → Heap → (Slot → Heap → Option R) → Option R
  | [], _, _, _ => none
  | v :: r, args, G, K => match getA v.a args with
    | some t => match getH v.g G with
      | some u => v.m t u K
      | none => runVars r args G K
    | none => runVars r args G K

def Ent.of (l : List Var) : Ent := ⟨fun args G K => runVars l args G K⟩

theorem runVars_some {R : Type} {args : List SV} {G : Heap} {K : Slot → Heap → Option R} {x : R} (hg : ∀ x ∈ G, GoodObj x) : ∀ {l : List Var}, runVars l args G K = some x → ∃ v ∈ l, ∃ t u, args = putA v.a t ∧ G = putH v.g u ∧ v.m t u K = some x
  | v :: r, h => by
    have ih : runVars r args G K = some x → ∃ v' ∈ v :: r, ∃ t u, args = putA v'.a t ∧ G = putH v'.g u ∧ v'.m t u K = some x := fun h => by
      obtain ⟨v', h1, h2⟩ := runVars_some hg h
      exact ⟨v', List.mem_cons_of_mem _ h1, h2⟩
    simp only [runVars] at h
    split at h
    · rename_i t ht
      split at h
      · rename_i u hu
        exact ⟨v, List.mem_cons_self .., t, u, getL_putL PSV.T PSV.put PSV.get PSV.get_put ht, getH_putH hg hu, h⟩
      · exact ih h
    · exact ih h

section
variable {P : Program} {T : Table}

theorem putH_length : ∀ {l : List PObj} {t : HeapT l}, (putH l t).length = l.length
  | [], _ => rfl
  | _ :: r, t => congrArg (· + 1) (putH_length (l := r) (t := t.2))

/-- a body and its loops bear a shape out -/
def VarOK (P : Program) (T : Table) (fn : Func) (c : Code) (v : Var) : Prop := ∃ (pl : Plan) (ls : Nat → LSpec), LoopsOK P ⟨v.g.length, fn.ntmps, ls, pl.rows⟩ c 0 ∧
  ∀ {R : Type} (t : ArgT v.a) (u : HeapT v.g) (K : Slot → Heap → Option R), exBody P T fn pl ls (putA v.a t) (putH v.g u) K = v.m t u K

theorem EntOK.vars (hT : TabOK P T) {f : FuncId} {fn : Func} {c : Code} (hf : P.funcs[f]? = some fn) (hn : (fn.name == "runtime.NumGoroutine") = false) (hb : fn.body = some c) {l : List Var}
    (h : ∀ v ∈ l, VarOK P T fn c v) : EntOK P f (.of l) := by
  refine ⟨⟨fn, hf, hn, by rw [hb]; rfl⟩, fun {R w β F G args vs K x} ok ha hr => ?_⟩
  obtain ⟨v, hv, t, u, rfl, rfl, hx⟩ := runVars_some (good_heap ok) hr
  obtain ⟨pl, ls, hL, he⟩ := h v hv
  exact exBody_calls' hT hf hb (by rw [putH_length]; exact hL) ((he t u K).trans hx) ok ha

/-- an entry that says nothing -/
theorem EntOK.void {f : FuncId} {fn : Func} (hf : P.funcs[f]? = some fn) (hn : (fn.name == "runtime.NumGoroutine") = false) (hb : fn.body.isNone = false) {l : List Var}
    (h : ∀ v ∈ l, ∀ (t : ArgT v.a) (u : HeapT v.g) {R : Type} (K : Slot → Heap → Option R), v.m t u K = none) : EntOK P f (.of l) := by
  refine ⟨⟨fn, hf, hn, hb⟩, fun {R w β F G args vs K x} ok ha hr => ?_⟩
  obtain ⟨v, hv, t, u, rfl, rfl, hx⟩ := runVars_some (good_heap ok) hr
  rw [h v hv t u K] at hx
  cases hx

/-! ### loops by shapes and fuel -/
structure LVar where
  a : List PSlot
  g : List PObj
  m : {R : Type} → Nat → SlotT a → HeapT g → (Exit → List Slot → Heap → Option R) → Option R

structure Fam where
  k : LK
  l : List LVar

def runLVars {R : Type} (n : Nat) : List LVar → List Slot → Heap → (Exit → List Slot → Heap → Option R) → Option R
  | [], _, _, _ => none
  | v :: r, sl, G, K => match getS' v.a sl with
    | some t => match getH v.g G with
      | some u => v.m n t u K
      | none => runLVars n r sl G K
    | none => runLVars n r sl G K

def Fam.at (F : Fam) (n : Nat) : LSpec := ⟨F.k, fun sl G K => runLVars n F.l sl G K⟩

theorem runLVars_some {R : Type} {n : Nat} {sl : List Slot} {G : Heap} {K : Exit → List Slot → Heap → Option R} {x : R} (hg : ∀ x ∈ G, GoodObj x) : ∀ {l : List LVar}, runLVars n l sl G K = some x → ∃ v ∈ l, ∃ t u, sl = putS' v.a t ∧ G = putH v.g u ∧ v.m n t u K = some x
  | v :: r, h => by
    have ih : runLVars n r sl G K = some x → ∃ v' ∈ v :: r, ∃ t u, sl = putS' v'.a t ∧ G = putH v'.g u ∧ v'.m n t u K = some x := fun h => by
      obtain ⟨v', h1, h2⟩ := runLVars_some hg h
      exact ⟨v', List.mem_cons_of_mem _ h1, h2⟩
    simp only [runLVars] at h
    split at h
    · rename_i t ht
      split at h
      · rename_i u hu
        exact ⟨v, List.mem_cons_self .., t, u, getL_putL PSlot.T PSlot.put PSlot.get PSlot.get_put ht, getH_putH hg hu, h⟩
      · exact ih h
    · exact ih h

/-- a piece of code by number: a loop's body, or what is cut off; where its own numbers begin -/
structure At where
  cut : Bool
  num : Nat
  code : Code

/-- how a round goes on -/
def onward {R : Type} (C : Ctx) (cut : Bool) (k : LK) (again : List Slot → Heap → Option R) (K : Exit → List Slot → Heap → Option R) (e : Exit) (fr : Fr) (H : Heap) : Option R := match e with
  | .normal => match cut with
    | true => view C k.out k.po fr H fun sl G => K .normal sl G
    | false => view C k.keep k.pk fr H again
  | e => view C k.out k.po fr H fun sl G => K e sl G

/-- one round of a loop; a piece -/
def exRound {R : Type} (P : Program) (T : Table) (C : Ctx) (A : At) (k : LK) (sl : List Slot) (G : Heap) (again : List Slot → Heap → Option R) (K : Exit → List Slot → Heap → Option R) : Option R :=
  exCode P T C A.code A.num (ofView C k.keep sl) G (onward C A.cut k again K)

/-- the rule for a loop with fuel -/
theorem LoopOK.fam (hT : TabOK P T) {C : Ctx} {b : Code} {n : Nat} (hL : LoopsOK P C b n) (L : Nat → LSpec) (k : LK) (hk : ∀ m, (L m).k = k)
    (h0 : ∀ {R : Type} (sl : List Slot) (G : Heap) (K : Exit → List Slot → Heap → Option R), (L 0).run sl G K = none)
    (h : ∀ {R : Type} (m : Nat) (K : Exit → List Slot → Heap → Option R) (x : R) (sl : List Slot) (G : Heap), (∀ y ∈ G, GoodObj y) → (L (m + 1)).run sl G K = some x →
      exRound P T C ⟨false, n, b⟩ k sl G (fun sl G => (L m).run sl G K) K = some x) (N : Nat) : LoopOK P C b (L N) := by
  intro R w β F G a sl K x e0 hR hE hp hrun
  rw [hk] at hR ⊢
  let I : Act → World → Nat → Prop := fun a w m => ∃ sl G β, Rel w β F G (ofView C k.keep sl) a ∧ Ext e0 (en w β F G) ∧ (L m).run sl G K = some x
  have hI : ∃ m, I a w m := ⟨N, sl, G, β, hR, hE, hrun⟩
  classical
  let ν : Act → World → Nat := fun a w => if h : ∃ m, I a w m then Classical.choose (least h) else 0
  have hν : ∀ a w (h : ∃ m, I a w m), I a w (ν a w) ∧ ∀ m, I a w m → ν a w ≤ m := fun a w h => by
    have e : ν a w = Classical.choose (least h) := dif_pos h
    rw [e]
    exact Classical.choose_spec (least h)
  refine wp_loop (fun a w => ∃ m, I a w m) ν hI fun a w hIw => ?_
  obtain ⟨⟨sl, G, β, hR, hE, hrun⟩, _⟩ := hν a w hIw
  obtain ⟨m, hm⟩ : ∃ m, ν a w = m + 1 := by
    cases hz : ν a w with
    | zero => rw [hz, h0] at hrun; cases hrun
    | succ m => exact ⟨m, rfl⟩
  rw [hm] at hrun ⊢
  have hrun' : exCode P T C b n (ofView C k.keep sl) G (onward C false k (fun sl G => (L m).run sl G K) K) = some x := h m K x sl G (good_heap hR.ok) hrun
  refine wp_mono (exCode_wp hT hp b n hL hrun' hR hE) fun e a' w' => ?_
  rintro ⟨fr', H', β', h1, h2, h3⟩
  cases e with
  | normal =>
    obtain ⟨sl', G', β2, q1, q2, q3⟩ := view_ok h3 h1 h2 hp
    have q3 : (L m).run sl' G' K = some x := q3
    have hI' : ∃ m, I a' w' m := ⟨_, sl', G', β2, q1, q2, q3⟩
    exact ⟨hI', Nat.lt_succ_of_le ((hν a' w' hI').2 _ ⟨sl', G', β2, q1, q2, q3⟩)⟩
  | exit i =>
    obtain ⟨sl', G', β2, q1, q2, q3⟩ := view_ok h3 h1 h2 hp
    exact ⟨sl', G', β2, q1, q2, q3⟩
  | goto l =>
    obtain ⟨sl', G', β2, q1, q2, q3⟩ := view_ok h3 h1 h2 hp
    exact ⟨sl', G', β2, q1, q2, q3⟩
  | ret =>
    obtain ⟨sl', G', β2, q1, q2, q3⟩ := view_ok h3 h1 h2 hp
    exact ⟨sl', G', β2, q1, q2, q3⟩
  | panic ch =>
    obtain ⟨sl', G', β2, q1, q2, q3⟩ := view_ok h3 h1 h2 hp
    exact ⟨sl', G', β2, q1, q2, q3⟩
  | outgrown =>
    obtain ⟨sl', G', β2, q1, q2, q3⟩ := view_ok h3 h1 h2 hp
    exact ⟨sl', G', β2, q1, q2, q3⟩

/-- the rule for a piece -/
theorem CutOK.fam (hT : TabOK P T) {C : Ctx} {b : Code} {n : Nat} (hL : LoopsOK P C b n) (L : LSpec)
    (h : ∀ {R : Type} (K : Exit → List Slot → Heap → Option R) (x : R) (sl : List Slot) (G : Heap), (∀ y ∈ G, GoodObj y) → L.run sl G K = some x →
      ∃ again, exRound P T C ⟨true, n, b⟩ L.k sl G again K = some x) : CutOK P C b L := by
  intro R w β F G a sl K x e0 hR hE hp hrun
  obtain ⟨again, h⟩ := h K x sl G (good_heap hR.ok) hrun
  have h : exCode P T C b n (ofView C L.k.keep sl) G (onward C true L.k again K) = some x := h
  refine wp_mono (exCode_wp hT hp b n hL h hR hE) fun e a' w' => ?_
  rintro ⟨fr', H', β', h1, h2, h3⟩
  cases e with
  | normal =>
    obtain ⟨sl', G', β2, q1, q2, q3⟩ := view_ok h3 h1 h2 hp
    exact ⟨sl', G', β2, q1, q2, q3⟩
  | exit i =>
    obtain ⟨sl', G', β2, q1, q2, q3⟩ := view_ok h3 h1 h2 hp
    exact ⟨sl', G', β2, q1, q2, q3⟩
  | goto l =>
    obtain ⟨sl', G', β2, q1, q2, q3⟩ := view_ok h3 h1 h2 hp
    exact ⟨sl', G', β2, q1, q2, q3⟩
  | ret =>
    obtain ⟨sl', G', β2, q1, q2, q3⟩ := view_ok h3 h1 h2 hp
    exact ⟨sl', G', β2, q1, q2, q3⟩
  | panic ch =>
    obtain ⟨sl', G', β2, q1, q2, q3⟩ := view_ok h3 h1 h2 hp
    exact ⟨sl', G', β2, q1, q2, q3⟩
  | outgrown =>
    obtain ⟨sl', G', β2, q1, q2, q3⟩ := view_ok h3 h1 h2 hp
    exact ⟨sl', G', β2, q1, q2, q3⟩

/-- a piece of code, by its number; n: the number at which the code begins -/
def loopAt : Code → Nat → Nat → Option At
  | .seq a b, n, 0 => some ⟨true, n + 1 + loops a, b⟩
  | .seq a b, n, i + 1 => bif Nat.blt i (loops a) then loopAt a (n + 1) i else loopAt b (n + 1 + loops a) (i - loops a)
  | .cond _ a b, n, i => bif Nat.blt i (loops a) then loopAt a n i else loopAt b (n + loops a) (i - loops a)
  | .block _ b, n, i => loopAt b n i
  | .loop b, n, 0 => some ⟨false, n + 1, b⟩
  | .loop b, n, i + 1 => loopAt b (n + 1) i
  | _, _, _ => none

def bodyAt (f : Func) (i : Nat) : At := match f.body with
  | some c => match loopAt c 0 i with
    | some b => b
    | none => ⟨true, 0, .skip⟩
  | none => ⟨true, 0, .skip⟩

/-- a loop's shapes are borne out by its body -/
def LV (P : Program) (T : Table) (C : Ctx) (A : At) (F : Fam) (v : LVar) : Prop :=
  ((∀ {R : Type} (t : SlotT v.a) (u : HeapT v.g) (K : Exit → List Slot → Heap → Option R), v.m 0 t u K = none) ∨
    (A.cut = true ∧ ∀ {R : Type} (n : Nat) (t : SlotT v.a) (u : HeapT v.g) (K : Exit → List Slot → Heap → Option R), v.m n t u K = v.m (n + 1) t u K)) ∧
  ∀ {R : Type} (n : Nat) (t : SlotT v.a) (u : HeapT v.g) (K : Exit → List Slot → Heap → Option R),
    exRound P T C A F.k (putS' v.a t) (putH v.g u) (fun sl G => runLVars n F.l sl G K) K = v.m (n + 1) t u K

def LStep (P : Program) (T : Table) (C : Ctx) (A : At) (F : Fam) : Prop := ∀ v ∈ F.l, LV P T C A F v

theorem runLVars_zero {R : Type} {sl : List Slot} {G : Heap} {K : Exit → List Slot → Heap → Option R} : ∀ {l : List LVar},
    (∀ v ∈ l, ∀ {R : Type} (t : SlotT v.a) (u : HeapT v.g) (K : Exit → List Slot → Heap → Option R), v.m 0 t u K = none) → runLVars 0 l sl G K = none
  | [], _ => rfl
  | v :: r, h => by
    have ih : runLVars 0 r sl G K = none := runLVars_zero fun v' hv' => h v' (List.mem_cons_of_mem _ hv')
    simp only [runLVars]
    split
    · split
      · exact h v (List.mem_cons_self ..) _ _ _
      · exact ih
    · exact ih

theorem Fam.ok (hT : TabOK P T) {C : Ctx} {b : Code} {n : Nat} {F : Fam} (hL : LoopsOK P C b n) (h : LStep P T C ⟨false, n, b⟩ F) (N : Nat) : LoopOK P C b (F.at N) := by
  refine LoopOK.fam hT hL F.at F.k (fun _ => rfl) (fun {R} sl G K => ?_) (fun {R} m K x sl G hg hr => ?_) N
  · exact runLVars_zero fun v hv {R} t u K => by
      rcases (h v hv).1 with h0 | ⟨hc, _⟩
      · exact h0 t u K
      · cases hc
  · obtain ⟨v, hv, t, u, rfl, rfl, hx⟩ := runLVars_some hg hr
    exact ((h v hv).2 m t u K).trans hx

theorem Fam.cut (hT : TabOK P T) {C : Ctx} {b : Code} {n : Nat} {F : Fam} (hL : LoopsOK P C b n) (h : LStep P T C ⟨true, n, b⟩ F) (N : Nat) : CutOK P C b (F.at N) := by
  refine CutOK.fam hT hL (F.at N) fun {R} K x sl G hg hr => ?_
  have hr : runLVars N F.l sl G K = some x := hr
  obtain ⟨v, hv, t, u, rfl, rfl, hx⟩ := runLVars_some hg hr
  rcases (h v hv).1 with h0 | ⟨_, h1⟩
  · cases N with
    | zero => rw [h0] at hx; cases hx
    | succ m => exact ⟨_, ((h v hv).2 m t u K).trans hx⟩
  · exact ⟨_, ((h v hv).2 N t u K).trans ((h1 N t u K).symm.trans hx)⟩

theorem blt_false {a i : Nat} (h : ¬ i < a) : Nat.blt i a = false := by
  cases hb : Nat.blt i a with
  | false => rfl
  | true => rw [Nat.blt_eq] at hb; exact absurd hb h

theorem loopAt_lt : ∀ {c : Code} {n i : Nat} {A : At}, loopAt c n i = some A → i < loops c := by
  intro c
  induction c with
  | seq a b iha ihb =>
    intro n i A h
    cases i with
    | zero => simp only [loops]; omega
    | succ i =>
      simp only [loopAt] at h
      simp only [loops]
      cases hb : Nat.blt i (loops a) with
      | true => rw [hb] at h; have := iha h; omega
      | false => rw [hb] at h; have := ihb h; omega
  | cond o a b iha ihb =>
    intro n i A h
    simp only [loopAt] at h
    simp only [loops]
    cases hb : Nat.blt i (loops a) with
    | true => rw [hb] at h; have := iha h; omega
    | false => rw [hb] at h; have := ihb h; omega
  | block id b ih => intro n i A h; exact ih h
  | loop b ih =>
    intro n i A h
    cases i with
    | zero => simp [loops]
    | succ i => have := ih (i := i) h; simp only [loops]; omega
  | _ => intro n i A h; simp [loopAt] at h

theorem loops_ok (hT : TabOK P T) {C : Ctx} (F : Nat → Fam) (N : Nat) (hC : ∀ i, C.loop i = (F i).at N) : ∀ (c : Code) (n : Nat), (∀ i A, loopAt c n i = some A → LStep P T C A (F (n + i))) → LoopsOK P C c n := by
  intro c
  induction c with
  | seq a b iha ihb =>
    intro n h
    have hb : LoopsOK P C b (n + 1 + loops a) := ihb _ fun i A hd => by
      have h1 := h (loops a + i + 1) A (by
        simp only [loopAt, blt_false (show ¬ loops a + i < loops a by omega), cond_false, Nat.add_sub_cancel_left]
        exact hd)
      rw [show n + (loops a + i + 1) = n + 1 + loops a + i by omega] at h1
      exact h1
    refine ⟨?_, iha (n + 1) fun i A hd => ?_, hb⟩
    · show CutOK P C b (C.loop n)
      rw [hC]
      exact Fam.cut hT hb (h 0 ⟨true, n + 1 + loops a, b⟩ rfl) N
    · have hlt : i < loops a := loopAt_lt hd
      have h1 := h (i + 1) A (by
        simp only [loopAt, show Nat.blt i (loops a) = true by rw [Nat.blt_eq]; exact hlt, cond_true]
        exact hd)
      rw [show n + (i + 1) = n + 1 + i by omega] at h1
      exact h1
  | cond o a b iha ihb =>
    intro n h
    refine ⟨iha n fun i d hd => h i d ?_, ihb _ fun i d hd => ?_⟩
    · have hlt : i < loops a := loopAt_lt hd
      simp only [loopAt, show Nat.blt i (loops a) = true by rw [Nat.blt_eq]; exact hlt, cond_true]
      exact hd
    · have h1 := h (loops a + i) d (by simp only [loopAt, blt_false (show ¬ loops a + i < loops a by omega), cond_false, Nat.add_sub_cancel_left]; exact hd)
      rw [← Nat.add_assoc] at h1
      exact h1
  | block id b ih => exact fun n h => ih n h
  | loop b ih =>
    intro n h
    show LoopOK P C b (C.loop n)
    rw [hC]
    refine Fam.ok hT (ih (n + 1) fun i d hd => ?_) (h 0 _ rfl) N
    have := h (i + 1) d hd
    rw [show n + (i + 1) = n + 1 + i by omega] at this
    exact this
  | _ => intro n h; trivial

def noFam : Fam := ⟨⟨false, [], [], ⟨[], [], []⟩, ⟨[], [], []⟩⟩, []⟩
def codeOf (f : Func) : Code := match f.body with
  | some c => c
  | none => .skip

theorem steps_of {f : Func} {C : Ctx} {F : Nat → Fam} (hb : f.body = some (codeOf f)) (h : ∀ i, LStep P T C (bodyAt f i) (F i)) : ∀ i A, loopAt (codeOf f) 0 i = some A → LStep P T C A (F (0 + i)) := fun i A hb' => by
  have := h i
  unfold bodyAt at this
  rw [hb] at this
  simp only [hb'] at this
  rw [Nat.zero_add]
  exact this

theorem LStep.none {C : Ctx} {A : At} : LStep P T C A noFam := fun _ hv => nomatch hv

theorem LStep.pick {f : Func} {C : Ctx} {i k : Nat} {A B : Fam} (h1 : LStep P T C (bodyAt f k) A) (h2 : LStep P T C (bodyAt f i) B) : LStep P T C (bodyAt f i) (bif Nat.beq i k then A else B) := by
  cases h : Nat.beq i k with
  | true => cases Nat.eq_of_beq_eq_true h; exact h1
  | false => exact h2

/-- a shape is borne out -/
theorem VarOK.of (hT : TabOK P T) {f : Func} {v : Var} (hb : f.body = some (codeOf f)) (pl : Plan) (F : Nat → Fam) (N : Nat) (hF : ∀ i, LStep P T ⟨v.g.length, f.ntmps, fun i => (F i).at N, pl.rows⟩ (bodyAt f i) (F i))
    (h : ∀ {R : Type} (t : ArgT v.a) (u : HeapT v.g) (K : Slot → Heap → Option R), exBody P T f pl (fun i => (F i).at N) (putA v.a t) (putH v.g u) K = v.m t u K) : VarOK P T f (codeOf f) v :=
  ⟨pl, fun i => (F i).at N, loops_ok hT F N (fun _ => rfl) _ 0 (steps_of hb hF), h⟩

theorem all_nil {α : Type 1} {p : α → Prop} : ∀ v ∈ ([] : List α), p v := fun _ h => nomatch h
theorem all_cons {α : Type 1} {p : α → Prop} {a : α} {l : List α} (h : p a) (k : ∀ v ∈ l, p v) : ∀ v ∈ a :: l, p v := fun v hv => by
  cases hv with
  | head => exact h
  | tail _ hv => exact k v hv

/-- a string, by its bytes -/
def bs (l : List UInt8) : ByteArray := ⟨l.toArray⟩

end
end Go.Gx
