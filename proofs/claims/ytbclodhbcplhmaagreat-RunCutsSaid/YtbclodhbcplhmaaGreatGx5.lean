/-
  Gx, part Y: shapes as data: entries and loops by lists of shapes; loops and functions that call themselves, by fuel.
  Gx, part Z: entries for functions of Go's library whose contracts the kit holds.
  Gx, part R: plain facts for the printed functions: tests, wrapping, strings, lists, maps.
  short forms of what the printed texts say again and again
-/
import Derived.Test.YtbclodhbcplhmaaGreatGx4
import Derived.Shelf.Strings.Search1
import Derived.IntWalk
namespace Go.Gx
inductive Pt where
 | int (k : IntKind)
 | bool
 | str
 | ptr (r o : Nat)
 | el (r o z : Nat)
 | eptr (s : Sh) (o : Nat)
 | nilp
 | sl (r o z : Nat) (lo cap : Bool)
 | wl (r z : Nat)
 | isl (s : Sh)
 | emp
 | nils
 | map (r : Nat)
 | nilm
 | fn (f : Nat) (caps : List Nat)
 | nilf
 | undef
 | rf (k : Bool) (t : Nat)
 | pi0 (t o : Nat)
 | pi (t z o : Nat)
 | ps (t z : Nat)
@[reducible] def Pt.T : Pt → Type
 | .int _ => Int
 | .bool => Bool
 | .str => ByteArray
 | .el _ _ _ => Int
 | .eptr s _ => List s.T × Int
 | .sl _ _ _ false false => Nat
 | .sl _ _ _ false true => Nat × Nat
 | .sl _ _ _ true false => Nat × Nat
 | .sl _ _ _ true true => Nat × Nat × Nat
 | .isl s => List s.T
 | .rf _ _ => Int
 | .pi0 _ _ => Int
 | .pi _ _ _ => Int × Int
 | .ps _ _ => Int × Nat × Nat
 | _ => Unit
def Pt.put : (p : Pt) → p.T → Sc
 | .int k, n => .int k n
 | .bool, b => .bool b
 | .str, s => .str s
 | .ptr r o, _ => .ptr r o
 | .el r o z, i => .el r o i z
 | .eptr s o, t => .eptr s t.1 t.2 o
 | .nilp, _ => .nilp
 | .sl r o z false false, n => .sl r o z 0 n none
 | .sl r o z false true, t => .sl r o z 0 t.1 (some t.2)
 | .sl r o z true false, t => .sl r o z t.1 t.2 none
 | .sl r o z true true, t => .sl r o z t.1 t.2.1 (some t.2.2)
 | .wl r z, _ => .wl r z
 | .isl s, l => .isl s l
 | .emp, _ => .emp
 | .nils, _ => .nils
 | .map r, _ => .map r
 | .nilm, _ => .nilm
 | .fn f c, _ => .fn f c
 | .nilf, _ => .nilf
 | .undef, _ => .undef
 | .rf k t, i => .rf k t i
 | .pi0 t o, i => .pi t i 0 0 o
 | .pi t z o, p => .pi t p.1 p.2 z o
 | .ps t z, p => .ps t p.1 z p.2.1 p.2.2
def natsEq : List Nat → List Nat → Bool
 | [], [] => true
 | a :: l, b :: m => Nat.beq a b && natsEq l m
 | _, _ => false
theorem natsEq_eq : ∀ {l m : List Nat}, natsEq l m = true → l = m
 | [], [], _ => rfl
 | a :: l, b :: m, h => by
  have h : (Nat.beq a b && natsEq l m) = true := h
  rw [Bool.and_eq_true] at h
  rw [Nat.eq_of_beq_eq_true h.1, natsEq_eq h.2]
 | [], _ :: _, h => nomatch h
 | _ :: _, [], h => nomatch h
def Pt.get : (p : Pt) → Sc → Option p.T
 | .int k, x => match x with
  | .int k' n => bif decide (k' = k) then some n else none
  | _ => none
 | .bool, x => match x with
  | .bool b => some b
  | _ => none
 | .str, x => match x with
  | .str b => some b
  | _ => none
 | .ptr r o, x => match x with
  | .ptr r' o' => bif Nat.beq r' r && Nat.beq o' o then some () else none
  | _ => none
 | .el r o z, x => match x with
  | .el r' o' i z' => bif Nat.beq r' r && Nat.beq o' o && Nat.beq z' z then some i else none
  | _ => none
 | .eptr s o, x => match x with
  | .eptr s' l i o' => bif Nat.beq o' o then (if h : s' = s then some (castL h l, i) else none) else none
  | _ => none
 | .nilp, x => match x with
  | .nilp => some ()
  | _ => none
 | .sl r o z false false, x => match x with
  | .sl r' o' z' lo n none => (match lo with
   | 0 => bif Nat.beq r' r && Nat.beq o' o && Nat.beq z' z then some n else none
   | _ + 1 => none)
  | _ => none
 | .sl r o z false true, x => match x with
  | .sl r' o' z' lo n (some c) => (match lo with
   | 0 => bif Nat.beq r' r && Nat.beq o' o && Nat.beq z' z then some (n, c) else none
   | _ + 1 => none)
  | _ => none
 | .sl r o z true false, x => match x with
  | .sl r' o' z' lo n none => bif Nat.beq r' r && Nat.beq o' o && Nat.beq z' z then some (lo, n) else none
  | _ => none
 | .sl r o z true true, x => match x with
  | .sl r' o' z' lo n (some c) => bif Nat.beq r' r && Nat.beq o' o && Nat.beq z' z then some (lo, n, c) else none
  | _ => none
 | .wl r z, x => match x with
  | .wl r' z' => bif Nat.beq r' r && Nat.beq z' z then some () else none
  | _ => none
 | .isl s, x => match x with
  | .isl s' l => if h : s' = s then some (castL h l) else none
  | _ => none
 | .emp, x => match x with
  | .emp => some ()
  | _ => none
 | .nils, x => match x with
  | .nils => some ()
  | _ => none
 | .map r, x => match x with
  | .map r' => bif Nat.beq r' r then some () else none
  | _ => none
 | .nilm, x => match x with
  | .nilm => some ()
  | _ => none
 | .fn f c, x => match x with
  | .fn f' c' => bif Nat.beq f' f && natsEq c' c then some () else none
  | _ => none
 | .nilf, x => match x with
  | .nilf => some ()
  | _ => none
 | .undef, x => match x with
  | .undef => some ()
  | _ => none
 | .rf k t, x => match x with
  | .rf k' t' i => bif (k' == k) && Nat.beq t' t then some i else none
  | _ => none
 | .pi0 t o, x => match x with
  | .pi t' i j z' o' => (match z' with
   | 0 => (match j with
    | .ofNat 0 => bif Nat.beq t' t && Nat.beq o' o then some i else none
    | _ => none)
   | _ + 1 => none)
  | _ => none
 | .pi t z o, x => match x with
  | .pi t' i j z' o' => bif Nat.beq t' t && Nat.beq z' z && Nat.beq o' o then some (i, j) else none
  | _ => none
 | .ps t z, x => match x with
  | .ps t' i z' lo len => bif Nat.beq t' t && Nat.beq z' z then some (i, lo, len) else none
  | _ => none
theorem bif_some {α : Type} {b : Bool} {x : Option α} {r : α} (h : (bif b then x else none) = some r) : b = true ∧ x = some r := by
 cases b
 ·cases h
 ·exact ⟨rfl, h⟩
theorem Pt.get_put : ∀ {p : Pt} {x : Sc} {t : p.T}, p.get x = some t → x = p.put t := by
 intro p x t h
 cases p with
 | int k =>
  cases x <;> simp only [Pt.get] at h <;> try cases h
  obtain ⟨h1, h2⟩ := bif_some h
  cases of_decide_eq_true h1
  cases h2
  rfl
 | bool => cases x <;> simp only [Pt.get] at h <;> cases h; rfl
 | str => cases x <;> simp only [Pt.get] at h <;> cases h; rfl
 | ptr r o =>
  cases x <;> simp only [Pt.get] at h <;> try cases h
  obtain ⟨h1, h2⟩ := bif_some h
  rw [Bool.and_eq_true] at h1
  rw [Nat.eq_of_beq_eq_true h1.1, Nat.eq_of_beq_eq_true h1.2]
  rfl
 | el r o z =>
  cases x <;> simp only [Pt.get] at h <;> try cases h
  obtain ⟨h1, h2⟩ := bif_some h
  rw [Bool.and_eq_true, Bool.and_eq_true] at h1
  rw [Nat.eq_of_beq_eq_true h1.1.1, Nat.eq_of_beq_eq_true h1.1.2, Nat.eq_of_beq_eq_true h1.2]
  cases h2
  rfl
 | eptr s o =>
  cases x <;> simp only [Pt.get] at h <;> try cases h
  obtain ⟨h1, h2⟩ := bif_some h
  rw [Nat.eq_of_beq_eq_true h1]
  split at h2
  ·rename_i e; cases e; cases h2; rfl
  ·cases h2
 | nilp => cases x <;> simp only [Pt.get] at h <;> cases h; rfl
 | sl r o z lo cap =>
  cases x <;> cases lo <;> cases cap <;> simp only [Pt.get] at h <;> try cases h
  all_goals
   split at h
   ·rename_i e
    cases e
    first
     |split at h
      ·obtain ⟨h1, h2⟩ := bif_some h
       rw [Bool.and_eq_true, Bool.and_eq_true] at h1
       rw [Nat.eq_of_beq_eq_true h1.1.1, Nat.eq_of_beq_eq_true h1.1.2, Nat.eq_of_beq_eq_true h1.2]
       cases h2
       rfl
      ·cases h
     |obtain ⟨h1, h2⟩ := bif_some h
      rw [Bool.and_eq_true, Bool.and_eq_true] at h1
      rw [Nat.eq_of_beq_eq_true h1.1.1, Nat.eq_of_beq_eq_true h1.1.2, Nat.eq_of_beq_eq_true h1.2]
      cases h2
      rfl
   ·cases h
 | wl r z =>
  cases x <;> simp only [Pt.get] at h <;> try cases h
  obtain ⟨h1, h2⟩ := bif_some h
  rw [Bool.and_eq_true] at h1
  rw [Nat.eq_of_beq_eq_true h1.1, Nat.eq_of_beq_eq_true h1.2]
  rfl
 | isl s =>
  cases x <;> simp only [Pt.get] at h <;> try cases h
  split at h
  ·rename_i e; cases e; cases h; rfl
  ·cases h
 | emp => cases x <;> simp only [Pt.get] at h <;> cases h; rfl
 | nils => cases x <;> simp only [Pt.get] at h <;> cases h; rfl
 | map r =>
  cases x <;> simp only [Pt.get] at h <;> try cases h
  obtain ⟨h1, h2⟩ := bif_some h
  rw [Nat.eq_of_beq_eq_true h1]
  rfl
 | nilm => cases x <;> simp only [Pt.get] at h <;> cases h; rfl
 | fn f c =>
  cases x <;> simp only [Pt.get] at h <;> try cases h
  obtain ⟨h1, h2⟩ := bif_some h
  rw [Bool.and_eq_true] at h1
  rw [Nat.eq_of_beq_eq_true h1.1, natsEq_eq h1.2]
  rfl
 | nilf => cases x <;> simp only [Pt.get] at h <;> cases h; rfl
 | undef => cases x <;> simp only [Pt.get] at h <;> cases h; rfl
 | rf k t =>
  cases x <;> simp only [Pt.get] at h <;> try cases h
  obtain ⟨h1, h2⟩ := bif_some h
  rw [Bool.and_eq_true] at h1
  cases h2
  rw [eq_of_beq h1.1, Nat.eq_of_beq_eq_true h1.2]
  rfl
 | pi0 t o =>
  cases x <;> simp only [Pt.get] at h <;> try cases h
  split at h
  ·split at h
   ·obtain ⟨h1, h2⟩ := bif_some h
    rw [Bool.and_eq_true] at h1
    cases h2
    rw [Nat.eq_of_beq_eq_true h1.1, Nat.eq_of_beq_eq_true h1.2]
    rfl
   ·cases h
  ·cases h
 | pi t z o =>
  cases x <;> simp only [Pt.get] at h <;> try cases h
  obtain ⟨h1, h2⟩ := bif_some h
  rw [Bool.and_eq_true, Bool.and_eq_true] at h1
  cases h2
  rw [Nat.eq_of_beq_eq_true h1.1.1, Nat.eq_of_beq_eq_true h1.1.2, Nat.eq_of_beq_eq_true h1.2]
  rfl
 | ps t z =>
  cases x <;> simp only [Pt.get] at h <;> try cases h
  obtain ⟨h1, h2⟩ := bif_some h
  rw [Bool.and_eq_true] at h1
  cases h2
  rw [Nat.eq_of_beq_eq_true h1.1, Nat.eq_of_beq_eq_true h1.2]
  rfl
inductive PSeg where
 | c (p : Pt)
 | row (s : Sh) (n : Nat)
 | rowN (s : Sh)
@[reducible] def PSeg.T : PSeg → Type
 | .c p => p.T
 | .row s _ => List s.T
 | .rowN s => Nat × List s.T
def PSeg.put : (p : PSeg) → p.T → Seg
 | .c p, t => .c (p.put t)
 | .row s n, l => .row s n l
 | .rowN s, t => .row s t.1 t.2
def PSeg.get : (p : PSeg) → Seg → Option p.T
 | .c p, x => match x with
  | .c y => p.get y
  | _ => none
 | .row s n, x => match x with
  | .row s' n' l => bif Nat.beq n' n then (if h : s' = s then some (castL h l) else none) else none
  | _ => none
 | .rowN s, x => match x with
  | .row s' n' l => if h : s' = s then some (n', castL h l) else none
  | _ => none
theorem PSeg.get_put {p : PSeg} {x : Seg} {t : p.T} (h : p.get x = some t) : x = p.put t := by
 cases p with
 | c p =>
  cases x <;> simp only [PSeg.get] at h <;> try cases h
  rw [Pt.get_put h]
  rfl
 | row s n =>
  cases x <;> simp only [PSeg.get] at h <;> try cases h
  obtain ⟨h1, h2⟩ := bif_some h
  rw [Nat.eq_of_beq_eq_true h1]
  split at h2
  ·rename_i e; cases e; cases h2; rfl
  ·cases h2
 | rowN s =>
  cases x <;> simp only [PSeg.get] at h <;> try cases h
  split at h
  ·rename_i e; cases e; cases h; rfl
  ·cases h
section
variable {P X : Type} (T : P → Type) (put : (p : P) → T p → X) (get : (p : P) → X → Option (T p))
@[reducible] def LT : List P → Type
 | [] => Unit
 | p :: r => T p × LT r
def putL : (l : List P) → LT T l → List X
 | [], _ => []
 | p :: r, t => put p t.1 :: putL r t.2
def getL : (l : List P) → List X → Option (LT T l)
 | [], xs => match xs with
  | [] => some ()
  | _ => none
 | p :: r, xs => match xs with
  | x :: xs => match get p x with
   | some t => match getL r xs with
    | some u => some (t, u)
    | none => none
   | none => none
  | [] => none
theorem getL_putL (ok : ∀ {p : P} {x : X} {t : T p}, get p x = some t → x = put p t) : ∀ {l : List P} {xs : List X} {t : LT T l}, getL T get l xs = some t → xs = putL T put l t
 | [], xs, t, h => by
  cases xs with
  | nil => rfl
  | cons => cases h
 | p :: r, xs, t, h => by
  cases xs with
  | nil => cases h
  | cons x xs =>
   simp only [getL] at h
   split at h
   ·rename_i t1 h1
    split at h
    ·rename_i u h2
     cases h
     rw [ok h1, getL_putL ok h2]
     rfl
    ·cases h
   ·cases h
end
inductive PSV where
 | v (p : Pt)
 | agg (l : List PSeg)
@[reducible] def PSV.T : PSV → Type
 | .v p => p.T
 | .agg l => LT PSeg.T l
def PSV.put : (p : PSV) → p.T → SV
 | .v p, t => .v (p.put t)
 | .agg l, t => .agg (putL PSeg.T PSeg.put l t)
def PSV.get : (p : PSV) → SV → Option p.T
 | .v p, x => match x with
  | .v y => p.get y
  | _ => none
 | .agg l, x => match x with
  | .agg m => getL PSeg.T PSeg.get l m
  | _ => none
theorem PSV.get_put {p : PSV} {x : SV} {t : p.T} (h : p.get x = some t) : x = p.put t := by
 cases p with
 | v p =>
  cases x <;> simp only [PSV.get] at h <;> try cases h
  rw [Pt.get_put h]
  rfl
 | agg l =>
  cases x <;> simp only [PSV.get] at h <;> try cases h
  rw [getL_putL PSeg.T PSeg.put PSeg.get PSeg.get_put h]
  rfl
inductive PSlot where
 | sv (p : PSV)
 | tup (l : List PSV)
 | undef
@[reducible] def PSlot.T : PSlot → Type
 | .sv p => p.T
 | .tup l => LT PSV.T l
 | .undef => Unit
def PSlot.put : (p : PSlot) → p.T → Slot
 | .sv p, t => .sv (p.put t)
 | .tup l, t => .tup (putL PSV.T PSV.put l t)
 | .undef, _ => .undef
def PSlot.get : (p : PSlot) → Slot → Option p.T
 | .sv p, x => match x with
  | .sv y => p.get y
  | _ => none
 | .tup l, x => match x with
  | .tup m => getL PSV.T PSV.get l m
  | _ => none
 | .undef, x => match x with
  | .undef => some ()
  | _ => none
theorem PSlot.get_put {p : PSlot} {x : Slot} {t : p.T} (h : p.get x = some t) : x = p.put t := by
 cases p with
 | sv p =>
  cases x <;> simp only [PSlot.get] at h <;> try cases h
  rw [PSV.get_put h]
  rfl
 | tup l =>
  cases x <;> simp only [PSlot.get] at h <;> try cases h
  rw [getL_putL PSV.T PSV.put PSV.get PSV.get_put h]
  rfl
 | undef => cases x <;> simp only [PSlot.get] at h <;> cases h; rfl
inductive PObj where
 | cells (l : List PSeg)
 | rows (s : Sh)
 | map (ks vs : Sh) (ka va : Bool)
 | ice (s : Sh)
 | dead
 | pool (k : Bool) (t : Nat) (s : Sh)
@[reducible] def PObj.T : PObj → Type
 | .cells l => LT PSeg.T l
 | .rows s => List s.T
 | .map ks vs _ _ => List (ks.T × vs.T)
 | .ice s => List s.T
 | .dead => Unit
 | .pool _ _ s => List s.T
def PObj.put : (p : PObj) → p.T → Obj
 | .cells l, t => .cells (putL PSeg.T PSeg.put l t)
 | .rows s, l => .cells [.row s l.length l]
 | .map ks vs ka va, l => .map ks vs ka va l
 | .ice s, l => .ice s l
 | .dead, _ => .dead
 | .pool k t s, l => .pool k t s l
def PObj.get : (p : PObj) → Obj → Option p.T
 | .cells l, x => match x with
  | .cells m => getL PSeg.T PSeg.get l m
  | _ => none
 | .rows s, x => match x with
  | .cells [.row s' _ l] => if h : s' = s then some (castL h l) else none
  | _ => none
 | .map ks vs ka va, x => match x with
  | .map ks' vs' ka' va' l => if h : ks' = ks ∧ vs' = vs ∧ ka' = ka ∧ va' = va then some (castM h.1 h.2.1 l) else none
  | _ => none
 | .ice s, x => match x with
  | .ice s' l => if h : s' = s then some (castL h l) else none
  | _ => none
 | .dead, x => match x with
  | .dead => some ()
  | _ => none
 | .pool k t s, x => match x with
  | .pool k' t' s' l => bif (k' == k) && Nat.beq t' t then (if h : s' = s then some (castL h l) else none) else none
  | _ => none
def GoodObj : Obj → Prop
 | .cells [.row _ n l] => l.length = n
 | _ => True
theorem PObj.get_put {p : PObj} {x : Obj} {t : p.T} (hg : GoodObj x) (h : p.get x = some t) : x = p.put t := by
 cases p with
 | rows s =>
  cases x with
  | cells m =>
   match m, h with
   | [.row s' n l], h =>
    simp only [PObj.get] at h
    split at h
    ·rename_i e
     subst e
     cases h
     have hg : l.length = n := hg
     subst hg
     rfl
    ·cases h
   | [], h => cases h
   | [.c _], h => cases h
   | .c _ :: _ :: _, h => cases h
   | .row _ _ _ :: _ :: _, h => cases h
  | map => cases h
  | ice => cases h
  | dead => cases h
  | pool => cases h
 | cells l =>
  cases x <;> simp only [PObj.get] at h <;> try cases h
  rw [getL_putL PSeg.T PSeg.put PSeg.get PSeg.get_put h]
  rfl
 | map ks vs ka va =>
  cases x <;> simp only [PObj.get] at h <;> try cases h
  split at h
  ·rename_i e
   obtain ⟨e1, e2, e3, e4⟩ := e
   cases e1; cases e2; cases e3; cases e4
   cases h
   rfl
  ·cases h
 | ice s =>
  cases x <;> simp only [PObj.get] at h <;> try cases h
  split at h
  ·rename_i e
   cases e
   cases h
   rfl
  ·cases h
 | dead => cases x <;> simp only [PObj.get] at h <;> cases h; rfl
 | pool k t s =>
  cases x <;> simp only [PObj.get] at h <;> try cases h
  obtain ⟨h1, h2⟩ := bif_some h
  rw [Bool.and_eq_true] at h1
  split at h2
  ·rename_i e
   cases e
   cases h2
   rw [eq_of_beq h1.1, Nat.eq_of_beq_eq_true h1.2]
   rfl
  ·cases h2
abbrev ArgT (l : List PSV) := LT PSV.T l
abbrev HeapT (l : List PObj) := LT PObj.T l
abbrev SlotT (l : List PSlot) := LT PSlot.T l
def putA (l : List PSV) (t : ArgT l) : List SV := putL PSV.T PSV.put l t
def putH (l : List PObj) (t : HeapT l) : Heap := putL PObj.T PObj.put l t
def putS' (l : List PSlot) (t : SlotT l) : List Slot := putL PSlot.T PSlot.put l t
def getA (l : List PSV) (x : List SV) : Option (ArgT l) := getL PSV.T PSV.get l x
def getH (l : List PObj) (x : Heap) : Option (HeapT l) := getL PObj.T PObj.get l x
def getS' (l : List PSlot) (x : List Slot) : Option (SlotT l) := getL PSlot.T PSlot.get l x
theorem getH_putH : ∀ {l : List PObj} {xs : Heap} {t : HeapT l}, (∀ x ∈ xs, GoodObj x) → getH l xs = some t → xs = putH l t
 | [], xs, t, _, h => by
  cases xs with
  | nil => rfl
  | cons => cases h
 | p :: r, xs, t, hg, h => by
  cases xs with
  | nil => cases h
  | cons x xs =>
   simp only [getH, getL] at h
   split at h
   ·rename_i t1 h1
    split at h
    ·rename_i u h2
     cases h
     rw [PObj.get_put (hg x (by simp)) h1, getH_putH (fun y hy => hg y (List.mem_cons_of_mem _ hy)) h2]
     rfl
    ·cases h
   ·cases h
theorem good_heap {w : World} {β : Nat → Loc} {F : Nat → Prop} {H : Heap} (ok : HeapOk w β F H) : ∀ x ∈ H, GoodObj x := fun x hx => by
 obtain ⟨r, hr⟩ := List.mem_iff_getElem?.1 hx
 unfold GoodObj
 split
 ·obtain ⟨vs, ⟨hn, _⟩, _⟩ := ok.obj r _ hr
  exact hn
 ·trivial
/-! ### entries by shapes -/
structure Var where
 a : List PSV
 g : List PObj
 m : {R : Type} → ArgT a → HeapT g → (Slot → Heap → Option R) → Option R
def runVars {R : Type} : List Var → List SV → Heap → (Slot → Heap → Option R) → Option R
 | [], _, _, _ => none
 | v :: r, args, G, K => match getA v.a args with
  | some t => match getH v.g G with
   | some u => v.m t u K
   | none => runVars r args G K
  | none => runVars r args G K
def Ent.of (l : List Var) : Ent := ⟨fun args G K => runVars l args G K, []⟩
theorem runVars_one {R : Type} {args : List SV} {G : Heap} {K : Slot → Heap → Option R} {x : R} : ∀ {l : List Var}, runVars l args G K = some x → ∃ v ∈ l, runVars [v] args G K = some x
 | v :: r, h => by
  have ih : runVars r args G K = some x → ∃ v' ∈ v :: r, runVars [v'] args G K = some x := fun h => by
   obtain ⟨v', h1, h2⟩ := runVars_one h
   exact ⟨v', List.mem_cons_of_mem _ h1, h2⟩
  simp only [runVars] at h
  split at h
  ·rename_i t ht
   split at h
   ·rename_i u hu
    exact ⟨v, List.mem_cons_self .., by simp only [runVars, ht, hu]; exact h⟩
   ·exact ih h
  ·exact ih h
theorem runVars_some {R : Type} {args : List SV} {G : Heap} {K : Slot → Heap → Option R} {x : R} (hg : ∀ x ∈ G, GoodObj x) : ∀ {l : List Var}, runVars l args G K = some x → ∃ v ∈ l, ∃ t u, args = putA v.a t ∧ G = putH v.g u ∧ v.m t u K = some x
 | v :: r, h => by
  have ih : runVars r args G K = some x → ∃ v' ∈ v :: r, ∃ t u, args = putA v'.a t ∧ G = putH v'.g u ∧ v'.m t u K = some x := fun h => by
   obtain ⟨v', h1, h2⟩ := runVars_some hg h
   exact ⟨v', List.mem_cons_of_mem _ h1, h2⟩
  simp only [runVars] at h
  split at h
  ·rename_i t ht
   split at h
   ·rename_i u hu
    exact ⟨v, List.mem_cons_self .., t, u, getL_putL PSV.T PSV.put PSV.get PSV.get_put ht, getH_putH hg hu, h⟩
   ·exact ih h
  ·exact ih h
section
variable {P : Program} {T : Table}
theorem putH_length : ∀ {l : List PObj} {t : HeapT l}, (putH l t).length = l.length
 | [], _ => rfl
 | _ :: r, t => congrArg (· + 1) (putH_length (l := r) (t := t.2))
def VarOK (P : Program) (T : Table) (fn : Func) (c : Code) (v : Var) : Prop := ∃ (pl : Plan) (ls : Nat → LSpec), LoopsOK P ⟨v.g.length, fn.ntmps, ls, pl.rows⟩ c 0 ∧
 ∀ {R : Type} (t : ArgT v.a) (u : HeapT v.g) (K : Slot → Heap → Option R), exBody P T fn pl ls (putA v.a t) (putH v.g u) K = v.m t u K
theorem EntOK.vars (hT : TabOK P T) {f : FuncId} {fn : Func} {c : Code} (hf : P.funcs[f]? = some fn) (hn : (fn.name == "runtime.NumGoroutine") = false) (hb : fn.body = some c) {l : List Var}
  (h : ∀ v ∈ l, VarOK P T fn c v) : EntOK P f (.of l) := by
 refine ⟨⟨fn, hf, hn, by rw [hb]; rfl⟩, fun {R w β F G args vs K x} ok ha hr => ?_⟩
 obtain ⟨v, hv, t, u, rfl, rfl, hx⟩ := runVars_some (good_heap ok) hr
 obtain ⟨pl, ls, hL, he⟩ := h v hv
 exact exBody_calls' hT hf hb (by rw [putH_length]; exact hL) ((he t u K).trans hx) ok ha
theorem EntOK.void {f : FuncId} {fn : Func} (hf : P.funcs[f]? = some fn) (hn : (fn.name == "runtime.NumGoroutine") = false) (hb : fn.body.isNone = false) {l : List Var}
  (h : ∀ v ∈ l, ∀ (t : ArgT v.a) (u : HeapT v.g) {R : Type} (K : Slot → Heap → Option R), v.m t u K = none) : EntOK P f (.of l) := by
 refine ⟨⟨fn, hf, hn, hb⟩, fun {R w β F G args vs K x} ok ha hr => ?_⟩
 obtain ⟨v, hv, t, u, rfl, rfl, hx⟩ := runVars_some (good_heap ok) hr
 rw [h v hv t u K] at hx
 cases hx
/-! ### loops by shapes and fuel -/
structure LVar where
 a : List PSlot
 g : List PObj
 m : {R : Type} → Nat → SlotT a → HeapT g → (Exit → List Slot → Heap → Option R) → Option R
structure Fam where
 k : LK
 l : List LVar
def runLVars {R : Type} (n : Nat) : List LVar → List Slot → Heap → (Exit → List Slot → Heap → Option R) → Option R
 | [], _, _, _ => none
 | v :: r, sl, G, K => match getS' v.a sl with
  | some t => match getH v.g G with
   | some u => v.m n t u K
   | none => runLVars n r sl G K
  | none => runLVars n r sl G K
def Fam.at (F : Fam) (n : Nat) : LSpec := ⟨F.k, fun sl G K => runLVars n F.l sl G K⟩
theorem runLVars_some {R : Type} {n : Nat} {sl : List Slot} {G : Heap} {K : Exit → List Slot → Heap → Option R} {x : R} (hg : ∀ x ∈ G, GoodObj x) : ∀ {l : List LVar}, runLVars n l sl G K = some x → ∃ v ∈ l, ∃ t u, sl = putS' v.a t ∧ G = putH v.g u ∧ v.m n t u K = some x
 | v :: r, h => by
  have ih : runLVars n r sl G K = some x → ∃ v' ∈ v :: r, ∃ t u, sl = putS' v'.a t ∧ G = putH v'.g u ∧ v'.m n t u K = some x := fun h => by
   obtain ⟨v', h1, h2⟩ := runLVars_some hg h
   exact ⟨v', List.mem_cons_of_mem _ h1, h2⟩
  simp only [runLVars] at h
  split at h
  ·rename_i t ht
   split at h
   ·rename_i u hu
    exact ⟨v, List.mem_cons_self .., t, u, getL_putL PSlot.T PSlot.put PSlot.get PSlot.get_put ht, getH_putH hg hu, h⟩
   ·exact ih h
  ·exact ih h
structure At where
 cut : Bool
 num : Nat
 code : Code
def onward {R : Type} (C : Ctx) (cut : Bool) (k : LK) (again : List Slot → Heap → Option R) (K : Exit → List Slot → Heap → Option R) (e : Exit) (fr : Fr) (H : Heap) : Option R := match e with
 | .normal => match cut with
  | true => view C k.out k.po fr H fun sl G => K .normal sl G
  | false => view C k.keep k.pk fr H again
 | e => view C k.out k.po fr H fun sl G => K e sl G
def exRound {R : Type} (P : Program) (T : Table) (C : Ctx) (A : At) (k : LK) (sl : List Slot) (G : Heap) (again : List Slot → Heap → Option R) (K : Exit → List Slot → Heap → Option R) : Option R :=
 ofViewK C k.keep sl fun fr => exCode P T C A.code A.num fr G (onward C A.cut k again K)
theorem LoopOK.fam (hT : TabOK P T) {C : Ctx} {b : Code} {n : Nat} (hL : LoopsOK P C b n) (L : Nat → LSpec) (k : LK) (hk : ∀ m, (L m).k = k)
  (h0 : ∀ {R : Type} (sl : List Slot) (G : Heap) (K : Exit → List Slot → Heap → Option R), (L 0).run sl G K = none)
  (h : ∀ {R : Type} (m : Nat) (K : Exit → List Slot → Heap → Option R) (x : R) (sl : List Slot) (G : Heap), (∀ y ∈ G, GoodObj y) → (L (m + 1)).run sl G K = some x →
   exRound P T C ⟨false, n, b⟩ k sl G (fun sl G => (L m).run sl G K) K = some x) (N : Nat) : LoopOK P C b (L N) := by
 intro R w β F G a sl K x e0 hR hE hp hrun
 rw [hk] at hR ⊢
 let I : Act → World → Nat → Prop := fun a w m => ∃ sl G β, Rel w β F G (ofView C k.keep sl) a ∧ Ext e0 (en w β F G) ∧ (L m).run sl G K = some x
 have hI : ∃ m, I a w m := ⟨N, sl, G, β, hR, hE, hrun⟩
 classical
 let ν : Act → World → Nat := fun a w => if h : ∃ m, I a w m then Classical.choose (least h) else 0
 have hν : ∀ a w (h : ∃ m, I a w m), I a w (ν a w) ∧ ∀ m, I a w m → ν a w ≤ m := fun a w h => by
  have e : ν a w = Classical.choose (least h) := dif_pos h
  rw [e]
  exact Classical.choose_spec (least h)
 refine wp_loop (fun a w => ∃ m, I a w m) ν hI fun a w hIw => ?_
 obtain ⟨⟨sl, G, β, hR, hE, hrun⟩, _⟩ := hν a w hIw
 obtain ⟨m, hm⟩ : ∃ m, ν a w = m + 1 := by
  cases hz : ν a w with
  | zero => rw [hz, h0] at hrun; cases hrun
  | succ m => exact ⟨m, rfl⟩
 rw [hm] at hrun ⊢
 have hrun' : exCode P T C b n (ofView C k.keep sl) G (onward C false k (fun sl G => (L m).run sl G K) K) = some x := (ofViewK_eq ..).symm.trans (h m K x sl G (good_heap hR.ok) hrun)
 refine wp_mono (exCode_wp hT hp b n hL hrun' hR hE) fun e a' w' => ?_
 rintro ⟨fr', H', β', h1, h2, h3⟩
 cases e with
 | normal =>
  obtain ⟨sl', G', β2, q1, q2, q3⟩ := view_ok h3 h1 h2 hp
  have q3 : (L m).run sl' G' K = some x := q3
  have hI' : ∃ m, I a' w' m := ⟨_, sl', G', β2, q1, q2, q3⟩
  exact ⟨hI', Nat.lt_succ_of_le ((hν a' w' hI').2 _ ⟨sl', G', β2, q1, q2, q3⟩)⟩
 | exit i =>
  obtain ⟨sl', G', β2, q1, q2, q3⟩ := view_ok h3 h1 h2 hp
  exact ⟨sl', G', β2, q1, q2, q3⟩
 | goto l =>
  obtain ⟨sl', G', β2, q1, q2, q3⟩ := view_ok h3 h1 h2 hp
  exact ⟨sl', G', β2, q1, q2, q3⟩
 | ret =>
  obtain ⟨sl', G', β2, q1, q2, q3⟩ := view_ok h3 h1 h2 hp
  exact ⟨sl', G', β2, q1, q2, q3⟩
 | panic ch =>
  obtain ⟨sl', G', β2, q1, q2, q3⟩ := view_ok h3 h1 h2 hp
  exact ⟨sl', G', β2, q1, q2, q3⟩
 | outgrown =>
  obtain ⟨sl', G', β2, q1, q2, q3⟩ := view_ok h3 h1 h2 hp
  exact ⟨sl', G', β2, q1, q2, q3⟩
theorem CutOK.fam (hT : TabOK P T) {C : Ctx} {b : Code} {n : Nat} (hL : LoopsOK P C b n) (L : LSpec)
  (h : ∀ {R : Type} (K : Exit → List Slot → Heap → Option R) (x : R) (sl : List Slot) (G : Heap), (∀ y ∈ G, GoodObj y) → L.run sl G K = some x →
   ∃ again, exRound P T C ⟨true, n, b⟩ L.k sl G again K = some x) : CutOK P C b L := by
 intro R w β F G a sl K x e0 hR hE hp hrun
 obtain ⟨again, h⟩ := h K x sl G (good_heap hR.ok) hrun
 have h : exCode P T C b n (ofView C L.k.keep sl) G (onward C true L.k again K) = some x := (ofViewK_eq ..).symm.trans h
 refine wp_mono (exCode_wp hT hp b n hL h hR hE) fun e a' w' => ?_
 rintro ⟨fr', H', β', h1, h2, h3⟩
 cases e with
 | normal =>
  obtain ⟨sl', G', β2, q1, q2, q3⟩ := view_ok h3 h1 h2 hp
  exact ⟨sl', G', β2, q1, q2, q3⟩
 | exit i =>
  obtain ⟨sl', G', β2, q1, q2, q3⟩ := view_ok h3 h1 h2 hp
  exact ⟨sl', G', β2, q1, q2, q3⟩
 | goto l =>
  obtain ⟨sl', G', β2, q1, q2, q3⟩ := view_ok h3 h1 h2 hp
  exact ⟨sl', G', β2, q1, q2, q3⟩
 | ret =>
  obtain ⟨sl', G', β2, q1, q2, q3⟩ := view_ok h3 h1 h2 hp
  exact ⟨sl', G', β2, q1, q2, q3⟩
 | panic ch =>
  obtain ⟨sl', G', β2, q1, q2, q3⟩ := view_ok h3 h1 h2 hp
  exact ⟨sl', G', β2, q1, q2, q3⟩
 | outgrown =>
  obtain ⟨sl', G', β2, q1, q2, q3⟩ := view_ok h3 h1 h2 hp
  exact ⟨sl', G', β2, q1, q2, q3⟩
def loopAt : Code → Nat → Nat → Option At
 | .seq a b, n, 0 => some ⟨true, n + 1 + loops a, b⟩
 | .seq a b, n, i + 1 => bif Nat.blt i (loops a) then loopAt a (n + 1) i else loopAt b (n + 1 + loops a) (i - loops a)
 | .cond _ a b, n, i => bif Nat.blt i (loops a) then loopAt a n i else loopAt b (n + loops a) (i - loops a)
 | .block _ b, n, i => loopAt b n i
 | .loop b, n, 0 => some ⟨false, n + 1, b⟩
 | .loop b, n, i + 1 => loopAt b (n + 1) i
 | _, _, _ => none
def bodyAt (f : Func) (i : Nat) : At := match f.body with
 | some c => match loopAt c 0 i with
  | some b => b
  | none => ⟨true, 0, .skip⟩
 | none => ⟨true, 0, .skip⟩
def LV (P : Program) (T : Table) (C : Ctx) (A : At) (F : Fam) (v : LVar) : Prop :=
 ((∀ {R : Type} (t : SlotT v.a) (u : HeapT v.g) (K : Exit → List Slot → Heap → Option R), v.m 0 t u K = none) ∨
  (A.cut = true ∧ ∀ {R : Type} (n : Nat) (t : SlotT v.a) (u : HeapT v.g) (K : Exit → List Slot → Heap → Option R), v.m n t u K = v.m (n + 1) t u K)) ∧
 ∀ {R : Type} (n : Nat) (t : SlotT v.a) (u : HeapT v.g) (K : Exit → List Slot → Heap → Option R),
  exRound P T C A F.k (putS' v.a t) (putH v.g u) (fun sl G => runLVars n F.l sl G K) K = v.m (n + 1) t u K
def LStep (P : Program) (T : Table) (C : Ctx) (A : At) (F : Fam) : Prop := ∀ v ∈ F.l, LV P T C A F v
theorem runLVars_zero {R : Type} {sl : List Slot} {G : Heap} {K : Exit → List Slot → Heap → Option R} : ∀ {l : List LVar},
  (∀ v ∈ l, ∀ {R : Type} (t : SlotT v.a) (u : HeapT v.g) (K : Exit → List Slot → Heap → Option R), v.m 0 t u K = none) → runLVars 0 l sl G K = none
 | [], _ => rfl
 | v :: r, h => by
  have ih : runLVars 0 r sl G K = none := runLVars_zero fun v' hv' => h v' (List.mem_cons_of_mem _ hv')
  simp only [runLVars]
  split
  ·split
   ·exact h v (List.mem_cons_self ..) _ _ _
   ·exact ih
  ·exact ih
theorem Fam.ok (hT : TabOK P T) {C : Ctx} {b : Code} {n : Nat} {F : Fam} (hL : LoopsOK P C b n) (h : LStep P T C ⟨false, n, b⟩ F) (N : Nat) : LoopOK P C b (F.at N) := by
 refine LoopOK.fam hT hL F.at F.k (fun _ => rfl) (fun {R} sl G K => ?_) (fun {R} m K x sl G hg hr => ?_) N
 ·exact runLVars_zero fun v hv {R} t u K => by
   rcases (h v hv).1 with h0 | ⟨hc, _⟩
   ·exact h0 t u K
   ·cases hc
 ·obtain ⟨v, hv, t, u, rfl, rfl, hx⟩ := runLVars_some hg hr
  exact ((h v hv).2 m t u K).trans hx
theorem Fam.cut (hT : TabOK P T) {C : Ctx} {b : Code} {n : Nat} {F : Fam} (hL : LoopsOK P C b n) (h : LStep P T C ⟨true, n, b⟩ F) (N : Nat) : CutOK P C b (F.at N) := by
 refine CutOK.fam hT hL (F.at N) fun {R} K x sl G hg hr => ?_
 have hr : runLVars N F.l sl G K = some x := hr
 obtain ⟨v, hv, t, u, rfl, rfl, hx⟩ := runLVars_some hg hr
 rcases (h v hv).1 with h0 | ⟨_, h1⟩
 ·cases N with
  | zero => rw [h0] at hx; cases hx
  | succ m => exact ⟨_, ((h v hv).2 m t u K).trans hx⟩
 ·exact ⟨_, ((h v hv).2 N t u K).trans ((h1 N t u K).symm.trans hx)⟩
theorem blt_false {a i : Nat} (h : ¬ i < a) : Nat.blt i a = false := by
 cases hb : Nat.blt i a with
 | false => rfl
 | true => rw [Nat.blt_eq] at hb; exact absurd hb h
theorem loopAt_lt : ∀ {c : Code} {n i : Nat} {A : At}, loopAt c n i = some A → i < loops c := by
 intro c
 induction c with
 | seq a b iha ihb =>
  intro n i A h
  cases i with
  | zero => simp only [loops]; omega
  | succ i =>
   simp only [loopAt] at h
   simp only [loops]
   cases hb : Nat.blt i (loops a) with
   | true => rw [hb] at h; have := iha h; omega
   | false => rw [hb] at h; have := ihb h; omega
 | cond o a b iha ihb =>
  intro n i A h
  simp only [loopAt] at h
  simp only [loops]
  cases hb : Nat.blt i (loops a) with
  | true => rw [hb] at h; have := iha h; omega
  | false => rw [hb] at h; have := ihb h; omega
 | block id b ih => intro n i A h; exact ih h
 | loop b ih =>
  intro n i A h
  cases i with
  | zero => simp [loops]
  | succ i => have := ih (i := i) h; simp only [loops]; omega
 | _ => intro n i A h; simp [loopAt] at h
theorem loops_ok (hT : TabOK P T) {C : Ctx} (F : Nat → Fam) (N : Nat) (hC : ∀ i, C.loop i = (F i).at N) : ∀ (c : Code) (n : Nat), (∀ i A, loopAt c n i = some A → LStep P T C A (F (n + i))) → LoopsOK P C c n := by
 intro c
 induction c with
 | seq a b iha ihb =>
  intro n h
  have hb : LoopsOK P C b (n + 1 + loops a) := ihb _ fun i A hd => by
   have h1 := h (loops a + i + 1) A (by
    simp only [loopAt, blt_false (show ¬ loops a + i < loops a by omega), cond_false, Nat.add_sub_cancel_left]
    exact hd)
   rw [show n + (loops a + i + 1) = n + 1 + loops a + i by omega] at h1
   exact h1
  refine ⟨?_, iha (n + 1) fun i A hd => ?_, hb⟩
  ·show CutOK P C b (C.loop n)
   rw [hC]
   exact Fam.cut hT hb (h 0 ⟨true, n + 1 + loops a, b⟩ rfl) N
  ·have hlt : i < loops a := loopAt_lt hd
   have h1 := h (i + 1) A (by
    simp only [loopAt, show Nat.blt i (loops a) = true by rw [Nat.blt_eq]; exact hlt, cond_true]
    exact hd)
   rw [show n + (i + 1) = n + 1 + i by omega] at h1
   exact h1
 | cond o a b iha ihb =>
  intro n h
  refine ⟨iha n fun i d hd => h i d ?_, ihb _ fun i d hd => ?_⟩
  ·have hlt : i < loops a := loopAt_lt hd
   simp only [loopAt, show Nat.blt i (loops a) = true by rw [Nat.blt_eq]; exact hlt, cond_true]
   exact hd
  ·have h1 := h (loops a + i) d (by simp only [loopAt, blt_false (show ¬ loops a + i < loops a by omega), cond_false, Nat.add_sub_cancel_left]; exact hd)
   rw [← Nat.add_assoc] at h1
   exact h1
 | block id b ih => exact fun n h => ih n h
 | loop b ih =>
  intro n h
  show LoopOK P C b (C.loop n)
  rw [hC]
  refine Fam.ok hT (ih (n + 1) fun i d hd => ?_) (h 0 _ rfl) N
  have := h (i + 1) d hd
  rw [show n + (i + 1) = n + 1 + i by omega] at this
  exact this
 | _ => intro n h; trivial
def noFam : Fam := ⟨⟨false, [], [], ⟨[], [], []⟩, ⟨[], [], []⟩⟩, []⟩
def codeOf (f : Func) : Code := match f.body with
 | some c => c
 | none => .skip
theorem steps_of {f : Func} {C : Ctx} {F : Nat → Fam} (hb : f.body = some (codeOf f)) (h : ∀ i, LStep P T C (bodyAt f i) (F i)) : ∀ i A, loopAt (codeOf f) 0 i = some A → LStep P T C A (F (0 + i)) := fun i A hb' => by
 have := h i
 unfold bodyAt at this
 rw [hb] at this
 simp only [hb'] at this
 rw [Nat.zero_add]
 exact this
theorem LStep.none {C : Ctx} {A : At} : LStep P T C A noFam := fun _ hv => nomatch hv
theorem LStep.pick {f : Func} {C : Ctx} {i k : Nat} {A B : Fam} (h1 : LStep P T C (bodyAt f k) A) (h2 : LStep P T C (bodyAt f i) B) : LStep P T C (bodyAt f i) (bif Nat.beq i k then A else B) := by
 cases h : Nat.beq i k with
 | true => cases Nat.eq_of_beq_eq_true h; exact h1
 | false => exact h2
theorem VarOK.of (hT : TabOK P T) {f : Func} {v : Var} (hb : f.body = some (codeOf f)) (pl : Plan) (F : Nat → Fam) (N : Nat) (hF : ∀ i, LStep P T ⟨v.g.length, f.ntmps, fun i => (F i).at N, pl.rows⟩ (bodyAt f i) (F i))
  (h : ∀ {R : Type} (t : ArgT v.a) (u : HeapT v.g) (K : Slot → Heap → Option R), exBody P T f pl (fun i => (F i).at N) (putA v.a t) (putH v.g u) K = v.m t u K) : VarOK P T f (codeOf f) v :=
 ⟨pl, fun i => (F i).at N, loops_ok hT F N (fun _ => rfl) _ 0 (steps_of hb hF), h⟩
theorem all_nil {α : Type 1} {p : α → Prop} : ∀ v ∈ ([] : List α), p v := fun _ h => nomatch h
theorem all_cons {α : Type 1} {p : α → Prop} {a : α} {l : List α} (h : p a) (k : ∀ v ∈ l, p v) : ∀ v ∈ a :: l, p v := fun v hv => by
 cases hv with
 | head => exact h
 | tail _ hv => exact k v hv
def bs (l : List UInt8) : ByteArray := ⟨l.toArray⟩
end
theorem EntOK.all {P : Program} {f : FuncId} {v0 : Var} {l : List Var} (h0 : EntOK P f (.of [v0])) (h : ∀ v ∈ l, EntOK P f (.of [v])) : EntOK P f (.of (v0 :: l)) := by
 refine ⟨h0.fn, fun ok ha hr => ?_⟩
 obtain ⟨v, hv, hx⟩ := runVars_one hr
 rcases List.mem_cons.1 hv with rfl | hv
 ·exact h0.run ok ha hx
 ·exact (h v hv).run ok ha hx
end Go.Gx

namespace Go.Gx
theorem EntOK.same {P : Program} {f : FuncId} {fn : Func} (hf : P.funcs[f]? = some fn) (hn : (fn.name == "runtime.NumGoroutine") = false) (hb : fn.body.isNone = false) {l : List Var}
  (h : ∀ v ∈ l, ∀ {R : Type} (t : ArgT v.a) (u : HeapT v.g) (K : Slot → Heap → Option R) (x : R) (w : World) (β : Nat → Loc) (F : Nat → Prop) (vs : List Value), HeapOk w β F (putH v.g u) →
   RepSVs (en w β F (putH v.g u)) (putA v.a t) vs → v.m t u K = some x → ∃ s V, Calls P f vs.toArray w (fun e w' => e = .returned V ∧ w' = w) ∧ RepSlot (en w β F (putH v.g u)) s V ∧ K s (putH v.g u) = some x) : EntOK P f (.of l) := by
 refine ⟨⟨fn, hf, hn, hb⟩, fun {R w β F G args vs K x} ok ha hr => ?_⟩
 obtain ⟨v, hv, t, u, rfl, rfl, hx⟩ := runVars_some (good_heap ok) hr
 obtain ⟨s, V, h1, h2, h3⟩ := h v hv t u K x w β F vs ok ha hx
 refine h1.mono fun e w' => ?_
 rintro ⟨he, rfl⟩
 exact ⟨V, he, s, _, β, ok, Ext.refl _, h2, h3⟩
def stringslite_IndexByte {R : Type} (x0 : ByteArray) (x1 : Int) (k0 : Int → Option R) : Option R := k0 (Lib.indexByte x0.data.toList x1.toNat.toUInt8)
def stringslite_IndexByte_W (f : {R : Type} → ByteArray → Int → (Int → Option R) → Option R) : Var := ⟨[.v .str, .v (.int .u8)], [], fun t _ K => f t.1 t.2.1 (fun y0 => K (.sv (.v (.int .i64 y0))) [])⟩
def E_stringslite_IndexByte : Ent := .of [stringslite_IndexByte_W stringslite_IndexByte]
theorem stringslite_IndexByte_ent {P : Program} {f : FuncId} {fn : Func} (hf : P.funcs[f]? = some fn) (hn : (fn.name == "runtime.NumGoroutine") = false) (hb : fn.body.isNone = false)
  (h : ∀ (s : ByteArray) (c : Int) (w : World), Calls P f #[.string s, .int .u8 c] w fun e w' => e = .returned (.int .i64 (Lib.indexByte s.data.toList c.toNat.toUInt8)) ∧ w' = w) : EntOK P f E_stringslite_IndexByte :=
 EntOK.same hf hn hb (all_cons (fun {R} t u K x w β F vs _ ha hx => by
  obtain ⟨_, _, rfl, e1, _, _, rfl, e2, rfl⟩ := ha
  cases e1
  cases e2
  exact ⟨.sv (.v (.int .i64 _)), _, h t.1 t.2.1 w, rfl, hx⟩) all_nil)
def mcount (path : ByteArray) (l : List ((ByteArray × ByteArray) × (Int × Bool))) : Int := IntKind.wrap .i64 ((l.filter fun p => decide (p.1.1 = path)).length : Int)
end Go.Gx

namespace Go.Gx
section
variable {R : Type}
@[simp] theorem br_true (x y : Option R) : br true x y = x := rfl
@[simp] theorem br_false (x y : Option R) : br false x y = y := rfl
theorem br_of {b : Bool} (h : b = true) (x y : Option R) : br b x y = x := by rw [h]; rfl
theorem br_not {b : Bool} (h : b = false) (x y : Option R) : br b x y = y := by rw [h]; rfl
theorem br_if (b : Bool) (x y : Option R) : br b x y = if b = true then x else y := by cases b <;> rfl
theorem br_dec (p : Prop) [Decidable p] (x y : Option R) : br (decide p) x y = if p then x else y := by
 by_cases h : p
 ·rw [if_pos h, decide_eq_true h]; rfl
 ·rw [if_neg h, decide_eq_false h]; rfl
theorem br_ndec (p : Prop) [Decidable p] (x y : Option R) : br (!decide p) x y = if p then y else x := by
 by_cases h : p
 ·rw [if_pos h, decide_eq_true h]; rfl
 ·rw [if_neg h, decide_eq_false h]; rfl
theorem br_neg (b : Bool) (x y : Option R) : br (!b) x y = br b y x := by cases b <;> rfl
theorem br_and (a b : Bool) (x y : Option R) : br (a && b) x y = br a (br b x y) y := by cases a <;> rfl
theorem br_self (b : Bool) (x y : Option R) : br (b == b) x y = x := by rw [beq_self_eq_true]; rfl
theorem br_same (b : Bool) (x : Option R) : br b x x = x := by cases b <;> rfl
theorem br_push (b : Bool) {A : Type} (a c : A) (k : A → Option R) : br b (k a) (k c) = k (if b = true then a else c) := by cases b <;> rfl
/-! wrapping -/
theorem w64 {x : Int} (h : -9223372036854775808 ≤ x ∧ x ≤ 9223372036854775807) : IntKind.wrap .i64 x = x := IntWalk.i64_in x h
theorem wu8 {x : Int} (h : 0 ≤ x ∧ x ≤ 255) : IntKind.wrap .u8 x = x := IntWalk.u8_in x h
theorem wu16 {x : Int} (h : 0 ≤ x ∧ x ≤ 65535) : IntKind.wrap .u16 x = x := IntWalk.u16_in x h
theorem wu8_mod (x : Int) : IntKind.wrap .u8 x = x % 256 := by simp [IntKind.wrap, IntKind.bits, IntKind.signed]
theorem wu16_mod (x : Int) : IntKind.wrap .u16 x = x % 65536 := by simp [IntKind.wrap, IntKind.bits, IntKind.signed]
theorem w64_succ {i : Nat} (h : i < 9223372036854775807) : IntKind.wrap .i64 ((i : Int) + 1) = ((i + 1 : Nat) : Int) := by rw [w64 (by omega)]; rfl
/-! places -/
theorem inB_of {i : Int} {n : Nat} (h : 0 ≤ i ∧ i < n) : inB i n = true := by simp [inB, h]
theorem leB_of {i : Int} {n : Nat} (h : 0 ≤ i ∧ i ≤ n) : leB i n = true := by simp [leB, h]
theorem fits_of {α : Type} {lo len : Nat} {l : List α} (h : lo + len ≤ l.length) : fits lo len l = true := by simp [fits, h]
theorem fits_not {α : Type} {lo len : Nat} {l : List α} (h : l.length < lo + len) : fits lo len l = false := by simp [fits]; omega
theorem addLo_eq' (n : Nat) (i : Int) : addLo n i = n + i := by cases n <;> simp [addLo]
theorem addN_eq' (n m : Nat) : addN n m = n + m := by cases n <;> cases m <;> simp [addN]
theorem sub_all {α : Type} (l : List α) : sub l 0 l.length = l := by simp [sub]
/-! strings -/
theorem bs_inj {a b : List UInt8} : bs a = bs b ↔ a = b := by
 constructor
 ·intro h
  have : a.toArray = b.toArray := congrArg ByteArray.data h
  exact congrArg Array.toList this
 ·exact congrArg _
theorem bs_list (s : ByteArray) : bs s.data.toList = s := by cases s; simp [bs]
theorem bs_data (l : List UInt8) : (bs l).data.toList = l := rfl
@[simp] theorem bs_size (l : List UInt8) : (bs l).size = l.length := by simp [bs, ByteArray.size]
theorem bs_ex (s : ByteArray) : ∃ l, s = bs l := ⟨_, (bs_list s).symm⟩
theorem bt_bs (l : List UInt8) (i : Nat) : bt (bs l) (i : Int) = ((l.getD i 0).toNat : Int) := by
 simp [bt, bs]
theorem bt_get {l : List UInt8} {i : Nat} (h : i < l.length) : bt (bs l) (i : Int) = (l[i].toNat : Int) := by
 rw [bt_bs]; simp [List.getD, List.getElem?_eq_getElem h]
theorem bs_extract (l : List UInt8) (a b : Nat) : (bs l).extract a b = bs ((l.drop a).take (b - a)) := by
 apply ByteArray.ext
 simp only [bs, ByteArray.data_extract]
 simp [List.extract_toArray]
/-! the index of a byte -/
theorem indexByte_eq (l : List UInt8) (c : UInt8) : Lib.indexByte l c = if c ∈ l then ((l.takeWhile (· != c)).length : Int) else -1 := by
 induction l with
 | nil => rfl
 | cons b l ih =>
  unfold Lib.indexByte
  by_cases h : b = c
  ·subst h; simp
  ·have h2 : (b == c) = false := by simpa using h
   rw [ih]
   by_cases h3 : c ∈ l
   ·have hc : ¬ (c = b) := fun e => h e.symm
    simp [h3, h]
    try omega
   ·have hc : ¬ (c = b) := fun e => h e.symm
    simp [h3, h2, hc]
/-! maps -/
def Sh.key : Sh → Bool
 | .int _ => true
 | .bool => true
 | .str => true
 | .isl _ => false
 | .pair a b => a.key && b.key
 | .unit => true
 | .ref _ _ => true
theorem Sh.eqb_iff : ∀ {s : Sh}, s.key = true → ∀ {a b : s.T}, s.eqb a b = true ↔ a = b
 | .int _, _, a, b => by simp [Sh.eqb]
 | .bool, _, a, b => by simp [Sh.eqb]
 | .str, _, a, b => by simp [Sh.eqb]
 | .isl _, h, _, _ => by cases h
 | .pair x y, h, a, b => by
  have h : (x.key && y.key) = true := h
  rw [Bool.and_eq_true] at h
  show (x.eqb a.1 b.1 && y.eqb a.2 b.2) = true ↔ a = b
  rw [Bool.and_eq_true, Sh.eqb_iff h.1, Sh.eqb_iff h.2]
  exact ⟨fun e => Prod.ext e.1 e.2, fun e => by rw [e]; exact ⟨rfl, rfl⟩⟩
 | .unit, _, a, b => by simp [Sh.eqb]
 | .ref _ _, _, a, b => by simp [Sh.eqb]
theorem Sh.eqb_self {s : Sh} (h : s.key = true) (a : s.T) : s.eqb a a = true := (Sh.eqb_iff h).2 rfl
theorem Sh.eqb_ne {s : Sh} (h : s.key = true) {a b : s.T} (n : a ≠ b) : s.eqb a b = false := by
 cases e : s.eqb a b with
 | false => rfl
 | true => exact absurd ((Sh.eqb_iff h).1 e) n
section
variable {ks vs : Sh} (hk : ks.key = true)
theorem mfind_nil (k : ks.T) : mfind ks vs [] k = none := rfl
include hk
theorem mfind_put_same {l : List (ks.T × vs.T)} (k : ks.T) (v : vs.T) : mfind ks vs (mput ks vs l k v) k = some v := by
 induction l with
 | nil => simp [mput, mfind, Sh.eqb_self hk]
 | cons p r ih =>
  by_cases h : ks.eqb k p.1 = true
  ·simp only [mput, if_pos h, mfind]; rw [if_pos (Sh.eqb_self hk _)]
  ·simp only [mput, if_neg h, mfind]; exact ih
theorem mfind_put_ne {l : List (ks.T × vs.T)} {k k' : ks.T} (hn : k ≠ k') (v : vs.T) : mfind ks vs (mput ks vs l k v) k' = mfind ks vs l k' := by
 have hn' : ¬ (ks.eqb k' k = true) := fun e => hn ((Sh.eqb_iff hk).1 e).symm
 induction l with
 | nil => simp only [mput, mfind]; rw [if_neg hn']
 | cons p r ih =>
  by_cases h : ks.eqb k p.1 = true
  ·have hp : ¬ (ks.eqb k' p.1 = true) := fun e => hn (((Sh.eqb_iff hk).1 h).trans ((Sh.eqb_iff hk).1 e).symm)
   simp only [mput, if_pos h, mfind]; rw [if_neg hn', if_neg hp]
  ·simp only [mput, if_neg h, mfind]; rw [ih]
theorem mem_keys {l : List (ks.T × vs.T)} {k : ks.T} : (mfind ks vs l k).isSome = true ↔ k ∈ l.map (·.1) := by
 induction l with
 | nil => simp [mfind]
 | cons p r ih =>
  simp only [mfind, List.map_cons, List.mem_cons]
  by_cases h : k = p.1
  ·rw [if_pos (by rw [h]; exact Sh.eqb_self hk _)]; simp [h]
  ·rw [if_neg (by rw [Sh.eqb_ne hk h]; simp), ih]; simp [h]
omit hk in
theorem length_put {l : List (ks.T × vs.T)} (k : ks.T) (v : vs.T) : (mput ks vs l k v).length = if (mfind ks vs l k).isSome then l.length else l.length + 1 := by
 induction l with
 | nil => rfl
 | cons p r ih =>
  by_cases h : ks.eqb k p.1 = true
  ·simp [mput, mfind, h]
  ·simp only [mput, mfind, if_neg h, List.length_cons, ih]
   split <;> rfl
theorem keys_put {l : List (ks.T × vs.T)} (k : ks.T) (v : vs.T) : (mput ks vs l k v).map (·.1) = if (mfind ks vs l k).isSome then l.map (·.1) else l.map (·.1) ++ [k] := by
 induction l with
 | nil => rfl
 | cons p r ih =>
  by_cases h : ks.eqb k p.1 = true
  ·have := (Sh.eqb_iff hk).1 h
   simp only [mput, mfind, if_pos h, List.map_cons, Option.isSome_some, if_true]
   rw [this]
  ·simp only [mput, mfind, if_neg h, List.map_cons, ih]
   split <;> rfl
theorem nodup_put {l : List (ks.T × vs.T)} (h : (l.map (·.1)).Nodup) (k : ks.T) (v : vs.T) : ((mput ks vs l k v).map (·.1)).Nodup := by
 rw [keys_put hk]
 split
 ·exact h
 ·rename_i hn
  rw [List.nodup_append]
  refine ⟨h, by simp, ?_⟩
  intro a ha b hb e
  rw [List.mem_singleton] at hb
  subst hb
  subst e
  exact hn ((mem_keys hk).2 ha)
theorem keys_del {l : List (ks.T × vs.T)} (k : ks.T) : ∃ a b, l.map (·.1) = a ++ b ∧ (mdel ks vs l k).map (·.1) = a ++ b.drop 1 ∧ ((mfind ks vs l k).isSome = true → b.head? = some k) ∧ (¬ (mfind ks vs l k).isSome = true → b = []) := by
 induction l with
 | nil => exact ⟨[], [], rfl, rfl, fun h => (by simp [mfind] at h), fun _ => rfl⟩
 | cons p r ih =>
  by_cases h : ks.eqb k p.1 = true
  ·have := (Sh.eqb_iff hk).1 h
   refine ⟨[], p.1 :: r.map (·.1), rfl, by simp [mdel, h], fun _ => by simp [this], fun hn => absurd (by simp [mfind, h]) hn⟩
  ·obtain ⟨a, b, h1, h2, h3, h4⟩ := ih
   have e : mfind ks vs (p :: r) k = mfind ks vs r k := by simp only [mfind, if_neg h]
   rw [e]
   exact ⟨p.1 :: a, b, by simp [h1], by simp [mdel, h, h2], h3, h4⟩
omit hk in
theorem length_del {l : List (ks.T × vs.T)} (k : ks.T) : (mdel ks vs l k).length = if (mfind ks vs l k).isSome then l.length - 1 else l.length := by
 induction l with
 | nil => rfl
 | cons p r ih =>
  by_cases h : ks.eqb k p.1 = true
  ·simp [mdel, mfind, h]
  ·simp only [mdel, mfind, if_neg h, List.length_cons, ih]
   split
   ·rename_i hs
    have : 0 < r.length := by
     cases r with
     | nil => simp [mfind] at hs
     | cons => simp
    omega
   ·rfl
theorem nodup_del {l : List (ks.T × vs.T)} (h : (l.map (·.1)).Nodup) (k : ks.T) : ((mdel ks vs l k).map (·.1)).Nodup := by
 obtain ⟨a, b, h1, h2, _, _⟩ := keys_del hk (vs := vs) (l := l) k
 rw [h1] at h
 rw [h2]
 exact List.Nodup.sublist (List.Sublist.append_left (List.drop_sublist _ _) _) h
theorem mfind_del_ne {l : List (ks.T × vs.T)} {k k' : ks.T} (hn : k ≠ k') : mfind ks vs (mdel ks vs l k) k' = mfind ks vs l k' := by
 induction l with
 | nil => rfl
 | cons p r ih =>
  by_cases h : ks.eqb k p.1 = true
  ·have e := (Sh.eqb_iff hk).1 h
   have : ¬ (ks.eqb k' p.1 = true) := fun e' => hn (e.trans ((Sh.eqb_iff hk).1 e').symm)
   simp [mdel, mfind, h, this]
  ·simp only [mdel, mfind, if_neg h, ih]
theorem mfind_del_same {l : List (ks.T × vs.T)} (h : (l.map (·.1)).Nodup) (k : ks.T) : mfind ks vs (mdel ks vs l k) k = none := by
 cases hs : mfind ks vs (mdel ks vs l k) k with
 | none => rfl
 | some v =>
  have hm : k ∈ (mdel ks vs l k).map (·.1) := (mem_keys hk).1 (by rw [hs]; rfl)
  obtain ⟨a, b, h1, h2, h3, h4⟩ := keys_del hk (vs := vs) (l := l) k
  rw [h2] at hm
  rw [h1] at h
  exfalso
  by_cases hf : (mfind ks vs l k).isSome = true
  ·have hb := h3 hf
   cases b with
   | nil => cases hb
   | cons x t =>
    simp only [List.head?_cons, Option.some.injEq] at hb
    subst hb
    rw [List.nodup_append] at h
    rcases List.mem_append.1 hm with hm | hm
    ·exact h.2.2 _ hm _ (by simp) rfl
    ·have h5 := h.2.1
     rw [List.nodup_cons] at h5
     exact h5.1 (by simpa using hm)
  ·have hb := h4 hf
   subst hb
   rw [List.append_nil] at h1
   exact hf ((mem_keys hk).2 (by rw [h1]; simpa using hm))
end
end
/-! the same once more -/
theorem listDec_self {α : Type} {f : α → α → Bool} (h : ∀ a, f a a = true) : ∀ l : List α, listDec f l l = true
 | [] => rfl
 | a :: l => by
  unfold listDec
  rw [h, listDec_self h l]
  rfl
theorem Sh.dec_self : ∀ (s : Sh) (a : s.T), s.dec a a = true
 | .int _, a => decide_eq_true (rfl : (a : Int) = a)
 | .bool, a => decide_eq_true (rfl : (a : Bool) = a)
 | .str, a => decide_eq_true (rfl : (a : ByteArray) = a)
 | .isl s, a => listDec_self (Sh.dec_self s) a
 | .pair x y, a => by
  show (x.dec a.1 a.1 && y.dec a.2 a.2) = true
  rw [Sh.dec_self x, Sh.dec_self y]
  rfl
 | .unit, _ => rfl
 | .ref _ _, a => decide_eq_true (rfl : (a : Int) = a)
theorem listDec_dec (s : Sh) (l : List s.T) : listDec s.dec l l = true := listDec_self (Sh.dec_self s) l
theorem listDec_int (k : IntKind) (l : List Int) : listDec (Sh.dec (.int k)) l l = true := listDec_dec (.int k) l
end Go.Gx

namespace Go.Gx
def RoundOK (P : Program) (T : Table) (C : Ctx) (A : At) (F : Fam) (v : LVar) : Prop :=
 ∀ (R : Type) (n : Nat) (t : SlotT v.a) (u : HeapT v.g) (K : Exit → List Slot → Heap → Option R),
  exRound P T C A F.k (putS' v.a t) (putH v.g u) (fun sl G => runLVars n F.l sl G K) K = v.m n t u K
def BodyOK (P : Program) (T : Table) (f : Func) (pl : Plan) (F : Nat → Fam) (N : Nat) (v : Var) : Prop :=
 ∀ (R : Type) (t : ArgT v.a) (u : HeapT v.g) (K : Slot → Heap → Option R),
  exBody P T f pl (fun i => (F i).at N) (putA v.a t) (putH v.g u) K = v.m t u K
abbrev cx (pins : Nat) (f : Func) (F : Nat → Fam) (N : Nat) (rows : List Nat) : Ctx := ⟨pins, f.ntmps, fun i => (F i).at N, rows⟩
abbrev row (s : Sh) (l : List s.T) : Seg := .row s l.length l
abbrev pn : Plan := ⟨[], [], []⟩
end Go.Gx
