/-
  Gx, part A: a typed abstract machine that executes the model's code by reduction (definitions alone).
  Objects go by index; rows hold typed lists; a slice that is only read is a list; what a function calls goes by a table.
-/
import Derived.Calls
import Derived.KernelRfl
namespace Go.Gx

/-! ### shapes -/
inductive Sh where
  | int (k : IntKind)
  | bool
  | str
  | isl (s : Sh)
  | pair (a b : Sh)
  | unit

def Sh.same : Sh → Sh → Bool
  | .int k, .int k' => decide (k = k')
  | .bool, .bool => true
  | .str, .str => true
  | .isl s, .isl s' => s.same s'
  | .pair a b, .pair a' b' => a.same a' && b.same b'
  | .unit, .unit => true
  | _, _ => false

theorem Sh.same_eq : ∀ (a b : Sh), a.same b = true → a = b
  | .int k, .int k', h => by rw [of_decide_eq_true h]
  | .bool, .bool, _ => rfl
  | .str, .str, _ => rfl
  | .isl s, .isl s', h => by rw [Sh.same_eq s s' h]
  | .pair a b, .pair a' b', h => by
    have h : (a.same a' && b.same b') = true := h
    rw [Bool.and_eq_true] at h
    rw [Sh.same_eq a a' h.1, Sh.same_eq b b' h.2]
  | .unit, .unit, _ => rfl

theorem Sh.same_refl : ∀ (a : Sh), a.same a = true
  | .int k => by simp [Sh.same]
  | .bool => rfl
  | .str => rfl
  | .isl s => Sh.same_refl s
  | .pair a b => by simp [Sh.same, Sh.same_refl a, Sh.same_refl b]
  | .unit => rfl

instance : DecidableEq Sh := fun a b => if h : a.same b = true then .isTrue (Sh.same_eq a b h) else .isFalse fun e => h (by rw [e]; exact Sh.same_refl b)

@[reducible] def Sh.T : Sh → Type
  | .int _ => Int
  | .bool => Bool
  | .str => ByteArray
  | .isl s => List s.T
  | .pair a b => a.T × b.T
  | .unit => Unit

def Sh.zero : (s : Sh) → s.T
  | .int _ => (0 : Int)
  | .bool => false
  | .str => (⟨#[]⟩ : ByteArray)
  | .isl _ => []
  | .pair a b => (a.zero, b.zero)
  | .unit => ()

def Sh.size : Sh → Nat
  | .pair a b => a.size + b.size
  | .unit => 0
  | _ => 1

/-- equality of keys -/
def Sh.eqb : (s : Sh) → s.T → s.T → Bool
  | .int _, a, b => decide ((a : Int) = b)
  | .bool, a, b => decide ((a : Bool) = b)
  | .str, a, b => decide ((a : ByteArray) = b)
  | .isl _, _, _ => false
  | .pair x y, a, b => x.eqb a.1 b.1 && y.eqb a.2 b.2
  | .unit, _, _ => true

/-- a scalar cell -/
inductive Sc where
  | int (k : IntKind) (n : Int)
  | bool (b : Bool)
  | str (s : ByteArray)
  | ptr (r o : Nat)
  | el (r o : Nat) (i : Int) (z : Nat)
  | eptr (s : Sh) (l : List s.T) (i : Int) (o : Nat)
  | nilp
  | sl (r o z lo len : Nat) (cap : Option Nat)
  | wl (r z : Nat)
  | isl (s : Sh) (l : List s.T)
  | emp
  | nils
  | map (r : Nat)
  | nilm
  | fn (f : Nat) (caps : List Nat)
  | nilf
  | undef

inductive Seg where
  | c (x : Sc)
  | row (s : Sh) (n : Nat) (l : List s.T)

inductive SV where
  | v (x : Sc)
  | agg (l : List Seg)

inductive Slot where
  | sv (x : SV)
  | tup (l : List SV)
  | undef

inductive Obj where
  | cells (l : List Seg)
  | map (ks vs : Sh) (ka va : Bool) (l : List (ks.T × vs.T))
  | dead

abbrev Heap := List Obj
abbrev Fr := List Slot

/-- a test: the tree's node -/
def br {R : Type} (b : Bool) (x y : Option R) : Option R := match b with
  | true => x
  | false => y

section
variable {R : Type}

/-! ### forcing: each of these hands on just what it is given -/
def fSc (x : Sc) (K : Sc → Option R) : Option R := match x with
  | .int k n => K (.int k n)
  | .bool b => K (.bool b)
  | .str s => K (.str s)
  | .ptr r o => K (.ptr r o)
  | .el r o i z => K (.el r o i z)
  | .eptr s l i o => K (.eptr s l i o)
  | .nilp => K .nilp
  | .sl r o z lo len cap => K (.sl r o z lo len cap)
  | .wl r z => K (.wl r z)
  | .isl s l => K (.isl s l)
  | .emp => K .emp
  | .nils => K .nils
  | .map r => K (.map r)
  | .nilm => K .nilm
  | .fn f c => K (.fn f c)
  | .nilf => K .nilf
  | .undef => K .undef

def fSegs (l : List Seg) (K : List Seg → Option R) : Option R := match l with
  | [] => K []
  | .c x :: r => fSc x fun x => fSegs r fun r => K (.c x :: r)
  | .row s n l :: r => fSegs r fun r => K (.row s n l :: r)

def fSV (x : SV) (K : SV → Option R) : Option R := match x with
  | .v y => fSc y fun y => K (.v y)
  | .agg l => fSegs l fun l => K (.agg l)

def fSVs (l : List SV) (K : List SV → Option R) : Option R := match l with
  | [] => K []
  | x :: r => fSV x fun x => fSVs r fun r => K (x :: r)

def fS (s : Slot) (K : Slot → Option R) : Option R := match s with
  | .sv x => fSV x fun x => K (.sv x)
  | .tup l => fSVs l fun l => K (.tup l)
  | .undef => K .undef

def fFr (fr : Fr) (K : Fr → Option R) : Option R := match fr with
  | [] => K []
  | x :: r => fS x fun x => fFr r fun r => K (x :: r)

def fObj (o : Obj) (K : Obj → Option R) : Option R := match o with
  | .cells l => fSegs l fun l => K (.cells l)
  | .map a b ka va l => K (.map a b ka va l)
  | .dead => K .dead

def fH (H : Heap) (K : Heap → Option R) : Option R := match H with
  | [] => K []
  | x :: r => fObj x fun x => fH r fun r => K (x :: r)

def fNats (l : List Nat) (K : List Nat → Option R) : Option R := match l with
  | [] => K []
  | x :: r => fNats r fun r => K (x :: r)

/-- a slot is set -/
def setF (fr : Fr) (t : Nat) (s : Slot) (K : Fr → Option R) : Option R := match fr, t with
  | [], _ => K []
  | _ :: r, 0 => K (s :: r)
  | x :: r, t + 1 => setF r t s fun r => K (x :: r)

def putF (fr : Fr) (d : Option Nat) (s : Slot) (K : Fr → Option R) : Option R := match d with
  | some t => fS s fun s => setF fr t s K
  | none => K fr

def sub {α : Type} (l : List α) (lo len : Nat) : List α := (l.drop lo).take len

def enc : (s : Sh) → s.T → List Sc
  | .int k, x => [.int k x]
  | .bool, x => [.bool x]
  | .str, x => [.str x]
  | .isl s, x => [.isl s x]
  | .pair a b, x => enc a x.1 ++ enc b x.2
  | .unit, _ => []

def castL {a b : Sh} (h : a = b) (l : List a.T) : List b.T := h ▸ l
def castM {a b c d : Sh} (h : a = b) (k : c = d) (l : List (a.T × c.T)) : List (b.T × d.T) := h ▸ k ▸ l

def dec : (s : Sh) → List Sc → Option (s.T × List Sc)
  | .int k, cs => match cs with
    | .int k' n :: r => if k' = k then some (n, r) else none
    | _ => none
  | .bool, cs => match cs with
    | .bool b :: r => some (b, r)
    | _ => none
  | .str, cs => match cs with
    | .str s :: r => some (s, r)
    | _ => none
  | .isl s, cs => match cs with
    | .isl s' l :: r => if h : s' = s then some (castL h l, r) else none
    | .nils :: r => some ([], r)
    | .emp :: r => some ([], r)
    | _ => none
  | .pair a b, l => match dec a l with
    | some (x, r) => match dec b r with
      | some (y, r') => some ((x, y), r')
      | none => none
    | none => none
  | .unit, l => some ((), l)

def dec1 (s : Sh) (l : List Sc) : Option s.T := match dec s l with
  | some (x, []) => some x
  | _ => none

/-! ### types -/
def isAggT (P : Program) (t : TypeId) : Bool := match P.underlying t with
  | some (.struct _) => true
  | some (.array _ _) => true
  | _ => false

/-- is it a struct or an array; and how many cells -/
def aggO (P : Program) (t : TypeId) : Option (Bool × Nat) := match P.underlying t, P.cellsOf t with
  | none, _ => none
  | _, 0 => none
  | some (.struct _), n + 1 => some (true, n + 1)
  | some (.array _ _), n + 1 => some (true, n + 1)
  | some _, n + 1 => some (false, n + 1)

def shList (f : TypeId → Option Sh) : List TypeId → Option Sh
  | [] => some .unit
  | [t] => f t
  | t :: ts => match f t, shList f ts with
    | some a, some b => some (.pair a b)
    | _, _ => none

/-- a small array as a datum: its elements one behind another -/
def nest (s : Sh) : Nat → Sh
  | 0 => .unit
  | 1 => s
  | n + 2 => .pair s (nest s (n + 1))

def shOf (P : Program) : Nat → TypeId → Option Sh
  | 0, _ => none
  | d + 1, t => match P.underlying t with
    | some (.int k) => some (.int k)
    | some .bool => some .bool
    | some .string => some .str
    | some (.slice e) => (shOf P d e).map .isl
    | some (.struct fs) => shList (shOf P d) (fs.toList.map (·.type))
    | some (.array n e) => match Nat.ble n 8 && Nat.blt 0 n, shOf P d e with
      | true, some s => some (nest s n)
      | _, _ => none
    | _ => none

def dep : Nat := 24

def segList (f : TypeId → Option (List Seg)) : List TypeId → Option (List Seg)
  | [] => some []
  | t :: ts => match f t, segList f ts with
    | some a, some b => some (a ++ b)
    | _, _ => none

def zeroSegs (P : Program) : Nat → TypeId → Option (List Seg)
  | 0, _ => none
  | d + 1, t => match P.underlying t with
    | some (.int k) => some [.c (.int k 0)]
    | some .bool => some [.c (.bool false)]
    | some .string => some [.c (.str ⟨#[]⟩)]
    | some (.pointer _) => some [.c .nilp]
    | some (.slice _) => some [.c .nils]
    | some (.map _ _) => some [.c .nilm]
    | some (.func _ _ _) => some [.c .nilf]
    | some (.struct fs) => segList (zeroSegs P d) (fs.toList.map (·.type))
    | some (.array n e) => match P.underlying e with
      | some (.array m e') => (shOf P d e').map fun s => [.row s (n * m) (List.replicate (n * m) s.zero)]
      | _ => (shOf P d e).map fun s => [.row s n (List.replicate n s.zero)]
    | _ => none

def svSegs : SV → List Seg
  | .v x => [.c x]
  | .agg l => l

def segSize : Seg → Nat
  | .c _ => 1
  | .row s n _ => n * s.size

def segsSize : List Seg → Nat
  | [] => 0
  | g :: r => segSize g + segsSize r

def scMatch : Sc → Value → Bool
  | .int k n, .int k' n' => decide (k = k') && decide (n = n')
  | .bool a, .bool b => a == b
  | .str a, .string b => decide (a = b)
  | .isl _ l, .slice none 0 0 => l.isEmpty
  | .nilp, .pointer none => true
  | .nils, .slice none 0 0 => true
  | .nilm, .map none => true
  | .nilf, .nilFunc => true
  | _, _ => false

def scsMatch : List Sc → List Value → Option (List Value)
  | [], vs => some vs
  | x :: r, v :: vs => bif scMatch x v then scsMatch r vs else none
  | _ :: _, [] => none

def rowMatch (s : Sh) : List s.T → List Value → Option (List Value)
  | [], vs => some vs
  | x :: l, vs => match scsMatch (enc s x) vs with
    | some r => rowMatch s l r
    | none => none

def cellMatch : List Seg → List Value → Bool
  | [], [] => true
  | .c x :: r, v :: vs => scMatch x v && cellMatch r vs
  | .row s n l :: r, vs => bif Nat.beq l.length n then match rowMatch s l vs with
      | some t => cellMatch r t
      | none => false
    else false
  | _, _ => false

/-- the noughts of a type: as its row in the table says -/
def zeroOf (P : Program) (t : TypeId) : Option (List Seg) := match zeroSegs P dep t, P.info? t with
  | some l, some i => match i.zero with
    | some z => bif cellMatch l z.cells.toList && Nat.beq (segsSize l) i.size then some l else none
    | none => none
  | _, _ => none

/-- an element's shape: of the type's size, its nought the table's -/
def elemOf (P : Program) (e : TypeId) : Option Sh := match shOf P dep e, P.info? e with
  | some s, some i => match i.zero with
    | some z => bif cellMatch [.row s 1 [s.zero]] z.cells.toList && Nat.beq s.size i.size && Nat.blt 0 s.size then some s else none
    | none => none
  | _, _ => none

/-! ### places -/
def seek : List Seg → Nat → Option (List Seg × Nat)
  | [], _ => none
  | .c x :: r, 0 => some (.c x :: r, 0)
  | .c _ :: r, o + 1 => seek r o
  | .row s n l :: r, o => bif Nat.blt o s.size then some (.row s n l :: r, o) else
    bif Nat.blt o (n * s.size) then some (.row s n l :: r, o) else seek r (o - n * s.size)

def takeSegs : List Seg → Nat → Option (List Seg × List Seg)
  | l, 0 => some ([], l)
  | [], _ + 1 => none
  | .c x :: r, n + 1 => match takeSegs r n with
    | some (a, b) => some (.c x :: a, b)
    | none => none
  | .row s m l :: r, n + 1 => bif Nat.ble (m * s.size) (n + 1) then match takeSegs r (n + 1 - m * s.size) with
      | some (a, b) => some (.row s m l :: a, b)
      | none => none
    else none

def setSegs (new : List Seg) (n : Nat) : List Seg → Nat → Option (List Seg)
  | l, 0 => match takeSegs l n with
    | some (_, b) => some (new ++ b)
    | none => none
  | [], _ + 1 => none
  | .c x :: r, o + 1 => match setSegs new n r o with
    | some a => some (.c x :: a)
    | none => none
  | .row s m l :: r, o + 1 => bif Nat.ble (m * s.size) (o + 1) then match setSegs new n r (o + 1 - m * s.size) with
      | some a => some (.row s m l :: a)
      | none => none
    else none

/-- the row at a place, by another list of the same length -/
def setRow (s' : Sh) (l' : List s'.T) : List Seg → Nat → List Seg
  | [], _ => []
  | .c x :: r, 0 => .c x :: r
  | .c x :: r, o + 1 => .c x :: setRow s' l' r o
  | .row s n l :: r, o => bif Nat.blt o s.size then .row s' n l' :: r else
    bif Nat.blt o (n * s.size) then .row s' n l' :: r else .row s n l :: setRow s' l' r (o - n * s.size)

def pickSV (agg : Bool) (cs : List Sc) (n : Nat) : SV := match agg with
  | true => .agg ((cs.take n).map .c)
  | false => match cs with
    | x :: _ => .v x
    | [] => .v .undef

def loadAt (agg : Bool) (n : Nat) (H : Heap) (p : Sc) (K : SV → Option R) : Option R := match p with
  | .ptr r o => match H[r]? with
    | some (.cells sg) => match seek sg o with
      | some (.c x :: g, 0) => match agg with
        | true => match takeSegs (.c x :: g) n with
          | some (a, _) => K (.agg a)
          | none => none
        | false => K (.v x)
      | some (.row s m l :: g, 0) => match agg with
        | true => match takeSegs (.row s m l :: g) n with
          | some (a, _) => K (.agg a)
          | none => none
        | false => none
      | _ => none
    | _ => none
  | .el r o i z => match H[r]? with
    | some (.cells sg) => match seek sg o with
      | some (.row s m l :: _, fo) => bif Nat.beq z s.size && Nat.ble (fo + n) s.size then
          br (decide (i.toNat < m)) (K (pickSV agg ((enc s (l.getD i.toNat s.zero)).drop fo) n)) none
        else match agg, fo with
          | true, 0 => bif Nat.beq n z && Nat.beq (z / s.size * s.size) z && Nat.blt 0 s.size then
              br (decide ((i.toNat + 1) * (z / s.size) ≤ m)) (K (.agg [.row s (z / s.size) (sub l (i.toNat * (z / s.size)) (z / s.size))])) none
            else none
          | _, _ => none
      | _ => none
    | _ => none
  | .eptr s l i o => bif Nat.ble (o + n) s.size then K (pickSV agg ((enc s (l.getD i.toNat s.zero)).drop o) n) else none
  | _ => none

/-- a slice's list where it is a row of its own, which is given up -/
def rowOwn (H : Heap) (r : Nat) : Option ((s : Sh) × List s.T) := match H[r]? with
  | some (.cells [.row s _ l]) => some ⟨s, l⟩
  | _ => none

def fits {α : Type} (lo len : Nat) (l : List α) : Bool := decide (lo + len ≤ l.length)

/-- a slice that is a whole row: with its length -/
def widen (H : Heap) (x : Sc) : Sc := match x with
  | .wl r z => match H[r]? with
    | some (.cells [.row s n _]) => bif Nat.beq z s.size && Nat.blt 0 s.size then .sl r 0 z 0 n none else .undef
    | _ => .undef
  | x => x

def freeze0 (H : Heap) (x : Sc) (K : Sc → Heap → Option R) : Option R := match x with
  | .sl r 0 z lo len _ => match rowOwn H r with
    | some ⟨s, l⟩ => bif Nat.beq z s.size && Nat.blt 0 s.size then br (fits lo len l) (K (.isl s (sub l lo len)) (H.set r .dead)) none else none
    | none => none
  | .sl _ (_ + 1) _ _ _ _ => none
  | x => K x H

def freeze1 (H : Heap) (x : Sc) (K : Sc → Heap → Option R) : Option R := freeze0 H (widen H x) K

def freezeL : Heap → List Sc → (List Sc → Heap → Option R) → Option R
  | H, [], K => K [] H
  | H, x :: r, K => freeze1 H x fun y H => freezeL H r fun r H => K (y :: r) H

/-! ### tidying: a slice whose row is its own is that row, whole; no slice is an empty row -/
/-- hot: rows that are born again wherever they stand alone; pr: what no slice is (true: a list; and a row becomes one) -/
def reb1 (hot : List Nat) (one : Nat → Bool) (pr : Option (Bool × Sh)) (x : Sc) (H : Heap) (K : Sc → Heap → Option R) : Option R := match x with
  | .nils => match pr with
    | some (false, s) => bif Nat.blt 0 s.size then K (.wl H.length s.size) (H ++ [.cells [.row s 0 []]]) else K .nils H
    | some (true, s) => K (.isl s []) H
    | none => K .nils H
  | .emp => match pr with
    | some (false, s) => bif Nat.blt 0 s.size then K (.wl H.length s.size) (H ++ [.cells [.row s 0 []]]) else K .emp H
    | some (true, s) => K (.isl s []) H
    | none => K .emp H
  | .wl r z => match pr with
    | some (true, _) => freeze1 H (.wl r z) K
    | _ => bif hot.contains r && one r then match H[r]? with
        | some (.cells [.row s n l]) => bif Nat.beq z s.size && Nat.blt 0 s.size then K (.wl H.length z) ((H.set r .dead) ++ [.cells [.row s n l]]) else K (.wl r z) H
        | _ => K (.wl r z) H
      else K (.wl r z) H
  | .sl r o z lo len cap => match pr with
    | some (true, _) => freeze1 H (.sl r o z lo len cap) K
    | _ => match o with
      | 0 => bif one r then match H[r]? with
          | some (.cells [.row s _ l]) => bif Nat.beq z s.size && Nat.blt 0 s.size then
              br (fits lo len l) (K (.wl H.length z) ((H.set r .dead) ++ [.cells [.row s len (sub l lo len)]])) none
            else K (.sl r 0 z lo len cap) H
          | _ => K (.sl r 0 z lo len cap) H
        else K (.sl r 0 z lo len cap) H
      | o + 1 => K (.sl r (o + 1) z lo len cap) H
  | x => K x H

def rebSegs (hot : List Nat) (one : Nat → Bool) (f : Nat → Option (Bool × Sh)) : List Seg → Nat → Heap → (List Seg → Nat → Heap → Option R) → Option R
  | [], i, H, K => K [] i H
  | .c x :: r, i, H, K => reb1 hot one (f i) x H fun y H => rebSegs hot one f r (i + 1) H fun r i H => K (.c y :: r) i H
  | .row s n l :: r, i, H, K => rebSegs hot one f r (i + 1) H fun r i H => K (.row s n l :: r) i H

def rebSV (hot : List Nat) (one : Nat → Bool) (f : Nat → Option (Bool × Sh)) (v : SV) (i : Nat) (H : Heap) (K : SV → Nat → Heap → Option R) : Option R := match v with
  | .v x => reb1 hot one (f i) x H fun y H => K (.v y) (i + 1) H
  | .agg l => rebSegs hot one f l i H fun l i H => K (.agg l) i H

def rebSVs (hot : List Nat) (one : Nat → Bool) (f : Nat → Option (Bool × Sh)) : List SV → Nat → Heap → (List SV → Nat → Heap → Option R) → Option R
  | [], i, H, K => K [] i H
  | v :: r, i, H, K => rebSV hot one f v i H fun v i H => rebSVs hot one f r i H fun r i H => K (v :: r) i H

def rebSlot (hot : List Nat) (one : Nat → Bool) (f : Nat → Option (Bool × Sh)) (s : Slot) (i : Nat) (H : Heap) (K : Slot → Nat → Heap → Option R) : Option R := match s with
  | .sv v => rebSV hot one f v i H fun v i H => K (.sv v) i H
  | .tup l => rebSVs hot one f l i H fun l i H => K (.tup l) i H
  | .undef => K .undef (i + 1) H

def rebSlots (hot : List Nat) (one : Nat → Bool) (f : Nat → Option (Bool × Sh)) : List Slot → Nat → Heap → (List Slot → Heap → Option R) → Option R
  | [], _, H, K => K [] H
  | s :: r, i, H, K => rebSlot hot one f s i H fun s i H => rebSlots hot one f r i H fun r H => K (s :: r) H

def isSl : Seg → Bool
  | .c (.sl _ _ _ _ _ _) => true
  | .c (.wl _ _) => true
  | _ => false

def rebObjs (hot : List Nat) (one : Nat → Bool) : List Nat → Heap → (Heap → Option R) → Option R
  | [], H, K => K H
  | i :: is, H, K => match H[i]? with
    | some (.cells sg) => bif sg.any isSl then rebSegs hot one (fun _ => none) sg 0 H fun sg _ H => rebObjs hot one is (H.set i (.cells sg)) K else rebObjs hot one is H K
    | _ => rebObjs hot one is H K

/-- rows: objects that came in and are rows of slices -/
structure Plan where
  hot : List Nat
  prom : List (Nat × (Bool × Sh))
  rows : List Nat

def Plan.at (p : Plan) (i : Nat) : Option (Bool × Sh) := match p.prom.find? (fun q => Nat.beq q.1 i) with
  | some q => some q.2
  | none => none

def countN (r : Nat) : List Nat → Nat
  | [] => 0
  | x :: l => bif Nat.beq x r then countN r l + 1 else countN r l

/-- what no slice is in a variable of a type -/
def promShapes (P : Program) : Nat → TypeId → List (Option Sh)
  | 0, _ => []
  | d + 1, t => match P.underlying t with
    | some (.slice e) => [elemOf P e]
    | some (.struct fs) => fs.toList.flatMap fun f => promShapes P d f.type
    | _ => [none]

def promAt (P : Program) (t : TypeId) (i : Nat) : Option (Bool × Sh) := match (promShapes P dep t)[i]? with
  | some (some s) => some (false, s)
  | _ => none

def rowCells (s : Sh) (l : List s.T) : Nat → Nat → List Sc
  | _, 0 => []
  | i, k + 1 => enc s (l.getD i s.zero) ++ rowCells s l (i + 1) k

def segCells : List Seg → Option (List Sc)
  | [] => some []
  | .c x :: r => match segCells r with
    | some l => some (x :: l)
    | none => none
  | .row s n l :: r => match segCells r with
    | some cs => some (rowCells s l 0 n ++ cs)
    | none => none

/-! ### an array's cells as its row -/
def decN (s : Sh) : Nat → List Sc → Option (List s.T × List Sc)
  | 0, cs => some ([], cs)
  | n + 1, cs => match dec s cs with
    | some (x, r) => match decN s n r with
      | some (l, r') => some (x :: l, r')
      | none => none
    | none => none

def headCells : Nat → List Seg → Option (List Sc × List Seg)
  | 0, r => some ([], r)
  | k + 1, .c x :: r => match headCells k r with
    | some (cs, t) => some (x :: cs, t)
    | none => none
  | _ + 1, _ => none

def regroup : List Seg → List Seg → Option (List Seg)
  | [], l => match l with
    | [] => some []
    | _ :: _ => none
  | .c _ :: ly, l => match l with
    | .c x :: r => match regroup ly r with
      | some r' => some (.c x :: r')
      | none => none
    | _ => none
  | .row s n _ :: ly, l => match l with
    | .row s' n' l' :: r => match regroup ly r with
      | some r' => some (.row s' n' l' :: r')
      | none => none
    | l => match headCells (n * s.size) l with
      | some (cs, r) => match decN s n cs with
        | some (l', []) => match regroup ly r with
          | some r' => some (.row s n l' :: r')
          | none => none
        | _ => none
      | none => none

def isRow : Seg → Bool
  | .row _ _ _ => true
  | _ => false

def regrp (P : Program) (t : TypeId) (v : SV) : SV := match v with
  | .agg l => match zeroSegs P dep t with
    | some ly => bif ly.any isRow then match regroup ly l with
        | some l' => .agg l'
        | none => .agg l
      else .agg l
    | none => .agg l
  | .v x => .v x

def okSV : SV → Bool
  | .v .undef => false
  | _ => true

def svCells (v : SV) : Option (List Sc) := bif okSV v then segCells (svSegs v) else none

def storeAt (n : Nat) (H : Heap) (p : Sc) (v : SV) (K : Heap → Option R) : Option R := match p with
  | .ptr r o => bif Nat.beq (segsSize (svSegs v)) n && okSV v then match H[r]? with
      | some (.cells sg) => match setSegs (svSegs v) n sg o with
        | some sg' => K (H.set r (.cells sg'))
        | none => none
      | _ => none
    else none
  | .el r o i z => match segCells (svSegs v) with
    | some cs => freezeL H cs fun cs H => match H[r]? with
      | some (.cells sg) => match seek sg o with
        | some (.row s m l :: _, fo) => bif Nat.beq z s.size && Nat.beq cs.length n && Nat.ble (fo + n) s.size && okSV v then
            match dec1 s ((enc s (l.getD i.toNat s.zero)).take fo ++ (cs ++ (enc s (l.getD i.toNat s.zero)).drop (fo + n))) with
            | some y => br (decide (i.toNat < m)) (K (H.set r (.cells (setRow s (l.set i.toNat y) sg o)))) none
            | none => none
          else none
        | _ => none
      | _ => none
    | none => none
  | _ => none

/-! ### operations without memory -/
def band (k : IntKind) (a b : Int) : Int := k.wrap (BitVec.ofInt k.bits a &&& BitVec.ofInt k.bits b).toNat
def bor (k : IntKind) (a b : Int) : Int := k.wrap (BitVec.ofInt k.bits a ||| BitVec.ofInt k.bits b).toNat
def bxor (k : IntKind) (a b : Int) : Int := k.wrap (BitVec.ofInt k.bits a ^^^ BitVec.ofInt k.bits b).toNat
def bandnot (k : IntKind) (a b : Int) : Int := k.wrap (BitVec.ofInt k.bits a &&& ~~~BitVec.ofInt k.bits b).toNat
def shlI (k : IntKind) (a b : Int) : Int := k.wrap (a * 2 ^ (min b.toNat k.bits))
def shrI (k : IntKind) (a b : Int) : Int := a.fdiv (2 ^ (min b.toNat k.bits))

def exBin (d : Option TypeDesc) (op : BinOp) (x y : Sc) (K : Sc → Option R) : Option R := match x, y with
  | .int k a, .int k' b => match op with
    | .shl => br (decide (b < 0)) none (K (.int k (shlI k a b)))
    | .shr => br (decide (b < 0)) none (K (.int k (shrI k a b)))
    | op => bif decide (k = k') then match op with
      | .add => K (.int k (k.wrap (a + b)))
      | .sub => K (.int k (k.wrap (a - b)))
      | .mul => K (.int k (k.wrap (a * b)))
      | .quo => br (decide (b = 0)) none (K (.int k (k.wrap (a.tdiv b))))
      | .rem => br (decide (b = 0)) none (K (.int k (a.tmod b)))
      | .and => K (.int k (band k a b))
      | .or => K (.int k (bor k a b))
      | .xor => K (.int k (bxor k a b))
      | .andNot => K (.int k (bandnot k a b))
      | .eql => K (.bool (decide (a = b)))
      | .neq => K (.bool (!decide (a = b)))
      | .lss => K (.bool (decide (a < b)))
      | .leq => K (.bool (decide (a ≤ b)))
      | .gtr => K (.bool (decide (b < a)))
      | .geq => K (.bool (decide (b ≤ a)))
      | _ => none
      else none
  | .bool a, .bool b => match op, d with
    | .eql, some .bool => K (.bool (a == b))
    | .neq, some .bool => K (.bool (!(a == b)))
    | _, _ => none
  | .str a, .str b => match op with
    | .add => br (decide (a.size + b.size < 2 ^ 40)) (K (.str (a ++ b))) none
    | .eql => K (.bool (decide (a = b)))
    | .neq => K (.bool (!decide (a = b)))
    | _ => none
  | .nilp, .nilp => match op, d with
    | .eql, some (.pointer _) => K (.bool true)
    | .neq, some (.pointer _) => K (.bool false)
    | _, _ => none
  | .ptr _ _, .nilp => match op, d with
    | .eql, some (.pointer _) => K (.bool false)
    | .neq, some (.pointer _) => K (.bool true)
    | _, _ => none
  | .el _ _ _ _, .nilp => match op, d with
    | .eql, some (.pointer _) => K (.bool false)
    | .neq, some (.pointer _) => K (.bool true)
    | _, _ => none
  | _, _ => none

def exUn (op : UnOp) (x : Sc) (K : Sc → Option R) : Option R := match op, x with
  | .not, .bool b => K (.bool (!b))
  | .neg, .int k n => K (.int k (k.wrap (0 - n)))
  | .xor, .int k n => K (.int k (bxor k (if k.signed then -1 else k.max) n))
  | _, _ => none

def ofConst : Value → Slot
  | .int k n => .sv (.v (.int k n))
  | .bool b => .sv (.v (.bool b))
  | .string s => .sv (.v (.str s))
  | .pointer none => .sv (.v .nilp)
  | .slice none 0 0 => .sv (.v .nils)
  | .map none => .sv (.v .nilm)
  | .nilFunc => .sv (.v .nilf)
  | _ => .undef

def evalO (fr : Fr) : Operand → Slot
  | .tmp t => fr.getD t .undef
  | .const v => ofConst v
  | .global _ => .undef
  | .func f => .sv (.v (.fn f []))

def evalS (fr : Fr) (x : Operand) : Sc := match evalO fr x with
  | .sv (.v x) => x
  | _ => .undef

def evalSV (fr : Fr) (x : Operand) : Option SV := match evalO fr x with
  | .sv x => some x
  | _ => none

def inB (i : Int) (n : Nat) : Bool := decide (0 ≤ i) && decide (i < (n : Int))
def leB (i : Int) (n : Nat) : Bool := decide (0 ≤ i) && decide (i ≤ (n : Int))

def addLo : Nat → Int → Int
  | 0, i => i
  | n + 1, i => ((n + 1 : Nat) : Int) + i

def addN : Nat → Nat → Nat
  | 0, i => i
  | n, 0 => n
  | n + 1, i + 1 => (n + 1) + (i + 1)

/-- one of a small array's places, by number -/
def chain (mk : Nat → Sc) (i : Int) (K : Sc → Option R) : Nat → Nat → Option R
  | _, 0 => none
  | j, k + 1 => br (decide (i = (j : Int))) (K (mk j)) (chain mk i K (j + 1) k)

/-- is an element a datum of its own -/
def whole (H : Heap) (r o z : Nat) : Bool := match H[r]? with
  | some (.cells sg) => match seek sg o with
    | some (.row s _ _ :: _, _) => Nat.beq z s.size
    | _ => false
  | _ => false

def exIndexAddr (P : Program) (t : TypeId) (H : Heap) (x ix : Sc) (K : Sc → Option R) : Option R := match ix with
  | .int _ i => match P.underlying t, x with
    | some (.array n e), .ptr r o => match P.cellsOf e with
      | 0 => none
      | z + 1 => br (inB i n) (K (.el r o i (z + 1))) none
    | some (.array n e), .el r o i0 z0 => match P.cellsOf e with
      | 0 => none
      | z + 1 => bif Nat.ble n 8 && whole H r o z0 then chain (fun j => .el r (o + j * (z + 1)) i0 z0) i K 0 n
        else bif Nat.beq (n * (z + 1)) z0 then br (inB i n && decide (0 ≤ i0)) (K (.el r o (i0 * (n : Int) + i) (z + 1))) none else none
    | some (.array n e), .eptr s l i0 o => match P.cellsOf e with
      | 0 => none
      | z + 1 => bif Nat.ble n 8 then chain (fun j => .eptr s l i0 (o + j * (z + 1))) i K 0 n else none
    | some (.slice e), .sl r o z lo len _ => bif Nat.beq z (P.cellsOf e) && Nat.blt 0 z then br (inB i len) (K (.el r o (addLo lo i) z)) none else none
    | some (.slice e), .isl s l => bif Nat.beq s.size (P.cellsOf e) && Nat.blt 0 s.size then br (inB i l.length) (K (.eptr s l i 0)) none else none
    | _, _ => none
  | _ => none

def exFieldAddr (P : Program) (t : TypeId) (x : Sc) (f : Nat) (K : Sc → Option R) : Option R := match P.underlying t with
  | some (.struct fs) => match fs[f]? with
    | some fd => match P.cellsOf fd.type with
      | 0 => none
      | _ + 1 => match x with
        | .ptr r o => K (.ptr r (o + fd.offset))
        | .el r o i z => K (.el r (o + fd.offset) i z)
        | .eptr s l i o => K (.eptr s l i (o + fd.offset))
        | _ => none
    | none => none
  | _ => none

/-- a part of an aggregate value -/
def exPart (P : Program) (t : TypeId) (sg : List Seg) (off : Nat) (K : SV → Option R) : Option R := match seek sg off, aggO P t with
  | some (g, 0), some (true, n) => match takeSegs g n with
    | some (a, _) => K (.agg a)
    | none => none
  | some (.c x :: _, 0), some (false, _) => K (.v x)
  | _, _ => none

def exField (P : Program) (t : TypeId) (x : Slot) (f : Nat) (K : SV → Option R) : Option R := match P.underlying t with
  | some (.struct fs) => match fs[f]?, x with
    | some fd, .sv (.agg sg) => exPart P fd.type sg fd.offset K
    | _, _ => none
  | _ => none

def bt (s : ByteArray) (i : Int) : Int := ((s.data.getD i.toNat 0).toNat : Int)

def chainV (P : Program) (e : TypeId) (sg : List Seg) (i : Int) (K : SV → Option R) : Nat → Nat → Option R
  | _, 0 => none
  | j, k + 1 => br (decide (i = (j : Int))) (exPart P e sg (j * P.cellsOf e) K) (chainV P e sg i K (j + 1) k)

def exIndex (P : Program) (t : TypeId) (x : Slot) (ix : Sc) (K : SV → Option R) : Option R := match ix with
  | .int _ i => match P.underlying t, x with
    | some .string, .sv (.v (.str s)) => br (inB i s.size) (K (.v (.int .u8 (bt s i)))) none
    | some (.array n e), .sv (.agg [.row s m l]) => match aggO P e with
      | some (false, 1) => bif Nat.beq s.size 1 && Nat.beq m n then
          br (inB i n) (match enc s (l.getD i.toNat s.zero) with
            | [x] => K (.v x)
            | _ => none) none else none
      | _ => none
    | some (.array n e), .sv (.agg sg) => bif Nat.ble n 8 then chainV P e sg i K 0 n else none
    | _, _ => none
  | _ => none

def optI (fr : Fr) : Option Operand → Option (Option Int)
  | none => some none
  | some x => match evalS fr x with
    | .int _ n => some (some n)
    | _ => none

/-- bounds of a slice expression: low, high, max as numbers -/
def exLow (K : Nat → Nat → Nat → Option R) (lo : Option Int) (h m : Nat) : Option R := match lo with
  | some l => br (leB l h) (K l.toNat h m) none
  | none => K 0 h m

def exHigh (len : Nat) (K : Nat → Nat → Nat → Option R) (lo hi : Option Int) (m : Nat) : Option R := match hi with
  | some h => br (leB h m) (exLow K lo h.toNat m) none
  | none => exLow K lo len m

def exBounds (len cap : Nat) (lo hi mx : Option Int) (K : Nat → Nat → Nat → Option R) : Option R := match mx with
  | some m => match hi with
    | some _ => br (leB m cap) (exHigh len K lo hi m.toNat) none
    | none => none
  | none => exHigh len K lo hi cap

def capOf (len : Nat) : Option Nat → Nat
  | some c => c
  | none => len

def newCap (cap : Option Nat) (hi mx : Option Int) (l m : Nat) : Option Nat := match mx, hi with
  | none, none => match cap with
    | none => none
    | some c => some (c - l)
  | _, _ => some (m - l)

def isZ : Option Operand → Bool
  | some (.const (.int _ n)) => decide (n = 0)
  | _ => false

/-- x[:0:0] -/
def exClip (P : Program) (t : TypeId) (x : Sc) (K : Sc → Option R) : Option R := match P.underlying t with
  | some (.slice e) => match P.cellsOf e with
    | 0 => none
    | _ + 1 => match x with
      | .sl _ _ _ _ _ _ => K .emp
      | .isl _ _ => K .emp
      | .emp => K .emp
      | .nils => K .nils
      | _ => none
  | _ => none

def exSlice (P : Program) (t : TypeId) (H : Heap) (x : Sc) (lo hi mx : Option Int) (K : Sc → Option R) : Option R := match P.underlying t, x with
  | some .string, .str s => match mx with
    | none => exBounds s.size s.size lo hi none fun l h _ => K (.str (s.extract l h))
    | some _ => none
  | some (.slice e), .sl r o z l0 len cap => match P.cellsOf e with
    | 0 => none
    | sz + 1 => bif Nat.beq (sz + 1) z then exBounds len (capOf len cap) lo hi mx fun l h m => K (.sl r o z (addN l0 l) (h - l) (newCap cap hi mx l m)) else none
  | some (.slice e), .isl s l0 => match mx, P.cellsOf e with
    | none, sz + 1 => bif Nat.beq (sz + 1) s.size then exBounds l0.length l0.length lo hi none fun l h _ => K (.isl s (sub l0 l (h - l))) else none
    | _, _ => none
  | some (.slice e), .nils => match P.cellsOf e with
    | 0 => none
    | _ + 1 => exBounds 0 0 lo hi mx fun _ _ _ => K .nils
  | some (.slice e), .emp => match P.cellsOf e with
    | 0 => none
    | _ + 1 => exBounds 0 0 lo hi mx fun _ _ _ => K .emp
  | some (.array n e), .ptr r o => match P.cellsOf e, H[r]? with
    | z + 1, some (.cells sg) => bif Nat.ble (o + n * (z + 1)) (segsSize sg) && Nat.blt 0 n then
        exBounds n n lo hi mx fun l h m => K (.sl r o (z + 1) l (h - l) (some (m - l))) else none
    | _, _ => none
  | _, _ => none

/-! ### operations with memory: they hand on a value and a heap -/
/-- the list of a slice -/
def listOf (s : Sh) (H : Heap) (x : Sc) (K : List s.T → Option R) : Option R := match x with
  | .sl r o z lo len _ => match H[r]? with
    | some (.cells sg) => match seek sg o with
      | some (.row s' _ l :: _, 0) => if h : s' = s ∧ z = s.size then br (fits lo len l) (K (sub (castL h.1 l) lo len)) none else none
      | _ => none
    | _ => none
  | .isl s' l => if h : s' = s then K (castL h l) else none
  | .emp => K []
  | .nils => K []
  | _ => none

def bytesOf (s : ByteArray) : List Int := s.data.toList.map fun b => (b.toNat : Int)
def mkStr (l : List Int) : ByteArray := ⟨(l.map fun n => UInt8.ofNat n.toNat).toArray⟩

def appT (P : Program) : List TypeId → Option TypeId
  | [t] => some t
  | [t, u] => match P.underlying u with
    | some (.slice _) => some t
    | some .string => some t
    | _ => none
  | _ => none

/-- what is appended, or copied: of a string, too -/
def srcOf (s : Sh) (H : Heap) (y : Sc) (K : List s.T → Option R) : Option R := match y with
  | .str b => if h : Sh.int .u8 = s then K (castL h (bytesOf b)) else none
  | y => listOf s H y K

def exAppend (P : Program) (t : TypeId) (H : Heap) (x y : Sc) (K : Sc → Heap → Option R) : Option R := match P.underlying t with
  | some (.slice e) => match elemOf P e with
    | some s => srcOf s H y fun xs => match x with
      | .sl r 0 z lo len _ => match rowOwn H r with
        | some ⟨s', l⟩ => if h : s' = s ∧ z = s.size then
            br (fits lo len l && decide ((len + xs.length) * P.bytesOf e ≤ 2 ^ 46) && Nat.blt 0 (P.bytesOf e))
              (K (.wl H.length z) ((H.set r .dead) ++ [.cells [.row s (len + xs.length) (sub (castL h.1 l) lo len ++ xs)]])) none
          else none
        | none => none
      | .nils => br (decide (xs.length * P.bytesOf e ≤ 2 ^ 46) && Nat.blt 0 (P.bytesOf e))
          (K (.wl H.length s.size) (H ++ [.cells [.row s xs.length xs]])) none
      | .emp => br (decide (xs.length * P.bytesOf e ≤ 2 ^ 46) && Nat.blt 0 (P.bytesOf e))
          (K (.wl H.length s.size) (H ++ [.cells [.row s xs.length xs]])) none
      | _ => none
    | none => none
  | _ => none

def exCopy (P : Program) (t : TypeId) (H : Heap) (x y : Sc) (K : Int → Heap → Option R) : Option R := match P.underlying t with
  | some (.slice e) => match elemOf P e with
    | some s => srcOf s H y fun xs => match x with
      | .sl r o z lo len _ => match H[r]? with
        | some (.cells sg) => match seek sg o with
          | some (.row s' _ l :: _, 0) => if h : s' = s ∧ z = s.size then
              br (fits lo len l) (K ((min xs.length len : Nat) : Int) (H.set r (.cells (setRow s ((castL h.1 l).take lo ++ (xs.take (min xs.length len) ++ (castL h.1 l).drop (lo + min xs.length len))) sg o)))) none
            else none
          | _ => none
        | _ => none
      | .nils => K 0 H
      | .emp => K 0 H
      | _ => none
    | none => none
  | _ => none

def exLen (P : Program) (t : TypeId) (H : Heap) (x : Sc) (K : Int → Option R) : Option R := match P.underlying t, x with
  | some .string, .str s => K (s.size : Int)
  | some (.slice _), .sl _ _ _ _ len _ => K (len : Int)
  | some (.slice _), .isl _ l => K (l.length : Int)
  | some (.slice _), .emp => K 0
  | some (.slice _), .nils => K 0
  | some (.map _ _), .nilm => K 0
  | some (.map _ _), .map r => match H[r]? with
    | some (.map _ _ _ _ l) => K (l.length : Int)
    | _ => none
  | some (.array n _), _ => K (n : Int)
  | some (.pointer a), _ => match P.underlying a with
    | some (.array n _) => K (n : Int)
    | _ => none
  | _, _ => none

def fillRow (s : Sh) : List (Nat × SV) → Heap → List s.T → (List s.T → Heap → Option R) → Option R
  | [], H, l, K => K l H
  | (i, v) :: ps, H, l, K => match svCells v with
    | some cs => freezeL H cs fun cs H => match dec1 s cs with
      | some y => bif Nat.blt i l.length then fillRow s ps H (l.set i y) K else none
      | none => none
    | none => none

def exBuildSlice (P : Program) (t : TypeId) (n : Nat) (ps : List (Nat × SV)) (H : Heap) (K : Sc → Heap → Option R) : Option R := match P.underlying t with
  | some (.slice e) => match elemOf P e with
    | some s => bif Nat.ble (n * s.size) 1000000 then fillRow s ps H (List.replicate n s.zero) fun l H =>
          K (.wl H.length s.size) (H ++ [.cells [.row s n l]])
      else none
    | none => none
  | _ => none

def exMakeSlice (P : Program) (t : TypeId) (len cap : Int) (H : Heap) (K : Sc → Heap → Option R) : Option R := match P.underlying t with
  | some (.slice e) => match elemOf P e with
    | some s => br (decide (0 ≤ len) && decide (len ≤ cap) && decide (cap * (P.bytesOf e : Int) ≤ 2 ^ 46) && Nat.blt 0 (P.bytesOf e))
        (K (.wl H.length s.size) (H ++ [.cells [.row s len.toNat (List.replicate len.toNat s.zero)]])) none
    | none => none
  | _ => none

def fillSegs (P : Program) (fs : List Field) : List (Nat × SV) → List Seg → Option (List Seg)
  | [], l => some l
  | (i, v) :: ps, l => match fs[i]? with
    | some f => bif Nat.beq (segsSize (svSegs v)) (P.cellsOf f.type) && okSV v then match setSegs (svSegs v) (P.cellsOf f.type) l f.offset with
        | some l' => fillSegs P fs ps l'
        | none => none
      else none
    | none => none

def fillArr (s : Sh) : List (Nat × SV) → List s.T → Option (List s.T)
  | [], l => some l
  | (i, v) :: ps, l => match svCells v with
    | some cs => match dec1 s cs with
      | some y => bif Nat.blt i l.length then fillArr s ps (l.set i y) else none
      | none => none
    | none => none

def exBuild (P : Program) (t : TypeId) (ps : List (Nat × SV)) (K : SV → Option R) : Option R := match P.underlying t, zeroOf P t with
  | some (.struct fs), some l => bif fs.toList.all (fun f => (P.info? f.type).isSome) then match fillSegs P fs.toList ps l with
      | some l => K (.agg l)
      | none => none
    else none
  | some (.array _ e), some l => match ps, P.info? e with
    | [], some _ => K (.agg l)
    | ps, some ie => match l with
      | [.row s n l0] => bif Nat.beq s.size ie.size then match fillArr s ps l0 with
          | some l' => K (.agg [.row s n l'])
          | none => none
        else none
      | _ => none
    | _, _ => none
  | _, _ => none

/-! maps -/
def mfind (ks vs : Sh) (l : List (ks.T × vs.T)) (k : ks.T) : Option vs.T := match l with
  | [] => none
  | p :: r => if ks.eqb k p.1 then some p.2 else mfind ks vs r k

def mput (ks vs : Sh) (l : List (ks.T × vs.T)) (k : ks.T) (v : vs.T) : List (ks.T × vs.T) := match l with
  | [] => [(k, v)]
  | p :: r => if ks.eqb k p.1 then (k, v) :: r else p :: mput ks vs r k v

def mdel (ks vs : Sh) (l : List (ks.T × vs.T)) (k : ks.T) : List (ks.T × vs.T) := match l with
  | [] => []
  | p :: r => if ks.eqb k p.1 then r else p :: mdel ks vs r k

/-- types whose values are compared cell by cell -/
def scalarOk (P : Program) (t : TypeId) (s : Sh) : Bool := match P.underlying t, s with
  | some (.int k), .int k' => decide (k = k')
  | some .bool, .bool => true
  | some .string, .str => true
  | _, _ => false

def flatOk (P : Program) : List Field → Nat → Sh → Bool
  | [], _, .unit => true
  | [f], o, s => Nat.beq f.offset o && !(f.name == "_") && scalarOk P f.type s
  | f :: fs, o, .pair a b => Nat.beq f.offset o && !(f.name == "_") && scalarOk P f.type a && flatOk P fs (o + 1) b
  | _, _, _ => false

/-- a type of keys: scalars, structs of scalars -/
def keySh (P : Program) (t : TypeId) : Option (Sh × Bool) := match shOf P dep t, P.underlying t with
  | some s, some (.struct fs) => bif !P.stoodInHeld t && flatOk P fs.toList 0 s then some (s, true) else none
  | some s, some _ => bif scalarOk P t s then some (s, false) else none
  | _, _ => none

/-- a type of values -/
def valSh (P : Program) (t : TypeId) : Option (Sh × Bool) := match elemOf P t, P.info? t with
  | some s, some i => match i.zero with
    | some (.agg _) => bif isAggT P t then some (s, true) else none
    | some _ => bif isAggT P t then none else some (s, false)
    | none => none
  | _, _ => none

def scsSV (agg : Bool) (cs : List Sc) : SV := match agg with
  | true => .agg (cs.map .c)
  | false => match cs with
    | [x] => .v x
    | _ => .v .undef

def svAgg : SV → Bool
  | .v _ => false
  | .agg _ => true

def keyOfSV (s : Sh) (agg : Bool) (x : SV) : Option s.T := bif svAgg x == agg then match svCells x with
  | some cs => dec1 s cs
  | none => none
  else none

def exLookup (P : Program) (t : TypeId) (H : Heap) (x : Sc) (k : SV) (ok : Bool) (K : Slot → Option R) : Option R := match P.underlying t with
  | some (.map kt vt) => match keySh P kt, valSh P vt, x with
    | some (ks, ka), some (vs, va), .map r => match H[r]?, keyOfSV ks ka k with
      | some (.map ks' vs' ka' va' l), some key => if h : ks' = ks ∧ vs' = vs ∧ ka' = ka ∧ va' = va then
          match ok with
          | true => K (.tup [scsSV va (enc vs ((mfind ks vs (castM h.1 h.2.1 l) key).getD vs.zero)), .v (.bool (mfind ks vs (castM h.1 h.2.1 l) key).isSome)])
          | false => K (.sv (scsSV va (enc vs ((mfind ks vs (castM h.1 h.2.1 l) key).getD vs.zero))))
        else none
      | _, _ => none
    | _, _, _ => none
  | _ => none

def exMapUpdate (P : Program) (t : TypeId) (H : Heap) (x : Sc) (k v : SV) (K : Heap → Option R) : Option R := match P.underlying t with
  | some (.map kt vt) => match keySh P kt, valSh P vt, x with
    | some (ks, ka), some (vs, va), .map r => match svCells v with
      | some cs => bif svAgg v == va then freezeL H cs fun cs H => match H[r]?, keyOfSV ks ka k, dec1 vs cs with
        | some (.map ks' vs' ka' va' l), some key, some val => if h : ks' = ks ∧ vs' = vs ∧ ka' = ka ∧ va' = va then
            K (H.set r (.map ks vs ka va (mput ks vs (castM h.1 h.2.1 l) key val)))
          else none
        | _, _, _ => none
        else none
      | none => none
    | _, _, _ => none
  | _ => none

def exDelete (P : Program) (t : TypeId) (H : Heap) (x : Sc) (k : SV) (K : Heap → Option R) : Option R := match P.underlying t with
  | some (.map kt vt) => match keySh P kt, valSh P vt, x with
    | some (ks, ka), some (vs, va), .map r => match H[r]?, keyOfSV ks ka k with
      | some (.map ks' vs' ka' va' l), some key => if h : ks' = ks ∧ vs' = vs ∧ ka' = ka ∧ va' = va then
          K (H.set r (.map ks vs ka va (mdel ks vs (castM h.1 h.2.1 l) key)))
        else none
      | _, _ => none
    | _, _, _ => none
  | _ => none

def exMakeMap (P : Program) (t : TypeId) (H : Heap) (K : Sc → Heap → Option R) : Option R := match P.underlying t with
  | some (.map kt vt) => match keySh P kt, valSh P vt with
    | some (ks, ka), some (vs, va) => K (.map H.length) (H ++ [.map ks vs ka va []])
    | _, _ => none
  | _ => none

def exConvert (P : Program) (src dst : TypeId) (H : Heap) (x : Sc) (K : Sc → Option R) : Option R := match P.underlying src, P.underlying dst, x with
  | some _, some (.int k), .int _ n => K (.int k (k.wrap n))
  | some _, some .string, .str s => K (.str s)
  | some (.slice e), some .string, x => match P.underlying e with
    | some (.int .u8) => listOf (.int .u8) H x fun l => K (.str (mkStr l))
    | _ => none
  | _, _, _ => none

/-! ### calls -/
def scRefs : Sc → List Nat
  | .ptr r _ => [r]
  | .el r _ _ _ => [r]
  | .sl r _ _ _ _ _ => [r]
  | .wl r _ => [r]
  | .map r => [r]
  | .fn _ caps => caps
  | _ => []

def segRefs : List Seg → List Nat
  | [] => []
  | .c x :: r => scRefs x ++ segRefs r
  | .row _ _ _ :: r => segRefs r

def objRefs : Obj → List Nat
  | .cells l => segRefs l
  | _ => []

def svRefs (x : SV) : List Nat := segRefs (svSegs x)

def svsRefs : List SV → List Nat
  | [] => []
  | x :: r => svRefs x ++ svsRefs r

/-- what is reached from some, in order, each once -/
def reach (H : Heap) : Nat → List Nat → List Nat → Option (List Nat)
  | _, [], acc => some acc
  | 0, _ :: _, _ => none
  | n + 1, r :: todo, acc => bif acc.contains r then reach H n todo acc else
    reach H n (objRefs (H.getD r .dead) ++ todo) (acc ++ [r])

def pinRefs (H : Heap) : List Nat → List Nat
  | [] => []
  | r :: rs => objRefs (H.getD r .dead) ++ pinRefs H rs

def fuelR : Nat := 400

def mapSc (f : Nat → Nat) : Sc → Sc
  | .ptr r o => .ptr (f r) o
  | .el r o i z => .el (f r) o i z
  | .sl r o z lo len cap => .sl (f r) o z lo len cap
  | .wl r z => .wl (f r) z
  | .map r => .map (f r)
  | .fn g caps => .fn g (caps.map f)
  | x => x

def mapSegs (f : Nat → Nat) : List Seg → List Seg
  | [] => []
  | .c x :: r => .c (mapSc f x) :: mapSegs f r
  | .row s n l :: r => .row s n l :: mapSegs f r

def mapSV (f : Nat → Nat) : SV → SV
  | .v x => .v (mapSc f x)
  | .agg l => .agg (mapSegs f l)

def mapObj (f : Nat → Nat) : Obj → Obj
  | .cells l => .cells (mapSegs f l)
  | o => o

def mapSlot (f : Nat → Nat) : Slot → Slot
  | .sv x => .sv (mapSV f x)
  | .tup l => .tup (l.map (mapSV f))
  | .undef => .undef

def idx (rs : List Nat) (r : Nat) : Nat := match rs with
  | [] => 0
  | x :: t => bif Nat.beq x r then 0 else idx t r + 1

def back (rs : List Nat) (n : Nat) (i : Nat) : Nat := match rs[i]? with
  | some r => r
  | none => n + (i - rs.length)

/-- the objects rs of H by the first ones of G; the others of G behind -/
def putBack (f : Nat → Nat) : List Nat → Heap → Heap → Heap
  | r :: rs, o :: G, H => putBack f rs G (H.set r (mapObj f o))
  | _, G, H => H ++ G.map (mapObj f)

structure Ent where
  run : {R : Type} → List SV → Heap → (Slot → Heap → Option R) → Option R

abbrev Table := Nat → Ent

def noEnt : Ent := ⟨fun _ _ _ => none⟩

def exCall (T : Table) (f : Nat) (args : List SV) (H : Heap) (K : Slot → Heap → Option R) : Option R :=
  match reach H fuelR (svsRefs args) [] with
  | some rs => fNats rs fun rs => fSVs (args.map (mapSV (idx rs))) fun args => fH (rs.map fun r => mapObj (idx rs) (H.getD r .dead)) fun G =>
    (T f).run args G fun s G => K (mapSlot (back rs H.length) s) (putBack (back rs H.length) rs G H)
  | none => none

/-! ### one operation -/
def svList (fr : Fr) : List Operand → Option (List SV)
  | [] => some []
  | x :: r => match evalSV fr x, svList fr r with
    | some v, some l => some (v :: l)
    | _, _ => none

def partList (fr : Fr) : List (Nat × Operand) → Option (List (Nat × SV))
  | [] => some []
  | (i, x) :: r => match evalSV fr x, partList fr r with
    | some v, some l => some ((i, v) :: l)
    | _, _ => none

def capRefs (fr : Fr) : List Operand → Option (List Nat)
  | [] => some []
  | x :: r => match evalS fr x, capRefs fr r with
    | .ptr q 0, some l => some (q :: l)
    | _, _ => none

def exMinMax (mx : Bool) (x : Sc) : List Sc → (Sc → Option R) → Option R
  | [], K => K x
  | y :: r, K => match x, y with
    | .int k a, .int _ b => match mx with
      | true => exMinMax mx (.int k (if a < b then b else a)) r K
      | false => exMinMax mx (.int k (if b < a then b else a)) r K
    | _, _ => none

/-- operations that leave the world as it is -/
def isRead (o : Op) : Bool := match o with
  | .move _ | .assign _ | .pick _ _ _ | .build _ _ | .load _ _ | .nilCheck _ | .binOp _ _ _ _ _ | .unOp _ _ _ | .convert _ _ _ | .makeFunc _ _ _ | .slice _ _ _ _ _
  | .fieldAddr _ _ _ | .field _ _ _ | .indexAddr _ _ _ | .index _ _ _ | .lookup _ _ _ _ | .extract _ _ => true
  | .call c => match c.callee with
    | .builtin .len | .builtin .min | .builtin .max => true
    | _ => false
  | _ => false

/-- operations that make new blocks, and touch no other -/
def grows (o : Op) : Bool := match o with
  | .alloc _ | .box _ _ | .buildSlice _ _ _ | .makeMap _ _ | .makeSlice _ _ _ => true
  | _ => false

def exRead (P : Program) (fr : Fr) (H : Heap) (o : Op) (K : Slot → Option R) : Option R := match o with
  | .move x => K (evalO fr x)
  | .assign x => K (evalO fr x)
  | .pick c a b => match evalS fr c with
    | .bool c => br c (K (evalO fr a)) (K (evalO fr b))
    | _ => none
  | .build t ps => match partList fr ps.toList with
    | some l => exBuild P t l fun v => K (.sv v)
    | none => none
  | .load t a => match aggO P t with
    | some (agg, n) => loadAt agg n H (evalS fr a) fun v => K (.sv v)
    | none => none
  | .nilCheck x => match evalS fr x with
    | .ptr r o => K (.sv (.v (.ptr r o)))
    | .el r o i z => K (.sv (.v (.el r o i z)))
    | .eptr s l i o => K (.sv (.v (.eptr s l i o)))
    | .fn f caps => K (.sv (.v (.fn f caps)))
    | _ => none
  | .binOp op t x y _ => exBin (P.underlying t) op (evalS fr x) (evalS fr y) fun v => K (.sv (.v v))
  | .unOp op _ x => exUn op (evalS fr x) fun v => K (.sv (.v v))
  | .convert s d x => exConvert P s d H (widen H (evalS fr x)) fun v => K (.sv (.v v))
  | .makeFunc fn first captured => match fn, first.toList, capRefs fr captured.toList with
    | .func f, [], some caps => K (.sv (.v (.fn f caps)))
    | _, _, _ => none
  | .slice t x lo hi mx => bif isZ hi && isZ mx && lo.isNone then exClip P t (widen H (evalS fr x)) fun v => K (.sv (.v v))
    else match optI fr lo, optI fr hi, optI fr mx with
    | some l, some h, some m => exSlice P t H (widen H (evalS fr x)) l h m fun v => K (.sv (.v v))
    | _, _, _ => none
  | .fieldAddr t x f => exFieldAddr P t (evalS fr x) f fun v => K (.sv (.v v))
  | .field t x f => exField P t (evalO fr x) f fun v => K (.sv v)
  | .indexAddr t x ix => exIndexAddr P t H (widen H (evalS fr x)) (evalS fr ix) fun v => K (.sv (.v v))
  | .index t x ix => exIndex P t (evalO fr x) (evalS fr ix) fun v => K (.sv v)
  | .lookup t x ix ok => match evalSV fr ix with
    | some k => exLookup P t H (evalS fr x) k ok fun v => K v
    | none => none
  | .extract x i => match evalO fr x with
    | .tup l => match l[i]? with
      | some v => K (.sv v)
      | none => none
    | _ => none
  | .call c => match c.callee with
    | .builtin b => match b with
      | .len => match c.args.toList, c.argTypes.toList with
        | [x], [t] => exLen P t H (widen H (evalS fr x)) fun n => K (.sv (.v (.int .i64 n)))
        | _, _ => none
      | .min => match c.args.toList.map (evalS fr) with
        | x :: r => exMinMax false x r fun v => K (.sv (.v v))
        | [] => none
      | .max => match c.args.toList.map (evalS fr) with
        | x :: r => exMinMax true x r fun v => K (.sv (.v v))
        | [] => none
      | _ => none
    | _ => none
  | _ => none

def exAct (P : Program) (T : Table) (fr : Fr) (H : Heap) (o : Op) (K : Slot → Heap → Option R) : Option R := match o with
  | .alloc t => match zeroOf P t with
    | some l => rebSegs [] (fun _ => false) (promAt P t) l 0 H fun l _ H => K (.sv (.v (.ptr H.length 0))) (H ++ [.cells l])
    | none => none
  | .box t x => match evalSV fr x with
    | some v => bif okSV v then rebSegs [] (fun _ => false) (promAt P t) (svSegs (regrp P t v)) 0 H fun l _ H => K (.sv (.v (.ptr H.length 0))) (H ++ [.cells l]) else none
    | none => none
  | .buildSlice t n ps => match partList fr ps.toList with
    | some l => exBuildSlice P t n l H fun v H => K (.sv (.v v)) H
    | none => none
  | .store t a x => match evalSV fr x, aggO P t with
    | some v, some (_, n) => match evalS fr a with
      | .ptr r o => rebSV [] (fun _ => false) (promAt P t) (regrp P t v) 0 H fun v _ H => storeAt n H (.ptr r o) v fun H => K .undef H
      | p => storeAt n H p v fun H => K .undef H
    | _, _ => none
  | .makeMap t r => match r with
    | none => exMakeMap P t H fun v H => K (.sv (.v v)) H
    | some x => match evalS fr x with
      | .int _ _ => exMakeMap P t H fun v H => K (.sv (.v v)) H
      | _ => none
  | .makeSlice t l c => match evalS fr l, evalS fr c with
    | .int _ n, .int _ m => exMakeSlice P t n m H fun v H => K (.sv (.v v)) H
    | _, _ => none
  | .mapUpdate t m k x => match evalSV fr k, evalSV fr x with
    | some k, some v => exMapUpdate P t H (evalS fr m) k v fun H => K .undef H
    | _, _ => none
  | .call c => match c.callee with
    | .builtin b => match b with
      | .append => match c.args.toList, appT P c.argTypes.toList with
        | [x, y], some t => exAppend P t H (widen H (evalS fr x)) (widen H (evalS fr y)) fun v H => K (.sv (.v v)) H
        | _, _ => none
      | .copy => match c.args.toList, c.argTypes.toList with
        | [x, y], t :: _ => exCopy P t H (widen H (evalS fr x)) (widen H (evalS fr y)) fun n H => K (.sv (.v (.int .i64 n))) H
        | _, _ => none
      | .delete => match c.args.toList, c.argTypes.toList with
        | [x, y], t :: _ => match evalSV fr y with
          | some k => exDelete P t H (evalS fr x) k fun H => K (.tup []) H
          | none => none
        | _, _ => none
      | _ => none
    | .value f => match evalS fr f, svList fr c.args.toList with
      | .fn g caps, some args => exCall T g (args ++ caps.map fun r => .v (.ptr r 0)) H K
      | _, _ => none
    | .invoke _ _ => none
  | _ => none

def exOp (P : Program) (T : Table) (fr : Fr) (H : Heap) (o : Op) (K : Slot → Heap → Option R) : Option R :=
  bif isRead o then exRead P fr H o fun s => K s H else exAct P T fr H o K

def gslot (ops : List Oper) (j : Nat) : Option Nat := match ops[j]? with
  | some o => o.dst
  | none => none

def asks (want b : Bool) : Bool := match want with
  | true => b
  | false => !b

/-- an operation and its guard; a guard that is not known parts the tree -/
def exStep (P : Program) (T : Table) (ops : List Oper) (o : Oper) (fr : Fr) (H : Heap) (K : Fr → Heap → Option R) : Option R := match o.guard with
  | none => exOp P T fr H o.op fun s H => fH H fun H => putF fr o.dst s fun fr => K fr H
  | some (j, want) => match gslot ops j with
    | some t => match fr.getD t .undef with
      | .sv (.v (.bool b)) => br (asks want b)
          (setF fr t (.sv (.v (.bool want))) fun fr => exOp P T fr H o.op fun s H => fH H fun H => putF fr o.dst s fun fr => K fr H)
          (setF fr t (.sv (.v (.bool (!want)))) fun fr => putF fr o.dst (.tup []) fun fr => K fr H)
      | .tup _ => putF fr o.dst (.tup []) fun fr => K fr H
      | _ => none
    | none => none

/-- operations one behind another -/
def exOps (P : Program) (T : Table) (ops : List Oper) : List Oper → Fr → Heap → (Fr → Heap → Option R) → Option R
  | [], fr, H, K => K fr H
  | o :: rest, fr, H, K => exStep P T ops o fr H fun fr H => exOps P T ops rest fr H K

/-! ### the same once more -/
def listDec {α : Type} (f : α → α → Bool) : List α → List α → Bool
  | [], [] => true
  | a :: l, b :: m => f a b && listDec f l m
  | _, _ => false

def Sh.dec : (s : Sh) → s.T → s.T → Bool
  | .int _, a, b => decide ((a : Int) = b)
  | .bool, a, b => decide ((a : Bool) = b)
  | .str, a, b => decide ((a : ByteArray) = b)
  | .isl s, a, b => listDec s.dec a b
  | .pair x y, a, b => x.dec a.1 b.1 && y.dec a.2 b.2
  | .unit, _, _ => true

def sameCap : Option Nat → Option Nat → Option R → Option R
  | none, none, k => k
  | some a, some b, k => br (decide (a = b)) k none
  | _, _, _ => none

def sameNats : List Nat → List Nat → Bool
  | [], [] => true
  | a :: l, b :: m => Nat.beq a b && sameNats l m
  | _, _ => false

def sameList (s s' : Sh) (l : List s.T) (l' : List s'.T) (k : Option R) : Option R :=
  if h : s = s' then br (listDec s'.dec (castL h l) l') k none else none

def sameSc (x y : Sc) (k : Option R) : Option R := match x, y with
  | .int a n, .int b m => bif decide (a = b) then br (decide (n = m)) k none else none
  | .bool a, .bool b => br (a == b) k none
  | .str a, .str b => br (decide (a = b)) k none
  | .ptr r o, .ptr r' o' => bif Nat.beq r r' && Nat.beq o o' then k else none
  | .el r o i z, .el r' o' i' z' => bif Nat.beq r r' && Nat.beq o o' && Nat.beq z z' then br (decide (i = i')) k none else none
  | .eptr s l i o, .eptr s' l' i' o' => bif Nat.beq o o' then br (decide (i = i')) (sameList s s' l l' k) none else none
  | .nilp, .nilp => k
  | .sl r o z lo len cap, .sl r' o' z' lo' len' cap' => bif Nat.beq r r' && Nat.beq o o' && Nat.beq z z' then br (decide (lo = lo') && decide (len = len')) (sameCap cap cap' k) none else none
  | .wl r z, .wl r' z' => bif Nat.beq r r' && Nat.beq z z' then k else none
  | .isl s l, .isl s' l' => sameList s s' l l' k
  | .emp, .emp => k
  | .nils, .nils => k
  | .map r, .map r' => bif Nat.beq r r' then k else none
  | .nilm, .nilm => k
  | .fn f c, .fn f' c' => bif Nat.beq f f' && sameNats c c' then k else none
  | .nilf, .nilf => k
  | .undef, .undef => k
  | _, _ => none

def sameSegs (l m : List Seg) (k : Option R) : Option R := match l, m with
  | [], [] => k
  | .c x :: l, .c y :: m => sameSc x y (sameSegs l m k)
  | .row s n a :: l, .row s' n' b :: m => bif Nat.beq n n' then sameList s s' a b (sameSegs l m k) else none
  | _, _ => none

def sameSV (x y : SV) (k : Option R) : Option R := match x, y with
  | .v x, .v y => sameSc x y k
  | .agg l, .agg m => sameSegs l m k
  | _, _ => none

def sameSVs (l m : List SV) (k : Option R) : Option R := match l, m with
  | [], [] => k
  | x :: l, y :: m => sameSV x y (sameSVs l m k)
  | _, _ => none

def sameSlot (x y : Slot) (k : Option R) : Option R := match x, y with
  | .sv x, .sv y => sameSV x y k
  | .tup l, .tup m => sameSVs l m k
  | .undef, .undef => k
  | _, _ => none

/-! ### regions whose order is drawn -/
def edges (o : Oper) : List Nat := (o.after.toList.filter (Region.binds .any)).map (·.on)

def readyB (done : List Nat) (o : Oper) : Bool := (edges o).all done.contains

/-- an order: what reads as early as may be -/
def eager (ops : List Oper) : Nat → List Nat → List Nat
  | 0, done => done.reverse
  | n + 1, done =>
    let can := (List.range ops.length).filter fun i => !done.contains i && match ops[i]? with
      | some o => readyB done o
      | none => false
    match can.find? (fun i => match ops[i]? with
      | some o => isRead o.op
      | none => false), can with
    | some i, _ => eager ops n (i :: done)
    | none, i :: _ => eager ops n (i :: done)
    | none, [] => done.reverse

def uniqN : List Nat → List Nat
  | [] => []
  | x :: r => bif (uniqN r).contains x then uniqN r else x :: uniqN r

/-- what must stand ahead: through others, too -/
def ahead (tbl : List (Nat × List Nat)) (o : Oper) : List Nat :=
  uniqN ((edges o).flatMap fun j => j :: (match tbl.find? (fun p => Nat.beq p.1 j) with
    | some p => p.2
    | none => []))

def looks (ops : List Oper) (o : Oper) : List Nat :=
  (o.op.operands.toList.filterMap fun | .tmp t => some t | _ => none) ++ (match o.guard with
    | some (g, _) => (gslot ops g).toList
    | none => [])

def dstIn (o : Oper) (l : List Nat) : Bool := match o.dst with
  | some d => l.contains d
  | none => false

/-- may k stand behind j in the order: whatever the draw, they do not meet -/
def pairOk (ops : List Oper) (j k : Nat) (bef : List Nat) : Bool := match ops[j]?, ops[k]? with
  | some oj, some ok => !dstIn ok (looks ops oj) && !dstIn ok oj.dst.toList && (bef.contains j || (isRead oj.op && !dstIn oj (looks ops ok)))
  | _, _ => false

def notSel : Op → Bool
  | .select _ _ => false
  | _ => true

/-- an order that is looked through; what must stand ahead of each -/
def befTbl (ops : List Oper) : List Nat → List Nat → List (Nat × List Nat) → Option (List (Nat × List Nat))
  | [], done, tbl => bif Nat.beq done.length ops.length then some tbl else none
  | i :: rest, done, tbl => match ops[i]? with
    | some o => bif !done.contains i && readyB done o && !dstIn o (looks ops o) && notSel o.op && done.all (fun j => pairOk ops j i (ahead tbl o)) then
        befTbl ops rest (i :: done) ((i, ahead tbl o) :: tbl) else none
    | none => none

def befOf (tbl : List (Nat × List Nat)) (i : Nat) : List Nat := match tbl.find? (fun p => Nat.beq p.1 i) with
  | some p => p.2
  | none => []

/-- what was read, and might be read behind, once more -/
def recheck (P : Program) (ops : List Oper) (bef : List Nat) : List Nat → Fr → Heap → Option R → Option R
  | [], _, _, k => k
  | j :: rest, fr, H, k => match ops[j]? with
    | some o => bif bef.contains j || !isRead o.op then recheck P ops bef rest fr H k else
      exStep P (fun _ => noEnt) ops o fr H fun fr' _ => match o.dst with
        | some d => sameSlot (fr'.getD d .undef) (fr.getD d .undef) (recheck P ops bef rest fr H k)
        | none => recheck P ops bef rest fr H k
    | none => none

def exDraw (P : Program) (T : Table) (ops : List Oper) (tbl : List (Nat × List Nat)) : List Nat → List Nat → Fr → Heap → (Fr → Heap → Option R) → Option R
  | [], _, fr, H, K => K fr H
  | i :: rest, done, fr, H, K => match ops[i]? with
    | some o => exStep P T ops o fr H fun fr H => bif isRead o.op || grows o.op then exDraw P T ops tbl rest (i :: done) fr H K
        else recheck P ops (befOf tbl i) done.reverse fr H (exDraw P T ops tbl rest (i :: done) fr H K)
    | none => none

/-! ### code -/
/-- loops, and places behind which a piece may be cut off -/
def loops : Code → Nat
  | .seq a b => loops a + loops b + 1
  | .cond _ a b => loops a + loops b
  | .block _ b => loops b
  | .loop b => loops b + 1
  | _ => 0

/-- which slots a loop keeps, and hands out; how they are tidied -/
structure LK where
  cut : Bool
  keep : List Nat
  out : List Nat
  pk : Plan
  po : Plan

structure LSpec where
  k : LK
  run : {R : Type} → List Slot → Heap → (Exit → List Slot → Heap → Option R) → Option R

structure Ctx where
  pins : Nat
  size : Nat
  loop : Nat → LSpec
  rows : List Nat

def slotRefs : Slot → List Nat
  | .sv x => svRefs x
  | .tup l => svsRefs l
  | .undef => []

def slotsRefs : List Slot → List Nat
  | [] => []
  | x :: r => slotRefs x ++ slotsRefs r

def unkeep : List Nat → List Slot → Fr → Fr
  | t :: ts, x :: xs, fr => unkeep ts xs (fr.set t x)
  | _, _, fr => fr

/-- a loop's view: the slots that are kept, the objects that these reach -/
def tidy (n : Nat) (pl : Plan) (sl : List Slot) (H : Heap) (K : List Slot → Heap → Option R) : Option R :=
  match reach H fuelR (pinRefs H (List.range n) ++ slotsRefs sl) (List.range n) with
  | some rs => fNats rs fun rs => fNats (slotsRefs sl ++ pinRefs H rs) fun refs =>
    rebSlots pl.hot (fun r => Nat.beq (countN r refs) 1 && (Nat.ble n r || pl.hot.contains r)) pl.at sl 0 H fun sl H =>
    rebObjs pl.hot (fun r => Nat.beq (countN r refs) 1) rs H fun H => fFr sl fun sl => fH H fun H => K sl H
  | none => none

/-- slices that are whole rows: which -/
def wlSc : Sc → List Nat
  | .wl r _ => [r]
  | _ => []

def wlSegs : List Seg → List Nat
  | [] => []
  | .c x :: r => wlSc x ++ wlSegs r
  | .row _ _ _ :: r => wlSegs r

def wlSVs : List SV → List Nat
  | [] => []
  | v :: r => wlSegs (svSegs v) ++ wlSVs r

def wlSlots : List Slot → List Nat
  | [] => []
  | .sv v :: r => wlSegs (svSegs v) ++ wlSlots r
  | .tup l :: r => wlSVs l ++ wlSlots r
  | .undef :: r => wlSlots r

def wlHeap : Heap → List Nat
  | [] => []
  | .cells l :: r => wlSegs l ++ wlHeap r
  | _ :: r => wlHeap r

/-- a row's length is that of its list -/
def normO : Obj → Obj
  | .cells [.row s _ l] => .cells [.row s l.length l]
  | o => o

def normH (ws : List Nat) : Nat → Heap → Heap
  | _, [] => []
  | i, o :: r => (bif ws.contains i then normO o else o) :: normH ws (i + 1) r

def seeSlots (n : Nat) (rows : List Nat) (sl : List Slot) (H : Heap) (K : List Slot → Heap → Option R) : Option R :=
  match reach H fuelR (pinRefs H (List.range n) ++ slotsRefs sl) (List.range n) with
  | some rs => fNats rs fun rs => fFr (sl.map (mapSlot (idx rs))) fun sl => fH (rs.map fun r => mapObj (idx rs) (H.getD r .dead)) fun G =>
    fNats (rows ++ (wlSlots sl ++ wlHeap G)) fun ws => fH (normH ws 0 G) fun G => K sl G
  | none => none

def view (C : Ctx) (keep : List Nat) (pl : Plan) (fr : Fr) (H : Heap) (K : List Slot → Heap → Option R) : Option R :=
  bif Nat.ble C.size fr.length then tidy C.pins pl (keep.map fun t => fr.getD t .undef) H fun sl H => seeSlots C.pins C.rows sl H K else none

def ofView (C : Ctx) (keep : List Nat) (sl : List Slot) : Fr := unkeep keep sl (List.replicate C.size .undef)

def exCode (P : Program) (T : Table) (C : Ctx) : Code → Nat → Fr → Heap → (Exit → Fr → Heap → Option R) → Option R
  | .skip, _, fr, H, K => K .normal fr H
  | .label _, _, fr, H, K => K .normal fr H
  | .region _ ops draw, _, fr, H, K => bif draw then
      bif P.follows .mixedOrders then match befTbl ops.toList (eager ops.toList ops.size []) [] [] with
        | some tbl => exDraw P T ops.toList tbl (eager ops.toList ops.size []) [] fr H (K .normal)
        | none => none
      else none
    else exOps P T ops.toList ops.toList fr H (K .normal)
  | .seq a b, n, fr, H, K => exCode P T C a (n + 1) fr H fun e fr H => match e with
    | .normal => match (C.loop n).k.cut with
      | true => view C (C.loop n).k.keep (C.loop n).k.pk fr H fun sl G => (C.loop n).run sl G fun e sl G => fH G fun G => fFr (ofView C (C.loop n).k.out sl) fun fr => K e fr G
      | false => exCode P T C b (n + 1 + loops a) fr H K
    | e => K e fr H
  | .cond c a b, n, fr, H, K => match c with
    | .tmp t => match fr.getD t .undef with
      | .sv (.v (.bool x)) => br x (setF fr t (.sv (.v (.bool true))) fun fr => exCode P T C a n fr H K) (setF fr t (.sv (.v (.bool false))) fun fr => exCode P T C b (n + loops a) fr H K)
      | _ => none
    | .const (.bool true) => exCode P T C a n fr H K
    | .const (.bool false) => exCode P T C b (n + loops a) fr H K
    | _ => none
  | .block id b, n, fr, H, K => exCode P T C b n fr H fun e fr H => match e with
    | .exit i => bif Nat.beq i id then K .normal fr H else K (.exit i) fr H
    | e => K e fr H
  | .loop _, n, fr, H, K => view C (C.loop n).k.keep (C.loop n).k.pk fr H fun sl G => (C.loop n).run sl G fun e sl G => fH G fun G => fFr (ofView C (C.loop n).k.out sl) fun fr => K e fr G
  | .exit i, _, fr, H, K => K (.exit i) fr H
  | .ret, _, fr, H, K => K .ret fr H
  | _, _, _, _, _ => none

def resultsK (P : Program) (fr : Fr) (H : Heap) : List ResultVar → (List SV → Option R) → Option R
  | [], K => K []
  | .tmp t :: r, K => match fr.getD t .undef with
    | .sv x => resultsK P fr H r fun l => K (x :: l)
    | _ => none
  | .cell a t :: r, K => match fr.getD a .undef with
    | .sv (.v p) => match aggO P t with
      | some (agg, n) => loadAt agg n H p fun x => resultsK P fr H r fun l => K (x :: l)
      | none => none
    | _ => none

def resSlot : List SV → Slot
  | [x] => .sv x
  | l => .tup l

/-- what is handed back: the objects that came in, and those that the results reach -/
def hand (n : Nat) (pl : Plan) (s : Slot) (H : Heap) (K : Slot → Heap → Option R) : Option R :=
  tidy n pl [s] H fun sl H => seeSlots n pl.rows sl H fun sl G => match sl with
    | [s] => K s G
    | _ => none

def exBody (P : Program) (T : Table) (f : Func) (pl : Plan) (ls : Nat → LSpec) (args : List SV) (H : Heap) (K : Slot → Heap → Option R) : Option R :=
  match f.body with
  | some c => fFr (args.map .sv ++ List.replicate (f.ntmps - args.length) .undef) fun fr => exCode P T ⟨H.length, f.ntmps, ls, pl.rows⟩ c 0 fr H fun e fr G => match e with
    | .normal => resultsK P fr G f.results.toList fun l => hand H.length pl (resSlot l) G K
    | .ret => resultsK P fr G f.results.toList fun l => hand H.length pl (resSlot l) G K
    | _ => none
  | none => none

end
end Go.Gx
