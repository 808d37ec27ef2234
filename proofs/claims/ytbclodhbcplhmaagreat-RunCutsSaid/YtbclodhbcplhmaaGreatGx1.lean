/-
  Gx, part A: a typed abstract machine that executes the model's code by reduction (definitions alone).
  Objects go by index; rows hold typed lists; a slice that is only read is a list; what a function calls goes by a table.
  Gx, part B: what the machine's values and objects stand for in a world; that this lasts while the world goes on.
  Gx, part C: rows, parts and places, as lists of values.
  Gx, part D: an object is made, changed, given up; what the world's cells then are.
  Gx, part E: operations that make and change no memory of their own.
-/
import Derived.Calls
import Derived.KernelRfl
import Derived.WalkKit
import Derived.Laws.Append
namespace Go.Gx
/-! ### shapes -/
inductive Sh where
 | int (k : IntKind)
 | bool
 | str
 | isl (s : Sh)
 | pair (a b : Sh)
 | unit
 | ref (k : Bool) (t : Nat)
def Sh.same : Sh → Sh → Bool
 | .int k, .int k' => decide (k = k')
 | .bool, .bool => true
 | .str, .str => true
 | .isl s, .isl s' => s.same s'
 | .pair a b, .pair a' b' => a.same a' && b.same b'
 | .unit, .unit => true
 | .ref k t, .ref k' t' => (k == k') && Nat.beq t t'
 | _, _ => false
theorem Sh.same_eq : ∀ (a b : Sh), a.same b = true → a = b
 | .int k, .int k', h => by rw [of_decide_eq_true h]
 | .bool, .bool, _ => rfl
 | .str, .str, _ => rfl
 | .isl s, .isl s', h => by rw [Sh.same_eq s s' h]
 | .pair a b, .pair a' b', h => by
  have h : (a.same a' && b.same b') = true := h
  rw [Bool.and_eq_true] at h
  rw [Sh.same_eq a a' h.1, Sh.same_eq b b' h.2]
 | .unit, .unit, _ => rfl
 | .ref k t, .ref k' t', h => by
  have h : ((k == k') && Nat.beq t t') = true := h
  rw [Bool.and_eq_true] at h
  rw [eq_of_beq h.1, Nat.eq_of_beq_eq_true h.2]
theorem Sh.same_refl : ∀ (a : Sh), a.same a = true
 | .int k => by simp [Sh.same]
 | .bool => rfl
 | .str => rfl
 | .isl s => Sh.same_refl s
 | .pair a b => by simp [Sh.same, Sh.same_refl a, Sh.same_refl b]
 | .unit => rfl
 | .ref k t => by simp [Sh.same]
instance : DecidableEq Sh := fun a b => if h : a.same b = true then .isTrue (Sh.same_eq a b h) else .isFalse fun e => h (by rw [e]; exact Sh.same_refl b)
@[reducible] def Sh.T : Sh → Type
 | .int _ => Int
 | .bool => Bool
 | .str => ByteArray
 | .isl s => List s.T
 | .pair a b => a.T × b.T
 | .unit => Unit
 | .ref _ _ => Int
def Sh.zero : (s : Sh) → s.T
 | .int _ => (0 : Int)
 | .bool => false
 | .str => (⟨#[]⟩ : ByteArray)
 | .isl _ => []
 | .pair a b => (a.zero, b.zero)
 | .unit => ()
 | .ref _ _ => (-1 : Int)
def Sh.size : Sh → Nat
 | .pair a b => a.size + b.size
 | .unit => 0
 | _ => 1
def Sh.eqb : (s : Sh) → s.T → s.T → Bool
 | .int _, a, b => decide ((a : Int) = b)
 | .bool, a, b => decide ((a : Bool) = b)
 | .str, a, b => decide ((a : ByteArray) = b)
 | .isl _, _, _ => false
 | .pair x y, a, b => x.eqb a.1 b.1 && y.eqb a.2 b.2
 | .unit, _, _ => true
 | .ref _ _, a, b => decide ((a : Int) = b)
inductive Sc where
 | int (k : IntKind) (n : Int)
 | bool (b : Bool)
 | str (s : ByteArray)
 | ptr (r o : Nat)
 | el (r o : Nat) (i : Int) (z : Nat)
 | eptr (s : Sh) (l : List s.T) (i : Int) (o : Nat)
 | nilp
 | sl (r o z lo len : Nat) (cap : Option Nat)
 | wl (r z : Nat)
 | isl (s : Sh) (l : List s.T)
 | emp
 | nils
 | map (r : Nat)
 | nilm
 | fn (f : Nat) (caps : List Nat)
 | nilf
 | undef
 | rf (k : Bool) (t : Nat) (x : Int)
 | pi (t : Nat) (i j : Int) (z o : Nat)
 | ps (t : Nat) (i : Int) (z lo len : Nat)
inductive Seg where
 | c (x : Sc)
 | row (s : Sh) (n : Nat) (l : List s.T)
inductive SV where
 | v (x : Sc)
 | agg (l : List Seg)
inductive Slot where
 | sv (x : SV)
 | tup (l : List SV)
 | undef
inductive Obj where
 | cells (l : List Seg)
 | map (ks vs : Sh) (ka va : Bool) (l : List (ks.T × vs.T))
 | ice (s : Sh) (l : List s.T)
 | dead
 | pool (k : Bool) (t : Nat) (s : Sh) (l : List s.T)
abbrev Heap := List Obj
abbrev Fr := List Slot
def br {R : Type} (b : Bool) (x y : Option R) : Option R := match b with
 | true => x
 | false => y
section
variable {R : Type}
/-! ### forcing: each of these hands on just what it is given -/
def fSc (x : Sc) (K : Sc → Option R) : Option R := match x with
 | .int k n => K (.int k n)
 | .bool b => K (.bool b)
 | .str s => K (.str s)
 | .ptr r o => K (.ptr r o)
 | .el r o i z => K (.el r o i z)
 | .eptr s l i o => K (.eptr s l i o)
 | .nilp => K .nilp
 | .sl r o z lo len cap => K (.sl r o z lo len cap)
 | .wl r z => K (.wl r z)
 | .isl s l => K (.isl s l)
 | .emp => K .emp
 | .nils => K .nils
 | .map r => K (.map r)
 | .nilm => K .nilm
 | .fn f c => K (.fn f c)
 | .nilf => K .nilf
 | .undef => K .undef
 | .rf k t x => K (.rf k t x)
 | .pi t i j z o => K (.pi t i j z o)
 | .ps t i z lo len => K (.ps t i z lo len)
def fSegs (l : List Seg) (K : List Seg → Option R) : Option R := match l with
 | [] => K []
 | .c x :: r => fSc x fun x => fSegs r fun r => K (.c x :: r)
 | .row s n l :: r => fSegs r fun r => K (.row s n l :: r)
def fSV (x : SV) (K : SV → Option R) : Option R := match x with
 | .v y => fSc y fun y => K (.v y)
 | .agg l => fSegs l fun l => K (.agg l)
def fSVs (l : List SV) (K : List SV → Option R) : Option R := match l with
 | [] => K []
 | x :: r => fSV x fun x => fSVs r fun r => K (x :: r)
def fS (s : Slot) (K : Slot → Option R) : Option R := match s with
 | .sv x => fSV x fun x => K (.sv x)
 | .tup l => fSVs l fun l => K (.tup l)
 | .undef => K .undef
def fFr (fr : Fr) (K : Fr → Option R) : Option R := match fr with
 | [] => K []
 | x :: r => fS x fun x => fFr r fun r => K (x :: r)
def fObj (o : Obj) (K : Obj → Option R) : Option R := match o with
 | .cells l => fSegs l fun l => K (.cells l)
 | .map a b ka va l => K (.map a b ka va l)
 | .ice s l => K (.ice s l)
 | .dead => K .dead
 | .pool k t s l => K (.pool k t s l)
def fH (H : Heap) (K : Heap → Option R) : Option R := match H with
 | [] => K []
 | x :: r => fObj x fun x => fH r fun r => K (x :: r)
def fHr (b : Bool) (H : Heap) (K : Heap → Option R) : Option R := match b with
 | true => K H
 | false => fH H K
def fNats (l : List Nat) (K : List Nat → Option R) : Option R := match l with
 | [] => K []
 | x :: r => fNats r fun r => K (x :: r)
def setF (fr : Fr) (t : Nat) (s : Slot) (K : Fr → Option R) : Option R := match fr, t with
 | [], _ => K []
 | _ :: r, 0 => K (s :: r)
 | x :: r, t + 1 => setF r t s fun r => K (x :: r)
def putF (fr : Fr) (d : Option Nat) (s : Slot) (K : Fr → Option R) : Option R := match d with
 | some t => fS s fun s => setF fr t s K
 | none => K fr
def sub {α : Type} (l : List α) (lo len : Nat) : List α := (l.drop lo).take len
def enc : (s : Sh) → s.T → List Sc
 | .int k, x => [.int k x]
 | .bool, x => [.bool x]
 | .str, x => [.str x]
 | .isl s, x => [.isl s x]
 | .pair a b, x => enc a x.1 ++ enc b x.2
 | .unit, _ => []
 | .ref k t, x => [.rf k t x]
def castL {a b : Sh} (h : a = b) (l : List a.T) : List b.T := h ▸ l
def castM {a b c d : Sh} (h : a = b) (k : c = d) (l : List (a.T × c.T)) : List (b.T × d.T) := h ▸ k ▸ l
def dec : (s : Sh) → List Sc → Option (s.T × List Sc)
 | .int k, cs => match cs with
  | .int k' n :: r => if k' = k then some (n, r) else none
  | _ => none
 | .bool, cs => match cs with
  | .bool b :: r => some (b, r)
  | _ => none
 | .str, cs => match cs with
  | .str s :: r => some (s, r)
  | _ => none
 | .isl s, cs => match cs with
  | .isl s' l :: r => if h : s' = s then some (castL h l, r) else none
  | .nils :: r => some ([], r)
  | .emp :: r => some ([], r)
  | _ => none
 | .pair a b, l => match dec a l with
  | some (x, r) => match dec b r with
   | some (y, r') => some ((x, y), r')
   | none => none
  | none => none
 | .unit, l => some ((), l)
 | .ref k t, cs => match cs with
  | .rf k' t' x :: r => if k' = k ∧ t' = t then some (x, r) else none
  | .nilp :: r => match k with
   | false => some ((-1 : Int), r)
   | true => none
  | .nils :: r => match k with
   | true => some ((-1 : Int), r)
   | false => none
  | _ => none
def dec1 (s : Sh) (l : List Sc) : Option s.T := match dec s l with
 | some (x, []) => some x
 | _ => none
/-! ### types -/
def isAggT (P : Program) (t : TypeId) : Bool := match P.underlying t with
 | some (.struct _) => true
 | some (.array _ _) => true
 | _ => false
def aggO (P : Program) (t : TypeId) : Option (Bool × Nat) := match P.underlying t, P.cellsOf t with
 | none, _ => none
 | _, 0 => none
 | some (.struct _), n + 1 => some (true, n + 1)
 | some (.array _ _), n + 1 => some (true, n + 1)
 | some _, n + 1 => some (false, n + 1)
def shList (f : TypeId → Option Sh) : List TypeId → Option Sh
 | [] => some .unit
 | [t] => f t
 | t :: ts => match f t, shList f ts with
  | some a, some b => some (.pair a b)
  | _, _ => none
def nest (s : Sh) : Nat → Sh
 | 0 => .unit
 | 1 => s
 | n + 2 => .pair s (nest s (n + 1))
def shOf (P : Program) : Nat → TypeId → Option Sh
 | 0, _ => none
 | d + 1, t => match P.underlying t with
  | some (.int k) => some (.int k)
  | some .bool => some .bool
  | some .string => some .str
  | some (.slice e) => (shOf P d e).map .isl
  | some (.pointer e) => some (.ref false (2 * e))
  | some (.struct fs) => shList (shOf P d) (fs.toList.map (·.type))
  | some (.array n e) => match Nat.ble n 8 && Nat.blt 0 n, shOf P d e with
   | true, some s => some (nest s n)
   | _, _ => none
  | _ => none
def dep : Nat := 24
def segList (f : TypeId → Option (List Seg)) : List TypeId → Option (List Seg)
 | [] => some []
 | t :: ts => match f t, segList f ts with
  | some a, some b => some (a ++ b)
  | _, _ => none
def zeroSegs (P : Program) : Nat → TypeId → Option (List Seg)
 | 0, _ => none
 | d + 1, t => match P.underlying t with
  | some (.int k) => some [.c (.int k 0)]
  | some .bool => some [.c (.bool false)]
  | some .string => some [.c (.str ⟨#[]⟩)]
  | some (.pointer _) => some [.c .nilp]
  | some (.slice _) => some [.c .nils]
  | some (.map _ _) => some [.c .nilm]
  | some (.func _ _ _) => some [.c .nilf]
  | some (.struct fs) => segList (zeroSegs P d) (fs.toList.map (·.type))
  | some (.array n e) => match P.underlying e with
   | some (.array m e') => (shOf P d e').map fun s => [.row s (n * m) (List.replicate (n * m) s.zero)]
   | _ => (shOf P d e).map fun s => [.row s n (List.replicate n s.zero)]
  | _ => none
def svSegs : SV → List Seg
 | .v x => [.c x]
 | .agg l => l
def segSize : Seg → Nat
 | .c _ => 1
 | .row s n _ => n * s.size
def segsSize : List Seg → Nat
 | [] => 0
 | g :: r => segSize g + segsSize r
def scMatch : Sc → Value → Bool
 | .int k n, .int k' n' => decide (k = k') && decide (n = n')
 | .bool a, .bool b => a == b
 | .str a, .string b => decide (a = b)
 | .isl _ l, .slice none 0 0 => l.isEmpty
 | .nilp, .pointer none => true
 | .nils, .slice none 0 0 => true
 | .nilm, .map none => true
 | .nilf, .nilFunc => true
 | .rf false _ x, .pointer none => decide (x < 0)
 | .rf true _ x, .slice none 0 0 => decide (x < 0)
 | _, _ => false
def scsMatch : List Sc → List Value → Option (List Value)
 | [], vs => some vs
 | x :: r, v :: vs => bif scMatch x v then scsMatch r vs else none
 | _ :: _, [] => none
def rowMatch (s : Sh) : List s.T → List Value → Option (List Value)
 | [], vs => some vs
 | x :: l, vs => match scsMatch (enc s x) vs with
  | some r => rowMatch s l r
  | none => none
def cellMatch : List Seg → List Value → Bool
 | [], [] => true
 | .c x :: r, v :: vs => scMatch x v && cellMatch r vs
 | .row s n l :: r, vs => bif Nat.beq l.length n then match rowMatch s l vs with
   | some t => cellMatch r t
   | none => false
  else false
 | _, _ => false
def zeroOf (P : Program) (t : TypeId) : Option (List Seg) := match zeroSegs P dep t, P.info? t with
 | some l, some i => match i.zero with
  | some z => bif cellMatch l z.cells.toList && Nat.beq (segsSize l) i.size then some l else none
  | none => none
 | _, _ => none
def elemOf (P : Program) (e : TypeId) : Option Sh := match shOf P dep e, P.info? e with
 | some s, some i => match i.zero with
  | some z => bif cellMatch [.row s 1 [s.zero]] z.cells.toList && Nat.beq s.size i.size && Nat.blt 0 s.size then some s else none
  | none => none
 | _, _ => none
/-! ### places -/
def seek : List Seg → Nat → Option (List Seg × Nat)
 | [], _ => none
 | .c x :: r, 0 => some (.c x :: r, 0)
 | .c _ :: r, o + 1 => seek r o
 | .row s n l :: r, o => bif Nat.blt o s.size then some (.row s n l :: r, o) else
  bif Nat.blt o (n * s.size) then some (.row s n l :: r, o) else seek r (o - n * s.size)
def takeSegs : List Seg → Nat → Option (List Seg × List Seg)
 | l, 0 => some ([], l)
 | [], _ + 1 => none
 | .c x :: r, n + 1 => match takeSegs r n with
  | some (a, b) => some (.c x :: a, b)
  | none => none
 | .row s m l :: r, n + 1 => bif Nat.ble (m * s.size) (n + 1) then match takeSegs r (n + 1 - m * s.size) with
   | some (a, b) => some (.row s m l :: a, b)
   | none => none
  else none
def setSegs (new : List Seg) (n : Nat) : List Seg → Nat → Option (List Seg)
 | l, 0 => match takeSegs l n with
  | some (_, b) => some (new ++ b)
  | none => none
 | [], _ + 1 => none
 | .c x :: r, o + 1 => match setSegs new n r o with
  | some a => some (.c x :: a)
  | none => none
 | .row s m l :: r, o + 1 => bif Nat.ble (m * s.size) (o + 1) then match setSegs new n r (o + 1 - m * s.size) with
   | some a => some (.row s m l :: a)
   | none => none
  else none
def setRow (s' : Sh) (l' : List s'.T) : List Seg → Nat → List Seg
 | [], _ => []
 | .c x :: r, 0 => .c x :: r
 | .c x :: r, o + 1 => .c x :: setRow s' l' r o
 | .row s n l :: r, o => bif Nat.blt o s.size then .row s' n l' :: r else
  bif Nat.blt o (n * s.size) then .row s' n l' :: r else .row s n l :: setRow s' l' r (o - n * s.size)
def poolIx (t : Nat) : Heap → Nat → Option Nat
 | [], _ => none
 | .pool _ t' _ _ :: r, n => bif Nat.beq t' t then some n else poolIx t r (n + 1)
 | _ :: r, n => poolIx t r (n + 1)
def poolAt (H : Heap) (t : Nat) : Option Nat := poolIx t H 0
def pickSV (agg : Bool) (cs : List Sc) (n : Nat) : SV := match agg with
 | true => .agg ((cs.take n).map .c)
 | false => match cs with
  | x :: _ => .v x
  | [] => .v .undef
def loadAt (agg : Bool) (n : Nat) (H : Heap) (p : Sc) (K : SV → Option R) : Option R := match p with
 | .ptr r o => match H[r]? with
  | some (.cells sg) => match seek sg o with
   | some (.c x :: g, 0) => match agg with
    | true => match takeSegs (.c x :: g) n with
     | some (a, _) => K (.agg a)
     | none => none
    | false => K (.v x)
   | some (.row s m l :: g, 0) => match agg with
    | true => match takeSegs (.row s m l :: g) n with
     | some (a, _) => K (.agg a)
     | none => none
    | false => none
   | _ => none
  | _ => none
 | .el r o i z => match H[r]? with
  | some (.ice s l) => bif Nat.beq z s.size && Nat.ble (o + n) s.size then br (decide (i.toNat < l.length)) (K (pickSV agg ((enc s (l.getD i.toNat s.zero)).drop o) n)) none else none
  | some (.cells sg) => match seek sg o with
   | some (.row s m l :: _, fo) => bif Nat.beq z s.size && Nat.ble (fo + n) s.size then
     br (decide (i.toNat < m)) (K (pickSV agg ((enc s (l.getD i.toNat s.zero)).drop fo) n)) none
    else match agg, fo with
     | true, 0 => bif Nat.beq n z && Nat.beq (z / s.size * s.size) z && Nat.blt 0 s.size then
       br (decide ((i.toNat + 1) * (z / s.size) ≤ m)) (K (.agg [.row s (z / s.size) (sub l (i.toNat * (z / s.size)) (z / s.size))])) none
      else none
     | _, _ => none
   | _ => none
  | _ => none
 | .eptr s l i o => bif Nat.ble (o + n) s.size then K (pickSV agg ((enc s (l.getD i.toNat s.zero)).drop o) n) else none
 | .rf false t i => match poolAt H t with
  | some r => match H[r]? with
   | some (.pool false _ s l) => bif Nat.ble n s.size then br (decide (0 ≤ i)) (K (pickSV agg (enc s (l.getD i.toNat s.zero)) n)) none else none
   | _ => none
  | none => none
 | .pi t i j z o => match poolAt H t with
  | some r => match H[r]? with
   | some (.pool false _ s l) => bif Nat.beq z 0 && Nat.ble (o + n) s.size then K (pickSV agg ((enc s (l.getD i.toNat s.zero)).drop o) n) else none
   | some (.pool true _ (.isl s) l) => bif Nat.beq z s.size && Nat.ble (o + n) s.size then K (pickSV agg ((enc s ((l.getD i.toNat []).getD j.toNat s.zero)).drop o) n) else none
   | _ => none
  | none => none
 | _ => none
def rowOwn (H : Heap) (r : Nat) : Option ((s : Sh) × List s.T) := match H[r]? with
 | some (.cells [.row s _ l]) => some ⟨s, l⟩
 | _ => none
def fits {α : Type} (lo len : Nat) (l : List α) : Bool := decide (lo + len ≤ l.length)
def widen (H : Heap) (x : Sc) : Sc := match x with
 | .wl r z => match H[r]? with
  | some (.cells [.row s n _]) => bif Nat.beq z s.size && Nat.blt 0 s.size then .sl r 0 z 0 n none else .undef
  | some (.ice s l) => bif Nat.beq z s.size && Nat.blt 0 s.size then .sl r 0 z 0 l.length none else .undef
  | _ => .undef
 | .rf true t i => match poolAt H t with
  | some r => match H[r]? with
   | some (.pool true _ (.isl s) l) => bif Nat.blt 0 s.size then .ps t i s.size 0 (if i < 0 then 0 else (l.getD i.toNat []).length) else .undef
   | _ => .undef
  | none => .undef
 | x => x
def setHK {R : Type} (H : Heap) (r : Nat) (o : Obj) (K : Heap → Option R) : Option R := match H, r with
 | [], _ => K []
 | _ :: l, 0 => K (o :: l)
 | x :: l, r + 1 => setHK l r o fun l => K (x :: l)
def pushHK {R : Type} (H : Heap) (o : Obj) (K : Heap → Option R) : Option R := match H with
 | [] => K [o]
 | x :: l => pushHK l o fun l => K (x :: l)
def freeze0 (H : Heap) (x : Sc) (K : Sc → Heap → Option R) : Option R := match x with
 | .sl r 0 z lo len _ => match H[r]? with
  | some (.cells [.row s _ l]) => bif Nat.beq z s.size && Nat.blt 0 s.size then br (fits lo len l) (setHK H r (.ice s l) fun H => K (.isl s (sub l lo len)) H) none else none
  | some (.ice s l) => bif Nat.beq z s.size && Nat.blt 0 s.size then br (fits lo len l) (K (.isl s (sub l lo len)) H) none else none
  | _ => none
 | .sl _ (_ + 1) _ _ _ _ => none
 | x => K x H
def freeze1 (H : Heap) (x : Sc) (K : Sc → Heap → Option R) : Option R := match x with
 | .rf k t i => K (.rf k t i) H
 | x => freeze0 H (widen H x) K
def freezeL : Heap → List Sc → (List Sc → Heap → Option R) → Option R
 | H, [], K => K [] H
 | H, x :: r, K => freeze1 H x fun y H => freezeL H r fun r H => K (y :: r) H
def freezeQ (_H0 H : Heap) (x : Sc) (K : Sc → Heap → Option R) : Option R := freeze1 H x K
def freezeQL (H0 : Heap) : Heap → List Sc → (List Sc → Heap → Option R) → Option R
 | H, [], K => K [] H
 | H, x :: r, K => freezeQ H0 H x fun y H => freezeQL H0 H r fun r H => K (y :: r) H
/-! ### tidying: a slice whose row is its own is that row, whole; no slice is an empty row -/
def reb1 (hot : List Nat) (one : Nat → Bool) (pr : Option (Bool × Sh)) (x : Sc) (H : Heap) (K : Sc → Heap → Option R) : Option R := match x with
 | .nils => match pr with
  | some (false, s) => bif Nat.blt 0 s.size then K (.wl H.length s.size) (H ++ [.cells [.row s 0 []]]) else K .nils H
  | some (true, s) => K (.isl s []) H
  | none => K .nils H
 | .emp => match pr with
  | some (false, s) => bif Nat.blt 0 s.size then K (.wl H.length s.size) (H ++ [.cells [.row s 0 []]]) else K .emp H
  | some (true, s) => K (.isl s []) H
  | none => K .emp H
 | .wl r z => match pr with
  | some (true, _) => freeze1 H (.wl r z) K
  | _ => bif hot.contains r && one r then match H[r]? with
    | some (.cells [.row s n l]) => bif Nat.beq z s.size && Nat.blt 0 s.size then setHK H r .dead fun G => pushHK G (.cells [.row s n l]) fun G => K (.wl H.length z) G else K (.wl r z) H
    | _ => K (.wl r z) H
   else K (.wl r z) H
 | .sl r o z lo len cap => match pr with
  | some (true, _) => freeze1 H (.sl r o z lo len cap) K
  | _ => match o with
   | 0 => bif one r then match H[r]? with
     | some (.cells [.row s _ l]) => bif Nat.beq z s.size && Nat.blt 0 s.size then
       br (fits lo len l) (setHK H r .dead fun G => pushHK G (.cells [.row s len (sub l lo len)]) fun G => K (.wl H.length z) G) none
      else K (.sl r 0 z lo len cap) H
     | _ => K (.sl r 0 z lo len cap) H
    else K (.sl r 0 z lo len cap) H
   | o + 1 => K (.sl r (o + 1) z lo len cap) H
 | x => K x H
def rebSegs (hot : List Nat) (one : Nat → Bool) (f : Nat → Option (Bool × Sh)) : List Seg → Nat → Heap → (List Seg → Nat → Heap → Option R) → Option R
 | [], i, H, K => K [] i H
 | .c x :: r, i, H, K => reb1 hot one (f i) x H fun y H => rebSegs hot one f r (i + 1) H fun r i H => K (.c y :: r) i H
 | .row s n l :: r, i, H, K => rebSegs hot one f r (i + 1) H fun r i H => K (.row s n l :: r) i H
def rebSV (hot : List Nat) (one : Nat → Bool) (f : Nat → Option (Bool × Sh)) (v : SV) (i : Nat) (H : Heap) (K : SV → Nat → Heap → Option R) : Option R := match v with
 | .v x => reb1 hot one (f i) x H fun y H => K (.v y) (i + 1) H
 | .agg l => rebSegs hot one f l i H fun l i H => K (.agg l) i H
def rebSVs (hot : List Nat) (one : Nat → Bool) (f : Nat → Option (Bool × Sh)) : List SV → Nat → Heap → (List SV → Nat → Heap → Option R) → Option R
 | [], i, H, K => K [] i H
 | v :: r, i, H, K => rebSV hot one f v i H fun v i H => rebSVs hot one f r i H fun r i H => K (v :: r) i H
def rebSlot (hot : List Nat) (one : Nat → Bool) (f : Nat → Option (Bool × Sh)) (s : Slot) (i : Nat) (H : Heap) (K : Slot → Nat → Heap → Option R) : Option R := match s with
 | .sv v => rebSV hot one f v i H fun v i H => K (.sv v) i H
 | .tup l => rebSVs hot one f l i H fun l i H => K (.tup l) i H
 | .undef => K .undef (i + 1) H
def rebSlots (hot : List Nat) (one : Nat → Bool) (f : Nat → Option (Bool × Sh)) : List Slot → Nat → Heap → (List Slot → Heap → Option R) → Option R
 | [], _, H, K => K [] H
 | s :: r, i, H, K => rebSlot hot one f s i H fun s i H => rebSlots hot one f r i H fun r H => K (s :: r) H
def isSl : Seg → Bool
 | .c (.sl _ _ _ _ _ _) => true
 | .c (.wl _ _) => true
 | _ => false
def rebObjs (hot : List Nat) (one : Nat → Bool) : List Nat → Heap → (Heap → Option R) → Option R
 | [], H, K => K H
 | i :: is, H, K => match H[i]? with
  | some (.cells sg) => bif sg.any isSl then rebSegs hot one (fun _ => none) sg 0 H fun sg _ H => rebObjs hot one is (H.set i (.cells sg)) K else rebObjs hot one is H K
  | _ => rebObjs hot one is H K
structure Plan where
 hot : List Nat
 prom : List (Nat × (Bool × Sh))
 rows : List Nat
def Plan.at (p : Plan) (i : Nat) : Option (Bool × Sh) := match p.prom.find? (fun q => Nat.beq q.1 i) with
 | some q => some q.2
 | none => none
def countN (r : Nat) : List Nat → Nat
 | [] => 0
 | x :: l => bif Nat.beq x r then countN r l + 1 else countN r l
def promShapes (P : Program) : Nat → TypeId → List (Option Sh)
 | 0, _ => []
 | d + 1, t => match P.underlying t with
  | some (.slice e) => [elemOf P e]
  | some (.struct fs) => fs.toList.flatMap fun f => promShapes P d f.type
  | _ => [none]
def promAt (P : Program) (t : TypeId) (i : Nat) : Option (Bool × Sh) := match (promShapes P dep t)[i]? with
 | some (some s) => some (false, s)
 | _ => none
def rowCells (s : Sh) (l : List s.T) : Nat → Nat → List Sc
 | _, 0 => []
 | i, k + 1 => enc s (l.getD i s.zero) ++ rowCells s l (i + 1) k
def segCells : List Seg → Option (List Sc)
 | [] => some []
 | .c x :: r => match segCells r with
  | some l => some (x :: l)
  | none => none
 | .row s n l :: r => match segCells r with
  | some cs => some (rowCells s l 0 n ++ cs)
  | none => none
/-! ### an array's cells as its row -/
def decN (s : Sh) : Nat → List Sc → Option (List s.T × List Sc)
 | 0, cs => some ([], cs)
 | n + 1, cs => match dec s cs with
  | some (x, r) => match decN s n r with
   | some (l, r') => some (x :: l, r')
   | none => none
  | none => none
def headCells : Nat → List Seg → Option (List Sc × List Seg)
 | 0, r => some ([], r)
 | k + 1, .c x :: r => match headCells k r with
  | some (cs, t) => some (x :: cs, t)
  | none => none
 | _ + 1, _ => none
def regroup : List Seg → List Seg → Option (List Seg)
 | [], l => match l with
  | [] => some []
  | _ :: _ => none
 | .c _ :: ly, l => match l with
  | .c x :: r => match regroup ly r with
   | some r' => some (.c x :: r')
   | none => none
  | _ => none
 | .row s n _ :: ly, l => match l with
  | .row s' n' l' :: r => match regroup ly r with
   | some r' => some (.row s' n' l' :: r')
   | none => none
  | l => match headCells (n * s.size) l with
   | some (cs, r) => match decN s n cs with
    | some (l', []) => match regroup ly r with
     | some r' => some (.row s n l' :: r')
     | none => none
    | _ => none
   | none => none
def isRow : Seg → Bool
 | .row _ _ _ => true
 | _ => false
def regrp (P : Program) (t : TypeId) (v : SV) : SV := match v with
 | .agg l => match zeroSegs P dep t with
  | some ly => bif ly.any isRow then match regroup ly l with
    | some l' => .agg l'
    | none => .agg l
   else .agg l
  | none => .agg l
 | .v x => .v x
def okSV : SV → Bool
 | .v .undef => false
 | _ => true
def svCells (v : SV) : Option (List Sc) := bif okSV v then segCells (svSegs v) else none
def storePool (n : Nat) (H : Heap) (t : Nat) (i j : Int) (z o : Nat) (v : SV) (K : Heap → Option R) : Option R := bif okSV v then match segCells (svSegs v) with
 | some cs => freezeL H cs fun cs H => match poolAt H t with
  | some r => match H[r]? with
   | some (.pool false _ s l) => bif Nat.beq z 0 && Nat.beq cs.length n && Nat.ble (o + n) s.size then
     match dec1 s ((enc s (l.getD i.toNat s.zero)).take o ++ (cs ++ (enc s (l.getD i.toNat s.zero)).drop (o + n))) with
     | some y => setHK H r (.pool false t s (l.set i.toNat y)) K
     | none => none
    else none
   | some (.pool true _ (.isl s) l) => bif Nat.beq z s.size && Nat.beq cs.length n && Nat.ble (o + n) s.size then
     match dec1 s ((enc s ((l.getD i.toNat []).getD j.toNat s.zero)).take o ++ (cs ++ (enc s ((l.getD i.toNat []).getD j.toNat s.zero)).drop (o + n))) with
     | some y => setHK H r (.pool true t (.isl s) (l.set i.toNat ((l.getD i.toNat []).set j.toNat y))) K
     | none => none
    else none
   | _ => none
  | none => none
 | none => none
 else none
def storeAt (n : Nat) (H : Heap) (p : Sc) (v : SV) (K : Heap → Option R) : Option R := match p with
 | .ptr r o => bif Nat.beq (segsSize (svSegs v)) n && okSV v then match H[r]? with
   | some (.cells sg) => match setSegs (svSegs v) n sg o with
    | some sg' => K (H.set r (.cells sg'))
    | none => none
   | _ => none
  else none
 | .el r o i z => match segCells (svSegs v) with
  | some cs => freezeL H cs fun cs H => match H[r]? with
   | some (.cells sg) => match seek sg o with
    | some (.row s m l :: _, fo) => bif Nat.beq z s.size && Nat.beq cs.length n && Nat.ble (fo + n) s.size && okSV v then
      match dec1 s ((enc s (l.getD i.toNat s.zero)).take fo ++ (cs ++ (enc s (l.getD i.toNat s.zero)).drop (fo + n))) with
      | some y => br (decide (i.toNat < m)) (K (H.set r (.cells (setRow s (l.set i.toNat y) sg o)))) none
      | none => none
     else none
    | _ => none
   | _ => none
  | none => none
 | .rf false t i => br (decide (0 ≤ i)) (storePool n H t i 0 0 0 v K) none
 | .pi t i j z o => storePool n H t i j z o v K
 | _ => none
/-! ### operations without memory -/
def band (k : IntKind) (a b : Int) : Int := k.wrap (BitVec.ofInt k.bits a &&& BitVec.ofInt k.bits b).toNat
def bor (k : IntKind) (a b : Int) : Int := k.wrap (BitVec.ofInt k.bits a ||| BitVec.ofInt k.bits b).toNat
def bxor (k : IntKind) (a b : Int) : Int := k.wrap (BitVec.ofInt k.bits a ^^^ BitVec.ofInt k.bits b).toNat
def bandnot (k : IntKind) (a b : Int) : Int := k.wrap (BitVec.ofInt k.bits a &&& ~~~BitVec.ofInt k.bits b).toNat
def shlI (k : IntKind) (a b : Int) : Int := k.wrap (a * 2 ^ (min b.toNat k.bits))
def shrI (k : IntKind) (a b : Int) : Int := a.fdiv (2 ^ (min b.toNat k.bits))
def exBin (d : Option TypeDesc) (op : BinOp) (x y : Sc) (K : Sc → Option R) : Option R := match x, y with
 | .int k a, .int k' b => match op with
  | .shl => br (decide (b < 0)) none (K (.int k (shlI k a b)))
  | .shr => br (decide (b < 0)) none (K (.int k (shrI k a b)))
  | op => bif decide (k = k') then match op with
   | .add => K (.int k (k.wrap (a + b)))
   | .sub => K (.int k (k.wrap (a - b)))
   | .mul => K (.int k (k.wrap (a * b)))
   | .quo => br (decide (b = 0)) none (K (.int k (k.wrap (a.tdiv b))))
   | .rem => br (decide (b = 0)) none (K (.int k (a.tmod b)))
   | .and => K (.int k (band k a b))
   | .or => K (.int k (bor k a b))
   | .xor => K (.int k (bxor k a b))
   | .andNot => K (.int k (bandnot k a b))
   | .eql => K (.bool (decide (a = b)))
   | .neq => K (.bool (!decide (a = b)))
   | .lss => K (.bool (decide (a < b)))
   | .leq => K (.bool (decide (a ≤ b)))
   | .gtr => K (.bool (decide (b < a)))
   | .geq => K (.bool (decide (b ≤ a)))
   | _ => none
   else none
 | .bool a, .bool b => match op, d with
  | .eql, some .bool => K (.bool (a == b))
  | .neq, some .bool => K (.bool (!(a == b)))
  | _, _ => none
 | .str a, .str b => match op with
  | .add => br (decide (a.size + b.size < 2 ^ 40)) (K (.str (a ++ b))) none
  | .eql => K (.bool (decide (a = b)))
  | .neq => K (.bool (!decide (a = b)))
  | _ => none
 | .nilp, .nilp => match op, d with
  | .eql, some (.pointer _) => K (.bool true)
  | .neq, some (.pointer _) => K (.bool false)
  | _, _ => none
 | .ptr _ _, .nilp => match op, d with
  | .eql, some (.pointer _) => K (.bool false)
  | .neq, some (.pointer _) => K (.bool true)
  | _, _ => none
 | .el _ _ _ _, .nilp => match op, d with
  | .eql, some (.pointer _) => K (.bool false)
  | .neq, some (.pointer _) => K (.bool true)
  | _, _ => none
 | .rf false _ i, .nilp => match op, d with
  | .eql, some (.pointer _) => K (.bool (decide (i < 0)))
  | .neq, some (.pointer _) => K (.bool (!decide (i < 0)))
  | _, _ => none
 | _, _ => none
def exUn (op : UnOp) (x : Sc) (K : Sc → Option R) : Option R := match op, x with
 | .not, .bool b => K (.bool (!b))
 | .neg, .int k n => K (.int k (k.wrap (0 - n)))
 | .xor, .int k n => K (.int k (bxor k (if k.signed then -1 else k.max) n))
 | _, _ => none
def ofConst : Value → Slot
 | .int k n => .sv (.v (.int k n))
 | .bool b => .sv (.v (.bool b))
 | .string s => .sv (.v (.str s))
 | .pointer none => .sv (.v .nilp)
 | .slice none 0 0 => .sv (.v .nils)
 | .map none => .sv (.v .nilm)
 | .nilFunc => .sv (.v .nilf)
 | _ => .undef
def evalO (fr : Fr) : Operand → Slot
 | .tmp t => fr.getD t .undef
 | .const v => ofConst v
 | .global _ => .undef
 | .func f => .sv (.v (.fn f []))
def evalS (fr : Fr) (x : Operand) : Sc := match evalO fr x with
 | .sv (.v x) => x
 | _ => .undef
def evalSV (fr : Fr) (x : Operand) : Option SV := match evalO fr x with
 | .sv x => some x
 | _ => none
def inB (i : Int) (n : Nat) : Bool := decide (0 ≤ i) && decide (i < (n : Int))
def leB (i : Int) (n : Nat) : Bool := decide (0 ≤ i) && decide (i ≤ (n : Int))
def addLo : Nat → Int → Int
 | 0, i => i
 | n + 1, i => ((n + 1 : Nat) : Int) + i
def addN : Nat → Nat → Nat
 | 0, i => i
 | n, 0 => n
 | n + 1, i + 1 => (n + 1) + (i + 1)
def chain (mk : Nat → Sc) (i : Int) (K : Sc → Option R) : Nat → Nat → Option R
 | _, 0 => none
 | j, k + 1 => br (decide (i = (j : Int))) (K (mk j)) (chain mk i K (j + 1) k)
def whole (H : Heap) (r o z : Nat) : Bool := match H[r]? with
 | some (.cells sg) => match seek sg o with
  | some (.row s _ _ :: _, _) => Nat.beq z s.size
  | _ => false
 | _ => false
def exIndexAddr (P : Program) (t : TypeId) (H : Heap) (x ix : Sc) (K : Sc → Option R) : Option R := match ix with
 | .int _ i => match P.underlying t, x with
  | some (.array n e), .ptr r o => match P.cellsOf e with
   | 0 => none
   | z + 1 => br (inB i n) (K (.el r o i (z + 1))) none
  | some (.array n e), .el r o i0 z0 => match P.cellsOf e with
   | 0 => none
   | z + 1 => bif Nat.ble n 8 && whole H r o z0 then chain (fun j => .el r (o + j * (z + 1)) i0 z0) i K 0 n
    else bif Nat.beq (n * (z + 1)) z0 then br (inB i n && decide (0 ≤ i0)) (K (.el r o (i0 * (n : Int) + i) (z + 1))) none else none
  | some (.array n e), .eptr s l i0 o => match P.cellsOf e with
   | 0 => none
   | z + 1 => bif Nat.ble n 8 then chain (fun j => .eptr s l i0 (o + j * (z + 1))) i K 0 n else none
  | some (.slice e), .sl r o z lo len _ => bif Nat.beq z (P.cellsOf e) && Nat.blt 0 z then br (inB i len) (K (.el r o (addLo lo i) z)) none else none
  | some (.slice e), .isl s l => bif Nat.beq s.size (P.cellsOf e) && Nat.blt 0 s.size then br (inB i l.length) (K (.eptr s l i 0)) none else none
  | some (.slice e), .ps t k z lo len => bif Nat.beq z (P.cellsOf e) && Nat.blt 0 z then br (inB i len) (K (.pi t k (addLo lo i) z 0)) none else none
  | _, _ => none
 | _ => none
def exFieldAddr (P : Program) (t : TypeId) (x : Sc) (f : Nat) (K : Sc → Option R) : Option R := match P.underlying t with
 | some (.struct fs) => match fs[f]? with
  | some fd => match P.cellsOf fd.type with
   | 0 => none
   | _ + 1 => match x with
    | .ptr r o => K (.ptr r (o + fd.offset))
    | .el r o i z => K (.el r (o + fd.offset) i z)
    | .eptr s l i o => K (.eptr s l i (o + fd.offset))
    | .rf false t i => br (decide (0 ≤ i)) (K (.pi t i 0 0 fd.offset)) none
    | .pi t i j z o => K (.pi t i j z (o + fd.offset))
    | _ => none
  | none => none
 | _ => none
def exPart (P : Program) (t : TypeId) (sg : List Seg) (off : Nat) (K : SV → Option R) : Option R := match seek sg off, aggO P t with
 | some (g, 0), some (true, n) => match takeSegs g n with
  | some (a, _) => K (.agg a)
  | none => none
 | some (.c x :: _, 0), some (false, _) => K (.v x)
 | _, _ => none
def exField (P : Program) (t : TypeId) (x : Slot) (f : Nat) (K : SV → Option R) : Option R := match P.underlying t with
 | some (.struct fs) => match fs[f]?, x with
  | some fd, .sv (.agg sg) => exPart P fd.type sg fd.offset K
  | _, _ => none
 | _ => none
def bt (s : ByteArray) (i : Int) : Int := ((s.data.getD i.toNat 0).toNat : Int)
def chainV (P : Program) (e : TypeId) (sg : List Seg) (i : Int) (K : SV → Option R) : Nat → Nat → Option R
 | _, 0 => none
 | j, k + 1 => br (decide (i = (j : Int))) (exPart P e sg (j * P.cellsOf e) K) (chainV P e sg i K (j + 1) k)
def exIndex (P : Program) (t : TypeId) (x : Slot) (ix : Sc) (K : SV → Option R) : Option R := match ix with
 | .int _ i => match P.underlying t, x with
  | some .string, .sv (.v (.str s)) => br (inB i s.size) (K (.v (.int .u8 (bt s i)))) none
  | some (.array n e), .sv (.agg [.row s m l]) => match aggO P e with
   | some (false, 1) => bif Nat.beq s.size 1 && Nat.beq m n then
     br (inB i n) (match enc s (l.getD i.toNat s.zero) with
      | [x] => K (.v x)
      | _ => none) none else none
   | _ => none
  | some (.array n e), .sv (.agg sg) => bif Nat.ble n 8 then chainV P e sg i K 0 n else none
  | _, _ => none
 | _ => none
def optI (fr : Fr) : Option Operand → Option (Option Int)
 | none => some none
 | some x => match evalS fr x with
  | .int _ n => some (some n)
  | _ => none
def exLow (K : Nat → Nat → Nat → Option R) (lo : Option Int) (h m : Nat) : Option R := match lo with
 | some l => br (leB l h) (K l.toNat h m) none
 | none => K 0 h m
def exHigh (len : Nat) (K : Nat → Nat → Nat → Option R) (lo hi : Option Int) (m : Nat) : Option R := match hi with
 | some h => br (leB h m) (exLow K lo h.toNat m) none
 | none => exLow K lo len m
def exBounds (len cap : Nat) (lo hi mx : Option Int) (K : Nat → Nat → Nat → Option R) : Option R := match mx with
 | some m => match hi with
  | some _ => br (leB m cap) (exHigh len K lo hi m.toNat) none
  | none => none
 | none => exHigh len K lo hi cap
def capOf (len : Nat) : Option Nat → Nat
 | some c => c
 | none => len
def newCap (cap : Option Nat) (hi mx : Option Int) (l m : Nat) : Option Nat := match mx, hi with
 | none, none => match cap with
  | none => none
  | some c => some (c - l)
 | _, _ => some (m - l)
def isZ : Option Operand → Bool
 | some (.const (.int _ n)) => decide (n = 0)
 | _ => false
def exClip (P : Program) (t : TypeId) (x : Sc) (K : Sc → Option R) : Option R := match P.underlying t with
 | some (.slice e) => match P.cellsOf e with
  | 0 => none
  | _ + 1 => match x with
   | .sl _ _ _ _ _ _ => K .emp
   | .isl _ _ => K .emp
   | .emp => K .emp
   | .nils => K .nils
   | _ => none
 | _ => none
def exSlice (P : Program) (t : TypeId) (H : Heap) (x : Sc) (lo hi mx : Option Int) (K : Sc → Option R) : Option R := match P.underlying t, x with
 | some .string, .str s => match mx with
  | none => exBounds s.size s.size lo hi none fun l h _ => K (.str (s.extract l h))
  | some _ => none
 | some (.slice e), .sl r o z l0 len cap => match P.cellsOf e with
  | 0 => none
  | sz + 1 => bif Nat.beq (sz + 1) z then exBounds len (capOf len cap) lo hi mx fun l h m => K (.sl r o z (addN l0 l) (h - l) (newCap cap hi mx l m)) else none
 | some (.slice e), .isl s l0 => match mx, P.cellsOf e with
  | none, sz + 1 => bif Nat.beq (sz + 1) s.size then exBounds l0.length l0.length lo hi none fun l h _ => K (.isl s (sub l0 l (h - l))) else none
  | _, _ => none
 | some (.slice e), .nils => match P.cellsOf e with
  | 0 => none
  | _ + 1 => exBounds 0 0 lo hi mx fun _ _ _ => K .nils
 | some (.slice e), .emp => match P.cellsOf e with
  | 0 => none
  | _ + 1 => exBounds 0 0 lo hi mx fun _ _ _ => K .emp
 | some (.array n e), .ptr r o => match P.cellsOf e, H[r]? with
  | z + 1, some (.cells sg) => bif Nat.ble (o + n * (z + 1)) (segsSize sg) && Nat.blt 0 n then
    exBounds n n lo hi mx fun l h m => K (.sl r o (z + 1) l (h - l) (some (m - l))) else none
  | _, _ => none
 | _, _ => none
/-! ### operations with memory: they hand on a value and a heap -/
def listOf (s : Sh) (H : Heap) (x : Sc) (K : List s.T → Option R) : Option R := match x with
 | .sl r o z lo len _ => match H[r]? with
  | some (.cells sg) => match seek sg o with
   | some (.row s' _ l :: _, 0) => if h : s' = s ∧ z = s.size then br (fits lo len l) (K (sub (castL h.1 l) lo len)) none else none
   | _ => none
  | some (.ice s' l) => match o with
   | 0 => if h : s' = s ∧ z = s.size then br (fits lo len l) (K (sub (castL h.1 l) lo len)) none else none
   | _ + 1 => none
  | _ => none
 | .isl s' l => if h : s' = s then K (castL h l) else none
 | .emp => K []
 | .nils => K []
 | _ => none
def bytesOf (s : ByteArray) : List Int := s.data.toList.map fun b => (b.toNat : Int)
def mkStr (l : List Int) : ByteArray := ⟨(l.map fun n => UInt8.ofNat n.toNat).toArray⟩
def appT (P : Program) : List TypeId → Option TypeId
 | [t] => some t
 | [t, u] => match P.underlying u with
  | some (.slice _) => some t
  | some .string => some t
  | _ => none
 | _ => none
def srcOf (s : Sh) (H : Heap) (y : Sc) (K : List s.T → Option R) : Option R := match y with
 | .str b => if h : Sh.int .u8 = s then K (castL h (bytesOf b)) else none
 | y => listOf s H y K
def exAppend (P : Program) (t : TypeId) (H : Heap) (x y : Sc) (K : Sc → Heap → Option R) : Option R := match P.underlying t with
 | some (.slice e) => match elemOf P e with
  | some s => srcOf s H y fun xs => match x with
   | .sl r 0 z lo len _ => match rowOwn H r with
    | some ⟨s', l⟩ => if h : s' = s ∧ z = s.size then
      br (fits lo len l && decide ((len + xs.length) * P.bytesOf e ≤ 2 ^ 46) && Nat.blt 0 (P.bytesOf e))
       (K (.wl H.length z) ((H.set r .dead) ++ [.cells [.row s (len + xs.length) (sub (castL h.1 l) lo len ++ xs)]])) none
     else none
    | none => none
   | .nils => br (decide (xs.length * P.bytesOf e ≤ 2 ^ 46) && Nat.blt 0 (P.bytesOf e))
     (K (.wl H.length s.size) (H ++ [.cells [.row s xs.length xs]])) none
   | .emp => br (decide (xs.length * P.bytesOf e ≤ 2 ^ 46) && Nat.blt 0 (P.bytesOf e))
     (K (.wl H.length s.size) (H ++ [.cells [.row s xs.length xs]])) none
   | _ => none
  | none => none
 | _ => none
def appZ (P : Program) : List TypeId → Option TypeId
 | [t, u] => match P.underlying u with
  | some (.int _) => some t
  | _ => none
 | _ => none
def exAppendZ (P : Program) (t : TypeId) (n : Int) (H : Heap) (x : Sc) (K : Sc → Heap → Option R) : Option R := match P.underlying t with
 | some (.slice e) => match elemOf P e with
  | some s => match x with
   | .nils => br (decide (0 ≤ n) && decide (n.toNat * P.bytesOf e ≤ 2 ^ 46) && Nat.blt 0 (P.bytesOf e))
     (K (.wl H.length s.size) (H ++ [.cells [.row s n.toNat (List.replicate n.toNat s.zero)]])) none
   | _ => none
  | none => none
 | _ => none
def exCopy (P : Program) (t : TypeId) (H : Heap) (x y : Sc) (K : Int → Heap → Option R) : Option R := match P.underlying t with
 | some (.slice e) => match elemOf P e with
  | some s => srcOf s H y fun xs => match x with
   | .sl r o z lo len _ => match H[r]? with
    | some (.cells sg) => match seek sg o with
     | some (.row s' _ l :: _, 0) => if h : s' = s ∧ z = s.size then
       br (fits lo len l) (K ((min xs.length len : Nat) : Int) (H.set r (.cells (setRow s ((castL h.1 l).take lo ++ (xs.take (min xs.length len) ++ (castL h.1 l).drop (lo + min xs.length len))) sg o)))) none
      else none
     | _ => none
    | _ => none
   | .nils => K 0 H
   | .emp => K 0 H
   | _ => none
  | none => none
 | _ => none
def exLen (P : Program) (t : TypeId) (H : Heap) (x : Sc) (K : Int → Option R) : Option R := match P.underlying t, x with
 | some .string, .str s => K (s.size : Int)
 | some (.slice _), .sl _ _ _ _ len _ => K (len : Int)
 | some (.slice _), .ps _ _ _ _ len => K (len : Int)
 | some (.slice _), .isl _ l => K (l.length : Int)
 | some (.slice _), .emp => K 0
 | some (.slice _), .nils => K 0
 | some (.map _ _), .nilm => K 0
 | some (.map _ _), .map r => match H[r]? with
  | some (.map _ _ _ _ l) => K (l.length : Int)
  | _ => none
 | some (.array n _), _ => K (n : Int)
 | some (.pointer a), _ => match P.underlying a with
  | some (.array n _) => K (n : Int)
  | _ => none
 | _, _ => none
def exCap (P : Program) (t : TypeId) (x : Sc) (K : Int → Option R) : Option R := match P.underlying t, x with
 | some (.slice _), .nils => K 0
 | _, _ => none
def fillRow (s : Sh) (H0 : Heap) : List (Nat × SV) → Heap → List s.T → (List s.T → Heap → Option R) → Option R
 | [], H, l, K => K l H
 | (i, v) :: ps, H, l, K => match svCells v with
  | some cs => freezeQL H0 H cs fun cs H => match dec1 s cs with
   | some y => bif Nat.blt i l.length then fillRow s H0 ps H (l.set i y) K else none
   | none => none
  | none => none
def exBuildSlice (P : Program) (t : TypeId) (n : Nat) (ps : List (Nat × SV)) (H : Heap) (K : Sc → Heap → Option R) : Option R := match P.underlying t with
 | some (.slice e) => match elemOf P e with
  | some s => bif Nat.ble (n * s.size) 1000000 then fillRow s H ps H (List.replicate n s.zero) fun l H =>
     K (.wl H.length s.size) (H ++ [.cells [.row s n l]])
   else none
  | none => none
 | _ => none
def exMakeSlice (P : Program) (t : TypeId) (len cap : Int) (H : Heap) (K : Sc → Heap → Option R) : Option R := match P.underlying t with
 | some (.slice e) => match elemOf P e with
  | some s => br (decide (0 ≤ len) && decide (len ≤ cap) && decide (cap * (P.bytesOf e : Int) ≤ 2 ^ 46) && Nat.blt 0 (P.bytesOf e))
    (K (.wl H.length s.size) (H ++ [.cells [.row s len.toNat (List.replicate len.toNat s.zero)]])) none
  | none => none
 | _ => none
def fillSegs (P : Program) (fs : List Field) : List (Nat × SV) → List Seg → Option (List Seg)
 | [], l => some l
 | (i, v) :: ps, l => match fs[i]? with
  | some f => bif Nat.beq (segsSize (svSegs v)) (P.cellsOf f.type) && okSV v then match setSegs (svSegs v) (P.cellsOf f.type) l f.offset with
    | some l' => fillSegs P fs ps l'
    | none => none
   else none
  | none => none
def fillArr (s : Sh) : List (Nat × SV) → List s.T → Option (List s.T)
 | [], l => some l
 | (i, v) :: ps, l => match svCells v with
  | some cs => match dec1 s cs with
   | some y => bif Nat.blt i l.length then fillArr s ps (l.set i y) else none
   | none => none
  | none => none
def exBuild (P : Program) (t : TypeId) (ps : List (Nat × SV)) (K : SV → Option R) : Option R := match P.underlying t, zeroOf P t with
 | some (.struct fs), some l => bif fs.toList.all (fun f => (P.info? f.type).isSome) then match fillSegs P fs.toList ps l with
   | some l => K (.agg l)
   | none => none
  else none
 | some (.array _ e), some l => match ps, P.info? e with
  | [], some _ => K (.agg l)
  | ps, some ie => match l with
   | [.row s n l0] => bif Nat.beq s.size ie.size then match fillArr s ps l0 with
     | some l' => K (.agg [.row s n l'])
     | none => none
    else none
   | _ => none
  | _, _ => none
 | _, _ => none
/-! maps -/
def mfind (ks vs : Sh) (l : List (ks.T × vs.T)) (k : ks.T) : Option vs.T := match l with
 | [] => none
 | p :: r => if ks.eqb k p.1 then some p.2 else mfind ks vs r k
def mput (ks vs : Sh) (l : List (ks.T × vs.T)) (k : ks.T) (v : vs.T) : List (ks.T × vs.T) := match l with
 | [] => [(k, v)]
 | p :: r => if ks.eqb k p.1 then (k, v) :: r else p :: mput ks vs r k v
def mdel (ks vs : Sh) (l : List (ks.T × vs.T)) (k : ks.T) : List (ks.T × vs.T) := match l with
 | [] => []
 | p :: r => if ks.eqb k p.1 then r else p :: mdel ks vs r k
def scalarOk (P : Program) (t : TypeId) (s : Sh) : Bool := match P.underlying t, s with
 | some (.int k), .int k' => decide (k = k')
 | some .bool, .bool => true
 | some .string, .str => true
 | _, _ => false
def flatOk (P : Program) : List Field → Nat → Sh → Bool
 | [], _, .unit => true
 | [f], o, s => Nat.beq f.offset o && !(f.name == "_") && scalarOk P f.type s
 | f :: fs, o, .pair a b => Nat.beq f.offset o && !(f.name == "_") && scalarOk P f.type a && flatOk P fs (o + 1) b
 | _, _, _ => false
def keySh (P : Program) (t : TypeId) : Option (Sh × Bool) := match shOf P dep t, P.underlying t with
 | some s, some (.struct fs) => bif !P.stoodInHeld t && flatOk P fs.toList 0 s then some (s, true) else none
 | some s, some _ => bif scalarOk P t s then some (s, false) else none
 | _, _ => none
def valSh (P : Program) (t : TypeId) : Option (Sh × Bool) := match elemOf P t, P.info? t with
 | some s, some i => match i.zero with
  | some (.agg _) => bif isAggT P t then some (s, true) else none
  | some _ => bif isAggT P t then none else some (s, false)
  | none => none
 | _, _ => none
def scsSV (agg : Bool) (cs : List Sc) : SV := match agg with
 | true => .agg (cs.map .c)
 | false => match cs with
  | [x] => .v x
  | _ => .v .undef
def svAgg : SV → Bool
 | .v _ => false
 | .agg _ => true
def keyOfSV (s : Sh) (agg : Bool) (x : SV) : Option s.T := bif svAgg x == agg then match svCells x with
 | some cs => dec1 s cs
 | none => none
 else none
def exEqAgg (P : Program) (t : TypeId) (l m : List Seg) (K : Bool → Option R) : Option R := match keySh P t with
 | some (s, true) => match keyOfSV s true (.agg l), keyOfSV s true (.agg m) with
  | some a, some b => bif P.eqGuardType P.depth t then none else K (s.eqb a b)
  | _, _ => none
 | _ => none
def exLookup (P : Program) (t : TypeId) (H : Heap) (x : Sc) (k : SV) (ok : Bool) (K : Slot → Option R) : Option R := match P.underlying t with
 | some (.map kt vt) => match keySh P kt, valSh P vt, x with
  | some (ks, ka), some (vs, va), .map r => match H[r]?, keyOfSV ks ka k with
   | some (.map ks' vs' ka' va' l), some key => if h : ks' = ks ∧ vs' = vs ∧ ka' = ka ∧ va' = va then
     match ok with
     | true => K (.tup [scsSV va (enc vs ((mfind ks vs (castM h.1 h.2.1 l) key).getD vs.zero)), .v (.bool (mfind ks vs (castM h.1 h.2.1 l) key).isSome)])
     | false => K (.sv (scsSV va (enc vs ((mfind ks vs (castM h.1 h.2.1 l) key).getD vs.zero))))
    else none
   | _, _ => none
  | _, _, _ => none
 | _ => none
def exMapUpdate (P : Program) (t : TypeId) (H : Heap) (x : Sc) (k v : SV) (K : Heap → Option R) : Option R := match P.underlying t with
 | some (.map kt vt) => match keySh P kt, valSh P vt, x with
  | some (ks, ka), some (vs, va), .map r => match svCells v with
   | some cs => bif svAgg v == va then freezeL H cs fun cs H => match H[r]?, keyOfSV ks ka k, dec1 vs cs with
    | some (.map ks' vs' ka' va' l), some key, some val => if h : ks' = ks ∧ vs' = vs ∧ ka' = ka ∧ va' = va then
      K (H.set r (.map ks vs ka va (mput ks vs (castM h.1 h.2.1 l) key val)))
     else none
    | _, _, _ => none
    else none
   | none => none
  | _, _, _ => none
 | _ => none
def exDelete (P : Program) (t : TypeId) (H : Heap) (x : Sc) (k : SV) (K : Heap → Option R) : Option R := match P.underlying t with
 | some (.map kt vt) => match keySh P kt, valSh P vt, x with
  | some (ks, ka), some (vs, va), .map r => match H[r]?, keyOfSV ks ka k with
   | some (.map ks' vs' ka' va' l), some key => if h : ks' = ks ∧ vs' = vs ∧ ka' = ka ∧ va' = va then
     K (H.set r (.map ks vs ka va (mdel ks vs (castM h.1 h.2.1 l) key)))
    else none
   | _, _ => none
  | _, _, _ => none
 | _ => none
def exMakeMap (P : Program) (t : TypeId) (H : Heap) (K : Sc → Heap → Option R) : Option R := match P.underlying t with
 | some (.map kt vt) => match keySh P kt, valSh P vt with
  | some (ks, ka), some (vs, va) => K (.map H.length) (H ++ [.map ks vs ka va []])
  | _, _ => none
 | _ => none
def exConvert (P : Program) (src dst : TypeId) (H : Heap) (x : Sc) (K : Sc → Option R) : Option R := match P.underlying src, P.underlying dst, x with
 | some _, some (.int k), .int _ n => K (.int k (k.wrap n))
 | some _, some .string, .str s => K (.str s)
 | some (.slice e), some .string, x => match P.underlying e with
  | some (.int .u8) => listOf (.int .u8) H x fun l => K (.str (mkStr l))
  | _ => none
 | _, _, _ => none
/-! ### calls -/
def scRefs : Sc → List Nat
 | .ptr r _ => [r]
 | .el r _ _ _ => [r]
 | .sl r _ _ _ _ _ => [r]
 | .wl r _ => [r]
 | .map r => [r]
 | .fn _ caps => caps
 | _ => []
def segRefs : List Seg → List Nat
 | [] => []
 | .c x :: r => scRefs x ++ segRefs r
 | .row _ _ _ :: r => segRefs r
def shTags : Sh → List Nat
 | .ref _ t => [t]
 | .isl s => shTags s
 | .pair a b => shTags a ++ shTags b
 | _ => []
def scTags : Sc → List Nat
 | .rf _ t _ => [t]
 | .pi t _ _ _ _ => [t]
 | .ps t _ _ _ _ => [t]
 | .isl s _ => shTags s
 | .eptr s _ _ _ => shTags s
 | _ => []
def segTags : List Seg → List Nat
 | [] => []
 | .c x :: r => scTags x ++ segTags r
 | .row s _ _ :: r => shTags s ++ segTags r
def objTags : Obj → List Nat
 | .cells l => segTags l
 | .map ks vs _ _ _ => shTags ks ++ shTags vs
 | .ice s _ => shTags s
 | .pool _ _ s _ => shTags s
 | .dead => []
def svsTags : List SV → List Nat
 | [] => []
 | x :: r => segTags (svSegs x) ++ svsTags r
def slotTags : Slot → List Nat
 | .sv x => segTags (svSegs x)
 | .tup l => svsTags l
 | .undef => []
def slotsTags : List Slot → List Nat
 | [] => []
 | x :: r => slotTags x ++ slotsTags r
def tagRefs (H : Heap) : List Nat → List Nat
 | [] => []
 | t :: ts => match poolAt H t with
  | some r => r :: tagRefs H ts
  | none => tagRefs H ts
def objSegRefs : Obj → List Nat
 | .cells l => segRefs l
 | _ => []
def objRefs (H : Heap) (o : Obj) : List Nat := objSegRefs o ++ tagRefs H (objTags o)
def svRefs (x : SV) : List Nat := segRefs (svSegs x)
def svsRefs : List SV → List Nat
 | [] => []
 | x :: r => svRefs x ++ svsRefs r
def reach (H : Heap) : Nat → List Nat → List Nat → Option (List Nat)
 | _, [], acc => some acc
 | 0, _ :: _, _ => none
 | n + 1, r :: todo, acc => bif acc.contains r then reach H n todo acc else
  reach H n (objRefs H (H.getD r .dead) ++ todo) (acc ++ [r])
def pinRefs (H : Heap) : List Nat → List Nat
 | [] => []
 | r :: rs => objRefs H (H.getD r .dead) ++ pinRefs H rs
def fuelR : Nat := 400
def mapSc (f : Nat → Nat) : Sc → Sc
 | .ptr r o => .ptr (f r) o
 | .el r o i z => .el (f r) o i z
 | .sl r o z lo len cap => .sl (f r) o z lo len cap
 | .wl r z => .wl (f r) z
 | .map r => .map (f r)
 | .fn g caps => .fn g (caps.map f)
 | x => x
def mapSegs (f : Nat → Nat) : List Seg → List Seg
 | [] => []
 | .c x :: r => .c (mapSc f x) :: mapSegs f r
 | .row s n l :: r => .row s n l :: mapSegs f r
def mapSV (f : Nat → Nat) : SV → SV
 | .v x => .v (mapSc f x)
 | .agg l => .agg (mapSegs f l)
def mapObj (f : Nat → Nat) : Obj → Obj
 | .cells l => .cells (mapSegs f l)
 | o => o
def mapSlot (f : Nat → Nat) : Slot → Slot
 | .sv x => .sv (mapSV f x)
 | .tup l => .tup (l.map (mapSV f))
 | .undef => .undef
def idx (rs : List Nat) (r : Nat) : Nat := match rs with
 | [] => 0
 | x :: t => bif Nat.beq x r then 0 else idx t r + 1
def back (rs : List Nat) (n : Nat) (i : Nat) : Nat := match rs[i]? with
 | some r => r
 | none => n + (i - rs.length)
def putBack (f : Nat → Nat) : List Nat → Heap → Heap → Heap
 | r :: rs, o :: G, H => putBack f rs G (H.set r (mapObj f o))
 | _, G, H => H ++ G.map (mapObj f)
def putBackK {R : Type} (f : Nat → Nat) : List Nat → Heap → Heap → (Heap → Option R) → Option R
 | r :: rs, o :: G, H, K => setHK H r (mapObj f o) fun H => putBackK f rs G H K
 | _, G, H, K => K (H ++ G.map (mapObj f))
structure Ent where
 run : {R : Type} → List SV → Heap → (Slot → Heap → Option R) → Option R
 cfg : List Nat := []
abbrev Table := Nat → Ent
def noEnt : Ent := ⟨fun _ _ _ => none, []⟩
def cfgIx : Nat := 1000000
def cfgOf (T : Table) : List Nat := (T cfgIx).cfg
def cfgEnt (l : List Nat) : Ent := ⟨fun _ _ _ => none, l⟩
def clash (H : Heap) (f : Nat → Nat) : Heap → Nat → Bool
 | [], _ => false
 | .pool _ t _ _ :: r, i => (match poolAt H t with
  | some q => !Nat.beq q (f i)
  | none => false) || clash H f r (i + 1)
 | _ :: r, i => clash H f r (i + 1)
def exCall (T : Table) (f : Nat) (args : List SV) (H : Heap) (K : Slot → Heap → Option R) : Option R :=
 match reach H fuelR (svsRefs args ++ tagRefs H (svsTags args)) [] with
 | some rs => fNats rs fun rs => fSVs (args.map (mapSV (idx rs))) fun args => fH (rs.map fun r => mapObj (idx rs) (H.getD r .dead)) fun G =>
  (T f).run args G fun s G => bif clash H (back rs H.length) G 0 then none else putBackK (back rs H.length) rs G H fun G => K (mapSlot (back rs H.length) s) G
 | none => none
/-! ### one operation -/
def svList (fr : Fr) : List Operand → Option (List SV)
 | [] => some []
 | x :: r => match evalSV fr x, svList fr r with
  | some v, some l => some (v :: l)
  | _, _ => none
def partList (fr : Fr) : List (Nat × Operand) → Option (List (Nat × SV))
 | [] => some []
 | (i, x) :: r => match evalSV fr x, partList fr r with
  | some v, some l => some ((i, v) :: l)
  | _, _ => none
def capRefs (fr : Fr) : List Operand → Option (List Nat)
 | [] => some []
 | x :: r => match evalS fr x, capRefs fr r with
  | .ptr q 0, some l => some (q :: l)
  | _, _ => none
def exMinMax (mx : Bool) (x : Sc) : List Sc → (Sc → Option R) → Option R
 | [], K => K x
 | y :: r, K => match x, y with
  | .int k a, .int _ b => match mx with
   | true => exMinMax mx (.int k (if a < b then b else a)) r K
   | false => exMinMax mx (.int k (if b < a then b else a)) r K
  | _, _ => none
def isRead (o : Op) : Bool := match o with
 | .move _ | .assign _ | .pick _ _ _ | .build _ _ | .load _ _ | .nilCheck _ | .binOp _ _ _ _ _ | .unOp _ _ _ | .convert _ _ _ | .makeFunc _ _ _ | .slice _ _ _ _ _
 | .fieldAddr _ _ _ | .field _ _ _ | .indexAddr _ _ _ | .index _ _ _ | .lookup _ _ _ _ | .extract _ _ => true
 | .call c => match c.callee with
  | .builtin .len | .builtin .min | .builtin .max | .builtin .cap => true
  | _ => false
 | _ => false
def grows (o : Op) : Bool := match o with
 | .alloc _ | .box _ _ | .buildSlice _ _ _ | .makeMap _ _ | .makeSlice _ _ _ => true
 | _ => false
def exRead (P : Program) (fr : Fr) (H : Heap) (o : Op) (K : Slot → Option R) : Option R := match o with
 | .move x => K (evalO fr x)
 | .assign x => K (evalO fr x)
 | .pick c a b => match evalS fr c with
  | .bool c => br c (K (evalO fr a)) (K (evalO fr b))
  | _ => none
 | .build t ps => match partList fr ps.toList with
  | some l => exBuild P t l fun v => K (.sv v)
  | none => none
 | .load t a => match aggO P t with
  | some (agg, n) => loadAt agg n H (evalS fr a) fun v => K (.sv v)
  | none => none
 | .nilCheck x => match evalS fr x with
  | .ptr r o => K (.sv (.v (.ptr r o)))
  | .el r o i z => K (.sv (.v (.el r o i z)))
  | .eptr s l i o => K (.sv (.v (.eptr s l i o)))
  | .rf false t i => br (decide (0 ≤ i)) (K (.sv (.v (.rf false t i)))) none
  | .pi t i j z o => K (.sv (.v (.pi t i j z o)))
  | .fn f caps => K (.sv (.v (.fn f caps)))
  | _ => none
 | .binOp op t x y _ => match evalO fr x, evalO fr y with
  | .sv (.agg l), .sv (.agg m) => match op with
   | .eql => exEqAgg P t l m fun b => K (.sv (.v (.bool b)))
   | .neq => exEqAgg P t l m fun b => K (.sv (.v (.bool (!b))))
   | _ => none
  | _, _ => exBin (P.underlying t) op (evalS fr x) (evalS fr y) fun v => K (.sv (.v v))
 | .unOp op _ x => exUn op (evalS fr x) fun v => K (.sv (.v v))
 | .convert s d x => exConvert P s d H (widen H (evalS fr x)) fun v => K (.sv (.v v))
 | .makeFunc fn first captured => match fn, first.toList, capRefs fr captured.toList with
  | .func f, [], some caps => K (.sv (.v (.fn f caps)))
  | _, _, _ => none
 | .slice t x lo hi mx => bif isZ hi && isZ mx && lo.isNone then exClip P t (widen H (evalS fr x)) fun v => K (.sv (.v v))
  else match optI fr lo, optI fr hi, optI fr mx with
  | some l, some h, some m => exSlice P t H (widen H (evalS fr x)) l h m fun v => K (.sv (.v v))
  | _, _, _ => none
 | .fieldAddr t x f => exFieldAddr P t (evalS fr x) f fun v => K (.sv (.v v))
 | .field t x f => exField P t (evalO fr x) f fun v => K (.sv v)
 | .indexAddr t x ix => exIndexAddr P t H (widen H (evalS fr x)) (evalS fr ix) fun v => K (.sv (.v v))
 | .index t x ix => exIndex P t (evalO fr x) (evalS fr ix) fun v => K (.sv v)
 | .lookup t x ix ok => match evalSV fr ix with
  | some k => exLookup P t H (evalS fr x) k ok fun v => K v
  | none => none
 | .extract x i => match evalO fr x with
  | .tup l => match l[i]? with
   | some v => K (.sv v)
   | none => none
  | _ => none
 | .call c => match c.callee with
  | .builtin b => match b with
   | .len => match c.args.toList, c.argTypes.toList with
    | [x], [t] => exLen P t H (widen H (evalS fr x)) fun n => K (.sv (.v (.int .i64 n)))
    | _, _ => none
   | .min => match c.args.toList.map (evalS fr) with
    | x :: r => exMinMax false x r fun v => K (.sv (.v v))
    | [] => none
   | .max => match c.args.toList.map (evalS fr) with
    | x :: r => exMinMax true x r fun v => K (.sv (.v v))
    | [] => none
   | .cap => match c.args.toList, c.argTypes.toList with
    | [x], [t] => exCap P t (evalS fr x) fun n => K (.sv (.v (.int .i64 n)))
    | _, _ => none
   | _ => none
  | _ => none
 | _ => none
def poolPush (H : Heap) (k : Bool) (t : Nat) (s : Sh) (y : s.T) (K : Int → Heap → Option R) : Option R := match poolAt H t with
 | some r => match H[r]? with
  | some (.pool k' _ s' l) => if h : k' = k ∧ s' = s then setHK H r (.pool k t s (castL h.2 l ++ [y])) fun G => K (l.length : Int) G else none
  | _ => none
 | none => pushHK H (.pool k t s [y]) fun G => K 0 G
def poolSh (P : Program) (t : Nat) : Option Sh := match Nat.beq (t % 2) 0 with
 | true => elemOf P (t / 2)
 | false => (elemOf P (t / 2)).map .isl
def addPools (P : Program) (cfg : List Nat) : List Nat → Heap → (Heap → Option R) → Option R
 | [], H, K => K H
 | t :: ts, H, K => bif cfg.contains t then match poolAt H t with
   | some _ => addPools P cfg ts H K
   | none => match poolSh P t with
    | some s => pushHK H (.pool (!Nat.beq (t % 2) 0) t s []) fun H => addPools P cfg ts H K
    | none => none
  else addPools P cfg ts H K
def exMakeRow (P : Program) (cfg : List Nat) (t : TypeId) (len cap : Int) (H : Heap) (K : Sc → Heap → Option R) : Option R := match P.underlying t with
 | some (.slice e) => bif cfg.contains (2 * e + 1) then match elemOf P e with
   | some s => br (decide (0 ≤ len) && decide (len ≤ cap) && decide (cap * (P.bytesOf e : Int) ≤ 2 ^ 46) && Nat.blt 0 (P.bytesOf e))
     (poolPush H true (2 * e + 1) (.isl s) (List.replicate len.toNat s.zero) fun i H => K (.rf true (2 * e + 1) i) H) none
   | none => none
  else match P.underlying e, P.info? e with
  | some (.slice e'), some i => match i.zero with
   | some z => bif cfg.contains (2 * e' + 1) && cellMatch [.row (.ref true (2 * e' + 1)) 1 [(-1 : Int)]] z.cells.toList && Nat.beq 1 i.size then
     br (decide (0 ≤ len) && decide (len ≤ cap) && decide (cap * (P.bytesOf e : Int) ≤ 2 ^ 46) && Nat.blt 0 (P.bytesOf e))
      (pushHK H (.cells [.row (.ref true (2 * e' + 1)) len.toNat (List.replicate len.toNat (-1 : Int))]) fun G => addPools P cfg [2 * e' + 1] G fun G => K (.wl H.length 1) G) none
    else exMakeSlice P t len cap H K
   | none => none
  | _, _ => exMakeSlice P t len cap H K
 | _ => none
def exAct (P : Program) (T : Table) (fr : Fr) (H : Heap) (o : Op) (K : Slot → Heap → Option R) : Option R := match o with
 | .alloc t => bif (cfgOf T).contains (2 * t) then match elemOf P t with
   | some s => poolPush H false (2 * t) s s.zero fun i H => K (.sv (.v (.rf false (2 * t) i))) H
   | none => none
  else match zeroOf P t with
  | some l => rebSegs [] (fun _ => false) (promAt P t) l 0 H fun l _ H => addPools P (cfgOf T) (segTags l) (H ++ [.cells l]) fun G => K (.sv (.v (.ptr H.length 0))) G
  | none => none
 | .box t x => match evalSV fr x with
  | some v => bif okSV v then bif (cfgOf T).contains (2 * t) then match elemOf P t, segCells (svSegs v) with
    | some s, some cs => freezeL H cs fun cs H => match dec1 s cs with
     | some y => poolPush H false (2 * t) s y fun i H => K (.sv (.v (.rf false (2 * t) i))) H
     | none => none
    | _, _ => none
   else rebSegs [] (fun _ => false) (promAt P t) (svSegs (regrp P t v)) 0 H fun l _ H => addPools P (cfgOf T) (segTags l) (H ++ [.cells l]) fun G => K (.sv (.v (.ptr H.length 0))) G else none
  | none => none
 | .buildSlice t n ps => match partList fr ps.toList with
  | some l => exBuildSlice P t n l H fun v H => K (.sv (.v v)) H
  | none => none
 | .store t a x => match evalSV fr x, aggO P t with
  | some v, some (_, n) => match evalS fr a with
   | .ptr r o => rebSV [] (fun _ => false) (promAt P t) (regrp P t v) 0 H fun v _ H => storeAt n H (.ptr r o) v fun H => K .undef H
   | p => storeAt n H p v fun H => K .undef H
  | _, _ => none
 | .makeMap t r => match r with
  | none => exMakeMap P t H fun v H => K (.sv (.v v)) H
  | some x => match evalS fr x with
   | .int _ _ => exMakeMap P t H fun v H => K (.sv (.v v)) H
   | _ => none
 | .makeSlice t l c => match evalS fr l, evalS fr c with
  | .int _ n, .int _ m => exMakeRow P (cfgOf T) t n m H fun v H => K (.sv (.v v)) H
  | _, _ => none
 | .mapUpdate t m k x => match evalSV fr k, evalSV fr x with
  | some k, some v => exMapUpdate P t H (evalS fr m) k v fun H => K .undef H
  | _, _ => none
 | .call c => match c.callee with
  | .builtin b => match b with
   | .append => match c.args.toList, appT P c.argTypes.toList with
    | [x, y], some t => exAppend P t H (widen H (evalS fr x)) (widen H (evalS fr y)) fun v H => K (.sv (.v v)) H
    | [x, y], none => match appZ P c.argTypes.toList, evalS fr y with
     | some t, .int _ n => exAppendZ P t n H (evalS fr x) fun v H => K (.sv (.v v)) H
     | _, _ => none
    | _, _ => none
   | .copy => match c.args.toList, c.argTypes.toList with
    | [x, y], t :: _ => exCopy P t H (widen H (evalS fr x)) (widen H (evalS fr y)) fun n H => K (.sv (.v (.int .i64 n))) H
    | _, _ => none
   | .delete => match c.args.toList, c.argTypes.toList with
    | [x, y], t :: _ => match evalSV fr y with
     | some k => exDelete P t H (evalS fr x) k fun H => K (.tup []) H
     | none => none
    | _, _ => none
   | _ => none
  | .value f => match evalS fr f, svList fr c.args.toList with
   | .fn g caps, some args => exCall T g (args ++ caps.map fun r => .v (.ptr r 0)) H K
   | _, _ => none
  | .invoke _ _ => none
 | _ => none
def exOp (P : Program) (T : Table) (fr : Fr) (H : Heap) (o : Op) (K : Slot → Heap → Option R) : Option R :=
 bif isRead o then exRead P fr H o fun s => K s H else exAct P T fr H o K
def gslot (ops : List Oper) (j : Nat) : Option Nat := match ops[j]? with
 | some o => o.dst
 | none => none
def asks (want b : Bool) : Bool := match want with
 | true => b
 | false => !b
def exStep (P : Program) (T : Table) (ops : List Oper) (o : Oper) (fr : Fr) (H : Heap) (K : Fr → Heap → Option R) : Option R := match o.guard with
 | none => exOp P T fr H o.op fun s H => fHr (isRead o.op) H fun H => putF fr o.dst s fun fr => K fr H
 | some (j, want) => match gslot ops j with
  | some t => match fr.getD t .undef with
   | .sv (.v (.bool b)) => br (asks want b)
     (setF fr t (.sv (.v (.bool want))) fun fr => exOp P T fr H o.op fun s H => fHr (isRead o.op) H fun H => putF fr o.dst s fun fr => K fr H)
     (setF fr t (.sv (.v (.bool (!want)))) fun fr => putF fr o.dst (.tup []) fun fr => K fr H)
   | .tup _ => putF fr o.dst (.tup []) fun fr => K fr H
   | _ => none
  | none => none
/-! rows that an operation takes as lists: they are lists in each variable -/
def rowRef : Slot → List Nat
 | .sv (.v (.wl r _)) => [r]
 | .sv (.v (.sl r _ _ _ _ _)) => [r]
 | _ => []
def iceRows (fr : Fr) : Op → List Nat
 | .buildSlice _ _ ps => ps.toList.flatMap fun p => rowRef (evalO fr p.2)
 | _ => []
def iceFr (H0 : Heap) (rs : List Nat) : Fr → Heap → (Fr → Heap → Option R) → Option R
 | [], H, K => K [] H
 | s :: fr, H, K => bif (rowRef s).any rs.contains then match s with
   | .sv (.v y) => freezeQ H0 H y fun y H => iceFr H0 rs fr H fun fr H => K (.sv (.v y) :: fr) H
   | _ => none
  else iceFr H0 rs fr H fun fr H => K (s :: fr) H
def icePre (o : Op) (fr : Fr) (H : Heap) (K : Fr → Heap → Option R) : Option R := match iceRows fr o with
 | [] => K fr H
 | r :: rs => iceFr H (r :: rs) fr H fun fr H => fH H fun H => fFr fr fun fr => K fr H
def exOps (P : Program) (T : Table) (ops : List Oper) : List Oper → Fr → Heap → (Fr → Heap → Option R) → Option R
 | [], fr, H, K => K fr H
 | o :: rest, fr, H, K => icePre o.op fr H fun fr H => exStep P T ops o fr H fun fr H => exOps P T ops rest fr H K
/-! ### the same once more -/
def listDec {α : Type} (f : α → α → Bool) : List α → List α → Bool
 | [], [] => true
 | a :: l, b :: m => f a b && listDec f l m
 | _, _ => false
def Sh.dec : (s : Sh) → s.T → s.T → Bool
 | .int _, a, b => decide ((a : Int) = b)
 | .bool, a, b => decide ((a : Bool) = b)
 | .str, a, b => decide ((a : ByteArray) = b)
 | .isl s, a, b => listDec s.dec a b
 | .pair x y, a, b => x.dec a.1 b.1 && y.dec a.2 b.2
 | .unit, _, _ => true
 | .ref _ _, a, b => decide ((a : Int) = b)
def sameCap : Option Nat → Option Nat → Option R → Option R
 | none, none, k => k
 | some a, some b, k => br (decide (a = b)) k none
 | _, _, _ => none
def sameNats : List Nat → List Nat → Bool
 | [], [] => true
 | a :: l, b :: m => Nat.beq a b && sameNats l m
 | _, _ => false
def sameList (s s' : Sh) (l : List s.T) (l' : List s'.T) (k : Option R) : Option R :=
 if h : s = s' then br (listDec s'.dec (castL h l) l') k none else none
def sameSc (x y : Sc) (k : Option R) : Option R := match x, y with
 | .int a n, .int b m => bif decide (a = b) then br (decide (n = m)) k none else none
 | .bool a, .bool b => br (a == b) k none
 | .str a, .str b => br (decide (a = b)) k none
 | .ptr r o, .ptr r' o' => bif Nat.beq r r' && Nat.beq o o' then k else none
 | .el r o i z, .el r' o' i' z' => bif Nat.beq r r' && Nat.beq o o' && Nat.beq z z' then br (decide (i = i')) k none else none
 | .eptr s l i o, .eptr s' l' i' o' => bif Nat.beq o o' then br (decide (i = i')) (sameList s s' l l' k) none else none
 | .nilp, .nilp => k
 | .sl r o z lo len cap, .sl r' o' z' lo' len' cap' => bif Nat.beq r r' && Nat.beq o o' && Nat.beq z z' then br (decide (lo = lo') && decide (len = len')) (sameCap cap cap' k) none else none
 | .wl r z, .wl r' z' => bif Nat.beq r r' && Nat.beq z z' then k else none
 | .isl s l, .isl s' l' => sameList s s' l l' k
 | .emp, .emp => k
 | .nils, .nils => k
 | .map r, .map r' => bif Nat.beq r r' then k else none
 | .nilm, .nilm => k
 | .fn f c, .fn f' c' => bif Nat.beq f f' && sameNats c c' then k else none
 | .nilf, .nilf => k
 | .undef, .undef => k
 | .rf a t i, .rf b t' i' => bif (a == b) && Nat.beq t t' then br (decide (i = i')) k none else none
 | .pi t i j z o, .pi t' i' j' z' o' => bif Nat.beq t t' && Nat.beq z z' && Nat.beq o o' then br (decide (i = i') && decide (j = j')) k none else none
 | .ps t i z lo len, .ps t' i' z' lo' len' => bif Nat.beq t t' && Nat.beq z z' then br (decide (i = i') && decide (lo = lo') && decide (len = len')) k none else none
 | _, _ => none
def sameSegs (l m : List Seg) (k : Option R) : Option R := match l, m with
 | [], [] => k
 | .c x :: l, .c y :: m => sameSc x y (sameSegs l m k)
 | .row s n a :: l, .row s' n' b :: m => bif Nat.beq n n' then sameList s s' a b (sameSegs l m k) else none
 | _, _ => none
def sameSV (x y : SV) (k : Option R) : Option R := match x, y with
 | .v x, .v y => sameSc x y k
 | .agg l, .agg m => sameSegs l m k
 | _, _ => none
def sameSVs (l m : List SV) (k : Option R) : Option R := match l, m with
 | [], [] => k
 | x :: l, y :: m => sameSV x y (sameSVs l m k)
 | _, _ => none
def sameSlot (x y : Slot) (k : Option R) : Option R := match x, y with
 | .sv x, .sv y => sameSV x y k
 | .tup l, .tup m => sameSVs l m k
 | .undef, .undef => k
 | _, _ => none
/-! ### regions whose order is drawn -/
def edges (o : Oper) : List Nat := (o.after.toList.filter (Region.binds .any)).map (·.on)
def readyB (done : List Nat) (o : Oper) : Bool := (edges o).all done.contains
def eager (ops : List Oper) : Nat → List Nat → List Nat
 | 0, done => done.reverse
 | n + 1, done =>
  let can := (List.range ops.length).filter fun i => !done.contains i && match ops[i]? with
   | some o => readyB done o
   | none => false
  match can.find? (fun i => match ops[i]? with
   | some o => isRead o.op
   | none => false), can with
  | some i, _ => eager ops n (i :: done)
  | none, i :: _ => eager ops n (i :: done)
  | none, [] => done.reverse
def uniqN : List Nat → List Nat
 | [] => []
 | x :: r => bif (uniqN r).contains x then uniqN r else x :: uniqN r
def ahead (tbl : List (Nat × List Nat)) (o : Oper) : List Nat :=
 uniqN ((edges o).flatMap fun j => j :: (match tbl.find? (fun p => Nat.beq p.1 j) with
  | some p => p.2
  | none => []))
def looks (ops : List Oper) (o : Oper) : List Nat :=
 (o.op.operands.toList.filterMap fun | .tmp t => some t | _ => none) ++ (match o.guard with
  | some (g, _) => (gslot ops g).toList
  | none => [])
def dstIn (o : Oper) (l : List Nat) : Bool := match o.dst with
 | some d => l.contains d
 | none => false
def earlyOp (o : Oper) : Bool := match o.op, o.guard, o.dst with
 | .alloc _, none, some _ => true
 | .buildSlice _ _ _, none, some _ => true
 | _, _, _ => false
def isBuild : Op → Bool
 | .build _ _ => true
 | _ => false
def earlyAt (ops : List Oper) (j : Nat) : Bool := match ops[j]? with
 | some p => earlyOp p
 | none => false
def pureAt (ops : List Oper) (o : Oper) : Bool := isBuild o.op && o.guard.isNone && o.dst.isSome && (edges o).any (earlyAt ops)
def earlyAble (ops : List Oper) (o : Oper) : Bool := earlyOp o && (edges o).all fun j => match ops[j]? with
 | some p => !earlyOp p && !pureAt ops p
 | none => true
def pureAble (ops : List Oper) (o : Oper) : Bool := pureAt ops o && (edges o).all fun j => match ops[j]? with
 | some p => !pureAt ops p
 | none => true
def earlies (ops : List Oper) : List Nat := (List.range ops.length).filter fun j => match ops[j]? with
 | some o => earlyAble ops o || pureAble ops o
 | none => false
def oneCell (ops : List Oper) (ez : List Nat) (o : Oper) (x : Operand) : Bool := match x with
 | .tmp t => (edges o).any fun j => ez.contains j && match ops[j]? with
  | some p => earlyOp p && dstIn p [t]
  | none => false
 | _ => false
def pureOk (P : Program) (ops : List Oper) (ez : List Nat) (o : Oper) : Bool := match o.op with
 | .build t ps => match P.underlying t, P.info? t with
  | some (.struct fs), some i => match i.zero with
   | some z => fs.toList.all (fun f => (P.info? f.type).isSome) && ps.toList.all fun p => match fs.toList[p.1]? with
    | some f => Nat.beq (P.cellsOf f.type) 1 && Nat.ble (f.offset + 1) z.cells.size && oneCell ops ez o p.2
    | none => false
   | none => false
  | _, _ => false
 | _ => false
def growOk (P : Program) (fr : Fr) (o : Oper) : Bool := match o.op with
 | .alloc t => (zeroOf P t).isSome
 | .buildSlice t n ps => match P.underlying t with
  | some (.slice e) => match elemOf P e with
   | some s => Nat.ble (n * s.size) 1000000 && ps.toList.all fun p => Nat.blt p.1 n && match evalSV fr p.2 with
    | some v => okSV v && Nat.beq (segsSize (svSegs v)) s.size
    | none => false
   | none => false
  | _ => false
 | _ => false
def growsOk (P : Program) (ops : List Oper) (ez done : List Nat) (fr : Fr) : Bool := ez.all fun j => done.contains j || match ops[j]? with
 | some o => bif pureAt ops o then pureOk P ops ez o else !readyB done o || growOk P fr o
 | none => true
def undone (ops : List Oper) (done : List Nat) : Nat → List Nat → List Nat → List Nat
 | 0, _, acc => acc
 | _, [], acc => acc
 | n + 1, x :: todo, acc => bif done.contains x || acc.contains x then undone ops done n todo acc else match ops[x]? with
  | some o => undone ops done n (edges o ++ todo) (x :: acc)
  | none => undone ops done n todo acc
def isReadAt (ops : List Oper) (i : Nat) : Bool := match ops[i]? with
 | some o => isRead o.op
 | none => false
def wanted (ops : List Oper) (ez done can : List Nat) : Option Nat :=
 match (List.range ops.length).find? (fun a => !done.contains a && !isReadAt ops a && !ez.contains a && (undone ops done 4000 [a] []).all fun k => Nat.beq k a || isReadAt ops k || ez.contains k) with
 | some a => can.find? (undone ops done 4000 [a] []).contains
 | none => none
def lazy (ops : List Oper) (ez : List Nat) : Nat → List Nat → List Nat
 | 0, done => done.reverse
 | n + 1, done =>
  let can := (List.range ops.length).filter fun i => !done.contains i && match ops[i]? with
   | some o => readyB done o
   | none => false
  match can.find? (isReadAt ops) with
  | some i => lazy ops ez n (i :: done)
  | none => match can.find? (fun i => !ez.contains i) with
   | some i => lazy ops ez n (i :: done)
   | none => match wanted ops ez done can, can with
    | some i, _ => lazy ops ez n (i :: done)
    | none, i :: _ => lazy ops ez n (i :: done)
    | none, [] => done.reverse
def pairOk (ez : List Nat) (ops : List Oper) (j k : Nat) (bef : List Nat) : Bool := match ops[j]?, ops[k]? with
 | some oj, some ok => !dstIn ok (looks ops oj) && !dstIn ok oj.dst.toList && (bef.contains j || (isRead oj.op && !dstIn oj (looks ops ok)) || (ez.contains k && !dstIn oj (looks ops ok)))
 | _, _ => false
def notSel : Op → Bool
 | .select _ _ => false
 | _ => true
def befTbl (ez : List Nat) (ops : List Oper) : List Nat → List Nat → List (Nat × List Nat) → Option (List (Nat × List Nat))
 | [], done, tbl => bif Nat.beq done.length ops.length then some tbl else none
 | i :: rest, done, tbl => match ops[i]? with
  | some o => bif !done.contains i && readyB done o && !dstIn o (looks ops o) && notSel o.op && done.all (fun j => pairOk ez ops j i (ahead tbl o)) then
    befTbl ez ops rest (i :: done) ((i, ahead tbl o) :: tbl) else none
  | none => none
def befOf (tbl : List (Nat × List Nat)) (i : Nat) : List Nat := match tbl.find? (fun p => Nat.beq p.1 i) with
 | some p => p.2
 | none => []
def recheck (P : Program) (ops : List Oper) (bef : List Nat) : List Nat → Fr → Heap → Option R → Option R
 | [], _, _, k => k
 | j :: rest, fr, H, k => match ops[j]? with
  | some o => bif bef.contains j || !isRead o.op then recheck P ops bef rest fr H k else
   exStep P (fun _ => noEnt) ops o fr H fun fr' _ => match o.dst with
    | some d => sameSlot (fr'.getD d .undef) (fr.getD d .undef) (recheck P ops bef rest fr H k)
    | none => recheck P ops bef rest fr H k
  | none => none
def exDraw (P : Program) (T : Table) (ops : List Oper) (tbl : List (Nat × List Nat)) (ez : List Nat) : List Nat → List Nat → Fr → Heap → (Fr → Heap → Option R) → Option R
 | [], _, fr, H, K => K fr H
 | i :: rest, done, fr, H, K => bif growsOk P ops ez done fr then match ops[i]? with
  | some o => exStep P T ops o fr H fun fr H => bif isRead o.op || grows o.op then exDraw P T ops tbl ez rest (i :: done) fr H K
    else recheck P ops (befOf tbl i) done.reverse fr H (exDraw P T ops tbl ez rest (i :: done) fr H K)
  | none => none
  else none
def exDrawn (P : Program) (T : Table) (l : List Oper) (fr : Fr) (H : Heap) (K : Fr → Heap → Option R) : Option R :=
 match befTbl [] l (eager l l.length []) [] [] with
 | some tbl => exDraw P T l tbl [] (eager l l.length []) [] fr H K
 | none => bif (cfgOf T).isEmpty then match befTbl (earlies l) l (lazy l (earlies l) l.length []) [] [] with
  | some tbl => exDraw P T l tbl (earlies l) (lazy l (earlies l) l.length []) [] fr H K
  | none => none
  else none
def firstAt (l : List Oper) (o : Oper) : Bool := match o.op, o.guard, o.dst with
 | .move (.tmp t), none, some _ => (edges o).isEmpty && l.any (dstIn · [t])
 | _, _, _ => false
def apartB (l : List Oper) (x y : Oper) : Bool := !dstIn x (looks l y) && !dstIn x y.dst.toList && !dstIn y (looks l x)
def firsts (l : List Oper) : List Nat := (List.range l.length).filter fun j => match l[j]? with
 | some o => firstAt l o && (List.range l.length).all fun i => Nat.beq i j || match l[i]? with
  | some k => (edges k).contains j || apartB l o k
  | none => true
 | none => false
def blank1 (o : Oper) : Oper := { o with dst := none, op := .move (.const (.int .i64 0)) }
def blank (J : List Nat) : Nat → List Oper → List Oper
 | _, [] => []
 | i, o :: r => (bif J.contains i then blank1 o else o) :: blank J (i + 1) r
def exHead (P : Program) (T : Table) (l : List Oper) : List Nat → Fr → Heap → (Fr → Heap → Option R) → Option R
 | [], fr, H, K => K fr H
 | j :: js, fr, H, K => match l[j]? with
  | some o => exStep P T l o fr H fun fr H => exHead P T l js fr H K
  | none => none
def exFirst (P : Program) (T : Table) (l : List Oper) (fr : Fr) (H : Heap) (K : Fr → Heap → Option R) : Option R :=
 fNats (firsts l) fun J => bif l.all (fun o => notSel o.op && match o.guard with
   | some (g, _) => !J.contains g
   | none => true) then
  exHead P T l J fr H fun fr H => bif J.isEmpty then none else exDrawn P T (blank J 0 l) fr H K
 else none
/-! ### code -/
def loops : Code → Nat
 | .seq a b => loops a + loops b + 1
 | .cond _ a b => loops a + loops b
 | .block _ b => loops b
 | .loop b => loops b + 1
 | _ => 0
structure LK where
 cut : Bool
 keep : List Nat
 out : List Nat
 pk : Plan
 po : Plan
structure LSpec where
 k : LK
 run : {R : Type} → List Slot → Heap → (Exit → List Slot → Heap → Option R) → Option R
structure Ctx where
 pins : Nat
 size : Nat
 loop : Nat → LSpec
 rows : List Nat
def slotRefs : Slot → List Nat
 | .sv x => svRefs x
 | .tup l => svsRefs l
 | .undef => []
def slotsRefs : List Slot → List Nat
 | [] => []
 | x :: r => slotRefs x ++ slotsRefs r
def unkeep : List Nat → List Slot → Fr → Fr
 | t :: ts, x :: xs, fr => unkeep ts xs (fr.set t x)
 | _, _, fr => fr
def tidy (n : Nat) (pl : Plan) (sl : List Slot) (H : Heap) (K : List Slot → Heap → Option R) : Option R :=
 match reach H fuelR (pinRefs H (List.range n) ++ (slotsRefs sl ++ tagRefs H (slotsTags sl))) (List.range n) with
 | some rs => fNats rs fun rs => fNats (slotsRefs sl ++ pinRefs H rs) fun refs =>
  rebSlots pl.hot (fun r => Nat.beq (countN r refs) 1 && (Nat.ble n r || pl.hot.contains r)) pl.at sl 0 H fun sl H =>
  rebObjs pl.hot (fun r => Nat.beq (countN r refs) 1) rs H fun H => fFr sl fun sl => fH H fun H => K sl H
 | none => none
def wlSc : Sc → List Nat
 | .wl r _ => [r]
 | _ => []
def wlSegs : List Seg → List Nat
 | [] => []
 | .c x :: r => wlSc x ++ wlSegs r
 | .row _ _ _ :: r => wlSegs r
def wlSVs : List SV → List Nat
 | [] => []
 | v :: r => wlSegs (svSegs v) ++ wlSVs r
def wlSlots : List Slot → List Nat
 | [] => []
 | .sv v :: r => wlSegs (svSegs v) ++ wlSlots r
 | .tup l :: r => wlSVs l ++ wlSlots r
 | .undef :: r => wlSlots r
def wlHeap : Heap → List Nat
 | [] => []
 | .cells l :: r => wlSegs l ++ wlHeap r
 | _ :: r => wlHeap r
def normO : Obj → Obj
 | .cells [.row s _ l] => .cells [.row s l.length l]
 | o => o
def normH (ws : List Nat) : Nat → Heap → Heap
 | _, [] => []
 | i, o :: r => (bif ws.contains i then normO o else o) :: normH ws (i + 1) r
def seeSlots (n : Nat) (rows : List Nat) (sl : List Slot) (H : Heap) (K : List Slot → Heap → Option R) : Option R :=
 match reach H fuelR (pinRefs H (List.range n) ++ (slotsRefs sl ++ tagRefs H (slotsTags sl))) (List.range n) with
 | some rs => fNats rs fun rs => fFr (sl.map (mapSlot (idx rs))) fun sl => fH (rs.map fun r => mapObj (idx rs) (H.getD r .dead)) fun G =>
  fNats (rows ++ (wlSlots sl ++ wlHeap G)) fun ws => fH (normH ws 0 G) fun G => K sl G
 | none => none
def view (C : Ctx) (keep : List Nat) (pl : Plan) (fr : Fr) (H : Heap) (K : List Slot → Heap → Option R) : Option R :=
 bif Nat.ble C.size fr.length then tidy C.pins pl (keep.map fun t => fr.getD t .undef) H fun sl H => seeSlots C.pins C.rows sl H K else none
def ofView (C : Ctx) (keep : List Nat) (sl : List Slot) : Fr := unkeep keep sl (List.replicate C.size .undef)
def unkeepK {R : Type} : List Nat → List Slot → Fr → (Fr → Option R) → Option R
 | t :: ts, x :: xs, fr, K => setF fr t x fun fr => unkeepK ts xs fr K
 | _, _, fr, K => K fr
def ofViewK {R : Type} (C : Ctx) (keep : List Nat) (sl : List Slot) (K : Fr → Option R) : Option R := unkeepK keep sl (List.replicate C.size .undef) K
def exCode (P : Program) (T : Table) (C : Ctx) : Code → Nat → Fr → Heap → (Exit → Fr → Heap → Option R) → Option R
 | .skip, _, fr, H, K => K .normal fr H
 | .label _, _, fr, H, K => K .normal fr H
 | .region _ ops draw, _, fr, H, K => bif draw then
   bif P.follows .mixedOrders then match befTbl [] ops.toList (eager ops.toList ops.size []) [] [] with
    | some tbl => exDraw P T ops.toList tbl [] (eager ops.toList ops.size []) [] fr H (K .normal)
    | none => bif (cfgOf T).isEmpty then match befTbl (earlies ops.toList) ops.toList (lazy ops.toList (earlies ops.toList) ops.size []) [] [] with
     | some tbl => exDraw P T ops.toList tbl (earlies ops.toList) (lazy ops.toList (earlies ops.toList) ops.size []) [] fr H (K .normal)
     | none => exFirst P T ops.toList fr H (K .normal)
     else exFirst P T ops.toList fr H (K .normal)
   else none
  else exOps P T ops.toList ops.toList fr H (K .normal)
 | .seq a b, n, fr, H, K => exCode P T C a (n + 1) fr H fun e fr H => match e with
  | .normal => match (C.loop n).k.cut with
   | true => view C (C.loop n).k.keep (C.loop n).k.pk fr H fun sl G => (C.loop n).run sl G fun e sl G => fH G fun G => ofViewK C (C.loop n).k.out sl fun fr => fFr fr fun fr => K e fr G
   | false => exCode P T C b (n + 1 + loops a) fr H K
  | e => K e fr H
 | .cond c a b, n, fr, H, K => match c with
  | .tmp t => match fr.getD t .undef with
   | .sv (.v (.bool x)) => br x (setF fr t (.sv (.v (.bool true))) fun fr => exCode P T C a n fr H K) (setF fr t (.sv (.v (.bool false))) fun fr => exCode P T C b (n + loops a) fr H K)
   | _ => none
  | .const (.bool true) => exCode P T C a n fr H K
  | .const (.bool false) => exCode P T C b (n + loops a) fr H K
  | _ => none
 | .block id b, n, fr, H, K => exCode P T C b n fr H fun e fr H => match e with
  | .exit i => bif Nat.beq i id then K .normal fr H else K (.exit i) fr H
  | e => K e fr H
 | .loop _, n, fr, H, K => view C (C.loop n).k.keep (C.loop n).k.pk fr H fun sl G => (C.loop n).run sl G fun e sl G => fH G fun G => ofViewK C (C.loop n).k.out sl fun fr => fFr fr fun fr => K e fr G
 | .exit i, _, fr, H, K => K (.exit i) fr H
 | .ret, _, fr, H, K => K .ret fr H
 | _, _, _, _, _ => none
def resultsK (P : Program) (fr : Fr) (H : Heap) : List ResultVar → (List SV → Option R) → Option R
 | [], K => K []
 | .tmp t :: r, K => match fr.getD t .undef with
  | .sv x => resultsK P fr H r fun l => K (x :: l)
  | _ => none
 | .cell a t :: r, K => match fr.getD a .undef with
  | .sv (.v p) => match aggO P t with
   | some (agg, n) => loadAt agg n H p fun x => resultsK P fr H r fun l => K (x :: l)
   | none => none
  | _ => none
def resSlot : List SV → Slot
 | [x] => .sv x
 | l => .tup l
def hand (n : Nat) (pl : Plan) (s : Slot) (H : Heap) (K : Slot → Heap → Option R) : Option R :=
 tidy n pl [s] H fun sl H => seeSlots n pl.rows sl H fun sl G => match sl with
  | [s] => K s G
  | _ => none
def exBody (P : Program) (T : Table) (f : Func) (pl : Plan) (ls : Nat → LSpec) (args : List SV) (H : Heap) (K : Slot → Heap → Option R) : Option R :=
 match f.body with
 | some c => fFr (args.map .sv ++ List.replicate (f.ntmps - args.length) .undef) fun fr => exCode P T ⟨H.length, f.ntmps, ls, pl.rows⟩ c 0 fr H fun e fr G => match e with
  | .normal => resultsK P fr G f.results.toList fun l => hand H.length pl (resSlot l) G K
  | .ret => resultsK P fr G f.results.toList fun l => hand H.length pl (resSlot l) G K
  | _ => none
 | none => none
end
end Go.Gx

namespace Go.Gx
/-! ### forcing changes nothing -/
section
variable {R : Type}
@[simp] theorem fSc_eq (x : Sc) (K : Sc → Option R) : fSc x K = K x := by cases x <;> rfl
@[simp] theorem fSegs_eq : ∀ (l : List Seg) (K : List Seg → Option R), fSegs l K = K l
 | [], _ => rfl
 | .c x :: r, K => by simp [fSegs, fSegs_eq r]
 | .row s n l :: r, K => by simp [fSegs, fSegs_eq r]
@[simp] theorem fSV_eq (x : SV) (K : SV → Option R) : fSV x K = K x := by cases x <;> simp [fSV]
@[simp] theorem fSVs_eq : ∀ (l : List SV) (K : List SV → Option R), fSVs l K = K l
 | [], _ => rfl
 | x :: r, K => by simp [fSVs, fSVs_eq r]
@[simp] theorem fS_eq (s : Slot) (K : Slot → Option R) : fS s K = K s := by cases s <;> simp [fS]
@[simp] theorem fFr_eq : ∀ (l : Fr) (K : Fr → Option R), fFr l K = K l
 | [], _ => rfl
 | x :: r, K => by simp [fFr, fFr_eq r]
@[simp] theorem fObj_eq (o : Obj) (K : Obj → Option R) : fObj o K = K o := by cases o <;> simp [fObj]
@[simp] theorem fH_eq : ∀ (l : Heap) (K : Heap → Option R), fH l K = K l
 | [], _ => rfl
 | x :: r, K => by simp [fH, fH_eq r]
@[simp] theorem fHr_eq (b : Bool) (l : Heap) (K : Heap → Option R) : fHr b l K = K l := by cases b <;> simp [fHr]
@[simp] theorem fNats_eq : ∀ (l : List Nat) (K : List Nat → Option R), fNats l K = K l
 | [], _ => rfl
 | x :: r, K => by simp [fNats, fNats_eq r]
theorem setHK_eq {R : Type} : ∀ (H : Heap) (r : Nat) (o : Obj) (K : Heap → Option R), setHK H r o K = K (H.set r o)
 | [], _, _, _ => rfl
 | _ :: _, 0, _, _ => rfl
 | x :: l, r + 1, o, K => by simp [setHK, setHK_eq l]
theorem pushHK_eq {R : Type} : ∀ (H : Heap) (o : Obj) (K : Heap → Option R), pushHK H o K = K (H ++ [o])
 | [], _, _ => rfl
 | x :: l, o, K => by simp [pushHK, pushHK_eq l]
@[simp] theorem setF_eq : ∀ (fr : Fr) (t : Nat) (s : Slot) (K : Fr → Option R), setF fr t s K = K (fr.set t s)
 | [], _, _, _ => rfl
 | _ :: _, 0, _, _ => rfl
 | x :: r, t + 1, s, K => by simp [setF, setF_eq r]
def putS (fr : Fr) (d : Option Nat) (s : Slot) : Fr := match d with
 | some t => fr.set t s
 | none => fr
@[simp] theorem putF_eq (fr : Fr) (d : Option Nat) (s : Slot) (K : Fr → Option R) : putF fr d s K = K (putS fr d s) := by
 cases d <;> simp [putF, putS]
theorem br_some {b : Bool} {x y : Option R} {r : R} (h : br b x y = some r) : (b = true ∧ x = some r) ∨ (b = false ∧ y = some r) := by
 cases b
 ·exact .inr ⟨rfl, h⟩
 ·exact .inl ⟨rfl, h⟩
theorem br_none {b : Bool} {x : Option R} {r : R} (h : br b x none = some r) : b = true ∧ x = some r := by
 cases b
 ·cases h
 ·exact ⟨rfl, h⟩
theorem br_none' {b : Bool} {x : Option R} {r : R} (h : br b none x = some r) : b = false ∧ x = some r := by
 cases b
 ·exact ⟨rfl, h⟩
 ·cases h
theorem bif_none {b : Bool} {x : Option R} {r : R} (h : (bif b then x else none) = some r) : b = true ∧ x = some r := by
 cases b
 ·cases h
 ·exact ⟨rfl, h⟩
end
/-! ### the relation -/
structure Loc where
 b : Nat
 o : Nat
 k : Prop
 e : Nat → Nat
@[reducible] def Loc.c (p : Loc) : Loc := ⟨p.b, p.o, p.k, fun _ => 0⟩
@[reducible] def Loc.mk3 (b o : Nat) (k : Prop) : Loc := ⟨b, o, k, fun _ => 0⟩
abbrev PbT := Nat → Nat → Nat → Nat → Prop
structure Av where
 p : Nat → Prop
 pb : PbT
instance : CoeFun Av (fun _ => Nat → Prop) := ⟨Av.p⟩
structure En where
 w : World
 β : Nat → Loc
 Own : Nat → Prop
 F : Nat → Prop
 sz : Nat → Option Nat
 n : Nat
 pq : Nat → PbT
 pn : Nat → Nat
def En.pb (e : En) : PbT := fun t i b m => ∃ r, r < e.n ∧ e.pq r t i b m
@[reducible] def En.av (e : En) : Av := ⟨fun b => e.Own b ∨ e.F b, e.pb⟩
def RowAt {α : Type} (w : World) (R : α → List Value → Prop) (z : Nat) (ad : Addr) (l : List α) : Prop :=
 ad.spot = none ∧ ∃ c t fz, w.heap[ad.block]? = some (.cells c t fz) ∧
  ∀ i x, l[i]? = some x → ∃ vs : List Value, vs.length = z ∧ R x vs ∧ ∀ j v, vs[j]? = some v → c[ad.off + i * z + j]? = some v
def RepL {α : Type} (w : World) (av : Av) (R : α → List Value → Prop) (z : Nat) (l : List α) (V : Value) : Prop :=
 ∃ A C, V = .slice A l.length C ∧ l.length ≤ C ∧ (l ≠ [] → ∃ ad, A = some ad ∧ ¬ av ad.block ∧ RowAt w R z ad l)
def RefV (pb : PbT) (k : Bool) (t : Nat) (x : Int) (V : Value) : Prop := match k with
 | false => (x < 0 ∧ V = .pointer none) ∨ (0 ≤ x ∧ ∃ b, pb t x.toNat b 1 ∧ V = .pointer (some ⟨b, 0, none⟩))
 | true => (x < 0 ∧ V = .slice none 0 0) ∨ (0 ≤ x ∧ ∃ b m A C, pb t x.toNat b m ∧ V = .slice A m C ∧ m ≤ C ∧ (0 < m → A = some ⟨b, 0, none⟩))
def RepT (w : World) (av : Av) : (s : Sh) → s.T → List Value → Prop
 | .int k, x, vs => vs = [.int k x]
 | .bool, x, vs => vs = [.bool x]
 | .str, x, vs => vs = [.string x]
 | .isl s, x, vs => ∃ V, vs = [V] ∧ RepL w av (RepT w av s) s.size x V
 | .pair a b, x, vs => ∃ u v, vs = u ++ v ∧ RepT w av a x.1 u ∧ RepT w av b x.2 v
 | .unit, _, vs => vs = []
 | .ref k t, x, vs => ∃ V, vs = [V] ∧ RefV av.pb k t x V
def addr (e : En) (r o : Nat) : Addr := ⟨(e.β r).b, (e.β r).o + o, none⟩
def RepSc (e : En) : Sc → Value → Prop
 | .int k n, V => V = .int k n
 | .bool b, V => V = .bool b
 | .str s, V => V = .string s
 | .ptr r o, V => r < e.n ∧ V = .pointer (some (addr e r o))
 | .el r o i z, V => r < e.n ∧ V = .pointer (some (addr e r (o + i.toNat * z)))
 | .eptr s l i o, V => i.toNat < l.length ∧ ∃ ad, ¬ e.av ad.block ∧ RowAt e.w (RepT e.w e.av s) s.size ad l ∧
   V = .pointer (some ⟨ad.block, ad.off + i.toNat * s.size + o, none⟩)
 | .nilp, V => V = .pointer none
 | .sl r o z lo len cap, V => r < e.n ∧ len ≤ capOf len cap ∧ ∃ A C, V = .slice A len C ∧ capOf len cap ≤ C ∧
   (0 < C → A = some (addr e r (o + lo * z)) ∧ (e.β r).k ∧ ∃ c t fz, e.w.heap[(e.β r).b]? = some (.cells c t fz) ∧ (e.β r).o + o + (lo + C) * z ≤ c.size)
 | .wl r z, V => r < e.n ∧ ∃ A len C, V = .slice A len C ∧ len ≤ C ∧ (∀ m, e.sz r = some m → m = len * z) ∧
   (0 < C → A = some (addr e r 0) ∧ (e.β r).k ∧ ∃ c t fz, e.w.heap[(e.β r).b]? = some (.cells c t fz) ∧ (e.β r).o + C * z ≤ c.size)
 | .isl s l, V => RepL e.w e.av (RepT e.w e.av s) s.size l V
 | .emp, V => ∃ A, V = .slice A 0 0
 | .nils, V => V = .slice none 0 0
 | .map r, V => r < e.n ∧ V = .map (some (e.β r).b)
 | .nilm, V => V = .map none
 | .fn f caps, V => (∀ r, r ∈ caps → r < e.n) ∧ V = .func (.func f) #[] (caps.map fun r => Value.pointer (some (addr e r 0))).toArray
 | .nilf, V => V = .nilFunc
 | .undef, _ => True
 | .rf k t x, V => RefV e.pb k t x V
 | .pi t i j z o, V => 0 ≤ i ∧ ∃ b m, e.pb t i.toNat b m ∧ j.toNat < m ∧ V = .pointer (some ⟨b, j.toNat * z + o, none⟩)
 | .ps t i z lo len, V => ∃ A C, V = .slice A len C ∧ len ≤ C ∧ (0 < len → 0 ≤ i ∧ ∃ b m, e.pb t i.toNat b m ∧ lo + len ≤ m ∧ A = some ⟨b, lo * z, none⟩)
def RepRow (w : World) (av : Av) (s : Sh) : List s.T → List Value → Prop
 | [], vs => vs = []
 | x :: r, vs => ∃ u v, vs = u ++ v ∧ RepT w av s x u ∧ RepRow w av s r v
def RepSegs (e : En) : List Seg → List Value → Prop
 | [], vs => vs = []
 | .c x :: r, vs => ∃ V v, vs = V :: v ∧ V.oneCell' = true ∧ RepSc e x V ∧ RepSegs e r v
 | .row s n l :: r, vs => l.length = n ∧ ∃ u v, vs = u ++ v ∧ RepRow e.w e.av s l u ∧ RepSegs e r v
def RepSV (e : En) : SV → Value → Prop
 | .v x, V => RepSc e x V
 | .agg l, V => ∃ vs : List Value, V = .agg vs.toArray ∧ RepSegs e l vs
def RepSVs (e : En) : List SV → List Value → Prop
 | [], vs => vs = []
 | x :: r, vs => ∃ V v, vs = V :: v ∧ RepSV e x V ∧ RepSVs e r v
def RepSlot (e : En) : Slot → Value → Prop
 | .sv x, V => RepSV e x V
 | .tup l, V => ∃ vs : List Value, V = .tuple vs.toArray ∧ RepSVs e l vs
 | .undef, _ => True
def owns (p : Loc) : Obj → Prop
 | .cells _ => p.k
 | .map _ _ _ _ _ => True
 | .ice _ _ => False
 | .dead => False
 | .pool _ _ _ _ => False
def has (p : Loc) (o : Obj) (b : Nat) : Prop := match o with
 | .cells _ => p.k ∧ p.b = b
 | .map _ _ _ _ _ => p.b = b
 | .ice _ _ => False
 | .dead => False
 | .pool _ _ _ l => ∃ i, i < l.length ∧ p.e i = b
def Own (β : Nat → Loc) (H : Heap) (b : Nat) : Prop := ∃ r o, H[r]? = some o ∧ has (β r) o b
def dLen : (s : Sh) → s.T → Nat
 | .isl _, l => l.length
 | _, _ => 1
def poolM (k : Bool) (s : Sh) (x : s.T) : Nat := match k with
 | false => 1
 | true => dLen s x
def pqOf (β : Nat → Loc) (H : Heap) (r : Nat) : PbT := fun t i b m => ∃ k s l x, H[r]? = some (.pool k t s l) ∧ l[i]? = some x ∧ b = (β r).e i ∧ m = poolM k s x
def pbOf (β : Nat → Loc) (H : Heap) : PbT := fun t i b m => ∃ r, r < H.length ∧ pqOf β H r t i b m
def PoolC (w : World) (av : Av) (k : Bool) (s : Sh) (x : s.T) (cl : List Value) : Prop := match k, s, x with
 | false, s, x => ∃ vs post : List Value, cl = vs ++ post ∧ RepT w av s x vs
 | true, .isl s, x => ∃ vs post : List Value, cl = vs ++ post ∧ RepRow w av s x vs
 | true, _, _ => False
def PoolEl (w : World) (av : Av) (k : Bool) (s : Sh) (x : s.T) (b : Nat) : Prop := ∃ (c : Array Value) (t : TypeId), w.heap[b]? = some (.cells c t (0, 0)) ∧ PoolC w av k s x c.toList
def RepVal (agg : Bool) (us : List Value) (V : Value) : Prop := match agg with
 | true => V = .agg us.toArray
 | false => us = [V]
def RepEntries (e : En) (ks vs : Sh) (ka va : Bool) : List (ks.T × vs.T) → List MapEntry → Prop
 | [], es => es = []
 | p :: l, es => ∃ x r, es = x :: r ∧ (∃ us, RepT e.w e.av ks p.1 us ∧ RepVal ka us x.key) ∧ (∃ us, RepT e.w e.av vs p.2 us ∧ RepVal va us x.val) ∧ RepEntries e ks vs ka va l r
def RepObj (e : En) (r : Nat) : Obj → Prop
 | .cells l => ∃ vs : List Value, RepSegs e l vs ∧ (¬ (e.β r).k → segsSize l = 0) ∧ ((e.β r).k → ∃ (c : Array Value) (t : TypeId) (pre post : List Value), e.w.heap[(e.β r).b]? = some (.cells c t (0, 0)) ∧ c.toList = pre ++ vs ++ post ∧ pre.length = (e.β r).o)
 | .map ks vs ka va l => ∃ (es : Array MapEntry) (clock : Nat), e.w.heap[(e.β r).b]? = some (.map es clock) ∧ RepEntries e ks vs ka va l es.toList ∧
   (∀ x ∈ es.toList, x.born < clock) ∧ (es.toList.map (·.born)).Nodup
 | .ice s l => l ≠ [] → ¬ e.av (e.β r).b ∧ RowAt e.w (RepT e.w e.av s) s.size (addr e r 0) l
 | .dead => True
 | .pool k _ s l => (∀ i x, l[i]? = some x → PoolEl e.w e.av k s x ((e.β r).e i)) ∧ (∀ i j, i < l.length → j < l.length → (e.β r).e i = (e.β r).e j → i = j)
def szO : Obj → Option Nat
 | .cells l => some (segsSize l)
 | .ice s l => some (l.length * s.size)
 | _ => none
def szOf (H : Heap) (r : Nat) : Option Nat := match H[r]? with
 | some o => szO o
 | none => none
def pnO : Obj → Nat
 | .pool _ _ _ l => l.length
 | _ => 0
def pnOf (H : Heap) (r : Nat) : Nat := match H[r]? with
 | some o => pnO o
 | none => 0
theorem pnOf_of {H : Heap} {r : Nat} {o : Obj} (h : H[r]? = some o) : pnOf H r = pnO o := by simp [pnOf, h]
def en (w : World) (β : Nat → Loc) (F : Nat → Prop) (H : Heap) : En := ⟨w, β, Own β H, F, szOf H, H.length, pqOf β H, pnOf H⟩
theorem szOf_of {H : Heap} {r : Nat} {o : Obj} (h : H[r]? = some o) : szOf H r = szO o := by simp [szOf, h]
theorem szOf_some {H : Heap} {r m : Nat} (h : szOf H r = some m) : ∃ o, H[r]? = some o ∧ szO o = some m := by
 unfold szOf at h
 split at h
 ·rename_i o ho
  exact ⟨o, ho, h⟩
 ·cases h
structure HeapOk (w : World) (β : Nat → Loc) (F : Nat → Prop) (H : Heap) : Prop where
 obj : ∀ r o, H[r]? = some o → RepObj (en w β F H) r o
 ltB : ∀ r o b, H[r]? = some o → has (β r) o b → b < w.heap.size ∧ ¬ F b
 injB : ∀ r r' o o' b, H[r]? = some o → H[r']? = some o' → has (β r) o b → has (β r') o' b → r = r'
 F : ∀ b, F b → b < w.heap.size
 uni : ∀ (r r' : Nat) (k k' : Bool) (t : Nat) (s s' : Sh) (l : List s.T) (l' : List s'.T), H[r]? = some (Obj.pool k t s l) → H[r']? = some (Obj.pool k' t s' l') → r = r'
theorem has_of {p : Loc} {o : Obj} (h : owns p o) : has p o p.b := by
 cases o with
 | cells => exact ⟨h, rfl⟩
 | map => exact rfl
 | ice => exact h
 | dead => exact h
 | pool => exact h.elim
theorem owns_of {p : Loc} {o : Obj} {b : Nat} (h : has p o b) (ho : ∀ k t s l, o ≠ .pool k t s l) : owns p o ∧ p.b = b := by
 cases o with
 | cells => exact h
 | map => exact ⟨trivial, h⟩
 | ice => exact h.elim
 | dead => exact h.elim
 | pool => exact absurd rfl (ho _ _ _ _)
theorem HeapOk.lt {w : World} {β : Nat → Loc} {F : Nat → Prop} {H : Heap} (ok : HeapOk w β F H) (r : Nat) (o : Obj) (h : H[r]? = some o) (ho : owns (β r) o) : (β r).b < w.heap.size ∧ ¬ F (β r).b :=
 ok.ltB r o _ h (has_of ho)
theorem HeapOk.inj {w : World} {β : Nat → Loc} {F : Nat → Prop} {H : Heap} (ok : HeapOk w β F H) (r r' : Nat) (o o' : Obj) (h : H[r]? = some o) (h' : H[r']? = some o') (ho : owns (β r) o) (ho' : owns (β r') o') (e : (β r).b = (β r').b) : r = r' :=
 ok.injB r r' o o' _ h h' (has_of ho) (by rw [e]; exact has_of ho')
structure Ext (e e' : En) : Prop where
 n : e.n ≤ e'.n
 β : ∀ r, r < e.n → (e'.β r).c = (e.β r).c
 el : ∀ r i, r < e.n → i < e.pn r → (e'.β r).e i = (e.β r).e i
 size : e.w.heap.size ≤ e'.w.heap.size
 kept : ∀ b, b < e.w.heap.size → ¬ e.Own b → e'.w.heap[b]? = e.w.heap[b]?
 sub : ∀ b, b < e.w.heap.size → e'.Own b → e.Own b
 F : e'.F = e.F
 sz : ∀ r m, r < e.n → e'.sz r = some m → e.sz r = some m
 grow : ∀ (b : Nat) c t f, e.w.heap[b]? = some (.cells c t f) → ∃ c' f', e'.w.heap[b]? = some (.cells c' t f') ∧ c'.size = c.size
 out : e'.w.os = e.w.os ∧ e'.w.output = e.w.output
 froz : ∀ (b : Nat) c t f, e'.w.heap[b]? = some (.cells c t f) → f = (0, 0) ∨ ∃ c', e.w.heap[b]? = some (.cells c' t f)
 pq : ∀ r t i b m, r < e.n → e.pq r t i b m → e'.pq r t i b m
 pn : ∀ r, r < e.n → e.pn r ≤ e'.pn r
theorem lt_of_heap {w : World} {b : Nat} {o : Go.Obj} (h : w.heap[b]? = some o) : b < w.heap.size := (Array.getElem?_eq_some_iff.1 h).1
/-! ### lasting -/
def KpB (w : World) (av : Av) (w' : World) (av' : Av) : Prop :=
 ∀ b, b < w.heap.size → ¬ av b → w'.heap[b]? = w.heap[b]? ∧ ¬ av' b
def PbS (pb pb' : PbT) (t : Nat) : Prop := ∀ i b m, pb t i b m → pb' t i b m
structure Kp (w : World) (av : Av) (w' : World) (av' : Av) : Prop where
 b : KpB w av w' av'
 p : ∀ t, PbS av.pb av'.pb t
theorem RefV.mono {pb pb' : PbT} {k : Bool} {t : Nat} {x : Int} {V : Value} (h : PbS pb pb' t) (hv : RefV pb k t x V) : RefV pb' k t x V := by
 cases k with
 | false =>
  rcases hv with hv | ⟨h0, b, h1, h2⟩
  ·exact .inl hv
  ·exact .inr ⟨h0, b, h _ _ _ h1, h2⟩
 | true =>
  rcases hv with hv | ⟨h0, b, m, A, C, h1, h2⟩
  ·exact .inl hv
  ·exact .inr ⟨h0, b, m, A, C, h _ _ _ h1, h2⟩
theorem RowAt.mono {α : Type} {w w' : World} {R R' : α → List Value → Prop} {z : Nat} {ad : Addr} {l : List α} (h : RowAt w R z ad l)
  (hb : w'.heap[ad.block]? = w.heap[ad.block]?) (hR : ∀ x vs, x ∈ l → R x vs → R' x vs) : RowAt w' R' z ad l := by
 obtain ⟨hs, c, t, fz, hc, hl⟩ := h
 refine ⟨hs, c, t, fz, by rw [hb]; exact hc, fun i x hx => ?_⟩
 obtain ⟨vs, h1, h2, h3⟩ := hl i x hx
 exact ⟨vs, h1, hR x vs (List.mem_of_getElem? hx) h2, h3⟩
theorem RepL.mono {α : Type} {w w' : World} {av av' : Av} {R R' : α → List Value → Prop} {z : Nat} {l : List α} {V : Value}
  (h : RepL w av R z l V) (hk : KpB w av w' av') (hR : ∀ x vs, x ∈ l → R x vs → R' x vs) : RepL w' av' R' z l V := by
 obtain ⟨A, C, hV, hC, hl⟩ := h
 refine ⟨A, C, hV, hC, fun hn => ?_⟩
 obtain ⟨ad, hA, hav, hrow⟩ := hl hn
 obtain ⟨_, c, t, fz, hc, _⟩ := id hrow
 obtain ⟨h1, h2⟩ := hk ad.block (lt_of_heap hc) hav
 exact ⟨ad, hA, h2, hrow.mono h1 hR⟩
theorem RepT.monoT {w w' : World} {av av' : Av} (hk : KpB w av w' av') : ∀ (s : Sh) (x : s.T) (vs : List Value), (∀ t ∈ shTags s, PbS av.pb av'.pb t) → RepT w av s x vs → RepT w' av' s x vs
 | .int _, _, _, _, h => h
 | .bool, _, _, _, h => h
 | .str, _, _, _, h => h
 | .isl s, x, vs, hp, h => by
  obtain ⟨V, hV, hl⟩ := h
  exact ⟨V, hV, hl.mono hk fun y us _ hy => RepT.monoT hk s y us hp hy⟩
 | .pair a b, x, vs, hp, h => by
  obtain ⟨u, v, e, h1, h2⟩ := h
  exact ⟨u, v, e, RepT.monoT hk a x.1 u (fun t ht => hp t (List.mem_append_left _ ht)) h1, RepT.monoT hk b x.2 v (fun t ht => hp t (List.mem_append_right _ ht)) h2⟩
 | .unit, _, _, _, h => h
 | .ref k t, x, vs, hp, h => by
  obtain ⟨V, hV, hl⟩ := h
  exact ⟨V, hV, hl.mono (hp t (List.mem_singleton.2 rfl))⟩
theorem RepT.mono {w w' : World} {av av' : Av} (hk : Kp w av w' av') (s : Sh) (x : s.T) (vs : List Value) (h : RepT w av s x vs) : RepT w' av' s x vs :=
 RepT.monoT hk.b s x vs (fun t _ => hk.p t) h
theorem RepRow.monoT {w w' : World} {av av' : Av} (hk : KpB w av w' av') {s : Sh} (hp : ∀ t ∈ shTags s, PbS av.pb av'.pb t) : ∀ (l : List s.T) (vs : List Value), RepRow w av s l vs → RepRow w' av' s l vs
 | [], _, h => h
 | x :: r, vs, h => by
  obtain ⟨u, v, e, h1, h2⟩ := h
  exact ⟨u, v, e, h1.monoT hk _ _ _ hp, RepRow.monoT hk hp r v h2⟩
theorem RepRow.mono {w w' : World} {av av' : Av} (hk : Kp w av w' av') {s : Sh} : ∀ (l : List s.T) (vs : List Value), RepRow w av s l vs → RepRow w' av' s l vs
 | [], _, h => h
 | x :: r, vs, h => by
  obtain ⟨u, v, e, h1, h2⟩ := h
  exact ⟨u, v, e, h1.mono hk, RepRow.mono hk r v h2⟩
theorem Ext.pb {e e' : En} (h : Ext e e') : ∀ t i b m, e.pb t i b m → e'.pb t i b m := fun _ _ _ _ ⟨r, hr, hp⟩ => ⟨r, Nat.lt_of_lt_of_le hr h.n, h.pq _ _ _ _ _ hr hp⟩
theorem Ext.kp {e e' : En} (h : Ext e e') : Kp e.w e.av e'.w e'.av := ⟨fun b hb hav => by
 refine ⟨h.kept b hb fun ho => hav (.inl ho), fun hav' => hav ?_⟩
 rcases hav' with ho | hf
 ·exact .inl (h.sub b hb ho)
 ·exact .inr (by rw [h.F] at hf; exact hf), h.pb⟩
theorem Ext.refl (e : En) : Ext e e := ⟨Nat.le_refl _, fun _ _ => rfl, fun _ _ _ _ => rfl, Nat.le_refl _, fun _ _ _ => rfl, fun _ _ h => h, rfl, fun _ _ _ h => h, fun _ c _ f h => ⟨c, f, h, rfl⟩, ⟨rfl, rfl⟩, fun _ c _ _ h => .inr ⟨c, h⟩, fun _ _ _ _ _ _ h => h, fun _ _ => Nat.le_refl _⟩
theorem Ext.trans {a b c : En} (h : Ext a b) (k : Ext b c) : Ext a c where
 n := Nat.le_trans h.n k.n
 β r hr := (k.β r (Nat.lt_of_lt_of_le hr h.n)).trans (h.β r hr)
 el r i hr hi := (k.el r i (Nat.lt_of_lt_of_le hr h.n) (Nat.lt_of_lt_of_le hi (h.pn r hr))).trans (h.el r i hr hi)
 pn r hr := Nat.le_trans (h.pn r hr) (k.pn r (Nat.lt_of_lt_of_le hr h.n))
 size := Nat.le_trans h.size k.size
 kept i hi ho := by
  rw [k.kept i (Nat.lt_of_lt_of_le hi h.size) fun hb => ho (h.sub i hi hb)]
  exact h.kept i hi ho
 sub i hi ho := h.sub i hi (k.sub i (Nat.lt_of_lt_of_le hi h.size) ho)
 F := k.F.trans h.F
 sz r m hr hv := h.sz r m hr (k.sz r m (Nat.lt_of_lt_of_le hr h.n) hv)
 grow i x t f hx := by
  obtain ⟨c', f', h1, h2⟩ := h.grow i x t f hx
  obtain ⟨c2, f2, h3, h4⟩ := k.grow i c' t f' h1
  exact ⟨c2, f2, h3, h4.trans h2⟩
 out := ⟨k.out.1.trans h.out.1, k.out.2.trans h.out.2⟩
 froz i x t f hx := by
  rcases k.froz i x t f hx with h1 | ⟨c', h1⟩
  ·exact .inl h1
  ·exact h.froz i c' t f h1
 pq r t i b m hr hb := k.pq r t i b m (Nat.lt_of_lt_of_le hr h.n) (h.pq r t i b m hr hb)
theorem Ext.βb {e e' : En} (h : Ext e e') {r : Nat} (hr : r < e.n) : (e'.β r).b = (e.β r).b := by have := congrArg Loc.b (h.β r hr); exact this
theorem Ext.βo {e e' : En} (h : Ext e e') {r : Nat} (hr : r < e.n) : (e'.β r).o = (e.β r).o := by have := congrArg Loc.o (h.β r hr); exact this
theorem Ext.βk {e e' : En} (h : Ext e e') {r : Nat} (hr : r < e.n) : (e'.β r).k = (e.β r).k := by have := congrArg Loc.k (h.β r hr); exact this
theorem Ext.addr {e e' : En} (h : Ext e e') {r o : Nat} (hr : r < e.n) : Gx.addr e' r o = Gx.addr e r o := by
 simp [Gx.addr, h.βb hr, h.βo hr]
structure Ext0 (e e' : En) : Prop where
 n : e.n ≤ e'.n
 β : ∀ r, r < e.n → (e'.β r).c = (e.β r).c
 el : ∀ r i, r < e.n → i < e.pn r → (e'.β r).e i = (e.β r).e i
 kp : Kp e.w e.av e'.w e'.av
 sz : ∀ r m, r < e.n → e'.sz r = some m → e.sz r = some m
 grow : ∀ (b : Nat) c t f, e.w.heap[b]? = some (.cells c t f) → ∃ c' f', e'.w.heap[b]? = some (.cells c' t f') ∧ c'.size = c.size
 pn : ∀ r, r < e.n → e.pn r ≤ e'.pn r
theorem Ext.zero {e e' : En} (h : Ext e e') : Ext0 e e' := ⟨h.n, h.β, h.el, h.kp, h.sz, h.grow, h.pn⟩
theorem Ext0.βb {e e' : En} (h : Ext0 e e') {r : Nat} (hr : r < e.n) : (e'.β r).b = (e.β r).b := by have := congrArg Loc.b (h.β r hr); exact this
theorem Ext0.βo {e e' : En} (h : Ext0 e e') {r : Nat} (hr : r < e.n) : (e'.β r).o = (e.β r).o := by have := congrArg Loc.o (h.β r hr); exact this
theorem Ext0.βk {e e' : En} (h : Ext0 e e') {r : Nat} (hr : r < e.n) : (e'.β r).k = (e.β r).k := by have := congrArg Loc.k (h.β r hr); exact this
theorem Ext0.addr {e e' : En} (h : Ext0 e e') {r o : Nat} (hr : r < e.n) : Gx.addr e' r o = Gx.addr e r o := by
 simp [Gx.addr, h.βb hr, h.βo hr]
theorem RepSc.mono0 {e e' : En} (h : Ext0 e e') : ∀ (x : Sc) (V : Value), RepSc e x V → RepSc e' x V
 | .int _ _, _, k => k
 | .bool _, _, k => k
 | .str _, _, k => k
 | .ptr r o, V, k => ⟨Nat.lt_of_lt_of_le k.1 h.n, by rw [h.addr k.1]; exact k.2⟩
 | .el r o i z, V, k => ⟨Nat.lt_of_lt_of_le k.1 h.n, by rw [h.addr k.1]; exact k.2⟩
 | .eptr s l i o, V, k => by
  obtain ⟨hi, ad, hav, hrow, hV⟩ := k
  obtain ⟨_, c, t, fz, hc, _⟩ := id hrow
  obtain ⟨h1, h2⟩ := h.kp.b ad.block (lt_of_heap hc) hav
  exact ⟨hi, ad, h2, hrow.mono h1 fun y us _ hy => hy.mono h.kp, hV⟩
 | .nilp, _, k => k
 | .sl r o z lo len cap, V, k => by
  obtain ⟨hr, hc, A, C, hV, hC, hl⟩ := k
  refine ⟨Nat.lt_of_lt_of_le hr h.n, hc, A, C, hV, hC, fun h0 => ?_⟩
  obtain ⟨hA, hv, c, t, fz, hx, hs⟩ := hl h0
  obtain ⟨c', f', h1, h2⟩ := h.grow _ c t fz hx
  exact ⟨by rw [h.addr hr]; exact hA, by rw [h.βk hr]; exact hv, c', t, f', by rw [h.βb hr]; exact h1, by rw [h.βo hr, h2]; exact hs⟩
 | .wl r z, V, k => by
  obtain ⟨hr, A, len, C, hV, hC, hm, hl⟩ := k
  refine ⟨Nat.lt_of_lt_of_le hr h.n, A, len, C, hV, hC, fun m hm' => hm m (h.sz r m hr hm'), fun h0 => ?_⟩
  obtain ⟨hA, hv, c, t, fz, hx, hs⟩ := hl h0
  obtain ⟨c', f', h1, h2⟩ := h.grow _ c t fz hx
  exact ⟨by rw [h.addr hr]; exact hA, by rw [h.βk hr]; exact hv, c', t, f', by rw [h.βb hr]; exact h1, by rw [h.βo hr, h2]; exact hs⟩
 | .isl s l, V, k => RepL.mono k h.kp.b fun y us _ hy => hy.mono h.kp
 | .emp, _, k => k
 | .nils, _, k => k
 | .map r, V, k => ⟨Nat.lt_of_lt_of_le k.1 h.n, by rw [h.βb k.1]; exact k.2⟩
 | .nilm, _, k => k
 | .fn f caps, V, k => ⟨fun r hr => Nat.lt_of_lt_of_le (k.1 r hr) h.n, by
   rw [show (caps.map fun r => Value.pointer (some (Gx.addr e' r 0))) = caps.map fun r => Value.pointer (some (Gx.addr e r 0)) from
    List.map_congr_left fun r hr => by rw [h.addr (k.1 r hr)]]
   exact k.2⟩
 | .nilf, _, k => k
 | .undef, _, k => k
 | .rf _ t _, V, k => k.mono (h.kp.p t)
 | .pi t _ _ _ _, V, k => by
  obtain ⟨h0, b, m, h1, h2⟩ := k
  exact ⟨h0, b, m, h.kp.p t _ _ _ h1, h2⟩
 | .ps t _ _ _ _, V, k => by
  obtain ⟨A, C, h1, h2, h3⟩ := k
  refine ⟨A, C, h1, h2, fun h0 => ?_⟩
  obtain ⟨h4, b, m, h5, h6⟩ := h3 h0
  exact ⟨h4, b, m, h.kp.p t _ _ _ h5, h6⟩
theorem RepSegs.mono0 {e e' : En} (h : Ext0 e e') : ∀ (l : List Seg) (vs : List Value), RepSegs e l vs → RepSegs e' l vs
 | [], _, k => k
 | .c x :: r, vs, k => by
  obtain ⟨V, v, e1, h0, h1, h2⟩ := k
  exact ⟨V, v, e1, h0, h1.mono0 h, RepSegs.mono0 h r v h2⟩
 | .row s n l :: r, vs, k => by
  obtain ⟨hn, u, v, e1, h1, h2⟩ := k
  exact ⟨hn, u, v, e1, h1.mono h.kp, RepSegs.mono0 h r v h2⟩
theorem RepSV.mono0 {e e' : En} (h : Ext0 e e') : ∀ (x : SV) (V : Value), RepSV e x V → RepSV e' x V
 | .v x, V, k => RepSc.mono0 h x V k
 | .agg l, V, k => by
  obtain ⟨vs, hV, hl⟩ := k
  exact ⟨vs, hV, hl.mono0 h⟩
theorem RepSVs.mono0 {e e' : En} (h : Ext0 e e') : ∀ (l : List SV) (vs : List Value), RepSVs e l vs → RepSVs e' l vs
 | [], _, k => k
 | x :: r, vs, k => by
  obtain ⟨V, v, e1, h1, h2⟩ := k
  exact ⟨V, v, e1, RepSV.mono0 h x V h1, RepSVs.mono0 h r v h2⟩
theorem RepSlot.mono0 {e e' : En} (h : Ext0 e e') : ∀ (x : Slot) (V : Value), RepSlot e x V → RepSlot e' x V
 | .sv x, V, k => RepSV.mono0 h x V k
 | .tup l, V, k => by
  obtain ⟨vs, hV, hl⟩ := k
  exact ⟨vs, hV, hl.mono0 h⟩
 | .undef, _, k => k
theorem RepEntries.mono0 {e e' : En} (h : Ext0 e e') {ks vs : Sh} {ka va : Bool} : ∀ (l : List (ks.T × vs.T)) (es : List MapEntry), RepEntries e ks vs ka va l es → RepEntries e' ks vs ka va l es
 | [], _, k => k
 | p :: l, es, k => by
  obtain ⟨x, r, e1, ⟨us, h1, h2⟩, ⟨ws, h3, h4⟩, h5⟩ := k
  exact ⟨x, r, e1, ⟨us, h1.mono h.kp, h2⟩, ⟨ws, h3.mono h.kp, h4⟩, RepEntries.mono0 h l r h5⟩
theorem PoolC.mono {w w' : World} {av av' : Av} (hk : Kp w av w' av') {k : Bool} {s : Sh} {x : s.T} {cl : List Value} (h : PoolC w av k s x cl) : PoolC w' av' k s x cl := by
 unfold PoolC at h ⊢
 split at h
 ·obtain ⟨vs, post, h2, h3⟩ := h
  exact ⟨vs, post, h2, h3.mono hk⟩
 ·obtain ⟨vs, post, h2, h3⟩ := h
  exact ⟨vs, post, h2, h3.mono hk⟩
 ·exact h.elim
theorem PoolEl.mono {w w' : World} {av av' : Av} (hk : Kp w av w' av') {k : Bool} {s : Sh} {x : s.T} {b : Nat} (h : PoolEl w av k s x b) (hb : w'.heap[b]? = w.heap[b]?) : PoolEl w' av' k s x b := by
 obtain ⟨c, t, h1, h2⟩ := h
 exact ⟨c, t, by rw [hb]; exact h1, h2.mono hk⟩
theorem RepObj.mono0 {e e' : En} (h : Ext0 e e') {r : Nat} (hr : r < e.n) {o : Obj} (hpn : pnO o ≤ e.pn r) (k : RepObj e r o)
  (hb : ∀ b, has (e.β r) o b → e'.w.heap[b]? = e.w.heap[b]?) : RepObj e' r o := by
 cases o with
 | cells l =>
  obtain ⟨vs, h3, k0, k⟩ := k
  refine ⟨vs, h3.mono0 h, fun h0 => k0 (by rw [h.βk hr] at h0; exact h0), fun h0 => ?_⟩
  rw [h.βk hr] at h0
  obtain ⟨c, t, pre, post, hc, h1, h2⟩ := k h0
  refine ⟨c, t, pre, post, ?_, h1, ?_⟩
  ·rw [h.βb hr, hb _ ⟨h0, rfl⟩]; exact hc
  ·rw [h.βo hr]; exact h2
 | map ks vs ka va l =>
  obtain ⟨es, clock, hc, h1, h2, h3⟩ := k
  exact ⟨es, clock, by rw [h.βb hr, hb _ rfl]; exact hc, h1.mono0 h, h2, h3⟩
 | ice s l =>
  intro hl
  obtain ⟨h1, h2⟩ := k hl
  obtain ⟨_, c, t, fz, hc, _⟩ := id h2
  have hc : e.w.heap[(e.β r).b]? = some (.cells c t fz) := hc
  obtain ⟨h3, h4⟩ := h.kp.b _ (lt_of_heap hc) h1
  rw [h.βb hr, h.addr hr]
  exact ⟨h4, h2.mono h3 fun y us _ hy => hy.mono h.kp⟩
 | dead => trivial
 | pool pk t s l =>
  have he : ∀ i, i < l.length → (e'.β r).e i = (e.β r).e i := fun i hi => h.el r i hr (Nat.lt_of_lt_of_le hi hpn)
  refine ⟨fun i x hi => ?_, fun i j hi hj => by rw [he i hi, he j hj]; exact k.2 i j hi hj⟩
  have hi' := (List.getElem?_eq_some_iff.1 hi).1
  rw [he i hi']
  exact (k.1 i x hi).mono h.kp (hb _ ⟨i, hi', rfl⟩)
theorem RepSc.mono {e e' : En} (h : Ext e e') (x : Sc) (V : Value) (k : RepSc e x V) : RepSc e' x V := RepSc.mono0 h.zero x V k
theorem RepSegs.mono {e e' : En} (h : Ext e e') (l : List Seg) (vs : List Value) (k : RepSegs e l vs) : RepSegs e' l vs := RepSegs.mono0 h.zero l vs k
theorem RepSV.mono {e e' : En} (h : Ext e e') (x : SV) (V : Value) (k : RepSV e x V) : RepSV e' x V := RepSV.mono0 h.zero x V k
theorem RepSVs.mono {e e' : En} (h : Ext e e') (l : List SV) (vs : List Value) (k : RepSVs e l vs) : RepSVs e' l vs := RepSVs.mono0 h.zero l vs k
theorem RepSlot.mono {e e' : En} (h : Ext e e') (x : Slot) (V : Value) (k : RepSlot e x V) : RepSlot e' x V := RepSlot.mono0 h.zero x V k
theorem RepEntries.mono {e e' : En} (h : Ext e e') {ks vs : Sh} {ka va : Bool} (l : List (ks.T × vs.T)) (es : List MapEntry) (k : RepEntries e ks vs ka va l es) : RepEntries e' ks vs ka va l es := RepEntries.mono0 h.zero l es k
theorem RepObj.mono {e e' : En} (h : Ext e e') {r : Nat} (hr : r < e.n) {o : Obj} (hpn : pnO o ≤ e.pn r) (k : RepObj e r o)
  (hb : ∀ b, has (e.β r) o b → e'.w.heap[b]? = e.w.heap[b]?) : RepObj e' r o := RepObj.mono0 h.zero hr hpn k hb
end Go.Gx

namespace Go.Gx
theorem RepT.size {w : World} {av : Av} : ∀ (s : Sh) (x : s.T) (vs : List Value), RepT w av s x vs → vs.length = s.size
 | .int _, _, _, h => by rw [h]; rfl
 | .bool, _, _, h => by rw [h]; rfl
 | .str, _, _, h => by rw [h]; rfl
 | .isl _, _, _, h => by obtain ⟨V, rfl, _⟩ := h; rfl
 | .pair a b, x, vs, h => by
  obtain ⟨u, v, rfl, h1, h2⟩ := h
  simp [Sh.size, RepT.size a _ _ h1, RepT.size b _ _ h2]
 | .unit, _, _, h => by rw [h]; rfl
 | .ref _ _, _, _, h => by obtain ⟨V, rfl, _⟩ := h; rfl
theorem RepRow.len {w : World} {av : Av} {s : Sh} : ∀ (l : List s.T) (vs : List Value), RepRow w av s l vs → vs.length = l.length * s.size
 | [], vs, h => by rw [show vs = [] from h]; simp
 | x :: r, vs, h => by
  obtain ⟨u, v, rfl, h1, h2⟩ := h
  rw [List.length_append, h1.size, RepRow.len r v h2, List.length_cons, Nat.succ_mul, Nat.add_comm]
theorem RepSegs.len {e : En} : ∀ (l : List Seg) (vs : List Value), RepSegs e l vs → vs.length = segsSize l
 | [], vs, h => by rw [show vs = [] from h]; rfl
 | .c x :: r, vs, h => by
  obtain ⟨V, v, rfl, _, _, h2⟩ := h
  simp [segsSize, segSize, RepSegs.len r v h2, Nat.add_comm]
 | .row s n l :: r, vs, h => by
  obtain ⟨hn, u, v, rfl, h1, h2⟩ := h
  simp [segsSize, segSize, RepSegs.len r v h2, h1.len, hn]
/-! ### cells -/
def RepScs (e : En) : List Sc → List Value → Prop
 | [], vs => vs = []
 | x :: r, vs => ∃ V v, vs = V :: v ∧ V.oneCell' = true ∧ RepSc e x V ∧ RepScs e r v
theorem RepScs.append {e : En} : ∀ {a b : List Sc} {u v : List Value}, RepScs e a u → RepScs e b v → RepScs e (a ++ b) (u ++ v)
 | [], b, u, v, h, k => by rw [show u = [] from h]; exact k
 | x :: r, b, u, v, h, k => by
  obtain ⟨V, u', rfl, h0, h1, h2⟩ := h
  exact ⟨V, u' ++ v, rfl, h0, h1, RepScs.append h2 k⟩
theorem RepScs.split {e : En} : ∀ {a b : List Sc} {vs : List Value}, RepScs e (a ++ b) vs → ∃ u v, vs = u ++ v ∧ RepScs e a u ∧ RepScs e b v
 | [], b, vs, h => ⟨[], vs, rfl, rfl, h⟩
 | x :: r, b, vs, h => by
  obtain ⟨V, v', rfl, h0, h1, h2⟩ := h
  obtain ⟨u, v, rfl, h3, h4⟩ := RepScs.split h2
  exact ⟨V :: u, v, rfl, ⟨V, u, rfl, h0, h1, h3⟩, h4⟩
theorem RepScs.len {e : En} : ∀ {a : List Sc} {vs : List Value}, RepScs e a vs → vs.length = a.length
 | [], vs, h => by rw [show vs = [] from h]; rfl
 | x :: r, vs, h => by
  obtain ⟨V, v', rfl, _, _, h2⟩ := h
  simp [RepScs.len h2]
theorem RepScs.mono {e e' : En} (h : Ext e e') : ∀ {a : List Sc} {vs : List Value}, RepScs e a vs → RepScs e' a vs
 | [], _, k => k
 | x :: r, vs, k => by
  obtain ⟨V, v', e1, h0, h1, h2⟩ := k
  exact ⟨V, v', e1, h0, h1.mono h, RepScs.mono h h2⟩
theorem RepScs.drop {e : En} : ∀ {a : List Sc} {vs : List Value} (n : Nat), RepScs e a vs → RepScs e (a.drop n) (vs.drop n)
 | _, _, 0, h => h
 | [], vs, n + 1, h => by rw [show vs = [] from h]; exact rfl
 | x :: r, vs, n + 1, h => by
  obtain ⟨V, v', rfl, _, _, h2⟩ := h
  exact RepScs.drop n h2
theorem RepScs.take {e : En} : ∀ {a : List Sc} {vs : List Value} (n : Nat), RepScs e a vs → RepScs e (a.take n) (vs.take n)
 | a, vs, 0, h => by simp only [List.take_zero]; exact rfl
 | [], vs, n + 1, h => by rw [show vs = [] from h]; exact rfl
 | x :: r, vs, n + 1, h => by
  obtain ⟨V, v', rfl, h0, h1, h2⟩ := h
  exact ⟨V, v'.take n, rfl, h0, h1, RepScs.take n h2⟩
theorem RepScs.one {e : En} : ∀ {a : List Sc} {vs : List Value}, RepScs e a vs → ∀ v ∈ vs, v.oneCell' = true
 | [], vs, h, v, hv => by rw [show vs = [] from h] at hv; cases hv
 | x :: r, vs, h, v, hv => by
  obtain ⟨V, v', rfl, h0, h1, h2⟩ := h
  rcases List.mem_cons.1 hv with rfl | hv
  ·exact h0
  ·exact RepScs.one h2 v hv
theorem RepScs.segs {e : En} : ∀ {a : List Sc} {vs : List Value}, RepScs e a vs → RepSegs e (a.map .c) vs
 | [], _, h => h
 | x :: r, vs, h => by
  obtain ⟨V, v', rfl, h0, h1, h2⟩ := h
  exact ⟨V, v', rfl, h0, h1, RepScs.segs h2⟩
theorem RefV.one {pb : PbT} {k : Bool} {t : Nat} {x : Int} {V : Value} (h : RefV pb k t x V) : V.oneCell' = true := by
 cases k with
 | false => rcases h with ⟨_, rfl⟩ | ⟨_, _, _, rfl⟩ <;> rfl
 | true => rcases h with ⟨_, rfl⟩ | ⟨_, _, _, _, _, _, rfl, _⟩ <;> rfl
theorem RepT.enc {e : En} : ∀ (s : Sh) (x : s.T) (vs : List Value), RepT e.w e.av s x vs → RepScs e (Gx.enc s x) vs
 | .int k, x, vs, h => ⟨_, [], h, rfl, rfl, rfl⟩
 | .bool, x, vs, h => ⟨_, [], h, rfl, rfl, rfl⟩
 | .str, x, vs, h => ⟨_, [], h, rfl, rfl, rfl⟩
 | .isl s, x, vs, h => by
  obtain ⟨V, rfl, hl⟩ := h
  refine ⟨V, [], rfl, ?_, hl, rfl⟩
  obtain ⟨A, C, rfl, _⟩ := hl
  rfl
 | .pair a b, x, vs, h => by
  obtain ⟨u, v, rfl, h1, h2⟩ := h
  exact RepScs.append (RepT.enc a x.1 u h1) (RepT.enc b x.2 v h2)
 | .unit, _, _, h => h
 | .ref _ _, _, _, h => by
  obtain ⟨V, rfl, hl⟩ := h
  exact ⟨V, [], rfl, hl.one, hl, rfl⟩
theorem rowCells_rep {e : En} {s : Sh} {l : List s.T} : ∀ {k i : Nat} {u : List Value}, i + k = l.length → RepRow e.w e.av s (l.drop i) u → RepScs e (rowCells s l i k) u
 | 0, i, u, h, hr => by
  rw [List.drop_eq_nil_of_le (by omega)] at hr
  exact hr
 | k + 1, i, u, h, hr => by
  have hi : i < l.length := by omega
  rw [List.drop_eq_getElem_cons hi] at hr
  obtain ⟨p, q, rfl, h1, h2⟩ := hr
  have : l.getD i s.zero = l[i] := by simp [List.getD, hi]
  simp only [rowCells, this]
  exact (RepT.enc s _ _ h1).append (rowCells_rep (by omega) h2)
theorem segCells_rep {e : En} : ∀ {l : List Seg} {cs : List Sc} {vs : List Value}, segCells l = some cs → RepSegs e l vs → RepScs e cs vs
 | [], cs, vs, h, k => by cases h; exact k
 | .c x :: r, cs, vs, h, k => by
  obtain ⟨V, v', rfl, h0, h1, h2⟩ := k
  simp only [segCells] at h
  split at h
  ·rename_i l hl
   cases h
   exact ⟨V, v', rfl, h0, h1, segCells_rep hl h2⟩
  ·cases h
 | .row s n l :: r, cs, vs, h, k => by
  obtain ⟨hn, u, v, rfl, h1, h2⟩ := k
  simp only [segCells] at h
  split at h
  ·rename_i cs' hcs
   cases h
   have := rowCells_rep (l := l) (i := 0) (k := n) (by omega) (by simpa using h1)
   exact this.append (segCells_rep hcs h2)
  ·cases h
theorem castL_rfl {a : Sh} (h : a = a) (l : List a.T) : castL h l = l := rfl
theorem dec_rep {e : En} : ∀ (s : Sh) (cs : List Sc) (x : s.T) (r : List Sc) (vs : List Value), dec s cs = some (x, r) → RepScs e cs vs →
  ∃ u v, vs = u ++ v ∧ RepT e.w e.av s x u ∧ RepScs e r v := by
 intro s
 induction s with
 | int k =>
  intro cs x r vs h hr
  simp only [dec] at h
  split at h <;> try cases h
  rename_i k' n r' 
  split at h
  ·rename_i hk
   cases h
   obtain ⟨V, v, rfl, _, h1, h2⟩ := hr
   exact ⟨[V], v, rfl, by rw [show V = _ from h1, hk]; rfl, h2⟩
  ·cases h
 | bool =>
  intro cs x r vs h hr
  simp only [dec] at h
  split at h <;> try cases h
  obtain ⟨V, v, rfl, _, h1, h2⟩ := hr
  exact ⟨[V], v, rfl, by rw [show V = _ from h1]; rfl, h2⟩
 | str =>
  intro cs x r vs h hr
  simp only [dec] at h
  split at h <;> try cases h
  obtain ⟨V, v, rfl, _, h1, h2⟩ := hr
  exact ⟨[V], v, rfl, by rw [show V = _ from h1]; rfl, h2⟩
 | isl s ih =>
  intro cs x r vs h hr
  simp only [dec] at h
  split at h <;> try cases h
  ·rename_i s' l r'
   split at h
   ·rename_i hs
    subst hs
    cases h
    obtain ⟨V, v, rfl, _, h1, h2⟩ := hr
    exact ⟨[V], v, rfl, ⟨V, rfl, h1⟩, h2⟩
   ·cases h
  ·obtain ⟨V, v, rfl, _, h1, h2⟩ := hr
   exact ⟨[V], v, rfl, ⟨V, rfl, none, 0, h1, Nat.le_refl _, fun h => absurd rfl h⟩, h2⟩
  ·obtain ⟨V, v, rfl, _, ⟨A, h1⟩, h2⟩ := hr
   exact ⟨[V], v, rfl, ⟨V, rfl, A, 0, h1, Nat.le_refl _, fun h => absurd rfl h⟩, h2⟩
 | pair a b iha ihb =>
  intro cs x r vs h hr
  simp only [dec] at h
  split at h
  ·rename_i y r1 h1
   split at h
   ·rename_i z r2 h2
    cases h
    obtain ⟨u, v, rfl, h3, h4⟩ := iha cs y r1 vs h1 hr
    obtain ⟨u', v', rfl, h5, h6⟩ := ihb r1 _ _ v h2 h4
    exact ⟨u ++ u', v', by simp, ⟨u, u', rfl, h3, h5⟩, h6⟩
   ·cases h
  ·cases h
 | unit =>
  intro cs x r vs h hr
  simp only [dec] at h
  cases h
  exact ⟨[], vs, rfl, rfl, hr⟩
 | ref k t =>
  intro cs x r vs h hr
  simp only [dec] at h
  split at h <;> try cases h
  ·split at h
   ·rename_i hk
    obtain ⟨rfl, rfl⟩ := hk
    cases h
    obtain ⟨V, v, rfl, _, h1, h2⟩ := hr
    exact ⟨[V], v, rfl, ⟨V, rfl, h1⟩, h2⟩
   ·cases h
  ·split at h <;> cases h
   obtain ⟨V, v, rfl, _, h1, h2⟩ := hr
   exact ⟨[V], v, rfl, ⟨V, rfl, .inl ⟨by decide, h1⟩⟩, h2⟩
  ·split at h <;> cases h
   obtain ⟨V, v, rfl, _, h1, h2⟩ := hr
   exact ⟨[V], v, rfl, ⟨V, rfl, .inl ⟨by decide, h1⟩⟩, h2⟩
theorem dec1_rep {e : En} {s : Sh} {cs : List Sc} {x : s.T} {vs : List Value} (h : dec1 s cs = some x) (hr : RepScs e cs vs) : RepT e.w e.av s x vs := by
 unfold dec1 at h
 split at h
 ·rename_i y hd
  cases h
  obtain ⟨u, v, rfl, h1, h2⟩ := dec_rep s cs _ _ vs hd hr
  rw [show v = [] from h2, List.append_nil]
  exact h1
 ·cases h
theorem decN_rep {e : En} {s : Sh} : ∀ {n : Nat} {cs r : List Sc} {l : List s.T} {vs : List Value}, decN s n cs = some (l, r) → RepScs e cs vs → ∃ u v, vs = u ++ v ∧ RepRow e.w e.av s l u ∧ RepScs e r v ∧ l.length = n
 | 0, cs, r, l, vs, h, k => by
  cases h
  exact ⟨[], vs, rfl, rfl, k, rfl⟩
 | n + 1, cs, r, l, vs, h, k => by
  simp only [decN] at h
  split at h
  ·rename_i y r1 h1
   split at h
   ·rename_i l' r' h2
    cases h
    obtain ⟨u, v, rfl, h3, h4⟩ := dec_rep s cs y r1 vs h1 k
    obtain ⟨u2, v2, rfl, h5, h6, h7⟩ := decN_rep h2 h4
    exact ⟨u ++ u2, v2, by simp, ⟨u, u2, rfl, h3, h5⟩, h6, by simp [h7]⟩
   ·cases h
  ·cases h
theorem headCells_rep {e : En} : ∀ {k : Nat} {l r : List Seg} {cs : List Sc} {vs : List Value}, headCells k l = some (cs, r) → RepSegs e l vs → ∃ u v, vs = u ++ v ∧ RepScs e cs u ∧ RepSegs e r v
 | 0, l, r, cs, vs, h, k => by cases h; exact ⟨[], vs, rfl, rfl, k⟩
 | k + 1, [], _, _, _, h, _ => by cases h
 | k + 1, .row _ _ _ :: _, _, _, _, h, _ => by cases h
 | k + 1, .c y :: l, r, cs, vs, h, hk => by
  obtain ⟨V, v, rfl, h0, h1, h2⟩ := hk
  simp only [headCells] at h
  split at h
  ·rename_i cs' t' h3
   cases h
   obtain ⟨u, v2, rfl, h4, h5⟩ := headCells_rep h3 h2
   exact ⟨V :: u, v2, rfl, ⟨V, u, rfl, h0, h1, h4⟩, h5⟩
  ·cases h
theorem regroup_rep {e : En} : ∀ {ly l l' : List Seg} {vs : List Value}, regroup ly l = some l' → RepSegs e l vs → RepSegs e l' vs
 | [], l, l', vs, h, k => by
  simp only [regroup] at h
  split at h
  ·cases h; exact k
  ·cases h
 | .c _ :: ly, l, l', vs, h, k => by
  simp only [regroup] at h
  split at h
  ·split at h
   ·rename_i r' h1
    cases h
    obtain ⟨V, v, rfl, h0, h2, h3⟩ := k
    exact ⟨V, v, rfl, h0, h2, regroup_rep h1 h3⟩
   ·cases h
  ·cases h
 | .row s n _ :: ly, l, l', vs, h, k => by
  unfold regroup at h
  split at h
  ·split at h
   ·rename_i r' h1
    cases h
    obtain ⟨hn, u, v, rfl, h2, h3⟩ := k
    exact ⟨hn, u, v, rfl, h2, regroup_rep h1 h3⟩
   ·cases h
  ·split at h
   ·rename_i cs r h1
    split at h
    ·rename_i l2 h2
     split at h
     ·rename_i r' h3
      cases h
      obtain ⟨u, v, rfl, h4, h5⟩ := headCells_rep h1 k
      obtain ⟨u2, v2, rfl, h6, h7, h8⟩ := decN_rep h2 h4
      obtain rfl : v2 = [] := h7
      exact ⟨h8, u2, v, by simp, h6, regroup_rep h3 h5⟩
     ·cases h
    ·cases h
   ·cases h
theorem regrp_rep {e : En} {P : Program} {t : TypeId} {v : SV} {V : Value} (h : RepSV e v V) : RepSV e (regrp P t v) V := by
 unfold regrp
 split
 ·rename_i l
  split
  ·rename_i ly _
   cases ly.any isRow with
   | false => exact h
   | true =>
    simp only [cond_true]
    split
    ·rename_i l' h1
     obtain ⟨vs, hV, hl⟩ := h
     exact ⟨vs, hV, regroup_rep h1 hl⟩
    ·exact h
  ·exact h
 ·exact h
/-! ### rows -/
section
variable {w : World} {av : Av} {s : Sh}
theorem RepRow.append : ∀ {a b : List s.T} {u v : List Value}, RepRow w av s a u → RepRow w av s b v → RepRow w av s (a ++ b) (u ++ v)
 | [], b, u, v, h, k => by rw [show u = [] from h]; exact k
 | x :: r, b, u, v, h, k => by
  obtain ⟨u1, u2, rfl, h1, h2⟩ := h
  exact ⟨u1, u2 ++ v, by simp, h1, RepRow.append h2 k⟩
theorem RepRow.split : ∀ {a b : List s.T} {vs : List Value}, RepRow w av s (a ++ b) vs → ∃ u v, vs = u ++ v ∧ RepRow w av s a u ∧ RepRow w av s b v
 | [], b, vs, h => ⟨[], vs, rfl, rfl, h⟩
 | x :: r, b, vs, h => by
  obtain ⟨u1, u2, rfl, h1, h2⟩ := h
  obtain ⟨u, v, rfl, h3, h4⟩ := RepRow.split h2
  exact ⟨u1 ++ u, v, by simp, ⟨u1, u, rfl, h1, h3⟩, h4⟩
theorem RepRow.take {l : List s.T} {vs : List Value} (k : Nat) (h : RepRow w av s l vs) : RepRow w av s (l.take k) (vs.take (k * s.size)) := by
 rw [← List.take_append_drop k l] at h
 obtain ⟨u, v, rfl, h1, h2⟩ := h.split
 by_cases hk : k ≤ l.length
 ·have : u.length = k * s.size := by rw [h1.len, List.length_take, Nat.min_eq_left hk]
  rw [← this, List.take_left]
  exact h1
 ·rw [List.drop_eq_nil_of_le (by omega)] at h2
  have e1 : u.length ≤ k * s.size := by rw [h1.len]; exact Nat.mul_le_mul_right _ (by simp; omega)
  rw [show v = [] from h2, List.append_nil, List.take_of_length_le e1]
  exact h1
theorem RepRow.drop {l : List s.T} {vs : List Value} (k : Nat) (h : RepRow w av s l vs) : RepRow w av s (l.drop k) (vs.drop (k * s.size)) := by
 rw [← List.take_append_drop k l] at h
 obtain ⟨u, v, rfl, h1, h2⟩ := h.split
 by_cases hk : k ≤ l.length
 ·have : u.length = k * s.size := by rw [h1.len, List.length_take, Nat.min_eq_left hk]
  rw [← this, List.drop_left]
  exact h2
 ·rw [List.drop_eq_nil_of_le (by omega : l.length ≤ k)] at h2 ⊢
  have e1 : u.length ≤ k * s.size := by rw [h1.len]; exact Nat.mul_le_mul_right _ (by simp; omega)
  rw [show v = [] from h2, List.append_nil, List.drop_eq_nil_of_le e1]
  exact rfl
theorem RepRow.sub {l : List s.T} {vs : List Value} (lo n : Nat) (h : RepRow w av s l vs) : RepRow w av s (Gx.sub l lo n) ((vs.drop (lo * s.size)).take (n * s.size)) :=
 (h.drop lo).take n
theorem RepRow.at {l : List s.T} {vs : List Value} {i : Nat} (h : RepRow w av s l vs) (hi : i < l.length) :
  ∃ u v t, vs = u ++ (v ++ t) ∧ u.length = i * s.size ∧ RepT w av s l[i] v ∧ RepRow w av s (l.take i) u ∧ RepRow w av s (l.drop (i + 1)) t := by
 have e : l = l.take i ++ (l[i] :: l.drop (i + 1)) := by simp
 rw [e] at h
 obtain ⟨u, r, rfl, h1, v, t, rfl, h2, h3⟩ := h.split
 exact ⟨u, v, t, rfl, by rw [h1.len, List.length_take, Nat.min_eq_left (by omega)], h2, h1, h3⟩
theorem RepRow.set {l : List s.T} {u t v : List Value} {i : Nat} {y : s.T} (hi : i < l.length) (h1 : RepRow w av s (l.take i) u) (h2 : RepRow w av s (l.drop (i + 1)) t)
  (hy : RepT w av s y v) : RepRow w av s (l.set i y) (u ++ (v ++ t)) := by
 rw [List.set_eq_take_append_cons_drop, if_pos hi]
 exact h1.append ⟨v, t, rfl, hy, h2⟩
theorem RepRow.cons {x : s.T} {l : List s.T} {u v : List Value} (h : RepT w av s x u) (k : RepRow w av s l v) : RepRow w av s (x :: l) (u ++ v) := ⟨u, v, rfl, h, k⟩
theorem RepRow.replicate {x : s.T} {u : List Value} (h : RepT w av s x u) : ∀ n, ∃ vs, RepRow w av s (List.replicate n x) vs ∧ vs = (List.replicate n u).flatten
 | 0 => ⟨[], rfl, rfl⟩
 | n + 1 => by
  obtain ⟨vs, h1, h2⟩ := RepRow.replicate h n
  exact ⟨u ++ vs, ⟨u, vs, rfl, h, h1⟩, by rw [h2, List.replicate_succ, List.flatten_cons]⟩
end
theorem RepRow.rowAt {w : World} {av : Av} {s : Sh} {l : List s.T} {vs : List Value} (h : RepRow w av s l vs) {ad : Addr} {c : Array Value} {t : TypeId} {fz : Nat × Nat}
  (hs : ad.spot = none) (hc : w.heap[ad.block]? = some (.cells c t fz)) (hv : ∀ j v, vs[j]? = some v → c[ad.off + j]? = some v) : RowAt w (RepT w av s) s.size ad l := by
 refine ⟨hs, c, t, fz, hc, fun i x hx => ?_⟩
 obtain ⟨hi, rfl⟩ := List.getElem?_eq_some_iff.1 hx
 obtain ⟨u, v, r, rfl, hu, h1, _, _⟩ := h.at hi
 refine ⟨v, h1.size, h1, fun j y hy => ?_⟩
 have hj := (List.getElem?_eq_some_iff.1 hy).1
 have := hv (i * s.size + j) y (by
  rw [List.getElem?_append_right (by omega), hu, show i * s.size + j - i * s.size = j by omega, List.getElem?_append_left hj]
  exact hy)
 rwa [← Nat.add_assoc] at this
theorem RowAt.repRow {w : World} {av : Av} {s : Sh} {ad : Addr} : ∀ {l : List s.T}, RowAt w (RepT w av s) s.size ad l → ∀ c t fz, w.heap[ad.block]? = some (.cells c t fz) →
  ∃ vs, RepRow w av s l vs ∧ ∀ j v, vs[j]? = some v → c[ad.off + j]? = some v := by
 intro l
 induction l generalizing ad with
 | nil => exact fun _ _ _ _ _ => ⟨[], rfl, fun j v h => by simp at h⟩
 | cons x l ih =>
  intro h c t fz hc
  obtain ⟨hs, c', t', fz', hc', hl⟩ := h
  rw [hc] at hc'
  cases hc'
  obtain ⟨u, hu, h1, h2⟩ := hl 0 x rfl
  have hrest : RowAt w (RepT w av s) s.size ⟨ad.block, ad.off + s.size, none⟩ l := by
   refine ⟨rfl, c, t, fz, hc, fun i y hy => ?_⟩
   obtain ⟨v, hv, h3, h4⟩ := hl (i + 1) y (by simpa using hy)
   refine ⟨v, hv, h3, fun j z hz => ?_⟩
   have := h4 j z hz
   rw [Nat.succ_mul] at this
   rw [show ad.off + s.size + i * s.size + j = ad.off + (i * s.size + s.size) + j by omega]
   exact this
  obtain ⟨v, h3, h4⟩ := ih hrest c t fz hc
  refine ⟨u ++ v, ⟨u, v, rfl, h1, h3⟩, fun j y hy => ?_⟩
  by_cases hj : j < u.length
  ·rw [List.getElem?_append_left hj] at hy
   have := h2 j y hy
   simpa using this
  ·rw [List.getElem?_append_right (by omega)] at hy
   have := h4 _ y hy
   rw [show ad.off + s.size + (j - u.length) = ad.off + j by omega] at this
   exact this
/-! ### parts -/
section
variable {e : En}
theorem seek_rep : ∀ (l : List Seg) (o : Nat) (l' : List Seg) (f : Nat) (vs : List Value), seek l o = some (l', f) → RepSegs e l vs →
  ∃ u v, vs = u ++ v ∧ u.length + f = o ∧ RepSegs e l' v
 | [], _, _, _, _, h, _ => by cases h
 | .c x :: r, 0, l', f, vs, h, k => by
  simp only [seek] at h
  cases h
  exact ⟨[], vs, rfl, rfl, k⟩
 | .c x :: r, o + 1, l', f, vs, h, k => by
  simp only [seek] at h
  obtain ⟨V, v, rfl, _, _, h2⟩ := k
  obtain ⟨u, v', rfl, h3, h4⟩ := seek_rep r o l' f v h h2
  exact ⟨V :: u, v', rfl, by simp; omega, h4⟩
 | .row s n x :: r, o, l', f, vs, h, k => by
  simp only [seek] at h
  cases hb : Nat.blt o s.size with
  | true => rw [hb] at h; cases h; exact ⟨[], vs, rfl, by simp, k⟩
  | false =>
   rw [hb] at h
   cases hc : Nat.blt o (n * s.size) with
   | true => rw [hc] at h; cases h; exact ⟨[], vs, rfl, by simp, k⟩
   | false =>
    rw [hc] at h
    simp only [cond_false] at h
    obtain ⟨hn, u, v, rfl, h1, h2⟩ := k
    obtain ⟨u', v', rfl, h3, h4⟩ := seek_rep r _ l' f v h h2
    refine ⟨u ++ u', v', by simp, ?_, h4⟩
    have hlen := h1.len
    rw [hn] at hlen
    have : ¬ o < n * s.size := fun h => by rw [show Nat.blt o _ = true from (Nat.blt_eq).mpr h] at hc; cases hc
    simp only [List.length_append]
    omega
theorem takeSegs_rep : ∀ (l : List Seg) (n : Nat) (a b : List Seg) (vs : List Value), takeSegs l n = some (a, b) → RepSegs e l vs →
  ∃ u v, vs = u ++ v ∧ u.length = n ∧ RepSegs e a u ∧ RepSegs e b v
 | l, 0, a, b, vs, h, k => by
  simp only [takeSegs] at h
  cases h
  exact ⟨[], vs, rfl, rfl, rfl, k⟩
 | [], n + 1, _, _, _, h, _ => by cases h
 | .c x :: r, n + 1, a, b, vs, h, k => by
  simp only [takeSegs] at h
  split at h
  ·rename_i a' b' h'
   cases h
   obtain ⟨V, v, rfl, h0, h1, h2⟩ := k
   obtain ⟨u, v', rfl, h3, h4, h5⟩ := takeSegs_rep r n a' _ v h' h2
   exact ⟨V :: u, v', rfl, by simp [h3], ⟨V, u, rfl, h0, h1, h4⟩, h5⟩
  ·cases h
 | .row s m x :: r, n + 1, a, b, vs, h, k => by
  simp only [takeSegs] at h
  cases hb : Nat.ble (m * s.size) (n + 1) with
  | false => rw [hb] at h; cases h
  | true =>
   rw [hb] at h
   simp only [cond_true] at h
   split at h
   ·rename_i a' b' h'
    cases h
    obtain ⟨hn, u, v, rfl, h1, h2⟩ := k
    obtain ⟨u', v', rfl, h3, h4, h5⟩ := takeSegs_rep r _ a' _ v h' h2
    have hlen := h1.len
    rw [hn] at hlen
    have := Nat.le_of_ble_eq_true hb
    exact ⟨u ++ u', v', by simp, by simp; omega, ⟨hn, u, u', rfl, h1, h4⟩, h5⟩
   ·cases h
theorem setSegs_rep {new : List Seg} {n : Nat} {us : List Value} (hus : RepSegs e new us) : ∀ (l : List Seg) (o : Nat) (l' : List Seg) (vs : List Value),
  setSegs new n l o = some l' → RepSegs e l vs → ∃ u m t, vs = u ++ (m ++ t) ∧ u.length = o ∧ m.length = n ∧ RepSegs e l' (u ++ (us ++ t))
 | l, 0, l', vs, h, k => by
  have h' : (match takeSegs l n with | some (_, b) => some (new ++ b) | none => none) = some l' := by
   cases l <;> exact h
  split at h'
  ·rename_i a b hab
   cases h'
   obtain ⟨u, v, rfl, h1, _, h3⟩ := takeSegs_rep l n _ b vs hab k
   refine ⟨[], u, v, rfl, rfl, h1, ?_⟩
   simp only [List.nil_append]
   clear hab h k
   induction new generalizing us with
   | nil => rw [show us = [] from hus]; exact h3
   | cons x r ih =>
    cases x with
    | c x =>
     obtain ⟨V, v', rfl, h4, h5, h6⟩ := hus
     exact ⟨V, v' ++ v, rfl, h4, h5, ih h6⟩
    | row s m x =>
     obtain ⟨hm, u1, v1, rfl, h4, h5⟩ := hus
     exact ⟨hm, u1, v1 ++ v, by simp, h4, ih h5⟩
  ·cases h'
 | [], o + 1, _, _, h, _ => by cases h
 | .c x :: r, o + 1, l', vs, h, k => by
  simp only [setSegs] at h
  split at h
  ·rename_i a ha
   cases h
   obtain ⟨V, v, rfl, h0, h1, h2⟩ := k
   obtain ⟨u, m, t, rfl, h3, h4, h5⟩ := setSegs_rep hus r o a v ha h2
   exact ⟨V :: u, m, t, rfl, by simp [h3], h4, ⟨V, u ++ (us ++ t), rfl, h0, h1, h5⟩⟩
  ·cases h
 | .row s q x :: r, o + 1, l', vs, h, k => by
  simp only [setSegs] at h
  cases hb : Nat.ble (q * s.size) (o + 1) with
  | false => rw [hb] at h; cases h
  | true =>
   rw [hb] at h
   simp only [cond_true] at h
   split at h
   ·rename_i a ha
    cases h
    obtain ⟨hn, u, v, rfl, h1, h2⟩ := k
    obtain ⟨u', m, t, rfl, h3, h4, h5⟩ := setSegs_rep hus r _ a v ha h2
    have hlen := h1.len
    rw [hn] at hlen
    have := Nat.le_of_ble_eq_true hb
    exact ⟨u ++ u', m, t, by simp, by simp; omega, h4, ⟨hn, u, u' ++ (us ++ t), by simp, h1, h5⟩⟩
   ·cases h
theorem setRow_rep {s : Sh} {l1 : List s.T} : ∀ (l : List Seg) (o : Nat) (n : Nat) (x : List s.T) (g : List Seg) (f : Nat) (vs : List Value),
  seek l o = some (.row s n x :: g, f) → RepSegs e l vs → l1.length = n →
  ∃ u m t, vs = u ++ (m ++ t) ∧ u.length + f = o ∧ RepRow e.w e.av s x m ∧ x.length = n ∧
   ∀ us, RepRow e.w e.av s l1 us → RepSegs e (setRow s l1 l o) (u ++ (us ++ t))
 | [], _, _, _, _, _, _, h, _, _ => by cases h
 | .c y :: r, 0, n, x, g, f, vs, h, k, _ => by
  simp only [seek] at h
  cases h
 | .c y :: r, o + 1, n, x, g, f, vs, h, k, hl => by
  simp only [seek] at h
  obtain ⟨V, v, rfl, h0, h1, h2⟩ := k
  obtain ⟨u, m, t, rfl, h3, h4, h5, h6⟩ := setRow_rep r o n x g f v h h2 hl
  exact ⟨V :: u, m, t, rfl, by simp; omega, h4, h5, fun us hu => ⟨V, u ++ (us ++ t), rfl, h0, h1, h6 us hu⟩⟩
 | .row s' n' x' :: r, o, n, x, g, f, vs, h, k, hl => by
  simp only [seek] at h
  have here : ∀ {P : Prop}, some (Seg.row s' n' x' :: r, o) = some (Seg.row s n x :: g, f) → setRow s l1 (.row s' n' x' :: r) o = .row s n' l1 :: r →
    ∃ u m t, vs = u ++ (m ++ t) ∧ u.length + f = o ∧ RepRow e.w e.av s x m ∧ x.length = n ∧
     ∀ us, RepRow e.w e.av s l1 us → RepSegs e (setRow s l1 (.row s' n' x' :: r) o) (u ++ (us ++ t)) := by
   intro P h hset
   injection h with h
   injection h with h hf
   injection h with h hg
   injection h with hs hn hx
   subst hs hn hf
   cases hx
   obtain ⟨hn, u, v, rfl, h1, h2⟩ := k
   refine ⟨[], u, v, by simp, by simp, h1, hn, fun us hu => ?_⟩
   rw [hset]
   exact ⟨hl, us, v, by simp, hu, h2⟩
  cases hb : Nat.blt o s'.size with
  | true => rw [hb] at h; exact here (P := True) h (by simp [setRow, hb])
  | false =>
   rw [hb] at h
   cases hc : Nat.blt o (n' * s'.size) with
   | true => rw [hc] at h; exact here (P := True) h (by simp [setRow, hb, hc])
   | false =>
    rw [hc] at h
    simp only [cond_false] at h
    obtain ⟨hn, u, v, rfl, h1, h2⟩ := k
    obtain ⟨u', m, t, rfl, h3, h4, h5, h6⟩ := setRow_rep r _ n x g f v h h2 hl
    have hlen := h1.len
    rw [hn] at hlen
    have : ¬ o < n' * s'.size := fun h => by rw [show Nat.blt o _ = true from (Nat.blt_eq).mpr h] at hc; cases hc
    refine ⟨u ++ u', m, t, by simp, by simp only [List.length_append]; omega, h4, h5, fun us hu => ?_⟩
    simp only [setRow, hb, hc, cond_false]
    exact ⟨hn, u, u' ++ (us ++ t), by simp, h1, h6 us hu⟩
theorem RepRow.one {s : Sh} : ∀ {x : List s.T} {vs : List Value}, RepRow e.w e.av s x vs → ∀ v ∈ vs, v.oneCell' = true
 | [], vs, h, v, hv => by rw [show vs = [] from h] at hv; cases hv
 | y :: x, vs, h, v, hv => by
  obtain ⟨a, b, rfl, h3, h4⟩ := h
  rcases List.mem_append.1 hv with hv | hv
  ·exact (RepT.enc s y a h3).one v hv
  ·exact RepRow.one h4 v hv
theorem RepSegs.append : ∀ {a b : List Seg} {u v : List Value}, RepSegs e a u → RepSegs e b v → RepSegs e (a ++ b) (u ++ v)
 | [], b, u, v, h, k => by rw [show u = [] from h]; exact k
 | .c x :: r, b, u, v, h, k => by
  obtain ⟨V, u', rfl, h0, h1, h2⟩ := h
  exact ⟨V, u' ++ v, rfl, h0, h1, RepSegs.append h2 k⟩
 | .row s n x :: r, b, u, v, h, k => by
  obtain ⟨hn, u1, u2, rfl, h1, h2⟩ := h
  exact ⟨hn, u1, u2 ++ v, by simp, h1, RepSegs.append h2 k⟩
theorem RepSegs.one : ∀ {l : List Seg} {vs : List Value}, RepSegs e l vs → ∀ v ∈ vs, v.oneCell' = true
 | [], vs, h, v, hv => by rw [show vs = [] from h] at hv; cases hv
 | .c x :: r, vs, h, v, hv => by
  obtain ⟨V, u', rfl, h0, h1, h2⟩ := h
  rcases List.mem_cons.1 hv with rfl | hv
  ·exact h0
  ·exact RepSegs.one h2 v hv
 | .row s n x :: r, vs, h, v, hv => by
  obtain ⟨hn, u1, u2, rfl, h1, h2⟩ := h
  rcases List.mem_append.1 hv with hv | hv
  ·clear h2 hn
   exact RepRow.one h1 v hv
  ·exact RepSegs.one h2 v hv
end
end Go.Gx

namespace Go.Gx
def setB (w : World) (b : Nat) (o : Go.Obj) : World := { w with heap := w.heap.setIfInBounds b o }
theorem heap_setB_same {w : World} {b : Nat} {o : Go.Obj} (h : b < w.heap.size) : (setB w b o).heap[b]? = some o := by
 simp [setB, h]
theorem heap_setB_other {w : World} {b b' : Nat} {o : Go.Obj} (h : b' ≠ b) : (setB w b o).heap[b']? = w.heap[b']? := by
 simp [setB, Array.getElem?_setIfInBounds_ne (Ne.symm h)]
theorem size_setB {w : World} {b : Nat} {o : Go.Obj} : (setB w b o).heap.size = w.heap.size := by simp [setB]
theorem heap_alloc_old {w : World} {o : Go.Obj} {b : Nat} (h : b < w.heap.size) : (w.alloc o).heap[b]? = w.heap[b]? := by
 show (w.heap.push o)[b]? = _
 rw [Array.getElem?_push, if_neg (Nat.ne_of_lt h)]
theorem heap_alloc_new {w : World} {o : Go.Obj} : (w.alloc o).heap[w.heap.size]? = some o := by
 show (w.heap.push o)[w.heap.size]? = _
 simp
theorem Own.lt {w : World} {β : Nat → Loc} {F : Nat → Prop} {H : Heap} (ok : HeapOk w β F H) {b : Nat} (h : Own β H b) : b < w.heap.size := by
 obtain ⟨r, o, h1, h2⟩ := h
 exact (ok.ltB r o b h1 h2).1
theorem lt_len {H : Heap} {r : Nat} {o : Obj} (h : H[r]? = some o) : r < H.length := (List.getElem?_eq_some_iff.1 h).1
theorem RepObj.keep {w w' : World} {β β' : Nat → Loc} {F : Nat → Prop} {H H' : Heap} (ok : HeapOk w β F H) (hx : Ext (en w β F H) (en w' β' F H')) {r : Nat} {o : Obj}
  (h : H[r]? = some o) (hb : ∀ b, has (β r) o b → w'.heap[b]? = w.heap[b]?) : RepObj (en w' β' F H') r o :=
 (ok.obj r o h).mono hx (lt_len h) (Nat.le_of_eq (pnOf_of h).symm) hb
/-! ### a new object -/
def upd (β : Nat → Loc) (n : Nat) (p : Loc) : Nat → Loc := fun r => if r = n then p else β r
theorem upd_lt {β : Nat → Loc} {n r : Nat} {p : Loc} (h : r < n) : upd β n p r = β r := by simp [upd, Nat.ne_of_lt h]
theorem upd_eq {β : Nat → Loc} {n : Nat} {p : Loc} : upd β n p n = p := by simp [upd]
theorem get_snoc {H : Heap} {o x : Obj} {r : Nat} (h : (H ++ [o])[r]? = some x) : (H[r]? = some x) ∨ (r = H.length ∧ x = o) := by
 by_cases hr : r < H.length
 ·rw [List.getElem?_append_left hr] at h; exact .inl h
 ·rw [List.getElem?_append_right (by omega)] at h
  have : r - H.length = 0 := by
   have := (List.getElem?_eq_some_iff.1 h).1
   simp at this; omega
  rw [this] at h
  simp at h
  exact .inr ⟨by omega, h.symm⟩
theorem pq_keep {β β' : Nat → Loc} {H H' : Heap} (h : ∀ r k t s l, H[r]? = some (.pool k t s l) → H'[r]? = some (.pool k t s l) ∧ β' r = β r) : ∀ r t i b m, r < H.length → pqOf β H r t i b m → pqOf β' H' r t i b m := by
 rintro r t i b m _ ⟨k, s, l, x, h1, h2, h3, h4⟩
 obtain ⟨h5, h6⟩ := h r k t s l h1
 exact ⟨k, s, l, x, h5, h2, by rw [h6]; exact h3, h4⟩
def NoPool (o : Obj) : Prop := ∀ k t s l, o ≠ .pool k t s l
theorem Own.snoc {β : Nat → Loc} {H : Heap} {o : Obj} {p : Loc} {b : Nat} : Own (upd β H.length p) (H ++ [o]) b → Own β H b ∨ has p o b := by
 rintro ⟨r, x, h1, h2⟩
 rcases get_snoc h1 with h | ⟨rfl, rfl⟩
 ·rw [upd_lt (lt_len h)] at h2
  exact .inl ⟨r, x, h, h2⟩
 ·rw [upd_eq] at h2
  exact .inr h2
theorem pq_snoc {β : Nat → Loc} {H : Heap} {o : Obj} {p : Loc} : ∀ r t i b m, r < H.length → pqOf β H r t i b m → pqOf (upd β H.length p) (H ++ [o]) r t i b m :=
 pq_keep fun r k t s l h => ⟨by rw [List.getElem?_append_left (lt_len h)]; exact h, upd_lt (lt_len h)⟩
theorem pb_snoc {β : Nat → Loc} {H : Heap} {o : Obj} {p : Loc} : ∀ t i b m, pbOf β H t i b m → pbOf (upd β H.length p) (H ++ [o]) t i b m := fun _ _ _ _ ⟨r, hr, hp⟩ => ⟨r, by simp; omega, pq_snoc _ _ _ _ _ hr hp⟩
theorem pn_keep {H H' : Heap} {r : Nat} (h : ∀ o, H[r]? = some o → H'[r]? = some o) : pnOf H r ≤ pnOf H' r := by
 cases hr : H[r]? with
 | none => simp [pnOf, hr]
 | some o => rw [pnOf_of hr, pnOf_of (h o hr)]; exact Nat.le_refl _
theorem pn_no {o : Obj} (h : NoPool o) : pnO o = 0 := by
 cases o with
 | pool => exact absurd rfl (h _ _ _ _)
 | _ => rfl
theorem pn_set {H : Heap} {r : Nat} {o o' : Obj} (h : H[r]? = some o) (hn : NoPool o) (q : Nat) : pnOf H q ≤ pnOf (H.set r o') q := by
 by_cases e : q = r
 ·subst e
  rw [pnOf_of h, pn_no hn]
  exact Nat.zero_le _
 ·exact pn_keep fun o h => by rw [List.getElem?_set_ne (Ne.symm e)]; exact h
theorem ext_alloc {w : World} {β : Nat → Loc} {F : Nat → Prop} {H : Heap} (g : Go.Obj) (o : Obj) (hg : ∀ c t f, g = .cells c t f → f = (0, 0)) (hn : NoPool o) :
  Ext (en w β F H) (en (w.alloc g) (upd β H.length (.mk3 w.heap.size 0 True)) F (H ++ [o])) where
 n := by simp [en]
 β r hr := by have hr : r < H.length := hr; simp only [en, upd_lt hr]
 el r i hr _ := by have hr : r < H.length := hr; simp only [en, upd_lt hr]
 pn r hr := pn_keep fun o h => by rw [List.getElem?_append_left hr]; exact h
 size := by simp [en]
 kept b hb _ := heap_alloc_old hb
 sub b hb h := by
  rcases h.snoc with h | h
  ·exact h
  ·have := (owns_of h hn).2
   simp [en] at hb this; omega
 F := rfl
 sz r m hr h := by
  have hr' : r < H.length := hr
  simp only [en, szOf] at h ⊢
  rw [List.getElem?_append_left hr'] at h
  exact h
 grow b c t f h := ⟨c, f, by simp only [en] at *; rw [heap_alloc_old (lt_of_heap h)]; exact h, rfl⟩
 out := ⟨rfl, rfl⟩
 froz b c t f h := by
  by_cases hb : b < w.heap.size
  ·have h : (w.alloc g).heap[b]? = _ := h
   rw [heap_alloc_old hb] at h
   exact .inr ⟨c, h⟩
  ·have h : (w.heap.push g)[b]? = _ := h
   rw [Array.getElem?_push] at h
   split at h
   ·cases h
    exact .inl (hg _ _ _ rfl)
   ·exact .inr ⟨c, h⟩
 pq := pq_snoc
theorem ok_alloc {w : World} {β : Nat → Loc} {F : Nat → Prop} {H : Heap} (ok : HeapOk w β F H) (g : Go.Obj) (o : Obj) (hg : ∀ c t f, g = .cells c t f → f = (0, 0)) (hn : NoPool o)
  (ho : RepObj (en (w.alloc g) (upd β H.length (.mk3 w.heap.size 0 True)) F (H ++ [o])) H.length o) :
  HeapOk (w.alloc g) (upd β H.length (.mk3 w.heap.size 0 True)) F (H ++ [o]) where
 obj r x h := by
  rcases get_snoc h with h | ⟨rfl, rfl⟩
  ·exact RepObj.keep ok (ext_alloc g o hg hn) h fun b hw => heap_alloc_old (ok.ltB r x b h hw).1
  ·exact ho
 ltB r x b h hw := by
  rcases get_snoc h with h | ⟨rfl, rfl⟩
  ·rw [upd_lt (lt_len h)] at hw
   obtain ⟨h1, h2⟩ := ok.ltB r x b h hw
   exact ⟨by simp; omega, h2⟩
  ·rw [upd_eq] at hw
   rw [← (owns_of hw hn).2]
   exact ⟨by simp, fun hf => absurd (ok.F _ hf) (by simp)⟩
 injB r r' x x' b h h' hw hw' := by
  rcases get_snoc h with k | ⟨k, kx⟩ <;> rcases get_snoc h' with k' | ⟨k', kx'⟩
  ·rw [upd_lt (lt_len k)] at hw
   rw [upd_lt (lt_len k')] at hw'
   exact ok.injB r r' x x' b k k' hw hw'
  ·rw [upd_lt (lt_len k)] at hw
   rw [k', upd_eq, kx'] at hw'
   have := (ok.ltB r x b k hw).1
   have := (owns_of hw' hn).2
   simp at this; omega
  ·rw [upd_lt (lt_len k')] at hw'
   rw [k, upd_eq, kx] at hw
   have := (ok.ltB r' x' b k' hw').1
   have := (owns_of hw hn).2
   simp at this; omega
  ·rw [k, k']
 F b hb := by have := ok.F b hb; simp; omega
 uni r r' k k' t s s' l l' h h' := by
  rcases get_snoc h with h | ⟨_, h⟩
  ·rcases get_snoc h' with h' | ⟨_, h'⟩
   ·exact ok.uni r r' k k' t s s' l l' h h'
   ·exact absurd h'.symm (hn _ _ _ _)
  ·exact absurd h.symm (hn _ _ _ _)
theorem new_cells {w : World} {β : Nat → Loc} {F : Nat → Prop} {H : Heap} (ok : HeapOk w β F H) (t : TypeId) {sg : List Seg} {vs : List Value} (hs : RepSegs (en w β F H) sg vs)
  {cs : Array Value} (hc : cs.toList = vs ∨ ∃ post, cs.toList = vs ++ post) :
  let w' := w.alloc (.cells cs t); let β' := upd β H.length (.mk3 w.heap.size 0 True); let H' := H ++ [.cells sg]
  HeapOk w' β' F H' ∧ Ext (en w β F H) (en w' β' F H') := by
 have hg : ∀ (c : Array Value) (t' : TypeId) f, Go.Obj.cells cs t = .cells c t' f → f = (0, 0) := fun _ _ _ e => by cases e; rfl
 have hn : NoPool (.cells sg) := fun _ _ _ _ h => nomatch h
 refine ⟨ok_alloc ok _ _ hg hn ⟨vs, hs.mono (ext_alloc _ _ hg hn), fun h => absurd (by simp [en, upd_eq]) h, fun _ => ?_⟩, ext_alloc _ _ hg hn⟩
 obtain ⟨post, hp⟩ : ∃ post, cs.toList = vs ++ post := by
  rcases hc with h | h
  ·exact ⟨[], by simp [h]⟩
  ·exact h
 exact ⟨cs, t, [], post, by simp only [en, upd_eq]; exact heap_alloc_new, by simpa using hp, by simp [en, upd_eq]⟩
/-! ### an object changed -/
theorem get_set {H : Heap} {r r' : Nat} {o x : Obj} (h : (H.set r o)[r']? = some x) : (r' = r ∧ x = o) ∨ (r' ≠ r ∧ H[r']? = some x) := by
 by_cases e : r' = r
 ·subst e
  have hr : r' < H.length := by have := lt_len h; simpa using this
  rw [List.getElem?_set_self hr] at h
  exact .inl ⟨rfl, (Option.some.inj h).symm⟩
 ·rw [List.getElem?_set_ne (Ne.symm e)] at h
  exact .inr ⟨e, h⟩
theorem not_pool {p : Loc} {o : Obj} (h : owns p o) : NoPool o := fun k t s l e => by subst e; exact h
theorem pq_set {β : Nat → Loc} {H : Heap} {r : Nat} {o o' : Obj} (h : H[r]? = some o) (hn : NoPool o) : ∀ q t i b m, q < H.length → pqOf β H q t i b m → pqOf β (H.set r o') q t i b m :=
 pq_keep fun q k t s l hq => ⟨by
  have : r ≠ q := fun e => by subst e; rw [h] at hq; cases hq; exact hn _ _ _ _ rfl
  rw [List.getElem?_set_ne this]
  exact hq, rfl⟩
theorem ext_set {w w' : World} {β : Nat → Loc} {F : Nat → Prop} {H : Heap} {r : Nat} {o o' : Obj} (h : H[r]? = some o) (hw : owns (β r) o) (hn' : NoPool o') (hsz : ∀ m, szO o' = some m → szO o = some m)
  (hsize : w'.heap.size = w.heap.size) (hoth : ∀ b, b ≠ (β r).b → w'.heap[b]? = w.heap[b]?)
  (hout : w'.os = w.os ∧ w'.output = w.output) (hfroz : ∀ c t f, w'.heap[(β r).b]? = some (.cells c t f) → f = (0, 0)) (hgrow : ∀ c t f, w.heap[(β r).b]? = some (.cells c t f) → ∃ c' f', w'.heap[(β r).b]? = some (.cells c' t f') ∧ c'.size = c.size) :
  Ext (en w β F H) (en w' β F (H.set r o')) where
 n := by simp [en]
 β _ _ := rfl
 el _ _ _ _ := rfl
 size := by simp [en, hsize]
 kept b _ hb := hoth b fun e => hb ⟨r, o, h, by rw [e]; exact has_of hw⟩
 sub b _ hb := by
  obtain ⟨q, x, h1, h2⟩ := hb
  rcases get_set h1 with ⟨rfl, rfl⟩ | ⟨_, h4⟩
  ·exact ⟨q, o, h, by rw [← (owns_of h2 hn').2]; exact has_of hw⟩
  ·exact ⟨q, x, h4, h2⟩
 pq := pq_set h (not_pool hw)
 pn q _ := pn_set h (not_pool hw) q
 F := rfl
 sz q m hq h := by
  obtain ⟨l, h1, h2⟩ := szOf_some h
  rcases get_set h1 with ⟨rfl, e⟩ | ⟨_, h4⟩
  ·subst e
   exact (szOf_of ‹H[q]? = some o›).trans (hsz m h2)
  ·exact (szOf_of h4).trans h2
 grow b c t f hb := by
  by_cases e : b = (β r).b
  ·subst e; exact hgrow c t f hb
  ·exact ⟨c, f, by simp only [en] at *; rw [hoth b e]; exact hb, rfl⟩
 out := hout
 froz b c t f hb := by
  by_cases e : b = (β r).b
  ·subst e; exact .inl (hfroz c t f hb)
  ·exact .inr ⟨c, by simp only [en] at *; rw [hoth b e] at hb; exact hb⟩
theorem ok_set {w w' : World} {β : Nat → Loc} {F : Nat → Prop} {H : Heap} (ok : HeapOk w β F H) {r : Nat} {o o' : Obj} (h : H[r]? = some o) (hw : owns (β r) o) (hn' : NoPool o')
  (hsize : w'.heap.size = w.heap.size) (hoth : ∀ b, b ≠ (β r).b → w'.heap[b]? = w.heap[b]?)
  (hx : Ext (en w β F H) (en w' β F (H.set r o'))) (ho : RepObj (en w' β F (H.set r o')) r o') : HeapOk w' β F (H.set r o') where
 obj q x hq := by
  rcases get_set hq with ⟨rfl, rfl⟩ | ⟨hne, hq⟩
  ·exact ho
  ·exact RepObj.keep ok hx hq fun b hx => hoth _ fun e => hne (ok.injB q r x o b hq h hx (by rw [e]; exact has_of hw))
 ltB q x b hq hh := by
  rw [hsize]
  rcases get_set hq with ⟨rfl, rfl⟩ | ⟨_, hq⟩
  ·rw [← (owns_of hh hn').2]; exact ok.lt q o h hw
  ·exact ok.ltB q x b hq hh
 injB q q' x x' b hq hq' hx hx' := by
  rcases get_set hq with ⟨k, kx⟩ | ⟨_, k⟩ <;> rcases get_set hq' with ⟨k', kx'⟩ | ⟨_, k'⟩
  ·rw [k, k']
  ·rw [kx] at hx
   rw [k] at hx ⊢
   exact ok.injB r q' o x' b h k' (by rw [← (owns_of hx hn').2]; exact has_of hw) hx'
  ·rw [kx'] at hx'
   rw [k'] at hx' ⊢
   exact ok.injB q r x o b k h hx (by rw [← (owns_of hx' hn').2]; exact has_of hw)
  ·exact ok.injB q q' x x' b k k' hx hx'
 F b hb := by rw [hsize]; exact ok.F b hb
 uni q q' k k' t s s' l l' hq hq' := by
  rcases get_set hq with ⟨_, h1⟩ | ⟨_, h1⟩
  ·exact absurd h1.symm (hn' _ _ _ _)
  ·rcases get_set hq' with ⟨_, h2⟩ | ⟨_, h2⟩
   ·exact absurd h2.symm (hn' _ _ _ _)
   ·exact ok.uni q q' k k' t s s' l l' h1 h2
theorem ext_kill {w : World} {β : Nat → Loc} {F : Nat → Prop} {H : Heap} {r : Nat} {o : Obj} (hr : H[r]? = some o) (hn : NoPool o) : Ext (en w β F H) (en w β F (H.set r .dead)) where
 n := by simp [en]
 β _ _ := rfl
 el _ _ _ _ := rfl
 size := Nat.le_refl _
 kept _ _ _ := rfl
 sub b _ hb := by
  obtain ⟨q, x, h1, h2⟩ := hb
  rcases get_set h1 with ⟨rfl, rfl⟩ | ⟨_, h4⟩
  ·exact h2.elim
  ·exact ⟨q, x, h4, h2⟩
 F := rfl
 sz q m _ h := by
  obtain ⟨l, h1, h2⟩ := szOf_some h
  rcases get_set h1 with ⟨rfl, e⟩ | ⟨_, h4⟩
  ·subst e
   cases h2
  ·exact (szOf_of h4).trans h2
 grow b c t f hb := ⟨c, f, hb, rfl⟩
 out := ⟨rfl, rfl⟩
 froz b c t f hb := .inr ⟨c, hb⟩
 pq := pq_set hr hn
 pn q _ := pn_set hr hn q
theorem ok_kill {w : World} {β : Nat → Loc} {F : Nat → Prop} {H : Heap} (ok : HeapOk w β F H) {r : Nat} {o : Obj} (hr : H[r]? = some o) (hn : NoPool o) : HeapOk w β F (H.set r .dead) where
 obj q x hq := by
  rcases get_set hq with ⟨rfl, rfl⟩ | ⟨_, hq⟩
  ·trivial
  ·exact RepObj.keep ok (ext_kill hr hn) hq fun _ _ => rfl
 ltB q x b hq hx := by
  rcases get_set hq with ⟨rfl, rfl⟩ | ⟨_, hq⟩
  ·exact hx.elim
  ·exact ok.ltB q x b hq hx
 injB q q' x x' b hq hq' hx hx' := by
  rcases get_set hq with ⟨rfl, rfl⟩ | ⟨_, hq⟩
  ·exact hx.elim
  ·rcases get_set hq' with ⟨rfl, rfl⟩ | ⟨_, hq'⟩
   ·exact hx'.elim
   ·exact ok.injB q q' x x' b hq hq' hx hx'
 F := ok.F
 uni q q' k k' t s s' l l' hq hq' := by
  rcases get_set hq with ⟨_, h1⟩ | ⟨_, h1⟩
  ·cases h1
  ·rcases get_set hq' with ⟨_, h2⟩ | ⟨_, h2⟩
   ·cases h2
   ·exact ok.uni q q' k k' t s s' l l' h1 h2
theorem not_av_kill {w : World} {β : Nat → Loc} {F : Nat → Prop} {H : Heap} (ok : HeapOk w β F H) {r : Nat} {o : Obj} (h : H[r]? = some o) (hw : owns (β r) o) :
  ¬ (en w β F (H.set r .dead)).av (β r).b := by
 rintro (⟨q, x, h1, h2⟩ | hf)
 ·rcases get_set h1 with ⟨rfl, rfl⟩ | ⟨hne, h4⟩
  ·exact h2.elim
  ·exact hne (ok.injB q r x o _ h4 h h2 (has_of hw))
 ·exact (ok.lt r o h hw).2 hf
/-! ### an object by another in its place; an object that stands for nothing -/
theorem reborn {w : World} {β : Nat → Loc} {F : Nat → Prop} {H : Heap} (ok : HeapOk w β F H) (r : Nat) (hr : ∀ o, H[r]? = some o → NoPool o) {o' : Obj} (hn' : NoPool o') {p : Loc} (hp : owns p o' → ∃ o, H[r]? = some o ∧ owns (β r) o ∧ p.b = (β r).b)
  (hob : Ext (en w β F H) (en w (upd β H.length p) F (H.set r .dead ++ [o'])) → RepObj (en w (upd β H.length p) F (H.set r .dead ++ [o'])) H.length o') :
  HeapOk w (upd β H.length p) F (H.set r .dead ++ [o']) ∧ Ext (en w β F H) (en w (upd β H.length p) F (H.set r .dead ++ [o'])) := by
 have h1 : (H.set r .dead).length = H.length := List.length_set
 have hget : ∀ q o, (H.set r .dead ++ [o'])[q]? = some o → (q ≠ r ∧ H[q]? = some o) ∨ o = .dead ∨ (q = H.length ∧ o = o') := fun q o hq => by
  rcases get_snoc hq with h | ⟨h, h'⟩
  ·rcases get_set h with ⟨_, h⟩ | h
   ·exact .inr (.inl h)
   ·exact .inl h
  ·exact .inr (.inr ⟨by rw [h, h1], h'⟩)
 have hβ : ∀ q, q < H.length → upd β H.length p q = β q := fun q hq => upd_lt hq
 have hx : Ext (en w β F H) (en w (upd β H.length p) F (H.set r .dead ++ [o'])) := {
  n := by simp [en]
  β := fun q hq => by simp only [en, hβ q hq]
  el := fun q i hq _ => by simp only [en, hβ q hq]
  pn := fun q hq => by
   by_cases e : q = r
   ·subst e
    have hq : q < H.length := hq
    show pnOf H q ≤ _
    rw [pnOf_of (List.getElem?_eq_getElem hq), pn_no (hr _ (List.getElem?_eq_getElem hq))]
    exact Nat.zero_le _
   ·exact pn_keep fun o h => by
     rw [List.getElem?_append_left (by rw [h1]; exact lt_len h), List.getElem?_set_ne (Ne.symm e)]
     exact h
  size := Nat.le_refl _
  kept := fun b _ _ => rfl
  sub := fun b _ ho => by
   obtain ⟨q, o, h2, h3⟩ := ho
   rcases hget q o h2 with ⟨_, h⟩ | rfl | ⟨rfl, rfl⟩
   ·rw [hβ q (lt_len h)] at h3
    exact ⟨q, o, h, h3⟩
   ·exact h3.elim
   ·rw [upd_eq] at h3
    obtain ⟨h3, h4⟩ := owns_of h3 hn'
    obtain ⟨o, k1, k2, k3⟩ := hp h3
    exact ⟨r, o, k1, by rw [← h4, k3]; exact has_of k2⟩
  F := rfl
  sz := fun q m hq h => by
   obtain ⟨l, k1, k2⟩ := szOf_some h
   rcases hget q _ k1 with ⟨_, h⟩ | h | ⟨rfl, _⟩
   ·exact (szOf_of h).trans k2
   ·subst h
    cases k2
   ·exact absurd hq (Nat.lt_irrefl _)
  grow := fun b c t f hb => ⟨c, f, hb, rfl⟩
  out := ⟨rfl, rfl⟩
  froz := fun b c t f hb => .inr ⟨c, hb⟩
  pq := pq_keep fun q k t s l hq => by
   have hne : r ≠ q := fun e => by subst e; exact hr _ hq _ _ _ _ rfl
   refine ⟨?_, hβ q (lt_len hq)⟩
   rw [List.getElem?_append_left (by rw [h1]; exact lt_len hq), List.getElem?_set_ne hne]
   exact hq }
 refine ⟨⟨?_, ?_, ?_, ok.F, ?_⟩, hx⟩
 ·intro q o hq
  rcases hget q o hq with ⟨hne, h⟩ | rfl | ⟨rfl, rfl⟩
  ·exact RepObj.keep ok hx h fun _ _ => rfl
  ·trivial
  ·exact hob hx
 ·intro q o b hq ho
  rcases hget q o hq with ⟨hne, h⟩ | rfl | ⟨rfl, rfl⟩
  ·rw [hβ q (lt_len h)] at ho
   exact ok.ltB q o b h ho
  ·exact ho.elim
  ·rw [upd_eq] at ho
   obtain ⟨ho, e⟩ := owns_of ho hn'
   obtain ⟨o, k1, k2, k3⟩ := hp ho
   rw [← e, k3]
   exact ok.lt r o k1 k2
 ·intro q q' o p' b hq hq' ho ho'
  rcases hget q o hq with ⟨hne, h⟩ | rfl | ⟨k, rfl⟩ <;> rcases hget q' p' hq' with ⟨hne', h'⟩ | rfl | ⟨k', rfl⟩
  ·rw [hβ q (lt_len h)] at ho
   rw [hβ q' (lt_len h')] at ho'
   exact ok.injB q q' o p' b h h' ho ho'
  ·exact ho'.elim
  ·rw [hβ q (lt_len h)] at ho
   rw [k', upd_eq] at ho'
   obtain ⟨ho', e⟩ := owns_of ho' hn'
   obtain ⟨o2, k1, k2, k3⟩ := hp ho'
   exact absurd (ok.injB q r o _ b h k1 ho (by rw [← e, k3]; exact has_of k2)) hne
  ·exact ho.elim
  ·exact ho.elim
  ·exact ho.elim
  ·rw [hβ q' (lt_len h')] at ho'
   rw [k, upd_eq] at ho
   obtain ⟨ho, e⟩ := owns_of ho hn'
   obtain ⟨o2, k1, k2, k3⟩ := hp ho
   exact absurd (ok.injB r q' _ p' b k1 h' (by rw [← e, k3]; exact has_of k2) ho').symm hne'
  ·exact ho'.elim
  ·rw [k, k']
 ·intro q q' k k' t s s' l l' hq hq'
  rcases hget q _ hq with ⟨_, h⟩ | h | ⟨_, h⟩
  ·rcases hget q' _ hq' with ⟨_, h'⟩ | h' | ⟨_, h'⟩
   ·exact ok.uni q q' k k' t s s' l l' h h'
   ·cases h'
   ·exact absurd h'.symm (hn' _ _ _ _)
  ·cases h
  ·exact absurd h.symm (hn' _ _ _ _)
theorem set_len_self {H : Heap} {o : Obj} : H.set H.length o = H := List.set_eq_of_length_le (Nat.le_refl _)
theorem new_virt {w : World} {β : Nat → Loc} {F : Nat → Prop} {H : Heap} (ok : HeapOk w β F H) (s : Sh) :
  HeapOk w (upd β H.length (.mk3 0 0 False)) F (H ++ [.cells [.row s 0 []]]) ∧ Ext (en w β F H) (en w (upd β H.length (.mk3 0 0 False)) F (H ++ [.cells [.row s 0 []]])) := by
 have := reborn ok H.length (fun o h => absurd (lt_len h) (Nat.lt_irrefl _)) (o' := .cells [.row s 0 []]) (fun _ _ _ _ h => nomatch h) (p := .mk3 0 0 False) (fun h => h.elim) fun hx =>
  ⟨[], ⟨rfl, [], [], rfl, rfl, rfl⟩, fun _ => by simp [segsSize, segSize], fun h => by simp [en, upd_eq] at h⟩
 rw [set_len_self] at this
 exact this
theorem szOf_snoc {H : Heap} {o : Obj} : szOf (H ++ [o]) H.length = szO o := szOf_of (by simp)
theorem szOf_set_snoc {H : Heap} {r : Nat} {o o' : Obj} : szOf (H.set r o' ++ [o]) H.length = szO o := by
 have h : (H.set r o').length = H.length := List.length_set
 have := szOf_snoc (H := H.set r o') (o := o)
 rwa [h] at this
theorem virt_rep {w : World} {β : Nat → Loc} {F : Nat → Prop} {H : Heap} {s : Sh} {A : Option Addr} {p : Loc} : RepSc (en w (upd β H.length p) F (H ++ [.cells [.row s 0 []]])) (.wl H.length s.size) (.slice A 0 0) :=
 ⟨by simp [en], A, 0, 0, rfl, Nat.le_refl _, fun m hm => by
  have : szOf (H ++ [.cells [.row s 0 []]]) H.length = some m := hm
  rw [szOf_snoc] at this
  simp [szO, segsSize, segSize] at this
  omega, fun h => absurd h (Nat.lt_irrefl _)⟩
theorem poolIx_spec {t : Nat} : ∀ {H : Heap} {n r : Nat}, poolIx t H n = some r → n ≤ r ∧ ∃ k s l, H[r - n]? = some (Obj.pool k t s l)
 | [], n, r, h => by cases h
 | o :: H, n, r, h => by
  have go : poolIx t H (n + 1) = some r → n ≤ r ∧ ∃ k s l, (o :: H)[r - n]? = some (Obj.pool k t s l) := fun h => by
   obtain ⟨h1, k, s, l, h2⟩ := poolIx_spec h
   refine ⟨by omega, k, s, l, ?_⟩
   rw [show r - n = (r - (n + 1)) + 1 by omega, List.getElem?_cons_succ]
   exact h2
  cases o with
  | pool k t' s l =>
   have h : (bif Nat.beq t' t then some n else poolIx t H (n + 1)) = some r := h
   cases hb : Nat.beq t' t with
   | true =>
    rw [hb] at h
    cases h
    rw [← Nat.eq_of_beq_eq_true hb]
    exact ⟨Nat.le_refl _, k, s, l, by simp⟩
   | false => rw [hb] at h; exact go h
  | _ => exact go h
theorem poolIx_none {t : Nat} : ∀ {H : Heap} {n : Nat}, poolIx t H n = none → ∀ (r : Nat) (k : Bool) (s : Sh) (l : List s.T), H[r]? ≠ some (Obj.pool k t s l)
 | [], n, h, r, k, s, l => by simp
 | o :: H, n, h, r, k, s, l => by
  have go : poolIx t H (n + 1) = none → (∀ (k : Bool) (s : Sh) (l : List s.T), o ≠ Obj.pool k t s l) → (o :: H)[r]? ≠ some (Obj.pool k t s l) := fun h ho => by
   cases r with
   | zero => intro e; exact ho _ _ _ (Option.some.inj e)
   | succ r => rw [List.getElem?_cons_succ]; exact poolIx_none h r k s l
  cases o with
  | pool k' t' s' l' =>
   have h : (bif Nat.beq t' t then some n else poolIx t H (n + 1)) = none := h
   cases hb : Nat.beq t' t with
   | true => rw [hb] at h; cases h
   | false =>
    rw [hb] at h
    refine go h fun k2 s2 l2 e => ?_
    cases e
    simp at hb
  | _ => exact go h fun k2 s2 l2 e => nomatch e
theorem poolAt_spec {H : Heap} {t r : Nat} (h : poolAt H t = some r) : ∃ k s l, H[r]? = some (Obj.pool k t s l) := by
 obtain ⟨_, h1⟩ := poolIx_spec h
 exact h1
theorem poolAt_none {H : Heap} {t : Nat} (h : poolAt H t = none) (r : Nat) (k : Bool) (s : Sh) (l : List s.T) : H[r]? ≠ some (Obj.pool k t s l) := poolIx_none h r k s l
theorem pool_at {w : World} {β : Nat → Loc} {F : Nat → Prop} {H : Heap} (ok : HeapOk w β F H) {t r : Nat} {k : Bool} {t' : Nat} {s : Sh} {l : List s.T} (hr : poolAt H t = some r) (hH : H[r]? = some (.pool k t' s l))
  {i b m : Nat} (h : pbOf β H t i b m) : t' = t ∧ ∃ x, l[i]? = some x ∧ b = (β r).e i ∧ m = poolM k s x := by
 obtain ⟨k1, s1, l1, h1⟩ := poolAt_spec hr
 rw [hH] at h1
 cases h1
 obtain ⟨r', _, k', s', l', x, h2, h3, h4, h5⟩ := h
 have := ok.uni _ _ _ _ _ _ _ _ _ h2 hH
 subst this
 rw [hH] at h2
 cases h2
 exact ⟨rfl, x, h3, h4, h5⟩
theorem widen_rep {w : World} {β : Nat → Loc} {F : Nat → Prop} {H : Heap} (ok : HeapOk w β F H) {x : Sc} {V : Value} (h : RepSc (en w β F H) x V) : RepSc (en w β F H) (widen H x) V := by
 unfold widen
 split
 ·rename_i r z
  split
  ·rename_i s n l hH
   cases hb : (Nat.beq z s.size && Nat.blt 0 s.size) with
   | false => trivial
   | true =>
    rw [Bool.and_eq_true] at hb
    obtain rfl : z = s.size := Nat.eq_of_beq_eq_true hb.1
    have hs0 : 0 < s.size := by simpa using hb.2
    obtain ⟨hr, A, len, C, rfl, hC, hm, hl⟩ := h
    have h1 := hm (n * s.size) ((szOf_of hH).trans (by simp [szO, segsSize, segSize]))
    obtain rfl : n = len := Nat.eq_of_mul_eq_mul_right hs0 h1
    refine ⟨hr, Nat.le_refl _, A, C, rfl, hC, fun h0 => ?_⟩
    obtain ⟨h2, h3, c, t, fz, h4, h5⟩ := hl h0
    exact ⟨by simpa using h2, h3, c, t, fz, h4, by simpa using h5⟩
  ·rename_i s l hH
   cases hb : (Nat.beq z s.size && Nat.blt 0 s.size) with
   | false => trivial
   | true =>
    rw [Bool.and_eq_true] at hb
    obtain rfl : z = s.size := Nat.eq_of_beq_eq_true hb.1
    have hs0 : 0 < s.size := by simpa using hb.2
    obtain ⟨hr, A, len, C, rfl, hC, hm, hl⟩ := h
    have h1 := hm (l.length * s.size) ((szOf_of hH).trans rfl)
    obtain rfl : l.length = len := Nat.eq_of_mul_eq_mul_right hs0 h1
    refine ⟨hr, Nat.le_refl _, A, C, rfl, hC, fun h0 => ?_⟩
    obtain ⟨h2, h3, c, t, fz, h4, h5⟩ := hl h0
    exact ⟨by simpa using h2, h3, c, t, fz, h4, by simpa using h5⟩
  ·trivial
 ·rename_i t i
  split
  ·rename_i r hr
   split
   ·rename_i t' s l hH
    cases hb : Nat.blt 0 s.size with
    | false => trivial
    | true =>
     rcases h with ⟨h0, rfl⟩ | ⟨h0, b, m, A, C, h1, rfl, h5, h6⟩
     ·exact ⟨none, 0, by simp [h0], by simp [h0], fun h => absurd h (by simp [h0])⟩
     ·obtain ⟨_, x, h2, h3, h4⟩ := pool_at ok hr hH h1
      have hx : l.getD i.toNat [] = x := by rw [List.getD_eq_getElem?_getD, h2]; rfl
      have hm : (if i < 0 then 0 else (l.getD i.toNat []).length) = m := by rw [if_neg (by omega), hx, h4]; rfl
      rw [hm]
      exact ⟨A, C, rfl, h5, fun hl => ⟨h0, b, m, h1, by omega, by rw [h6 hl]; simp⟩⟩
   ·trivial
  ·trivial
 ·exact h
theorem wl_rep {e : En} {r z n : Nat} {V : Value} (h : RepSc e (.sl r 0 z 0 n none) V) (hs : e.sz r = some (n * z)) : RepSc e (.wl r z) V := by
 obtain ⟨hr, hlen, A, C, rfl, hC, hA⟩ := h
 refine ⟨hr, A, n, C, rfl, hC, fun m hm => by rw [hs] at hm; exact (Option.some.inj hm).symm, fun h0 => ?_⟩
 obtain ⟨h2, h3, c, t, fz, h4, h5⟩ := hA h0
 exact ⟨by simpa using h2, h3, c, t, fz, h4, by simpa using h5⟩
/-! ### cells of the world -/
theorem cell_of {w : World} {a : Addr} {c : Array Value} {t : TypeId} {f : Nat × Nat} (hs : a.spot = none) (h : w.heap[a.block]? = some (.cells c t f)) : w.cell? a = c[a.off]? := by
 simp [World.cell?, h, hs]
theorem frozen_of {w : World} {a : Addr} {c : Array Value} {t : TypeId} (h : w.heap[a.block]? = some (.cells c t (0, 0))) : w.frozen? a = false := by
 simp [World.frozen?, h]
theorem add_block (a : Addr) (n : Nat) : (a.add n).block = a.block := by unfold Addr.add; split <;> rfl
theorem add_off (a : Addr) (n : Nat) : (a.add n).off = a.off + n := by unfold Addr.add; split <;> simp_all
theorem add_spot {a : Addr} (h : a.spot = none) (n : Nat) : (a.add n).spot = none := by unfold Addr.add; split <;> simp_all
theorem run_loadCells_of {P : Program} {w : World} {a : Addr} {c : Array Value} {t : TypeId} {f : Nat × Nat} (hs : a.spot = none) (h : w.heap[a.block]? = some (.cells c t f))
  {vs : List Value} (hv : ∀ j v, vs[j]? = some v → c[a.off + j]? = some v) : (loadCells a vs.length).run P w = .ok vs.toArray w :=
 run_loadCells_list (P := P) (w := w) a vs fun j v hj => by
  rw [cell_of (add_spot hs j) (by rw [add_block]; exact h), add_off]
  exact hv j v hj
theorem run_load_of {P : Program} {w : World} {a : Addr} {c : Array Value} {t : TypeId} {f : Nat × Nat} (hs : a.spot = none) (h : w.heap[a.block]? = some (.cells c t f))
  {v : Value} (hv : c[a.off]? = some v) (m : Mode) : (load a m).run P w = .ok v w := by
 rw [run_load, cell_of hs h, hv]
def splice (c : Array Value) (o : Nat) : List Value → Array Value
 | [] => c
 | v :: vs => splice (c.setIfInBounds o v) (o + 1) vs
theorem splice_size : ∀ (vs : List Value) (c : Array Value) (o : Nat), (splice c o vs).size = c.size
 | [], _, _ => rfl
 | v :: vs, c, o => by simp [splice, splice_size vs]
theorem splice_list : ∀ (vs : List Value) (c : Array Value) (o : Nat) (pre mid post : List Value), c.toList = pre ++ (mid ++ post) → pre.length = o → mid.length = vs.length →
  (splice c o vs).toList = pre ++ (vs ++ post)
 | [], c, o, pre, mid, post, h, _, hm => by
  have : mid = [] := List.eq_nil_of_length_eq_zero hm
  subst this
  exact h
 | v :: vs, c, o, pre, [], post, _, _, hm => by simp at hm
 | v :: vs, c, o, pre, m :: mid, post, h, ho, hm => by
  have := splice_list vs (c.setIfInBounds o v) (o + 1) (pre ++ [v]) mid post (by
   rw [Array.toList_setIfInBounds, h, List.set_append_right _ _ (by omega)]
   simp [ho]) (by simp [ho]) (by simpa using hm)
  simpa [splice] using this
theorem setB_setB (w : World) (b : Nat) (o o' : Go.Obj) : setB (setB w b o) b o' = setB w b o' := by
 simp [setB, Array.setIfInBounds_setIfInBounds]
theorem setB_self {w : World} {b : Nat} {o : Go.Obj} (h : w.heap[b]? = some o) : setB w b o = w := by
 obtain ⟨hb, rfl⟩ := Array.getElem?_eq_some_iff.1 h
 have e : w.heap.setIfInBounds b w.heap[b] = w.heap := by
  apply Array.ext_getElem?
  intro i
  rw [Array.getElem?_setIfInBounds]
  split
  ·rename_i e
   subst e
   simp
  ·rfl
 unfold setB
 rw [e]
theorem setCell_eq {w : World} {a : Addr} {c : Array Value} {t : TypeId} {f : Nat × Nat} (hs : a.spot = none) (h : w.heap[a.block]? = some (.cells c t f)) (v : Value) :
  w.setCell a v = setB w a.block (.cells (c.setIfInBounds a.off v) t f) := by
 obtain ⟨hb, hc⟩ := Array.getElem?_eq_some_iff.1 h
 unfold World.setCell setB
 congr 1
 apply Array.ext_getElem?
 intro i
 rw [Array.getElem?_modify, Array.getElem?_setIfInBounds]
 by_cases e : a.block = i
 ·subst e
  simp only [if_true, if_pos hb]
  rw [h]
  simp [hs]
 ·simp [e]
theorem run_storeCells_of {P : Program} {a : Addr} {t : TypeId} (hs : a.spot = none) : ∀ (vs : List Value) (i : Nat) (w : World) (c : Array Value), w.heap[a.block]? = some (.cells c t (0, 0)) →
  a.off + i + vs.length ≤ c.size → (∀ v ∈ vs, v.oneCell' = true) →
  (storeCells a vs i).run P w = .ok () (setB w a.block (.cells (splice c (a.off + i) vs) t (0, 0)))
 | [], i, w, c, h, _, _ => by simp [storeCells, splice, setB_self h]
 | v :: vs, i, w, c, h, hl, h1 => by
  have hcell : w.cell? (a.add i) = some (c[a.off + i]'(by simp at hl; omega)) := by
   rw [cell_of (add_spot hs i) (by rw [add_block]; exact h), add_off]
   exact Array.getElem?_eq_getElem _
  have hfr : w.frozen? (a.add i) = false := frozen_of (by rw [add_block]; exact h)
  have hset := setCell_eq (add_spot hs i) (by rw [add_block]; exact h : w.heap[(a.add i).block]? = _) v
  rw [add_block, add_off] at hset
  unfold storeCells
  simp only [Sem.run_bind]
  rw [run_store P w (a.add i) v .plain (h1 v (by simp)), hcell]
  simp only [hfr, Bool.false_eq_true, if_false, Result.andThen_ok]
  rw [hset, run_storeCells_of hs vs (i + 1) _ (c.setIfInBounds (a.off + i) v) (heap_setB_same (lt_of_heap h)) (by simp at hl ⊢; omega) (fun u hu => h1 u (by simp [hu])),
   setB_setB]
  rfl
end Go.Gx

namespace Go.Gx
structure Rel (w : World) (β : Nat → Loc) (F : Nat → Prop) (H : Heap) (fr : Fr) (a : Act) : Prop where
 ok : HeapOk w β F H
 defers : a.defers = []
 len : fr.length ≤ a.tmps.size
 slots : ∀ t, RepSlot (en w β F H) (fr.getD t .undef) (a.tmps.getD t undef)
def Res {R : Type} (w : World) (β : Nat → Loc) (F : Nat → Prop) (H : Heap) (x : R) (K : Slot → Heap → Option R) (v : Value) (w' : World) : Prop :=
 ∃ s H' β', HeapOk w' β' F H' ∧ Ext (en w β F H) (en w' β' F H') ∧ RepSlot (en w' β' F H') s v ∧ K s H' = some x
inductive OpOk {R : Type} (P : Program) (w : World) (β : Nat → Loc) (F : Nat → Prop) (H : Heap) (x : R) (K : Slot → Heap → Option R) : Result Next → Prop
 | value (v : Value) (w' : World) : Res w β F H x K v w' → OpOk P w β F H x K (.ok (.value v) w')
 | skip (w' : World) : Res w β F H x K undef w' → OpOk P w β F H x K (.ok .skip w')
 | enter (f : FuncId) (args : Array Value) (w' : World) : Calls P f args w' (fun e w'' => ∃ v, e = .returned v ∧ Res w β F H x K v w'') → OpOk P w β F H x K (.ok (.enter f args) w')
section
variable {R : Type} {P : Program} {w : World} {β : Nat → Loc} {F : Nat → Prop} {H : Heap} {fr : Fr} {a : Act} {x : R} {K : Slot → Heap → Option R}
theorem Res.same (ok : HeapOk w β F H) {s : Slot} {v : Value} (hs : RepSlot (en w β F H) s v) (hK : K s H = some x) : Res w β F H x K v w :=
 ⟨s, H, β, ok, Ext.refl _, hs, hK⟩
theorem run_value {m : Sem Value} {v : Value} {w' : World} (h : m.run P w = .ok v w') : (do pure (Next.value (← m)) : Sem Next).run P w = .ok (.value v) w' := by
 simp [h]
theorem run_skip {m : Sem Unit} {w' : World} (h : m.run P w = .ok () w') : (do m; pure Next.skip : Sem Next).run P w = .ok .skip w' := by
 simp [h]
/-! ### operands -/
theorem ofConst_rep {e : En} (v : Value) : RepSlot e (ofConst v) v := by
 unfold ofConst
 split <;> first | trivial | exact rfl
theorem evalO_rep (h : Rel w β F H fr a) (y : Operand) : RepSlot (en w β F H) (evalO fr y) (a.eval y) := by
 cases y with
 | tmp t => exact h.slots t
 | const v => exact ofConst_rep v
 | global g => trivial
 | func f => exact ⟨fun _ h => (nomatch h), rfl⟩
theorem evalS_rep (h : Rel w β F H fr a) (y : Operand) : RepSc (en w β F H) (evalS fr y) (a.eval y) := by
 have := evalO_rep h y
 unfold evalS
 split
 ·rename_i x hx; rw [hx] at this; exact this
 ·trivial
theorem evalSV_rep (h : Rel w β F H fr a) {y : Operand} {v : SV} (hv : evalSV fr y = some v) : RepSV (en w β F H) v (a.eval y) := by
 have := evalO_rep h y
 unfold evalSV at hv
 split at hv
 ·rename_i x hx
  cases hv
  rw [hx] at this
  exact this
 ·cases hv
theorem evalS_eq (h : Rel w β F H fr a) {y : Operand} {s : Sc} (hs : evalS fr y = s) : RepSc (en w β F H) s (a.eval y) := hs ▸ evalS_rep h y
/-! ### two operands, one operand -/
theorem toList_beq (a b : ByteArray) : (a.toList == b.toList) = decide (a = b) := by
 rw [Bool.eq_iff_iff]
 simp only [beq_iff_eq, decide_eq_true_eq]
 constructor
 ·intro h
  rw [ByteArray.toList_eq, ByteArray.toList_eq] at h
  obtain ⟨⟨x⟩⟩ := a
  obtain ⟨⟨y⟩⟩ := b
  simp at h
  rw [h]
 ·intro h; rw [h]
def Sup (w w' : World) : Prop := ∀ (b : Nat) (o : Go.Obj), w.heap[b]? = some o → w'.heap[b]? = some o
theorem Sup.refl (w : World) : Sup w w := fun _ _ h => h
theorem Sup.trans {a b c : World} (h : Sup a b) (k : Sup b c) : Sup a c := fun i o hi => k i o (h i o hi)
def Stays (P : Program) (m : Sem Value) (w : World) (v : Value) : Prop := ∀ w', Sup w w' → m.run P w' = .ok v w'
theorem run_mk {m : Sem Value} {K : Sc → Option R} {e : En} {r : Sc} {v : Value} (h : K r = some x) (hr : RepSc e r v) (hm : Stays P m w v) :
  ∃ r v, Stays P m w v ∧ RepSc e r v ∧ K r = some x := ⟨r, v, hm, hr, h⟩
theorem eq_nilnil (d : Nat) {t e : TypeId} (hd : P.underlying t = some (.pointer e)) (w : World) : (Op.equalIn (d + 1) t (.pointer none) (.pointer none)).run P w = .ok true w := by
 simp [Op.equalIn, run_underlying hd]
theorem eq_somenil (d : Nat) {t e : TypeId} (hd : P.underlying t = some (.pointer e)) (w : World) (A : Addr) : (Op.equalIn (d + 1) t (.pointer (some A)) (.pointer none)).run P w = .ok false w := by
 simp [Op.equalIn, run_underlying hd]
theorem nilp_ok {op : BinOp} {t : TypeId} {r : Bool} {A B : Option Addr} {K : Sc → Option R} {e : En} {p q : Operand}
  (h : (match op, P.underlying t with
   | .eql, some (.pointer _) => K (.bool r)
   | .neq, some (.pointer _) => K (.bool (!r))
   | _, _ => none) = some x)
  (he : ∀ {d : TypeId}, P.underlying t = some (.pointer d) → ∀ w, (Op.equalIn 10000 t (.pointer A) (.pointer B)).run P w = .ok r w) :
  ∃ s v, Stays P (do eqGuard op t p q (.pointer A) (.pointer B); binOp op t (.pointer A) (.pointer B) : Sem Value) w v ∧ RepSc e s v ∧ K s = some x := by
 split at h
 ·rename_i d hd
  exact run_mk h rfl (fun w _ => by rw [eqGuard_at_pointer]; simp [binOp, Op.equal, Op.maxDepth, he hd w])
 ·rename_i d hd
  exact run_mk h rfl (fun w _ => by rw [eqGuard_at_pointer]; simp [binOp, Op.equal, Op.maxDepth, he hd w])
 ·cases h
set_option maxHeartbeats 2000000 in
theorem exBin_ok {op : BinOp} {t : TypeId} {s u : Sc} {V U : Value} {K : Sc → Option R} {e : En} (h : exBin (P.underlying t) op s u K = some x) (hs : RepSc e s V) (hu : RepSc e u U) (w : World) (p q : Operand) :
  ∃ r v, Stays P (do eqGuard op t p q V U; binOp op t V U : Sem Value) w v ∧ RepSc e r v ∧ K r = some x := by
 unfold exBin at h
 split at h
 ·-- ints
  rename_i k m k' n
  obtain rfl : V = .int k m := hs
  obtain rfl : U = .int k' n := hu
  have other : ∀ y : Option R, (bif decide (k = k') then y else none) = some x → k = k' ∧ y = some x := fun y hy => by
   obtain ⟨h1, h2⟩ := bif_none hy
   exact ⟨by simpa using h1, h2⟩
  have divs : ∀ y : Option R, br (decide (n = 0)) none y = some x → ¬ n = 0 ∧ y = some x := fun y hy => by
   obtain ⟨h1, h2⟩ := br_none' hy
   exact ⟨by simpa using h1, h2⟩
  have shifts : ∀ y : Option R, br (decide (n < 0)) none y = some x → ¬ n < 0 ∧ y = some x := fun y hy => by
   obtain ⟨h1, h2⟩ := br_none' hy
   exact ⟨by simpa using h1, h2⟩
  cases op with
  | shl =>
   obtain ⟨h1, h2⟩ := shifts _ h
   exact run_mk h2 rfl (fun w _ => by simp [eqGuard, binOp, Op.shift, h1, shlI])
  | shr =>
   obtain ⟨h1, h2⟩ := shifts _ h
   exact run_mk h2 rfl (fun w _ => by simp [eqGuard, binOp, Op.shift, h1, shrI])
  | add => obtain ⟨rfl, h2⟩ := other _ h; exact run_mk h2 rfl (fun w _ => by simp [eqGuard, binOp, Op.intArith])
  | sub => obtain ⟨rfl, h2⟩ := other _ h; exact run_mk h2 rfl (fun w _ => by simp [eqGuard, binOp, Op.intArith])
  | mul => obtain ⟨rfl, h2⟩ := other _ h; exact run_mk h2 rfl (fun w _ => by simp [eqGuard, binOp, Op.intArith])
  | quo =>
   obtain ⟨rfl, h2⟩ := other _ h
   obtain ⟨h3, h4⟩ := divs _ h2
   exact run_mk h4 rfl (fun w _ => by simp [eqGuard, binOp, Op.intDiv, h3])
  | rem =>
   obtain ⟨rfl, h2⟩ := other _ h
   obtain ⟨h3, h4⟩ := divs _ h2
   exact run_mk h4 rfl (fun w _ => by simp [eqGuard, binOp, Op.intDiv, h3])
  | and => obtain ⟨rfl, h2⟩ := other _ h; exact run_mk h2 rfl (fun w _ => by simp [eqGuard, binOp, Op.intBits, band])
  | or => obtain ⟨rfl, h2⟩ := other _ h; exact run_mk h2 rfl (fun w _ => by simp [eqGuard, binOp, Op.intBits, bor])
  | xor => obtain ⟨rfl, h2⟩ := other _ h; exact run_mk h2 rfl (fun w _ => by simp [eqGuard, binOp, Op.intBits, bxor])
  | andNot => obtain ⟨rfl, h2⟩ := other _ h; exact run_mk h2 rfl (fun w _ => by simp [eqGuard, binOp, Op.intBits, bandnot])
  | eql => obtain ⟨rfl, h2⟩ := other _ h; exact run_mk h2 rfl (fun w _ => by simp [eqGuard, binOp, Op.intCmp]; rw [Bool.eq_iff_iff]; simp)
  | neq => obtain ⟨rfl, h2⟩ := other _ h; exact run_mk h2 rfl (fun w _ => by simp [eqGuard, binOp, Op.intCmp]; rw [Bool.eq_iff_iff]; simp)
  | lss => obtain ⟨rfl, h2⟩ := other _ h; exact run_mk h2 rfl (fun w _ => by simp [eqGuard, binOp, Op.intCmp])
  | leq => obtain ⟨rfl, h2⟩ := other _ h; exact run_mk h2 rfl (fun w _ => by simp [eqGuard, binOp, Op.intCmp])
  | gtr => obtain ⟨rfl, h2⟩ := other _ h; exact run_mk h2 rfl (fun w _ => by simp [eqGuard, binOp, Op.intCmp])
  | geq => obtain ⟨rfl, h2⟩ := other _ h; exact run_mk h2 rfl (fun w _ => by simp [eqGuard, binOp, Op.intCmp])
 ·-- bools
  rename_i m n
  obtain rfl : V = .bool m := hs
  obtain rfl : U = .bool n := hu
  split at h
  ·rename_i hd
   exact run_mk h rfl (fun w _ => by rw [eqGuard_at_bool]; simp [binOp, Op.equal, Op.maxDepth, run_equalIn_bool' w 9999 t m n hd])
  ·rename_i hd
   exact run_mk h rfl (fun w _ => by rw [eqGuard_at_bool]; simp [binOp, Op.equal, Op.maxDepth, run_equalIn_bool' w 9999 t m n hd])
  ·cases h
 ·-- strings
  rename_i m n
  obtain rfl : V = .string m := hs
  obtain rfl : U = .string n := hu
  split at h
  ·obtain ⟨hb, h⟩ := br_none h
   have : ¬ ((m.size + n.size : Nat) : Int) > IntKind.i64.max := by
    have : m.size + n.size < 2 ^ 40 := by simpa using hb
    rw [IntKind.max_i64]; omega
   exact run_mk h rfl (fun w _ => by simp only [eqGuard_at_string, binOp, Op.stringOp]; rw [if_neg this]; simp)
  ·exact run_mk h rfl (fun w _ => by simp [eqGuard_at_string, binOp, Op.stringOp, toList_beq])
  ·exact run_mk h rfl (fun w _ => by simp [eqGuard_at_string, binOp, Op.stringOp, toList_beq])
  ·cases h
 ·obtain rfl : V = .pointer none := hs
  obtain rfl : U = .pointer none := hu
  exact nilp_ok h (fun {_} hd w => eq_nilnil 9999 hd w)
 ·obtain ⟨_, rfl⟩ := hs
  obtain rfl : U = .pointer none := hu
  exact nilp_ok h (fun {_} hd w => eq_somenil 9999 hd w _)
 ·obtain ⟨_, rfl⟩ := hs
  obtain rfl : U = .pointer none := hu
  exact nilp_ok h (fun {_} hd w => eq_somenil 9999 hd w _)
 ·rename_i t' i
  obtain rfl : U = .pointer none := hu
  rcases hs with ⟨h0, rfl⟩ | ⟨h0, b, _, rfl⟩
  ·exact nilp_ok h (fun {_} hd w => by rw [decide_eq_true h0]; exact eq_nilnil 9999 hd w)
  ·exact nilp_ok h (fun {_} hd w => by rw [decide_eq_false (by omega)]; exact eq_somenil 9999 hd w _)
 ·cases h
theorem exUn_ok {op : UnOp} {s : Sc} {V : Value} {K : Sc → Option R} {e : En} (h : exUn op s K = some x) (hs : RepSc e s V) (w : World) :
  ∃ r v, Stays P (Op.unary op V) w v ∧ RepSc e r v ∧ K r = some x := by
 unfold exUn at h
 split at h
 ·obtain rfl : V = _ := hs
  exact run_mk h rfl (fun w _ => by simp [Op.unary])
 ·obtain rfl : V = _ := hs
  exact run_mk h rfl (fun w _ => by simp [Op.unary, Op.intArith])
 ·obtain rfl : V = _ := hs
  exact run_mk h rfl (fun w _ => by simp [Op.unary, Op.intBits, bxor])
 ·cases h
/-! ### sizes -/
theorem run_info {t : TypeId} {i : TypeInfo} (h : P.info? t = some i) (w : World) : (typeInfo t).run P w = .ok i w := by simp [typeInfo, h]
theorem run_size {t : TypeId} {i : TypeInfo} (h : P.info? t = some i) (w : World) : (sizeOf t).run P w = .ok i.size w := by simp [sizeOf, run_info h]
theorem info_of {t n : Nat} (h : P.cellsOf t = n + 1) : ∃ i, P.info? t = some i ∧ i.size = n + 1 := by
 unfold Program.cellsOf at h
 cases hi : P.info? t with
 | none => rw [hi] at h; simp at h
 | some i => rw [hi] at h; exact ⟨i, rfl, by simpa using h⟩
theorem run_sizeOf {t n : Nat} (h : P.cellsOf t = n + 1) (w : World) : (sizeOf t).run P w = .ok (n + 1) w := by
 obtain ⟨i, h1, h2⟩ := info_of h
 rw [run_size h1, h2]
theorem aggO_spec {t : TypeId} {agg : Bool} {n : Nat} (h : aggO P t = some (agg, n)) (w : World) :
  (isAgg t).run P w = .ok agg w ∧ (sizeOf t).run P w = .ok n w ∧ P.cellsOf t = n ∧ 0 < n := by
 unfold aggO at h
 split at h
 ·cases h
 ·cases h
 ·rename_i hd hn
  cases h
  exact ⟨by simp [isAgg, run_underlying hd], run_sizeOf hn w, hn, by omega⟩
 ·rename_i hd hn
  cases h
  exact ⟨by simp [isAgg, run_underlying hd], run_sizeOf hn w, hn, by omega⟩
 ·rename_i d n' h1 h2 hd hn
  cases h
  refine ⟨?_, run_sizeOf hn w, hn, by omega⟩
  cases d <;> first
   | (exact absurd rfl (h1 _))
   | (exact absurd rfl (h2 _ _))
   | (simp [isAgg, run_underlying hd])
theorem addr_add (e : En) (r o n : Nat) : (addr e r o).add n = addr e r (o + n) := by
 unfold addr Addr.add
 split
 ·rename_i h; subst h; rfl
 ·simp; omega
/-! ### places -/
theorem exFieldAddr_ok {t : TypeId} {s : Sc} {f : Nat} {V : Value} {K : Sc → Option R} {e : En} (h : exFieldAddr P t s f K = some x) (hs : RepSc e s V) (w : World) :
  ∃ r v, Stays P (Instr.fieldAt t V f) w v ∧ RepSc e r v ∧ K r = some x := by
 unfold exFieldAddr at h
 split at h
 ·rename_i fs hd
  split at h
  ·rename_i fd hf
   split at h
   ·cases h
   ·rename_i n hn
    have hsz := fun w => run_sizeOf (P := P) hn w
    split at h
    ·rename_i r o
     obtain ⟨hr, rfl⟩ := hs
     refine run_mk h ⟨hr, ?_⟩ (fun w _ => by simp [Instr.fieldAt, run_underlying hd, hf, Instr.sureAddr, fieldPlace, hsz]; rfl)
     rw [addr_add]
    ·rename_i r o i z
     obtain ⟨hr, rfl⟩ := hs
     refine run_mk h ⟨hr, ?_⟩ (fun w _ => by simp [Instr.fieldAt, run_underlying hd, hf, Instr.sureAddr, fieldPlace, hsz]; rfl)
     rw [addr_add, show o + i.toNat * z + fd.offset = o + fd.offset + i.toNat * z by omega]
    ·rename_i s l i o
     obtain ⟨hi, ad, hav, hrow, rfl⟩ := hs
     refine run_mk h ⟨hi, ad, hav, hrow, ?_⟩ (fun w _ => by simp [Instr.fieldAt, run_underlying hd, hf, Instr.sureAddr, fieldPlace, hsz]; rfl)
     unfold Addr.add
     split
     ·rename_i h0; simp [h0]
     ·first | (simp; done) | (simp; omega)
    ·rename_i t' i
     obtain ⟨hb, h⟩ := br_none h
     have h0 : 0 ≤ i := of_decide_eq_true hb
     rcases hs with ⟨h1, rfl⟩ | ⟨_, b, hb, rfl⟩
     ·omega
     refine run_mk h ⟨h0, b, 1, hb, by decide, ?_⟩ (fun w _ => by simp [Instr.fieldAt, run_underlying hd, hf, Instr.sureAddr, fieldPlace, hsz]; rfl)
     unfold Addr.add
     split
     ·rename_i h0; simp [h0]
     ·simp
    ·rename_i t' i j z o
     obtain ⟨h0, b, m, hb, hj, rfl⟩ := hs
     refine run_mk h ⟨h0, b, m, hb, hj, ?_⟩ (fun w _ => by simp [Instr.fieldAt, run_underlying hd, hf, Instr.sureAddr, fieldPlace, hsz]; rfl)
     unfold Addr.add
     split
     ·rename_i h0; simp [h0]
     ·first | (simp; done) | (simp; omega)
    ·cases h
  ·cases h
 ·cases h
theorem inB_spec {i : Int} {n : Nat} (h : inB i n = true) : 0 ≤ i ∧ i < n := by simpa [inB] using h
theorem leB_spec {i : Int} {n : Nat} (h : leB i n = true) : 0 ≤ i ∧ i ≤ n := by simpa [leB] using h
theorem addLo_toNat {lo : Nat} {i : Int} (h : 0 ≤ i) : (addLo lo i).toNat = lo + i.toNat := by
 cases lo with
 | zero => simp [addLo]
 | succ n => simp only [addLo]; omega
theorem chain_ok {mk : Nat → Sc} {i : Int} {K : Sc → Option R} : ∀ {k j : Nat}, chain mk i K j k = some x → ∃ q : Nat, j ≤ q ∧ q < j + k ∧ i = (q : Int) ∧ K (mk q) = some x
 | 0, j, h => by cases h
 | k + 1, j, h => by
  simp only [chain] at h
  rcases br_some h with ⟨h1, h2⟩ | ⟨_, h2⟩
  ·exact ⟨j, Nat.le_refl _, by omega, of_decide_eq_true h1, h2⟩
  ·obtain ⟨q, h3, h4, h5, h6⟩ := chain_ok h2
   exact ⟨q, by omega, by omega, h5, h6⟩
theorem exIndexAddr_ok {H : Heap} {t : TypeId} {s u : Sc} {V U : Value} {K : Sc → Option R} {e : En} (h : exIndexAddr P t H s u K = some x) (hs : RepSc e s V) (hu : RepSc e u U) (w : World) :
  ∃ r v, Stays P (Instr.indexAt t V U) w v ∧ RepSc e r v ∧ K r = some x := by
 unfold exIndexAddr at h
 split at h
 ·rename_i k i
  obtain rfl : U = .int k i := hu
  split at h
  ·rename_i n el r o hd
   split at h
   ·cases h
   ·rename_i z hz
    obtain ⟨hb, h⟩ := br_none h
    obtain ⟨h0, h1⟩ := inB_spec hb
    obtain ⟨hr, rfl⟩ := hs
    refine run_mk h ⟨hr, ?_⟩ (fun w _ => by simp [Instr.indexAt, asIntOf, run_underlying hd, Instr.sureAddr, h0, h1, run_sizeOf hz]; rfl)
    rw [addr_add]
  ·rename_i n el r o i0 z0 hd
   split at h
   ·cases h
   ·rename_i z hz
    cases hw : (Nat.ble n 8 && whole H r o z0) with
    | true =>
     rw [hw] at h
     obtain ⟨q, _, hq, rfl, hK⟩ := chain_ok h
     obtain ⟨hr, rfl⟩ := hs
     refine run_mk hK ⟨hr, ?_⟩ (fun w _ => by simp [Instr.indexAt, asIntOf, run_underlying hd, Instr.sureAddr, show q < n by omega, run_sizeOf hz]; rfl)
     rw [addr_add]
     congr 2
     simp [addr]
     omega
    | false =>
    rw [hw] at h
    simp only [cond_false] at h
    obtain ⟨hc, h⟩ := bif_none h
    obtain ⟨hb, h⟩ := br_none h
    rw [Bool.and_eq_true] at hb
    obtain ⟨h0, h1⟩ := inB_spec hb.1
    have h2 : 0 ≤ i0 := by simpa using hb.2
    have hz0 : z0 = n * (z + 1) := (Nat.eq_of_beq_eq_true hc).symm
    obtain ⟨hr, rfl⟩ := hs
    refine run_mk h ⟨hr, ?_⟩ (fun w _ => by simp [Instr.indexAt, asIntOf, run_underlying hd, Instr.sureAddr, h0, h1, run_sizeOf hz]; rfl)
    rw [addr_add]
    have : (i0 * (n : Int) + i).toNat = i0.toNat * n + i.toNat := by
     obtain ⟨a, rfl⟩ := Int.eq_ofNat_of_zero_le h2
     obtain ⟨b, rfl⟩ := Int.eq_ofNat_of_zero_le h0
     simp only [Int.toNat_natCast]
     omega
    rw [this, hz0, Nat.add_mul, Nat.mul_assoc, Nat.add_assoc]
  ·rename_i n el s l i0 o hd
   split at h
   ·cases h
   ·rename_i z hz
    obtain ⟨_, h⟩ := bif_none h
    obtain ⟨q, _, hq, rfl, hK⟩ := chain_ok h
    obtain ⟨hi, ad, hav, hrow, rfl⟩ := hs
    refine run_mk hK ⟨hi, ad, hav, hrow, ?_⟩ (fun w _ => by simp [Instr.indexAt, asIntOf, run_underlying hd, Instr.sureAddr, show q < n by omega, run_sizeOf hz]; rfl)
    unfold Addr.add
    split
    ·rename_i h0; simp [h0]
    ·simp [Nat.add_assoc]
  ·rename_i el r o z lo len cap hd
   obtain ⟨hc, h⟩ := bif_none h
   rw [Bool.and_eq_true] at hc
   have hz : P.cellsOf el = z := (Nat.eq_of_beq_eq_true hc.1).symm
   have hz0 : 0 < z := by simpa using hc.2
   obtain ⟨hb, h⟩ := br_none h
   obtain ⟨h0, h1⟩ := inB_spec hb
   obtain ⟨hr, hlen, A, C, rfl, hC, hA⟩ := hs
   have hC0 : 0 < C := by
    have : len ≤ C := Nat.le_trans hlen hC
    omega
   obtain ⟨rfl, _⟩ := hA hC0
   obtain ⟨z, rfl⟩ : ∃ y, z = y + 1 := ⟨z - 1, by omega⟩
   refine run_mk h ⟨hr, ?_⟩ (fun w _ => by simp [Instr.indexAt, asIntOf, run_underlying hd, h0, h1, run_sizeOf hz]; rfl)
   rw [addr_add, addLo_toNat h0, Nat.add_mul, Nat.add_assoc]
  ·rename_i el s l hd
   obtain ⟨hc, h⟩ := bif_none h
   rw [Bool.and_eq_true] at hc
   have hz : P.cellsOf el = s.size := (Nat.eq_of_beq_eq_true hc.1).symm
   have hz0 : 0 < s.size := by simpa using hc.2
   obtain ⟨hb, h⟩ := br_none h
   obtain ⟨h0, h1⟩ := inB_spec hb
   obtain ⟨A, C, rfl, hC, hl⟩ := hs
   have hne : l ≠ [] := by intro e; subst e; simp at h1; omega
   obtain ⟨ad, rfl, hav, hrow⟩ := hl hne
   obtain ⟨z, hz'⟩ : ∃ y, s.size = y + 1 := ⟨s.size - 1, by omega⟩
   rw [hz'] at hz
   refine run_mk h ⟨by omega, ad, hav, hrow, ?_⟩ (fun w _ => by simp [Instr.indexAt, asIntOf, run_underlying hd, h0, h1, run_sizeOf hz]; rfl)
   obtain ⟨hsp, _⟩ := hrow
   obtain ⟨b, off, sp⟩ := ad
   simp only at hsp
   subst hsp
   unfold Addr.add
   split
   ·rename_i hq; simp [hz', hq]
   ·simp [hz']
  ·rename_i el t' k z lo len hd
   obtain ⟨hc, h⟩ := bif_none h
   rw [Bool.and_eq_true] at hc
   have hz : P.cellsOf el = z := (Nat.eq_of_beq_eq_true hc.1).symm
   have hz0 : 0 < z := by simpa using hc.2
   obtain ⟨hb, h⟩ := br_none h
   obtain ⟨h0, h1⟩ := inB_spec hb
   obtain ⟨A, C, rfl, hC, hl⟩ := hs
   obtain ⟨h2, b, m, h3, h4, rfl⟩ := hl (by omega)
   obtain ⟨z, rfl⟩ : ∃ y, z = y + 1 := ⟨z - 1, by omega⟩
   refine run_mk h ⟨h2, b, m, h3, by rw [addLo_toNat h0]; omega, ?_⟩ (fun w _ => by simp [Instr.indexAt, asIntOf, run_underlying hd, h0, h1, run_sizeOf hz]; rfl)
   rw [addLo_toNat h0, Nat.add_mul]
   unfold Addr.add
   split
   ·rename_i hq
    have hq' : i.toNat = 0 := by
     rcases Nat.mul_eq_zero.1 hq with h | h
     ·exact h
     ·omega
    simp [hq']
   ·simp
  ·cases h
 ·cases h
/-! ### loads -/
theorem run_loadVar_agg {t : TypeId} {n : Nat} (ha : ∀ w, (isAgg t).run P w = .ok true w) (hn : ∀ w, (sizeOf t).run P w = .ok n w) {ad : Addr} {c : Array Value} {ty : TypeId} {f : Nat × Nat} (hs : ad.spot = none)
  (hc : w.heap[ad.block]? = some (.cells c ty f)) {vs : List Value} (hl : vs.length = n) (hv : ∀ j v, vs[j]? = some v → c[ad.off + j]? = some v) :
  Stays P (loadVar t ad) w (.agg vs.toArray) := fun w' hw => by
 subst hl
 simp [loadVar, ha, hn, run_loadCells_of hs (hw _ _ hc) hv]
theorem run_loadVar_one {t : TypeId} (ha : ∀ w, (isAgg t).run P w = .ok false w) {ad : Addr} {c : Array Value} {ty : TypeId} {f : Nat × Nat} (hs : ad.spot = none)
  (hc : w.heap[ad.block]? = some (.cells c ty f)) {v : Value} (hv : c[ad.off]? = some v) : Stays P (loadVar t ad) w v := fun w' hw => by
 simp only [loadVar, Sem.run_bind, ha, Result.andThen_ok, Bool.false_eq_true, if_false]
 exact run_load_of hs (hw _ _ hc) hv _
theorem obj_k (ok : HeapOk w β F H) {r : Nat} {sg : List Seg} (h : H[r]? = some (.cells sg)) (h0 : 0 < segsSize sg) : (β r).k := by
 obtain ⟨vs, h4, k0, hk⟩ := ok.obj r _ h
 refine Classical.byContradiction fun hn => ?_
 have := k0 hn
 omega
theorem obj_cells' (ok : HeapOk w β F H) {r : Nat} {sg : List Seg} (h : H[r]? = some (.cells sg)) (h0 : (β r).k) :
  ∃ (c : Array Value) (t : TypeId) (vs pre post : List Value), w.heap[(β r).b]? = some (.cells c t (0, 0)) ∧ c.toList = pre ++ vs ++ post ∧ pre.length = (β r).o ∧
   RepSegs (en w β F H) sg vs ∧ vs.length = segsSize sg ∧ ∀ j v, vs[j]? = some v → c[(β r).o + j]? = some v := by
 obtain ⟨vs, h4, _, hk⟩ := ok.obj r _ h
 obtain ⟨c, t, pre, post, h1, h2, h3⟩ := hk h0
 refine ⟨c, t, vs, pre, post, h1, h2, h3, h4, h4.len, fun j v hj => ?_⟩
 have hlt := (List.getElem?_eq_some_iff.1 hj).1
 have h3' : pre.length = (β r).o := h3
 rw [← Array.getElem?_toList, h2, ← h3', List.append_assoc, List.getElem?_append_right (by omega), show pre.length + j - pre.length = j by omega, List.getElem?_append_left hlt]
 exact hj
theorem obj_cells (ok : HeapOk w β F H) {r : Nat} {sg : List Seg} (h : H[r]? = some (.cells sg)) (h0 : 0 < segsSize sg) :
  ∃ (c : Array Value) (t : TypeId) (vs pre post : List Value), w.heap[(β r).b]? = some (.cells c t (0, 0)) ∧ c.toList = pre ++ vs ++ post ∧ pre.length = (β r).o ∧
   RepSegs (en w β F H) sg vs ∧ vs.length = segsSize sg ∧ ∀ j v, vs[j]? = some v → c[(β r).o + j]? = some v := obj_cells' ok h (obj_k ok h h0)
theorem getD_of {α : Type} {l : List α} {i : Nat} (h : i < l.length) (d : α) : l.getD i d = l[i] := by simp [List.getD, h]
theorem seek_size : ∀ {sg g : List Seg} {o f : Nat}, seek sg o = some (g, f) → segsSize g ≤ segsSize sg
 | [], _, _, _, h => by cases h
 | .c x :: r, g, 0, f, h => by simp only [seek] at h; cases h; exact Nat.le_refl _
 | .c x :: r, g, o + 1, f, h => by
  simp only [seek] at h
  have := seek_size h
  simp [segsSize]; omega
 | .row s n l :: r, g, o, f, h => by
  simp only [seek] at h
  cases hb : Nat.blt o s.size with
  | true => rw [hb] at h; cases h; exact Nat.le_refl _
  | false =>
   rw [hb] at h
   cases hc : Nat.blt o (n * s.size) with
   | true => rw [hc] at h; cases h; exact Nat.le_refl _
   | false =>
    rw [hc] at h
    have := seek_size h
    simp only [segsSize]; omega
theorem takeSegs_size : ∀ {sg a b : List Seg} {n : Nat}, takeSegs sg n = some (a, b) → n ≤ segsSize sg
 | _, _, _, 0, _ => Nat.zero_le _
 | [], _, _, _ + 1, h => by cases h
 | .c x :: r, a, b, n + 1, h => by
  simp only [takeSegs] at h
  split at h
  ·rename_i h'
   have := takeSegs_size h'
   simp [segsSize, segSize]; omega
  ·cases h
 | .row s m l :: r, a, b, n + 1, h => by
  simp only [takeSegs] at h
  cases hb : Nat.ble (m * s.size) (n + 1) with
  | false => rw [hb] at h; cases h
  | true =>
   rw [hb] at h
   simp only [cond_true] at h
   split at h
   ·rename_i h'
    have := takeSegs_size h'
    have := Nat.le_of_ble_eq_true hb
    simp [segsSize, segSize]; omega
   ·cases h
theorem pick_ok {agg : Bool} {n : Nat} {cs : List Sc} {vs : List Value} {e : En} (hr : RepScs e cs vs) (hn : n ≤ vs.length) (h0 : 0 < n) {t : TypeId} {ad : Addr} {c : Array Value} {ty : TypeId} {f : Nat × Nat}
  (ha : ∀ w, (isAgg t).run P w = .ok agg w) (hsz : ∀ w, (sizeOf t).run P w = .ok n w) (hs : ad.spot = none) (hc : w.heap[ad.block]? = some (.cells c ty f)) (hv : ∀ j v, vs[j]? = some v → c[ad.off + j]? = some v) :
  ∃ v, Stays P (loadVar t ad) w v ∧ RepSV e (pickSV agg cs n) v := by
 cases agg with
 | true =>
  refine ⟨_, run_loadVar_agg (vs := vs.take n) ha hsz hs hc (by simp; omega) fun j v hj => hv j v ?_, _, rfl, (hr.take n).segs⟩
  have := (List.getElem?_eq_some_iff.1 hj).1
  simp at this
  rwa [List.getElem?_take_of_lt (by omega)] at hj
 | false =>
  cases cs with
  | nil => rw [show vs = [] from hr] at hn; simp at hn; omega
  | cons x cs =>
   obtain ⟨V, v', rfl, _, h1, _⟩ := hr
   exact ⟨V, run_loadVar_one ha hs hc (by have := hv 0 V rfl; simpa using this), h1⟩
theorem loadAt_ok {agg : Bool} {n : Nat} {t : TypeId} {p : Sc} {V : Value} {K : SV → Option R} (ht : aggO P t = some (agg, n)) (h : loadAt agg n H p K = some x) (ok : HeapOk w β F H)
  (hp : RepSc (en w β F H) p V) : ∃ r v, Stays P (Instr.loadAt t V) w v ∧ RepSV (en w β F H) r v ∧ K r = some x := by
 obtain ⟨_, _, _, hn0⟩ := aggO_spec ht w
 have ha := fun w => (aggO_spec ht w).1
 have hsz := fun w => (aggO_spec ht w).2.1
 unfold loadAt at h
 split at h
 ·-- an address
  rename_i r o
  obtain ⟨hr, rfl⟩ := hp
  have hrun : ∀ {v}, Stays P (loadVar t (addr (en w β F H) r o)) w v → Stays P (Instr.loadAt t (.pointer (some (addr (en w β F H) r o)))) w v := fun h w' hw => by
   simp [Instr.loadAt, Instr.sureAddr, h w' hw]
  split at h
  ·rename_i sg hH
   split at h
   ·-- a cell first
    rename_i y g hsk
    have h0 : 0 < segsSize sg := Nat.lt_of_lt_of_le (by simp [segsSize, segSize]; omega) (seek_size hsk)
    obtain ⟨c, ty, vs, pre, post, hc, _, _, hvs, _, hcell⟩ := obj_cells ok hH h0
    obtain ⟨u, v, rfl, hu, hv⟩ := seek_rep sg o _ 0 vs hsk hvs
    have hcell' : ∀ j z, v[j]? = some z → c[(addr (en w β F H) r o).off + j]? = some z := fun j z hj => by
     have := hcell (u.length + j) z (by rw [List.getElem?_append_right (by omega), show u.length + j - u.length = j by omega]; exact hj)
     rw [show (addr (en w β F H) r o).off + j = (β r).o + (u.length + j) by simp [addr, en]; omega]
     exact this
    split at h
    ·split at h
     ·rename_i a b hab
      obtain ⟨q, q', rfl, hq, hqa, _⟩ := takeSegs_rep _ n a b v hab hv
      exact ⟨.agg a, _, hrun (run_loadVar_agg (vs := q) ha hsz rfl hc hq fun j z hj => hcell' j z (by
       rw [List.getElem?_append_left (List.getElem?_eq_some_iff.1 hj).1]; exact hj)), ⟨q, rfl, hqa⟩, h⟩
     ·cases h
    ·obtain ⟨Y, v', rfl, _, hY, _⟩ := hv
     exact ⟨.v y, Y, hrun (run_loadVar_one ha rfl hc (hcell' 0 Y rfl)), hY, h⟩
   ·-- a row first
    rename_i s m l g hsk
    split at h
    ·split at h
     ·rename_i a b hab
      have h0 : 0 < segsSize sg := by
       have h1 := seek_size hsk
       have h2 := takeSegs_size hab
       omega
      obtain ⟨c, ty, vs, pre, post, hc, _, _, hvs, _, hcell⟩ := obj_cells ok hH h0
      obtain ⟨u, v, rfl, hu, hv⟩ := seek_rep sg o _ 0 vs hsk hvs
      obtain ⟨q, q', rfl, hq, hqa, _⟩ := takeSegs_rep _ n a b v hab hv
      refine ⟨.agg a, _, hrun (run_loadVar_agg (vs := q) ha hsz rfl hc hq fun j z hj => ?_), ⟨q, rfl, hqa⟩, h⟩
      have := hcell (u.length + j) z (by
       rw [List.getElem?_append_right (by omega), show u.length + j - u.length = j by omega, List.getElem?_append_left (List.getElem?_eq_some_iff.1 hj).1]; exact hj)
      rw [show (addr (en w β F H) r o).off + j = (β r).o + (u.length + j) by simp [addr, en]; omega]
      exact this
     ·cases h
    ·cases h
   ·cases h
  ·cases h
 ·-- an element
  rename_i r o i z
  obtain ⟨hr, rfl⟩ := hp
  have hrun : ∀ {v}, Stays P (loadVar t (addr (en w β F H) r (o + i.toNat * z))) w v → Stays P (Instr.loadAt t (.pointer (some (addr (en w β F H) r (o + i.toNat * z))))) w v := fun h w' hw => by
   simp [Instr.loadAt, Instr.sureAddr, h w' hw]
  split at h
  ·rename_i s l hH
   obtain ⟨hz, h1⟩ := bif_none h
   clear h
   rw [Bool.and_eq_true] at hz
   obtain rfl : z = s.size := Nat.eq_of_beq_eq_true hz.1
   have hfo : o + n ≤ s.size := Nat.le_of_ble_eq_true hz.2
   obtain ⟨hb, h⟩ := br_none h1
   have hi : i.toNat < l.length := by simpa using hb
   obtain ⟨_, hrow⟩ := ok.obj r _ hH (by intro e; subst e; simp at hi)
   obtain ⟨hsp, c, ty, fz, hc, hel⟩ := hrow
   obtain ⟨vs, hvl, hrep, hcell⟩ := hel i.toNat l[i.toNat] (by simp [hi])
   rw [getD_of hi] at h
   obtain ⟨v, hv1, hv2⟩ := pick_ok (agg := agg) (n := n) ((RepT.enc (e := en w β F H) s _ vs hrep).drop o) (by simp [hvl]; omega) hn0 ha hsz
    (ad := addr (en w β F H) r (o + i.toNat * s.size)) rfl hc fun j y hj => by
     rw [List.getElem?_drop] at hj
     have := hcell (o + j) y hj
     rw [show (addr (en w β F H) r (o + i.toNat * s.size)).off + j = (addr (en w β F H) r 0).off + i.toNat * s.size + (o + j) by simp [addr]; omega]
     exact this
   exact ⟨_, v, fun w' hw => by simp [Instr.loadAt, Instr.sureAddr, hv1 w' hw], hv2, h⟩
  ·rename_i sg hH
   split at h
   ·rename_i s m l g fo hsk
    cases hz : (Nat.beq z s.size && Nat.ble (fo + n) s.size) with
    | true =>
     rw [hz] at h
     simp only [cond_true] at h
     rw [Bool.and_eq_true] at hz
     obtain rfl : z = s.size := Nat.eq_of_beq_eq_true hz.1
     have hfo : fo + n ≤ s.size := Nat.le_of_ble_eq_true hz.2
     obtain ⟨hb, hK⟩ := br_none h
     clear h
     have him : i.toNat < m := by simpa using hb
     have h0 : 0 < segsSize sg := by
      refine Nat.lt_of_lt_of_le ?_ (seek_size hsk)
      have : 0 < m * s.size := Nat.mul_pos (by omega) (by omega)
      simp [segsSize, segSize]; omega
     obtain ⟨c, ty, vs, pre, post, hc, _, _, hvs, _, hcell⟩ := obj_cells ok hH h0
     obtain ⟨u, v, rfl, hu, hlm, rv, v', rfl, hrow, _⟩ := seek_rep sg o _ fo vs hsk hvs
     subst hlm
     obtain ⟨p1, p2, p3, rfl, hp1, hp2, _, _⟩ := hrow.at him
     rw [getD_of him] at hK
     obtain ⟨v, hv1, hv2⟩ := pick_ok (agg := agg) (n := n) ((RepT.enc (e := en w β F H) s _ p2 hp2).drop fo) (by simp [hp2.size]; omega) hn0 ha hsz
      (ad := addr (en w β F H) r (o + i.toNat * s.size)) rfl hc fun j y hj => by
       rw [List.getElem?_drop] at hj
       have hlt := (List.getElem?_eq_some_iff.1 hj).1
       have := hcell (u.length + (p1.length + (fo + j))) y (by
        rw [List.getElem?_append_right (by omega), show u.length + (p1.length + (fo + j)) - u.length = p1.length + (fo + j) by omega,
         List.getElem?_append_left (by simp; omega), List.getElem?_append_right (by omega), show p1.length + (fo + j) - p1.length = fo + j by omega,
         List.getElem?_append_left hlt]
        exact hj)
       rw [show (addr (en w β F H) r (o + i.toNat * s.size)).off + j = (β r).o + (u.length + (p1.length + (fo + j))) by simp [addr, en]; omega]
       exact this
     exact ⟨_, v, hrun hv1, hv2, hK⟩
    | false =>
     rw [hz] at h
     simp only [cond_false] at h
     split at h
     ·obtain ⟨hc1, h⟩ := bif_none h
      simp only [Bool.and_eq_true] at hc1
      obtain ⟨⟨hnz, hq⟩, hs0⟩ := hc1
      obtain rfl : n = z := Nat.eq_of_beq_eq_true hnz
      have hq : n / s.size * s.size = n := Nat.eq_of_beq_eq_true hq
      have hs0 : 0 < s.size := by simpa using hs0
      generalize n / s.size = q at hq h
      obtain ⟨hb, hK⟩ := br_none h
      clear h
      have him : (i.toNat + 1) * q ≤ m := by simpa using hb
      have hq0 : 0 < q := Nat.pos_of_ne_zero fun e => by subst e; omega
      have h0 : 0 < segsSize sg := by
       refine Nat.lt_of_lt_of_le ?_ (seek_size hsk)
       have : 0 < m * s.size := Nat.mul_pos (by rw [Nat.succ_mul] at him; omega) (by omega)
       simp [segsSize, segSize]; omega
      obtain ⟨c, ty, vs, pre, post, hc, _, _, hvs, _, hcell⟩ := obj_cells ok hH h0
      obtain ⟨u, v, rfl, hu, hlm, rv, v', rfl, hrow, _⟩ := seek_rep sg o _ 0 vs hsk hvs
      subst hlm
      have hrl := hrow.len
      have hle : i.toNat * q * s.size + n ≤ rv.length := by
       rw [hrl, ← hq, ← Nat.add_mul]
       exact Nat.mul_le_mul_right _ (by rw [Nat.succ_mul] at him; exact him)
      have hsub := hrow.sub (i.toNat * q) q
      rw [hq] at hsub
      refine ⟨.agg [.row s q (sub l (i.toNat * q) q)], _, hrun (run_loadVar_agg (vs := (rv.drop (i.toNat * q * s.size)).take n) ha hsz rfl hc (by simp; omega) fun j y hj => ?_), ⟨_, rfl, ?_⟩, hK⟩
      ·have hlt := (List.getElem?_eq_some_iff.1 hj).1
       simp at hlt
       rw [List.getElem?_take_of_lt (by omega), List.getElem?_drop] at hj
       have := hcell (u.length + (i.toNat * q * s.size + j)) y (by
        rw [List.getElem?_append_right (by omega), show u.length + (i.toNat * q * s.size + j) - u.length = i.toNat * q * s.size + j by omega,
         List.getElem?_append_left (by omega)]
        exact hj)
       rw [show (addr (en w β F H) r (o + i.toNat * n)).off + j = (β r).o + (u.length + (i.toNat * q * s.size + j)) by
        rw [Nat.mul_assoc, hq]; simp [addr, en]; omega]
       exact this
      ·refine ⟨?_, _, [], by simp, hsub, rfl⟩
       simp only [sub, List.length_take, List.length_drop]
       rw [Nat.succ_mul] at him
       omega
     ·cases h
   ·cases h
  ·cases h
 ·-- an element of a list
  rename_i s l i o
  obtain ⟨hb, h⟩ := bif_none h
  have hfo : o + n ≤ s.size := Nat.le_of_ble_eq_true hb
  obtain ⟨hi, ad, hav, hrow, rfl⟩ := hp
  obtain ⟨hsp, c, ty, fz, hc, hel⟩ := hrow
  obtain ⟨vs, hvl, hrep, hcell⟩ := hel i.toNat l[i.toNat] (by simp [hi])
  rw [getD_of hi] at h
  obtain ⟨v, hv1, hv2⟩ := pick_ok (agg := agg) (n := n) ((RepT.enc (e := en w β F H) s _ vs hrep).drop o) (by simp [hvl]; omega) hn0 ha hsz
   (ad := ⟨ad.block, ad.off + i.toNat * s.size + o, none⟩) rfl hc fun j y hj => by
    rw [List.getElem?_drop] at hj
    have := hcell (o + j) y hj
    rw [← Nat.add_assoc] at this
    exact this
  exact ⟨_, v, fun w' hw => by simp [Instr.loadAt, Instr.sureAddr, hv1 w' hw], hv2, h⟩
 ·-- one of a pool's
  rename_i t' i
  split at h
  ·rename_i r hr
   split at h
   ·rename_i t2 s l hH
    obtain ⟨hb, h1⟩ := bif_none h
    clear h
    have hfo : n ≤ s.size := Nat.le_of_ble_eq_true hb
    obtain ⟨hb, h⟩ := br_none h1
    have h0 : 0 ≤ i := of_decide_eq_true hb
    rcases hp with ⟨h1, rfl⟩ | ⟨_, b, hb, rfl⟩
    ·omega
    obtain ⟨_, y, hy, rfl, _⟩ := pool_at ok hr hH hb
    obtain ⟨c, ty, hc, vs, post, hcl, hrep⟩ := (ok.obj r _ hH).1 i.toNat y hy
    have hg : l.getD i.toNat s.zero = y := by rw [List.getD_eq_getElem?_getD, hy]; rfl
    rw [hg] at h
    have hvl := hrep.size
    obtain ⟨v, hv1, hv2⟩ := pick_ok (agg := agg) (n := n) (RepT.enc (e := en w β F H) s _ vs hrep) (by omega) hn0 ha hsz
     (ad := ⟨(β r).e i.toNat, 0, none⟩) rfl hc fun j y hj => by
      rw [Nat.zero_add, ← Array.getElem?_toList, hcl, List.getElem?_append_left (List.getElem?_eq_some_iff.1 hj).1]
      exact hj
    exact ⟨_, v, fun w' hw => by simp [Instr.loadAt, Instr.sureAddr, hv1 w' hw], hv2, h⟩
   ·cases h
  ·cases h
 ·rename_i t' i j z o
  split at h
  ·rename_i r hr
   split at h
   ·rename_i t2 s l hH
    obtain ⟨hb, h1⟩ := bif_none h
    clear h
    have h := h1
    clear h1
    rw [Bool.and_eq_true] at hb
    obtain rfl : z = 0 := Nat.eq_of_beq_eq_true hb.1
    have hfo : o + n ≤ s.size := Nat.le_of_ble_eq_true hb.2
    obtain ⟨h0, b, m, hb, _, rfl⟩ := hp
    obtain ⟨_, y, hy, rfl, _⟩ := pool_at ok hr hH hb
    obtain ⟨c, ty, hc, vs, post, hcl, hrep⟩ := (ok.obj r _ hH).1 i.toNat y hy
    have hg : l.getD i.toNat s.zero = y := by rw [List.getD_eq_getElem?_getD, hy]; rfl
    rw [hg] at h
    have hvl := hrep.size
    obtain ⟨v, hv1, hv2⟩ := pick_ok (agg := agg) (n := n) ((RepT.enc (e := en w β F H) s _ vs hrep).drop o) (by simp; omega) hn0 ha hsz
     (ad := ⟨(β r).e i.toNat, o, none⟩) rfl hc fun q y hj => by
      rw [List.getElem?_drop] at hj
      rw [← Array.getElem?_toList, hcl, List.getElem?_append_left (List.getElem?_eq_some_iff.1 hj).1]
      exact hj
    exact ⟨_, v, fun w' hw => by simp [Instr.loadAt, Instr.sureAddr, hv1 w' hw], hv2, h⟩
   ·rename_i t2 s l hH
    obtain ⟨hb, h1⟩ := bif_none h
    clear h
    have h := h1
    clear h1
    rw [Bool.and_eq_true] at hb
    obtain rfl : z = s.size := Nat.eq_of_beq_eq_true hb.1
    have hfo : o + n ≤ s.size := Nat.le_of_ble_eq_true hb.2
    obtain ⟨h0, b, m, hb, hj, rfl⟩ := hp
    obtain ⟨_, y, hy, rfl, rfl⟩ := pool_at ok hr hH hb
    obtain ⟨c, ty, hc, vs, post, hcl, hrow⟩ := (ok.obj r _ hH).1 i.toNat y hy
    have hg : l.getD i.toNat [] = y := by rw [List.getD_eq_getElem?_getD, hy]; rfl
    have hj : j.toNat < y.length := hj
    rw [hg, getD_of hj] at h
    obtain ⟨p1, p2, p3, rfl, hp1, hp2, _, _⟩ := hrow.at hj
    have hvl := hp2.size
    obtain ⟨v, hv1, hv2⟩ := pick_ok (agg := agg) (n := n) ((RepT.enc (e := en w β F H) s _ p2 hp2).drop o) (by simp; omega) hn0 ha hsz
     (ad := ⟨(β r).e i.toNat, j.toNat * s.size + o, none⟩) rfl hc fun q y hj => by
      rw [List.getElem?_drop] at hj
      have hlt := (List.getElem?_eq_some_iff.1 hj).1
      rw [← Array.getElem?_toList, hcl, show j.toNat * s.size + o + q = p1.length + (o + q) by omega, List.append_assoc, List.getElem?_append_right (by omega),
       show p1.length + (o + q) - p1.length = o + q by omega, List.append_assoc, List.getElem?_append_left hlt]
      exact hj
    exact ⟨_, v, fun w' hw => by simp [Instr.loadAt, Instr.sureAddr, hv1 w' hw], hv2, h⟩
   ·cases h
  ·cases h
 ·cases h
end
end Go.Gx
