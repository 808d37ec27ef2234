/-
  Gx, part X: a law's call: true, and all that was there is as it was.
-/
import Derived.Test.YteagdmkedffplaaGxW
import Derived.ChangeSame
import Derived.WideKeyArgs
namespace Go.Gx
section
variable {P : Program} {T : Table}

/-- the world has grown: what was there is as it was -/
structure Gone (w w' : World) : Prop where
  size : w.heap.size ≤ w'.heap.size
  kept : ∀ b : Nat, b < w.heap.size → w'.heap[b]? = w.heap[b]?
  out : w'.os = w.os ∧ w'.output = w.output
  froz : ∀ a : Addr, w'.frozen? a = w.frozen? a

def isTrue (s : Slot) : Option Unit := match s with
  | .sv (.v (.bool b)) => bif b then some () else none
  | _ => none

def β0 : Nat → Loc := fun _ => ⟨0, 0, False⟩
def F0 : Nat → Prop := fun _ => False

theorem heap0 (w : World) : HeapOk w β0 F0 [] := ⟨fun r o h => by simp at h, fun r o h => by simp at h, fun r r' o o' h => by simp at h, fun b h => h.elim⟩

theorem av0 {w : World} {b : Nat} : ¬ (en w β0 F0 []).av b := by
  rintro (⟨r, o, h, _⟩ | h)
  · simp at h
  · exact h

theorem isTrue_spec {e : En} {s : Slot} {v : Value} {x : Unit} (h : isTrue s = some x) (hs : RepSlot e s v) : v = .bool true := by
  unfold isTrue at h
  split at h
  · rename_i b
    cases b with
    | true => exact hs
    | false => cases h
  · cases h

theorem Gone.of {w w' : World} {β' : Nat → Loc} {H' : Heap} (h : Ext (en w β0 F0 []) (en w' β' F0 H')) : Gone w w' := by
  have hno : ∀ b, ¬ (en w β0 F0 []).Own b := fun b hb => av0 (.inl hb)
  have hk : ∀ b : Nat, b < w.heap.size → w'.heap[b]? = w.heap[b]? := fun b hb => h.kept b hb (hno b)
  refine ⟨h.size, hk, h.out, fun a => ?_⟩
  unfold World.frozen?
  by_cases hb : a.block < w.heap.size
  · rw [hk _ hb]
  · have hw : w.heap[a.block]? = none := by simp; omega
    rw [hw]
    cases hc : w'.heap[a.block]? with
    | none => rfl
    | some o =>
      cases o with
      | cells c t f =>
        rcases h.froz a.block c t f hc with rfl | ⟨c', h'⟩
        · simp
        · have h' : w.heap[a.block]? = _ := h'
          rw [hw] at h'
          cases h'
      | _ => rfl

/-- a law: its entry hands on 'true' -/
theorem law_calls {f : FuncId} {E : Ent} (hE : EntOK P f E) {args : List SV} {vs : List Value} {w : World} (ha : RepSVs (en w β0 F0 []) args vs) (h : E.run args [] (fun s _ => isTrue s) = some ()) :
    Calls P f vs.toArray w fun e w' => ∃ v, e = .returned v ∧ v = .bool true ∧ Gone w w' :=
  Calls.mono (hE.run (heap0 w) ha h) fun e w' => by
    rintro ⟨v, he, s, H', β', ok, hx, hs, hK⟩
    exact ⟨v, he, isTrue_spec hK hs, .of hx⟩

/-- the same of a body -/
theorem law_body (hT : TabOK P T) {f : FuncId} {fn : Func} {c : Code} (hf : P.funcs[f]? = some fn) (hb : fn.body = some c) {pl : Plan} {ls : Nat → LSpec} (hL : ∀ pins, LoopsOK P ⟨pins, fn.ntmps, ls, pl.rows⟩ c 0)
    {args : List SV} {vs : List Value} {w : World} (ha : RepSVs (en w β0 F0 []) args vs) (h : exBody P T fn pl ls args [] (fun s _ => isTrue s) = some ()) :
    Calls P f vs.toArray w fun e w' => ∃ v, e = .returned v ∧ v = .bool true ∧ Gone w w' :=
  Calls.mono (exBody_calls hT hf hb hL h (heap0 w) ha) fun e w' => by
    rintro ⟨v, he, s, H', β', ok, hx, hs, hK⟩
    exact ⟨v, he, isTrue_spec hK hs, .of hx⟩

theorem Gone.keptBut {w w' : World} (h : Gone w w') (may : MemPlace → Prop) : w.keptBut w' may := by
  refine ⟨h.out.1, h.out.2, fun i hi => ?_⟩
  rw [h.kept i hi]
  cases w.heap[i]? with
  | none => rfl
  | some o =>
    cases o with
    | cells c t f => exact ⟨rfl, rfl, rfl, fun _ _ => rfl⟩
    | map es c => exact .inr ⟨rfl, rfl⟩
    | _ => rfl

theorem Gone.sameAt {w w' : World} (h : Gone w w') {p : MemPlace} (hp : p.block < w.heap.size) : w.sameAt w' p := by
  cases p with
  | cell b o =>
    have := h.kept b hp
    simp only [World.sameAt, World.cell?, this]
  | map b => exact h.kept b hp

end
end Go.Gx
