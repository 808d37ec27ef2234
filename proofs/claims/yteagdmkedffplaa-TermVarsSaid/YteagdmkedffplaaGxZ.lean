/-
  Gx, part Z: entries for functions of Go's library whose contracts the kit holds.
-/
import Derived.Test.YteagdmkedffplaaGxY
import Derived.Shelf.Strings.Search1
namespace Go.Gx

/-- an entry that a contract bears out: the world is as it was -/
theorem EntOK.same {P : Program} {f : FuncId} {fn : Func} (hf : P.funcs[f]? = some fn) (hn : (fn.name == "runtime.NumGoroutine") = false) (hb : fn.body.isNone = false) {l : List Var}
    (h : ∀ v ∈ l, ∀ {R : Type} (t : ArgT v.a) (u : HeapT v.g) (K : Slot → Heap → Option R) (x : R) (w : World) (β : Nat → Loc) (F : Nat → Prop) (vs : List Value), HeapOk w β F (putH v.g u) →
      RepSVs (en w β F (putH v.g u)) (putA v.a t) vs → v.m t u K = some x → ∃ s V, Calls P f vs.toArray w (fun e w' => e = .returned V ∧ w' = w) ∧ RepSlot (en w β F (putH v.g u)) s V ∧ K s (putH v.g u) = some x) : EntOK P f (.of l) := by
  refine ⟨⟨fn, hf, hn, hb⟩, fun {R w β F G args vs K x} ok ha hr => ?_⟩
  obtain ⟨v, hv, t, u, rfl, rfl, hx⟩ := runVars_some (good_heap ok) hr
  obtain ⟨s, V, h1, h2, h3⟩ := h v hv t u K x w β F vs ok ha hx
  refine h1.mono fun e w' => ?_
  rintro ⟨he, rfl⟩
  exact ⟨V, he, s, _, β, ok, Ext.refl _, h2, h3⟩

def stringslite_IndexByte {R : Type} (x0 : ByteArray) (x1 : Int) (k0 : Int → Option R) : Option R := k0 (Lib.indexByte x0.data.toList x1.toNat.toUInt8)
def stringslite_IndexByte_W (f : {R : Type} → ByteArray → Int → (Int → Option R) → Option R) : Var := ⟨[.v .str, .v (.int .u8)], [], fun t _ K => f t.1 t.2.1 (fun y0 => K (.sv (.v (.int .i64 y0))) [])⟩
def E_stringslite_IndexByte : Ent := .of [stringslite_IndexByte_W stringslite_IndexByte]
theorem stringslite_IndexByte_ent {P : Program} {f : FuncId} {fn : Func} (hf : P.funcs[f]? = some fn) (hn : (fn.name == "runtime.NumGoroutine") = false) (hb : fn.body.isNone = false)
    (h : ∀ (s : ByteArray) (c : Int) (w : World), Calls P f #[.string s, .int .u8 c] w fun e w' => e = .returned (.int .i64 (Lib.indexByte s.data.toList c.toNat.toUInt8)) ∧ w' = w) : EntOK P f E_stringslite_IndexByte :=
  EntOK.same hf hn hb (all_cons (fun {R} t u K x w β F vs _ ha hx => by
    obtain ⟨_, _, rfl, e1, _, _, rfl, e2, rfl⟩ := ha
    cases e1
    cases e2
    exact ⟨.sv (.v (.int .i64 _)), _, h t.1 t.2.1 w, rfl, hx⟩) all_nil)

end Go.Gx
