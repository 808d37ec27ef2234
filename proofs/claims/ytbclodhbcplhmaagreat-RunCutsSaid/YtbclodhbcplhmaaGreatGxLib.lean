/-
  Gx: an entry for maps.Clone.
  Gx: an entry for slices.Clone: a list that is only read, as a row of its own.
  Gx: an entry for a function that counts a map's keys, in whatever order they come.
-/
import Derived.Test.YtbclodhbcplhmaaGreatGx5
import Derived.Shelf.SlMaps.Clone
import Derived.Maps.RangeRun
namespace Go.Gx
/-! ### maps.Clone: a new map with the old one's entries -/
def maps_Clone_W (ks vs : Sh) (ka va : Bool) : Var := ⟨[.v (.map 0)], [.map ks vs ka va], fun _ u K => K (.sv (.v (.map 1))) [.map ks vs ka va u.1, .map ks vs ka va u.1]⟩
theorem maps_Clone_ent {P : Program} {f : FuncId} {fn : Func} (hf : P.funcs[f]? = some fn) (hn : (fn.name == "runtime.NumGoroutine") = false) (hb : fn.body.isNone = false)
  (h : ∀ (b : Nat) (es : Array MapEntry) (clock : Nat) (w : World), w.heap[b]? = some (.map es clock) → Calls P f #[.map (some b)] w fun e w' => e = .returned (.map (some w.heap.size)) ∧ w' = w.alloc (.map es clock))
  (ks vs : Sh) (ka va : Bool) : EntOK P f (.of [maps_Clone_W ks vs ka va]) := by
 refine ⟨⟨fn, hf, hn, hb⟩, fun {R w β F G args vals K x} ok ha hr => ?_⟩
 obtain ⟨v, hv, t, u, rfl, rfl, hx⟩ := runVars_some (good_heap ok) hr
 cases List.mem_singleton.1 hv
 obtain ⟨_, _, rfl, e1, rfl⟩ := ha
 obtain ⟨_, rfl⟩ := e1
 obtain ⟨l, ⟨⟩⟩ := u
 have h0 : (putH [PObj.map ks vs ka va] (l, ()))[0]? = some (.map ks vs ka va l) := rfl
 obtain ⟨es, clock, hm, he, hc, hd⟩ := ok.obj 0 _ h0
 have hg : ∀ (c : Array Value) (t' : TypeId) f, Go.Obj.map es clock = .cells c t' f → f = (0, 0) := fun _ _ _ e => by cases e
 have hx' := ext_alloc (w := w) (β := β) (F := F) (H := putH [PObj.map ks vs ka va] (l, ())) (.map es clock) (.map ks vs ka va l) hg (fun _ _ _ _ h => nomatch h)
 refine (h _ es clock w hm).mono fun e w' => ?_
 rintro ⟨he', rfl⟩
 refine ⟨_, he', .sv (.v (.map 1)), _, _, ok_alloc ok (.map es clock) (.map ks vs ka va l) hg (fun _ _ _ _ h => nomatch h) ⟨es, clock, by simp only [en, upd_eq]; exact heap_alloc_new, ?_, hc, hd⟩, hx', ⟨(Nat.lt_succ_self 1 : 1 < 2), ?_⟩, hx⟩
 ·exact RepEntries.mono hx' _ _ he
 ·exact congrArg (fun b : Loc => Value.map (some b.b)) (upd_eq (β := β) (n := 1) (p := (.mk3 w.heap.size 0 True))).symm
end Go.Gx

namespace Go.Gx
def cloneEq (t tb : TypeId) : Oper := { dst := some 4, op := .binOp .eql t (.tmp 3) (.const (.slice none 0 0)) t, type := tb, pos := "slices.go:357", after := #[{ on := 0, ground := .data }], guard := none }
def cloneBody (t tb : TypeId) (tail : Code) : Code :=
 (Code.region 0 #[{ dst := some 2, op := .assign (.const (.slice none 0 0)), type := t, pos := "slices.go:355", after := #[], guard := none }] false).seq
  (((Code.region 1 #[{ dst := some 3, op := .move (.tmp 0), type := t, pos := "slices.go:357", after := #[], guard := none },
    cloneEq t tb] false).seq
   (Code.cond (.tmp 4)
    ((Code.region 2 #[{ dst := some 2, op := .assign (.const (.slice none 0 0)), type := t, pos := "slices.go:358", after := #[], guard := none }] false).seq Code.ret) Code.skip)).seq tail)
theorem eq_slnil {P : Program} (d : Nat) {t e : TypeId} (hd : P.underlying t = some (.slice e)) (w : World) (A : Option Addr) (n c : Nat) : (Op.equalIn (d + 1) t (.slice A n c) (.slice none 0 0)).run P w = .ok A.isNone w := by
 cases A <;> simp [Op.equalIn, run_underlying hd]
theorem eql_nil {P : Program} {t e : TypeId} (hd : P.underlying t = some (.slice e)) (w : World) (A : Option Addr) (n c : Nat) (p q : Operand) :
  (do eqGuard .eql t p q (.slice A n c) (.slice none 0 0); binOp .eql t (.slice A n c) (.slice none 0 0) : Sem Value).run P w = .ok (.bool A.isNone) w := by
 rw [eqGuard_at_slice]
 simp [binOp, Op.equal, Op.maxDepth, eq_slnil 9999 hd w]
def cloneTail (f : Func) : Code := match f.body with
 | some (.seq _ (.seq _ t)) => t
 | _ => .skip
def cloneEnd {R : Type} (P : Program) (n : Nat) (K : Slot → Heap → Option R) (e : Exit) (fr : Fr) (H : Heap) : Option R := match e with
 | .ret => resultsK P fr H [.tmp 2] fun l => hand n ⟨[], [], []⟩ (resSlot l) H K
 | _ => none
def cloneEndR {R : Type} (P : Program) (n : Nat) (rows : List Nat) (K : Slot → Heap → Option R) (e : Exit) (fr : Fr) (H : Heap) : Option R := match e with
 | .ret => resultsK P fr H [.tmp 2] fun l => hand n ⟨[], [], rows⟩ (resSlot l) H K
 | _ => none
section
variable {P : Program} {T : Table}
theorem run_to (hT : TabOK P T) {C : Ctx} {e0 : En} (hp : e0.n = C.pins) {c : Code} {n : Nat} {w : World} {β : Nat → Loc} {F : Nat → Prop} {H : Heap} {fr : Fr} {a : Act} {e : Exit} {fr' : Fr} {H' : Heap} (hL : LoopsOK P C c n)
  (h : exCode P T C c n fr H (fun e fr H => some (e, fr, H)) = some (e, fr', H')) (hR : Rel w β F H fr a) (hE : Ext e0 (en w β F H)) :
  c.wp P (fun e' a' w' => e' = e ∧ ∃ β', Rel w' β' F H' fr' a' ∧ Ext e0 (en w' β' F H')) a w := by
 refine wp_mono (exCode_wp hT hp c n hL h hR hE) fun e' a' w' => ?_
 rintro ⟨fr2, H2, β2, h1, h2, h3⟩
 cases h3
 exact ⟨rfl, β2, h1, h2⟩
theorem slices_Clone_isl {f : FuncId} {fn : Func} {t tb e : TypeId} {tail : Code} {s : Sh} {m : {R : Type} → List s.T → (Slot → Heap → Option R) → Option R}
  (hf : P.funcs[f]? = some fn) (hn : (fn.name == "runtime.NumGoroutine") = false) (hb : fn.body = some (cloneBody t tb tail)) (hnt : fn.ntmps = 8) (hres : fn.results = #[.tmp 2])
  (hd : P.underlying t = some (.slice e)) (hs0 : Nat.blt 0 s.size = true)
  (hE : ∀ {R : Type} (l : List s.T) (K : Slot → Heap → Option R), exCode P (fun _ => noEnt) ⟨0, 8, fun _ => noFam.at 0, []⟩ tail 0
   [.sv (.v (.isl s l)), .undef, .sv (.v .nils), .sv (.v (.isl s l)), .sv (.v (.bool false)), .undef, .undef, .undef] [] (cloneEnd P 0 K) = m l K)
  (hN : ∀ {R : Type} (K : Slot → Heap → Option R), m [] K = K (.sv (.v (.wl 0 s.size))) [.cells [.row s 0 []]]) :
  EntOK P f (.of [⟨[.v (.isl s)], [], fun t _ K => m t.1 K⟩]) := by
 refine ⟨⟨fn, hf, hn, by rw [hb]; rfl⟩, fun {R w β F G args vs K x} ok ha hr => ?_⟩
 obtain ⟨v, hv, tt, u, rfl, rfl, hx⟩ := runVars_some (good_heap ok) hr
 cases List.mem_singleton.1 hv
 obtain ⟨l, ⟨⟩⟩ := tt
 have hx : m l K = some x := hx
 have ha' := ha
 obtain ⟨V, _, rfl, hV, rfl⟩ := ha
 obtain ⟨A, Cc, rfl, hle, hne⟩ := hV
 have hT : TabOK P (fun _ => noEnt) := TabOK.nil
 let C : Ctx := ⟨0, 8, fun _ => noFam.at 0, []⟩
 refine calls_of_wp hf hb ?_
 have hR : Rel w β F (putH [] ()) ([.sv (.v (.isl s l))] ++ List.replicate 7 .undef) { tmps := [Value.slice A l.length Cc].toArray ++ Array.replicate (fn.ntmps - ([Value.slice A l.length Cc].toArray).size) undef, defers := [] } := by
  rw [hnt]
  refine ⟨ok, rfl, by simp, fun t => ?_⟩
  exact RepSVs.slots (l := [.v (.isl s l)]) ha' t 7
 have hp : (en w β F (putH [] ())).n = C.pins := rfl
 refine wp_seq (wp_mono (run_to hT (C := C) hp (n := 0) trivial (fr' := [.sv (.v (.isl s l)), .undef, .sv (.v .nils), .undef, .undef, .undef, .undef, .undef]) (H' := []) (e := .normal) rfl hR (Ext.refl _)) fun e1 a1 w1 => ?_)
 rintro ⟨rfl, β1, h1, x1⟩
 refine wp_seq (wp_seq (wp_region ?_))
 -- the move
 show wpOps P _ _ [0, 1] a1 w1
 unfold wpOps
 refine .inl (exOp_wp hT (K := fun fr H => some (fr, H)) (x := ([.sv (.v (.isl s l)), .undef, .sv (.v .nils), .sv (.v (.isl s l)), .undef, .undef, .undef, .undef], [])) rfl h1 fun a2 w2 => ?_)
 rintro ⟨fr2, H2, β2, h2, x2, e2⟩
 cases e2
 -- is it no slice
 unfold wpOps
 refine .inl ?_
 have e3 : a2.eval (.tmp 3) = a2.tmps.getD 3 undef := rfl
 obtain ⟨A', C', hV3, hle', hne'⟩ : RepL w2 (en w2 β2 F []).av (RepT w2 (en w2 β2 F []).av s) s.size l (a2.tmps.getD 3 undef) := h2.slots 3
 have hrun : (execOp a2.eval (cloneEq t tb)).run P w2 = .ok (.value (.bool A'.isNone)) w2 := by
  simp only [execOp, cloneEq]
  refine run_value ?_
  rw [e3, hV3]
  exact eql_nil hd w2 A' _ _ _ _
 show Oper.wp P (cloneEq t tb) a2 w2 _ _
 unfold Oper.wp
 rw [hrun, Oper.upon_value]
 unfold wpOps
 have hput : a2.put (cloneEq t tb).dst (.bool A'.isNone) = a2.put (some 4) (.bool A'.isNone) := rfl
 rw [hput]
 have h3 := h2.put h2.ok (Ext.refl _) (some 4) (s := .sv (.v (.bool A'.isNone))) (v := .bool A'.isNone) rfl
 have x3 := x1.trans x2
 have hc : (a2.put (some 4) (.bool A'.isNone)).eval (.tmp 4) = .bool A'.isNone := h3.slots 4
 cases A' with
 | none =>
  have hl : l = [] := by
   cases l with
   | nil => rfl
   | cons y r => obtain ⟨ad, had, _⟩ := hne' (by simp); cases had
  subst hl
  refine wp_cond_true hc (wp_seq (wp_mono (run_to hT (C := C) hp (n := 0) trivial (fr' := [.sv (.v (.isl s [])), .undef, .sv (.v .nils), .sv (.v (.isl s [])), .sv (.v (.bool true)), .undef, .undef, .undef]) (H' := []) (e := .normal) rfl h3 x3) fun e4 a4 w4 => ?_))
  rintro ⟨rfl, β4, h4, x4⟩
  refine wp_ret ?_
  rw [hN] at hx
  have hv2 : a4.tmps.getD 2 undef = .slice none 0 0 := h4.slots 2
  have hreb : reb1 [] (fun _ => false) (some (false, s)) .nils [] (fun y H => K (.sv (.v y)) H) = some x := by
   show (bif Nat.blt 0 s.size then K (.sv (.v (.wl 0 s.size))) [.cells [.row s 0 []]] else K (.sv (.v .nils)) []) = some x
   rw [hs0]
   exact hx
  obtain ⟨y, H', β', k1, ok', x5, hy, _⟩ := reb1_ok h4.ok hreb (V := .slice none 0 0) rfl
  refine ⟨h4.defers, .slice none 0 0, ?_, .slice none 0 0, rfl, .sv (.v y), H', β', ok', x4.trans x5, hy, k1⟩
  have hv2' : a4.tmps[2]?.getD undef = .slice none 0 0 := by rw [← Array.getD_eq_getD_getElem?]; exact hv2
  unfold results
  rw [hres]
  simpa using hv2'
 | some ad =>
  refine wp_cond_false hc (wp_skip ?_)
  have hx' := (hE l K).trans hx
  refine wp_mono (exCode_wp hT (C := C) (e0 := en w β F (putH [] ())) hp tail 0 (loops_ok hT (fun _ => noFam) 0 (fun _ => rfl) tail 0 (fun i A _ => LStep.none)) hx' h3 x3) fun e5 a5 w5 => ?_
  rintro ⟨fr5, H5, β5, h5, x5, k5⟩
  cases e5 with
  | ret =>
   have k5 : (resultsK P fr5 H5 [.tmp 2] fun l => hand 0 ⟨[], [], []⟩ (resSlot l) H5 K) = some x := k5
   obtain ⟨l', v', q1, q2, q3⟩ := results_ok h5 (fn := fn) (by rw [hres]; exact k5)
   obtain ⟨s', G, β6, r1, r2, r3, r4⟩ := hand_ok q3 h5.ok x5 rfl q1
   exact ⟨h5.defers, v', q2, v', rfl, s', G, β6, r1, r2, r3, r4⟩
  | normal => cases k5
  | exit i => cases k5
  | goto l => cases k5
  | panic ch => cases k5
  | outgrown => cases k5
theorem slices_Clone_wl {f : FuncId} {fn : Func} {t tb e : TypeId} {tail : Code} {s : Sh} {m : {R : Type} → List s.T → (Slot → Heap → Option R) → Option R}
  (hf : P.funcs[f]? = some fn) (hn : (fn.name == "runtime.NumGoroutine") = false) (hb : fn.body = some (cloneBody t tb tail)) (hnt : fn.ntmps = 8) (hres : fn.results = #[.tmp 2])
  (hd : P.underlying t = some (.slice e)) (hs0 : Nat.blt 0 s.size = true)
  (hE : ∀ {R : Type} (l : List s.T) (K : Slot → Heap → Option R), exCode P (fun _ => noEnt) ⟨1, 8, fun _ => noFam.at 0, [0]⟩ tail 0
   [.sv (.v (.wl 0 s.size)), .undef, .sv (.v .nils), .sv (.v (.wl 0 s.size)), .sv (.v (.bool false)), .undef, .undef, .undef] [.cells [.row s l.length l]] (cloneEndR P 1 [0] K) = m l K)
  (hN : ∀ {R : Type} (K : Slot → Heap → Option R), m [] K = K (.sv (.v (.wl 1 s.size))) [.cells [.row s 0 []], .cells [.row s 0 []]]) :
  EntOK P f (.of [⟨[.v (.wl 0 s.size)], [.rows s], fun _ u K => m u.1 K⟩]) := by
 refine ⟨⟨fn, hf, hn, by rw [hb]; rfl⟩, fun {R w β F G args vs K x} ok ha hr => ?_⟩
 obtain ⟨v, hv, tt, u, rfl, rfl, hx⟩ := runVars_some (good_heap ok) hr
 cases List.mem_singleton.1 hv
 obtain ⟨l, ⟨⟩⟩ := u
 have hx : m l K = some x := hx
 have ha' := ha
 obtain ⟨V, _, rfl, hV, rfl⟩ := ha
 obtain ⟨_, A, len, Cc, rfl, hle, hm, hne⟩ := hV
 have hlen : len = l.length := by
  have h1 := hm (l.length * s.size) (show szOf [.cells [.row s l.length l]] 0 = some (l.length * s.size) by simp [szOf, szO, segsSize, segSize])
  have hs1 : 0 < s.size := by simpa using hs0
  exact (Nat.eq_of_mul_eq_mul_right hs1 h1).symm
 subst hlen
 have hT : TabOK P (fun _ => noEnt) := TabOK.nil
 let C : Ctx := ⟨1, 8, fun _ => noFam.at 0, [0]⟩
 refine calls_of_wp hf hb ?_
 have hR : Rel w β F (putH [PObj.rows s] (l, ())) ([.sv (.v (.wl 0 s.size))] ++ List.replicate 7 .undef) { tmps := [Value.slice A l.length Cc].toArray ++ Array.replicate (fn.ntmps - ([Value.slice A l.length Cc].toArray).size) undef, defers := [] } := by
  rw [hnt]
  refine ⟨ok, rfl, by simp, fun t => ?_⟩
  exact RepSVs.slots (l := [.v (.wl 0 s.size)]) ha' t 7
 have hp : (en w β F (putH [PObj.rows s] (l, ()))).n = C.pins := rfl
 refine wp_seq (wp_mono (run_to hT (C := C) hp (n := 0) trivial (fr' := [.sv (.v (.wl 0 s.size)), .undef, .sv (.v .nils), .undef, .undef, .undef, .undef, .undef]) (H' := [.cells [.row s l.length l]]) (e := .normal) rfl hR (Ext.refl _)) fun e1 a1 w1 => ?_)
 rintro ⟨rfl, β1, h1, x1⟩
 refine wp_seq (wp_seq (wp_region ?_))
 -- the move
 show wpOps P _ _ [0, 1] a1 w1
 unfold wpOps
 refine .inl (exOp_wp hT (K := fun fr H => some (fr, H)) (x := ([.sv (.v (.wl 0 s.size)), .undef, .sv (.v .nils), .sv (.v (.wl 0 s.size)), .undef, .undef, .undef, .undef], [.cells [.row s l.length l]])) rfl h1 fun a2 w2 => ?_)
 rintro ⟨fr2, H2, β2, h2, x2, e2⟩
 cases e2
 -- is it no slice
 unfold wpOps
 refine .inl ?_
 have e3 : a2.eval (.tmp 3) = a2.tmps.getD 3 undef := rfl
 obtain ⟨_, A', len', C', hV3, hle', hm', hne'⟩ : RepSc (en w2 β2 F [.cells [.row s l.length l]]) (.wl 0 s.size) (a2.tmps.getD 3 undef) := h2.slots 3
 have hlen' : len' = l.length := by
  have h1 := hm' (l.length * s.size) (show szOf [.cells [.row s l.length l]] 0 = some (l.length * s.size) by simp [szOf, szO, segsSize, segSize])
  have hs1 : 0 < s.size := by simpa using hs0
  exact (Nat.eq_of_mul_eq_mul_right hs1 h1).symm
 have hrun : (execOp a2.eval (cloneEq t tb)).run P w2 = .ok (.value (.bool A'.isNone)) w2 := by
  simp only [execOp, cloneEq]
  refine run_value ?_
  rw [e3, hV3]
  exact eql_nil hd w2 A' _ _ _ _
 show Oper.wp P (cloneEq t tb) a2 w2 _ _
 unfold Oper.wp
 rw [hrun, Oper.upon_value]
 unfold wpOps
 have hput : a2.put (cloneEq t tb).dst (.bool A'.isNone) = a2.put (some 4) (.bool A'.isNone) := rfl
 rw [hput]
 have h3 := h2.put h2.ok (Ext.refl _) (some 4) (s := .sv (.v (.bool A'.isNone))) (v := .bool A'.isNone) rfl
 have x3 := x1.trans x2
 have hc : (a2.put (some 4) (.bool A'.isNone)).eval (.tmp 4) = .bool A'.isNone := h3.slots 4
 cases A' with
 | none =>
  have hl : l = [] := by
   cases l with
   | nil => rfl
   | cons y r =>
    obtain ⟨had, _⟩ := hne' (by simp at hlen'; omega)
    cases had
  subst hl
  refine wp_cond_true hc (wp_seq (wp_mono (run_to hT (C := C) hp (n := 0) trivial (fr' := [.sv (.v (.wl 0 s.size)), .undef, .sv (.v .nils), .sv (.v (.wl 0 s.size)), .sv (.v (.bool true)), .undef, .undef, .undef]) (H' := [.cells [.row s 0 []]]) (e := .normal) rfl h3 x3) fun e4 a4 w4 => ?_))
  rintro ⟨rfl, β4, h4, x4⟩
  refine wp_ret ?_
  rw [hN] at hx
  have hv2 : a4.tmps.getD 2 undef = .slice none 0 0 := h4.slots 2
  have hreb : reb1 [] (fun _ => false) (some (false, s)) .nils [.cells [.row s 0 []]] (fun y H => K (.sv (.v y)) H) = some x := by
   show (bif Nat.blt 0 s.size then K (.sv (.v (.wl 1 s.size))) [.cells [.row s 0 []], .cells [.row s 0 []]] else K (.sv (.v .nils)) [.cells [.row s 0 []]]) = some x
   rw [hs0]
   exact hx
  obtain ⟨y, H', β', k1, ok', x5, hy, _⟩ := reb1_ok h4.ok hreb (V := .slice none 0 0) rfl
  refine ⟨h4.defers, .slice none 0 0, ?_, .slice none 0 0, rfl, .sv (.v y), H', β', ok', x4.trans x5, hy, k1⟩
  have hv2' : a4.tmps[2]?.getD undef = .slice none 0 0 := by rw [← Array.getD_eq_getD_getElem?]; exact hv2
  unfold results
  rw [hres]
  simpa using hv2'
 | some ad =>
  refine wp_cond_false hc (wp_skip ?_)
  have hx' := (hE l K).trans hx
  refine wp_mono (exCode_wp hT (C := C) (e0 := en w β F (putH [PObj.rows s] (l, ()))) hp tail 0 (loops_ok hT (fun _ => noFam) 0 (fun _ => rfl) tail 0 (fun i A _ => LStep.none)) hx' h3 x3) fun e5 a5 w5 => ?_
  rintro ⟨fr5, H5, β5, h5, x5, k5⟩
  cases e5 with
  | ret =>
   have k5 : (resultsK P fr5 H5 [.tmp 2] fun l => hand 1 ⟨[], [], [0]⟩ (resSlot l) H5 K) = some x := k5
   obtain ⟨l', v', q1, q2, q3⟩ := results_ok h5 (fn := fn) (by rw [hres]; exact k5)
   obtain ⟨s', G, β6, r1, r2, r3, r4⟩ := hand_ok q3 h5.ok x5 rfl q1
   exact ⟨h5.defers, v', q2, v', rfl, s', G, β6, r1, r2, r3, r4⟩
  | normal => cases k5
  | exit i => cases k5
  | goto l => cases k5
  | panic ch => cases k5
  | outgrown => cases k5
end
end Go.Gx

namespace Go.Gx
open Go.ChangeMaps (setBlock)
structure Gw (w w' : World) : Prop where
 size : w.heap.size ≤ w'.heap.size
 kept : ∀ b, b < w.heap.size → w'.heap[b]? = w.heap[b]?
 out : w'.os = w.os ∧ w'.output = w.output
 froz : ∀ (b : Nat) c t f, w'.heap[b]? = some (.cells c t f) → f = (0, 0) ∨ w.heap[b]? = some (.cells c t f)
def hit (path : ByteArray) (x : MapEntry) : Bool := match x.key with
 | Value.agg cs => match cs[0]? with
  | some (Value.string d) => decide (d = path)
  | _ => false
 | _ => false
def seenC (path : ByteArray) : List MapEntry → Array Nat → Int
 | [], _ => 0
 | x :: l, seen => (if seen.contains x.born && hit path x then 1 else 0) + seenC path l seen
theorem seenC_other (path : ByteArray) (seen : Array Nat) (b : Nat) : ∀ (es : List MapEntry), b ∉ es.map (·.born) → seenC path es (seen.push b) = seenC path es seen
 | [], _ => rfl
 | x :: l, h => by
  have hx : (x.born == b) = false := by
   cases hc : x.born == b with
   | false => rfl
   | true => exact absurd (List.mem_cons.2 (Or.inl (beq_iff_eq.1 hc).symm)) h
  simp only [seenC, contains_push, hx, Bool.or_false, seenC_other path seen b l (fun e => h (List.mem_cons.2 (Or.inr e)))]
theorem seenC_push (path : ByteArray) (seen : Array Nat) (e : MapEntry) (hs : seen.contains e.born = false) : ∀ (es : List MapEntry), (es.map (·.born)).Nodup → e ∈ es → seenC path es (seen.push e.born) = seenC path es seen + (if hit path e then 1 else 0)
 | x :: l, hn, he => by
  have hn' : x.born ∉ l.map (·.born) ∧ (l.map (·.born)).Nodup := List.nodup_cons.1 hn
  rcases List.mem_cons.1 he with rfl | h
  ·simp only [seenC, contains_push, hs, beq_self_eq_true, Bool.or_true, Bool.true_and, Bool.false_and, Bool.false_eq_true, if_false, seenC_other path seen e.born l hn'.1]
   omega
  ·have hx : (x.born == e.born) = false := by
    cases hc : x.born == e.born with
    | false => rfl
    | true => exact absurd (List.mem_map.2 ⟨e, h, (beq_iff_eq.1 hc).symm⟩) hn'.1
   simp only [seenC, contains_push, hx, Bool.or_false, seenC_push path seen e hs l hn'.2 h]
   omega
theorem seenC_none (path : ByteArray) : ∀ (es : List MapEntry), seenC path es #[] = 0
 | [] => rfl
 | x :: l => by
  have : (#[] : Array Nat).contains x.born = false := by simp
  simp only [seenC, this, Bool.false_and, Bool.false_eq_true, if_false, seenC_none path l]
  rfl
theorem seenC_full (path : ByteArray) (seen : Array Nat) : ∀ (es : List MapEntry), (∀ x ∈ es, seen.contains x.born = true) → seenC path es seen = ((es.filter (hit path)).length : Int)
 | [], _ => rfl
 | x :: l, h => by
  simp only [seenC, h x (List.mem_cons.2 (Or.inl rfl)), Bool.true_and, seenC_full path seen l (fun y hy => h y (List.mem_cons.2 (Or.inr hy))), List.filter_cons]
  split
  ·rw [List.length_cons]; omega
  ·omega
theorem seenC_all (path : ByteArray) (es : Array MapEntry) (seen : Array Nat) (h : (leftOf es seen).size = 0) : seenC path es.toList seen = ((es.toList.filter (hit path)).length : Int) := by
 refine seenC_full path seen es.toList (fun x hx => ?_)
 have h2 : leftOf es seen = #[] := Array.eq_empty_of_size_eq_zero h
 unfold leftOf at h2
 rw [Array.filter_eq_empty_iff] at h2
 have h3 := h2 x (Array.mem_toList_iff.1 hx)
 cases hc : seen.contains x.born with
 | true => rfl
 | false => rw [hc] at h3; exact absurd rfl h3
theorem str_beq (a b : ByteArray) : (a.toList == b.toList) = decide (a = b) := by
 rw [ByteArray.toList_eq, ByteArray.toList_eq]
 by_cases h : a = b
 ·rw [h]; simp
 ·rw [decide_eq_false h]
  cases hc : (a.data.toList == b.data.toList) with
  | false => rfl
  | true =>
   exfalso
   apply h
   have := beq_iff_eq.1 hc
   cases a; cases b
   simpa using this
theorem wrap64_eq (x : Int) : RowKit.wrap64 x = IntKind.wrap .i64 x := by
 simp only [RowKit.wrap64, IntKind.wrap, IntKind.bits, IntKind.signed]
 simp
 omega
theorem wrap_succ (x : Int) : IntKind.wrap .i64 (IntKind.wrap .i64 x + 1) = IntKind.wrap .i64 (x + 1) := by
 simp only [← wrap64_eq, RowKit.wrap64]
 omega
theorem Gw.iter {w : World} (o : Go.Obj) (h : ∀ c t f, o = .cells c t f → f = (0, 0)) : Gw w (w.alloc o) where
 size := by rw [size_alloc]; omega
 kept b hb := Go.heap_alloc_old w o hb
 out := ⟨rfl, rfl⟩
 froz b c t f hx := by
  by_cases hb : b < w.heap.size
  ·rw [Go.heap_alloc_old w o hb] at hx; exact .inr hx
  ·left
   have h1 := lt_of_heap hx
   rw [size_alloc] at h1
   have : b = w.heap.size := by omega
   subst this
   rw [Go.heap_alloc_new] at hx
   exact h c t f (Option.some.inj hx)
where
 size_alloc : (w.alloc o).heap.size = w.heap.size + 1 := by show (w.heap.push o).size = _; simp
theorem size_alloc (w : World) (o : Go.Obj) : (w.alloc o).heap.size = w.heap.size + 1 := by show (w.heap.push o).size = _; simp
theorem set_at {w : World} {r : Nat} {o : Go.Obj} (h : r < w.heap.size) : (setBlock w r o).heap[r]? = some o := by simp [setBlock, h]
theorem set_ne {w : World} {r b : Nat} {o : Go.Obj} (h : b ≠ r) : (setBlock w r o).heap[b]? = w.heap[b]? := by simp [setBlock, Ne.symm h]
theorem set_size {w : World} {r : Nat} {o : Go.Obj} : (setBlock w r o).heap.size = w.heap.size := by simp [setBlock]
theorem Gw.step {w wr w1 : World} {m : Option Nat} {s c : Nat} {sn : Array Nat} {cs : Array Value} {t : TypeId} (h : Gw w wr) (hw : w1 = wr ∨ w1 = wr.drew) (hr : w.heap.size < wr.heap.size) :
  Gw w ((setBlock w1 w.heap.size (.mapIter m s sn c)).alloc (.cells cs t)) := by
 have e : w1.heap = wr.heap ∧ w1.os = wr.os ∧ w1.output = wr.output := by rcases hw with rfl | rfl <;> exact ⟨rfl, rfl, rfl⟩
 have hsz : ((setBlock w1 w.heap.size (.mapIter m s sn c))).heap.size = wr.heap.size := by rw [set_size, e.1]
 refine ⟨by rw [size_alloc, hsz]; omega, fun b hb => ?_, ⟨e.2.1.trans h.out.1, e.2.2.trans h.out.2⟩, fun b c' t' f hx => ?_⟩
 ·rw [Go.heap_alloc_old _ _ (by rw [hsz]; omega), set_ne (by omega), e.1]
  exact h.kept b hb
 ·by_cases hb : b < wr.heap.size
  ·rw [Go.heap_alloc_old _ _ (by rw [hsz]; omega)] at hx
   by_cases hbr : b = w.heap.size
   ·subst hbr
    rw [set_at (by rw [e.1]; exact hr)] at hx
    cases hx
   ·rw [set_ne hbr, e.1] at hx
    exact h.froz b c' t' f hx
  ·left
   have h1 := lt_of_heap hx
   rw [size_alloc, hsz] at h1
   have : b = (setBlock w1 w.heap.size (.mapIter m s sn c)).heap.size := by omega
   subst this
   rw [Go.heap_alloc_new] at hx
   cases hx
   rfl
theorem Gw.ext {w w' : World} {β : Nat → Loc} {F : Nat → Prop} {H : Heap} (h : Gw w w') : Ext (en w β F H) (en w' β F H) where
 n := Nat.le_refl _
 β _ _ := rfl
 el _ _ _ _ := rfl
 pq _ _ _ _ _ _ h := h
 pn _ _ := Nat.le_refl _
 size := h.size
 kept b hb _ := h.kept b hb
 sub _ _ hb := hb
 F := rfl
 sz _ _ _ hm := hm
 grow b c _ f hx := ⟨c, f, (h.kept b (lt_of_heap hx)).trans hx, rfl⟩
 out := h.out
 froz b c _ f hx := (h.froz b c _ f hx).imp_right fun hx => ⟨c, hx⟩
theorem Gw.ok {w w' : World} {β : Nat → Loc} {F : Nat → Prop} {H : Heap} (h : Gw w w') (ok : HeapOk w β F H) : HeapOk w' β F H where
 obj r o hr := RepObj.mono h.ext (lt_len hr) (Nat.le_of_eq (pnOf_of hr).symm) (ok.obj r o hr) fun b hb => h.kept _ (ok.ltB r o b hr hb).1
 ltB r o b hr hb := ⟨Nat.lt_of_lt_of_le (ok.ltB r o b hr hb).1 h.size, (ok.ltB r o b hr hb).2⟩
 injB := ok.injB
 uni := ok.uni
 F b hb := Nat.lt_of_lt_of_le (ok.F b hb) h.size
theorem many_keys {e : En} (path : ByteArray) : ∀ {l : List ((ByteArray × ByteArray) × (Int × Bool))} {es : List MapEntry}, RepEntries e (.pair .str .str) (.pair (.int .i64) .bool) true true l es →
  (∀ x ∈ es, ∃ d n, x.key = Value.agg #[Value.string d, Value.string n]) ∧ (es.filter (hit path)).length = (l.filter fun p => decide (p.1.1 = path)).length
 | [], es, h => by
  have h : es = [] := h
  subst h
  exact ⟨fun x hx => absurd hx (by simp), rfl⟩
 | p :: l, es, h => by
  obtain ⟨x, r, rfl, ⟨us, h1, h2⟩, _, h3⟩ := h
  obtain ⟨i1, i2⟩ := many_keys path h3
  obtain ⟨u, v, rfl, e1, e2⟩ := h1
  have e1 : u = [Value.string p.1.1] := e1
  have e2 : v = [Value.string p.1.2] := e2
  subst e1
  subst e2
  have hk : x.key = Value.agg #[Value.string p.1.1, Value.string p.1.2] := by simpa [RepVal] using h2
  refine ⟨fun y hy => ?_, ?_⟩
  ·rcases List.mem_cons.1 hy with rfl | hy
   ·exact ⟨_, _, hk⟩
   ·exact i1 y hy
  ·have hh : hit path x = decide (p.1.1 = path) := by unfold hit; rw [hk]; rfl
   rw [List.filter_cons, List.filter_cons, hh]
   by_cases h : p.1.1 = path
   ·simp [h, i2]
   ·simp [h, i2]
def many_W : Var := ⟨[.v (.ptr 0 0), .v .str], [.cells [.c (.map 1), .c (.int .i64)], .map (.pair .str .str) (.pair (.int .i64) .bool) true true],
 fun t u K => K (.sv (.v (.int .i64 (mcount t.2.1 u.2.1)))) [(.cells [(.c (.map 1)), (.c (.int .i64 u.1.2.1))]), (.map (.pair .str .str) (.pair (.int .i64) .bool) true true u.2.1)]⟩
theorem many_ent {P : Program} {f : FuncId} {fn : Func} (hf : P.funcs[f]? = some fn) (hn : (fn.name == "runtime.NumGoroutine") = false) (hb : fn.body.isNone = false)
  (h : ∀ (b0 o0 bm : Nat) (c0 : Array Value) (t0 : TypeId) (es : Array MapEntry) (clock : Nat) (path : ByteArray) (w : World), w.heap[b0]? = some (.cells c0 t0 (0, 0)) → c0[o0]? = some (.map (some bm)) →
   w.heap[bm]? = some (.map es clock) → ((∀ x ∈ es.toList, x.born < clock) ∧ (es.toList.map (·.born)).Nodup) → (∀ x ∈ es.toList, ∃ d n, x.key = .agg #[.string d, .string n]) →
   Calls P f #[.pointer (some ⟨b0, o0, none⟩), .string path] w fun e w' => e = .returned (.int .i64 (IntKind.wrap .i64 ((es.toList.filter (hit path)).length : Int))) ∧ Gw w w') : EntOK P f (.of [many_W]) := by
 refine ⟨⟨fn, hf, hn, hb⟩, fun {R w β F G args vals K x} ok ha hr => ?_⟩
 obtain ⟨v, hv, t, u, rfl, rfl, hx⟩ := runVars_some (good_heap ok) hr
 cases List.mem_singleton.1 hv
 obtain ⟨_, _, rfl, e1, _, _, rfl, e2, rfl⟩ := ha
 obtain ⟨_, rfl⟩ := e1
 cases e2
 obtain ⟨vs, h1, h2, h3⟩ := ok.obj 0 _ (show (putH many_W.g u)[0]? = some (.cells [.c (.map 1), .c (.int .i64 u.1.2.1)]) from rfl)
 obtain ⟨es, clock, hm, he, hc, hd⟩ := ok.obj 1 _ (show (putH many_W.g u)[1]? = some (.map (.pair .str .str) (.pair (.int .i64) .bool) true true u.2.1) from rfl)
 obtain ⟨V, v1, rfl, _, hV, _⟩ := h1
 obtain ⟨_, rfl⟩ := hV
 have hk : ((en w β F (putH many_W.g u)).β 0).k := Classical.byContradiction fun hk => absurd (h2 hk) (by simp [segsSize, segSize])
 obtain ⟨c, t0, pre, post, hcell, hcl, hpl⟩ := h3 hk
 obtain ⟨k1, k2⟩ := many_keys t.2.1 he
 have hco : c[((en w β F (putH many_W.g u)).β 0).o + 0]? = some (.map (some ((en w β F (putH many_W.g u)).β 1).b)) := by
  rw [← Array.getElem?_toList, hcl, Nat.add_zero, ← hpl]
  simp
 refine (h _ _ _ c t0 es clock t.2.1 w hcell hco hm ⟨hc, hd⟩ k1).mono fun e w' => ?_
 rintro ⟨he', hg⟩
 refine ⟨_, he', .sv (.v (.int .i64 (mcount t.2.1 u.2.1))), _, β, hg.ok ok, hg.ext, ?_, hx⟩
 rw [k2]
 rfl
end Go.Gx
