/-
  Gx, part E: operations that make and change no memory of their own.
-/
import Derived.Test.YteagdmkedffplaaGxD
namespace Go.Gx

structure Rel (w : World) (β : Nat → Loc) (F : Nat → Prop) (H : Heap) (fr : Fr) (a : Act) : Prop where
  ok : HeapOk w β F H
  defers : a.defers = []
  len : fr.length ≤ a.tmps.size
  slots : ∀ t, RepSlot (en w β F H) (fr.getD t .undef) (a.tmps.getD t undef)

def Res {R : Type} (w : World) (β : Nat → Loc) (F : Nat → Prop) (H : Heap) (x : R) (K : Slot → Heap → Option R) (v : Value) (w' : World) : Prop :=
  ∃ s H' β', HeapOk w' β' F H' ∧ Ext (en w β F H) (en w' β' F H') ∧ RepSlot (en w' β' F H') s v ∧ K s H' = some x

inductive OpOk {R : Type} (P : Program) (w : World) (β : Nat → Loc) (F : Nat → Prop) (H : Heap) (x : R) (K : Slot → Heap → Option R) : Result Next → Prop
  | value (v : Value) (w' : World) : Res w β F H x K v w' → OpOk P w β F H x K (.ok (.value v) w')
  | skip (w' : World) : Res w β F H x K undef w' → OpOk P w β F H x K (.ok .skip w')
  | enter (f : FuncId) (args : Array Value) (w' : World) : Calls P f args w' (fun e w'' => ∃ v, e = .returned v ∧ Res w β F H x K v w'') → OpOk P w β F H x K (.ok (.enter f args) w')

section
variable {R : Type} {P : Program} {w : World} {β : Nat → Loc} {F : Nat → Prop} {H : Heap} {fr : Fr} {a : Act} {x : R} {K : Slot → Heap → Option R}

theorem Res.same (ok : HeapOk w β F H) {s : Slot} {v : Value} (hs : RepSlot (en w β F H) s v) (hK : K s H = some x) : Res w β F H x K v w :=
  ⟨s, H, β, ok, Ext.refl _, hs, hK⟩

theorem run_value {m : Sem Value} {v : Value} {w' : World} (h : m.run P w = .ok v w') : (do pure (Next.value (← m)) : Sem Next).run P w = .ok (.value v) w' := by
  simp [h]
theorem run_skip {m : Sem Unit} {w' : World} (h : m.run P w = .ok () w') : (do m; pure Next.skip : Sem Next).run P w = .ok .skip w' := by
  simp [h]

/-! ### operands -/
theorem ofConst_rep {e : En} (v : Value) : RepSlot e (ofConst v) v := by
  unfold ofConst
  split <;> first | trivial | exact rfl

theorem evalO_rep (h : Rel w β F H fr a) (y : Operand) : RepSlot (en w β F H) (evalO fr y) (a.eval y) := by
  cases y with
  | tmp t => exact h.slots t
  | const v => exact ofConst_rep v
  | global g => trivial
  | func f => exact ⟨fun _ h => (nomatch h), rfl⟩

theorem evalS_rep (h : Rel w β F H fr a) (y : Operand) : RepSc (en w β F H) (evalS fr y) (a.eval y) := by
  have := evalO_rep h y
  unfold evalS
  split
  · rename_i x hx; rw [hx] at this; exact this
  · trivial

theorem evalSV_rep (h : Rel w β F H fr a) {y : Operand} {v : SV} (hv : evalSV fr y = some v) : RepSV (en w β F H) v (a.eval y) := by
  have := evalO_rep h y
  unfold evalSV at hv
  split at hv
  · rename_i x hx
    cases hv
    rw [hx] at this
    exact this
  · cases hv

theorem evalS_eq (h : Rel w β F H fr a) {y : Operand} {s : Sc} (hs : evalS fr y = s) : RepSc (en w β F H) s (a.eval y) := hs ▸ evalS_rep h y

/-! ### two operands, one operand -/
theorem toList_beq (a b : ByteArray) : (a.toList == b.toList) = decide (a = b) := by
  rw [Bool.eq_iff_iff]
  simp only [beq_iff_eq, decide_eq_true_eq]
  constructor
  · intro h
    rw [ByteArray.toList_eq, ByteArray.toList_eq] at h
    obtain ⟨⟨x⟩⟩ := a
    obtain ⟨⟨y⟩⟩ := b
    simp at h
    rw [h]
  · intro h; rw [h]

/-- a world that holds all that another one holds -/
def Sup (w w' : World) : Prop := ∀ (b : Nat) (o : Go.Obj), w.heap[b]? = some o → w'.heap[b]? = some o
theorem Sup.refl (w : World) : Sup w w := fun _ _ h => h
theorem Sup.trans {a b c : World} (h : Sup a b) (k : Sup b c) : Sup a c := fun i o hi => k i o (h i o hi)

/-- a reading: in whatever world that holds what this one holds -/
def Stays (P : Program) (m : Sem Value) (w : World) (v : Value) : Prop := ∀ w', Sup w w' → m.run P w' = .ok v w'

theorem run_mk {m : Sem Value} {K : Sc → Option R} {e : En} {r : Sc} {v : Value} (h : K r = some x) (hr : RepSc e r v) (hm : Stays P m w v) :
    ∃ r v, Stays P m w v ∧ RepSc e r v ∧ K r = some x := ⟨r, v, hm, hr, h⟩

theorem eq_nilnil (d : Nat) {t e : TypeId} (hd : P.underlying t = some (.pointer e)) (w : World) : (Op.equalIn (d + 1) t (.pointer none) (.pointer none)).run P w = .ok true w := by
  simp [Op.equalIn, run_underlying hd]
theorem eq_somenil (d : Nat) {t e : TypeId} (hd : P.underlying t = some (.pointer e)) (w : World) (A : Addr) : (Op.equalIn (d + 1) t (.pointer (some A)) (.pointer none)).run P w = .ok false w := by
  simp [Op.equalIn, run_underlying hd]

theorem nilp_ok {op : BinOp} {t : TypeId} {r : Bool} {A B : Option Addr} {K : Sc → Option R} {e : En} {p q : Operand}
    (h : (match op, P.underlying t with
      | .eql, some (.pointer _) => K (.bool r)
      | .neq, some (.pointer _) => K (.bool (!r))
      | _, _ => none) = some x)
    (he : ∀ {d : TypeId}, P.underlying t = some (.pointer d) → ∀ w, (Op.equalIn 10000 t (.pointer A) (.pointer B)).run P w = .ok r w) :
    ∃ s v, Stays P (do eqGuard op t p q (.pointer A) (.pointer B); binOp op t (.pointer A) (.pointer B) : Sem Value) w v ∧ RepSc e s v ∧ K s = some x := by
  split at h
  · rename_i d hd
    exact run_mk h rfl (fun w _ => by rw [eqGuard_at_pointer]; simp [binOp, Op.equal, Op.maxDepth, he hd w])
  · rename_i d hd
    exact run_mk h rfl (fun w _ => by rw [eqGuard_at_pointer]; simp [binOp, Op.equal, Op.maxDepth, he hd w])
  · cases h

set_option maxHeartbeats 2000000 in
theorem exBin_ok {op : BinOp} {t : TypeId} {s u : Sc} {V U : Value} {K : Sc → Option R} {e : En} (h : exBin (P.underlying t) op s u K = some x) (hs : RepSc e s V) (hu : RepSc e u U) (w : World) (p q : Operand) :
    ∃ r v, Stays P (do eqGuard op t p q V U; binOp op t V U : Sem Value) w v ∧ RepSc e r v ∧ K r = some x := by
  unfold exBin at h
  split at h
  · -- ints
    rename_i k m k' n
    obtain rfl : V = .int k m := hs
    obtain rfl : U = .int k' n := hu
    have other : ∀ y : Option R, (bif decide (k = k') then y else none) = some x → k = k' ∧ y = some x := fun y hy => by
      obtain ⟨h1, h2⟩ := bif_none hy
      exact ⟨by simpa using h1, h2⟩
    have divs : ∀ y : Option R, br (decide (n = 0)) none y = some x → ¬ n = 0 ∧ y = some x := fun y hy => by
      obtain ⟨h1, h2⟩ := br_none' hy
      exact ⟨by simpa using h1, h2⟩
    have shifts : ∀ y : Option R, br (decide (n < 0)) none y = some x → ¬ n < 0 ∧ y = some x := fun y hy => by
      obtain ⟨h1, h2⟩ := br_none' hy
      exact ⟨by simpa using h1, h2⟩
    cases op with
    | shl =>
      obtain ⟨h1, h2⟩ := shifts _ h
      exact run_mk h2 rfl (fun w _ => by simp [eqGuard, binOp, Op.shift, h1, shlI])
    | shr =>
      obtain ⟨h1, h2⟩ := shifts _ h
      exact run_mk h2 rfl (fun w _ => by simp [eqGuard, binOp, Op.shift, h1, shrI])
    | add => obtain ⟨rfl, h2⟩ := other _ h; exact run_mk h2 rfl (fun w _ => by simp [eqGuard, binOp, Op.intArith])
    | sub => obtain ⟨rfl, h2⟩ := other _ h; exact run_mk h2 rfl (fun w _ => by simp [eqGuard, binOp, Op.intArith])
    | mul => obtain ⟨rfl, h2⟩ := other _ h; exact run_mk h2 rfl (fun w _ => by simp [eqGuard, binOp, Op.intArith])
    | quo =>
      obtain ⟨rfl, h2⟩ := other _ h
      obtain ⟨h3, h4⟩ := divs _ h2
      exact run_mk h4 rfl (fun w _ => by simp [eqGuard, binOp, Op.intDiv, h3])
    | rem =>
      obtain ⟨rfl, h2⟩ := other _ h
      obtain ⟨h3, h4⟩ := divs _ h2
      exact run_mk h4 rfl (fun w _ => by simp [eqGuard, binOp, Op.intDiv, h3])
    | and => obtain ⟨rfl, h2⟩ := other _ h; exact run_mk h2 rfl (fun w _ => by simp [eqGuard, binOp, Op.intBits, band])
    | or => obtain ⟨rfl, h2⟩ := other _ h; exact run_mk h2 rfl (fun w _ => by simp [eqGuard, binOp, Op.intBits, bor])
    | xor => obtain ⟨rfl, h2⟩ := other _ h; exact run_mk h2 rfl (fun w _ => by simp [eqGuard, binOp, Op.intBits, bxor])
    | andNot => obtain ⟨rfl, h2⟩ := other _ h; exact run_mk h2 rfl (fun w _ => by simp [eqGuard, binOp, Op.intBits, bandnot])
    | eql => obtain ⟨rfl, h2⟩ := other _ h; exact run_mk h2 rfl (fun w _ => by simp [eqGuard, binOp, Op.intCmp]; rw [Bool.eq_iff_iff]; simp)
    | neq => obtain ⟨rfl, h2⟩ := other _ h; exact run_mk h2 rfl (fun w _ => by simp [eqGuard, binOp, Op.intCmp]; rw [Bool.eq_iff_iff]; simp)
    | lss => obtain ⟨rfl, h2⟩ := other _ h; exact run_mk h2 rfl (fun w _ => by simp [eqGuard, binOp, Op.intCmp])
    | leq => obtain ⟨rfl, h2⟩ := other _ h; exact run_mk h2 rfl (fun w _ => by simp [eqGuard, binOp, Op.intCmp])
    | gtr => obtain ⟨rfl, h2⟩ := other _ h; exact run_mk h2 rfl (fun w _ => by simp [eqGuard, binOp, Op.intCmp])
    | geq => obtain ⟨rfl, h2⟩ := other _ h; exact run_mk h2 rfl (fun w _ => by simp [eqGuard, binOp, Op.intCmp])
  · -- bools
    rename_i m n
    obtain rfl : V = .bool m := hs
    obtain rfl : U = .bool n := hu
    split at h
    · rename_i hd
      exact run_mk h rfl (fun w _ => by rw [eqGuard_at_bool]; simp [binOp, Op.equal, Op.maxDepth, run_equalIn_bool' w 9999 t m n hd])
    · rename_i hd
      exact run_mk h rfl (fun w _ => by rw [eqGuard_at_bool]; simp [binOp, Op.equal, Op.maxDepth, run_equalIn_bool' w 9999 t m n hd])
    · cases h
  · -- strings
    rename_i m n
    obtain rfl : V = .string m := hs
    obtain rfl : U = .string n := hu
    split at h
    · obtain ⟨hb, h⟩ := br_none h
      have : ¬ ((m.size + n.size : Nat) : Int) > IntKind.i64.max := by
        have : m.size + n.size < 2 ^ 40 := by simpa using hb
        rw [IntKind.max_i64]; omega
      exact run_mk h rfl (fun w _ => by simp only [eqGuard_at_string, binOp, Op.stringOp]; rw [if_neg this]; simp)
    · exact run_mk h rfl (fun w _ => by simp [eqGuard_at_string, binOp, Op.stringOp, toList_beq])
    · exact run_mk h rfl (fun w _ => by simp [eqGuard_at_string, binOp, Op.stringOp, toList_beq])
    · cases h
  · obtain rfl : V = .pointer none := hs
    obtain rfl : U = .pointer none := hu
    exact nilp_ok h (fun {_} hd w => eq_nilnil 9999 hd w)
  · obtain ⟨_, rfl⟩ := hs
    obtain rfl : U = .pointer none := hu
    exact nilp_ok h (fun {_} hd w => eq_somenil 9999 hd w _)
  · obtain ⟨_, rfl⟩ := hs
    obtain rfl : U = .pointer none := hu
    exact nilp_ok h (fun {_} hd w => eq_somenil 9999 hd w _)
  · cases h

theorem exUn_ok {op : UnOp} {s : Sc} {V : Value} {K : Sc → Option R} {e : En} (h : exUn op s K = some x) (hs : RepSc e s V) (w : World) :
    ∃ r v, Stays P (Op.unary op V) w v ∧ RepSc e r v ∧ K r = some x := by
  unfold exUn at h
  split at h
  · obtain rfl : V = _ := hs
    exact run_mk h rfl (fun w _ => by simp [Op.unary])
  · obtain rfl : V = _ := hs
    exact run_mk h rfl (fun w _ => by simp [Op.unary, Op.intArith])
  · obtain rfl : V = _ := hs
    exact run_mk h rfl (fun w _ => by simp [Op.unary, Op.intBits, bxor])
  · cases h


/-! ### sizes -/
theorem run_info {t : TypeId} {i : TypeInfo} (h : P.info? t = some i) (w : World) : (typeInfo t).run P w = .ok i w := by simp [typeInfo, h]
theorem run_size {t : TypeId} {i : TypeInfo} (h : P.info? t = some i) (w : World) : (sizeOf t).run P w = .ok i.size w := by simp [sizeOf, run_info h]
theorem info_of {t n : Nat} (h : P.cellsOf t = n + 1) : ∃ i, P.info? t = some i ∧ i.size = n + 1 := by
  unfold Program.cellsOf at h
  cases hi : P.info? t with
  | none => rw [hi] at h; simp at h
  | some i => rw [hi] at h; exact ⟨i, rfl, by simpa using h⟩
theorem run_sizeOf {t n : Nat} (h : P.cellsOf t = n + 1) (w : World) : (sizeOf t).run P w = .ok (n + 1) w := by
  obtain ⟨i, h1, h2⟩ := info_of h
  rw [run_size h1, h2]

theorem aggO_spec {t : TypeId} {agg : Bool} {n : Nat} (h : aggO P t = some (agg, n)) (w : World) :
    (isAgg t).run P w = .ok agg w ∧ (sizeOf t).run P w = .ok n w ∧ P.cellsOf t = n ∧ 0 < n := by
  unfold aggO at h
  split at h
  · cases h
  · cases h
  · rename_i hd hn
    cases h
    exact ⟨by simp [isAgg, run_underlying hd], run_sizeOf hn w, hn, by omega⟩
  · rename_i hd hn
    cases h
    exact ⟨by simp [isAgg, run_underlying hd], run_sizeOf hn w, hn, by omega⟩
  · rename_i d n' h1 h2 hd hn
    cases h
    refine ⟨?_, run_sizeOf hn w, hn, by omega⟩
    cases d <;> first
      | (exact absurd rfl (h1 _))
      | (exact absurd rfl (h2 _ _))
      | (simp [isAgg, run_underlying hd])

theorem addr_add (e : En) (r o n : Nat) : (addr e r o).add n = addr e r (o + n) := by
  unfold addr Addr.add
  split
  · rename_i h; subst h; rfl
  · simp; omega

/-! ### places -/
theorem exFieldAddr_ok {t : TypeId} {s : Sc} {f : Nat} {V : Value} {K : Sc → Option R} {e : En} (h : exFieldAddr P t s f K = some x) (hs : RepSc e s V) (w : World) :
    ∃ r v, Stays P (Instr.fieldAt t V f) w v ∧ RepSc e r v ∧ K r = some x := by
  unfold exFieldAddr at h
  split at h
  · rename_i fs hd
    split at h
    · rename_i fd hf
      split at h
      · cases h
      · rename_i n hn
        have hsz := fun w => run_sizeOf (P := P) hn w
        split at h
        · rename_i r o
          obtain ⟨hr, rfl⟩ := hs
          refine run_mk h ⟨hr, ?_⟩ (fun w _ => by simp [Instr.fieldAt, run_underlying hd, hf, Instr.sureAddr, fieldPlace, hsz]; rfl)
          rw [addr_add]
        · rename_i r o i z
          obtain ⟨hr, rfl⟩ := hs
          refine run_mk h ⟨hr, ?_⟩ (fun w _ => by simp [Instr.fieldAt, run_underlying hd, hf, Instr.sureAddr, fieldPlace, hsz]; rfl)
          rw [addr_add, show o + i.toNat * z + fd.offset = o + fd.offset + i.toNat * z by omega]
        · rename_i s l i o
          obtain ⟨hi, ad, hav, hrow, rfl⟩ := hs
          refine run_mk h ⟨hi, ad, hav, hrow, ?_⟩ (fun w _ => by simp [Instr.fieldAt, run_underlying hd, hf, Instr.sureAddr, fieldPlace, hsz]; rfl)
          unfold Addr.add
          split
          · rename_i h0; simp [h0]
          · first | (simp; done) | (simp; omega)
        · cases h
    · cases h
  · cases h

theorem inB_spec {i : Int} {n : Nat} (h : inB i n = true) : 0 ≤ i ∧ i < n := by simpa [inB] using h
theorem leB_spec {i : Int} {n : Nat} (h : leB i n = true) : 0 ≤ i ∧ i ≤ n := by simpa [leB] using h

theorem addLo_toNat {lo : Nat} {i : Int} (h : 0 ≤ i) : (addLo lo i).toNat = lo + i.toNat := by
  cases lo with
  | zero => simp [addLo]
  | succ n => simp only [addLo]; omega

theorem chain_ok {mk : Nat → Sc} {i : Int} {K : Sc → Option R} : ∀ {k j : Nat}, chain mk i K j k = some x → ∃ q : Nat, j ≤ q ∧ q < j + k ∧ i = (q : Int) ∧ K (mk q) = some x
  | 0, j, h => by cases h
  | k + 1, j, h => by
    simp only [chain] at h
    rcases br_some h with ⟨h1, h2⟩ | ⟨_, h2⟩
    · exact ⟨j, Nat.le_refl _, by omega, of_decide_eq_true h1, h2⟩
    · obtain ⟨q, h3, h4, h5, h6⟩ := chain_ok h2
      exact ⟨q, by omega, by omega, h5, h6⟩

theorem exIndexAddr_ok {H : Heap} {t : TypeId} {s u : Sc} {V U : Value} {K : Sc → Option R} {e : En} (h : exIndexAddr P t H s u K = some x) (hs : RepSc e s V) (hu : RepSc e u U) (w : World) :
    ∃ r v, Stays P (Instr.indexAt t V U) w v ∧ RepSc e r v ∧ K r = some x := by
  unfold exIndexAddr at h
  split at h
  · rename_i k i
    obtain rfl : U = .int k i := hu
    split at h
    · rename_i n el r o hd
      split at h
      · cases h
      · rename_i z hz
        obtain ⟨hb, h⟩ := br_none h
        obtain ⟨h0, h1⟩ := inB_spec hb
        obtain ⟨hr, rfl⟩ := hs
        refine run_mk h ⟨hr, ?_⟩ (fun w _ => by simp [Instr.indexAt, asIntOf, run_underlying hd, Instr.sureAddr, h0, h1, run_sizeOf hz]; rfl)
        rw [addr_add]
    · rename_i n el r o i0 z0 hd
      split at h
      · cases h
      · rename_i z hz
        cases hw : (Nat.ble n 8 && whole H r o z0) with
        | true =>
          rw [hw] at h
          obtain ⟨q, _, hq, rfl, hK⟩ := chain_ok h
          obtain ⟨hr, rfl⟩ := hs
          refine run_mk hK ⟨hr, ?_⟩ (fun w _ => by simp [Instr.indexAt, asIntOf, run_underlying hd, Instr.sureAddr, show q < n by omega, run_sizeOf hz]; rfl)
          rw [addr_add]
          congr 2
          simp [addr]
          omega
        | false =>
        rw [hw] at h
        simp only [cond_false] at h
        obtain ⟨hc, h⟩ := bif_none h
        obtain ⟨hb, h⟩ := br_none h
        rw [Bool.and_eq_true] at hb
        obtain ⟨h0, h1⟩ := inB_spec hb.1
        have h2 : 0 ≤ i0 := by simpa using hb.2
        have hz0 : z0 = n * (z + 1) := (Nat.eq_of_beq_eq_true hc).symm
        obtain ⟨hr, rfl⟩ := hs
        refine run_mk h ⟨hr, ?_⟩ (fun w _ => by simp [Instr.indexAt, asIntOf, run_underlying hd, Instr.sureAddr, h0, h1, run_sizeOf hz]; rfl)
        rw [addr_add]
        have : (i0 * (n : Int) + i).toNat = i0.toNat * n + i.toNat := by
          obtain ⟨a, rfl⟩ := Int.eq_ofNat_of_zero_le h2
          obtain ⟨b, rfl⟩ := Int.eq_ofNat_of_zero_le h0
          simp only [Int.toNat_natCast]
          omega
        rw [this, hz0, Nat.add_mul, Nat.mul_assoc, Nat.add_assoc]
    · rename_i n el s l i0 o hd
      split at h
      · cases h
      · rename_i z hz
        obtain ⟨_, h⟩ := bif_none h
        obtain ⟨q, _, hq, rfl, hK⟩ := chain_ok h
        obtain ⟨hi, ad, hav, hrow, rfl⟩ := hs
        refine run_mk hK ⟨hi, ad, hav, hrow, ?_⟩ (fun w _ => by simp [Instr.indexAt, asIntOf, run_underlying hd, Instr.sureAddr, show q < n by omega, run_sizeOf hz]; rfl)
        unfold Addr.add
        split
        · rename_i h0; simp [h0]
        · simp [Nat.add_assoc]
    · rename_i el r o z lo len cap hd
      obtain ⟨hc, h⟩ := bif_none h
      rw [Bool.and_eq_true] at hc
      have hz : P.cellsOf el = z := (Nat.eq_of_beq_eq_true hc.1).symm
      have hz0 : 0 < z := by simpa using hc.2
      obtain ⟨hb, h⟩ := br_none h
      obtain ⟨h0, h1⟩ := inB_spec hb
      obtain ⟨hr, hlen, A, C, rfl, hC, hA⟩ := hs
      have hC0 : 0 < C := by
        have : len ≤ C := Nat.le_trans hlen hC
        omega
      obtain ⟨rfl, _⟩ := hA hC0
      obtain ⟨z, rfl⟩ : ∃ y, z = y + 1 := ⟨z - 1, by omega⟩
      refine run_mk h ⟨hr, ?_⟩ (fun w _ => by simp [Instr.indexAt, asIntOf, run_underlying hd, h0, h1, run_sizeOf hz]; rfl)
      rw [addr_add, addLo_toNat h0, Nat.add_mul, Nat.add_assoc]
    · rename_i el s l hd
      obtain ⟨hc, h⟩ := bif_none h
      rw [Bool.and_eq_true] at hc
      have hz : P.cellsOf el = s.size := (Nat.eq_of_beq_eq_true hc.1).symm
      have hz0 : 0 < s.size := by simpa using hc.2
      obtain ⟨hb, h⟩ := br_none h
      obtain ⟨h0, h1⟩ := inB_spec hb
      obtain ⟨A, C, rfl, hC, hl⟩ := hs
      have hne : l ≠ [] := by intro e; subst e; simp at h1; omega
      obtain ⟨ad, rfl, hav, hrow⟩ := hl hne
      obtain ⟨z, hz'⟩ : ∃ y, s.size = y + 1 := ⟨s.size - 1, by omega⟩
      rw [hz'] at hz
      refine run_mk h ⟨by omega, ad, hav, hrow, ?_⟩ (fun w _ => by simp [Instr.indexAt, asIntOf, run_underlying hd, h0, h1, run_sizeOf hz]; rfl)
      obtain ⟨hsp, _⟩ := hrow
      obtain ⟨b, off, sp⟩ := ad
      simp only at hsp
      subst hsp
      unfold Addr.add
      split
      · rename_i hq; simp [hz', hq]
      · simp [hz']
    · cases h
  · cases h

/-! ### loads -/
theorem run_loadVar_agg {t : TypeId} {n : Nat} (ha : ∀ w, (isAgg t).run P w = .ok true w) (hn : ∀ w, (sizeOf t).run P w = .ok n w) {ad : Addr} {c : Array Value} {ty : TypeId} {f : Nat × Nat} (hs : ad.spot = none)
    (hc : w.heap[ad.block]? = some (.cells c ty f)) {vs : List Value} (hl : vs.length = n) (hv : ∀ j v, vs[j]? = some v → c[ad.off + j]? = some v) :
    Stays P (loadVar t ad) w (.agg vs.toArray) := fun w' hw => by
  subst hl
  simp [loadVar, ha, hn, run_loadCells_of hs (hw _ _ hc) hv]

theorem run_loadVar_one {t : TypeId} (ha : ∀ w, (isAgg t).run P w = .ok false w) {ad : Addr} {c : Array Value} {ty : TypeId} {f : Nat × Nat} (hs : ad.spot = none)
    (hc : w.heap[ad.block]? = some (.cells c ty f)) {v : Value} (hv : c[ad.off]? = some v) : Stays P (loadVar t ad) w v := fun w' hw => by
  simp only [loadVar, Sem.run_bind, ha, Result.andThen_ok, Bool.false_eq_true, if_false]
  exact run_load_of hs (hw _ _ hc) hv _

/-- an object's cells in the world -/
theorem obj_k (ok : HeapOk w β F H) {r : Nat} {sg : List Seg} (h : H[r]? = some (.cells sg)) (h0 : 0 < segsSize sg) : (β r).k := by
  obtain ⟨vs, h4, k0, hk⟩ := ok.obj r _ h
  refine Classical.byContradiction fun hn => ?_
  have := k0 hn
  omega

theorem obj_cells' (ok : HeapOk w β F H) {r : Nat} {sg : List Seg} (h : H[r]? = some (.cells sg)) (h0 : (β r).k) :
    ∃ (c : Array Value) (t : TypeId) (vs pre post : List Value), w.heap[(β r).b]? = some (.cells c t (0, 0)) ∧ c.toList = pre ++ vs ++ post ∧ pre.length = (β r).o ∧
      RepSegs (en w β F H) sg vs ∧ vs.length = segsSize sg ∧ ∀ j v, vs[j]? = some v → c[(β r).o + j]? = some v := by
  obtain ⟨vs, h4, _, hk⟩ := ok.obj r _ h
  obtain ⟨c, t, pre, post, h1, h2, h3⟩ := hk h0
  refine ⟨c, t, vs, pre, post, h1, h2, h3, h4, h4.len, fun j v hj => ?_⟩
  have hlt := (List.getElem?_eq_some_iff.1 hj).1
  have h3' : pre.length = (β r).o := h3
  rw [← Array.getElem?_toList, h2, ← h3', List.append_assoc, List.getElem?_append_right (by omega), show pre.length + j - pre.length = j by omega, List.getElem?_append_left hlt]
  exact hj

theorem obj_cells (ok : HeapOk w β F H) {r : Nat} {sg : List Seg} (h : H[r]? = some (.cells sg)) (h0 : 0 < segsSize sg) :
    ∃ (c : Array Value) (t : TypeId) (vs pre post : List Value), w.heap[(β r).b]? = some (.cells c t (0, 0)) ∧ c.toList = pre ++ vs ++ post ∧ pre.length = (β r).o ∧
      RepSegs (en w β F H) sg vs ∧ vs.length = segsSize sg ∧ ∀ j v, vs[j]? = some v → c[(β r).o + j]? = some v := obj_cells' ok h (obj_k ok h h0)

theorem getD_of {α : Type} {l : List α} {i : Nat} (h : i < l.length) (d : α) : l.getD i d = l[i] := by simp [List.getD, h]

theorem seek_size : ∀ {sg g : List Seg} {o f : Nat}, seek sg o = some (g, f) → segsSize g ≤ segsSize sg
  | [], _, _, _, h => by cases h
  | .c x :: r, g, 0, f, h => by simp only [seek] at h; cases h; exact Nat.le_refl _
  | .c x :: r, g, o + 1, f, h => by
    simp only [seek] at h
    have := seek_size h
    simp [segsSize]; omega
  | .row s n l :: r, g, o, f, h => by
    simp only [seek] at h
    cases hb : Nat.blt o s.size with
    | true => rw [hb] at h; cases h; exact Nat.le_refl _
    | false =>
      rw [hb] at h
      cases hc : Nat.blt o (n * s.size) with
      | true => rw [hc] at h; cases h; exact Nat.le_refl _
      | false =>
        rw [hc] at h
        have := seek_size h
        simp only [segsSize]; omega

theorem takeSegs_size : ∀ {sg a b : List Seg} {n : Nat}, takeSegs sg n = some (a, b) → n ≤ segsSize sg
  | _, _, _, 0, _ => Nat.zero_le _
  | [], _, _, _ + 1, h => by cases h
  | .c x :: r, a, b, n + 1, h => by
    simp only [takeSegs] at h
    split at h
    · rename_i h'
      have := takeSegs_size h'
      simp [segsSize, segSize]; omega
    · cases h
  | .row s m l :: r, a, b, n + 1, h => by
    simp only [takeSegs] at h
    cases hb : Nat.ble (m * s.size) (n + 1) with
    | false => rw [hb] at h; cases h
    | true =>
      rw [hb] at h
      simp only [cond_true] at h
      split at h
      · rename_i h'
        have := takeSegs_size h'
        have := Nat.le_of_ble_eq_true hb
        simp [segsSize, segSize]; omega
      · cases h

/-- what is picked of cells -/
theorem pick_ok {agg : Bool} {n : Nat} {cs : List Sc} {vs : List Value} {e : En} (hr : RepScs e cs vs) (hn : n ≤ vs.length) (h0 : 0 < n) {t : TypeId} {ad : Addr} {c : Array Value} {ty : TypeId} {f : Nat × Nat}
    (ha : ∀ w, (isAgg t).run P w = .ok agg w) (hsz : ∀ w, (sizeOf t).run P w = .ok n w) (hs : ad.spot = none) (hc : w.heap[ad.block]? = some (.cells c ty f)) (hv : ∀ j v, vs[j]? = some v → c[ad.off + j]? = some v) :
    ∃ v, Stays P (loadVar t ad) w v ∧ RepSV e (pickSV agg cs n) v := by
  cases agg with
  | true =>
    refine ⟨_, run_loadVar_agg (vs := vs.take n) ha hsz hs hc (by simp; omega) fun j v hj => hv j v ?_, _, rfl, (hr.take n).segs⟩
    have := (List.getElem?_eq_some_iff.1 hj).1
    simp at this
    rwa [List.getElem?_take_of_lt (by omega)] at hj
  | false =>
    cases cs with
    | nil => rw [show vs = [] from hr] at hn; simp at hn; omega
    | cons x cs =>
      obtain ⟨V, v', rfl, _, h1, _⟩ := hr
      exact ⟨V, run_loadVar_one ha hs hc (by have := hv 0 V rfl; simpa using this), h1⟩

theorem loadAt_ok {agg : Bool} {n : Nat} {t : TypeId} {p : Sc} {V : Value} {K : SV → Option R} (ht : aggO P t = some (agg, n)) (h : loadAt agg n H p K = some x) (ok : HeapOk w β F H)
    (hp : RepSc (en w β F H) p V) : ∃ r v, Stays P (Instr.loadAt t V) w v ∧ RepSV (en w β F H) r v ∧ K r = some x := by
  obtain ⟨_, _, _, hn0⟩ := aggO_spec ht w
  have ha := fun w => (aggO_spec ht w).1
  have hsz := fun w => (aggO_spec ht w).2.1
  unfold loadAt at h
  split at h
  · -- an address
    rename_i r o
    obtain ⟨hr, rfl⟩ := hp
    have hrun : ∀ {v}, Stays P (loadVar t (addr (en w β F H) r o)) w v → Stays P (Instr.loadAt t (.pointer (some (addr (en w β F H) r o)))) w v := fun h w' hw => by
      simp [Instr.loadAt, Instr.sureAddr, h w' hw]
    split at h
    · rename_i sg hH
      split at h
      · -- a cell first
        rename_i y g hsk
        have h0 : 0 < segsSize sg := Nat.lt_of_lt_of_le (by simp [segsSize, segSize]; omega) (seek_size hsk)
        obtain ⟨c, ty, vs, pre, post, hc, _, _, hvs, _, hcell⟩ := obj_cells ok hH h0
        obtain ⟨u, v, rfl, hu, hv⟩ := seek_rep sg o _ 0 vs hsk hvs
        have hcell' : ∀ j z, v[j]? = some z → c[(addr (en w β F H) r o).off + j]? = some z := fun j z hj => by
          have := hcell (u.length + j) z (by rw [List.getElem?_append_right (by omega), show u.length + j - u.length = j by omega]; exact hj)
          rw [show (addr (en w β F H) r o).off + j = (β r).o + (u.length + j) by simp [addr, en]; omega]
          exact this
        split at h
        · split at h
          · rename_i a b hab
            obtain ⟨q, q', rfl, hq, hqa, _⟩ := takeSegs_rep _ n a b v hab hv
            exact ⟨.agg a, _, hrun (run_loadVar_agg (vs := q) ha hsz rfl hc hq fun j z hj => hcell' j z (by
              rw [List.getElem?_append_left (List.getElem?_eq_some_iff.1 hj).1]; exact hj)), ⟨q, rfl, hqa⟩, h⟩
          · cases h
        · obtain ⟨Y, v', rfl, _, hY, _⟩ := hv
          exact ⟨.v y, Y, hrun (run_loadVar_one ha rfl hc (hcell' 0 Y rfl)), hY, h⟩
      · -- a row first
        rename_i s m l g hsk
        split at h
        · split at h
          · rename_i a b hab
            have h0 : 0 < segsSize sg := by
              have h1 := seek_size hsk
              have h2 := takeSegs_size hab
              omega
            obtain ⟨c, ty, vs, pre, post, hc, _, _, hvs, _, hcell⟩ := obj_cells ok hH h0
            obtain ⟨u, v, rfl, hu, hv⟩ := seek_rep sg o _ 0 vs hsk hvs
            obtain ⟨q, q', rfl, hq, hqa, _⟩ := takeSegs_rep _ n a b v hab hv
            refine ⟨.agg a, _, hrun (run_loadVar_agg (vs := q) ha hsz rfl hc hq fun j z hj => ?_), ⟨q, rfl, hqa⟩, h⟩
            have := hcell (u.length + j) z (by
              rw [List.getElem?_append_right (by omega), show u.length + j - u.length = j by omega, List.getElem?_append_left (List.getElem?_eq_some_iff.1 hj).1]; exact hj)
            rw [show (addr (en w β F H) r o).off + j = (β r).o + (u.length + j) by simp [addr, en]; omega]
            exact this
          · cases h
        · cases h
      · cases h
    · cases h
  · -- an element
    rename_i r o i z
    obtain ⟨hr, rfl⟩ := hp
    have hrun : ∀ {v}, Stays P (loadVar t (addr (en w β F H) r (o + i.toNat * z))) w v → Stays P (Instr.loadAt t (.pointer (some (addr (en w β F H) r (o + i.toNat * z))))) w v := fun h w' hw => by
      simp [Instr.loadAt, Instr.sureAddr, h w' hw]
    split at h
    · rename_i sg hH
      split at h
      · rename_i s m l g fo hsk
        cases hz : (Nat.beq z s.size && Nat.ble (fo + n) s.size) with
        | true =>
          rw [hz] at h
          simp only [cond_true] at h
          rw [Bool.and_eq_true] at hz
          obtain rfl : z = s.size := Nat.eq_of_beq_eq_true hz.1
          have hfo : fo + n ≤ s.size := Nat.le_of_ble_eq_true hz.2
          obtain ⟨hb, hK⟩ := br_none h
          clear h
          have him : i.toNat < m := by simpa using hb
          have h0 : 0 < segsSize sg := by
            refine Nat.lt_of_lt_of_le ?_ (seek_size hsk)
            have : 0 < m * s.size := Nat.mul_pos (by omega) (by omega)
            simp [segsSize, segSize]; omega
          obtain ⟨c, ty, vs, pre, post, hc, _, _, hvs, _, hcell⟩ := obj_cells ok hH h0
          obtain ⟨u, v, rfl, hu, hlm, rv, v', rfl, hrow, _⟩ := seek_rep sg o _ fo vs hsk hvs
          subst hlm
          obtain ⟨p1, p2, p3, rfl, hp1, hp2, _, _⟩ := hrow.at him
          rw [getD_of him] at hK
          obtain ⟨v, hv1, hv2⟩ := pick_ok (agg := agg) (n := n) ((RepT.enc (e := en w β F H) s _ p2 hp2).drop fo) (by simp [hp2.size]; omega) hn0 ha hsz
            (ad := addr (en w β F H) r (o + i.toNat * s.size)) rfl hc fun j y hj => by
              rw [List.getElem?_drop] at hj
              have hlt := (List.getElem?_eq_some_iff.1 hj).1
              have := hcell (u.length + (p1.length + (fo + j))) y (by
                rw [List.getElem?_append_right (by omega), show u.length + (p1.length + (fo + j)) - u.length = p1.length + (fo + j) by omega,
                  List.getElem?_append_left (by simp; omega), List.getElem?_append_right (by omega), show p1.length + (fo + j) - p1.length = fo + j by omega,
                  List.getElem?_append_left hlt]
                exact hj)
              rw [show (addr (en w β F H) r (o + i.toNat * s.size)).off + j = (β r).o + (u.length + (p1.length + (fo + j))) by simp [addr, en]; omega]
              exact this
          exact ⟨_, v, hrun hv1, hv2, hK⟩
        | false =>
          rw [hz] at h
          simp only [cond_false] at h
          split at h
          · obtain ⟨hc1, h⟩ := bif_none h
            simp only [Bool.and_eq_true] at hc1
            obtain ⟨⟨hnz, hq⟩, hs0⟩ := hc1
            obtain rfl : n = z := Nat.eq_of_beq_eq_true hnz
            have hq : n / s.size * s.size = n := Nat.eq_of_beq_eq_true hq
            have hs0 : 0 < s.size := by simpa using hs0
            generalize n / s.size = q at hq h
            obtain ⟨hb, hK⟩ := br_none h
            clear h
            have him : (i.toNat + 1) * q ≤ m := by simpa using hb
            have hq0 : 0 < q := Nat.pos_of_ne_zero fun e => by subst e; omega
            have h0 : 0 < segsSize sg := by
              refine Nat.lt_of_lt_of_le ?_ (seek_size hsk)
              have : 0 < m * s.size := Nat.mul_pos (by rw [Nat.succ_mul] at him; omega) (by omega)
              simp [segsSize, segSize]; omega
            obtain ⟨c, ty, vs, pre, post, hc, _, _, hvs, _, hcell⟩ := obj_cells ok hH h0
            obtain ⟨u, v, rfl, hu, hlm, rv, v', rfl, hrow, _⟩ := seek_rep sg o _ 0 vs hsk hvs
            subst hlm
            have hrl := hrow.len
            have hle : i.toNat * q * s.size + n ≤ rv.length := by
              rw [hrl, ← hq, ← Nat.add_mul]
              exact Nat.mul_le_mul_right _ (by rw [Nat.succ_mul] at him; exact him)
            have hsub := hrow.sub (i.toNat * q) q
            rw [hq] at hsub
            refine ⟨.agg [.row s q (sub l (i.toNat * q) q)], _, hrun (run_loadVar_agg (vs := (rv.drop (i.toNat * q * s.size)).take n) ha hsz rfl hc (by simp; omega) fun j y hj => ?_), ⟨_, rfl, ?_⟩, hK⟩
            · have hlt := (List.getElem?_eq_some_iff.1 hj).1
              simp at hlt
              rw [List.getElem?_take_of_lt (by omega), List.getElem?_drop] at hj
              have := hcell (u.length + (i.toNat * q * s.size + j)) y (by
                rw [List.getElem?_append_right (by omega), show u.length + (i.toNat * q * s.size + j) - u.length = i.toNat * q * s.size + j by omega,
                  List.getElem?_append_left (by omega)]
                exact hj)
              rw [show (addr (en w β F H) r (o + i.toNat * n)).off + j = (β r).o + (u.length + (i.toNat * q * s.size + j)) by
                rw [Nat.mul_assoc, hq]; simp [addr, en]; omega]
              exact this
            · refine ⟨?_, _, [], by simp, hsub, rfl⟩
              simp only [sub, List.length_take, List.length_drop]
              rw [Nat.succ_mul] at him
              omega
          · cases h
      · cases h
    · cases h
  · -- an element of a list
    rename_i s l i o
    obtain ⟨hb, h⟩ := bif_none h
    have hfo : o + n ≤ s.size := Nat.le_of_ble_eq_true hb
    obtain ⟨hi, ad, hav, hrow, rfl⟩ := hp
    obtain ⟨hsp, c, ty, fz, hc, hel⟩ := hrow
    obtain ⟨vs, hvl, hrep, hcell⟩ := hel i.toNat l[i.toNat] (by simp [hi])
    rw [getD_of hi] at h
    obtain ⟨v, hv1, hv2⟩ := pick_ok (agg := agg) (n := n) ((RepT.enc (e := en w β F H) s _ vs hrep).drop o) (by simp [hvl]; omega) hn0 ha hsz
      (ad := ⟨ad.block, ad.off + i.toNat * s.size + o, none⟩) rfl hc fun j y hj => by
        rw [List.getElem?_drop] at hj
        have := hcell (o + j) y hj
        rw [← Nat.add_assoc] at this
        exact this
    exact ⟨_, v, fun w' hw => by simp [Instr.loadAt, Instr.sureAddr, hv1 w' hw], hv2, h⟩
  · cases h

end
end Go.Gx
