/-
  Gx, part T: regions whose order is drawn.
  Gx, part U: regions whose order is drawn: whatever the draw, what the text's order gives.
  Gx, part V: regions whose order is drawn, the rule.
  Gx, part Tl: regions whose order is drawn, and which write a variable that they read: it is read first.
  Gx, part W: code: the rule for each form; a function's body.
  Gx, part X: a law's call: true, and all that was there is as it was.
-/
import Derived.Test.YtbclodhbcplhmaaGreatGx3
import Derived.Orders
import Derived.ChangeSame
import Derived.WideKeyArgs
namespace Go.Gx
section
variable {R : Type} {P : Program} {T : Table} {w : World} {β : Nat → Loc} {F : Nat → Prop} {H : Heap} {fr : Fr} {a : Act} {x : R}
/-! ### the order that is looked through -/
inductive Bef (ops : List Oper) : Nat → Nat → Prop
 | one {j i : Nat} {o : Oper} : ops[i]? = some o → j ∈ edges o → Bef ops j i
 | trans {j k i : Nat} {o : Oper} : ops[i]? = some o → k ∈ edges o → Bef ops j k → Bef ops j i
structure PairOk (ops : List Oper) (tbl : List (Nat × List Nat)) (ez : List Nat) (j k : Nat) : Prop where
 oj : ∃ o, ops[j]? = some o
 ok : ∃ o, ops[k]? = some o
 looks : ∀ oj okk, ops[j]? = some oj → ops[k]? = some okk → ∀ d, okk.dst = some d → d ∉ looks ops oj ∧ oj.dst ≠ some d
 bef : ∀ oj okk, ops[j]? = some oj → ops[k]? = some okk → (j ∈ befOf tbl k) ∨ (isRead oj.op = true ∧ ∀ d, oj.dst = some d → d ∉ Gx.looks ops okk) ∨ (k ∈ ez ∧ ∀ d, oj.dst = some d → d ∉ Gx.looks ops okk)
structure SelfOk (ops : List Oper) (i : Nat) : Prop where
 ex : ∃ o, ops[i]? = some o
 look : ∀ o, ops[i]? = some o → ∀ d, o.dst = some d → d ∉ looks ops o
 sel : ∀ o, ops[i]? = some o → ∀ cs b, o.op ≠ .select cs b
theorem dstIn_spec {o : Oper} {l : List Nat} (h : dstIn o l = false) : ∀ d, o.dst = some d → d ∉ l := by
 intro d hd hm
 simp [dstIn, hd, hm] at h
theorem notSel_spec {o : Op} (h : notSel o = true) : ∀ cs b, o ≠ .select cs b := by
 intro cs b e
 subst e
 cases h
def TblOk (ops : List Oper) (tbl : List (Nat × List Nat)) : Prop := ∀ i, ∀ j ∈ befOf tbl i, Bef ops j i
theorem TblOk.nil {ops : List Oper} : TblOk ops [] := fun i j h => by simp [befOf] at h
theorem befOf_cons {tbl : List (Nat × List Nat)} {i k : Nat} {s : List Nat} : befOf ((i, s) :: tbl) k = if i = k then s else befOf tbl k := by
 by_cases h : i = k
 ·subst h; simp [befOf]
 ·have : Nat.beq i k = false := by
   cases hb : Nat.beq i k with
   | false => rfl
   | true => exact absurd (Nat.eq_of_beq_eq_true hb) h
  simp [befOf, List.find?, this, h]
theorem mem_uniqN : ∀ {l : List Nat} {x : Nat}, x ∈ uniqN l → x ∈ l
 | y :: r, x, h => by
  simp only [uniqN] at h
  cases hc : (uniqN r).contains y with
  | true => rw [hc] at h; exact List.mem_cons_of_mem _ (mem_uniqN h)
  | false =>
   rw [hc] at h
   rcases List.mem_cons.1 h with rfl | h
   ·exact List.mem_cons_self ..
   ·exact List.mem_cons_of_mem _ (mem_uniqN h)
theorem ahead_spec {ops : List Oper} {tbl : List (Nat × List Nat)} (h : TblOk ops tbl) {i : Nat} {o : Oper} (ho : ops[i]? = some o) : ∀ j ∈ ahead tbl o, Bef ops j i := by
 intro j hj
 obtain ⟨k, hk, hj⟩ := List.mem_flatMap.1 (mem_uniqN hj)
 rcases List.mem_cons.1 hj with rfl | hj
 ·exact .one ho hk
 ·exact .trans ho hk (h k j hj)
theorem TblOk.cons {ops : List Oper} {tbl : List (Nat × List Nat)} (h : TblOk ops tbl) {i : Nat} {o : Oper} (ho : ops[i]? = some o) : TblOk ops ((i, ahead tbl o) :: tbl) := by
 intro k j hj
 rw [befOf_cons] at hj
 split at hj
 ·rename_i e
  subst e
  exact ahead_spec h ho j hj
 ·exact h k j hj
structure Order (ops : List Oper) (tbl : List (Nat × List Nat)) (ez : List Nat) (done rest : List Nat) : Prop where
 nd : (done.reverse ++ rest).Nodup
 len : (done.reverse ++ rest).length = ops.length
 self : ∀ i ∈ rest, SelfOk ops i
 pair : ∀ l i r, rest = l ++ i :: r → ∀ j, j ∈ done ∨ j ∈ l → PairOk ops tbl ez j i
 dep : ∀ l i r, rest = l ++ i :: r → ∀ o, ops[i]? = some o → ∀ j ∈ edges o, j ∈ done ∨ j ∈ l
theorem befTbl_spec {ops : List Oper} {ez : List Nat} : ∀ (rest done : List Nat) (tbl tbl' : List (Nat × List Nat)), befTbl ez ops rest done tbl = some tbl' → done.Nodup → TblOk ops tbl → (∀ p ∈ tbl, p.1 ∈ done) →
  Order ops tbl' ez done rest ∧ TblOk ops tbl' ∧ ∀ i ∈ done, befOf tbl' i = befOf tbl i
 | [], done, tbl, tbl', h, hnd, ht, _ => by
  obtain ⟨h1, h2⟩ := bif_none h
  cases h2
  refine ⟨⟨by rw [List.append_nil]; exact (List.reverse_perm done).symm.nodup hnd, by simpa using Nat.eq_of_beq_eq_true h1, fun i hi => (nomatch hi), fun l i r e => ?_, fun l i r e => ?_⟩, ht, fun _ _ => rfl⟩
  ·cases l <;> cases e
  ·cases l <;> cases e
 | i :: rest, done, tbl, tbl', h, hnd, ht, htd => by
  simp only [befTbl] at h
  split at h
  ·rename_i o ho
   obtain ⟨h1, h2⟩ := bif_none h
   clear h
   simp only [Bool.and_eq_true, Bool.not_eq_true', List.all_eq_true] at h1
   obtain ⟨⟨⟨⟨q1, q2⟩, q3⟩, q4⟩, q5⟩ := h1
   have hi : i ∉ done := fun hm => by
    have : done.contains i = true := by simpa using hm
    rw [q1] at this
    cases this
   obtain ⟨O, hT, hsame⟩ := befTbl_spec rest (i :: done) ((i, ahead tbl o) :: tbl) tbl' h2 (List.nodup_cons.2 ⟨hi, hnd⟩) (ht.cons ho) (fun p hp => by
    rcases List.mem_cons.1 hp with rfl | hp
    ·simp
    ·exact List.mem_cons_of_mem _ (htd p hp))
   have hbi : befOf tbl' i = ahead tbl o := by
    rw [hsame i (by simp), befOf_cons, if_pos rfl]
   have hrev : (i :: done).reverse ++ rest = done.reverse ++ i :: rest := by simp
   refine ⟨⟨by rw [← hrev]; exact O.nd, by rw [← hrev]; exact O.len, ?_, ?_, ?_⟩, hT, fun k hk => ?_⟩
   ·intro k hk
    rcases List.mem_cons.1 hk with rfl | hk
    ·exact ⟨⟨o, ho⟩, fun o' ho' => by rw [ho] at ho'; cases ho'; exact dstIn_spec q3, fun o' ho' => by rw [ho] at ho'; cases ho'; exact notSel_spec q4⟩
    ·exact O.self k hk
   ·intro l k r e j hj
    cases l with
    | nil =>
     cases e
     have hj : j ∈ done := hj.resolve_right (fun h => nomatch h)
     have := q5 j hj
     unfold pairOk at this
     split at this
     ·rename_i oj okk hoj hok
      rw [ho] at hok
      cases hok
      simp only [Bool.and_eq_true, Bool.or_eq_true, Bool.not_eq_true'] at this
      obtain ⟨⟨p1, p2⟩, p3⟩ := this
      refine ⟨⟨oj, hoj⟩, ⟨o, ho⟩, fun oj' ok' h1 h2 d hd => ?_, fun oj' ok' h1 h2 => ?_⟩
      ·rw [hoj] at h1
       rw [ho] at h2
       cases h1
       cases h2
       refine ⟨dstIn_spec p1 d hd, fun e => dstIn_spec p2 d hd (by simp [e])⟩
      ·rw [hoj] at h1
       rw [ho] at h2
       cases h1
       cases h2
       rcases p3 with (p3 | p3) | p3
       ·rw [hbi]; exact .inl (by simpa using p3)
       ·exact .inr (.inl ⟨p3.1, dstIn_spec p3.2⟩)
       ·exact .inr (.inr ⟨by simpa using p3.1, dstIn_spec p3.2⟩)
     ·cases this
    | cons i' l =>
     cases e
     refine O.pair l k r rfl j ?_
     rcases hj with hj | hj
     ·exact .inl (List.mem_cons_of_mem _ hj)
     ·rcases List.mem_cons.1 hj with rfl | hj
      ·exact .inl (by simp)
      ·exact .inr hj
   ·intro l k r e o' ho' j hj
    cases l with
    | nil =>
     cases e
     rw [ho] at ho'
     cases ho'
     simp only [readyB, List.all_eq_true] at q2
     exact .inl (by simpa using q2 j hj)
    | cons i' l =>
     cases e
     rcases O.dep l k r rfl o' ho' j hj with h | h
     ·rcases List.mem_cons.1 h with rfl | h
      ·exact .inr (by simp)
      ·exact .inl h
     ·exact .inr (List.mem_cons_of_mem _ h)
   ·rw [hsame k (List.mem_cons_of_mem _ hk), befOf_cons, if_neg (fun e : i = k => hi (e ▸ hk))]
  ·cases h
/-! ### the same once more -/
theorem listDec_eq {α : Type} {f : α → α → Bool} (hf : ∀ a b, f a b = true → a = b) : ∀ {l m : List α}, listDec f l m = true → l = m
 | [], [], _ => rfl
 | a :: l, b :: m, h => by
  simp only [listDec, Bool.and_eq_true] at h
  rw [hf a b h.1, listDec_eq hf h.2]
 | [], _ :: _, h => by cases h
 | _ :: _, [], h => by cases h
theorem dec_eq : ∀ (s : Sh) (a b : s.T), s.dec a b = true → a = b
 | .int _, a, b, h => by simpa [Sh.dec] using h
 | .bool, a, b, h => by simpa [Sh.dec] using h
 | .str, a, b, h => by simpa [Sh.dec] using h
 | .isl s, a, b, h => listDec_eq (dec_eq s) h
 | .pair x y, a, b, h => by
  simp only [Sh.dec, Bool.and_eq_true] at h
  exact Prod.ext (dec_eq x _ _ h.1) (dec_eq y _ _ h.2)
 | .unit, _, _, _ => rfl
 | .ref _ _, (a : Int), (b : Int), h => of_decide_eq_true (h : decide (a = b) = true)
theorem sameList_eq {s s' : Sh} {l : List s.T} {l' : List s'.T} {k : Option R} (h : sameList s s' l l' k = some x) : (∃ e : s = s', castL e l = l') ∧ k = some x := by
 unfold sameList at h
 split at h
 ·rename_i e
  obtain ⟨h1, h2⟩ := br_none h
  exact ⟨⟨e, listDec_eq (dec_eq s') h1⟩, h2⟩
 ·cases h
theorem sameNats_eq : ∀ {l m : List Nat}, sameNats l m = true → l = m
 | [], [], _ => rfl
 | a :: l, b :: m, h => by
  simp only [sameNats, Bool.and_eq_true] at h
  rw [Nat.eq_of_beq_eq_true h.1, sameNats_eq h.2]
 | [], _ :: _, h => by cases h
 | _ :: _, [], h => by cases h
theorem sameSc_eq {y z : Sc} {k : Option R} (h : sameSc y z k = some x) : y = z ∧ k = some x := by
 unfold sameSc at h
 split at h
 ·obtain ⟨h1, h2⟩ := bif_none h
  obtain ⟨h3, h4⟩ := br_none h2
  simp at h1 h3
  exact ⟨by rw [h1, h3], h4⟩
 ·obtain ⟨h1, h2⟩ := br_none h
  exact ⟨by rw [eq_of_beq h1], h2⟩
 ·obtain ⟨h1, h2⟩ := br_none h
  simp at h1
  exact ⟨by rw [h1], h2⟩
 ·obtain ⟨h1, h2⟩ := bif_none h
  rw [Bool.and_eq_true] at h1
  exact ⟨by rw [Nat.eq_of_beq_eq_true h1.1, Nat.eq_of_beq_eq_true h1.2], h2⟩
 ·obtain ⟨h1, h2⟩ := bif_none h
  simp only [Bool.and_eq_true] at h1
  obtain ⟨h3, h4⟩ := br_none h2
  simp at h3
  exact ⟨by rw [Nat.eq_of_beq_eq_true h1.1.1, Nat.eq_of_beq_eq_true h1.1.2, Nat.eq_of_beq_eq_true h1.2, h3], h4⟩
 ·obtain ⟨h1, h2⟩ := bif_none h
  obtain ⟨h3, h4⟩ := br_none h2
  simp at h3
  obtain ⟨⟨e, h5⟩, h6⟩ := sameList_eq h4
  subst e
  have h5 : _ = _ := h5
  rw [castL_rfl] at h5
  exact ⟨by rw [Nat.eq_of_beq_eq_true h1, h3, h5], h6⟩
 ·exact ⟨rfl, h⟩
 ·obtain ⟨h1, h2⟩ := bif_none h
  simp only [Bool.and_eq_true] at h1
  obtain ⟨h3, h4⟩ := br_none h2
  simp at h3
  rename_i cap _ _ _ _ _ cap'
  have : cap = cap' ∧ k = some x := by
   unfold sameCap at h4
   split at h4
   ·exact ⟨rfl, h4⟩
   ·obtain ⟨h5, h6⟩ := br_none h4
    simp at h5
    exact ⟨by rw [h5], h6⟩
   ·cases h4
  exact ⟨by rw [Nat.eq_of_beq_eq_true h1.1.1, Nat.eq_of_beq_eq_true h1.1.2, Nat.eq_of_beq_eq_true h1.2, h3.1, h3.2, this.1], this.2⟩
 ·obtain ⟨h1, h2⟩ := bif_none h
  rw [Bool.and_eq_true] at h1
  exact ⟨by rw [Nat.eq_of_beq_eq_true h1.1, Nat.eq_of_beq_eq_true h1.2], h2⟩
 ·obtain ⟨⟨e, h5⟩, h6⟩ := sameList_eq h
  subst e
  rw [castL_rfl] at h5
  exact ⟨by rw [h5], h6⟩
 ·exact ⟨rfl, h⟩
 ·exact ⟨rfl, h⟩
 ·obtain ⟨h1, h2⟩ := bif_none h
  exact ⟨by rw [Nat.eq_of_beq_eq_true h1], h2⟩
 ·exact ⟨rfl, h⟩
 ·obtain ⟨h1, h2⟩ := bif_none h
  rw [Bool.and_eq_true] at h1
  exact ⟨by rw [Nat.eq_of_beq_eq_true h1.1, sameNats_eq h1.2], h2⟩
 ·exact ⟨rfl, h⟩
 ·exact ⟨rfl, h⟩
 ·obtain ⟨h1, h2⟩ := bif_none h
  rw [Bool.and_eq_true] at h1
  obtain ⟨h3, h4⟩ := br_none h2
  exact ⟨by rw [eq_of_beq h1.1, Nat.eq_of_beq_eq_true h1.2, of_decide_eq_true h3], h4⟩
 ·obtain ⟨h1, h2⟩ := bif_none h
  simp only [Bool.and_eq_true] at h1
  obtain ⟨h3, h4⟩ := br_none h2
  simp at h3
  exact ⟨by rw [Nat.eq_of_beq_eq_true h1.1.1, Nat.eq_of_beq_eq_true h1.1.2, Nat.eq_of_beq_eq_true h1.2, h3.1, h3.2], h4⟩
 ·obtain ⟨h1, h2⟩ := bif_none h
  simp only [Bool.and_eq_true] at h1
  obtain ⟨h3, h4⟩ := br_none h2
  simp at h3
  exact ⟨by rw [Nat.eq_of_beq_eq_true h1.1, Nat.eq_of_beq_eq_true h1.2, h3.1.1, h3.1.2, h3.2], h4⟩
 ·cases h
theorem sameSegs_eq : ∀ {l m : List Seg} {k : Option R}, sameSegs l m k = some x → l = m ∧ k = some x
 | [], [], k, h => ⟨rfl, h⟩
 | .c y :: l, .c z :: m, k, h => by
  obtain ⟨h1, h2⟩ := sameSc_eq h
  obtain ⟨h3, h4⟩ := sameSegs_eq h2
  exact ⟨by rw [h1, h3], h4⟩
 | .row s n p :: l, .row s' n' q :: m, k, h => by
  obtain ⟨h1, h2⟩ := bif_none h
  obtain ⟨⟨e, h3⟩, h4⟩ := sameList_eq h2
  obtain ⟨h5, h6⟩ := sameSegs_eq h4
  subst e
  rw [castL_rfl] at h3
  exact ⟨by rw [Nat.eq_of_beq_eq_true h1, h3, h5], h6⟩
 | [], _ :: _, _, h => by simp [sameSegs] at h
 | .c _ :: _, [], _, h => by simp [sameSegs] at h
 | .row _ _ _ :: _, [], _, h => by simp [sameSegs] at h
 | .c _ :: _, .row _ _ _ :: _, _, h => by simp [sameSegs] at h
 | .row _ _ _ :: _, .c _ :: _, _, h => by simp [sameSegs] at h
theorem sameSV_eq {y z : SV} {k : Option R} (h : sameSV y z k = some x) : y = z ∧ k = some x := by
 unfold sameSV at h
 split at h
 ·obtain ⟨h1, h2⟩ := sameSc_eq h; exact ⟨by rw [h1], h2⟩
 ·obtain ⟨h1, h2⟩ := sameSegs_eq h; exact ⟨by rw [h1], h2⟩
 ·cases h
theorem sameSVs_eq : ∀ {l m : List SV} {k : Option R}, sameSVs l m k = some x → l = m ∧ k = some x
 | [], [], k, h => ⟨rfl, h⟩
 | y :: l, z :: m, k, h => by
  obtain ⟨h1, h2⟩ := sameSV_eq h
  obtain ⟨h3, h4⟩ := sameSVs_eq h2
  exact ⟨by rw [h1, h3], h4⟩
 | [], _ :: _, _, h => by simp [sameSVs] at h
 | _ :: _, [], _, h => by simp [sameSVs] at h
theorem sameSlot_eq {y z : Slot} {k : Option R} (h : sameSlot y z k = some x) : y = z ∧ k = some x := by
 unfold sameSlot at h
 split at h
 ·obtain ⟨h1, h2⟩ := sameSV_eq h; exact ⟨by rw [h1], h2⟩
 ·obtain ⟨h1, h2⟩ := sameSVs_eq h; exact ⟨by rw [h1], h2⟩
 ·exact ⟨rfl, h⟩
 ·cases h
end
end Go.Gx

namespace Go.Gx
section
variable {R : Type} {P : Program} {T : Table} {w : World} {β : Nat → Loc} {F : Nat → Prop} {H : Heap} {fr : Fr} {a A : Act} {x : R} {ops : Array Oper} {tbl : List (Nat × List Nat)} {ez : List Nat}
theorem get_put {d : Option Nat} {v : Value} {t : Nat} (h : d ≠ some t) : (a.put d v).tmps[t]? = a.tmps[t]? := by
 cases d with
 | none => rfl
 | some d => simp [Act.put, Array.getElem?_setIfInBounds_ne (fun e : d = t => h (by rw [e]))]
theorem put_agree {d : Option Nat} {v : Value} {t : Nat} (hs : a.tmps.size = A.tmps.size) (h : d ≠ some t → a.tmps[t]? = A.tmps[t]?) : (a.put d v).tmps[t]? = (A.put d v).tmps[t]? := by
 by_cases e : d = some t
 ·subst e
  simp [Act.put, Array.getElem?_setIfInBounds, hs]
 ·rw [get_put e, get_put e]
  exact h e
theorem size_put {d : Option Nat} {v : Value} : (a.put d v).tmps.size = a.tmps.size := by cases d <;> simp [Act.put]
theorem defers_put {d : Option Nat} {v : Value} : (a.put d v).defers = a.defers := by cases d <;> rfl
theorem put_put {d : Option Nat} {v u : Value} : (a.put d v).put d u = a.put d u := by
 cases d with
 | none => rfl
 | some d => simp [Act.put, Array.setIfInBounds_setIfInBounds]
theorem looksAt_eq (o : Oper) : o.looksAt ops = looks ops.toList o := by
 unfold Oper.looksAt looks
 congr 1
 cases hg : o.guard with
 | none => rfl
 | some gw =>
  obtain ⟨g, want⟩ := gw
  simp only [gslot, Array.getElem?_toList]
  cases ops[g]? <;> rfl
theorem agree_exec {o : Oper} (hs : ∀ cs b, o.op ≠ .select cs b) (h : ∀ t ∈ looks ops.toList o, a.tmps[t]? = A.tmps[t]?) :
  execOp a.eval o = execOp A.eval o ∧ Region.wanted o (yielded ops a.tmps) = Region.wanted o (yielded ops A.tmps) := by
 rw [← looksAt_eq] at h
 constructor
 ·refine execOp_congr o hs fun y hy => ?_
  cases y with
  | tmp t =>
   have := h t (List.mem_append_left _ (List.mem_filterMap.2 ⟨.tmp t, by simpa using hy, rfl⟩))
   simp [Act.eval, this]
  | _ => rfl
 ·unfold Region.wanted
  cases hg : o.guard with
  | none => rfl
  | some gw =>
   obtain ⟨g, want⟩ := gw
   have : yielded ops a.tmps g = yielded ops A.tmps g := by
    unfold yielded
    cases ht : (ops[g]?).bind (·.dst) with
    | none => rfl
    | some t =>
     have := h t (List.mem_append_right _ (by simp [hg, ht]))
     simp only [Option.bind_some, this]
   simp only [this]
def StepVal (P : Program) (ops : Array Oper) (o : Oper) (A : Act) (w : World) (v : Value) : Prop :=
 if Region.wanted o (yielded ops A.tmps) = true then ∀ w', Sup w w' → (execOp A.eval o).run P w' = .ok (.value v) w' else v = undef
theorem StepVal.agree {o : Oper} {v : Value} (hs : ∀ cs b, o.op ≠ .select cs b) (h : ∀ t ∈ looks ops.toList o, a.tmps[t]? = A.tmps[t]?) (k : StepVal P ops o A w v) : StepVal P ops o a w v := by
 obtain ⟨h1, h2⟩ := agree_exec hs h
 unfold StepVal at *
 rw [h1, h2]
 exact k
theorem StepVal.sup {o : Oper} {v : Value} {w' : World} (hs : Sup w w') (h : StepVal P ops o A w v) : StepVal P ops o A w' v := by
 unfold StepVal at *
 split
 ·rename_i hw
  rw [if_pos hw] at h
  exact fun w2 h2 => h w2 (hs.trans h2)
 ·rename_i hw
  rw [if_neg hw] at h
  exact h
theorem StepVal.wpOp {i : Nat} {o : Oper} {v : Value} (hi : ops[i]? = some o) (h : StepVal P ops o a w v) {K : Act → World → Prop} {Q : Exit → Act → World → Prop} (hK : K (a.put o.dst v) w) : wpOp P ops Q i K a w := by
 unfold Go.wpOp StepVal at *
 simp only [hi]
 split
 ·rename_i hw
  rw [if_pos hw] at h
  refine .inl ?_
  unfold Oper.wp
  rw [h w (Sup.refl w)]
  exact hK
 ·rename_i hw
  rw [if_neg hw] at h
  subst h
  exact hK
theorem exStep_cases {o : Oper} {K : Fr → Heap → Option R} (hr : exStep P T ops.toList o fr H K = some x) (h : Rel w β F H fr A) :
  (Region.wanted o (yielded ops A.tmps) = true ∧ ∃ fr1, Rel w β F H fr1 A ∧ exOp P T fr1 H o.op (fun s H => fHr (isRead o.op) H fun H => putF fr1 o.dst s fun fr => K fr H) = some x) ∨
  (Region.wanted o (yielded ops A.tmps) = false ∧ ∃ fr1, Rel w β F H fr1 A ∧ K (setO fr1 o.dst (.tup [])) H = some x) := by
 unfold exStep at hr
 split at hr
 ·rename_i hg
  exact .inl ⟨by simp [Region.wanted, hg], fr, h, hr⟩
 ·rename_i j want hg
  split at hr
  ·rename_i t ht
   have hs := h.slots t
   split at hr
   ·rename_i b hb
    rw [hb] at hs
    have hs : A.tmps.getD t undef = .bool b := hs
    have ht' : A.tmps[t]? = some (.bool b) := by
     rw [Array.getD_eq_getD_getElem?] at hs
     cases he : A.tmps[t]? with
     | none => rw [he] at hs; cases hs
     | some v => rw [he] at hs; simp at hs; rw [hs]
    have hw : Region.wanted o (yielded ops A.tmps) = asks want b := by
     simp only [Region.wanted, hg, yielded_of ht, ht']
     cases b <;> cases want <;> rfl
    rw [hw]
    cases hc : asks want b with
    | true =>
     rw [hc] at hr
     simp only [br, setF_eq] at hr
     have hbw : b = want := by cases b <;> cases want <;> first | rfl | (cases hc)
     subst hbw
     exact .inl ⟨rfl, _, h.known (s := .sv (.v (.bool b))) (by rw [hs]; rfl), hr⟩
    | false =>
     rw [hc] at hr
     simp only [br, setF_eq, putF_set] at hr
     have hbw : b = !want := by cases b <;> cases want <;> first | rfl | (cases hc)
     subst hbw
     exact .inr ⟨rfl, _, h.known (s := .sv (.v (.bool (!want)))) (by rw [hs]; rfl), hr⟩
   ·rename_i l hl
    rw [hl] at hs
    obtain ⟨vs, hs, _⟩ := hs
    have ht' : ∀ b, A.tmps[t]? ≠ some (.bool b) := fun b he => by
     rw [Array.getD_eq_getD_getElem?, he] at hs
     cases hs
    have hm : (match A.tmps[t]? with
     | some (.bool b) => some b
     | _ => none) = none := by
     split
     ·rename_i b hb; exact absurd hb (ht' b)
     ·rfl
    have hw : Region.wanted o (yielded ops A.tmps) = false := by
     simp only [Region.wanted, hg, yielded_of ht]
     rw [show (none == some want) = false from rfl] <;> rfl
    rw [putF_set] at hr
    exact .inr ⟨hw, fr, h, hr⟩
   ·cases hr
  ·cases hr
theorem readStep {o : Oper} (hb : isRead o.op = true) {K : Fr → Heap → Option R} (hr : exStep P T ops.toList o fr H K = some x) (h : Rel w β F H fr A) :
  ∃ v fr', StepVal P ops o A w v ∧ Rel w β F H fr' (A.put o.dst v) ∧ K fr' H = some x := by
 rcases exStep_cases hr h with ⟨hw, fr1, h1, h2⟩ | ⟨hw, fr1, h1, h2⟩
 ·unfold exOp at h2
  rw [hb] at h2
  have h2 : exRead P fr1 H o.op (fun s => fHr true H fun H => putF fr1 o.dst s fun fr => K fr H) = some x := h2
  obtain ⟨s, v, h3, h4, h5⟩ := exRead_ok h2 h1
  replace h5 : K (setO fr1 o.dst s) H = some x := by simpa only [fHr_eq, putF_set] using h5
  exact ⟨v, _, by unfold StepVal; rw [if_pos hw]; exact h3, h1.put h1.ok (Ext.refl _) o.dst h4, h5⟩
 ·exact ⟨undef, _, by unfold StepVal; rw [if_neg (by rw [hw]; simp)], h1.put h1.ok (Ext.refl _) o.dst undef_tup, h2⟩
/-! ### variables that are made ahead of their turn -/
abbrev Early := List (Nat × Nat)
def FE (F : Nat → Prop) (l : Early) (b : Nat) : Prop := F b ∨ ∃ p ∈ l, p.2 = b
theorem Ext.reF {w w' : World} {β β' : Nat → Loc} {H H' : Heap} {F G : Nat → Prop} (h : Ext (en w β F H) (en w' β' F H')) : Ext (en w β G H) (en w' β' G H') :=
 ⟨h.n, h.β, h.el, h.size, h.kept, h.sub, rfl, h.sz, h.grow, h.out, h.froz, h.pq, h.pn⟩
theorem Ext0.trans {a b c : En} (h : Ext0 a b) (k : Ext0 b c) (hs : a.w.heap.size ≤ b.w.heap.size := by exact Nat.le_refl _) : Ext0 a c where
 n := Nat.le_trans h.n k.n
 β r hr := (k.β r (Nat.lt_of_lt_of_le hr h.n)).trans (h.β r hr)
 el r i hr hi := (k.el r i (Nat.lt_of_lt_of_le hr h.n) (Nat.lt_of_lt_of_le hi (h.pn r hr))).trans (h.el r i hr hi)
 pn r hr := Nat.le_trans (h.pn r hr) (k.pn r (Nat.lt_of_lt_of_le hr h.n))
 kp := ⟨fun i hi hav => by
  obtain ⟨h1, h2⟩ := h.kp.b i hi hav
  obtain ⟨h3, h4⟩ := k.kp.b i (Nat.lt_of_lt_of_le hi hs) h2
  exact ⟨h3.trans h1, h4⟩, fun t i b m hp => k.kp.p t i b m (h.kp.p t i b m hp)⟩
 sz r m hr hv := h.sz r m hr (k.sz r m (Nat.lt_of_lt_of_le hr h.n) hv)
 grow i x t f hx := by
  obtain ⟨c', f', h1, h2⟩ := h.grow i x t f hx
  obtain ⟨c2, f2, h3, h4⟩ := k.grow i c' t f' h1
  exact ⟨c2, f2, h3, h4.trans h2⟩
theorem ext0_adopt {w : World} {β : Nat → Loc} {G G' : Nat → Prop} {H : Heap} {b : Nat} {o : Obj} (hn : NoPool o) (hG : ∀ b', G' b' → G b') (hb : G b) :
  Ext0 (en w β G H) (en w (upd β H.length (.mk3 b 0 True)) G' (H ++ [o])) where
 n := by simp [en]
 β r hr := by have hr : r < H.length := hr; simp only [en, upd_lt hr]
 el r i hr _ := by have hr : r < H.length := hr; simp only [en, upd_lt hr]
 pn r hr := pn_keep fun o h => by rw [List.getElem?_append_left hr]; exact h
 kp := ⟨fun b' _ hav => ⟨rfl, fun h => hav (by
  rcases h with h | h
  ·rcases Own.snoc h with h | h
   ·exact .inl h
   ·exact .inr (by rw [← (owns_of h hn).2]; exact hb)
  ·exact .inr (hG _ h))⟩, fun t => pb_snoc t⟩
 sz r m hr h := by
  have hr' : r < H.length := hr
  simp only [en, szOf] at h ⊢
  rw [List.getElem?_append_left hr'] at h
  exact h
 grow b c t f h := ⟨c, f, h, rfl⟩
theorem ok_adopt {w : World} {β : Nat → Loc} {G G' : Nat → Prop} {H : Heap} {b : Nat} (ok : HeapOk w β G H) (hG : ∀ b', G' b' → G b') (hb : G b) (hn : ¬ G' b) {sg : List Seg} {cs : Array Value} {t : TypeId}
  (hc : w.heap[b]? = some (.cells cs t (0, 0))) (hs : RepSegs (en w β G H) sg cs.toList) : HeapOk w (upd β H.length (.mk3 b 0 True)) G' (H ++ [.cells sg]) where
 obj r x h := by
  have hno : NoPool (.cells sg) := fun _ _ _ _ h => nomatch h
  rcases get_snoc h with h | ⟨rfl, rfl⟩
  ·exact RepObj.mono0 (ext0_adopt hno hG hb) (lt_len h) (Nat.le_of_eq (pnOf_of h).symm) (ok.obj r x h) fun _ _ => rfl
  ·exact ⟨cs.toList, RepSegs.mono0 (ext0_adopt hno hG hb) _ _ hs, fun h => absurd (by simp [en, upd_eq]) h, fun _ => ⟨cs, t, [], [], by simp only [en, upd_eq]; exact hc, by simp, by simp [en, upd_eq]⟩⟩
 ltB r x b' h hw := by
  rcases get_snoc h with h | ⟨rfl, rfl⟩
  ·rw [upd_lt (lt_len h)] at hw
   obtain ⟨h1, h2⟩ := ok.ltB r x b' h hw
   exact ⟨h1, fun h => h2 (hG _ h)⟩
  ·rw [upd_eq] at hw
   rw [← hw.2]
   exact ⟨lt_of_heap hc, hn⟩
 injB r r' x x' b' h h' hw hw' := by
  rcases get_snoc h with k | ⟨k, kx⟩ <;> rcases get_snoc h' with k' | ⟨k', kx'⟩
  ·rw [upd_lt (lt_len k)] at hw
   rw [upd_lt (lt_len k')] at hw'
   exact ok.injB r r' x x' b' k k' hw hw'
  ·rw [upd_lt (lt_len k)] at hw
   rw [k', upd_eq, kx'] at hw'
   have e : b = b' := hw'.2
   exact absurd (by rw [← e]; exact hb) (ok.ltB r x b' k hw).2
  ·rw [upd_lt (lt_len k')] at hw'
   rw [k, upd_eq, kx] at hw
   have e : b = b' := hw.2
   exact absurd (by rw [← e]; exact hb) (ok.ltB r' x' b' k' hw').2
  ·rw [k, k']
 F b' h := ok.F b' (hG b' h)
 uni r r' k k' t s s' l l' h h' := by
  rcases get_snoc h with h | ⟨_, h⟩
  ·rcases get_snoc h' with h' | ⟨_, h'⟩
   ·exact ok.uni r r' k k' t s s' l l' h h'
   ·cases h'
  ·cases h
theorem ext_adopt {e0 : En} {w : World} {β : Nat → Loc} {F : Nat → Prop} {H : Heap} {b : Nat} {o : Obj} (hno : NoPool o) (h : Ext e0 (en w β F H)) (hb : e0.w.heap.size ≤ b) : Ext e0 (en w (upd β H.length (.mk3 b 0 True)) F (H ++ [o])) where
 n := Nat.le_trans h.n (by simp [en])
 β r hr := by
  have h1 := h.β r hr
  have h2 : r < H.length := Nat.lt_of_lt_of_le hr h.n
  simp only [en, upd_lt h2]
  exact h1
 el r i hr hi := by
  have h1 := h.el r i hr hi
  have h2 : r < H.length := Nat.lt_of_lt_of_le hr h.n
  simp only [en, upd_lt h2]
  exact h1
 pq r t i b m hr hp := pq_snoc r t i b m (Nat.lt_of_lt_of_le hr h.n) (h.pq r t i b m hr hp)
 pn r hr := Nat.le_trans (h.pn r hr) (pn_keep fun o ho => by rw [List.getElem?_append_left (Nat.lt_of_lt_of_le hr h.n)]; exact ho)
 size := h.size
 kept := h.kept
 sub b' hb' ho := by
  rcases Own.snoc ho with ho | ho
  ·exact h.sub b' hb' ho
  ·have : b = b' := (owns_of ho hno).2
   omega
 F := h.F
 sz r m hr hm := by
  have hr' : r < H.length := Nat.lt_of_lt_of_le hr h.n
  refine h.sz r m hr ?_
  simp only [en, szOf] at hm ⊢
  rw [List.getElem?_append_left hr'] at hm
  exact hm
 grow := h.grow
 out := h.out
 froz := h.froz
theorem ext_out {w : World} {β : Nat → Loc} {F : Nat → Prop} {H : Heap} (g : Go.Obj) (hg : ∀ c t f, g = .cells c t f → f = (0, 0)) : Ext (en w β F H) (en (w.alloc g) β F H) where
 n := Nat.le_refl _
 β _ _ := rfl
 el _ _ _ _ := rfl
 pq _ _ _ _ _ _ h := h
 pn _ _ := Nat.le_refl _
 size := by simp [en]
 kept b hb _ := heap_alloc_old hb
 sub _ _ h := h
 F := rfl
 sz _ _ _ h := h
 grow b c t f h := ⟨c, f, by simp only [en] at *; rw [heap_alloc_old (lt_of_heap h)]; exact h, rfl⟩
 out := ⟨rfl, rfl⟩
 froz b c t f h := by
  by_cases hb : b < w.heap.size
  ·have h : (w.alloc g).heap[b]? = _ := h
   rw [heap_alloc_old hb] at h
   exact .inr ⟨c, h⟩
  ·have h : (w.heap.push g)[b]? = _ := h
   rw [Array.getElem?_push] at h
   split at h
   ·cases h
    exact .inl (hg _ _ _ rfl)
   ·exact .inr ⟨c, h⟩
theorem ext0_early {w : World} {β : Nat → Loc} {G G' : Nat → Prop} {H : Heap} {g : Go.Obj} (hG : ∀ b, G' b → G b ∨ b = w.heap.size) : Ext0 (en w β G H) (en (w.alloc g) β G' H) where
 n := Nat.le_refl _
 β _ _ := rfl
 el _ _ _ _ := rfl
 pn _ _ := Nat.le_refl _
 kp := ⟨fun b hb hav => ⟨heap_alloc_old hb, fun h => hav (h.imp_right fun h => (hG b h).resolve_right (fun e => absurd hb (by simp only [en, e]; omega)))⟩, fun _ _ _ _ h => h⟩
 sz _ _ _ h := h
 grow b c t f h := ⟨c, f, by simp only [en] at *; rw [heap_alloc_old (lt_of_heap h)]; exact h, rfl⟩
theorem ok_early {w : World} {β : Nat → Loc} {G G' : Nat → Prop} {H : Heap} {g : Go.Obj} (ok : HeapOk w β G H) (hG : ∀ b, G' b → G b ∨ b = w.heap.size) : HeapOk (w.alloc g) β G' H where
 obj r x h := RepObj.mono0 (ext0_early hG) (lt_len h) (Nat.le_of_eq (pnOf_of h).symm) (ok.obj r x h) fun b hw => heap_alloc_old (ok.ltB r x b h hw).1
 ltB r x b h hw := by
  obtain ⟨h1, h2⟩ := ok.ltB r x b h hw
  refine ⟨by simp; omega, fun h => ?_⟩
  rcases hG _ h with h | h
  ·exact h2 h
  ·omega
 injB := ok.injB
 uni := ok.uni
 F b h := by
  rcases hG b h with h | h
  ·have := ok.F b h
   simp; omega
  ·simp; omega
theorem Rel.keep0 {w' : World} {β' : Nat → Loc} {H' : Heap} {F' : Nat → Prop} (h : Rel w β F H fr a) (ok : HeapOk w' β' F' H') (hx : Ext0 (en w β F H) (en w' β' F' H')) : Rel w' β' F' H' fr a :=
 ⟨ok, h.defers, h.len, fun t => RepSlot.mono0 hx _ _ (h.slots t)⟩
inductive Mk (P : Program) (a : Act) (o : Oper) : (Nat → Value) → Go.Obj → Prop
 | alloc {t : TypeId} {i : TypeInfo} {z : Value} : o.op = .alloc t → P.info? t = some i → i.zero = some z → Mk P a o (fun b => .pointer (some ⟨b, 0, none⟩)) (.cells z.cells t)
 | slice {t e : TypeId} {n : Nat} {ps : Array (Nat × Operand)} {i : TypeInfo} {z : Value} {cells : Array Value} : o.op = .buildSlice t n ps → P.underlying t = some (.slice e) → P.info? e = some i → i.zero = some z →
   n * i.size ≤ 1000000 → 0 < i.size → z.cells.size = i.size →
   Instr.fill (fun k => some (k * i.size, i.size)) ((Array.range (n * z.cells.size)).map (z.cells[· % z.cells.size]!)) (ps.map fun (i, x) => (i, a.eval x)).toList = some cells →
   Mk P a o (fun b => .slice (some ⟨b, 0, none⟩) n n) (.cells cells e)
theorem Mk.run {o : Oper} {val : Nat → Value} {obj : Go.Obj} (h : Mk P a o val obj) (w' : World) : (execOp a.eval o).run P w' = .ok (.value (val w'.heap.size)) (w'.alloc obj) := by
 cases h with
 | alloc h1 h2 h3 =>
  simp only [execOp, h1]
  exact run_value (by simp [Instr.alloc, run_zero h2 h3, newVar, newRow])
 | slice h1 hd hi hz hb hs0 hzc q1 =>
  rename_i t e n ps i z cells
  simp only [execOp, h1]
  refine run_value ?_
  have hlen : (Array.range (n * i.size)).map (z.cells[· % z.cells.size]!) = (Array.range (n * z.cells.size)).map (z.cells[· % z.cells.size]!) := by rw [hzc]
  by_cases hn : n * i.size = 0
  ·have hn0 : n = 0 := by
    rcases Nat.mul_eq_zero.1 hn with h | h
    ·exact h
    ·omega
   subst hn0
   have e0 : (Array.range (0 * z.cells.size)).map (z.cells[· % z.cells.size]!) = #[] := by simp
   rw [e0] at q1
   simp [Instr.buildSlice, run_underlying hd, run_size hi, newRow, map_none] at q1 ⊢
   simp [q1]
  ·have hn' := hn
   simp only [Nat.mul_eq_zero, not_or] at hn'
   rw [← hlen] at q1
   simp at q1
   simp [Instr.buildSlice, run_underlying hd, run_size hi, run_zero hi hz, q1, newRow, show ¬ (16777216 < n * i.size) by omega]
   exact fun h => absurd h hn
theorem eval_agree {o : Oper} (h : ∀ t ∈ looks ops.toList o, a.tmps[t]? = A.tmps[t]?) : ∀ y ∈ o.op.operands.toList, a.eval y = A.eval y := by
 rw [← looksAt_eq] at h
 intro y hy
 cases y with
 | tmp t =>
  have := h t (List.mem_append_left _ (List.mem_filterMap.2 ⟨.tmp t, by simpa using hy, rfl⟩))
  simp [Act.eval, this]
 | _ => rfl
theorem Mk.agree {o : Oper} {val : Nat → Value} {obj : Go.Obj} (h : Mk P a o val obj) (hl : ∀ t ∈ looks ops.toList o, a.tmps[t]? = A.tmps[t]?) : Mk P A o val obj := by
 cases h with
 | alloc h1 h2 h3 => exact .alloc h1 h2 h3
 | slice h1 hd hi hz hb hs0 hzc q1 =>
  rename_i t e n ps i z cells
  refine .slice h1 hd hi hz hb hs0 hzc ?_
  have he := eval_agree hl
  have : (ps.map fun (i, x) => (i, a.eval x)) = ps.map fun (i, x) => (i, A.eval x) := by
   apply Array.map_congr_left
   rintro ⟨k, y⟩ hy
   have : y ∈ o.op.operands.toList := by
    rw [h1]
    simp only [Op.operands]
    simpa using ⟨k, hy⟩
   simp [he y this]
  rw [← this]
  exact q1
theorem fill_some {n sz : Nat} : ∀ {ps : List (Nat × Value)} {cells : Array Value}, cells.size = n * sz → (∀ p ∈ ps, p.1 < n ∧ p.2.cells.size = sz) → ∃ cells', Instr.fill (fun k => some (k * sz, sz)) cells ps = some cells'
 | [], cells, _, _ => ⟨cells, rfl⟩
 | (k, v) :: ps, cells, hc, h => by
  obtain ⟨h1, h2⟩ := h (k, v) (by simp)
  have hle : (k + 1) * sz ≤ n * sz := Nat.mul_le_mul_right _ h1
  rw [Nat.add_mul, Nat.one_mul] at hle
  obtain ⟨cells', h3⟩ := fill_some (ps := ps) (cells := splice cells (k * sz) v.cells.toList) (by rw [splice_size]; exact hc) fun p hp => h p (List.mem_cons_of_mem _ hp)
  exact ⟨cells', by rw [fill_cons rfl h2 (by rw [hc]; exact hle)]; exact h3⟩
theorem grow_mk {G : Nat → Prop} {o : Oper} (hk : growOk P fr o = true) (h : Rel w β G H fr A) : ∃ val obj, Mk P A o val obj := by
 unfold growOk at hk
 split at hk
 ·rename_i t e
  obtain ⟨sg, hsg⟩ := Option.isSome_iff_exists.1 hk
  obtain ⟨i, z, hi, hz, _⟩ := zeroOf_spec hsg
  exact ⟨_, _, .alloc e hi hz⟩
 ·rename_i t n ps ho
  split at hk
  ·rename_i e hd
   split at hk
   ·rename_i s hs
    obtain ⟨i, z, hi, hz, hzr, hsz, hs0, hzc⟩ := elemOf_spec hs
    rw [Bool.and_eq_true] at hk
    have hb : n * s.size ≤ 1000000 := Nat.le_of_ble_eq_true hk.1
    have hall := List.all_eq_true.1 hk.2
    rw [hsz] at hb hs0 hzc
    obtain ⟨cells', hf⟩ := fill_some (n := n) (sz := i.size) (ps := (ps.map fun (i, x) => (i, A.eval x)).toList) (cells := (Array.range (n * z.cells.size)).map (z.cells[· % z.cells.size]!)) (by simp [hzc]) (by
     intro p hp
     simp only [Array.toList_map, List.mem_map] at hp
     obtain ⟨⟨k, y⟩, hy, rfl⟩ := hp
     have hq := hall (k, y) hy
     rw [Bool.and_eq_true] at hq
     refine ⟨by simpa using hq.1, ?_⟩
     have hq2 := hq.2
     split at hq2
     ·rename_i v hv
      rw [Bool.and_eq_true] at hq2
      have := cells_size (okSV_one (evalSV_rep h hv) hq2.1)
      rw [this, Nat.eq_of_beq_eq_true hq2.2, hsz]
     ·cases hq2)
    exact ⟨_, _, .slice ho hd hi hz hb hs0 hzc hf⟩
   ·cases hk
  ·cases hk
 ·cases hk
theorem adopt_row {w : World} {β : Nat → Loc} {G G' : Nat → Prop} {H : Heap} {b : Nat} (ok : HeapOk w β G H) (hG : ∀ b', G' b' → G b') (hb : G b) (hn : ¬ G' b) {s : Sh} {l : List s.T} {cs : Array Value} {t : TypeId}
  (hc : w.heap[b]? = some (.cells cs t (0, 0))) (hs : RepRow w (en w β G H).av s l cs.toList) :
  HeapOk w (upd β H.length (.mk3 b 0 True)) G' (H ++ [.cells [.row s l.length l]]) ∧ RepSc (en w (upd β H.length (.mk3 b 0 True)) G' (H ++ [.cells [.row s l.length l]])) (.wl H.length s.size) (.slice (some ⟨b, 0, none⟩) l.length l.length) := by
 refine ⟨ok_adopt ok hG hb hn hc ⟨rfl, cs.toList, [], by simp, hs, rfl⟩, by simp [en], _, _, l.length, rfl, Nat.le_refl _, fun m hm => ?_, fun _ => ⟨by simp [addr, en, upd_eq], by simp [en, upd_eq], cs, t, (0, 0), ?_, ?_⟩⟩
 ·have hm : szOf (H ++ [.cells [.row s l.length l]]) H.length = some m := hm
  rw [szOf_snoc] at hm
  simp [szO, segsSize, segSize] at hm
  exact hm.symm
 ·simp only [en, upd_eq]; exact hc
 ·have := hs.len
  simp [en, upd_eq] at this ⊢
  omega
theorem addPools_nil {ts : List Nat} {H : Heap} {K : Heap → Option R} : addPools P [] ts H K = K H := by
 induction ts with
 | nil => rfl
 | cons t ts ih => exact ih
theorem grow_adopt (hcf : (cfgOf T).isEmpty = true) {G G' : Nat → Prop} {b : Nat} {o : Oper} {K : Slot → Heap → Option R} {val : Nat → Value} {obj : Go.Obj} (hr : exAct P T fr H o.op K = some x) (h : Rel w β G H fr A) (hm : Mk P A o val obj) (hb : w.heap[b]? = some obj)
  (hG : ∀ b', G' b' → G b') (hGb : G b) (hGn : ¬ G' b) :
  ∃ s H' β', HeapOk w β' G' H' ∧ Ext0 (en w β G H) (en w β' G' H') ∧ (∀ e0 : En, e0.w.heap.size ≤ b → Ext e0 (en w β F H) → Ext e0 (en w β' F H')) ∧ RepSlot (en w β' G' H') s (val b) ∧ K s H' = some x := by
 cases hm with
 | alloc h1 q4 q5 =>
  rw [h1] at hr
  simp only [exAct] at hr
  rw [List.isEmpty_iff.1 hcf] at hr
  simp only [List.contains_nil, cond_false] at hr
  split at hr
  ·rename_i sg hsg
   obtain ⟨i2, z2, hi2, hz2, hrep, _⟩ := zeroOf_spec hsg
   rw [q4] at hi2
   cases hi2
   rw [q5] at hz2
   cases hz2
   obtain ⟨sg', _, H1, β1, k1, ok1, hx1, hr1, _⟩ := rebSegs_ok h.ok hr (hrep _)
   have hno : NoPool (.cells sg') := fun _ _ _ _ h => nomatch h
   rw [addPools_nil] at k1
   exact ⟨.sv (.v (.ptr H1.length 0)), _, _, ok_adopt ok1 hG hGb hGn hb hr1, hx1.zero.trans (ext0_adopt hno hG hGb), fun e0 he hE => ext_adopt hno (hE.trans hx1.reF) he, show RepSc _ (.ptr _ 0) _ from ⟨by simp [en], by simp [addr, en, upd_eq]⟩, k1⟩
  ·cases hr
 | slice h1 hd hi hz hbd hs0 hzc q1 =>
  rename_i t e n ps i z cells
  rw [h1] at hr
  simp only [exAct] at hr
  split at hr
  ·rename_i l hl
   unfold exBuildSlice at hr
   rw [hd] at hr
   simp only at hr
   split at hr
   ·rename_i s hs
    obtain ⟨i', z', hi', hz', hzr, hsz, hs0', hzc'⟩ := elemOf_spec hs
    rw [hi] at hi'
    cases hi'
    rw [hz] at hz'
    cases hz'
    obtain ⟨_, h2⟩ := bif_none hr
    obtain ⟨vs, hvs, hve⟩ := RepRow.replicate (hzr (en w β G H)) n
    have hz0 := map_zero n z.cells.toList (by rw [Array.length_toList, hzc]; exact hs0)
    simp only [Array.length_toList, Array.toArray_toList] at hz0
    have hps : RepParts (en w β G H) l (ps.map fun (i, x) => (i, A.eval x)).toList := by
     have := partList_rep h hl
     simpa using this
    obtain ⟨l', cells', H1, p1, p2, p3, p4, p5, p6⟩ := fillRow_ok h.ok (cells := (Array.range (n * z.cells.size)).map (z.cells[· % z.cells.size]!)) h.ok (Ext.refl _) (Dd.refl _) h2 hps (by rw [hz0, ← hve]; exact hvs)
    rw [hsz] at p1
    rw [p1] at q1
    cases q1
    have hll : l'.length = n := by rw [p6]; exact List.length_replicate
    obtain ⟨r1, r2⟩ := adopt_row p3 hG hGb hGn hb p5
    rw [hll] at r1 r2
    have hno : NoPool (.cells [.row s n l']) := fun _ _ _ _ h => nomatch h
    exact ⟨.sv (.v (.wl H1.length s.size)), _, _, r1, p4.zero.trans (ext0_adopt hno hG hGb), fun e0 he hE => ext_adopt hno (hE.trans p4.reF) he, r2, p2⟩
   ·cases hr
  ·cases hr
structure EaP (P : Program) (ops : Array Oper) (ez : List Nat) (a : Act) (w : World) (n0 : Nat) (p : Nat × Nat) : Prop where
 op : ∃ o val obj, ops[p.1]? = some o ∧ earlyOp o = true ∧ Mk P a o val obj ∧ w.heap[p.2]? = some obj ∧ a.put o.dst (val p.2) = a
 ge : n0 ≤ p.2
 ez : p.1 ∈ ez
structure Ea (P : Program) (ops : Array Oper) (ez : List Nat) (F : Nat → Prop) (a : Act) (w : World) (n0 : Nat) (rest : List Nat) (l : Early) : Prop where
 n1 : (l.map (·.1)).Nodup
 n2 : (l.map (·.2)).Nodup
 mem : ∀ p ∈ l, p.1 ∈ rest
 at_ : ∀ p ∈ l, EaP P ops ez a w n0 p
 notF : ∀ p ∈ l, ¬ F p.2
theorem early_pick {l : Early} {i : Nat} (h : i ∈ l.map (·.1)) (n1 : (l.map (·.1)).Nodup) (n2 : (l.map (·.2)).Nodup) :
  ∃ (b : Nat) (l' : Early), (∀ p, p ∈ l ↔ p = (i, b) ∨ p ∈ l') ∧ l.length = l'.length + 1 ∧ (l'.map (·.1)).Nodup ∧ i ∉ l'.map (·.1) ∧ (l'.map (·.2)).Nodup ∧ b ∉ l'.map (·.2) := by
 obtain ⟨p, hp, rfl⟩ := List.mem_map.1 h
 obtain ⟨l1, l2, rfl⟩ := List.append_of_mem hp
 have hperm : (l1 ++ p :: l2).Perm (p :: (l1 ++ l2)) := List.perm_middle
 have m1 := (hperm.map (·.1)).nodup n1
 have m2 := (hperm.map (·.2)).nodup n2
 rw [List.map_cons, List.nodup_cons] at m1 m2
 exact ⟨p.2, l1 ++ l2, fun q => by rw [hperm.mem_iff]; simp, by simp; omega, m1.2, m1.1, m2.2, m2.1⟩
/-! ### what is put together ahead of its turn -/
def PB (P : Program) (a : Act) (o : Oper) (v : Value) : Prop := match o.op with
 | .build t ps => ∃ cs, P.built t (ps.map fun (i, x) => (i, a.eval x)).toList = some cs ∧ v = .agg cs
 | _ => False
theorem PB.agree {o : Oper} {v : Value} (h : PB P a o v) (hl : ∀ t ∈ looks ops.toList o, a.tmps[t]? = A.tmps[t]?) : PB P A o v := by
 have he := eval_agree hl
 unfold PB at h ⊢
 split at h
 ·rename_i t ps ho
  obtain ⟨cs, h1, h2⟩ := h
  refine ⟨cs, ?_, h2⟩
  have : (ps.map fun (i, x) => (i, a.eval x)) = ps.map fun (i, x) => (i, A.eval x) := by
   apply Array.map_congr_left
   rintro ⟨k, y⟩ hy
   have : y ∈ o.op.operands.toList := by
    rw [ho]
    simp only [Op.operands]
    simpa using ⟨k, hy⟩
   simp [he y this]
  rw [← this]
  exact h1
 ·exact h.elim
theorem PB.run {o : Oper} {v : Value} (h : PB P a o v) (w' : World) : (execOp a.eval o).run P w' = .ok (.value v) w' := by
 unfold PB at h
 split at h
 ·rename_i t ps ho
  obtain ⟨cs, h1, rfl⟩ := h
  simp only [execOp, ho]
  exact run_value (run_build w' t _ cs h1)
 ·exact h.elim
theorem PB.val {o : Oper} {v : Value} (h : PB P a o v) (hg : o.guard = none) (w : World) : StepVal P ops o a w v := by
 unfold StepVal
 rw [if_pos (by simp [Region.wanted, hg])]
 exact fun w' _ => h.run w'
theorem PB.eq {o : Oper} {u v : Value} (h : PB P a o v) (hg : o.guard = none) {w : World} (hu : StepVal P ops o a w u) : u = v := by
 unfold StepVal at hu
 rw [if_pos (by simp [Region.wanted, hg])] at hu
 have := hu w (Sup.refl w)
 rw [h.run w] at this
 cases this
 rfl
theorem pureAt_spec {l : List Oper} {o : Oper} (h : pureAt l o = true) : isRead o.op = true ∧ o.guard = none ∧ (∃ d, o.dst = some d) ∧ earlyOp o = false := by
 unfold pureAt at h
 simp only [Bool.and_eq_true] at h
 obtain ⟨⟨⟨h1, h2⟩, h3⟩, _⟩ := h
 unfold isBuild at h1
 split at h1
 ·rename_i t ps ho
  refine ⟨by rw [ho]; rfl, by simpa using h2, Option.isSome_iff_exists.1 h3, ?_⟩
  unfold earlyOp
  rw [ho]
 ·cases h1
structure Pu (P : Program) (ops : Array Oper) (ez : List Nat) (a : Act) (rest ps : List Nat) : Prop where
 nd : ps.Nodup
 mem : ∀ p ∈ ps, p ∈ rest
 ez : ∀ p ∈ ps, p ∈ ez
 at_ : ∀ p ∈ ps, ∃ o v, ops[p]? = some o ∧ pureAt ops.toList o = true ∧ PB P a o v ∧ a.put o.dst v = a
theorem Pu.nil {a : Act} {rest : List Nat} : Pu P ops ez a rest [] where
 nd := List.nodup_nil
 mem := fun _ h => nomatch h
 ez := fun _ h => nomatch h
 at_ := fun _ h => nomatch h
/-! ### where the run stands -/
structure Dr (P : Program) (ops : Array Oper) (dn pend es : List Nat) (listed : Array Bool) (a A : Act) (w : World) : Prop where
 size : listed.size = ops.size
 mem : ∀ i, listed.getD i false = true ↔ ((i ∈ dn ∧ i ∉ pend) ∨ i ∈ es)
 edn : ∀ j ∈ es, j ∉ dn
 pnd : pend.Nodup
 sub : ∀ j ∈ pend, j ∈ dn
 read : ∀ j ∈ pend, ∀ o, ops[j]? = some o → isRead o.op = true
 agree : ∀ t, (∀ j, j ∈ pend ∨ j ∈ es → ∀ o, ops[j]? = some o → o.dst ≠ some t) → a.tmps[t]? = A.tmps[t]?
 asize : a.tmps.size = A.tmps.size
 adef : a.defers = A.defers
 val : ∀ j ∈ pend, ∀ o, ops[j]? = some o → ∃ v, StepVal P ops o A w v ∧ A.put o.dst v = A
 closed : ∀ i, listed.getD i false = true → ∀ o, ops[i]? = some o → ∀ j ∈ edges o, listed.getD j false = true
structure Cst (ops : Array Oper) (tbl : List (Nat × List Nat)) (ez : List Nat) (c : List Nat) : Prop where
 nd : c.Nodup
 all : ∀ i, i < ops.size → i ∈ c
 lt : ∀ i ∈ c, i < ops.size
 self : ∀ i ∈ c, SelfOk ops.toList i
 pair : c.Pairwise (PairOk ops.toList tbl ez)
 dep : ∀ l i r, c = l ++ i :: r → ∀ o, ops[i]? = some o → ∀ j ∈ edges o, j ∈ l
 tbl : TblOk ops.toList tbl
theorem Dr.bef {dn pend es : List Nat} {listed : Array Bool} (D : Dr P ops dn pend es listed a A w) {i j : Nat} (h : Bef ops.toList j i) :
  (∀ o, ops[i]? = some o → ∀ k ∈ edges o, listed.getD k false = true) → listed.getD j false = true := by
 induction h with
 | one ho hj => intro hi; exact hi _ (by simpa using ho) _ hj
 | trans ho hk _ ih =>
  intro hi
  exact ih fun o' ho' => D.closed _ (hi _ (by simpa using ho) _ hk) o' ho'
theorem Cst.total {c : List Nat} (C : Cst ops tbl ez c) {i j : Nat} (hi : i ∈ c) (hj : j ∈ c) (hne : i ≠ j) : PairOk ops.toList tbl ez i j ∨ PairOk ops.toList tbl ez j i := by
 obtain ⟨l, r, rfl⟩ := List.append_of_mem hi
 have hp := C.pair
 rw [List.pairwise_append] at hp
 obtain ⟨_, h2, h3⟩ := hp
 rcases List.mem_append.1 hj with h | h
 ·exact .inr (h3 j h i (by simp))
 ·rcases List.mem_cons.1 h with e | h
  ·exact absurd e.symm hne
  ·exact .inl ((List.pairwise_cons.1 h2).1 j h)
theorem Dr.looks {c dn pend es : List Nat} {listed : Array Bool} (C : Cst ops tbl ez c) (D : Dr P ops dn pend es listed a A w) (hsub : ∀ j ∈ dn, j ∈ c) {i : Nat} {o : Oper} (hi : i ∈ c) (ho : ops[i]? = some o)
  (hes : ∀ j ∈ es, ∀ oj, ops[j]? = some oj → ∀ d, oj.dst = some d → d ∉ Gx.looks ops.toList o) (hr : ∀ k ∈ edges o, listed.getD k false = true) : ∀ t ∈ Gx.looks ops.toList o, a.tmps[t]? = A.tmps[t]? := by
 intro t ht
 refine D.agree t fun j hj oj hoj hd => ?_
 have ho' : ops.toList[i]? = some o := by simpa using ho
 have hoj' : ops.toList[j]? = some oj := by simpa using hoj
 rcases hj with hj | hj
 ·by_cases e : i = j
  ·subst e
   rw [ho] at hoj
   cases hoj
   exact (C.self i hi).look o ho' t hd ht
  ·rcases C.total hi (hsub j (D.sub j hj)) e with h | h
   ·exact (h.looks o oj ho' hoj' t hd).1 ht
   ·rcases h.bef oj o hoj' ho' with h | ⟨_, h⟩ | ⟨_, h⟩
    ·have := D.bef (C.tbl i j h) fun o' ho'' => by rw [ho] at ho''; cases ho''; exact hr
     rcases (D.mem j).1 this with h | h
     ·exact h.2 hj
     ·exact D.edn j h (D.sub j hj)
    ·exact h t hd ht
    ·exact h t hd ht
 ·exact hes j hj oj hoj t hd ht
theorem val_put {o : Oper} {d : Option Nat} {u : Value} (hs : ∀ cs b, o.op ≠ .select cs b) (hl : ∀ t, d = some t → t ∉ Gx.looks ops.toList o ∧ o.dst ≠ some t) (h : ∃ v, StepVal P ops o A w v ∧ A.put o.dst v = A) :
  ∃ v, StepVal P ops o (A.put d u) w v ∧ (A.put d u).put o.dst v = A.put d u := by
 obtain ⟨v, h1, h2⟩ := h
 refine ⟨v, h1.agree hs fun t ht => get_put fun e => (hl t e).1 ht, ?_⟩
 rw [Act.put_comm A u v (fun t ht => (hl t ht).2), h2]
theorem val_own {o : Oper} {v : Value} (hs : ∀ cs b, o.op ≠ .select cs b) (hl : ∀ t, o.dst = some t → t ∉ Gx.looks ops.toList o) (h : StepVal P ops o A w v) :
  ∃ v', StepVal P ops o (A.put o.dst v) w v' ∧ (A.put o.dst v).put o.dst v' = A.put o.dst v :=
 ⟨v, h.agree hs fun t ht => get_put fun e => hl t e ht, put_put⟩
theorem catchup (hcf : ez = [] ∨ (cfgOf T).isEmpty = true) {c : List Nat} (C : Cst ops tbl ez c) {post : List Nat} {listed : Array Bool} {K : Fr → Heap → Option R} {e0 : En} :
  ∀ (pre : List Nat) {dn pend ps : List Nat} {l : Early} {A : Act} {fr : Fr} {β : Nat → Loc} {H : Heap}, dn.reverse ++ (pre ++ post) = c → (∀ i ∈ pre, i ∈ l.map (·.1) ∨ ∀ o, ops[i]? = some o → isRead o.op = true) →
   Dr P ops dn pend (l.map (·.1) ++ ps) listed a A w → Ea P ops ez F a w e0.w.heap.size (pre ++ post) l → Pu P ops ez a (pre ++ post) ps →
   exDraw P T ops.toList tbl ez (pre ++ post) dn fr H K = some x → Rel w β (FE F l) H fr A → Ext e0 (en w β F H) →
   ∃ dn' pend' ps' l' A' fr' β' H', dn'.reverse ++ post = c ∧ Dr P ops dn' pend' (l'.map (·.1) ++ ps') listed a A' w ∧ Ea P ops ez F a w e0.w.heap.size post l' ∧ Pu P ops ez a post ps' ∧ exDraw P T ops.toList tbl ez post dn' fr' H' K = some x ∧
    Rel w β' (FE F l') H' fr' A' ∧ Ext e0 (en w β' F H') ∧ pend'.length + l.length + ps.length = pend.length + pre.length + l'.length + ps'.length
 | [], dn, pend, ps, l, A, fr, β, H, hc, _, D, E, U, hx, h, hE => ⟨dn, pend, ps, l, A, fr, β, H, hc, D, E, U, hx, h, hE, by simp⟩
 | i :: pre, dn, pend, ps, l, A, fr, β, H, hc, hr, D, E, U, hx, h, hE => by
  simp only [List.cons_append, exDraw] at hx
  obtain ⟨hgo, hx⟩ := bif_none hx
  split at hx
  ·rename_i o ho
   have ho' : ops[i]? = some o := by simpa using ho
   have hic : i ∈ c := by rw [← hc]; simp
   have hidn : i ∉ dn := fun hm => by
    have := C.nd
    rw [← hc, List.nodup_append] at this
    exact this.2.2 i (by simpa using hm) i (by simp) rfl
   have hself := C.self i hic
   have hpair : ∀ j ∈ dn, PairOk ops.toList tbl ez j i := fun j hj => by
    have := C.pair
    rw [← hc, List.pairwise_append] at this
    exact this.2.2 j (by simpa using hj) i (by simp)
   by_cases hil : i ∈ l.map (·.1)
   ·-- it was made ahead
    obtain ⟨b, l', hm, hlen, n1, hi1, n2, hb2⟩ := early_pick hil E.n1 E.n2
    have hib : (i, b) ∈ l := (hm _).2 (.inl rfl)
    obtain ⟨⟨o2, val, obj, q1, q2, q5, q6, q7⟩, hge, hez⟩ := E.at_ _ hib
    have q1 : ops[i]? = some o2 := q1
    rw [ho'] at q1
    cases q1
    have q6 : w.heap[b]? = some obj := q6
    have q7 : a.put o.dst (val b) = a := q7
    obtain ⟨hrd, hgr, q3⟩ : isRead o.op = false ∧ grows o.op = true ∧ o.guard = none := by
     unfold earlyOp at q2
     split at q2
     ·rename_i e1 e2 e3; exact ⟨by rw [e1]; rfl, by rw [e1]; rfl, e2⟩
     ·rename_i e1 e2 e3; exact ⟨by rw [e1]; rfl, by rw [e1]; rfl, e2⟩
     ·cases q2
    have hips : i ∉ ps := fun hi => by
     obtain ⟨o3, v3, k1, k2, _⟩ := U.at_ i hi
     rw [ho'] at k1
     cases k1
     rw [(pureAt_spec k2).2.2.2] at q2
     cases q2
    have hpe : ∀ j ∈ l'.map (·.1) ++ ps, PairOk ops.toList tbl ez i j := fun j hj => by
     have h1 : j ∈ i :: (pre ++ post) ∧ j ≠ i := by
      rcases List.mem_append.1 hj with hj | hj
      ·obtain ⟨p, hp, rfl⟩ := List.mem_map.1 hj
       exact ⟨E.mem p ((hm p).2 (.inr hp)), fun e => hi1 (List.mem_map.2 ⟨p, hp, e⟩)⟩
      ·exact ⟨U.mem j hj, fun e => hips (by rw [← e]; exact hj)⟩
     rcases List.mem_cons.1 h1.1 with e | h2
     ·exact absurd e h1.2
     ·have := C.pair
      rw [← hc, List.pairwise_append] at this
      exact (List.pairwise_cons.1 (by simpa using this.2.1)).1 j h2
    have hes : ∀ j, j ∈ l.map (·.1) ++ ps ↔ j = i ∨ j ∈ l'.map (·.1) ++ ps := fun j => by
     have e1 : j ∈ l.map (·.1) ↔ j = i ∨ j ∈ l'.map (·.1) := by
      simp only [List.mem_map]
      constructor
      ·rintro ⟨p, hp, rfl⟩
       rcases (hm p).1 hp with rfl | hp
       ·exact .inl rfl
       ·exact .inr ⟨p, hp, rfl⟩
      ·rintro (rfl | ⟨p, hp, rfl⟩)
       ·exact ⟨_, hib, rfl⟩
       ·exact ⟨p, (hm p).2 (.inr hp), rfl⟩
     rw [List.mem_append, List.mem_append, e1, or_assoc]
    have hag : ∀ t ∈ Gx.looks ops.toList o, a.tmps[t]? = A.tmps[t]? := by
     intro t ht
     refine D.agree t fun j hj oj hoj hd => ?_
     have hoj' : ops.toList[j]? = some oj := by simpa using hoj
     rcases hj with hj | hj
     ·have hji := hpair j (D.sub j hj)
      rcases hji.bef oj o hoj' ho with h | ⟨_, h⟩ | ⟨_, h⟩
      ·have hl := (D.mem i).2 (.inr (List.mem_append_left _ hil))
       have := D.bef (C.tbl i j h) fun o' ho'' => D.closed i hl o' ho''
       rcases (D.mem j).1 this with h | h
       ·exact h.2 hj
       ·exact D.edn j h (D.sub j hj)
      ·exact h t hd ht
      ·exact h t hd ht
     ·rcases (hes j).1 hj with rfl | hj
      ·rw [ho'] at hoj
       cases hoj
       exact hself.look o ho t hd ht
      ·exact ((hpe j hj).looks o oj ho hoj' t hd).1 ht
    have hmA := q5.agree hag
    have hG : ∀ b', FE F l' b' → FE F l b' := fun b' hb' => by
     rcases hb' with hb' | ⟨p, hp, e⟩
     ·exact .inl hb'
     ·exact .inr ⟨p, (hm p).2 (.inr hp), e⟩
    have hGb : FE F l b := .inr ⟨_, hib, rfl⟩
    have hGn : ¬ FE F l' b := fun hb' => by
     rcases hb' with hb' | ⟨p, hp, e⟩
     ·exact E.notF _ hib hb'
     ·exact hb2 (List.mem_map.2 ⟨p, hp, e⟩)
    rcases exStep_cases hx h with ⟨_, fr1, p1, p2⟩ | ⟨hw, _⟩
    ·unfold exOp at p2
     rw [hrd] at p2
     have p3 : exAct P T fr1 H o.op (fun s H => fHr false H fun H => putF fr1 o.dst s fun fr => bif false || grows o.op then exDraw P T ops.toList tbl ez (pre ++ post) (i :: dn) fr H K
      else recheck P ops.toList (befOf tbl i) dn.reverse fr H (exDraw P T ops.toList tbl ez (pre ++ post) (i :: dn) fr H K)) = some x := p2
     have hcf' : (cfgOf T).isEmpty = true := hcf.resolve_left (fun e => by have := (E.at_ _ hib).ez; rw [e] at this; cases this)
     obtain ⟨sl, H1, β1, ok2, x0, xe, hs2, k1⟩ := grow_adopt hcf' (F := F) p3 p1 hmA q6 hG hGb hGn
     have R1 := p1.keep0 ok2 x0
     have R2 := R1.put ok2 (Ext.refl _) o.dst hs2
     have k1 : exDraw P T ops.toList tbl ez (pre ++ post) (i :: dn) (setO fr1 o.dst sl) H1 K = some x := by
      simpa only [fHr_eq, putF_set, hgr, Bool.or_true, cond_true] using k1
     ·skip
      have D' : Dr P ops (i :: dn) pend (l'.map (·.1) ++ ps) listed a (A.put o.dst (val b)) w := {
       size := D.size
       mem := fun k => by
        rw [D.mem k, hes k]
        by_cases e : k = i
        ·subst e
         have : k ∉ pend := fun h => hidn (D.sub k h)
         simp [this, -List.mem_append]
        ·simp [e, -List.mem_append]
       edn := fun j hj hd => by
        rcases List.mem_cons.1 hd with rfl | hd
        ·rcases List.mem_append.1 hj with hj | hj
         ·exact hi1 hj
         ·exact hips hj
        ·exact D.edn j ((hes j).2 (.inr hj)) hd
       pnd := D.pnd
       sub := fun j hj => List.mem_cons_of_mem _ (D.sub j hj)
       read := D.read
       agree := fun t' ht => by
        rw [← q7]
        refine put_agree D.asize fun hd => D.agree t' fun j hj oj hoj => ?_
        rcases hj with hj | hj
        ·exact ht j (.inl hj) oj hoj
        ·rcases (hes j).1 hj with rfl | hj
         ·rw [ho'] at hoj
          cases hoj
          exact hd
         ·exact ht j (.inr hj) oj hoj
       asize := by rw [size_put]; exact D.asize
       adef := by rw [defers_put]; exact D.adef
       val := fun j hj oj hoj => val_put ((C.self j (by rw [← hc]; simp [D.sub j hj])).sel oj (by simpa using hoj)) (fun t ht => (hpair j (D.sub j hj)).looks oj o (by simpa using hoj) ho t ht) (D.val j hj oj hoj)
       closed := D.closed }
      have E' : Ea P ops ez F a w e0.w.heap.size (pre ++ post) l' := {
       n1 := n1
       n2 := n2
       mem := fun p hp => by
        have h1 : p.1 ∈ i :: (pre ++ post) := E.mem p ((hm p).2 (.inr hp))
        rcases List.mem_cons.1 h1 with e | h1
        ·exact absurd (List.mem_map.2 ⟨p, hp, e⟩) hi1
        ·exact h1
       at_ := fun p hp => E.at_ p ((hm p).2 (.inr hp))
       notF := fun p hp => E.notF p ((hm p).2 (.inr hp)) }
      have U' : Pu P ops ez a (pre ++ post) ps := {
       nd := U.nd
       mem := fun p hp => by
        rcases List.mem_cons.1 (U.mem p hp) with e | h1
        ·exact absurd (by rw [← e]; exact hp) hips
        ·exact h1
       ez := U.ez
       at_ := U.at_ }
      obtain ⟨dn', pend', ps2, l2, A', fr'', β2, H2, r1, r2, r3, r3u, r4, r5, r6, r7⟩ := catchup hcf C pre (dn := i :: dn) (pend := pend) (l := l') (by rw [← hc]; simp)
       (fun k hk => by
        rcases hr k (List.mem_cons_of_mem _ hk) with h | h
        ·obtain ⟨p, hp, rfl⟩ := List.mem_map.1 h
         rcases (hm p).1 hp with rfl | hp
         ·exfalso
          have := C.nd
          rw [← hc, List.nodup_append] at this
          exact (List.nodup_cons.1 this.2.1).1 (List.mem_append_left _ hk)
         ·exact .inl (List.mem_map.2 ⟨p, hp, rfl⟩)
        ·exact .inr h) D' E' U' k1 R2 (xe e0 hge hE)
      exact ⟨dn', pend', ps2, l2, A', fr'', β2, H2, r1, r2, r3, r3u, r4, r5, r6, by simp at r7 ⊢; omega⟩
    ·exfalso
     simp [Region.wanted, q3] at hw
   ·by_cases hips : i ∈ ps
    ·-- it was put together ahead
     obtain ⟨o2, v0, k1, k2, k3, k4⟩ := U.at_ i hips
     rw [ho'] at k1
     cases k1
     obtain ⟨hb, hgu, _, _⟩ := pureAt_spec k2
     obtain ⟨v, fr', hv, h1, h2⟩ := readStep hb hx h
     rw [hb] at h2
     have h2 : exDraw P T ops.toList tbl ez (pre ++ post) (i :: dn) fr' H K = some x := h2
     have hes : ∀ j, j ∈ l.map (·.1) ++ ps ↔ j = i ∨ j ∈ l.map (·.1) ++ ps.erase i := fun j => by
      rw [List.mem_append, List.mem_append, U.nd.mem_erase_iff]
      by_cases e : j = i
      ·subst e; simp [hips]
      ·simp [e]
     have hine : i ∉ l.map (·.1) ++ ps.erase i := fun hi => by
      rcases List.mem_append.1 hi with hi | hi
      ·exact hil hi
      ·exact (U.nd.mem_erase_iff.1 hi).1 rfl
     have hpe : ∀ j ∈ l.map (·.1) ++ ps.erase i, PairOk ops.toList tbl ez i j := fun j hj => by
      have h1 : j ∈ i :: (pre ++ post) := by
       rcases List.mem_append.1 ((hes j).2 (.inr hj)) with hj | hj
       ·obtain ⟨p, hp, rfl⟩ := List.mem_map.1 hj
        exact E.mem p hp
       ·exact U.mem j hj
      rcases List.mem_cons.1 h1 with e | h2
      ·rw [e] at hj
       exact absurd hj hine
      ·have := C.pair
       rw [← hc, List.pairwise_append] at this
       exact (List.pairwise_cons.1 (by simpa using this.2.1)).1 j h2
     have hag : ∀ t ∈ Gx.looks ops.toList o, a.tmps[t]? = A.tmps[t]? := by
      intro t ht
      refine D.agree t fun j hj oj hoj hd => ?_
      have hoj' : ops.toList[j]? = some oj := by simpa using hoj
      rcases hj with hj | hj
      ·have hji := hpair j (D.sub j hj)
       rcases hji.bef oj o hoj' ho with h | ⟨_, h⟩ | ⟨_, h⟩
       ·have hl := (D.mem i).2 (.inr (List.mem_append_right _ hips))
        have := D.bef (C.tbl i j h) fun o' ho'' => D.closed i hl o' ho''
        rcases (D.mem j).1 this with h | h
        ·exact h.2 hj
        ·exact D.edn j h (D.sub j hj)
       ·exact h t hd ht
       ·exact h t hd ht
      ·rcases (hes j).1 hj with rfl | hj
       ·rw [ho'] at hoj
        cases hoj
        exact hself.look o ho t hd ht
       ·exact ((hpe j hj).looks o oj ho hoj' t hd).1 ht
     have hev : v = v0 := (k3.agree hag).eq hgu hv
     subst hev
     have D' : Dr P ops (i :: dn) pend (l.map (·.1) ++ ps.erase i) listed a (A.put o.dst v) w := {
      size := D.size
      mem := fun k => by
       rw [D.mem k, hes k]
       by_cases e : k = i
       ·subst e
        have : k ∉ pend := fun h => hidn (D.sub k h)
        simp [this, -List.mem_append]
       ·simp [e, -List.mem_append]
      edn := fun j hj hd => by
       rcases List.mem_cons.1 hd with rfl | hd
       ·exact hine hj
       ·exact D.edn j ((hes j).2 (.inr hj)) hd
      pnd := D.pnd
      sub := fun j hj => List.mem_cons_of_mem _ (D.sub j hj)
      read := D.read
      agree := fun t' ht => by
       rw [← k4]
       refine put_agree D.asize fun hd => D.agree t' fun j hj oj hoj => ?_
       rcases hj with hj | hj
       ·exact ht j (.inl hj) oj hoj
       ·rcases (hes j).1 hj with rfl | hj
        ·rw [ho'] at hoj
         cases hoj
         exact hd
        ·exact ht j (.inr hj) oj hoj
      asize := by rw [size_put]; exact D.asize
      adef := by rw [defers_put]; exact D.adef
      val := fun j hj oj hoj => val_put ((C.self j (by rw [← hc]; simp [D.sub j hj])).sel oj (by simpa using hoj)) (fun t ht => (hpair j (D.sub j hj)).looks oj o (by simpa using hoj) ho t ht) (D.val j hj oj hoj)
      closed := D.closed }
     have E' : Ea P ops ez F a w e0.w.heap.size (pre ++ post) l := {
      n1 := E.n1
      n2 := E.n2
      mem := fun p hp => by
       rcases List.mem_cons.1 (E.mem p hp) with e | h1
       ·exact absurd (List.mem_map.2 ⟨p, hp, e⟩) hil
       ·exact h1
      at_ := E.at_
      notF := E.notF }
     have U' : Pu P ops ez a (pre ++ post) (ps.erase i) := {
      nd := U.nd.erase i
      mem := fun p hp => by
       rcases List.mem_cons.1 (U.mem p (List.mem_of_mem_erase hp)) with e | h1
       ·exact absurd e (U.nd.mem_erase_iff.1 hp).1
       ·exact h1
      ez := fun p hp => U.ez p (List.mem_of_mem_erase hp)
      at_ := fun p hp => U.at_ p (List.mem_of_mem_erase hp) }
     have hlen := List.length_erase_of_mem hips
     have hpos := List.length_pos_of_mem hips
     obtain ⟨dn', pend', ps2, l2, A', fr'', β2, H2, r1, r2, r3, r3u, r4, r5, r6, r7⟩ := catchup hcf C pre (dn := i :: dn) (pend := pend) (by rw [← hc]; simp) (fun k hk => hr k (List.mem_cons_of_mem _ hk)) D' E' U' h2 h1 hE
     exact ⟨dn', pend', ps2, l2, A', fr'', β2, H2, r1, r2, r3, r3u, r4, r5, r6, by simp at r7 ⊢; omega⟩
    have hb := (hr i (by simp)).resolve_left hil o ho'
    obtain ⟨v, fr', hv, h1, h2⟩ := readStep hb hx h
    rw [hb] at h2
    have h2 : exDraw P T ops.toList tbl ez (pre ++ post) (i :: dn) fr' H K = some x := h2
    have D' : Dr P ops (i :: dn) (i :: pend) (l.map (·.1) ++ ps) listed a (A.put o.dst v) w := {
     size := D.size
     mem := fun k => by
      rw [D.mem k]
      by_cases e : k = i
      ·subst e; simp [hidn, -List.mem_append]
      ·simp [e, -List.mem_append]
     edn := fun j hj hd => by
      rcases List.mem_cons.1 hd with rfl | hd
      ·rcases List.mem_append.1 hj with hj | hj
       ·exact hil hj
       ·exact hips hj
      ·exact D.edn j hj hd
     pnd := List.nodup_cons.2 ⟨fun hm => hidn (D.sub i hm), D.pnd⟩
     sub := fun j hj => by
      rcases List.mem_cons.1 hj with rfl | hj
      ·simp
      ·exact List.mem_cons_of_mem _ (D.sub j hj)
     read := fun j hj oj hoj => by
      rcases List.mem_cons.1 hj with rfl | hj
      ·rw [ho'] at hoj; cases hoj; exact hb
      ·exact D.read j hj oj hoj
     agree := fun t ht => by
      rw [get_put (ht i (.inl (by simp)) o ho')]
      exact D.agree t fun j hj => ht j (hj.imp_left (List.mem_cons_of_mem _))
     asize := by rw [size_put]; exact D.asize
     adef := by rw [defers_put]; exact D.adef
     val := fun j hj oj hoj => by
      rcases List.mem_cons.1 hj with rfl | hj
      ·rw [ho'] at hoj
       cases hoj
       exact val_own (hself.sel o ho) (hself.look o ho) hv
      ·have hjdn := D.sub j hj
       exact val_put ((C.self j (by rw [← hc]; simp [hjdn])).sel oj (by simpa using hoj)) (fun t ht => (hpair j hjdn).looks oj o (by simpa using hoj) ho t ht) (D.val j hj oj hoj)
     closed := D.closed }
    have E' : Ea P ops ez F a w e0.w.heap.size (pre ++ post) l := {
     n1 := E.n1
     n2 := E.n2
     mem := fun p hp => by
      have h1 : p.1 ∈ i :: (pre ++ post) := E.mem p hp
      rcases List.mem_cons.1 h1 with e | h1
      ·exact absurd (List.mem_map.2 ⟨p, hp, e⟩) hil
      ·exact h1
     at_ := E.at_
     notF := E.notF }
    have U' : Pu P ops ez a (pre ++ post) ps := {
     nd := U.nd
     mem := fun p hp => by
      rcases List.mem_cons.1 (U.mem p hp) with e | h1
      ·exact absurd (by rw [← e]; exact hp) hips
      ·exact h1
     ez := U.ez
     at_ := U.at_ }
    obtain ⟨dn', pend', ps2, l2, A', fr'', β2, H2, r1, r2, r3, r3u, r4, r5, r6, r7⟩ := catchup hcf C pre (dn := i :: dn) (pend := i :: pend) (by rw [← hc]; simp) (fun k hk => hr k (List.mem_cons_of_mem _ hk)) D' E' U' h2 h1 hE
    exact ⟨dn', pend', ps2, l2, A', fr'', β2, H2, r1, r2, r3, r3u, r4, r5, r6, by simp at r7 ⊢; omega⟩
  ·cases hx
theorem recheck_ok {c : List Nat} (C : Cst ops tbl ez c) {pend bef : List Nat} {k : Option R} (hread : ∀ j ∈ pend, ∀ o, ops[j]? = some o → isRead o.op = true) (hbef : ∀ j ∈ pend, j ∉ bef) :
  ∀ (l S : List Nat) {A : Act}, recheck P ops.toList bef l fr H k = some x → Rel w β F H fr A → (∀ j ∈ l, j ∈ c) → l.Pairwise (PairOk ops.toList tbl ez) →
   (∀ j ∈ S, j ∈ c ∧ ∀ i ∈ l, PairOk ops.toList tbl ez j i) → (∀ j ∈ S, ∀ o, ops[j]? = some o → ∃ v, StepVal P ops o A w v ∧ A.put o.dst v = A) →
   ∃ A', Rel w β F H fr A' ∧ k = some x ∧ (∀ j ∈ S ++ l, j ∈ pend ∨ j ∈ S → ∀ o, ops[j]? = some o → ∃ v, StepVal P ops o A' w v ∧ A'.put o.dst v = A') ∧
    (∀ t, (∀ j ∈ pend, ∀ o, ops[j]? = some o → o.dst ≠ some t) → A'.tmps[t]? = A.tmps[t]?) ∧ A'.tmps.size = A.tmps.size ∧ A'.defers = A.defers
 | [], S, A, h, hR, _, _, _, hS => ⟨A, hR, h, fun j hj _ => hS j (by simpa using hj), fun _ _ => rfl, rfl, rfl⟩
 | i :: l, S, A, h, hR, hc, hp, hSc, hS => by
  have hp' := List.pairwise_cons.1 hp
  simp only [recheck] at h
  split at h
  ·rename_i o ho
   have ho' : ops[i]? = some o := by simpa using ho
   have hic := hc i (by simp)
   cases hb : (bef.contains i || !isRead o.op) with
   | true =>
    rw [hb] at h
    have hip : i ∉ pend := fun hm => by
     rw [Bool.or_eq_true] at hb
     rcases hb with hb | hb
     ·exact hbef i hm (by simpa using hb)
     ·rw [hread i hm o ho'] at hb; cases hb
    obtain ⟨A', q1, q2, q3, q4⟩ := recheck_ok C hread hbef l S h hR (fun j hj => hc j (List.mem_cons_of_mem _ hj)) hp'.2 (fun j hj => ⟨(hSc j hj).1, fun q hq => (hSc j hj).2 q (List.mem_cons_of_mem _ hq)⟩) hS
    refine ⟨A', q1, q2, fun j hj hjp => ?_, q4⟩
    by_cases e : j = i
    ·subst e
     have hjS := hjp.resolve_left hip
     exact q3 j (List.mem_append_left _ hjS) (.inr hjS)
    ·refine q3 j ?_ hjp
     rcases List.mem_append.1 hj with hj | hj
     ·exact List.mem_append_left _ hj
     ·exact List.mem_append_right _ ((List.mem_cons.1 hj).resolve_left e)
   | false =>
    rw [hb] at h
    have hr : isRead o.op = true := by
     cases hr : isRead o.op with
     | true => rfl
     | false => rw [hr] at hb; simp at hb
    have h : exStep P (fun _ => noEnt) ops.toList o fr H (fun fr' _ => match o.dst with
     | some d => sameSlot (fr'.getD d .undef) (fr.getD d .undef) (recheck P ops.toList bef l fr H k)
     | none => recheck P ops.toList bef l fr H k) = some x := h
    obtain ⟨v, fr', hv, h1, h2⟩ := readStep hr h hR
    have hself := C.self i hic
    -- the new value stands for what the slot says
    have hnew : Rel w β F H fr (A.put o.dst v) ∧ recheck P ops.toList bef l fr H k = some x := by
     cases hd : o.dst with
     | none =>
      rw [hd] at h2
      exact ⟨hR, h2⟩
     | some d =>
      rw [hd] at h2 h1
      obtain ⟨e, h3⟩ := sameSlot_eq h2
      refine ⟨⟨hR.ok, hR.defers, by rw [size_put]; exact hR.len, fun t => ?_⟩, h3⟩
      by_cases et : t = d
      ·subst et
       rw [← e]
       exact h1.slots t
      ·have : (A.put (some d) v).tmps.getD t undef = A.tmps.getD t undef := by
        rw [Array.getD_eq_getD_getElem?, Array.getD_eq_getD_getElem?, get_put (fun e => et (Option.some.inj e).symm)]
       rw [this]
       exact hR.slots t
    by_cases hip : i ∈ pend
    ·obtain ⟨A', q1, q2, q3, q4, q5, q6⟩ := recheck_ok C hread hbef l (i :: S) hnew.2 hnew.1 (fun j hj => hc j (List.mem_cons_of_mem _ hj)) hp'.2
      (fun j hj => by
       rcases List.mem_cons.1 hj with rfl | hj
       ·exact ⟨hic, hp'.1⟩
       ·exact ⟨(hSc j hj).1, fun q hq => (hSc j hj).2 q (List.mem_cons_of_mem _ hq)⟩)
      (fun j hj oj hoj => by
       rcases List.mem_cons.1 hj with rfl | hj
       ·rw [ho'] at hoj
        cases hoj
        exact val_own (hself.sel o ho) (hself.look o ho) hv
       ·exact val_put ((C.self j (hSc j hj).1).sel oj (by simpa using hoj)) (fun t ht => ((hSc j hj).2 i (by simp)).looks oj o (by simpa using hoj) ho t ht) (hS j hj oj hoj))
     refine ⟨A', q1, q2, fun j hj hjp => ?_, fun t ht => ?_, by rw [q5, size_put], by rw [q6, defers_put]⟩
     ·refine q3 j ?_ (hjp.imp_right (List.mem_cons_of_mem _))
      rcases List.mem_append.1 hj with hj | hj
      ·exact List.mem_append_left _ (List.mem_cons_of_mem _ hj)
      ·rcases List.mem_cons.1 hj with rfl | hj
       ·simp
       ·exact List.mem_append_right _ hj
     ·rw [q4 t ht, get_put (ht i hip o ho')]
    ·obtain ⟨A', q1, q2, q3, q4⟩ := recheck_ok C hread hbef l S hnew.2 hR (fun j hj => hc j (List.mem_cons_of_mem _ hj)) hp'.2 (fun j hj => ⟨(hSc j hj).1, fun q hq => (hSc j hj).2 q (List.mem_cons_of_mem _ hq)⟩) hS
     refine ⟨A', q1, q2, fun j hj hjp => ?_, q4⟩
     by_cases e : j = i
     ·subst e
      have hjS := hjp.resolve_left hip
      exact q3 j (List.mem_append_left _ hjS) (.inr hjS)
     ·refine q3 j ?_ hjp
      rcases List.mem_append.1 hj with hj | hj
      ·exact List.mem_append_left _ hj
      ·exact List.mem_append_right _ ((List.mem_cons.1 hj).resolve_left e)
  ·cases h
end
end Go.Gx

namespace Go.Gx
section
variable {R : Type} {P : Program} {T : Table} {w : World} {β : Nat → Loc} {F : Nat → Prop} {H : Heap} {fr : Fr} {a A : Act} {x : R} {ops : Array Oper} {tbl : List (Nat × List Nat)} {ez : List Nat}
theorem edges_spec {o : Oper} {listed : Array Bool} : (∀ j ∈ edges o, listed.getD j false = true) ↔ ∀ e ∈ o.after, Region.binds .any e = true → listed.getD e.on false = true := by
 unfold edges
 constructor
 ·intro h e he hb
  exact h e.on (List.mem_map.2 ⟨e, List.mem_filter.2 ⟨by simpa using he, hb⟩, rfl⟩)
 ·intro h j hj
  obtain ⟨e, he, rfl⟩ := List.mem_map.1 hj
  obtain ⟨h1, h2⟩ := List.mem_filter.1 he
  exact h e (by simpa using h1) h2
theorem getD_both {listed : Array Bool} {i : Nat} (h : i < listed.size) : listed.getD i true = listed.getD i false := by
 simp [h]
theorem getD_set {listed : Array Bool} {i k : Nat} (hi : i < listed.size) : (listed.setIfInBounds i true).getD k false = if k = i then true else listed.getD k false := by
 by_cases h : k = i
 ·subst h; simp [hi]
 ·rw [if_neg h]
  exact getD_set_ne false (Ne.symm h)
theorem act_eq {a A : Act} (h : ∀ t : Nat, a.tmps[t]? = A.tmps[t]?) (hd : a.defers = A.defers) : a = A := by
 obtain ⟨ta, da⟩ := a
 obtain ⟨tA, dA⟩ := A
 have : ta = tA := Array.ext_getElem? h
 subst this
 cases hd
 rfl
theorem Ea.step {a a' : Act} {w w' : World} {n0 : Nat} {rest rest' : List Nat} {l : Early} (E : Ea P ops ez F a w n0 rest l) (hmem : ∀ p ∈ l, p.1 ∈ rest') (hw : ∀ p ∈ l, w'.heap[p.2]? = w.heap[p.2]?)
  (hl : ∀ p ∈ l, ∀ o, ops[p.1]? = some o → ∀ t ∈ Gx.looks ops.toList o, a.tmps[t]? = a'.tmps[t]?)
  (ha : ∀ p ∈ l, ∀ o, ops[p.1]? = some o → ∀ v, a.put o.dst v = a → a'.put o.dst v = a') : Ea P ops ez F a' w' n0 rest' l where
 n1 := E.n1
 n2 := E.n2
 mem := hmem
 at_ := fun p hp => by
  obtain ⟨⟨o, val, obj, q1, q2, q3, q6, q7⟩, hge, hez⟩ := E.at_ p hp
  exact ⟨⟨o, val, obj, q1, q2, q3.agree (hl p hp o q1), (hw p hp).trans q6, ha p hp o q1 _ q7⟩, hge, hez⟩
 notF := E.notF
theorem Mk.fz {o : Oper} {val : Nat → Value} {obj : Go.Obj} (h : Mk P a o val obj) : ∀ (c' : Array Value) (t' : TypeId) f, obj = .cells c' t' f → f = (0, 0) := by
 cases h <;> (intro c' t' f e; cases e; rfl)
theorem earlies_spec {ops : List Oper} {k : Nat} (h : k ∈ earlies ops) : ∃ o, ops[k]? = some o ∧ (earlyAble ops o = true ∨ pureAble ops o = true) := by
 have := (List.mem_filter.1 h).2
 split at this
 ·rename_i o ho; exact ⟨o, ho, by simpa using this⟩
 ·cases this
theorem Cst.done {c dn rest : List Nat} (C : Cst ops tbl ez c) (hc : dn.reverse ++ rest = c) {i j : Nat} (h : Bef ops.toList j i) : (∀ o, ops[i]? = some o → ∀ k ∈ edges o, k ∈ dn) → j ∈ dn := by
 have closed : ∀ i ∈ dn, ∀ o, ops[i]? = some o → ∀ k ∈ edges o, k ∈ dn := fun i hi o ho k hk => by
  have hi' : i ∈ dn.reverse := by simpa using hi
  obtain ⟨s, t, e⟩ := List.append_of_mem hi'
  have := C.dep s i (t ++ rest) (by rw [← hc, e]; simp) o ho k hk
  have : k ∈ dn.reverse := by rw [e]; exact List.mem_append_left _ this
  simpa using this
 induction h with
 | one ho hj => intro hi; exact hi _ (by simpa using ho) _ hj
 | trans ho hk _ ih =>
  intro hi
  exact ih fun o' ho' => closed _ (hi _ (by simpa using ho) _ hk) o' ho'
theorem put_keep {a : Act} {d e : Option Nat} {v u : Value} (hne : ∀ t, d = some t → e ≠ some t) (h : a.put e v = a) : (a.put d u).put e v = a.put d u := by
 rw [Act.put_comm a u v hne, h]
theorem es_nodup {a : Act} {w : World} {n0 : Nat} {rest ps : List Nat} {l : Early} (E : Ea P ops ez F a w n0 rest l) (U : Pu P ops ez a rest ps) : (l.map (·.1) ++ ps).Nodup := by
 rw [List.nodup_append]
 refine ⟨E.n1, U.nd, fun x hx y hy e => ?_⟩
 subst e
 obtain ⟨p, hp, rfl⟩ := List.mem_map.1 hx
 obtain ⟨⟨o2, _, _, r1, r2, _⟩, _⟩ := E.at_ p hp
 obtain ⟨o3, v3, k1, k2, _⟩ := U.at_ _ hy
 rw [r1] at k1
 cases k1
 rw [(pureAt_spec k2).2.2.2] at r2
 cases r2
theorem es_sub {a : Act} {w : World} {n0 : Nat} {rest ps : List Nat} {l : Early} (E : Ea P ops ez F a w n0 rest l) (U : Pu P ops ez a rest ps) : ∀ i ∈ l.map (·.1) ++ ps, i ∈ rest := fun i hi => by
 rcases List.mem_append.1 hi with hi | hi
 ·obtain ⟨p, hp, rfl⟩ := List.mem_map.1 hi
  exact E.mem p hp
 ·exact U.mem i hi
theorem Pu.step {a a' : Act} {rest rest' ps : List Nat} (U : Pu P ops ez a rest ps) (hmem : ∀ p ∈ ps, p ∈ rest') (hl : ∀ p ∈ ps, ∀ oj, ops[p]? = some oj → ∀ t ∈ Gx.looks ops.toList oj, a.tmps[t]? = a'.tmps[t]?)
  (hp : ∀ p ∈ ps, ∀ oj, ops[p]? = some oj → ∀ u, a.put oj.dst u = a → a'.put oj.dst u = a') : Pu P ops ez a' rest' ps where
 nd := U.nd
 mem := hmem
 ez := U.ez
 at_ := fun p h => by
  obtain ⟨o, v, k1, k2, k3, k4⟩ := U.at_ p h
  exact ⟨o, v, k1, k2, k3.agree (hl p h o k1), hp p h o k1 v k4⟩
def OneOk (ops : Array Oper) (ez : List Nat) (listed : Array Bool) (a : Act) : Prop :=
 ∀ j ∈ ez, ∀ oj, ops[j]? = some oj → earlyOp oj = true → listed.getD j false = true → ∃ u : Value, a.put oj.dst u = a ∧ u.cells.size = 1
theorem OneOk.step {listed : Array Bool} {a : Act} {i : Nat} {o : Oper} {v : Value} (h : OneOk ops ez listed a) (hls : i < listed.size) (ho : ops[i]? = some o) (hd : ∀ j, j ≠ i → ∀ oj, ops[j]? = some oj → ∀ t, o.dst = some t → oj.dst ≠ some t)
  (hi : i ∈ ez → earlyOp o = true → v.cells.size = 1) : OneOk ops ez (listed.setIfInBounds i true) (a.put o.dst v) := by
 intro j hj oj hoj he hlj
 rw [getD_set hls] at hlj
 by_cases e : j = i
 ·subst e
  rw [ho] at hoj
  cases hoj
  exact ⟨v, put_put, hi hj he⟩
 ·rw [if_neg e] at hlj
  obtain ⟨u, h1, h2⟩ := h j hj oj hoj he hlj
  exact ⟨u, put_keep (fun t ht => hd j e oj hoj t ht) h1, h2⟩
theorem fill_struct {places : Nat → Option (Nat × Nat)} {n : Nat} : ∀ {ps : List (Nat × Value)} {cells : Array Value}, cells.size = n → (∀ p ∈ ps, ∃ off, places p.1 = some (off, 1) ∧ off + 1 ≤ n ∧ p.2.cells.size = 1) → ∃ cells', Instr.fill places cells ps = some cells'
 | [], cells, _, _ => ⟨cells, rfl⟩
 | (k, v) :: ps, cells, hc, h => by
  obtain ⟨off, h1, h2, h3⟩ := h (k, v) (by simp)
  obtain ⟨cells', h4⟩ := fill_struct (places := places) (n := n) (ps := ps) (cells := splice cells off v.cells.toList) (by rw [splice_size]; exact hc) fun p hp => h p (List.mem_cons_of_mem _ hp)
  exact ⟨cells', by rw [fill_cons h1 h3 (by rw [hc]; exact h2)]; exact h4⟩
theorem pure_some {o : Oper} {a : Act} {listed : Array Bool} (hk : pureOk P ops.toList ez o = true) (h : OneOk ops ez listed a) (hdeps : ∀ j ∈ edges o, listed.getD j false = true) : ∃ v, PB P a o v := by
 unfold pureOk at hk
 split at hk
 ·rename_i t ps ho
  split at hk
  ·rename_i fs i hu hi
   split at hk
   ·rename_i z hz
    rw [Bool.and_eq_true] at hk
    obtain ⟨places, hp, hpl⟩ := places_of fs.toList hk.1
    obtain ⟨cells', hf⟩ := fill_struct (places := (places.toArray[·]?)) (n := z.cells.size) (ps := (ps.map fun (i, x) => (i, a.eval x)).toList) (cells := z.cells) rfl (by
     intro p hp'
     simp only [Array.toList_map, List.mem_map] at hp'
     obtain ⟨⟨k, y⟩, hy, rfl⟩ := hp'
     have hq := List.all_eq_true.1 hk.2 (k, y) hy
     dsimp only at hq
     split at hq
     ·rename_i f hf
      rw [Bool.and_eq_true, Bool.and_eq_true] at hq
      have h1 := hpl k f hf
      rw [Nat.eq_of_beq_eq_true hq.1.1] at h1
      refine ⟨f.offset, by simpa using h1, by have := hq.1.2; rw [Nat.ble_eq] at this; exact this, ?_⟩
      have hc := hq.2
      unfold oneCell at hc
      split at hc
      ·rename_i t'
       obtain ⟨j, hj, hc⟩ := List.any_eq_true.1 hc
       rw [Bool.and_eq_true] at hc
       have hje : j ∈ ez := by simpa using hc.1
       have hc := hc.2
       split at hc
       ·rename_i pj hpj
        rw [Bool.and_eq_true] at hc
        have hpj' : ops[j]? = some pj := by simpa using hpj
        obtain ⟨u, h2, h3⟩ := h j hje pj hpj' hc.1 (hdeps j hj)
        have hd : pj.dst = some t' := by
         have := hc.2
         unfold dstIn at this
         split at this
         ·rename_i d hd
          have : d = t' := by simpa using this
          rw [hd, this]
         ·cases this
        rw [hd] at h2
        show (a.eval (.tmp t')).cells.size = 1
        have h4 : a.tmps.getD t' undef = u ∨ a.tmps.getD t' undef = undef := by
         have h5 : a.tmps.setIfInBounds t' u = a.tmps := congrArg Act.tmps h2
         by_cases hlt : t' < a.tmps.size
         ·left
          have h6 : (a.tmps.setIfInBounds t' u)[t']? = some u := by simp [hlt]
          rw [h5] at h6
          rw [Array.getD_eq_getD_getElem?, h6]
          rfl
         ·right
          rw [Array.getD_eq_getD_getElem?, Array.getElem?_eq_none (Nat.le_of_not_lt hlt)]
          rfl
        rcases h4 with h4 | h4
        ·show (a.tmps.getD t' undef).cells.size = 1
         rw [h4]; exact h3
        ·show (a.tmps.getD t' undef).cells.size = 1
         rw [h4]; rfl
       ·cases hc
      ·cases hc
     ·cases hq)
    refine ⟨.agg cells', ?_⟩
    unfold PB
    rw [ho]
    refine ⟨cells', ?_, rfl⟩
    simp only [Program.built, hi, hu, hz, hp]
    exact hf
   ·cases hk
  ·cases hk
 ·cases hk
theorem early_one {o : Oper} {a : Act} {val : Nat → Value} {obj : Go.Obj} (h : Mk P a o val obj) (b : Nat) : (val b).cells.size = 1 := by cases h <;> rfl
theorem draw_any (hT : TabOK P T) (hcf : ez = [] ∨ (cfgOf T).isEmpty = true) (hez : ∀ k ∈ ez, ∃ o, ops.toList[k]? = some o ∧ (earlyAble ops.toList o = true ∨ pureAble ops.toList o = true)) {c : List Nat} (C : Cst ops tbl ez c) {Q : Exit → Act → World → Prop} {e0 : En} {K : Fr → Heap → Option R} (hQ : ∀ a' w', After e0 F x K a' w' → Q .normal a' w') :
  ∀ (n : Nat) {rest dn pend ps : List Nat} {l : Early} {listed : Array Bool} {a A : Act} {w : World} {β : Nat → Loc} {fr : Fr} {H : Heap}, n + l.length + ps.length = pend.length + rest.length → dn.reverse ++ rest = c →
   Dr P ops dn pend (l.map (·.1) ++ ps) listed a A w → Ea P ops ez F a w e0.w.heap.size rest l → Pu P ops ez a rest ps → OneOk ops ez listed a → exDraw P T ops.toList tbl ez rest dn fr H K = some x → Rel w β (FE F l) H fr A → Ext e0 (en w β F H) → wpAny P .any ops Q n listed a w := by
 intro n
 have fin : ∀ {rest dn : List Nat}, dn.reverse ++ rest = c → rest.Nodup := fun hc => by
  have := C.nd
  rw [← hc, List.nodup_append] at this
  exact this.2.1
 have sub1 : ∀ {rest ps : List Nat} {l : Early} {a : Act} {w : World}, Ea P ops ez F a w e0.w.heap.size rest l → Pu P ops ez a rest ps → l.length + ps.length ≤ rest.length := fun E U => by
  have := (es_nodup E U).length_le_of_subset (l₂ := _) (es_sub E U)
  simpa using this
 induction n with
 | zero =>
  intro rest dn pend ps l listed a A w β fr H hn hc D E U O1 hx hR hE
  have h1 := sub1 E U
  have hp : pend = [] := List.eq_nil_of_length_eq_zero (by omega)
  subst hp
  have hnd := fin hc
  have hlen : rest.length = l.length + ps.length := by simp at hn; omega
  have hin : ∀ i ∈ rest, i ∈ l.map (·.1) ++ ps := by
   intro i hi
   refine Classical.byContradiction fun hni => ?_
   have h1 : (i :: (l.map (·.1) ++ ps)).Nodup := List.nodup_cons.2 ⟨hni, es_nodup E U⟩
   have h2 : (i :: (l.map (·.1) ++ ps)) ⊆ rest := fun k hk => by
    rcases List.mem_cons.1 hk with rfl | hk
    ·exact hi
    ·exact es_sub E U k hk
   have h3 := h1.length_le_of_subset h2
   simp at h3
   omega
  obtain ⟨dn', pend', ps', l', A', fr', β', H', hc', D', E', U', hx', hR', hE', hcount⟩ := catchup hcf C (post := []) rest (by simpa using hc) (fun i hi => by
   rcases List.mem_append.1 (hin i hi) with h | h
   ·exact .inl h
   ·obtain ⟨o3, v3, k1, k2, _⟩ := U.at_ i h
    exact .inr fun o ho => by rw [k1] at ho; cases ho; exact (pureAt_spec k2).1) D (by simpa using E) (by simpa using U) (by simpa using hx) hR hE
  have hl' : l' = [] := by
   cases l' with
   | nil => rfl
   | cons p _ => exact absurd (E'.mem p (by simp)) (by simp)
  subst hl'
  have hps' : ps' = [] := by
   cases ps' with
   | nil => rfl
   | cons p _ => exact absurd (U'.mem p (by simp)) (by simp)
  subst hps'
  have hp' : pend' = [] := List.eq_nil_of_length_eq_zero (by simp at hcount; omega)
  subst hp'
  have hx' : K fr' H' = some x := hx'
  have ha : a = A' := act_eq (fun t => D'.agree t fun j hj => by rcases hj with hj | hj <;> cases hj) D'.adef
  subst ha
  have hR' : Rel w β' F H' fr' a := hR'.keep0 (by
   have ok := hR'.ok
   refine ⟨fun r o h => RepObj.mono0 ?_ (lt_len h) (Nat.le_of_eq (pnOf_of h).symm) (ok.obj r o h) fun _ _ => rfl, fun r o b h hw => ⟨(ok.ltB r o b h hw).1, fun h2 => (ok.ltB r o b h hw).2 (.inl h2)⟩, ok.injB, fun b hb => ok.F b (.inl hb), ok.uni⟩
   exact ⟨Nat.le_refl _, fun _ _ => rfl, fun _ _ _ _ => rfl, ⟨fun b hb hav => ⟨rfl, fun h => hav (h.imp_right .inl)⟩, fun _ _ _ _ h => h⟩, fun _ _ _ h => h, fun b c t f h => ⟨c, f, h, rfl⟩, fun _ _ => Nat.le_refl _⟩)
   ⟨Nat.le_refl _, fun _ _ => rfl, fun _ _ _ _ => rfl, ⟨fun b hb hav => ⟨rfl, fun h => hav (h.imp_right .inl)⟩, fun _ _ _ _ h => h⟩, fun _ _ _ h => h, fun b c t f h => ⟨c, f, h, rfl⟩, fun _ _ => Nat.le_refl _⟩
  refine ⟨?_, hQ _ _ ⟨fr', H', β', hR', hE', hx'⟩⟩
  cases h : Region.ready .any ops listed with
  | nil => rfl
  | cons i _ =>
   have : i ∈ Region.ready .any ops listed := by rw [h]; simp
   obtain ⟨h1, o, ho, _⟩ := mem_ready.1 this
   have hi : i < ops.size := (Array.getElem?_eq_some_iff.1 ho).1
   have : i ∈ dn' := by
    have := C.all i hi
    rw [← hc'] at this
    simpa using this
   have := (D'.mem i).2 (.inl ⟨this, fun h => nomatch h⟩)
   rw [getD_both (by rw [D'.size]; exact hi), this] at h1
   cases h1
 | succ n ih =>
  intro rest dn pend ps l listed a A w β fr H hn hc D E U O1 hx hR hE
  have hdc : ∀ j ∈ dn, j ∈ c := fun j hj => by rw [← hc]; simp [hj]
  refine ⟨fun hre => ?_, fun i hi => ?_⟩
  ·-- nothing is ready: all is done
   exfalso
   have all : ∀ (m : Nat) (l r : List Nat), l.length = m → c = l ++ r → ∀ i ∈ l, listed.getD i false = true := by
    intro m
    induction m with
    | zero => intro l r hl _ i hi; rw [List.eq_nil_of_length_eq_zero hl] at hi; cases hi
    | succ m ihm =>
     intro l r hl hlr
     obtain ⟨l', i, rfl⟩ : ∃ l' i, l = l' ++ [i] := by
      rcases List.eq_nil_or_concat l with h | ⟨l', i, h⟩
      ·subst h; cases hl
      ·exact ⟨l', i, by rw [h, List.concat_eq_append]⟩
     have ih1 := ihm l' (i :: r) (by simpa using hl) (by rw [hlr]; simp)
     intro k hk
     rcases List.mem_append.1 hk with hk | hk
     ·exact ih1 k hk
     ·rw [List.mem_singleton.1 hk]
      have hic : i ∈ c := by rw [hlr]; simp
      have hlt := C.lt i hic
      cases hli : listed.getD i false with
      | true => rfl
      | false =>
       exfalso
       have : i ∈ Region.ready .any ops listed := by
        rw [mem_ready]
        refine ⟨by rw [getD_both (by rw [D.size]; exact hlt)]; exact hli, ops[i], by simp [hlt], edges_spec.1 fun j hj => ih1 j ?_⟩
        exact C.dep l' i r (by rw [hlr]; simp) ops[i] (by simp [hlt]) j hj
       rw [hre] at this
       cases this
   have hall := all c.length c [] rfl (by simp)
   have hp : pend = [] := by
    cases pend with
    | nil => rfl
    | cons j _ =>
     have := hall j (hdc j (D.sub j (by simp)))
     rcases (D.mem j).1 this with h | h
     ·exact absurd (by simp) h.2
     ·exact absurd (D.sub j (by simp)) (D.edn j h)
   subst hp
   have hnd := fin hc
   have h2 : rest ⊆ l.map (·.1) ++ ps := fun k hk => by
    have := hall k (by rw [← hc]; simp [hk])
    rcases (D.mem k).1 this with h | h
    ·exfalso
     have hnd := C.nd
     rw [← hc, List.nodup_append] at hnd
     exact hnd.2.2 k (by simpa using h.1) k hk rfl
    ·exact h
   have h3 := hnd.length_le_of_subset h2
   simp at h3 hn
   omega
  ·obtain ⟨h1, o, ho, hdeps⟩ := mem_ready.1 hi
   have hlt : i < ops.size := (Array.getElem?_eq_some_iff.1 ho).1
   have hls : i < listed.size := by rw [D.size]; exact hlt
   rw [getD_both hls] at h1
   have hdeps := edges_spec.2 hdeps
   have hic := C.all i hlt
   have hself := C.self i hic
   have ho' : ops.toList[i]? = some o := by simpa using ho
   have hsel := hself.sel o ho'
   have hie : i ∉ l.map (·.1) ++ ps := fun h => by
    have := (D.mem i).2 (.inr h)
    rw [h1] at this
    cases this
   have closed' : ∀ k, (listed.setIfInBounds i true).getD k false = true → ∀ o, ops[k]? = some o → ∀ j ∈ edges o, (listed.setIfInBounds i true).getD j false = true := by
    intro k hk ok hok j hj
    rw [getD_set hls] at hk ⊢
    split
    ·rfl
    ·split at hk
     ·rename_i e
      subst e
      rw [ho] at hok
      cases hok
      exact hdeps j hj
     ·exact D.closed k hk ok hok j hj
   have hrestpair : ∀ {dn2 rest2 : List Nat}, dn2.reverse ++ rest2 = c → ∀ j ∈ dn2, ∀ k ∈ rest2, PairOk ops.toList tbl ez j k := fun hc2 j hj k hk => by
    have := C.pair
    rw [← hc2, List.pairwise_append] at this
    exact this.2.2 j (by simpa using hj) k hk
   -- what i puts, nothing that was made ahead looks at
   have hdst : ∀ j, j ≠ i → ∀ oj, ops[j]? = some oj → ∀ t, o.dst = some t → oj.dst ≠ some t := fun j hne oj hoj t ht e => by
    have hjc := C.all j (Array.getElem?_eq_some_iff.1 hoj).1
    have hoj' : ops.toList[j]? = some oj := by simpa using hoj
    rcases C.total hjc hic hne with h | h
    ·exact (h.looks oj o hoj' ho' t ht).2 e
    ·exact (h.looks o oj ho' hoj' t e).2 ht
   have hlk : ∀ j ∈ l.map (·.1) ++ ps, PairOk ops.toList tbl ez i j ∨ PairOk ops.toList tbl ez j i → ∀ o2, ops[j]? = some o2 → ∀ d, o.dst = some d → d ∉ Gx.looks ops.toList o2 := fun j hj hpr o2 ho2 d hd => by
    have ho2' : ops.toList[j]? = some o2 := by simpa using ho2
    rcases hpr with h | h
    ·rcases h.bef o o2 ho' ho2' with h | h | h
     ·exfalso
      have hl := (D.mem j).2 (.inr hj)
      have := D.bef (C.tbl j i h) fun o' ho'' => D.closed j hl o' ho''
      rw [h1] at this
      cases this
     ·exact h.2 d hd
     ·exact h.2 d hd
    ·exact (h.looks o2 o ho2' ho' d hd).1
   by_cases hip : i ∈ pend
   ·-- it was read ahead
    have hpp : ∀ j ∈ l.map (·.1) ++ ps, PairOk ops.toList tbl ez i j := fun j hj => hrestpair hc i (D.sub i hip) j (es_sub E U j hj)
    have hpe : ∀ j ∈ l.map (·.1) ++ ps, ∀ oj, ops[j]? = some oj → ∀ d, oj.dst = some d → d ∉ Gx.looks ops.toList o := fun j hj oj hoj d hd =>
     ((hpp j hj).looks o oj ho' (by simpa using hoj) d hd).1
    have hll : ∀ p ∈ l, p.1 ∈ l.map (·.1) ++ ps := fun p hp => List.mem_append_left _ (List.mem_map.2 ⟨p, hp, rfl⟩)
    have hag := D.looks C hdc hic ho hpe hdeps
    obtain ⟨v, hv, hput⟩ := D.val i hip o ho
    refine StepVal.wpOp ho (hv.agree hsel hag) ?_
    have hlen := List.length_erase_of_mem hip
    have hpos := List.length_pos_of_mem hip
    have E' : Ea P ops ez F (a.put o.dst v) w e0.w.heap.size rest l := E.step E.mem (fun _ _ => rfl) (fun p hp oj hoj t ht => (get_put fun e => hlk p.1 (hll p hp) (.inl (hpp p.1 (hll p hp))) oj hoj t e ht).symm) fun p hp oj hoj u hu => put_keep (fun t ht => fun h => ((hpp p.1 (hll p hp)).looks o oj ho' (by simpa using hoj) t h).2 ht) hu
    have U' : Pu P ops ez (a.put o.dst v) rest ps := U.step U.mem (fun p hp oj hoj t ht => (get_put fun e => hlk p (List.mem_append_right _ hp) (.inl (hpp p (List.mem_append_right _ hp))) oj hoj t e ht).symm)
     fun p hp oj hoj u hu => put_keep (fun t ht => hdst p (fun e => hie (List.mem_append_right _ (by rw [← e]; exact hp))) oj hoj t ht) hu
    have O1' := O1.step (v := v) hls ho hdst fun _ he => by
     have hrd := D.read i hip o ho
     unfold earlyOp at he
     split at he
     ·rename_i e1 _ _; rw [e1] at hrd; cases hrd
     ·rename_i e1 _ _; rw [e1] at hrd; cases hrd
     ·cases he
    refine ih (rest := rest) (dn := dn) (pend := pend.erase i) (ps := ps) (A := A) (β := β) (fr := fr) (H := H) (by omega) hc ?_ E' U' O1' hx hR hE
    exact {
     size := by simp [D.size]
     mem := fun k => by
      rw [getD_set hls]
      by_cases e : k = i
      ·subst e
       simp [D.sub k hip, D.pnd.mem_erase_iff]
      ·rw [if_neg e, D.mem k, D.pnd.mem_erase_iff]
       simp [e]
     edn := D.edn
     pnd := D.pnd.erase i
     sub := fun j hj => D.sub j (List.mem_of_mem_erase hj)
     read := fun j hj => D.read j (List.mem_of_mem_erase hj)
     agree := fun t ht => by
      rw [← hput]
      refine put_agree D.asize fun hd => D.agree t fun j hj oj hoj => ?_
      by_cases e : j = i
      ·subst e
       rw [ho] at hoj
       cases hoj
       exact hd
      ·exact ht j (hj.imp_left fun hj => D.pnd.mem_erase_iff.2 ⟨e, hj⟩) oj hoj
     asize := by rw [size_put]; exact D.asize
     adef := by rw [defers_put]; exact D.adef
     val := fun j hj => D.val j (List.mem_of_mem_erase hj)
     closed := closed' }
   ·have hidn : i ∉ dn := fun hm => by
     have := (D.mem i).2 (.inl ⟨hm, hip⟩)
     rw [h1] at this
     cases this
    have hir : i ∈ rest := by
     rw [← hc] at hic
     rcases List.mem_append.1 hic with h | h
     ·exact absurd (by simpa using h) hidn
     ·exact h
    have htot : ∀ j ∈ l.map (·.1) ++ ps, PairOk ops.toList tbl ez i j ∨ PairOk ops.toList tbl ez j i := fun j hj =>
     C.total hic (by rw [← hc]; exact List.mem_append_right _ (es_sub E U j hj)) fun e => hie (by rw [e]; exact hj)
    by_cases hpu : i ∈ ez ∧ pureAble ops.toList o = true
    ·-- it is put together, ahead of its turn
     obtain ⟨hpz, hpb⟩ := hpu
     have hpt : pureAt ops.toList o = true := by
      unfold pureAble at hpb
      rw [Bool.and_eq_true] at hpb
      exact hpb.1
     obtain ⟨hrd, hgu, ⟨d, hd⟩, heo⟩ := pureAt_spec hpt
     have hgo : growsOk P ops.toList ez dn fr = true := by
      cases hrest : rest with
      | nil => rw [hrest] at hir; cases hir
      | cons k r =>
       rw [hrest] at hx
       simp only [exDraw] at hx
       exact (bif_none hx).1
     have hpk : pureOk P ops.toList ez o = true := by
      have := List.all_eq_true.1 hgo i hpz
      rw [ho'] at this
      have hnc : dn.contains i = false := by
       cases hcn : dn.contains i with
       | false => rfl
       | true => exact absurd (by simpa using hcn) hidn
      simpa only [hnc, hpt, cond_true, Bool.false_or] using this
     obtain ⟨v, hv⟩ := pure_some hpk O1 hdeps
     refine StepVal.wpOp ho (hv.val hgu w) ?_
     have hll : ∀ p ∈ l, p.1 ∈ l.map (·.1) ++ ps := fun p hp => List.mem_append_left _ (List.mem_map.2 ⟨p, hp, rfl⟩)
     have E' : Ea P ops ez F (a.put o.dst v) w e0.w.heap.size rest l := E.step E.mem (fun _ _ => rfl) (fun p hp oj hoj t ht => (get_put fun e => hlk p.1 (hll p hp) (htot p.1 (hll p hp)) oj hoj t e ht).symm)
      fun p hp oj hoj u hu => put_keep (fun t ht => hdst p.1 (fun e => hie (by rw [← e]; exact hll p hp)) oj hoj t ht) hu
     have U1 : Pu P ops ez (a.put o.dst v) rest ps := U.step U.mem (fun p hp oj hoj t ht => (get_put fun e => hlk p (List.mem_append_right _ hp) (htot p (List.mem_append_right _ hp)) oj hoj t e ht).symm)
      fun p hp oj hoj u hu => put_keep (fun t ht => hdst p (fun e => hie (List.mem_append_right _ (by rw [← e]; exact hp))) oj hoj t ht) hu
     have U' : Pu P ops ez (a.put o.dst v) rest (i :: ps) := {
      nd := List.nodup_cons.2 ⟨fun h => hie (List.mem_append_right _ h), U.nd⟩
      mem := fun p hp => by
       rcases List.mem_cons.1 hp with rfl | hp
       ·exact hir
       ·exact U.mem p hp
      ez := fun p hp => by
       rcases List.mem_cons.1 hp with rfl | hp
       ·exact hpz
       ·exact U.ez p hp
      at_ := fun p hp => by
       rcases List.mem_cons.1 hp with rfl | hp
       ·exact ⟨o, v, ho, hpt, hv.agree fun t ht => (get_put fun e => hself.look o ho' t e ht).symm, put_put⟩
       ·exact U1.at_ p hp }
     have O1' := O1.step (v := v) hls ho hdst fun _ he => by rw [heo] at he; cases he
     refine ih (rest := rest) (dn := dn) (pend := pend) (ps := i :: ps) (l := l) (A := A) (β := β) (fr := fr) (H := H) (by simp; omega) hc ?_ E' U' O1' hx hR hE
     have hes : ∀ k, k ∈ l.map (·.1) ++ i :: ps ↔ k = i ∨ k ∈ l.map (·.1) ++ ps := fun k => by
      rw [List.mem_append, List.mem_append, List.mem_cons]
      exact ⟨fun h => h.elim (fun h => .inr (.inl h)) fun h => h.elim .inl fun h => .inr (.inr h), fun h => h.elim (fun h => .inr (.inl h)) fun h => h.elim .inl fun h => .inr (.inr h)⟩
     exact {
      size := by simp [D.size]
      mem := fun k => by
       rw [getD_set hls, hes k]
       by_cases e : k = i
       ·subst e; simp
       ·rw [if_neg e, D.mem k]; simp [e]
      edn := fun j hj => by
       rcases (hes j).1 hj with e | hj
       ·rw [e]; exact hidn
       ·exact D.edn j hj
      pnd := D.pnd
      sub := D.sub
      read := D.read
      agree := fun t' ht => by
       rw [get_put (ht i (.inr ((hes i).2 (.inl rfl))) o ho)]
       exact D.agree t' fun j hj => ht j (hj.imp_right fun h => (hes j).2 (.inr h))
      asize := by rw [size_put]; exact D.asize
      adef := by rw [defers_put]; exact D.adef
      val := D.val
      closed := closed' }
    by_cases hpa : i ∈ ez
    ·-- a block is made, ahead of its turn
     obtain ⟨o2, ho2, hea⟩ := hez i hpa
     rw [ho'] at ho2
     cases ho2
     have hea := hea.resolve_right fun h => hpu ⟨hpa, h⟩
     unfold earlyAble at hea
     rw [Bool.and_eq_true] at hea
     have heo : earlyOp o = true := hea.1
     have hnp : pureAt ops.toList o = false := by
      cases hp : pureAt ops.toList o with
      | false => rfl
      | true => rw [(pureAt_spec hp).2.2.2] at heo; cases heo
     obtain ⟨d, q4, q3⟩ : ∃ d, o.dst = some d ∧ o.guard = none := by
      have := heo
      unfold earlyOp at this
      split at this
      ·rename_i e1 e2 e3; exact ⟨_, e3, e2⟩
      ·rename_i e1 e2 e3; exact ⟨_, e3, e2⟩
      ·cases this
     have hdd : ∀ j ∈ edges o, j ∈ dn := fun j hj => by
      rcases (D.mem j).1 (hdeps j hj) with h | h
      ·exact h.1
      ·exfalso
       rcases List.mem_append.1 h with h | h
       ·obtain ⟨p, hp, rfl⟩ := List.mem_map.1 h
        obtain ⟨⟨o2, _, _, r1, r2, _⟩, _⟩ := E.at_ p hp
        have := List.all_eq_true.1 hea.2 p.1 hj
        rw [show ops.toList[p.1]? = some o2 by simpa using r1] at this
        simp only [r2] at this
        cases this
       ·obtain ⟨o2, _, r1, r2, _⟩ := U.at_ j h
        have := List.all_eq_true.1 hea.2 j hj
        rw [show ops.toList[j]? = some o2 by simpa using r1] at this
        simp [r2] at this
     have hgo : growsOk P ops.toList ez dn fr = true := by
      cases hrest : rest with
      | nil => rw [hrest] at hir; cases hir
      | cons k r =>
       rw [hrest] at hx
       simp only [exDraw] at hx
       exact (bif_none hx).1
     have hgk : growOk P fr o = true := by
      have := List.all_eq_true.1 hgo i hpa
      rw [ho'] at this
      have hnc : dn.contains i = false := by
       cases hcn : dn.contains i with
       | false => rfl
       | true => exact absurd (by simpa using hcn) hidn
      have hrb : readyB dn o = true := by
       unfold readyB
       rw [List.all_eq_true]
       intro j hj
       simpa using hdd j hj
      simpa only [hnc, hnp, hrb, cond_false, Bool.not_true, Bool.false_or] using this
     obtain ⟨val, obj, hmA⟩ := grow_mk hgk hR
     have hll : ∀ p ∈ l, p.1 ∈ l.map (·.1) ++ ps := fun p hp => List.mem_append_left _ (List.mem_map.2 ⟨p, hp, rfl⟩)
     have hall3 : ∀ p ∈ l, PairOk ops.toList tbl ez i p.1 ∨ PairOk ops.toList tbl ez p.1 i := fun p hp => htot p.1 (hll p hp)
     have hag := D.looks C hdc hic ho (fun j hj oj hoj d' hd' => by
      have hoj' : ops.toList[j]? = some oj := by simpa using hoj
      rcases htot j hj with h | h
      ·exact (h.looks o oj ho' hoj' d' hd').1
      ·rcases h.bef oj o hoj' ho' with h | h | h
       ·exact absurd (C.done hc (C.tbl i j h) fun o' ho'' => by rw [ho] at ho''; cases ho''; exact hdd) (D.edn j hj)
       ·exact h.2 d' hd'
       ·exact h.2 d' hd') hdeps
     have hma : Mk P a o val obj := hmA.agree fun t ht => (hag t ht).symm
     have hw : Region.wanted o (yielded ops a.tmps) = true := by simp [Region.wanted, q3]
     unfold wpOp
     simp only [ho]
     rw [if_pos hw]
     refine .inl ?_
     unfold Oper.wp
     rw [hma.run w]
     show wpAny P .any ops Q n (listed.setIfInBounds i true) (a.put o.dst (val w.heap.size)) (w.alloc obj)
     have hg := hma.fz
     have hG : ∀ b, FE F ((i, w.heap.size) :: l) b → FE F l b ∨ b = w.heap.size := fun b hb => by
      rcases hb with hb | ⟨p, hp, rfl⟩
      ·exact .inl (.inl hb)
      ·rcases List.mem_cons.1 hp with rfl | hp
       ·exact .inr rfl
       ·exact .inl (.inr ⟨p, hp, rfl⟩)
     have hall2 : ∀ j ∈ c, j ≠ i → ∀ oj, ops[j]? = some oj → o.dst ≠ oj.dst := fun j hj hne oj hoj e => by
      rcases C.total hj hic hne with h | h
      ·exact (h.looks oj o (by simpa using hoj) ho' d q4).2 (by rw [← e, q4])
      ·exact (h.looks o oj ho' (by simpa using hoj) d (by rw [← e, q4])).2 q4
     have E' : Ea P ops ez F (a.put o.dst (val w.heap.size)) (w.alloc obj) e0.w.heap.size rest ((i, w.heap.size) :: l) := {
      n1 := by rw [List.map_cons]; exact List.nodup_cons.2 ⟨fun h => hie (List.mem_append_left _ h), E.n1⟩
      n2 := by
       rw [List.map_cons]
       refine List.nodup_cons.2 ⟨fun h => ?_, E.n2⟩
       obtain ⟨p, hp, e⟩ := List.mem_map.1 h
       have := hR.ok.F p.2 (.inr ⟨p, hp, rfl⟩)
       have e : p.2 = w.heap.size := e
       omega
      mem := fun p hp => by
       rcases List.mem_cons.1 hp with rfl | hp
       ·exact hir
       ·exact E.mem p hp
      at_ := fun p hp => by
       rcases List.mem_cons.1 hp with rfl | hp
       ·exact ⟨⟨o, val, obj, ho, heo, hma.agree fun t ht => (get_put fun e => hself.look o ho' t e ht).symm, heap_alloc_new, put_put⟩, hE.size, hpa⟩
       ·obtain ⟨⟨o2, val2, obj2, r1, r2, r3, r6, r7⟩, hge, hez2⟩ := E.at_ p hp
        refine ⟨⟨o2, val2, obj2, r1, r2, r3.agree fun t ht => (get_put fun e => hlk p.1 (hll p hp) (hall3 p hp) o2 r1 t e ht).symm, (heap_alloc_old (lt_of_heap r6)).trans r6, put_keep (fun t' ht => fun h => ?_) r7⟩, hge, hez2⟩
        have hpi : p.1 ≠ i := fun e => hie (by rw [← e]; exact hll p hp)
        exact hall2 p.1 (by rw [← hc]; exact List.mem_append_right _ (E.mem p hp)) hpi o2 r1 (by rw [ht, h])
      notF := fun p hp => by
       rcases List.mem_cons.1 hp with rfl | hp
       ·exact fun h => absurd (hR.ok.F _ (.inl h)) (Nat.lt_irrefl _)
       ·exact E.notF p hp }
     have U' : Pu P ops ez (a.put o.dst (val w.heap.size)) rest ps := U.step U.mem (fun p hp oj hoj t ht => (get_put fun e => hlk p (List.mem_append_right _ hp) (htot p (List.mem_append_right _ hp)) oj hoj t e ht).symm)
      fun p hp oj hoj u hu => put_keep (fun t ht => hdst p (fun e => hie (List.mem_append_right _ (by rw [← e]; exact hp))) oj hoj t ht) hu
     have O1' := O1.step (v := val w.heap.size) hls ho hdst fun _ _ => early_one hma _
     refine ih (rest := rest) (dn := dn) (pend := pend) (ps := ps) (l := (i, w.heap.size) :: l) (A := A) (β := β) (fr := fr) (H := H) (by simp; omega) hc ?_ E' U' O1' hx (hR.keep0 (ok_early hR.ok hG) (ext0_early hG)) (hE.trans (ext_out _ hg))
     exact {
      size := by simp [D.size]
      mem := fun k => by
       rw [getD_set hls]
       by_cases e : k = i
       ·subst e; simp
       ·rw [if_neg e, D.mem k]; simp [e]
      edn := fun j hj => by
       rw [List.map_cons, List.cons_append] at hj
       rcases List.mem_cons.1 hj with e | hj
       ·rw [show j = i from e]; exact hidn
       ·exact D.edn j hj
      pnd := D.pnd
      sub := D.sub
      read := D.read
      agree := fun t' ht => by
       rw [get_put (ht i (.inr (by simp)) o ho)]
       exact D.agree t' fun j hj => ht j (hj.imp_right fun h => by rw [List.map_cons, List.cons_append]; exact List.mem_cons_of_mem _ h)
      asize := by rw [size_put]; exact D.asize
      adef := by rw [defers_put]; exact D.adef
      val := fun j hj oj hoj => by
       obtain ⟨v', k1, k2⟩ := D.val j hj oj hoj
       exact ⟨v', k1.sup (sup_alloc w _), k2⟩
      closed := closed' }
    obtain ⟨pre, post, rfl⟩ := List.append_of_mem hir
    have hpre : ∀ k ∈ pre, k ∈ l.map (·.1) ∨ ∀ o, ops[k]? = some o → isRead o.op = true := fun k hk => by
     refine (Classical.em (k ∈ l.map (·.1))).imp_right fun hkl ok hok => ?_
     by_cases hkp : k ∈ ps
     ·obtain ⟨o3, v3, k1, k2, _⟩ := U.at_ k hkp
      rw [k1] at hok
      cases hok
      exact (pureAt_spec k2).1
     have hp : PairOk ops.toList tbl ez k i := by
      have := C.pair
      rw [← hc, List.pairwise_append] at this
      have := this.2.1
      rw [List.pairwise_append] at this
      exact this.2.2 k hk i (by simp)
     rcases hp.bef ok o (by simpa using hok) ho' with h | h | h
     ·exfalso
      have hl := D.bef (C.tbl i k h) fun o' ho'' => by rw [ho] at ho''; cases ho''; exact hdeps
      rcases (D.mem k).1 hl with h | h
      ·have hnd := C.nd
       rw [← hc, List.nodup_append] at hnd
       exact hnd.2.2 k (by simpa using h.1) k (by simp [hk]) rfl
      ·rcases List.mem_append.1 h with h | h
       ·exact hkl h
       ·exact hkp h
     ·exact h.1
     ·exact absurd h.1 hpa
    obtain ⟨dn', pend', ps', l', A', fr', β1, H1, hc', D', E', U', hx', hR', hE', hlen⟩ := catchup hcf C pre hc hpre D E U hx hR hE
    have hdc' : ∀ j ∈ dn', j ∈ c := fun j hj => by rw [← hc']; simp [hj]
    have hil : i ∉ l'.map (·.1) ++ ps' := fun h => by
     have := (D'.mem i).2 (.inr h)
     rw [h1] at this
     cases this
    have hpost : ∀ p ∈ l', p.1 ∈ post := fun p hp => by
     rcases List.mem_cons.1 (E'.mem p hp) with e | h
     ·exact absurd (List.mem_append_left _ (List.mem_map.2 ⟨p, hp, e⟩)) hil
     ·exact h
    have hpostp : ∀ p ∈ ps', p ∈ post := fun p hp => by
     rcases List.mem_cons.1 (U'.mem p hp) with e | h
     ·rw [e] at hp
      exact absurd (List.mem_append_right _ hp) hil
     ·exact h
    have hpe : ∀ j ∈ l'.map (·.1) ++ ps', PairOk ops.toList tbl ez i j := fun j hj => by
     have hjp : j ∈ post := by
      rcases List.mem_append.1 hj with hj | hj
      ·obtain ⟨p, hp, rfl⟩ := List.mem_map.1 hj
       exact hpost p hp
      ·exact hpostp j hj
     have := C.pair
     rw [← hc', List.pairwise_append] at this
     exact (List.pairwise_cons.1 this.2.1).1 j hjp
    have hll : ∀ p ∈ l', p.1 ∈ l'.map (·.1) ++ ps' := fun p hp => List.mem_append_left _ (List.mem_map.2 ⟨p, hp, rfl⟩)
    have hag := D'.looks C hdc' hic ho (fun j hj oj hoj d hd => ((hpe j hj).looks o oj ho' (by simpa using hoj) d hd).1) hdeps
    have hidn' : i ∉ dn' := fun hm => by
     have hnd := C.nd
     rw [← hc', List.nodup_append] at hnd
     exact hnd.2.2 i (by simpa using hm) i (by simp) rfl
    have hip' : i ∉ pend' := fun hm => hidn' (D'.sub i hm)
    have hn' : n + l'.length + ps'.length = pend'.length + post.length := by simp at hn; omega
    have mem' : ∀ k, (listed.setIfInBounds i true).getD k false = true ↔ ((k ∈ i :: dn' ∧ k ∉ pend') ∨ k ∈ l'.map (·.1) ++ ps') := fun k => by
     rw [getD_set hls]
     by_cases e : k = i
     ·subst e; simp [hip']
     ·rw [if_neg e, D'.mem k]; simp [e, -List.mem_append]
    have edn' : ∀ j ∈ l'.map (·.1) ++ ps', j ∉ i :: dn' := fun j hj hd => by
     rcases List.mem_cons.1 hd with rfl | hd
     ·exact hil hj
     ·exact D'.edn j hj hd
    have hpair' : ∀ j ∈ dn', PairOk ops.toList tbl ez j i := fun j hj => hrestpair hc' j hj i (by simp)
    have hc2 : (i :: dn').reverse ++ post = c := by rw [← hc']; simp
    have hlk' : ∀ j ∈ l'.map (·.1) ++ ps', ∀ oj, ops[j]? = some oj → ∀ t, o.dst = some t → t ∉ Gx.looks ops.toList oj := fun j hj oj hoj t e ht => by
     have ho2' : ops.toList[j]? = some oj := by simpa using hoj
     rcases (hpe j hj).bef o oj ho' ho2' with h | h | h
     ·have hl := (D'.mem j).2 (.inr hj)
      have := D'.bef (C.tbl j i h) fun o' ho'' => D'.closed j hl o' ho''
      rw [h1] at this
      cases this
     ·exact h.2 t e ht
     ·exact h.2 t e ht
    have hea : ∀ {v : Value} {w' : World} {β' : Nat → Loc} {H' : Heap}, Ext (en w β1 (FE F l') H1) (en w' β' (FE F l') H') → Ea P ops ez F (a.put o.dst v) w' e0.w.heap.size post l' := fun {v w' β' H'} hx2 =>
     E'.step hpost (fun p hp => by
      refine hx2.kept p.2 (hR'.ok.F p.2 (.inr ⟨p, hp, rfl⟩)) fun hown => ?_
      obtain ⟨r, oo, g1, g2⟩ := hown
      exact (hR'.ok.ltB r oo _ g1 g2).2 (.inr ⟨p, hp, rfl⟩))
      (fun p hp oj hoj t ht => (get_put fun e => hlk' p.1 (hll p hp) oj hoj t e ht).symm)
      fun p hp oj hoj u hu => put_keep (fun t ht => hdst p.1 (fun e => hil (by rw [← e]; exact hll p hp)) oj hoj t ht) hu
    have hup : ∀ {v : Value}, Pu P ops ez (a.put o.dst v) post ps' := fun {v} =>
     U'.step hpostp (fun p hp oj hoj t ht => (get_put fun e => hlk' p (List.mem_append_right _ hp) oj hoj t e ht).symm)
      fun p hp oj hoj u hu => put_keep (fun t ht => hdst p (fun e => hil (List.mem_append_right _ (by rw [← e]; exact hp))) oj hoj t ht) hu
    have hon : ∀ {v : Value}, OneOk ops ez (listed.setIfInBounds i true) (a.put o.dst v) := fun {v} => O1.step hls ho hdst fun h _ => absurd h hpa
    simp only [exDraw, ho'] at hx'
    obtain ⟨_, hx'⟩ := bif_none hx'
    cases hb : isRead o.op with
    | true =>
     obtain ⟨v, fr2, hv, q1, q2⟩ := readStep hb hx' hR'
     rw [hb] at q2
     refine StepVal.wpOp ho (hv.agree hsel hag) ?_
     refine ih (rest := post) (dn := i :: dn') (pend := pend') (ps := ps') (A := A'.put o.dst v) (β := β1) (fr := fr2) (H := H1) hn' hc2 ?_ (hea (Ext.refl _)) hup hon q2 q1 hE'
     exact {
      size := by simp [D.size]
      mem := mem'
      edn := edn'
      pnd := D'.pnd
      sub := fun j hj => List.mem_cons_of_mem _ (D'.sub j hj)
      read := D'.read
      agree := fun t ht => put_agree D'.asize fun _ => D'.agree t ht
      asize := by rw [size_put, size_put]; exact D'.asize
      adef := by rw [defers_put, defers_put]; exact D'.adef
      val := fun j hj oj hoj => val_put ((C.self j (hdc' j (D'.sub j hj))).sel oj (by simpa using hoj)) (fun t ht => (hpair' j (D'.sub j hj)).looks oj o (by simpa using hoj) ho' t ht) (D'.val j hj oj hoj)
      closed := closed' }
    | false =>
     obtain ⟨e1, e2⟩ := agree_exec hsel hag
     cases hgr : grows o.op with
     | true =>
      rw [hb, hgr] at hx'
      have finish : ∀ {v : Value} {w' : World} {β' : Nat → Loc} {H' : Heap} {fr2 : Fr}, Rel w' β' (FE F l') H' fr2 (A'.put o.dst v) → Ext (en w β1 (FE F l') H1) (en w' β' (FE F l') H') → Sup w w' →
        exDraw P T ops.toList tbl ez post (i :: dn') fr2 H' K = some x → wpAny P .any ops Q n (listed.setIfInBounds i true) (a.put o.dst v) w' := by
       intro v w' β' H' fr2 hR2 hE2 hsup hre
       refine ih (rest := post) (dn := i :: dn') (pend := pend') (ps := ps') (A := A'.put o.dst v) (β := β') (fr := fr2) (H := H') hn' hc2 ?_ (hea hE2) hup hon hre hR2 (hE'.trans hE2.reF)
       exact {
        size := by simp [D.size]
        mem := mem'
        edn := edn'
        pnd := D'.pnd
        sub := fun j hj => List.mem_cons_of_mem _ (D'.sub j hj)
        read := D'.read
        agree := fun t ht => put_agree D'.asize fun _ => D'.agree t ht
        asize := by rw [size_put, size_put]; exact D'.asize
        adef := by rw [defers_put, defers_put]; exact D'.adef
        val := fun j hj oj hoj => by
         obtain ⟨v', k1, k2⟩ := val_put (u := v) ((C.self j (hdc' j (D'.sub j hj))).sel oj (by simpa using hoj)) (fun t ht => (hpair' j (D'.sub j hj)).looks oj o (by simpa using hoj) ho' t ht) (D'.val j hj oj hoj)
         exact ⟨v', k1.sup hsup, k2⟩
        closed := closed' }
      unfold wpOp
      simp only [ho]
      rw [e2]
      rcases exStep_cases hx' hR' with ⟨hw, fr1, p1, p2⟩ | ⟨hw, fr1, p1, p2⟩
      ·rw [if_pos hw]
       refine .inl ?_
       unfold exOp at p2
       rw [hb] at p2
       have p3 : exAct P T fr1 H1 o.op (fun s H => fHr false H fun H => putF fr1 o.dst s fun fr => exDraw P T ops.toList tbl ez post (i :: dn') fr H K) = some x := p2
       obtain ⟨v, w', hrun, hsup, hv⟩ := exGrow_ok hgr p3 p1
       unfold Oper.wp
       rw [e1, hrun]
       obtain ⟨fr2, H', β', s1, s2, s3⟩ := res_put p1 hv
       exact finish s1 s2 hsup s3
      ·rw [if_neg (by rw [hw]; simp)]
       exact finish (p1.put p1.ok (Ext.refl _) o.dst undef_tup) (Ext.refl _) (Sup.refl w) p2
     | false =>
     rw [hb, hgr] at hx'
     have finish : ∀ {v : Value} {w' : World} {β' : Nat → Loc} {H' : Heap} {fr2 : Fr}, Rel w' β' (FE F l') H' fr2 (A'.put o.dst v) → Ext (en w β1 (FE F l') H1) (en w' β' (FE F l') H') →
       recheck P ops.toList (befOf tbl i) dn'.reverse fr2 H' (exDraw P T ops.toList tbl ez post (i :: dn') fr2 H' K) = some x → wpAny P .any ops Q n (listed.setIfInBounds i true) (a.put o.dst v) w' := by
      intro v w' β' H' fr2 hR2 hE2 hre
      have hpw := C.pair
      rw [← hc', List.pairwise_append] at hpw
      obtain ⟨A2, r1, r2, r3, r4, r5, r6⟩ := recheck_ok C (pend := pend') D'.read (fun j hj hm => by
        have hl := D'.bef (C.tbl i j hm) fun o' ho'' => by rw [ho] at ho''; cases ho''; exact hdeps
        rcases (D'.mem j).1 hl with h | h
        ·exact h.2 hj
        ·exact D'.edn j h (D'.sub j hj)) dn'.reverse [] hre hR2 (fun j hj => hdc' j (by simpa using hj)) hpw.1 (fun j hj => nomatch hj) (fun j hj => nomatch hj)
      refine ih (rest := post) (dn := i :: dn') (pend := pend') (ps := ps') (A := A2) (β := β') (fr := fr2) (H := H') hn' hc2 ?_ (hea hE2) hup hon r2 r1 (hE'.trans hE2.reF)
      exact {
       size := by simp [D.size]
       mem := mem'
       edn := edn'
       pnd := D'.pnd
       sub := fun j hj => List.mem_cons_of_mem _ (D'.sub j hj)
       read := D'.read
       agree := fun t ht => by
        rw [r4 t fun j hj => ht j (.inl hj)]
        exact put_agree D'.asize fun _ => D'.agree t ht
       asize := by rw [size_put, r5, size_put]; exact D'.asize
       adef := by rw [defers_put, r6, defers_put]; exact D'.adef
       val := fun j hj oj hoj => r3 j (by simpa using D'.sub j hj) (.inl hj) oj hoj
       closed := closed' }
     unfold wpOp
     simp only [ho]
     rw [e2]
     rcases exStep_cases hx' hR' with ⟨hw, fr1, p1, p2⟩ | ⟨hw, fr1, p1, p2⟩
     ·rw [if_pos hw]
      have hok := exOp_ok hT p2 p1
      refine .inl ?_
      unfold Oper.wp
      rw [e1]
      generalize (execOp A'.eval o).run P w = r at hok
      cases hok with
      | value v w' hv =>
       obtain ⟨fr2, H', β', s1, s2, s3⟩ := res_put p1 hv
       exact finish s1 s2 s3
      | skip w' hv =>
       obtain ⟨fr2, H', β', s1, s2, s3⟩ := res_put p1 hv
       exact finish s1 s2 s3
      | enter f args w' hcall =>
       refine Calls.mono hcall fun e w'' he => ?_
       obtain ⟨v, rfl, hv⟩ := he
       obtain ⟨fr2, H', β', s1, s2, s3⟩ := res_put p1 hv
       exact finish s1 s2 s3
     ·rw [if_neg (by rw [hw]; simp)]
      exact finish (p1.put p1.ok (Ext.refl _) o.dst undef_tup) (Ext.refl _) p2
theorem ext0_FE {w : World} {β : Nat → Loc} {F : Nat → Prop} {H : Heap} : Ext0 (en w β F H) (en w β (FE F []) H) :=
 ⟨Nat.le_refl _, fun _ _ => rfl, fun _ _ _ _ => rfl, ⟨fun b hb hav => ⟨rfl, fun h => hav (h.imp_right fun h => h.resolve_right (by simp))⟩, fun _ _ _ _ h => h⟩, fun _ _ _ h => h, fun b c t f h => ⟨c, f, h, rfl⟩, fun _ _ => Nat.le_refl _⟩
theorem ok_FE {w : World} {β : Nat → Loc} {F : Nat → Prop} {H : Heap} (ok : HeapOk w β F H) : HeapOk w β (FE F []) H :=
 ⟨fun r o h => RepObj.mono0 ext0_FE (lt_len h) (Nat.le_of_eq (pnOf_of h).symm) (ok.obj r o h) fun _ _ => rfl, fun r o b h hw => ⟨(ok.ltB r o b h hw).1, fun h2 => (ok.ltB r o b h hw).2 (h2.resolve_right (by simp))⟩, ok.injB, fun b hb => ok.F b (hb.resolve_right (by simp)), ok.uni⟩
theorem exDraw_any (hT : TabOK P T) (hcf : ez = [] ∨ (cfgOf T).isEmpty = true) (hez : ∀ k ∈ ez, ∃ o, ops.toList[k]? = some o ∧ (earlyAble ops.toList o = true ∨ pureAble ops.toList o = true)) {c : List Nat} (hb : befTbl ez ops.toList c [] [] = some tbl) {Q : Exit → Act → World → Prop} {e0 : En} {K : Fr → Heap → Option R}
  (hQ : ∀ a' w', After e0 F x K a' w' → Q .normal a' w') (hx : exDraw P T ops.toList tbl ez c [] fr H K = some x) (hR : Rel w β F H fr a) (hE : Ext e0 (en w β F H)) : wpAny P .any ops Q ops.size (Array.replicate ops.size false) a w := by
 obtain ⟨O, hTb, _⟩ := befTbl_spec c [] [] tbl hb List.nodup_nil TblOk.nil (fun p hp => nomatch hp)
 have hnd : c.Nodup := by simpa using O.nd
 have hlen : c.length = ops.size := by simpa using O.len
 have hlt : ∀ i ∈ c, i < ops.size := fun i hi => by
  obtain ⟨o, ho⟩ := (O.self i hi).ex
  have := (List.getElem?_eq_some_iff.1 ho).1
  simpa using this
 have hall : ∀ i, i < ops.size → i ∈ c := by
  intro i hi
  refine Classical.byContradiction fun hn => ?_
  have h1 : (i :: c).Nodup := List.nodup_cons.2 ⟨hn, hnd⟩
  have h2 : (i :: c) ⊆ List.range ops.size := fun k hk => by
   rw [List.mem_range]
   rcases List.mem_cons.1 hk with rfl | hk
   ·exact hi
   ·exact hlt k hk
  have h3 := h1.length_le_of_subset h2
  simp at h3
  omega
 have hpair : c.Pairwise (PairOk ops.toList tbl ez) := by
  rw [List.pairwise_iff_getElem]
  intro i j hi hj hij
  have e : c = c.take j ++ c[j] :: c.drop (j + 1) := by
   rw [← List.drop_eq_getElem_cons hj, List.take_append_drop]
  refine O.pair _ _ _ e c[i] (.inr ?_)
  rw [List.mem_take_iff_getElem]
  exact ⟨i, by omega, rfl⟩
 have C : Cst ops tbl ez c := ⟨hnd, hall, hlt, O.self, hpair, fun l i r e o ho j hj => (O.dep l i r e o (by simpa using ho) j hj).resolve_left (fun h => nomatch h), hTb⟩
 have hn : ops.size = ([] : List Nat).length + c.length := by simp [hlen]
 rw [hn]
 refine draw_any hT hcf hez C hQ _ (l := []) (pend := []) (dn := []) (ps := []) rfl (by simp) (A := a) (β := β) (fr := fr) (H := H) ?_ { n1 := List.nodup_nil, n2 := List.nodup_nil, mem := fun p hp => (nomatch hp), at_ := fun p hp => (nomatch hp), notF := fun p hp => (nomatch hp) } Pu.nil (fun j _ oj _ _ hl => by
   exfalso
   by_cases h : j < c.length <;> simp [h] at hl) hx
  (hR.keep0 (ok_FE hR.ok) ext0_FE) hE
 exact {
  size := by simp [hlen]
  mem := fun i => by
   by_cases h : i < c.length <;> simp [h]
  edn := fun j hj => nomatch hj
  pnd := List.nodup_nil
  sub := fun j hj => nomatch hj
  read := fun j hj => nomatch hj
  agree := fun _ _ => rfl
  asize := rfl
  adef := rfl
  val := fun j hj => nomatch hj
  closed := fun i hi => by
   exfalso
   by_cases h : i < c.length <;> simp [h] at hi }
theorem exDraw_wp (hT : TabOK P T) (hm : P.follows .mixedOrders = true) (hcf : ez = [] ∨ (cfgOf T).isEmpty = true) (hez : ∀ k ∈ ez, ∃ o, ops.toList[k]? = some o ∧ (earlyAble ops.toList o = true ∨ pureAble ops.toList o = true)) {id : Nat} {c : List Nat} (hb : befTbl ez ops.toList c [] [] = some tbl) {Q : Exit → Act → World → Prop} {e0 : En} {K : Fr → Heap → Option R}
  (hQ : ∀ a' w', After e0 F x K a' w' → Q .normal a' w') (hx : exDraw P T ops.toList tbl ez c [] fr H K = some x) (hR : Rel w β F H fr a) (hE : Ext e0 (en w β F H)) : (Code.region id ops true).wp P Q a w :=
 wp_region_any hm (exDraw_any hT hcf hez hb hQ hx (hR.keep (ok_drew hR.ok) ext_drew) (hE.trans ext_drew))
end
end Go.Gx

namespace Go.Gx
section
variable {R : Type} {P : Program} {T : Table} {w : World} {β : Nat → Loc} {F : Nat → Prop} {H : Heap} {fr : Fr} {a A : Act} {x : R} {ops : Array Oper}
theorem exDrawn_any (hT : TabOK P T) {l : List Oper} {Q : Exit → Act → World → Prop} {e0 : En} {K : Fr → Heap → Option R}
  (hQ : ∀ a' w', After e0 F x K a' w' → Q .normal a' w') (hx : exDrawn P T l fr H K = some x) (hR : Rel w β F H fr a) (hE : Ext e0 (en w β F H)) :
  wpAny P .any l.toArray Q l.length (Array.replicate l.length false) a w := by
 have e : l.toArray.toList = l := by simp
 have es : l.toArray.size = l.length := by simp
 unfold exDrawn at hx
 split at hx
 ·rename_i tbl hb
  have := exDraw_any (ops := l.toArray) (ez := []) hT (.inl rfl) (fun k hk => absurd hk (by simp)) (c := eager l l.length []) (tbl := tbl) (by rw [e]; exact hb) hQ (by rw [e]; exact hx) hR hE
  rw [es] at this
  exact this
 ·obtain ⟨hcf, hx⟩ := bif_none hx
  split at hx
  ·rename_i tbl hb
   have := exDraw_any (ops := l.toArray) (ez := earlies l) hT (.inr hcf) (fun k hk => by rw [e]; exact earlies_spec hk) (c := lazy l (earlies l) l.length []) (tbl := tbl) (by rw [e]; exact hb) hQ (by rw [e]; exact hx) hR hE
   rw [es] at this
   exact this
  ·cases hx
structure FirstOk (ops : Array Oper) (j : Nat) : Prop where
 ex : ∃ o t, ops[j]? = some o ∧ o.op = .move (.tmp t) ∧ o.guard = none ∧ edges o = [] ∧
  ∀ i k, i ≠ j → ops[i]? = some k → j ∉ edges k → o.apart ops k = true
theorem firsts_spec {j : Nat} (h : j ∈ firsts ops.toList) : FirstOk ops j := by
 unfold firsts at h
 obtain ⟨h1, h2⟩ := List.mem_filter.1 h
 cases ho : ops.toList[j]? with
 | none => rw [ho] at h2; cases h2
 | some o =>
  rw [ho] at h2
  have ho' : ops[j]? = some o := by rw [← Array.getElem?_toList]; exact ho
  simp only [Bool.and_eq_true] at h2
  obtain ⟨h3, h4⟩ := h2
  unfold firstAt at h3
  split at h3
  ·rename_i t d q1 q2 q3
   rw [Bool.and_eq_true] at h3
   refine ⟨o, t, ho', q1, q2, by simpa using h3.1, fun i k hne hk hj => ?_⟩
   have hi : i < ops.toList.length := by
    have := (Array.getElem?_eq_some_iff.1 hk).1
    simpa using this
   have := List.all_eq_true.1 h4 i (List.mem_range.2 hi)
   rw [Bool.or_eq_true] at this
   rcases this with h | h
   ·exact absurd (Nat.eq_of_beq_eq_true h) hne
   ·have hk' : ops.toList[i]? = some k := by rw [Array.getElem?_toList]; exact hk
    rw [hk'] at h
    have h : ((edges k).contains j || apartB ops.toList o k) = true := h
    rw [Bool.or_eq_true] at h
    rcases h with h | h
    ·exact absurd (by simpa using h) hj
    ·unfold apartB at h
     simp only [Bool.and_eq_true, Bool.not_eq_true'] at h
     obtain ⟨⟨a1, a2⟩, a3⟩ := h
     have b1 := dstIn_spec a1
     have b2 := dstIn_spec a2
     have b3 := dstIn_spec a3
     unfold Oper.apart
     rw [looksAt_eq, looksAt_eq, Bool.and_eq_true]
     constructor
     ·cases hd : o.dst with
      | none => rfl
      | some d =>
       have c1 := b1 d hd
       have c2 := b2 d hd
       simp only [Bool.and_eq_true, Bool.not_eq_true', bne_iff_ne, ne_eq]
       refine ⟨by simpa using c1, fun e => c2 ?_⟩
       rw [e]
       simp
     ·cases hd : k.dst with
      | none => rfl
      | some d =>
       have c3 := b3 d hd
       simpa using c3
  ·cases h3
def lst (L : Array Bool) (js : List Nat) : Array Bool := js.foldl (fun L j => L.setIfInBounds j true) L
theorem lst_size : ∀ {js : List Nat} {L : Array Bool}, (lst L js).size = L.size
 | [], _ => rfl
 | j :: js, L => by
  show (lst (L.setIfInBounds j true) js).size = L.size
  rw [lst_size]
  simp
theorem lst_mem : ∀ {js : List Nat} {L : Array Bool} {i : Nat}, i < L.size → (i ∈ js ∨ L.getD i true = true) → (lst L js).getD i true = true
 | [], L, i, _, h => h.resolve_left (by simp)
 | j :: js, L, i, hi, h => by
  show (lst (L.setIfInBounds j true) js).getD i true = true
  refine lst_mem (by simpa using hi) ?_
  rcases h with h | h
  ·rcases List.mem_cons.1 h with rfl | h
   ·right
    simp [hi]
   ·exact .inl h
  ·right
   by_cases e : j = i
   ·subst e
    simp [hi]
   ·simp [hi] at h ⊢
    rw [Array.getElem_setIfInBounds_ne hi e]
    exact h
theorem heads_any (hsel : ∀ (j : Nat) (o : Oper) cs b, ops[j]? = some o → o.op ≠ .select cs b) {Q : Exit → Act → World → Prop} (hQ : ∀ c a w, ¬ Q (.panic c) a w) {K : Fr → Heap → Option R} {fuel : Nat} :
  ∀ (js : List Nat) {L : Array Bool} {fr : Fr} {a : Act}, js.Nodup → L.size = ops.size → (∀ j ∈ js, FirstOk ops j ∧ L.getD j true = false) → exHead P T ops.toList js fr H K = some x → Rel w β F H fr a →
   (∀ fr' a', Rel w β F H fr' a' → K fr' H = some x → wpAny P .any ops Q fuel (lst L js) a' w) → wpAny P .any ops Q (fuel + js.length) L a w
 | [], L, fr, a, _, _, _, hx, hR, hk => hk fr a hR hx
 | j :: js, L, fr, a, hnd, hsz, hok, hx, hR, hk => by
  obtain ⟨⟨o, t, ho, hop, hg, hed, hfree⟩, hun⟩ := hok j (by simp)
  obtain ⟨hn1, hn2⟩ := List.nodup_cons.1 hnd
  unfold exHead at hx
  have ho' : ops.toList[j]? = some o := by rw [Array.getElem?_toList]; exact ho
  rw [ho'] at hx
  obtain ⟨v, fr', hv, hR', hx'⟩ := readStep (by rw [hop]; rfl) hx hR
  have hw : Region.wanted o (yielded ops a.tmps) = true := by simp [Region.wanted, hg]
  have hrun : ∀ w, (execOp a.eval o).run P w = .ok (.value (a.eval (.tmp t))) w := fun w => by
   unfold execOp
   rw [hop]
   rfl
  have hveq : v = a.eval (.tmp t) := by
   unfold StepVal at hv
   rw [if_pos hw] at hv
   have := hv w (Sup.refl w)
   rw [hrun w] at this
   cases this
   rfl
  have hj : j < L.size := by rw [hsz]; exact (Array.getElem?_eq_some_iff.1 ho).1
  have hy : Yields P ops o v a := .inl ⟨hw, fun w => by rw [hveq]; exact hrun w⟩
  show wpAny P .any ops Q (fuel + js.length + 1) L a w
  refine wpAny_first ho hsel (fun c a w h => absurd h (hQ c _ w)) _ L a w (fun i k hk hne _ hno => hfree i k hne hk (fun hm => ?_)) ?_ hy ?_
  ·obtain ⟨e, he, h2⟩ := List.mem_map.1 hm
   obtain ⟨h3, h4⟩ := List.mem_filter.1 he
   exact hno e (by simpa using h3) h4 h2
  ·rw [mem_ready]
   exact ⟨hun, o, ho, edges_spec.1 (by rw [hed]; exact fun _ h => nomatch h)⟩
  ·refine heads_any hsel hQ js hn2 (by simpa using hsz) (fun i hi => ?_) hx' hR' hk
   obtain ⟨h1, h2⟩ := hok i (List.mem_cons_of_mem _ hi)
   have hil : i < L.size := by
    obtain ⟨o, t, ho, _⟩ := h1.ex
    rw [hsz]; exact (Array.getElem?_eq_some_iff.1 ho).1
   refine ⟨h1, ?_⟩
   have hne : j ≠ i := fun e => hn1 (e ▸ hi)
   simp [hil] at h2 ⊢
   rw [Array.getElem_setIfInBounds_ne hil hne]
   exact h2
theorem blank_get (J : List Nat) : ∀ {l : List Oper} {n i : Nat}, (blank J n l)[i]? = (l[i]?).map (fun o => bif J.contains (n + i) then blank1 o else o)
 | [], n, i => by simp [blank]
 | o :: r, n, 0 => by simp [blank]
 | o :: r, n, i + 1 => by
  show (blank J (n + 1) r)[i]? = _
  rw [blank_get J]
  simp [Nat.add_assoc, Nat.add_comm 1 i]
theorem blank_len (J : List Nat) : ∀ {l : List Oper} {n : Nat}, (blank J n l).length = l.length
 | [], n => rfl
 | o :: r, n => by simp [blank, blank_len J]
theorem blanks_any {J : List Nat} (hJ : ∀ j ∈ J, FirstOk ops j) {Q : Exit → Act → World → Prop} (hout : ¬ LetsOut Q) {fuel : Nat} : ∀ (js : List Nat) {L : Array Bool}, js.Nodup → L.size = ops.size → (∀ j ∈ js, j ∈ J ∧ L.getD j true = false) →
  wpAny P .any (blank J 0 ops.toList).toArray Q (fuel + js.length) L a w → wpAny P .any (blank J 0 ops.toList).toArray Q fuel (lst L js) a w
 | [], L, _, _, _, h => h
 | j :: js, L, hnd, hsz, hok, h => by
  obtain ⟨hjJ, hun⟩ := hok j (by simp)
  obtain ⟨o, t, ho, hop, hg, hed, _⟩ := (hJ j hjJ).ex
  obtain ⟨hn1, hn2⟩ := List.nodup_cons.1 hnd
  have hj : j < L.size := by rw [hsz]; exact (Array.getElem?_eq_some_iff.1 ho).1
  have hb : (blank J 0 ops.toList).toArray[j]? = some (blank1 o) := by
   rw [List.getElem?_toArray, blank_get, Array.getElem?_toList, ho, Nat.zero_add, Option.map_some]
   have : J.contains j = true := by simpa using hjJ
   rw [this]
   rfl
  have h : wpAny P .any (blank J 0 ops.toList).toArray Q (fuel + js.length + 1) L a w := h
  have hr : j ∈ Region.ready .any (blank J 0 ops.toList).toArray L := by
   rw [mem_ready]
   refine ⟨hun, blank1 o, hb, edges_spec.1 ?_⟩
   have : edges (blank1 o) = edges o := rfl
   rw [this, hed]
   exact fun _ h => nomatch h
  have h2 := h.2 j hr
  unfold wpOp at h2
  rw [hb] at h2
  have hw : Region.wanted (blank1 o) (yielded (blank J 0 ops.toList).toArray a.tmps) = true := by
   have : (blank1 o).guard = none := hg
   simp [Region.wanted, this]
  simp only [hw, if_true] at h2
  rcases h2 with h2 | ⟨_, h2⟩
  ·refine blanks_any hJ hout js hn2 (by simpa using hsz) (fun i hi => ?_) h2
   obtain ⟨q1, q2⟩ := hok i (List.mem_cons_of_mem _ hi)
   have hil : i < L.size := by
    obtain ⟨o, t, ho, _⟩ := (hJ i q1).ex
    rw [hsz]; exact (Array.getElem?_eq_some_iff.1 ho).1
   refine ⟨q1, ?_⟩
   have hne : j ≠ i := fun e => hn1 (e ▸ hi)
   simp [hil] at q2 ⊢
   rw [Array.getElem_setIfInBounds_ne hil hne]
   exact q2
  ·exact absurd h2 hout
theorem unblank_any {J : List Nat} (hg : ∀ (i : Nat) (o : Oper), ops[i]? = some o → ∀ (g : Nat) (b : Bool), o.guard = some (g, b) → g ∉ J) {Q : Exit → Act → World → Prop} : ∀ (n : Nat) {L : Array Bool} {a : Act} {w : World}, L.size = ops.size → (∀ j ∈ J, j < ops.size → L.getD j true = true) →
  wpAny P .any (blank J 0 ops.toList).toArray Q n L a w → wpAny P .any ops Q n L a w := by
 have hsame : ∀ i, i ∉ J → (blank J 0 ops.toList).toArray[i]? = ops[i]? := fun i hi => by
  rw [List.getElem?_toArray, blank_get, Array.getElem?_toList, Nat.zero_add]
  have : J.contains i = false := by simpa using hi
  rw [this]
  simp
 have hsz : (blank J 0 ops.toList).toArray.size = ops.size := by simp [blank_len]
 have hready : ∀ {L : Array Bool}, L.size = ops.size → (∀ j ∈ J, j < ops.size → L.getD j true = true) → Region.ready .any (blank J 0 ops.toList).toArray L = Region.ready .any ops L := fun {L} hL hJ => by
  unfold Region.ready
  rw [hsz]
  refine List.filter_congr fun i hi => ?_
  have hi := List.mem_range.1 hi
  by_cases hj : i ∈ J
  ·rw [hJ i hj hi]
   rfl
  ·rw [hsame i hj]
 have hop : ∀ {i : Nat} {K K' : Act → World → Prop} {a : Act} {w : World}, i ∉ J → (∀ a w, K a w → K' a w) → wpOp P (blank J 0 ops.toList).toArray Q i K a w → wpOp P ops Q i K' a w := fun {i K K' a w} hi hk h => by
  refine wpOp_mono hk ?_
  unfold wpOp at h ⊢
  rw [hsame i hi] at h
  cases ho : ops[i]? with
  | none => rw [ho] at h; exact h
  | some o =>
   rw [ho] at h
   have : Region.wanted o (yielded (blank J 0 ops.toList).toArray a.tmps) = Region.wanted o (yielded ops a.tmps) := by
    unfold Region.wanted
    cases hgd : o.guard with
    | none => rfl
    | some p =>
     have := hg i o ho p.1 p.2 hgd
     show (yielded _ a.tmps p.1 == some p.2) = (yielded _ a.tmps p.1 == some p.2)
     unfold yielded
     rw [hsame _ this]
   simp only [this] at h
   exact h
 intro n
 induction n with
 | zero =>
  intro L a w hL hJ h
  exact ⟨by rw [← hready hL hJ]; exact h.1, h.2⟩
 | succ n ih =>
  intro L a w hL hJ h
  refine ⟨fun hr => h.1 (by rw [hready hL hJ]; exact hr), fun i hi => ?_⟩
  have hi' := hi
  rw [← hready hL hJ] at hi'
  have hun := (mem_ready.1 hi).1
  have hil : i < ops.size := by
   obtain ⟨_, o, ho, _⟩ := mem_ready.1 hi
   exact (Array.getElem?_eq_some_iff.1 ho).1
  have hiJ : i ∉ J := fun hj => by
   rw [hJ i hj hil] at hun
   cases hun
  refine hop hiJ (fun a w hk => ih (by simpa using hL) (fun j hj hjl => ?_) hk) (h.2 i hi')
  have := hJ j hj hjl
  have hjL : j < L.size := by rw [hL]; exact hjl
  by_cases e : i = j
  ·subst e
   simp [hjL]
  ·simp [hjL] at this ⊢
   rw [Array.getElem_setIfInBounds_ne hjL e]
   exact this
theorem exFirst_wp (hT : TabOK P T) (hm : P.follows .mixedOrders = true) {id : Nat} {e0 : En} {K : Exit → Fr → Heap → Option R} (hx : exFirst P T ops.toList fr H (K .normal) = some x) (hR : Rel w β F H fr a) (hE : Ext e0 (en w β F H)) :
  (Code.region id ops true).wp P (fun e a' w' => After e0 F x (K e) a' w') a w := by
 unfold exFirst at hx
 rw [fNats_eq] at hx
 obtain ⟨hall, hx⟩ := bif_none hx
 have hall := List.all_eq_true.1 hall
 have hJ : ∀ j ∈ firsts ops.toList, FirstOk ops j := fun j hj => firsts_spec hj
 have hmem : ∀ (i : Nat) (o : Oper), ops[i]? = some o → notSel o.op = true ∧ ∀ (g : Nat) (b : Bool), o.guard = some (g, b) → g ∉ firsts ops.toList := fun i o ho => by
  have := hall o (by
   have : o ∈ ops := Array.mem_of_getElem? ho
   simpa using this)
  rw [Bool.and_eq_true] at this
  refine ⟨this.1, fun g b hgd => ?_⟩
  have h2 := this.2
  rw [hgd] at h2
  simpa using h2
 have hnd : (firsts ops.toList).Nodup := List.Pairwise.filter _ List.nodup_range
 have hlt : ∀ j ∈ firsts ops.toList, j < ops.size := fun j hj => by
  obtain ⟨o, t, ho, _⟩ := (hJ j hj).ex
  exact (Array.getElem?_eq_some_iff.1 ho).1
 have hlen : (firsts ops.toList).length ≤ ops.size := by
  have := hnd.length_le_of_subset (l₂ := List.range ops.size) (fun j hj => List.mem_range.2 (hlt j hj))
  rwa [List.length_range] at this
 refine wp_mono (Q := fun e a' w' => e = .normal ∧ After e0 F x (K .normal) a' w') ?_ (fun e a' w' h => by obtain ⟨rfl, h⟩ := h; exact h)
 refine wp_region_any hm ?_
 have hfu : ops.size = (ops.size - (firsts ops.toList).length) + (firsts ops.toList).length := by omega
 have hrep : ∀ j, j < ops.size → (Array.replicate ops.size false).getD j true = false := fun j hj => by simp [hj]
 rw [hfu]
 have key := heads_any (P := P) (T := T) (H := H) (x := x) (F := F) (β := β) (w := { w with drawn := w.drawn + 1 }) (ops := ops) (fun j o cs b ho => notSel_spec (hmem j o ho).1 cs b) (Q := fun e a' w' => e = .normal ∧ After e0 F x (K .normal) a' w') (fun c a w h => by cases h.1)
  (fuel := ops.size - (firsts ops.toList).length) (firsts ops.toList) (L := Array.replicate ops.size false) (fr := fr) (a := a) hnd (by simp) (fun j hj => ⟨hJ j hj, hrep j (hlt j hj)⟩) hx (hR.keep (ok_drew hR.ok) ext_drew) (fun fr' a' hR' hx' => ?_)
 ·rw [← hfu] at key ⊢
  exact key
 ·have hx' : exDrawn P T (blank (firsts ops.toList) 0 ops.toList) fr' H (K .normal) = some x := by
   revert hx'
   cases (firsts ops.toList).isEmpty
   ·exact fun h => h
   ·exact fun h => nomatch h
  have hd := exDrawn_any hT (l := blank (firsts ops.toList) 0 ops.toList) (Q := fun e a' w' => e = .normal ∧ After e0 F x (K .normal) a' w') (e0 := e0) (K := K .normal) (fun a' w' h => ⟨rfl, h⟩) hx' hR' (hE.trans ext_drew)
  rw [blank_len, Array.length_toList, hfu] at hd
  refine unblank_any (fun i o ho => (hmem i o ho).2) _ (by rw [lst_size]; simp) (fun j hj hjl => lst_mem (by simpa using hjl) (.inl hj)) ?_
  refine blanks_any hJ (by rintro ⟨_, _, h, _⟩; cases h) (firsts ops.toList) hnd (by simp) (fun j hj => ⟨hj, hrep j (hlt j hj)⟩) ?_
  rw [← hfu] at hd ⊢
  exact hd
end
end Go.Gx

namespace Go.Gx
section
variable {R : Type} {P : Program} {T : Table} {w : World} {β : Nat → Loc} {F : Nat → Prop} {H : Heap} {fr : Fr} {a : Act} {x : R}
theorem pinRefs_mem {H : Heap} : ∀ {rs : List Nat} {r q : Nat}, r ∈ rs → q ∈ objRefs H (H.getD r .dead) → q ∈ pinRefs H rs
 | p :: rs, r, q, hr, hq => by
  simp only [pinRefs, List.mem_append]
  rcases List.mem_cons.1 hr with rfl | hr
  ·exact .inl hq
  ·exact .inr (pinRefs_mem hr hq)
theorem pinRefs_lt (ok : HeapOk w β F H) : ∀ {rs : List Nat}, ∀ q ∈ pinRefs H rs, q < H.length
 | p :: rs, q, hq => by
  simp only [pinRefs, List.mem_append] at hq
  rcases hq with hq | hq
  ·exact getD_refs_lt ok p q hq
  ·exact pinRefs_lt ok q hq
theorem pin_part (ok : HeapOk w β F H) {e0 : En} (hE : Ext e0 (en w β F H)) {todo rs : List Nat} (h : reach H fuelR (pinRefs H (List.range e0.n) ++ todo) (List.range e0.n) = some rs) (ht : ∀ q ∈ todo, q < H.length) :
  HeapOk w (partβ β rs) F (part H rs) ∧ Ext e0 (en w (partβ β rs) F (part H rs)) ∧ Ren (idx rs) (· ∈ rs) (InPool H rs) (en w β F H) (en w (partβ β rs) F (part H rs)) ∧ (∀ q ∈ todo, q ∈ rs) := by
 have hn : e0.n ≤ H.length := hE.n
 obtain ⟨⟨t, h1⟩, h2, h3, h4, h5⟩ := reach_spec ok _ _ _ _ h (fun r hr q hq => .inr (List.mem_append_left _ (pinRefs_mem hr hq))) List.nodup_range
  (fun r hr => by have := List.mem_range.1 hr; omega) (fun q hq => by
   rcases List.mem_append.1 hq with hq | hq
   ·exact pinRefs_lt ok q hq
   ·exact ht q hq)
 have hF : ∀ b, F b → F b ∨ ∃ r o, r ∉ rs ∧ H[r]? = some o ∧ has (β r) o b := fun b hb => .inl hb
 have ok' := part_ok ok h5 h4 h3 hF
 have ren := part_ren (w := w) (β := β) (F := F) h5 hF
 have hget : ∀ r, r < e0.n → rs[r]? = some r := fun r hr => by
  rw [h1, List.getElem?_append_left (by simpa using hr)]
  simp [hr]
 have hβr : ∀ r, r < e0.n → partβ β rs r = β r := fun r hr => by simp [partβ, List.getD, hget r hr]
 refine ⟨ok', ?_, ren, fun q hq => h2 q (List.mem_append_right _ hq)⟩
 exact {
  n := by
   show e0.n ≤ (part H rs).length
   simp [part, h1]
  β := fun r hr => by
   show (partβ β rs r).c = _
   rw [hβr r hr]
   exact hE.β r hr
  el := fun r i hr hi => by
   show (partβ β rs r).e i = _
   rw [hβr r hr]
   exact hE.el r i hr hi
  pq := fun r t i b m hr hp => by
   obtain ⟨k, s, l, x, g1, g2, g3, g4⟩ := hE.pq r t i b m hr hp
   refine ⟨k, s, l, x, ?_, g2, by rw [hβr r hr]; exact g3, g4⟩
   simp only [part, List.getElem?_map, hget r hr, Option.map_some]
   have : H.getD r .dead = .pool k t s l := by simp [List.getD, g1]
   rw [this]; rfl
  pn := fun r hr => by
   have hm := List.mem_of_getElem? (hget r hr)
   have h1 := hE.pn r hr
   refine Nat.le_trans h1 ?_
   show pnOf H r ≤ pnOf (part H rs) r
   have hH := getD_get (h5 r hm)
   rw [pnOf_of hH, pnOf_of (o := mapObj (idx rs) (H.getD r .dead)) (by simp only [part, List.getElem?_map, hget r hr, Option.map_some])]
   cases H.getD r .dead <;> exact Nat.le_refl _
  size := hE.size
  kept := hE.kept
  sub := fun b hb ho => by
   obtain ⟨r, _, o, k1, k2⟩ := part_own h5 ho
   exact hE.sub b hb ⟨r, o, k1, k2⟩
  F := hE.F
  sz := fun r m hr hv => hE.sz r m hr (by
   have hm := List.mem_of_getElem? (hget r hr)
   have : idx rs r = r := get_unique h4 (idx_lt hm).2 (hget r hr)
   have := ren.sz r m hm
   rw [‹idx rs r = r›] at this
   exact this hv)
  grow := hE.grow
  out := hE.out
  froz := hE.froz }
theorem unkeep_get : ∀ (ts : List Nat) (xs : List Slot) (fr : Fr) (t : Nat), (unkeep ts xs fr).getD t .undef = fr.getD t .undef ∨ ∃ i : Nat, (ts[i]? = some t ∧ xs[i]? = some ((unkeep ts xs fr).getD t .undef)) ∨ (unkeep ts xs fr).getD t .undef = .undef
 | [], _, fr, t => .inl rfl
 | _ :: _, [], fr, t => .inl rfl
 | q :: ts, y :: xs, fr, t => by
  simp only [unkeep]
  rcases unkeep_get ts xs (fr.set q y) t with h | ⟨i, h | h⟩
  ·by_cases e : t = q
   ·subst e
    by_cases hq : t < fr.length
    ·refine .inr ⟨0, .inl ⟨rfl, ?_⟩⟩
     rw [h]
     simp [List.getD, List.getElem?_set_self hq]
    ·refine .inr ⟨0, .inr ?_⟩
     rw [h, List.getD_eq_getElem?_getD, List.getElem?_eq_none (by simp; omega)]
     rfl
   ·left
    rw [h]
    simp [List.getD, List.getElem?_set_ne (Ne.symm e)]
  ·exact .inr ⟨i + 1, .inl ⟨by simpa using h.1, by simpa using h.2⟩⟩
  ·exact .inr ⟨i, .inr h⟩
theorem unkeepK_eq {R : Type} : ∀ (ts : List Nat) (xs : List Slot) (fr : Fr) (K : Fr → Option R), unkeepK ts xs fr K = K (unkeep ts xs fr)
 | [], xs, fr, K => by cases xs <;> rfl
 | t :: ts, [], fr, K => rfl
 | t :: ts, x :: xs, fr, K => by simp only [unkeepK, unkeep, setF_eq]; exact unkeepK_eq ts xs _ K
theorem ofViewK_eq {R : Type} (C : Ctx) (keep : List Nat) (sl : List Slot) (K : Fr → Option R) : ofViewK C keep sl K = K (ofView C keep sl) := unkeepK_eq keep sl _ K
theorem unkeep_len : ∀ (ts : List Nat) (xs : List Slot) (fr : Fr), (unkeep ts xs fr).length = fr.length
 | [], _, _ => rfl
 | _ :: _, [], _ => rfl
 | q :: ts, y :: xs, fr => by simp only [unkeep]; rw [unkeep_len ts xs]; simp
theorem slotsRefs_mem : ∀ {l : List Slot} {s : Slot} {r : Nat}, s ∈ l → r ∈ slotRefs s → r ∈ slotsRefs l
 | y :: l, s, r, hs, hr => by
  simp only [slotsRefs, List.mem_append]
  rcases List.mem_cons.1 hs with rfl | hs
  ·exact .inl hr
  ·exact .inr (slotsRefs_mem hs hr)
theorem slotsTags_mem : ∀ {l : List Slot} {s : Slot} {t : Nat}, s ∈ l → t ∈ slotTags s → t ∈ slotsTags l
 | y :: l, s, t, hs, hr => by
  simp only [slotsTags, List.mem_append]
  rcases List.mem_cons.1 hs with rfl | hs
  ·exact .inl hr
  ·exact .inr (slotsTags_mem hs hr)
theorem slotsRefs_lt {n : Nat} : ∀ {l : List Slot}, (∀ s ∈ l, ∀ r ∈ slotRefs s, r < n) → ∀ r ∈ slotsRefs l, r < n
 | y :: l, h, r, hr => by
  simp only [slotsRefs, List.mem_append] at hr
  rcases hr with hr | hr
  ·exact h y (by simp) r hr
  ·exact slotsRefs_lt (fun s hs => h s (List.mem_cons_of_mem _ hs)) r hr
theorem tidy_ok {n : Nat} {pl : Plan} {sl : List Slot} {vs : Nat → Value} {K : List Slot → Heap → Option R} {e0 : En} (h : tidy n pl sl H K = some x) (ok : HeapOk w β F H) (hE : Ext e0 (en w β F H))
  (hs : ∀ j s, sl[j]? = some s → RepSlot (en w β F H) s (vs j)) :
  ∃ sl' H' β', HeapOk w β' F H' ∧ Ext e0 (en w β' F H') ∧ sl'.length = sl.length ∧ (∀ j s, sl'[j]? = some s → RepSlot (en w β' F H') s (vs j)) ∧ K sl' H' = some x := by
 unfold tidy at h
 split at h
 ·rename_i rs hrs
  rw [fNats_eq, fNats_eq] at h
  obtain ⟨sl', H1, β1, k1, ok1, hx1, hl1, hs1⟩ := rebSlots_ok ok h hs
  obtain ⟨H2, β2, k2, ok2, hx2⟩ := rebObjs_ok ok1 k1
  rw [fFr_eq, fH_eq] at k2
  exact ⟨sl', H2, β2, ok2, hE.trans (hx1.trans hx2), hl1, fun j s hj => RepSlot.mono hx2 _ _ (hs1 j s hj), k2⟩
 ·cases h
theorem normO_same {o : Obj} (h : ∀ s n l, o = .cells [.row s n l] → l.length = n) : normO o = o := by
 unfold normO
 split
 ·rename_i s n l
  rw [h s n l rfl]
 ·rfl
theorem normH_same {ws : List Nat} : ∀ {G : Heap} (i : Nat), (∀ o ∈ G, ∀ s n l, o = .cells [.row s n l] → l.length = n) → normH ws i G = G
 | [], _, _ => rfl
 | o :: r, i, h => by
  have h1 := normO_same (h o (by simp))
  have h2 := normH_same (ws := ws) (G := r) (i + 1) fun p hp => h p (List.mem_cons_of_mem _ hp)
  simp only [normH, h1, h2]
  cases ws.contains i <;> rfl
theorem rows_good (ok : HeapOk w β F H) : ∀ o ∈ H, ∀ s n l, o = .cells [.row s n l] → l.length = n := fun o ho s n l e => by
 subst e
 obtain ⟨r, hr⟩ := List.mem_iff_getElem?.1 ho
 obtain ⟨vs, ⟨hn, _⟩, _⟩ := ok.obj r _ hr
 exact hn
theorem seeSlots_ok {n : Nat} {rows : List Nat} {sl : List Slot} {vs : Nat → Value} {K : List Slot → Heap → Option R} {e0 : En} (h : seeSlots n rows sl H K = some x) (ok : HeapOk w β F H) (hE : Ext e0 (en w β F H)) (hp : e0.n = n)
  (hs : ∀ j s, sl[j]? = some s → RepSlot (en w β F H) s (vs j)) :
  ∃ sl' G β', HeapOk w β' F G ∧ Ext e0 (en w β' F G) ∧ sl'.length = sl.length ∧ (∀ j s, sl'[j]? = some s → RepSlot (en w β' F G) s (vs j)) ∧ K sl' G = some x := by
 unfold seeSlots at h
 split at h
 ·rename_i rs hrs
  rw [← hp] at hrs
  have hlt : ∀ s ∈ sl, ∀ r ∈ slotRefs s, r < H.length := fun s hm r hr => by
   obtain ⟨j, hj⟩ := List.mem_iff_getElem?.1 hm
   exact slotRefs_lt (hs j s hj) r hr
  obtain ⟨ok', hE', ren, hm⟩ := pin_part ok hE hrs (fun q hq => by
   rcases List.mem_append.1 hq with hq | hq
   ·exact slotsRefs_lt hlt q hq
   ·exact tagRefs_lt q hq)
  rw [fNats_eq, fFr_eq, fH_eq, fNats_eq, fH_eq] at h
  have hG : normH (rows ++ (wlSlots (sl.map (mapSlot (idx rs))) ++ wlHeap (part H rs))) 0 (part H rs) = part H rs := normH_same 0 (rows_good ok')
  have h : K (sl.map (mapSlot (idx rs))) (normH (rows ++ (wlSlots (sl.map (mapSlot (idx rs))) ++ wlHeap (part H rs))) 0 (part H rs)) = some x := h
  rw [hG] at h
  refine ⟨_, _, _, ok', hE', by simp, fun j s hj => ?_, h⟩
  rw [List.getElem?_map] at hj
  cases hq : sl[j]? with
  | none => rw [hq] at hj; cases hj
  | some q =>
   rw [hq] at hj
   cases hj
   exact ren.slot (fun r hr => hm r (List.mem_append_left _ (slotsRefs_mem (List.mem_of_getElem? hq) hr))) (fun t ht => InPool.of ok (fun q hq => hm q (List.mem_append_right _ hq)) (slotsTags_mem (List.mem_of_getElem? hq) ht)) (hs j q hq)
 ·cases h
theorem view_ok {C : Ctx} {keep : List Nat} {pl : Plan} {K : List Slot → Heap → Option R} {e0 : En} (h : view C keep pl fr H K = some x) (hR : Rel w β F H fr a) (hE : Ext e0 (en w β F H)) (hp : e0.n = C.pins) :
  ∃ sl G β', Rel w β' F G (ofView C keep sl) a ∧ Ext e0 (en w β' F G) ∧ K sl G = some x := by
 unfold view at h
 obtain ⟨hsz, h⟩ := bif_none h
 obtain ⟨sl1, H1, β1, ok1, hE1, hl1, hs1, k1⟩ := tidy_ok (vs := fun j => a.tmps.getD (keep.getD j 0) undef) h hR.ok hE fun j s hj => by
  rw [List.getElem?_map] at hj
  cases hq : keep[j]? with
  | none => rw [hq] at hj; cases hj
  | some t =>
   rw [hq] at hj
   cases hj
   have : keep.getD j 0 = t := by simp [List.getD, hq]
   simp only [this]
   exact hR.slots t
 obtain ⟨sl2, G, β2, ok2, hE2, hl2, hs2, k2⟩ := seeSlots_ok k1 ok1 hE1 hp hs1
 refine ⟨sl2, G, β2, ⟨ok2, hR.defers, ?_, fun t => ?_⟩, hE2, k2⟩
 ·unfold ofView
  rw [unkeep_len, List.length_replicate]
  exact Nat.le_trans (Nat.le_of_ble_eq_true hsz) hR.len
 ·unfold ofView
  have hr0 : ∀ t, (List.replicate C.size Slot.undef).getD t .undef = .undef := fun t => by
   rw [List.getD_eq_getElem?_getD, List.getElem?_replicate]
   split <;> rfl
  rcases unkeep_get keep sl2 (List.replicate C.size .undef) t with h1 | ⟨i, ⟨h1, h2⟩ | h1⟩
  ·rw [h1, hr0]; trivial
  ·have := hs2 i _ h2
   have hk : keep.getD i 0 = t := by simp [List.getD, h1]
   simp only [hk] at this
   exact this
  ·rw [h1]; trivial
theorem hand_ok {n : Nat} {pl : Plan} {s : Slot} {v : Value} {K : Slot → Heap → Option R} {e0 : En} (h : hand n pl s H K = some x) (ok : HeapOk w β F H) (hE : Ext e0 (en w β F H)) (hp : e0.n = n) (hs : RepSlot (en w β F H) s v) :
  ∃ s' G β', HeapOk w β' F G ∧ Ext e0 (en w β' F G) ∧ RepSlot (en w β' F G) s' v ∧ K s' G = some x := by
 unfold hand at h
 obtain ⟨sl1, H1, β1, ok1, hE1, hl1, hs1, k1⟩ := tidy_ok (vs := fun _ => v) h ok hE fun j q hj => by
  cases j with
  | zero => simp at hj; subst hj; exact hs
  | succ j => simp at hj
 obtain ⟨sl2, G, β2, ok2, hE2, hl2, hs2, k2⟩ := seeSlots_ok k1 ok1 hE1 hp hs1
 split at k2
 ·rename_i s'
  exact ⟨s', G, β2, ok2, hE2, hs2 0 s' rfl, k2⟩
 ·cases k2
/-! ### results -/
theorem resultsK_ok (hR : Rel w β F H fr a) : ∀ {rs : List ResultVar} {K : List SV → Option R}, resultsK P fr H rs K = some x → ∃ l vs, RepSVs (en w β F H) l vs ∧
  (rs.mapM fun | .tmp t => pure (a.tmps.getD t undef) | .cell q t => do loadVar t (← asAddr (a.tmps.getD q undef)) : Sem (List Value)).run P w = .ok vs w ∧ K l = some x
 | [], K, h => ⟨[], [], rfl, by simp, h⟩
 | .tmp t :: rs, K, h => by
  simp only [resultsK] at h
  split at h
  ·rename_i y hy
   obtain ⟨l, vs, h1, h2, h3⟩ := resultsK_ok hR h
   have := hR.slots t
   rw [hy] at this
   exact ⟨y :: l, _ :: vs, ⟨_, vs, rfl, this, h1⟩, by rw [List.mapM_cons]; simp only [Sem.run_bind, Sem.run_pure, Result.andThen_ok, h2], h3⟩
  ·cases h
 | .cell q t :: rs, K, h => by
  simp only [resultsK] at h
  split at h
  ·rename_i p hp
   split at h
   ·rename_i agg n ht
    have hs := hR.slots q
    rw [hp] at hs
    obtain ⟨y, v, h1, h2, h3⟩ := loadAt_ok (P := P) ht h hR.ok hs
    replace h1 := h1 w (Sup.refl w)
    obtain ⟨l, vs, h4, h5, h6⟩ := resultsK_ok hR h3
    have hrun : (do loadVar t (← asAddr (a.tmps.getD q undef)) : Sem Value).run P w = .ok v w := by
     unfold Instr.loadAt at h1
     generalize a.tmps.getD q undef = V at h1
     cases V with
     | pointer A =>
      cases A with
      | some A => simpa [Instr.sureAddr, asAddr] using h1
      | none => simp [Instr.sureAddr] at h1
     | _ => simp [Instr.sureAddr] at h1
    refine ⟨y :: l, v :: vs, ⟨v, vs, rfl, h2, h4⟩, ?_, h6⟩
    rw [List.mapM_cons]
    simp only [Sem.run_bind] at hrun ⊢
    rw [hrun]
    simp only [Result.andThen_ok, Sem.run_pure, h5]
   ·cases h
  ·cases h
theorem results_ok (hR : Rel w β F H fr a) {fn : Func} {K : List SV → Option R} (h : resultsK P fr H fn.results.toList K = some x) :
  ∃ l v, RepSlot (en w β F H) (resSlot l) v ∧ (results fn a.tmps).run P w = .ok v w ∧ K l = some x := by
 obtain ⟨l, vs, h1, h2, h3⟩ := resultsK_ok hR h
 have hlen : ∀ (vs : List Value), RepSVs (en w β F H) l vs → RepSlot (en w β F H) (resSlot l) (if h : vs.toArray.size = 1 then vs.toArray[0] else .tuple vs.toArray) := by
  intro vs h1
  cases l with
  | nil =>
   obtain rfl : vs = [] := h1
   exact ⟨[], rfl, rfl⟩
  | cons y l =>
   obtain ⟨V, us, rfl, k3, k4⟩ := h1
   cases l with
   | nil =>
    obtain rfl : us = [] := k4
    exact k3
   | cons z l =>
    obtain ⟨V2, us, rfl, k5, k6⟩ := k4
    exact ⟨V :: V2 :: us, by simp, V, _, rfl, k3, V2, us, rfl, k5, k6⟩
 refine ⟨l, _, hlen vs h1, ?_, h3⟩
 unfold results
 simp only [Sem.run_bind]
 rw [Array.mapM_eq_mapM_toList]
 refine (congrArg (fun r => Result.andThen r _) (?_ : _ = Result.ok vs.toArray w)).trans rfl
 rw [Sem.run_map]
 refine (congrArg (fun r => Result.andThen r _) h2).trans ?_
 rfl
/-! ### loops -/
def LoopOK (P : Program) (C : Ctx) (b : Code) (L : LSpec) : Prop := ∀ {R : Type} {w : World} {β : Nat → Loc} {F : Nat → Prop} {G : Heap} {a : Act} {sl : List Slot} {K : Exit → List Slot → Heap → Option R} {x : R} {e0 : En},
 Rel w β F G (ofView C L.k.keep sl) a → Ext e0 (en w β F G) → e0.n = C.pins → L.run sl G K = some x →
 (Code.loop b).wp P (fun e a' w' => ∃ sl' G' β', Rel w' β' F G' (ofView C L.k.out sl') a' ∧ Ext e0 (en w' β' F G') ∧ K e sl' G' = some x) a w
def CutOK (P : Program) (C : Ctx) (b : Code) (L : LSpec) : Prop := ∀ {R : Type} {w : World} {β : Nat → Loc} {F : Nat → Prop} {G : Heap} {a : Act} {sl : List Slot} {K : Exit → List Slot → Heap → Option R} {x : R} {e0 : En},
 Rel w β F G (ofView C L.k.keep sl) a → Ext e0 (en w β F G) → e0.n = C.pins → L.run sl G K = some x →
 b.wp P (fun e a' w' => ∃ sl' G' β', Rel w' β' F G' (ofView C L.k.out sl') a' ∧ Ext e0 (en w' β' F G') ∧ K e sl' G' = some x) a w
def LoopsOK (P : Program) (C : Ctx) : Code → Nat → Prop
 | .seq a b, n => CutOK P C b (C.loop n) ∧ LoopsOK P C a (n + 1) ∧ LoopsOK P C b (n + 1 + loops a)
 | .cond _ a b, n => LoopsOK P C a n ∧ LoopsOK P C b (n + loops a)
 | .block _ b, n => LoopsOK P C b n
 | .loop b, n => LoopOK P C b (C.loop n)
 | _, _ => True
theorem exCode_wp (hT : TabOK P T) {C : Ctx} {e0 : En} (hp : e0.n = C.pins) : ∀ (c : Code) (n : Nat) {w : World} {β : Nat → Loc} {H : Heap} {fr : Fr} {a : Act} {K : Exit → Fr → Heap → Option R}, LoopsOK P C c n →
  exCode P T C c n fr H K = some x → Rel w β F H fr a → Ext e0 (en w β F H) → c.wp P (fun e a' w' => After e0 F x (K e) a' w') a w := by
 intro c
 induction c with
 | skip => intro n w β H fr a K _ h hR hE; exact wp_skip ⟨fr, H, β, hR, hE, h⟩
 | label l => intro n w β H fr a K _ h hR hE; exact wp_label ⟨fr, H, β, hR, hE, h⟩
 | exit i => intro n w β H fr a K _ h hR hE; exact wp_exit ⟨fr, H, β, hR, hE, h⟩
 | ret => intro n w β H fr a K _ h hR hE; exact wp_ret ⟨fr, H, β, hR, hE, h⟩
 | region id ops d =>
  intro n w β H fr a K _ h hR hE
  cases d with
  | false =>
   have h : exOps P T ops.toList ops.toList fr H (K .normal) = some x := h
   refine wp_region ?_
   rw [List.range_eq_range']
   exact exOps_wp hT (fun a' w' h => h) ops.size 0 (by omega) (by simpa using h) hR hE
  | true =>
   have h : (bif P.follows .mixedOrders then match befTbl [] ops.toList (eager ops.toList ops.size []) [] [] with
    | some tbl => exDraw P T ops.toList tbl [] (eager ops.toList ops.size []) [] fr H (K .normal)
    | none => bif (cfgOf T).isEmpty then match befTbl (earlies ops.toList) ops.toList (lazy ops.toList (earlies ops.toList) ops.size []) [] [] with
     | some tbl => exDraw P T ops.toList tbl (earlies ops.toList) (lazy ops.toList (earlies ops.toList) ops.size []) [] fr H (K .normal)
     | none => exFirst P T ops.toList fr H (K .normal)
     else exFirst P T ops.toList fr H (K .normal)
   else none) = some x := h
   obtain ⟨hm, h⟩ := bif_none h
   split at h
   ·rename_i tbl hb
    exact exDraw_wp hT hm (.inl rfl) (fun k hk => absurd hk (by simp)) hb (fun a' w' h => h) h hR hE
   ·cases hcf : (cfgOf T).isEmpty with
    | true =>
     rw [hcf] at h
     simp only [cond_true] at h
     split at h
     ·rename_i tbl hb
      exact exDraw_wp hT hm (.inr hcf) (fun k hk => earlies_spec hk) hb (fun a' w' h => h) h hR hE
     ·exact exFirst_wp hT hm h hR hE
    | false =>
     rw [hcf] at h
     exact exFirst_wp hT hm h hR hE
 | seq c d ihc ihd =>
  intro n w β H fr a K hL h hR hE
  refine wp_seq (wp_mono (ihc (n + 1) hL.2.1 h hR hE) fun e a' w' => ?_)
  rintro ⟨fr', H', β', h1, h2, h3⟩
  cases e with
  | normal =>
   have h3 : (match (C.loop n).k.cut with
    | true => view C (C.loop n).k.keep (C.loop n).k.pk fr' H' fun sl G => (C.loop n).run sl G fun e sl G => fH G fun G => ofViewK C (C.loop n).k.out sl fun fr => fFr fr fun fr => K e fr G
    | false => exCode P T C d (n + 1 + loops c) fr' H' K) = some x := h3
   split at h3
   ·obtain ⟨sl, G, β2, q1, q2, q3⟩ := view_ok h3 h1 h2 hp
    refine wp_mono (hL.1 q1 q2 hp q3) fun e a' w' => ?_
    rintro ⟨sl', G', β3, r1, r2, r3⟩
    rw [fH_eq, ofViewK_eq, fFr_eq] at r3
    exact ⟨_, G', β3, r1, r2, r3⟩
   ·exact ihd _ hL.2.2 h3 h1 h2
  | exit i => exact ⟨fr', H', β', h1, h2, h3⟩
  | goto l => exact ⟨fr', H', β', h1, h2, h3⟩
  | ret => exact ⟨fr', H', β', h1, h2, h3⟩
  | panic ch => exact ⟨fr', H', β', h1, h2, h3⟩
  | outgrown => exact ⟨fr', H', β', h1, h2, h3⟩
 | cond o c d ihc ihd =>
  intro n w β H fr a K hL h hR hE
  simp only [exCode] at h
  split at h
  ·rename_i t
   have hs := hR.slots t
   split at h
   ·rename_i b hb
    rw [hb] at hs
    have hs : a.tmps.getD t undef = .bool b := hs
    simp only [setF_eq] at h
    rcases br_some h with ⟨hbt, h⟩ | ⟨hbf, h⟩
    ·subst hbt
     exact wp_cond_true hs (ihc n hL.1 h (hR.known (s := .sv (.v (.bool true))) (by rw [hs]; rfl)) hE)
    ·subst hbf
     exact wp_cond_false hs (ihd _ hL.2 h (hR.known (s := .sv (.v (.bool false))) (by rw [hs]; rfl)) hE)
   ·cases h
  ·exact wp_cond_true rfl (ihc n hL.1 h hR hE)
  ·exact wp_cond_false rfl (ihd _ hL.2 h hR hE)
  ·cases h
 | block id b ih =>
  intro n w β H fr a K hL h hR hE
  refine wp_block (wp_mono (ih n hL h hR hE) fun e a' w' => ?_)
  rintro ⟨fr', H', β', h1, h2, h3⟩
  cases e with
  | exit i =>
   simp only [Exit.inBlock]
   cases hb : Nat.beq i id with
   | true =>
    have h3 : (bif Nat.beq i id then K .normal fr' H' else K (.exit i) fr' H') = some x := h3
    rw [hb] at h3
    rw [if_pos (Nat.eq_of_beq_eq_true hb)]
    exact ⟨fr', H', β', h1, h2, h3⟩
   | false =>
    have h3 : (bif Nat.beq i id then K .normal fr' H' else K (.exit i) fr' H') = some x := h3
    rw [hb] at h3
    rw [if_neg (fun e => by subst e; simp at hb)]
    exact ⟨fr', H', β', h1, h2, h3⟩
  | normal => exact ⟨fr', H', β', h1, h2, h3⟩
  | goto l => exact ⟨fr', H', β', h1, h2, h3⟩
  | ret => exact ⟨fr', H', β', h1, h2, h3⟩
  | panic ch => exact ⟨fr', H', β', h1, h2, h3⟩
  | outgrown => exact ⟨fr', H', β', h1, h2, h3⟩
 | loop b ih =>
  intro n w β H fr a K hL h hR hE
  have h : view C (C.loop n).k.keep (C.loop n).k.pk fr H (fun sl G => (C.loop n).run sl G fun e sl G => fH G fun G => ofViewK C (C.loop n).k.out sl fun fr => fFr fr fun fr => K e fr G) = some x := h
  obtain ⟨sl, G, β', h1, h2, h3⟩ := view_ok h hR hE hp
  refine wp_mono (hL h1 h2 hp h3) fun e a' w' => ?_
  rintro ⟨sl', G', β2, q1, q2, q3⟩
  rw [fH_eq, ofViewK_eq, fFr_eq] at q3
  exact ⟨_, G', β2, q1, q2, q3⟩
 | _ => intro n w β H fr a K _ h; cases h
theorem least {p : Nat → Prop} (h : ∃ m, p m) : ∃ m, p m ∧ ∀ k, p k → m ≤ k := by
 obtain ⟨m, hm⟩ := h
 induction m using Nat.strongRecOn with
 | _ m ih =>
  by_cases h : ∃ k, k < m ∧ p k
  ·obtain ⟨k, h1, h2⟩ := h
   exact ih k h1 h2
  ·exact ⟨m, hm, fun k hk => Nat.le_of_not_lt fun hlt => h ⟨k, hlt, hk⟩⟩
/-! ### a function's body -/
theorem RepSVs.length {e : En} : ∀ {l : List SV} {vs : List Value}, RepSVs e l vs → vs.length = l.length
 | [], _, h => by rw [show _ = [] from h]; rfl
 | _ :: l, _, ⟨_, _, e1, _, h⟩ => by rw [e1]; simp [h.length]
theorem RepSVs.slots {e : En} : ∀ {l : List SV} {vs : List Value}, RepSVs e l vs → ∀ (t k : Nat), RepSlot e (((l.map Slot.sv) ++ List.replicate k Slot.undef).getD t Slot.undef) ((vs.toArray ++ Array.replicate k undef).getD t undef)
 | [], _, h, t, k => by
  rw [show _ = [] from h]
  have : (([] : List SV).map Slot.sv ++ List.replicate k Slot.undef).getD t .undef = .undef := by
   simp only [List.map_nil, List.nil_append]
   rw [List.getD_eq_getElem?_getD, List.getElem?_replicate]
   split <;> rfl
  rw [this]
  trivial
 | y :: l, _, ⟨V, vs, e1, h1, h2⟩, 0, k => by
  subst e1
  have e2 : ((V :: vs).toArray ++ Array.replicate k undef).getD 0 undef = V := by
   rw [Array.getD_eq_getD_getElem?, ← Array.getElem?_toList]
   simp
  rw [e2]
  exact h1
 | y :: l, _, ⟨V, vs, e1, h1, h2⟩, t + 1, k => by
  subst e1
  have := h2.slots t k
  simp only [Array.getD_eq_getD_getElem?, List.map_cons, List.cons_append, List.getD_eq_getElem?_getD, List.getElem?_cons_succ] at this ⊢
  have e2 : ((V :: vs).toArray ++ Array.replicate k undef)[t + 1]? = (vs.toArray ++ Array.replicate k undef)[t]? := by
   rw [← Array.getElem?_toList, ← Array.getElem?_toList]
   simp
  rw [e2]
  exact this
theorem exBody_calls' (hT : TabOK P T) {f : FuncId} {fn : Func} {c : Code} (hf : P.funcs[f]? = some fn) (hb : fn.body = some c) {pl : Plan} {ls : Nat → LSpec} (hL : LoopsOK P ⟨H.length, fn.ntmps, ls, pl.rows⟩ c 0)
  {args : List SV} {vs : List Value} {K : Slot → Heap → Option R} (h : exBody P T fn pl ls args H K = some x) (ok : HeapOk w β F H) (ha : RepSVs (en w β F H) args vs) :
  Calls P f vs.toArray w fun e w' => ∃ v, e = .returned v ∧ Res w β F H x K v w' := by
 unfold exBody at h
 rw [hb] at h
 simp only [fFr_eq] at h
 refine calls_of_wp hf hb ?_
 have hR : Rel w β F H (args.map Slot.sv ++ List.replicate (fn.ntmps - args.length) .undef) { tmps := vs.toArray ++ Array.replicate (fn.ntmps - vs.toArray.size) undef, defers := [] } := by
  refine ⟨ok, rfl, ?_, fun t => ?_⟩
  ·simp [ha.length]
  ·have : vs.toArray.size = args.length := by simp [ha.length]
   rw [this]
   exact ha.slots t _
 refine wp_mono (exCode_wp hT (C := ⟨H.length, fn.ntmps, ls, pl.rows⟩) (e0 := en w β F H) rfl c 0 hL h hR (Ext.refl _)) fun e a' w' => ?_
 rintro ⟨fr', H', β', h1, h2, h3⟩
 have fin : (resultsK P fr' H' fn.results.toList fun l => hand H.length pl (resSlot l) H' K) = some x →
   a'.defers = [] ∧ ∃ v, (results fn a'.tmps).run P w' = .ok v w' ∧ ∃ v', Ending.returned v = .returned v' ∧ Res w β F H x K v' w' := fun h => by
  obtain ⟨l, v, q1, q2, q3⟩ := results_ok h1 h
  obtain ⟨s, G, β2, r1, r2, r3, r4⟩ := hand_ok q3 h1.ok h2 rfl q1
  exact ⟨h1.defers, v, q2, v, rfl, s, G, β2, r1, r2, r3, r4⟩
 cases e with
 | normal => exact fin h3
 | ret => exact fin h3
 | exit i => cases h3
 | goto l => cases h3
 | panic ch => cases h3
 | outgrown => cases h3
theorem exBody_calls (hT : TabOK P T) {f : FuncId} {fn : Func} {c : Code} (hf : P.funcs[f]? = some fn) (hb : fn.body = some c) {pl : Plan} {ls : Nat → LSpec} (hL : ∀ pins, LoopsOK P ⟨pins, fn.ntmps, ls, pl.rows⟩ c 0)
  {args : List SV} {vs : List Value} {K : Slot → Heap → Option R} (h : exBody P T fn pl ls args H K = some x) (ok : HeapOk w β F H) (ha : RepSVs (en w β F H) args vs) :
  Calls P f vs.toArray w fun e w' => ∃ v, e = .returned v ∧ Res w β F H x K v w' := exBody_calls' hT hf hb (hL _) h ok ha
theorem EntOK.of (hT : TabOK P T) {f : FuncId} {fn : Func} {c : Code} (hf : P.funcs[f]? = some fn) (hn : (fn.name == "runtime.NumGoroutine") = false) (hb : fn.body = some c) {pl : Plan} {ls : Nat → LSpec} (hL : ∀ pins, LoopsOK P ⟨pins, fn.ntmps, ls, pl.rows⟩ c 0) {E : Ent}
  (h : ∀ {R : Type} (args : List SV) (G : Heap) (K : Slot → Heap → Option R) (x : R), E.run args G K = some x → exBody P T fn pl ls args G K = some x) : EntOK P f E :=
 ⟨⟨fn, hf, hn, by rw [hb]; rfl⟩, fun ok ha hr => exBody_calls hT hf hb hL (h _ _ _ _ hr) ok ha⟩
end
end Go.Gx

namespace Go.Gx
section
variable {P : Program} {T : Table}
structure Gone (w w' : World) : Prop where
 size : w.heap.size ≤ w'.heap.size
 kept : ∀ b : Nat, b < w.heap.size → w'.heap[b]? = w.heap[b]?
 out : w'.os = w.os ∧ w'.output = w.output
 froz : ∀ a : Addr, w'.frozen? a = w.frozen? a
def isTrue (s : Slot) : Option Unit := match s with
 | .sv (.v (.bool b)) => bif b then some () else none
 | _ => none
def β0 : Nat → Loc := fun _ => .mk3 0 0 False
def F0 : Nat → Prop := fun _ => False
theorem heap0 (w : World) : HeapOk w β0 F0 [] := ⟨fun r o h => by simp at h, fun r o b h => by simp at h, fun r r' o o' b h => by simp at h, fun b h => h.elim, fun r r' k k' t s s' l l' h => by simp at h⟩
theorem av0 {w : World} {b : Nat} : ¬ (en w β0 F0 []).av b := by
 rintro (⟨r, o, h, _⟩ | h)
 ·simp at h
 ·exact h
theorem isTrue_spec {e : En} {s : Slot} {v : Value} {x : Unit} (h : isTrue s = some x) (hs : RepSlot e s v) : v = .bool true := by
 unfold isTrue at h
 split at h
 ·rename_i b
  cases b with
  | true => exact hs
  | false => cases h
 ·cases h
theorem Gone.of {w w' : World} {β' : Nat → Loc} {H' : Heap} (h : Ext (en w β0 F0 []) (en w' β' F0 H')) : Gone w w' := by
 have hno : ∀ b, ¬ (en w β0 F0 []).Own b := fun b hb => av0 (.inl hb)
 have hk : ∀ b : Nat, b < w.heap.size → w'.heap[b]? = w.heap[b]? := fun b hb => h.kept b hb (hno b)
 refine ⟨h.size, hk, h.out, fun a => ?_⟩
 unfold World.frozen?
 by_cases hb : a.block < w.heap.size
 ·rw [hk _ hb]
 ·have hw : w.heap[a.block]? = none := by simp; omega
  rw [hw]
  cases hc : w'.heap[a.block]? with
  | none => rfl
  | some o =>
   cases o with
   | cells c t f =>
    rcases h.froz a.block c t f hc with rfl | ⟨c', h'⟩
    ·simp
    ·have h' : w.heap[a.block]? = _ := h'
     rw [hw] at h'
     cases h'
   | _ => rfl
theorem law_calls {f : FuncId} {E : Ent} (hE : EntOK P f E) {args : List SV} {vs : List Value} {w : World} (ha : RepSVs (en w β0 F0 []) args vs) (h : E.run args [] (fun s _ => isTrue s) = some ()) :
  Calls P f vs.toArray w fun e w' => ∃ v, e = .returned v ∧ v = .bool true ∧ Gone w w' :=
 Calls.mono (hE.run (heap0 w) ha h) fun e w' => by
  rintro ⟨v, he, s, H', β', ok, hx, hs, hK⟩
  exact ⟨v, he, isTrue_spec hK hs, .of hx⟩
theorem law_body (hT : TabOK P T) {f : FuncId} {fn : Func} {c : Code} (hf : P.funcs[f]? = some fn) (hb : fn.body = some c) {pl : Plan} {ls : Nat → LSpec} (hL : ∀ pins, LoopsOK P ⟨pins, fn.ntmps, ls, pl.rows⟩ c 0)
  {args : List SV} {vs : List Value} {w : World} (ha : RepSVs (en w β0 F0 []) args vs) (h : exBody P T fn pl ls args [] (fun s _ => isTrue s) = some ()) :
  Calls P f vs.toArray w fun e w' => ∃ v, e = .returned v ∧ v = .bool true ∧ Gone w w' :=
 Calls.mono (exBody_calls hT hf hb hL h (heap0 w) ha) fun e w' => by
  rintro ⟨v, he, s, H', β', ok, hx, hs, hK⟩
  exact ⟨v, he, isTrue_spec hK hs, .of hx⟩
theorem Gone.keptBut {w w' : World} (h : Gone w w') (may : MemPlace → Prop) : w.keptBut w' may := by
 refine ⟨h.out.1, h.out.2, fun i hi => ?_⟩
 rw [h.kept i hi]
 cases w.heap[i]? with
 | none => rfl
 | some o =>
  cases o with
  | cells c t f => exact ⟨rfl, rfl, rfl, fun _ _ => rfl⟩
  | map es c => exact .inr ⟨rfl, rfl⟩
  | _ => rfl
theorem Gone.sameAt {w w' : World} (h : Gone w w') {p : MemPlace} (hp : p.block < w.heap.size) : w.sameAt w' p := by
 cases p with
 | cell b o =>
  have := h.kept b hp
  simp only [World.sameAt, World.cell?, this]
 | map b => exact h.kept b hp
end
end Go.Gx
