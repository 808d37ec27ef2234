/-
  Gx, part T: regions whose order is drawn.
-/
import Derived.Test.YteagdmkedffplaaGxS
import Derived.Orders
namespace Go.Gx
section
variable {R : Type} {P : Program} {T : Table} {w : World} {β : Nat → Loc} {F : Nat → Prop} {H : Heap} {fr : Fr} {a : Act} {x : R}

/-! ### the order that is looked through -/
/-- j stands ahead of i in whatever order -/
inductive Bef (ops : List Oper) : Nat → Nat → Prop
  | one {j i : Nat} {o : Oper} : ops[i]? = some o → j ∈ edges o → Bef ops j i
  | trans {j k i : Nat} {o : Oper} : ops[i]? = some o → k ∈ edges o → Bef ops j k → Bef ops j i

structure PairOk (ops : List Oper) (tbl : List (Nat × List Nat)) (j k : Nat) : Prop where
  oj : ∃ o, ops[j]? = some o
  ok : ∃ o, ops[k]? = some o
  looks : ∀ oj okk, ops[j]? = some oj → ops[k]? = some okk → ∀ d, okk.dst = some d → d ∉ looks ops oj ∧ oj.dst ≠ some d
  bef : ∀ oj okk, ops[j]? = some oj → ops[k]? = some okk → (j ∈ befOf tbl k) ∨ (isRead oj.op = true ∧ ∀ d, oj.dst = some d → d ∉ Gx.looks ops okk)

structure SelfOk (ops : List Oper) (i : Nat) : Prop where
  ex : ∃ o, ops[i]? = some o
  look : ∀ o, ops[i]? = some o → ∀ d, o.dst = some d → d ∉ looks ops o
  sel : ∀ o, ops[i]? = some o → ∀ cs b, o.op ≠ .select cs b

theorem dstIn_spec {o : Oper} {l : List Nat} (h : dstIn o l = false) : ∀ d, o.dst = some d → d ∉ l := by
  intro d hd hm
  simp [dstIn, hd, hm] at h

theorem notSel_spec {o : Op} (h : notSel o = true) : ∀ cs b, o ≠ .select cs b := by
  intro cs b e
  subst e
  cases h

/-- the table holds what stands ahead, and no more -/
def TblOk (ops : List Oper) (tbl : List (Nat × List Nat)) : Prop := ∀ i, ∀ j ∈ befOf tbl i, Bef ops j i

theorem TblOk.nil {ops : List Oper} : TblOk ops [] := fun i j h => by simp [befOf] at h

theorem befOf_cons {tbl : List (Nat × List Nat)} {i k : Nat} {s : List Nat} : befOf ((i, s) :: tbl) k = if i = k then s else befOf tbl k := by
  by_cases h : i = k
  · subst h; simp [befOf]
  · have : Nat.beq i k = false := by
      cases hb : Nat.beq i k with
      | false => rfl
      | true => exact absurd (Nat.eq_of_beq_eq_true hb) h
    simp [befOf, List.find?, this, h]

theorem mem_uniqN : ∀ {l : List Nat} {x : Nat}, x ∈ uniqN l → x ∈ l
  | y :: r, x, h => by
    simp only [uniqN] at h
    cases hc : (uniqN r).contains y with
    | true => rw [hc] at h; exact List.mem_cons_of_mem _ (mem_uniqN h)
    | false =>
      rw [hc] at h
      rcases List.mem_cons.1 h with rfl | h
      · exact List.mem_cons_self ..
      · exact List.mem_cons_of_mem _ (mem_uniqN h)

theorem ahead_spec {ops : List Oper} {tbl : List (Nat × List Nat)} (h : TblOk ops tbl) {i : Nat} {o : Oper} (ho : ops[i]? = some o) : ∀ j ∈ ahead tbl o, Bef ops j i := by
  intro j hj
  obtain ⟨k, hk, hj⟩ := List.mem_flatMap.1 (mem_uniqN hj)
  rcases List.mem_cons.1 hj with rfl | hj
  · exact .one ho hk
  · exact .trans ho hk (h k j hj)

theorem TblOk.cons {ops : List Oper} {tbl : List (Nat × List Nat)} (h : TblOk ops tbl) {i : Nat} {o : Oper} (ho : ops[i]? = some o) : TblOk ops ((i, ahead tbl o) :: tbl) := by
  intro k j hj
  rw [befOf_cons] at hj
  split at hj
  · rename_i e
    subst e
    exact ahead_spec h ho j hj
  · exact h k j hj

/-- what an order that is looked through gives -/
structure Order (ops : List Oper) (tbl : List (Nat × List Nat)) (done rest : List Nat) : Prop where
  nd : (done.reverse ++ rest).Nodup
  len : (done.reverse ++ rest).length = ops.length
  self : ∀ i ∈ rest, SelfOk ops i
  pair : ∀ l i r, rest = l ++ i :: r → ∀ j, j ∈ done ∨ j ∈ l → PairOk ops tbl j i
  dep : ∀ l i r, rest = l ++ i :: r → ∀ o, ops[i]? = some o → ∀ j ∈ edges o, j ∈ done ∨ j ∈ l

theorem befTbl_spec {ops : List Oper} : ∀ (rest done : List Nat) (tbl tbl' : List (Nat × List Nat)), befTbl ops rest done tbl = some tbl' → done.Nodup → TblOk ops tbl → (∀ p ∈ tbl, p.1 ∈ done) →
    Order ops tbl' done rest ∧ TblOk ops tbl' ∧ ∀ i ∈ done, befOf tbl' i = befOf tbl i
  | [], done, tbl, tbl', h, hnd, ht, _ => by
    obtain ⟨h1, h2⟩ := bif_none h
    cases h2
    refine ⟨⟨by rw [List.append_nil]; exact (List.reverse_perm done).symm.nodup hnd, by simpa using Nat.eq_of_beq_eq_true h1, fun i hi => (nomatch hi), fun l i r e => ?_, fun l i r e => ?_⟩, ht, fun _ _ => rfl⟩
    · cases l <;> cases e
    · cases l <;> cases e
  | i :: rest, done, tbl, tbl', h, hnd, ht, htd => by
    simp only [befTbl] at h
    split at h
    · rename_i o ho
      obtain ⟨h1, h2⟩ := bif_none h
      clear h
      simp only [Bool.and_eq_true, Bool.not_eq_true', List.all_eq_true] at h1
      obtain ⟨⟨⟨⟨q1, q2⟩, q3⟩, q4⟩, q5⟩ := h1
      have hi : i ∉ done := fun hm => by
        have : done.contains i = true := by simpa using hm
        rw [q1] at this
        cases this
      obtain ⟨O, hT, hsame⟩ := befTbl_spec rest (i :: done) ((i, ahead tbl o) :: tbl) tbl' h2 (List.nodup_cons.2 ⟨hi, hnd⟩) (ht.cons ho) (fun p hp => by
        rcases List.mem_cons.1 hp with rfl | hp
        · simp
        · exact List.mem_cons_of_mem _ (htd p hp))
      have hbi : befOf tbl' i = ahead tbl o := by
        rw [hsame i (by simp), befOf_cons, if_pos rfl]
      have hrev : (i :: done).reverse ++ rest = done.reverse ++ i :: rest := by simp
      refine ⟨⟨by rw [← hrev]; exact O.nd, by rw [← hrev]; exact O.len, ?_, ?_, ?_⟩, hT, fun k hk => ?_⟩
      · intro k hk
        rcases List.mem_cons.1 hk with rfl | hk
        · exact ⟨⟨o, ho⟩, fun o' ho' => by rw [ho] at ho'; cases ho'; exact dstIn_spec q3, fun o' ho' => by rw [ho] at ho'; cases ho'; exact notSel_spec q4⟩
        · exact O.self k hk
      · intro l k r e j hj
        cases l with
        | nil =>
          cases e
          have hj : j ∈ done := hj.resolve_right (fun h => nomatch h)
          have := q5 j hj
          unfold pairOk at this
          split at this
          · rename_i oj okk hoj hok
            rw [ho] at hok
            cases hok
            simp only [Bool.and_eq_true, Bool.or_eq_true, Bool.not_eq_true'] at this
            obtain ⟨⟨p1, p2⟩, p3⟩ := this
            refine ⟨⟨oj, hoj⟩, ⟨o, ho⟩, fun oj' ok' h1 h2 d hd => ?_, fun oj' ok' h1 h2 => ?_⟩
            · rw [hoj] at h1
              rw [ho] at h2
              cases h1
              cases h2
              refine ⟨dstIn_spec p1 d hd, fun e => dstIn_spec p2 d hd (by simp [e])⟩
            · rw [hoj] at h1
              rw [ho] at h2
              cases h1
              cases h2
              rcases p3 with p3 | p3
              · rw [hbi]; exact .inl (by simpa using p3)
              · exact .inr ⟨p3.1, dstIn_spec p3.2⟩
          · cases this
        | cons i' l =>
          cases e
          refine O.pair l k r rfl j ?_
          rcases hj with hj | hj
          · exact .inl (List.mem_cons_of_mem _ hj)
          · rcases List.mem_cons.1 hj with rfl | hj
            · exact .inl (by simp)
            · exact .inr hj
      · intro l k r e o' ho' j hj
        cases l with
        | nil =>
          cases e
          rw [ho] at ho'
          cases ho'
          simp only [readyB, List.all_eq_true] at q2
          exact .inl (by simpa using q2 j hj)
        | cons i' l =>
          cases e
          rcases O.dep l k r rfl o' ho' j hj with h | h
          · rcases List.mem_cons.1 h with rfl | h
            · exact .inr (by simp)
            · exact .inl h
          · exact .inr (List.mem_cons_of_mem _ h)
      · rw [hsame k (List.mem_cons_of_mem _ hk), befOf_cons, if_neg (fun e : i = k => hi (e ▸ hk))]
    · cases h

/-! ### the same once more -/
theorem listDec_eq {α : Type} {f : α → α → Bool} (hf : ∀ a b, f a b = true → a = b) : ∀ {l m : List α}, listDec f l m = true → l = m
  | [], [], _ => rfl
  | a :: l, b :: m, h => by
    simp only [listDec, Bool.and_eq_true] at h
    rw [hf a b h.1, listDec_eq hf h.2]
  | [], _ :: _, h => by cases h
  | _ :: _, [], h => by cases h

theorem dec_eq : ∀ (s : Sh) (a b : s.T), s.dec a b = true → a = b
  | .int _, a, b, h => by simpa [Sh.dec] using h
  | .bool, a, b, h => by simpa [Sh.dec] using h
  | .str, a, b, h => by simpa [Sh.dec] using h
  | .isl s, a, b, h => listDec_eq (dec_eq s) h
  | .pair x y, a, b, h => by
    simp only [Sh.dec, Bool.and_eq_true] at h
    exact Prod.ext (dec_eq x _ _ h.1) (dec_eq y _ _ h.2)
  | .unit, _, _, _ => rfl

theorem sameList_eq {s s' : Sh} {l : List s.T} {l' : List s'.T} {k : Option R} (h : sameList s s' l l' k = some x) : (∃ e : s = s', castL e l = l') ∧ k = some x := by
  unfold sameList at h
  split at h
  · rename_i e
    obtain ⟨h1, h2⟩ := br_none h
    exact ⟨⟨e, listDec_eq (dec_eq s') h1⟩, h2⟩
  · cases h

theorem sameNats_eq : ∀ {l m : List Nat}, sameNats l m = true → l = m
  | [], [], _ => rfl
  | a :: l, b :: m, h => by
    simp only [sameNats, Bool.and_eq_true] at h
    rw [Nat.eq_of_beq_eq_true h.1, sameNats_eq h.2]
  | [], _ :: _, h => by cases h
  | _ :: _, [], h => by cases h

theorem sameSc_eq {y z : Sc} {k : Option R} (h : sameSc y z k = some x) : y = z ∧ k = some x := by
  unfold sameSc at h
  split at h
  · obtain ⟨h1, h2⟩ := bif_none h
    obtain ⟨h3, h4⟩ := br_none h2
    simp at h1 h3
    exact ⟨by rw [h1, h3], h4⟩
  · obtain ⟨h1, h2⟩ := br_none h
    exact ⟨by rw [eq_of_beq h1], h2⟩
  · obtain ⟨h1, h2⟩ := br_none h
    simp at h1
    exact ⟨by rw [h1], h2⟩
  · obtain ⟨h1, h2⟩ := bif_none h
    rw [Bool.and_eq_true] at h1
    exact ⟨by rw [Nat.eq_of_beq_eq_true h1.1, Nat.eq_of_beq_eq_true h1.2], h2⟩
  · obtain ⟨h1, h2⟩ := bif_none h
    simp only [Bool.and_eq_true] at h1
    obtain ⟨h3, h4⟩ := br_none h2
    simp at h3
    exact ⟨by rw [Nat.eq_of_beq_eq_true h1.1.1, Nat.eq_of_beq_eq_true h1.1.2, Nat.eq_of_beq_eq_true h1.2, h3], h4⟩
  · obtain ⟨h1, h2⟩ := bif_none h
    obtain ⟨h3, h4⟩ := br_none h2
    simp at h3
    obtain ⟨⟨e, h5⟩, h6⟩ := sameList_eq h4
    subst e
    have h5 : _ = _ := h5
    rw [castL_rfl] at h5
    exact ⟨by rw [Nat.eq_of_beq_eq_true h1, h3, h5], h6⟩
  · exact ⟨rfl, h⟩
  · obtain ⟨h1, h2⟩ := bif_none h
    simp only [Bool.and_eq_true] at h1
    obtain ⟨h3, h4⟩ := br_none h2
    simp at h3
    rename_i cap _ _ _ _ _ cap'
    have : cap = cap' ∧ k = some x := by
      unfold sameCap at h4
      split at h4
      · exact ⟨rfl, h4⟩
      · obtain ⟨h5, h6⟩ := br_none h4
        simp at h5
        exact ⟨by rw [h5], h6⟩
      · cases h4
    exact ⟨by rw [Nat.eq_of_beq_eq_true h1.1.1, Nat.eq_of_beq_eq_true h1.1.2, Nat.eq_of_beq_eq_true h1.2, h3.1, h3.2, this.1], this.2⟩
  · obtain ⟨h1, h2⟩ := bif_none h
    rw [Bool.and_eq_true] at h1
    exact ⟨by rw [Nat.eq_of_beq_eq_true h1.1, Nat.eq_of_beq_eq_true h1.2], h2⟩
  · obtain ⟨⟨e, h5⟩, h6⟩ := sameList_eq h
    subst e
    rw [castL_rfl] at h5
    exact ⟨by rw [h5], h6⟩
  · exact ⟨rfl, h⟩
  · exact ⟨rfl, h⟩
  · obtain ⟨h1, h2⟩ := bif_none h
    exact ⟨by rw [Nat.eq_of_beq_eq_true h1], h2⟩
  · exact ⟨rfl, h⟩
  · obtain ⟨h1, h2⟩ := bif_none h
    rw [Bool.and_eq_true] at h1
    exact ⟨by rw [Nat.eq_of_beq_eq_true h1.1, sameNats_eq h1.2], h2⟩
  · exact ⟨rfl, h⟩
  · exact ⟨rfl, h⟩
  · cases h

theorem sameSegs_eq : ∀ {l m : List Seg} {k : Option R}, sameSegs l m k = some x → l = m ∧ k = some x
  | [], [], k, h => ⟨rfl, h⟩
  | .c y :: l, .c z :: m, k, h => by
    obtain ⟨h1, h2⟩ := sameSc_eq h
    obtain ⟨h3, h4⟩ := sameSegs_eq h2
    exact ⟨by rw [h1, h3], h4⟩
  | .row s n p :: l, .row s' n' q :: m, k, h => by
    obtain ⟨h1, h2⟩ := bif_none h
    obtain ⟨⟨e, h3⟩, h4⟩ := sameList_eq h2
    obtain ⟨h5, h6⟩ := sameSegs_eq h4
    subst e
    rw [castL_rfl] at h3
    exact ⟨by rw [Nat.eq_of_beq_eq_true h1, h3, h5], h6⟩
  | [], _ :: _, _, h => by simp [sameSegs] at h
  | .c _ :: _, [], _, h => by simp [sameSegs] at h
  | .row _ _ _ :: _, [], _, h => by simp [sameSegs] at h
  | .c _ :: _, .row _ _ _ :: _, _, h => by simp [sameSegs] at h
  | .row _ _ _ :: _, .c _ :: _, _, h => by simp [sameSegs] at h

theorem sameSV_eq {y z : SV} {k : Option R} (h : sameSV y z k = some x) : y = z ∧ k = some x := by
  unfold sameSV at h
  split at h
  · obtain ⟨h1, h2⟩ := sameSc_eq h; exact ⟨by rw [h1], h2⟩
  · obtain ⟨h1, h2⟩ := sameSegs_eq h; exact ⟨by rw [h1], h2⟩
  · cases h

theorem sameSVs_eq : ∀ {l m : List SV} {k : Option R}, sameSVs l m k = some x → l = m ∧ k = some x
  | [], [], k, h => ⟨rfl, h⟩
  | y :: l, z :: m, k, h => by
    obtain ⟨h1, h2⟩ := sameSV_eq h
    obtain ⟨h3, h4⟩ := sameSVs_eq h2
    exact ⟨by rw [h1, h3], h4⟩
  | [], _ :: _, _, h => by simp [sameSVs] at h
  | _ :: _, [], _, h => by simp [sameSVs] at h

theorem sameSlot_eq {y z : Slot} {k : Option R} (h : sameSlot y z k = some x) : y = z ∧ k = some x := by
  unfold sameSlot at h
  split at h
  · obtain ⟨h1, h2⟩ := sameSV_eq h; exact ⟨by rw [h1], h2⟩
  · obtain ⟨h1, h2⟩ := sameSVs_eq h; exact ⟨by rw [h1], h2⟩
  · exact ⟨rfl, h⟩
  · cases h

end
end Go.Gx
