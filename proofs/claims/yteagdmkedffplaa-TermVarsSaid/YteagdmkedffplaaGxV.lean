/-
  Gx, part V: regions whose order is drawn, the rule.
-/
import Derived.Test.YteagdmkedffplaaGxU
namespace Go.Gx
section
variable {R : Type} {P : Program} {T : Table} {w : World} {β : Nat → Loc} {F : Nat → Prop} {H : Heap} {fr : Fr} {a A : Act} {x : R} {ops : Array Oper} {tbl : List (Nat × List Nat)}

theorem edges_spec {o : Oper} {listed : Array Bool} : (∀ j ∈ edges o, listed.getD j false = true) ↔ ∀ e ∈ o.after, Region.binds .any e = true → listed.getD e.on false = true := by
  unfold edges
  constructor
  · intro h e he hb
    exact h e.on (List.mem_map.2 ⟨e, List.mem_filter.2 ⟨by simpa using he, hb⟩, rfl⟩)
  · intro h j hj
    obtain ⟨e, he, rfl⟩ := List.mem_map.1 hj
    obtain ⟨h1, h2⟩ := List.mem_filter.1 he
    exact h e (by simpa using h1) h2

theorem getD_both {listed : Array Bool} {i : Nat} (h : i < listed.size) : listed.getD i true = listed.getD i false := by
  simp [h]

theorem getD_set {listed : Array Bool} {i k : Nat} (hi : i < listed.size) : (listed.setIfInBounds i true).getD k false = if k = i then true else listed.getD k false := by
  by_cases h : k = i
  · subst h; simp [hi]
  · rw [if_neg h]
    exact getD_set_ne false (Ne.symm h)

theorem act_eq {a A : Act} (h : ∀ t : Nat, a.tmps[t]? = A.tmps[t]?) (hd : a.defers = A.defers) : a = A := by
  obtain ⟨ta, da⟩ := a
  obtain ⟨tA, dA⟩ := A
  have : ta = tA := Array.ext_getElem? h
  subst this
  cases hd
  rfl

theorem put_agree {d : Option Nat} {v : Value} {t : Nat} (hs : a.tmps.size = A.tmps.size) (h : d ≠ some t → a.tmps[t]? = A.tmps[t]?) : (a.put d v).tmps[t]? = (A.put d v).tmps[t]? := by
  by_cases e : d = some t
  · subst e
    simp [Act.put, Array.getElem?_setIfInBounds, hs]
  · rw [get_put e, get_put e]
    exact h e

theorem draw_any (hT : TabOK P T) {c : List Nat} (C : Cst ops tbl c) {Q : Exit → Act → World → Prop} {e0 : En} {K : Fr → Heap → Option R} (hQ : ∀ a' w', After e0 F x K a' w' → Q .normal a' w') :
    ∀ (n : Nat) {rest dn pend : List Nat} {listed : Array Bool} {a A : Act} {w : World} {β : Nat → Loc} {fr : Fr} {H : Heap}, n = pend.length + rest.length → dn.reverse ++ rest = c →
      Dr P ops dn pend listed a A w → exDraw P T ops.toList tbl rest dn fr H K = some x → Rel w β F H fr A → Ext e0 (en w β F H) → wpAny P .any ops Q n listed a w := by
  intro n
  induction n with
  | zero =>
    intro rest dn pend listed a A w β fr H hn hc D hx hR hE
    have hp : pend = [] := List.eq_nil_of_length_eq_zero (by omega)
    have hr : rest = [] := List.eq_nil_of_length_eq_zero (by omega)
    subst hp
    subst hr
    have hx : K fr H = some x := hx
    have ha : a = A := act_eq (fun t => D.agree t fun j hj => nomatch hj) D.adef
    subst ha
    refine ⟨?_, hQ _ _ ⟨fr, H, β, hR, hE, hx⟩⟩
    cases h : Region.ready .any ops listed with
    | nil => rfl
    | cons i _ =>
      have : i ∈ Region.ready .any ops listed := by rw [h]; simp
      obtain ⟨h1, o, ho, _⟩ := mem_ready.1 this
      have hi : i < ops.size := (Array.getElem?_eq_some_iff.1 ho).1
      have : i ∈ dn := by
        have := C.all i hi
        rw [← hc] at this
        simpa using this
      have := (D.mem i).2 ⟨this, fun h => nomatch h⟩
      rw [getD_both (by rw [D.size]; exact hi), this] at h1
      cases h1
  | succ n ih =>
    intro rest dn pend listed a A w β fr H hn hc D hx hR hE
    have hdc : ∀ j ∈ dn, j ∈ c := fun j hj => by rw [← hc]; simp [hj]
    refine ⟨fun hre => ?_, fun i hi => ?_⟩
    · -- nothing is ready: all is done
      exfalso
      have all : ∀ (m : Nat) (l r : List Nat), l.length = m → c = l ++ r → ∀ i ∈ l, listed.getD i false = true := by
        intro m
        induction m with
        | zero => intro l r hl _ i hi; rw [List.eq_nil_of_length_eq_zero hl] at hi; cases hi
        | succ m ihm =>
          intro l r hl hlr
          obtain ⟨l', i, rfl⟩ : ∃ l' i, l = l' ++ [i] := by
            rcases List.eq_nil_or_concat l with h | ⟨l', i, h⟩
            · subst h; cases hl
            · exact ⟨l', i, by rw [h, List.concat_eq_append]⟩
          have ih1 := ihm l' (i :: r) (by simpa using hl) (by rw [hlr]; simp)
          intro k hk
          rcases List.mem_append.1 hk with hk | hk
          · exact ih1 k hk
          · rw [List.mem_singleton.1 hk]
            have hic : i ∈ c := by rw [hlr]; simp
            have hlt := C.lt i hic
            cases hli : listed.getD i false with
            | true => rfl
            | false =>
              exfalso
              have : i ∈ Region.ready .any ops listed := by
                rw [mem_ready]
                refine ⟨by rw [getD_both (by rw [D.size]; exact hlt)]; exact hli, ops[i], by simp [hlt], edges_spec.1 fun j hj => ih1 j ?_⟩
                exact C.dep l' i r (by rw [hlr]; simp) ops[i] (by simp [hlt]) j hj
              rw [hre] at this
              cases this
      have hall := all c.length c [] rfl (by simp)
      have hp : pend = [] := by
        cases pend with
        | nil => rfl
        | cons j _ =>
          have := hall j (hdc j (D.sub j (by simp)))
          exact absurd (by simp) ((D.mem j).1 this).2
      have hr : rest = [] := by
        cases rest with
        | nil => rfl
        | cons j _ =>
          have := hall j (by rw [← hc]; simp)
          have hj := ((D.mem j).1 this).1
          have hnd := C.nd
          rw [← hc, List.nodup_append] at hnd
          exact absurd rfl (hnd.2.2 j (by simpa using hj) j (by simp))
      subst hp
      subst hr
      simp at hn
    · obtain ⟨h1, o, ho, hdeps⟩ := mem_ready.1 hi
      have hlt : i < ops.size := (Array.getElem?_eq_some_iff.1 ho).1
      have hls : i < listed.size := by rw [D.size]; exact hlt
      rw [getD_both hls] at h1
      have hdeps := edges_spec.2 hdeps
      have hic := C.all i hlt
      have hself := C.self i hic
      have ho' : ops.toList[i]? = some o := by simpa using ho
      have hsel := hself.sel o ho'
      have closed' : ∀ k, (listed.setIfInBounds i true).getD k false = true → ∀ o, ops[k]? = some o → ∀ j ∈ edges o, (listed.setIfInBounds i true).getD j false = true := by
        intro k hk ok hok j hj
        rw [getD_set hls] at hk ⊢
        split
        · rfl
        · split at hk
          · rename_i e
            subst e
            rw [ho] at hok
            cases hok
            exact hdeps j hj
          · exact D.closed k hk ok hok j hj
      by_cases hip : i ∈ pend
      · -- it was read ahead
        have hag := D.looks C hdc hic ho hdeps
        obtain ⟨v, hv, hput⟩ := D.val i hip o ho
        refine StepVal.wpOp ho (hv.agree hsel hag) ?_
        have hlen := List.length_erase_of_mem hip
        have hpos := List.length_pos_of_mem hip
        refine ih (rest := rest) (dn := dn) (pend := pend.erase i) (A := A) (β := β) (fr := fr) (H := H) (by omega) hc ?_ hx hR hE
        exact {
          size := by simp [D.size]
          mem := fun k => by
            rw [getD_set hls]
            by_cases e : k = i
            · subst e
              simp [D.sub k hip, D.pnd.mem_erase_iff]
            · rw [if_neg e, D.mem k, D.pnd.mem_erase_iff]
              simp [e]
          pnd := D.pnd.erase i
          sub := fun j hj => D.sub j (List.mem_of_mem_erase hj)
          read := fun j hj => D.read j (List.mem_of_mem_erase hj)
          agree := fun t ht => by
            rw [← hput]
            refine put_agree D.asize fun hd => D.agree t fun j hj oj hoj => ?_
            by_cases e : j = i
            · subst e
              rw [ho] at hoj
              cases hoj
              exact hd
            · exact ht j (D.pnd.mem_erase_iff.2 ⟨e, hj⟩) oj hoj
          asize := by rw [size_put]; exact D.asize
          adef := by rw [defers_put]; exact D.adef
          val := fun j hj => D.val j (List.mem_of_mem_erase hj)
          closed := closed' }
      · have hidn : i ∉ dn := fun hm => by
          have := (D.mem i).2 ⟨hm, hip⟩
          rw [h1] at this
          cases this
        have hir : i ∈ rest := by
          rw [← hc] at hic
          rcases List.mem_append.1 hic with h | h
          · exact absurd (by simpa using h) hidn
          · exact h
        obtain ⟨pre, post, rfl⟩ := List.append_of_mem hir
        have hpre : ∀ k ∈ pre, ∀ o, ops[k]? = some o → isRead o.op = true := fun k hk ok hok => by
          have hp : PairOk ops.toList tbl k i := by
            have := C.pair
            rw [← hc, List.pairwise_append] at this
            have := this.2.1
            rw [List.pairwise_append] at this
            exact this.2.2 k hk i (by simp)
          rcases hp.bef ok o (by simpa using hok) ho' with h | h
          · exfalso
            have hl := D.bef (C.tbl i k h) fun o' ho'' => by rw [ho] at ho''; cases ho''; exact hdeps
            have hkd := ((D.mem k).1 hl).1
            have hnd := C.nd
            rw [← hc, List.nodup_append] at hnd
            exact hnd.2.2 k (by simpa using hkd) k (by simp [hk]) rfl
          · exact h.1
        obtain ⟨dn', pend', A', fr', hc', D', hx', hR', hlen⟩ := catchup C pre hc hpre D hx hR
        have hdc' : ∀ j ∈ dn', j ∈ c := fun j hj => by rw [← hc']; simp [hj]
        have hag := D'.looks C hdc' hic ho hdeps
        have hidn' : i ∉ dn' := fun hm => by
          have hnd := C.nd
          rw [← hc', List.nodup_append] at hnd
          exact hnd.2.2 i (by simpa using hm) i (by simp) rfl
        have hip' : i ∉ pend' := fun hm => hidn' (D'.sub i hm)
        have hn' : n = pend'.length + post.length := by simp at hn; omega
        have mem' : ∀ k, (listed.setIfInBounds i true).getD k false = true ↔ (k ∈ i :: dn' ∧ k ∉ pend') := fun k => by
          rw [getD_set hls]
          by_cases e : k = i
          · subst e; simp [hip']
          · rw [if_neg e, D'.mem k]; simp [e]
        have hpair' : ∀ j ∈ dn', PairOk ops.toList tbl j i := fun j hj => by
          have := C.pair
          rw [← hc', List.pairwise_append] at this
          exact this.2.2 j (by simpa using hj) i (by simp)
        have hc2 : (i :: dn').reverse ++ post = c := by rw [← hc']; simp
        simp only [exDraw, ho'] at hx'
        cases hb : isRead o.op with
        | true =>
          obtain ⟨v, fr2, hv, q1, q2⟩ := readStep hb hx' hR'
          rw [hb] at q2
          refine StepVal.wpOp ho (hv.agree hsel hag) ?_
          refine ih (rest := post) (dn := i :: dn') (pend := pend') (A := A'.put o.dst v) (β := β) (fr := fr2) (H := H) hn' hc2 ?_ q2 q1 hE
          exact {
            size := by simp [D.size]
            mem := mem'
            pnd := D'.pnd
            sub := fun j hj => List.mem_cons_of_mem _ (D'.sub j hj)
            read := D'.read
            agree := fun t ht => put_agree D'.asize fun _ => D'.agree t ht
            asize := by rw [size_put, size_put]; exact D'.asize
            adef := by rw [defers_put, defers_put]; exact D'.adef
            val := fun j hj oj hoj => val_put ((C.self j (hdc' j (D'.sub j hj))).sel oj (by simpa using hoj)) (fun t ht => (hpair' j (D'.sub j hj)).looks oj o (by simpa using hoj) ho' t ht) (D'.val j hj oj hoj)
            closed := closed' }
        | false =>
          obtain ⟨e1, e2⟩ := agree_exec hsel hag
          cases hgr : grows o.op with
          | true =>
            rw [hb, hgr] at hx'
            have finish : ∀ {v : Value} {w' : World} {β' : Nat → Loc} {H' : Heap} {fr2 : Fr}, Rel w' β' F H' fr2 (A'.put o.dst v) → Ext (en w β F H) (en w' β' F H') → Sup w w' →
                exDraw P T ops.toList tbl post (i :: dn') fr2 H' K = some x → wpAny P .any ops Q n (listed.setIfInBounds i true) (a.put o.dst v) w' := by
              intro v w' β' H' fr2 hR2 hE2 hsup hre
              refine ih (rest := post) (dn := i :: dn') (pend := pend') (A := A'.put o.dst v) (β := β') (fr := fr2) (H := H') hn' hc2 ?_ hre hR2 (hE.trans hE2)
              exact {
                size := by simp [D.size]
                mem := mem'
                pnd := D'.pnd
                sub := fun j hj => List.mem_cons_of_mem _ (D'.sub j hj)
                read := D'.read
                agree := fun t ht => put_agree D'.asize fun _ => D'.agree t ht
                asize := by rw [size_put, size_put]; exact D'.asize
                adef := by rw [defers_put, defers_put]; exact D'.adef
                val := fun j hj oj hoj => by
                  obtain ⟨v', k1, k2⟩ := val_put (u := v) ((C.self j (hdc' j (D'.sub j hj))).sel oj (by simpa using hoj)) (fun t ht => (hpair' j (D'.sub j hj)).looks oj o (by simpa using hoj) ho' t ht) (D'.val j hj oj hoj)
                  exact ⟨v', k1.sup hsup, k2⟩
                closed := closed' }
            unfold wpOp
            simp only [ho]
            rw [e2]
            rcases exStep_cases hx' hR' with ⟨hw, fr1, p1, p2⟩ | ⟨hw, fr1, p1, p2⟩
            · rw [if_pos hw]
              refine .inl ?_
              unfold exOp at p2
              rw [hb] at p2
              have p3 : exAct P T fr1 H o.op (fun s H => fH H fun H => putF fr1 o.dst s fun fr => exDraw P T ops.toList tbl post (i :: dn') fr H K) = some x := p2
              obtain ⟨v, w', hrun, hsup, hv⟩ := exGrow_ok hgr p3 p1
              unfold Oper.wp
              rw [e1, hrun]
              obtain ⟨fr2, H', β', s1, s2, s3⟩ := res_put p1 hv
              exact finish s1 s2 hsup s3
            · rw [if_neg (by rw [hw]; simp)]
              exact finish (p1.put p1.ok (Ext.refl _) o.dst undef_tup) (Ext.refl _) (Sup.refl w) p2
          | false =>
          rw [hb, hgr] at hx'
          have finish : ∀ {v : Value} {w' : World} {β' : Nat → Loc} {H' : Heap} {fr2 : Fr}, Rel w' β' F H' fr2 (A'.put o.dst v) → Ext (en w β F H) (en w' β' F H') →
              recheck P ops.toList (befOf tbl i) dn'.reverse fr2 H' (exDraw P T ops.toList tbl post (i :: dn') fr2 H' K) = some x → wpAny P .any ops Q n (listed.setIfInBounds i true) (a.put o.dst v) w' := by
            intro v w' β' H' fr2 hR2 hE2 hre
            have hpw := C.pair
            rw [← hc', List.pairwise_append] at hpw
            obtain ⟨A2, r1, r2, r3, r4, r5, r6⟩ := recheck_ok C (pend := pend') D'.read (fun j hj hm => by
                have hl := D'.bef (C.tbl i j hm) fun o' ho'' => by rw [ho] at ho''; cases ho''; exact hdeps
                exact ((D'.mem j).1 hl).2 hj) dn'.reverse [] hre hR2 (fun j hj => hdc' j (by simpa using hj)) hpw.1 (fun j hj => nomatch hj) (fun j hj => nomatch hj)
            refine ih (rest := post) (dn := i :: dn') (pend := pend') (A := A2) (β := β') (fr := fr2) (H := H') hn' hc2 ?_ r2 r1 (hE.trans hE2)
            exact {
              size := by simp [D.size]
              mem := mem'
              pnd := D'.pnd
              sub := fun j hj => List.mem_cons_of_mem _ (D'.sub j hj)
              read := D'.read
              agree := fun t ht => by
                rw [r4 t ht]
                exact put_agree D'.asize fun _ => D'.agree t ht
              asize := by rw [size_put, r5, size_put]; exact D'.asize
              adef := by rw [defers_put, r6, defers_put]; exact D'.adef
              val := fun j hj oj hoj => r3 j (by simpa using D'.sub j hj) (.inl hj) oj hoj
              closed := closed' }
          unfold wpOp
          simp only [ho]
          rw [e2]
          rcases exStep_cases hx' hR' with ⟨hw, fr1, p1, p2⟩ | ⟨hw, fr1, p1, p2⟩
          · rw [if_pos hw]
            have hok := exOp_ok hT p2 p1
            refine .inl ?_
            unfold Oper.wp
            rw [e1]
            generalize (execOp A'.eval o).run P w = r at hok
            cases hok with
            | value v w' hv =>
              obtain ⟨fr2, H', β', s1, s2, s3⟩ := res_put p1 hv
              exact finish s1 s2 s3
            | skip w' hv =>
              obtain ⟨fr2, H', β', s1, s2, s3⟩ := res_put p1 hv
              exact finish s1 s2 s3
            | enter f args w' hcall =>
              refine Calls.mono hcall fun e w'' he => ?_
              obtain ⟨v, rfl, hv⟩ := he
              obtain ⟨fr2, H', β', s1, s2, s3⟩ := res_put p1 hv
              exact finish s1 s2 s3
          · rw [if_neg (by rw [hw]; simp)]
            exact finish (p1.put p1.ok (Ext.refl _) o.dst undef_tup) (Ext.refl _) p2

/-- the rule -/
theorem exDraw_wp (hT : TabOK P T) (hm : P.follows .mixedOrders = true) {id : Nat} {c : List Nat} (hb : befTbl ops.toList c [] [] = some tbl) {Q : Exit → Act → World → Prop} {e0 : En} {K : Fr → Heap → Option R}
    (hQ : ∀ a' w', After e0 F x K a' w' → Q .normal a' w') (hx : exDraw P T ops.toList tbl c [] fr H K = some x) (hR : Rel w β F H fr a) (hE : Ext e0 (en w β F H)) : (Code.region id ops true).wp P Q a w := by
  obtain ⟨O, hTb, _⟩ := befTbl_spec c [] [] tbl hb List.nodup_nil TblOk.nil (fun p hp => nomatch hp)
  have hnd : c.Nodup := by simpa using O.nd
  have hlen : c.length = ops.size := by simpa using O.len
  have hlt : ∀ i ∈ c, i < ops.size := fun i hi => by
    obtain ⟨o, ho⟩ := (O.self i hi).ex
    have := (List.getElem?_eq_some_iff.1 ho).1
    simpa using this
  have hall : ∀ i, i < ops.size → i ∈ c := by
    intro i hi
    refine Classical.byContradiction fun hn => ?_
    have h1 : (i :: c).Nodup := List.nodup_cons.2 ⟨hn, hnd⟩
    have h2 : (i :: c) ⊆ List.range ops.size := fun k hk => by
      rw [List.mem_range]
      rcases List.mem_cons.1 hk with rfl | hk
      · exact hi
      · exact hlt k hk
    have h3 := h1.length_le_of_subset h2
    simp at h3
    omega
  have hpair : c.Pairwise (PairOk ops.toList tbl) := by
    rw [List.pairwise_iff_getElem]
    intro i j hi hj hij
    have e : c = c.take j ++ c[j] :: c.drop (j + 1) := by
      rw [← List.drop_eq_getElem_cons hj, List.take_append_drop]
    refine O.pair _ _ _ e c[i] (.inr ?_)
    rw [List.mem_take_iff_getElem]
    exact ⟨i, by omega, rfl⟩
  have C : Cst ops tbl c := ⟨hnd, hall, hlt, O.self, hpair, fun l i r e o ho j hj => (O.dep l i r e o (by simpa using ho) j hj).resolve_left (fun h => nomatch h), hTb⟩
  refine wp_region_any hm ?_
  have hn : ops.size = ([] : List Nat).length + c.length := by simp [hlen]
  rw [hn]
  refine draw_any hT C hQ _ rfl (by simp) (A := a) (β := β) (w := { w with drawn := w.drawn + 1 }) (fr := fr) (H := H) ?_ hx (hR.keep (ok_drew hR.ok) ext_drew) (hE.trans ext_drew)
  exact {
    size := by simp [hlen]
    mem := fun i => by
      by_cases h : i < c.length <;> simp [h]
    pnd := List.nodup_nil
    sub := fun j hj => nomatch hj
    read := fun j hj => nomatch hj
    agree := fun _ _ => rfl
    asize := rfl
    adef := rfl
    val := fun j hj => nomatch hj
    closed := fun i hi => by
      exfalso
      by_cases h : i < c.length <;> simp [h] at hi }

end
end Go.Gx
