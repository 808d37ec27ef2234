/-
  FixPuts: numbers in the place of variables: the value is as under that assignment, whatever the others are; with all of them it is known.
-/
import Derived.Test.YteagdmkedffplaaPFixC
import Derived.Test.YteagdmkedffplaaPFixSf6db
import Derived.Test.YteagdmkedffplaaPTermValsW
import Derived.Test.YteagdmkedffplaaPTermV0112
import Derived.Test.YteagdmkedffplaaPTermW
import Derived.Test.YteagdmkedffplaaPTermWf
set_option linter.unusedSimpArgs false
set_option linter.unusedVariables false
namespace Go.Proofs.Yteagdmkedffplaa
open Go.Gx

theorem awake_fp (n : Nat) {R : Type} (k : Bool → Option R) : law3_awake (n + 3000) k = k true := by kernel_rfl

/-- numbers of sixteen bits -/
def U16s (l : List Int) : Prop := ∀ x ∈ l, 0 ≤ x ∧ x < 65536
theorem U16s.get {l : List Int} (h : U16s l) (i : Nat) : 0 ≤ l.getD i 0 ∧ l.getD i 0 < 65536 := by
  rw [List.getD_eq_getElem?_getD]
  by_cases c : i < l.length
  · rw [List.getElem?_eq_getElem c]
    exact h _ (List.getElem_mem c)
  · rw [List.getElem?_eq_none (by omega)]
    exact ⟨by decide, by decide⟩
theorem U16s.set {l : List Int} (h : U16s l) (i : Nat) {x : Int} (hx : 0 ≤ x ∧ x < 65536) : U16s (l.set i x) := fun y hy => by
  rcases List.mem_or_eq_of_mem_set hy with hy | rfl
  · exact h y hy
  · exact hx
theorem U16s.rep (n : Nat) : U16s (List.replicate n 0) := fun y hy => by
  rw [(List.mem_replicate.1 hy).2]
  exact ⟨by decide, by decide⟩

theorem fp_l0 (N : Nat) (ids vals : List Int) (l : List Nd) (b : By) (ws : Ws) (L : List Md) :
    ∀ (n q : Nat) (e : List Int), q ≤ 64 → 64 - q < n → e.length = 64 → U16s e → ∃ e' : List Int, e'.length = 64 ∧ U16s e' ∧
      ∀ {R : Type} (k : List Int → List Int → List Nd → By → Ws → List Md → List Int → Option R), law3_FixPuts_l0 N k n ids vals (q : Int) l b ws L e = k ids vals l b ws L e'
  | 0, q, e, hq, h, _, _ => by omega
  | n + 1, q, e, hq, h, hl, hu => by
    by_cases c : q < 64
    · obtain ⟨e', h1, h2, h3⟩ := fp_l0 N ids vals l b ws L n (q + 1) (e.set q (IntKind.wrap .u16 (IntKind.wrap .i64 ((IntKind.wrap .i64 ((q : Int) * (7919 : Int))) + (13 : Int))))) (by omega) (by omega) (by rw [List.length_set]; exact hl) (hu.set q (by rw [wu16_mod]; omega))
      refine ⟨e', h1, h2, fun k => ?_⟩
      unfold law3_FixPuts_l0 law3_FixPuts_l0_T0
      rw [br_dec, if_pos (by omega), inB_of (by omega), br_true, Int.toNat_natCast, decide_eq_true (by omega), br_true, w64_succ (by omega)]
      exact h3 k
    · have e1 : q = 64 := by omega
      refine ⟨e, hl, hu, fun k => ?_⟩
      unfold law3_FixPuts_l0 law3_FixPuts_l0_T0
      rw [decide_eq_false (by omega), br_false]

/-- what is put, so far -/
structure PInv (ids vals e : List Int) (q : Nat) (put : List Int) (has : List Bool) : Prop where
  pl : put.length = 64
  hl : has.length = 64
  pu : U16s put
  h : ∀ v : Nat, v < 64 → has.getD v false = (fIx (v : Int) (ids.take q)).isSome
  p : ∀ v : Nat, v < 64 → put.getD v 0 = (match fIx (v : Int) (ids.take q) with | some j => vals.getD j 0 | none => e.getD v 0)

theorem take_snoc {l : List Int} {q : Nat} (c : q < l.length) : l.take (q + 1) = l.take q ++ [l.getD q 0] := by
  rw [List.take_add_one, List.getElem?_eq_getElem c, List.getD_eq_getElem?_getD, List.getElem?_eq_getElem c]
  rfl

theorem fIx_snoc (v : Int) {l : List Int} {q : Nat} (c : q < l.length) : fIx v (l.take (q + 1)) = (match fIx v (l.take q) with | some j => some j | none => if v = l.getD q 0 then some q else none) := by
  rw [take_snoc c, fIx_app]
  cases fIx v (l.take q) with
  | some j => rfl
  | none =>
    show Option.map _ (fIx v [l.getD q 0]) = _
    unfold fIx
    by_cases e : v = l.getD q 0
    · rw [if_pos e]
      show some (0 + (l.take q).length) = if v = l.getD q 0 then some q else none
      rw [if_pos e, List.length_take, Nat.zero_add, Nat.min_eq_left (by omega)]
    · rw [if_neg e]
      show none = if v = l.getD q 0 then some q else none
      rw [if_neg e]

theorem fp_l1 (N : Nat) (ids vals : List Int) (hids : ids.length = vals.length) (hsm : ids.length ≤ 40) (uv : U16s vals) (l : List Nd) (b : By) (ws : Ws) (L : List Md) (e : List Int) :
    ∀ (n q : Nat) (put : List Int) (has : List Bool), q ≤ ids.length → ids.length - q < n → PInv ids vals e q put has → ∃ put' has', PInv ids vals e ids.length put' has' ∧
      ∀ {R : Type} (k : List Int → List Int → List Nd → By → Ws → List Md → List Int → List Int → List Bool → Option R), law3_FixPuts_l1 N k n ids vals (q : Int) l b ws L e put has = k ids vals l b ws L e put' has'
  | 0, q, put, has, hq, h, _ => by omega
  | n + 1, q, put, has, hq, h, I => by
    by_cases c : q < ids.length
    · have bi : inB (q : Int) ids.length = true := inB_of (by omega)
      have bv : inB (q : Int) vals.length = true := inB_of (by omega)
      have hd1 := listDec_int .i64 ids
      have hd2 := listDec_int .u16 vals
      -- nothing new
      have keep : (∀ v : Nat, v < 64 → (v : Int) = ids.getD q 0 → (fIx (v : Int) (ids.take q)).isSome = true) → PInv ids vals e (q + 1) put has := fun hk => by
        refine ⟨I.pl, I.hl, I.pu, fun v hv => ?_, fun v hv => ?_⟩
        · rw [I.h v hv, fIx_snoc _ c]
          cases hf : fIx (v : Int) (ids.take q) with
          | some j => rfl
          | none =>
            show false = _
            rw [if_neg (fun e => by have := hk v hv e; rw [hf] at this; cases this)]
            rfl
        · rw [I.p v hv, fIx_snoc _ c]
          cases hf : fIx (v : Int) (ids.take q) with
          | some j => rfl
          | none =>
            show e.getD v 0 = (match (if (v : Int) = ids.getD q 0 then some q else none) with | some j => vals.getD j 0 | none => e.getD v 0)
            rw [if_neg (fun e => by have := hk v hv e; rw [hf] at this; cases this)]
      have goKeep : PInv ids vals e (q + 1) put has → (∃ put' has', PInv ids vals e ids.length put' has' ∧ ∀ {R : Type} (k : List Int → List Int → List Nd → By → Ws → List Md → List Int → List Int → List Bool → Option R), law3_FixPuts_l1 N k n ids vals ((q + 1 : Nat) : Int) l b ws L e put has = k ids vals l b ws L e put' has') := fun I' =>
        fp_l1 N ids vals hids hsm uv l b ws L e n (q + 1) put has (by omega) (by omega) I'
      by_cases h0 : 0 ≤ ids.getD q 0
      · by_cases h64 : ids.getD q 0 < 64
        · obtain ⟨v, hv⟩ : ∃ v : Nat, ids.getD q 0 = (v : Int) := ⟨(ids.getD q 0).toNat, by omega⟩
          have hv64 : v < 64 := by omega
          have b64 : inB (v : Int) 64 = true := inB_of (by omega)
          have d64 : decide (v < 64) = true := decide_eq_true hv64
          cases hb : has.getD v false with
          | true =>
            obtain ⟨put', has', I', hc⟩ := goKeep (keep (fun u hu e => by
              have : u = v := by omega
              subst this
              rw [← I.h u hu, hb]))
            refine ⟨put', has', I', fun k => ?_⟩
            unfold law3_FixPuts_l1 law3_FixPuts_l1_T0
            rw [br_dec, if_pos (by omega), w64_succ (by omega)]
            simp only [bi, bv, br_true, Int.toNat_natCast]
            rw [br_dec, if_pos h0, br_dec, if_pos h64]
            simp only [hv, b64, d64, br_true, Int.toNat_natCast, hb, Bool.not_true, br_false]
            exact hc k
          | false =>
            have hnone : fIx (v : Int) (ids.take q) = none := by
              have := I.h v hv64
              rw [hb] at this
              cases hf : fIx (v : Int) (ids.take q) with
              | none => rfl
              | some j => rw [hf] at this; cases this
            have I' : PInv ids vals e (q + 1) (put.set v (vals.getD q 0)) (has.set v true) := by
              have hpl := I.pl
              have hhl := I.hl
              refine ⟨by rw [List.length_set]; exact I.pl, by rw [List.length_set]; exact I.hl, I.pu.set v (uv.get q), fun u hu => ?_, fun u hu => ?_⟩
              · rw [getD_set, fIx_snoc _ c, hv]
                by_cases e : v = u
                · subst e
                  rw [if_pos ⟨rfl, by omega⟩, hnone]
                  simp
                · rw [if_neg (fun h => e h.1), I.h u hu]
                  cases fIx (u : Int) (ids.take q) with
                  | some j => rfl
                  | none =>
                    show false = _
                    rw [if_neg (by omega)]
                    rfl
              · rw [getD_set, fIx_snoc _ c, hv]
                by_cases e' : v = u
                · subst e'
                  rw [if_pos ⟨rfl, by omega⟩, hnone]
                  simp
                · rw [if_neg (fun h => e' h.1), I.p u hu]
                  cases fIx (u : Int) (ids.take q) with
                  | some j => rfl
                  | none =>
                    show e.getD u 0 = (match (if (u : Int) = (v : Int) then some q else none) with | some j => vals.getD j 0 | none => e.getD u 0)
                    rw [if_neg (by omega)]
            have bp : inB (v : Int) put.length = true := inB_of (by have := I.pl; omega)
            have dp : decide (v < put.length) = true := decide_eq_true (by have := I.pl; omega)
            obtain ⟨put', has', I2, hc⟩ := fp_l1 N ids vals hids hsm uv l b ws L e n (q + 1) _ _ (by omega) (by omega) I'
            refine ⟨put', has', I2, fun k => ?_⟩
            unfold law3_FixPuts_l1 law3_FixPuts_l1_T0
            rw [br_dec, if_pos (by omega), w64_succ (by omega)]
            simp only [bi, bv, br_true, Int.toNat_natCast]
            rw [br_dec, if_pos h0, br_dec, if_pos h64]
            simp only [hv, b64, d64, br_true, Int.toNat_natCast, hb, Bool.not_false, hd1, hd2, decide_true, bp, dp]
            exact hc k
        · obtain ⟨put', has', I', hc⟩ := goKeep (keep (fun u hu e => by omega))
          refine ⟨put', has', I', fun k => ?_⟩
          unfold law3_FixPuts_l1 law3_FixPuts_l1_T0
          rw [br_dec, if_pos (by omega), w64_succ (by omega)]
          simp only [bi, br_true, Int.toNat_natCast]
          rw [br_dec, if_pos h0, br_dec, if_neg h64]
          exact hc k
      · obtain ⟨put', has', I', hc⟩ := goKeep (keep (fun u hu e => by omega))
        refine ⟨put', has', I', fun k => ?_⟩
        unfold law3_FixPuts_l1 law3_FixPuts_l1_T0
        rw [br_dec, if_pos (by omega), w64_succ (by omega)]
        simp only [bi, br_true, Int.toNat_natCast]
        rw [br_dec, if_neg h0]
        exact hc k
    · have e1 : q = ids.length := by omega
      subst e1
      refine ⟨put, has, I, fun k => ?_⟩
      unfold law3_FixPuts_l1 law3_FixPuts_l1_T0
      rw [decide_eq_false (by omega), br_false]

theorem fp_l3 (N : Nat) (ids vals : List Int) (q t : Int) (l : List Nd) (b : By) (ws : Ws) (L : List Md) (e : List Int) (has : List Bool) (ys V : List Int) (hV : ∀ t ∈ V, 0 ≤ t ∧ t < 64) (hlen : V.length ≤ 64) {R : Type} (k : List Int → List Int → Int → Int → Bool → List Nd → By → Ws → List Md → List Int → List Bool → List Int → Option R) :
    ∀ (n i : Nat) (acc : Bool), i ≤ V.length → V.length - i < n → law3_FixPuts_l3 N k n ids vals q t acc (i : Int) l b ws L e has ys V = k ids vals q t (acc && (V.drop i).all (fun v => has.getD v.toNat false)) l b ws L e has ys
  | 0, i, acc, _, h => by omega
  | n + 1, i, acc, hi, h => by
    unfold law3_FixPuts_l3 law3_FixPuts_l3_T0
    by_cases c : i < V.length
    · have hg : V.getD i 0 = V[i] := by rw [List.getD_eq_getElem?_getD, List.getElem?_eq_getElem c]; rfl
      have hm := hV _ (List.getElem_mem c)
      rw [← hg] at hm
      have e1 : V.drop i = V.getD i 0 :: V.drop (i + 1) := by
        rw [hg]
        exact (List.getElem_cons_drop c).symm
      rw [br_dec, if_pos (by omega), w64_succ (by omega), e1, List.all_cons]
      cases acc with
      | true =>
        rw [br_true, inB_of (by omega), br_true, Int.toNat_natCast, decide_eq_true c, br_true, inB_of (by omega), br_true, decide_eq_true (by omega), br_true, Bool.true_and]
        exact fp_l3 N ids vals q t l b ws L e has ys V hV hlen k n (i + 1) _ (by omega) (by omega)
      | false =>
        rw [br_false, Bool.false_and]
        have ih := fp_l3 N ids vals q t l b ws L e has ys V hV hlen k n (i + 1) false (by omega) (by omega)
        rw [Bool.false_and] at ih
        exact ih
    · have e1 : i = V.length := by omega
      subst e1
      rw [decide_eq_false (by omega), br_false, List.drop_length, List.all_nil, Bool.and_true]

theorem fp_l2 (N : Nat) (hN : 70000 ≤ N ∧ N ≤ 2 ^ 62) {L : List Md} {l0 : List Nd} {b0 : By} {ws : Ws} {vs : List Int} {n0 : Nat} (I : BInv L l0 b0 ws vs n0) (hL : L.length ≤ 100) (ids vals e put : List Int) (has : List Bool) (hids : ids.length = vals.length) (hsm : ids.length ≤ 40) (uv : U16s vals) (el : e.length = 64) (ue : U16s e)
    (P : PInv ids vals e ids.length put has) (ys : List Int) (y1 : ys.length = L.length) (y2 : ∀ i < L.length, ys.getD i 0 = ((mvals (envA put) L).getD i 0 : Int)) {R : Type} (k0 : Bool → Option R) (k1 : Option R) :
    ∀ (n q : Nat) (l : List Nd) (b : By), q ≤ L.length → L.length - q < n → Grown l0 q l b → law3_FixPuts_l2 N k0 k1 n ids vals (q : Int) l b ws L e has ys = k1
  | 0, q, l, b, hq, h, _ => by omega
  | n + 1, q, l, b, hq, h, g => by
    by_cases c : q < L.length
    · have M := I.made q c
      have hfew := I.few
      have ht0 : Tm l0 (L.getD q md0).t := M.tm
      have ht := ht0.le g.le
      have hlen := g.few
      have htri := tri_le (q := q + 1) (by omega)
      have htq := M.tq
      have htri' : tri (q + 1) = tri q + 9 * (q + 1) := rfl
      obtain ⟨t, l', b', G, hnum, hc⟩ := Some_f6db N hN g.ar ws ht (ids := ids) (vals := vals) hids (by omega) (fun j => uv.get j) (by omega)
      obtain ⟨zs, C, _⟩ := Under_eq N g.ar ws ht hN
      have ht' : Tm l' (L.getD q md0).t := ht.le G.le
      obtain ⟨us, inn, C', _, hin, hcv⟩ := Vars_eq N hN G.ar ws ht'
      have htake : ids.take ids.length = ids := List.take_length
      have hsame : val (putE ids vals (envA e)) l (L.getD q md0).t = val (envA put) l (L.getD q md0).t := by
        refine Cl.same g.ar C (fun u hu h2 => ?_) (L.getD q md0).t.toNat _ (by have := ht.1; omega) C.has
        have hv := (g.ar.nodeOk (C.tm u hu).1).1.var h2
        have hp := P.p (nd l u).v.toNat (by omega)
        rw [htake] at hp
        unfold envA envOf
        rw [P.pl, if_pos (by omega), hp]
        unfold putE
        cases fIx (((nd l u).v.toNat : Nat) : Int) ids with
        | some j => rfl
        | none =>
          show envOf e e.length _ = _
          unfold envOf
          rw [el, if_pos (by omega)]
      have hwd : wd l' t = (L.getD q md0).w := by rw [G.wd, wd_le M.tm g.le, M.wd]
      have hv : (val (envA e) l' t : Int) = ys.getD q 0 := by
        rw [y2 q c, ← M.val (envA put), ← val_le M.tm.2 g.le, ← hsame, ← G.v]
      have hknown : ((pickV inn 64).all (fun v => has.getD v.toNat false)) = true → isNum l' t = true := fun hall => by
        have hop := hnum us (fun u hu => by
          have hu' := C'.tm u hu
          have hut : Tm l u := ⟨hu'.1.1, by have := hu'.2; have := ht.2; omega⟩
          have en := nd_le hut G.le
          rw [← en]
          refine ⟨C'.pa u hu, C'.pb u hu, C'.pc u hu, fun h2 => ?_⟩
          have hvr := (G.ar.nodeOk hu'.1).1.var h2
          have hm : ((nd l' u).v) ∈ pickV inn 64 := mem_pickV.2 ⟨hvr.1, by omega, hin u hu h2⟩
          have := List.all_eq_true.1 hall _ hm
          have hh := P.h (nd l' u).v.toNat (by omega)
          rw [this, htake, show (((nd l' u).v.toNat : Nat) : Int) = (nd l' u).v by omega] at hh
          exact hh.symm) C'.has
        simp [isNum, hop]
      have ih := fp_l2 N hN I hL ids vals e put has hids hsm uv el ue P ys y1 y2 k0 k1 n (q + 1) l' b' (by omega) (by omega) ⟨g.le.trans G.le, G.ar, by have := G.few; omega⟩
      have b1 : inB (q : Int) L.length = true := inB_of (by omega)
      have b2 : inB (q : Int) ys.length = true := inB_of (by omega)
      have d2 : decide (q < ys.length) = true := decide_eq_true (by omega)
      have hV : ∀ t ∈ pickV inn 64, 0 ≤ t ∧ t < 64 := fun t ht => by
        have := mem_pickV.1 ht
        exact ⟨this.1, by omega⟩
      unfold law3_FixPuts_l2 law3_FixPuts_l2_T0
      rw [br_dec, if_pos (by omega), b1, br_true, Int.toNat_natCast, decide_eq_true c, br_true]
      refine (hc _).trans ?_
      simp only [decide_true, Bool.not_true, Bool.not_false, br_true, b1, decide_eq_true c]
      refine (Width_eq N G.ar.len _ _ _ _).trans ?_
      rw [show decide (wd l' t = (L.getD q ((0 : Int), (((0 : Int), ((0 : Int), ((0 : Int), ((0 : Int), ((0 : Int), (0 : Int)))))), ((0 : Int), ((0 : Int), ((0 : Int), (0 : Int))))))).2.2.1) = true from decide_eq_true hwd]
      simp only [decide_true, Bool.not_true, Bool.not_false, br_true, b2, d2]
      refine (Eval_0112 N hN G.ar ws e ue G.tm _).trans ?_
      rw [show (val (envOf e e.length) l' t : Int) = _ from hv]
      simp only [decide_true, Bool.not_true, br_false, br_true]
      refine (hcv _).trans ?_
      refine (fp_l3 N ids vals (q : Int) t l' b' ws L e has ys (pickV inn 64) hV (pickV_len inn 64) _ N 0 true (by omega) (by have := pickV_len inn 64; omega)).trans ?_
      rw [Bool.true_and, List.drop_zero]
      refine (Known_eq N G.ar ws G.tm _).trans ?_
      rw [w64_succ (by omega)]
      cases hall : (pickV inn 64).all (fun v => has.getD v.toNat false) with
      | true =>
        rw [br_true, hknown hall, Bool.not_true, br_false]
        exact ih
      | false =>
        rw [br_false]
        exact ih
    · have e1 : q = L.length := by omega
      subst e1
      unfold law3_FixPuts_l2 law3_FixPuts_l2_T0
      rw [decide_eq_false (by omega), br_false]

theorem fixPuts_true (M : Nat) (hM : 80000 ≤ M ∧ M ≤ 2 ^ 61) {R : Type} (rows : List Nd) (ids vals : List Int) (hr : RowsOk rows) (uv : U16s vals) (k : Bool → Option R) : law3_FixPuts (M + 3000) rows ids vals k = k true := by
  unfold law3_FixPuts law3_FixPuts_T
  rw [awake_fp]
  have hN : 70000 ≤ M + 3000 ∧ M + 3000 ≤ 2 ^ 62 := by
    have e1 : (2 : Nat) ^ 61 = 2305843009213693952 := by decide
    have e2 : (2 : Nat) ^ 62 = 4611686018427387904 := by decide
    omega
  generalize M + 3000 = N at hN ⊢
  rw [Bool.not_true, br_false, br_ndec]
  by_cases c1 : (100 : Int) < (Nat.cast rows.length : Int)
  · rw [if_pos c1]
  rw [if_neg c1, br_ndec]
  by_cases c2 : (40 : Int) < (Nat.cast ids.length : Int)
  · rw [if_pos c2]
  rw [if_neg c2, br_dec]
  by_cases c3 : (40 : Int) < (Nat.cast vals.length : Int)
  · rw [if_pos c3]
  rw [if_neg c3]
  obtain ⟨L, l, b, ws, vs, I, hc⟩ := Build_eq N hN rows hr (by omega)
  have hbig : L.length ≤ 100 := by have := I.cnt; omega
  unfold term_New term_New_T
  refine (hc _).trans ?_
  rw [Bool.not_true, br_false]
  obtain ⟨e, el, ue, h0⟩ := fp_l0 N ids vals l b ws L N 0 (List.replicate 64 0) (by omega) (by omega) (by simp) (U16s.rep 64)
  refine (h0 _).trans ?_
  rw [br_ndec]
  by_cases hids : ids.length = vals.length
  · rw [if_pos (by omega)]
    unfold law3_FixPuts_lj0 law3_FixPuts_lj0_T0
    rw [fits_of (by omega), br_true, sub_all, decide_eq_true (by omega), Bool.and_true, br_true]
    have P0 : PInv ids vals e 0 e (List.replicate 64 false) := ⟨el, by simp, ue, fun v hv => by
      rw [List.getD_eq_getElem?_getD, List.getElem?_replicate, if_pos hv]
      rfl, fun v hv => rfl⟩
    obtain ⟨put, has, P, h1⟩ := fp_l1 N ids vals hids (by omega) uv l b ws L e N 0 e (List.replicate 64 false) (by omega) (by omega) P0
    refine (h1 _).trans ?_
    obtain ⟨ys, y1, y2, y3⟩ := Values_eqW N I put P.pu (by omega) (.inr (by omega))
    refine (y3 _).trans ?_
    exact fp_l2 N hN I hbig ids vals e put has hids (by omega) uv el ue P ys y1 y2 (fun b => k b) (k true) N 0 l b (by omega) (by omega) (Grown.start I.ar)
  · rw [if_neg (by omega)]
    have hno : ¬ Tm l 0 := fun h => absurd h.1 (by omega)
    unfold fix_Some_f6db fix_Some_f6db_T
    rw [Node_eq N I.ar.len, decide_eq_false hno]
    simp only [Bool.not_true, Bool.not_false, br_false, decide_true]
    rw [br_same]

end Go.Proofs.Yteagdmkedffplaa
