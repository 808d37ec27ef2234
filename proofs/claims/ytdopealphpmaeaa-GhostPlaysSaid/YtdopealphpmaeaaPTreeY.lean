/-
 the tree of names (chapter 13): what the program's functions come to; its tree stands beside the reference's list.
-/
import Derived.Test.YtdopealphpmaeaaPTreeX
set_option linter.unusedSimpArgs false
set_option linter.unusedVariables false
namespace Go.Proofs.Ytdopealphpmaeaa
open Go.Gx

/-! ### the program's functions -/
abbrev keyL (l : List UInt8) : ByteArray × ByteArray := (bs (splitL l).1, bs (splitL l).2)

def dropC (l : List UInt8) (dir : Bool) (m : TM) : Int :=
 if (getV l m).2.2 ≠ 0 then (getV l m).2.2 else if dir = false ∧ (getV l m).2.1 = true then 65301 else if dir = true ∧ (getV l m).2.1 = false then 65300
 else if dir = true ∧ 0 < mcount (bs l) m then 65319 else 0

theorem drop_eq {R : Type} (N : Nat) (hN : 8 < N) (l : List UInt8) (dir : Bool) (nx : Int) (m : TM) (k : Int → Int → TM → Option R) :
  Z111 N (bs l) dir nx m k = if dropC l dir m = 0 then k 0 nx (tdel m (keyL l)) else k (dropC l dir m) nx m := by
 unfold Z111 Z111_T dropC
 have hm : ∀ k : Int → Int → TM → Option R, tree_Tree_many_fb98 (bs l) nx m k = k (mcount (bs l) m) nx m := fun k => rfl
 have hd : mdel (.pair .str .str) (.pair (.int .i64) .bool) m (bs (splitL l).1, bs (splitL l).2) = tdel m (keyL l) := rfl
 rw [get_eq N hN]
 simp only [br_ndec, Z118_eq' N hN, hm, br_dec, hd]
 by_cases h : (getV l m).2.2 = 0
 ·rw [if_pos h, if_neg (not_not_intro h)]
  by_cases hc : 0 < mcount (bs l) m
  ·cases dir <;> cases (getV l m).2.1 <;> simp [hc]
  ·cases dir <;> cases (getV l m).2.1 <;> simp [hc]
 ·rw [if_neg h, if_pos h, if_neg h]

theorem Many_eq {R : Type} (N : Nat) (hN : 8 < N) (l : List UInt8) (nx : Int) (m : TM) (k : Int → Int → TM → Option R) :
  Z114 N (bs l) nx m k = k (if (getV l m).2.2 ≠ 0 then (getV l m).2.2 else if (getV l m).2.1 = false then 65300 else IntKind.wrap .u16 (mcount (bs l) m)) nx m := by
 unfold Z114 Z114_T
 have hm : ∀ k : Int → Int → TM → Option R, tree_Tree_many_fb98 (bs l) nx m k = k (mcount (bs l) m) nx m := fun k => rfl
 rw [get_eq N hN]
 simp only [br_ndec, hm]
 by_cases h : (getV l m).2.2 = 0
 ·rw [if_pos h, if_neg (not_not_intro h)]
  cases (getV l m).2.1 <;> simp
 ·rw [if_neg h, if_pos h]

def moveC (a b : List UInt8) (m : TM) : Int :=
 if (getV a m).2.2 ≠ 0 then (getV a m).2.2 else if (getV a m).2.1 = true then 65301
 else if aboveV (splitL b).1 (splitL b).2 m ≠ 0 then aboveV (splitL b).1 (splitL b).2 m else if a = b then 0 else match tfind m (keyL b) with
  | some y => if y.2 then 65301 else 0
  | none => 0
def movedC (a b : List UInt8) (m : TM) : TM := if moveC a b m = 0 ∧ a ≠ b then tput (tdel m (keyL a)) (keyL b) ((getV a m).1, (getV a m).2.1) else m
def goneC (a b : List UInt8) (m : TM) : Int := if moveC a b m = 0 ∧ a ≠ b then (match tfind m (keyL b) with
 | some y => y.1
 | none => -1) else -1

theorem move_eq {R : Type} (N : Nat) (hN : 8 < N) (a b : List UInt8) (nx : Int) (m : TM) (k : Int → Int → Int → TM → Option R) :
  Z115 N (bs a) (bs b) nx m k = k (goneC a b m) (moveC a b m) nx (movedC a b m) := by
 unfold Z115 Z115_T
 have hf : mfind (.pair .str .str) (.pair (.int .i64) .bool) m (bs (splitL b).1, bs (splitL b).2) = tfind m (keyL b) := rfl
 have hd : mdel (.pair .str .str) (.pair (.int .i64) .bool) m (bs (splitL a).1, bs (splitL a).2) = tdel m (keyL a) := rfl
 have hp : ∀ v, mput (.pair .str .str) (.pair (.int .i64) .bool) (tdel m (keyL a)) (bs (splitL b).1, bs (splitL b).2) v = tput (tdel m (keyL a)) (keyL b) v := fun v => rfl
 rw [get_eq N hN]
 simp only [Z118_eq' N hN, above_eq, hf, hd, hp, bs_inj, Bool.not_not, beq_self_eq_true, br_true]
 simp only [br_dec]
 unfold goneC movedC moveC
 by_cases h : (getV a m).2.2 = 0
 ·simp only [h, if_true, ne_eq, not_true, if_false]
  cases hdir : (getV a m).2.1 with
  | true => simp
  | false =>
   simp only [br_false, Bool.false_eq_true, if_false]
   by_cases h2 : aboveV (splitL b).1 (splitL b).2 m = 0
   ·simp only [h2, if_true, not_true, if_false]
    by_cases e : a = b
    ·simp [e]
    ·simp only [e, if_false, not_false_iff, and_true]
     cases tfind m (keyL b) with
     | none => simp
     | some y =>
      obtain ⟨yi, yd⟩ := y
      cases yd <;> simp
   ·simp [h2]
 ·simp [h]

theorem copy_eq {R : Type} (N : Nat) (nx : Int) (m : TM) (k : Int → TM → Int → TM → Option R) : Z110 N nx m k = k nx m nx m := by
 unfold Z110 Z110_T
 show br (decide (nx = nx)) _ _ = _
 rw [decide_eq_true rfl, br_true]

/-! ### the tree beside the list -/
def ent (x : EN) : (ByteArray × ByteArray) × (Int × Bool) := (keyL (pth x.1), (x.2.2, x.2.1))

structure Rel (m : TM) (L : List EN) : Prop where
 perm : m.Perm (L.map ent)
 name : ∀ x ∈ L, nameB (pth x.1) = true
 nd : (L.map (·.1)).Nodup

theorem pth_bs (l : List UInt8) : pth (bs l) = l := rfl

theorem keyL_inj {p q : List UInt8} (hp : nameB p = true) (hq : nameB q = true) (h : keyL p = keyL q) : p = q := split_inj hp hq (by
 rw [Prod.mk.injEq, bs_inj, bs_inj] at h
 exact Prod.ext h.1 h.2)

theorem Rel.len {m : TM} {L : List EN} (r : Rel m L) : m.length = L.length := by rw [r.perm.length_eq, List.length_map]

theorem Rel.keys {m : TM} {L : List EN} (r : Rel m L) : (m.map (·.1)).Nodup := by
 have h : (m.map (·.1)).Perm ((L.map ent).map (·.1)) := r.perm.map _
 rw [h.nodup_iff]
 have nd := r.nd
 have nm := r.name
 clear h
 clear r
 induction L with
 | nil => simp
 | cons x L ih =>
  simp only [List.map_cons, List.nodup_cons] at nd ⊢
  refine ⟨fun h => nd.1 ?_, ih nd.2 fun y hy => nm y (List.mem_cons_of_mem _ hy)⟩
  simp only [List.map_map, List.mem_map] at h
  obtain ⟨y, hy, he⟩ := h
  have := keyL_inj (nm y (List.mem_cons_of_mem _ hy)) (nm x (by simp)) he
  have : y.1 = x.1 := by rw [← bs_pth y.1, ← bs_pth x.1, this]
  rw [← this]
  exact List.mem_map_of_mem hy

theorem tfind_mem : ∀ {m : TM} {k : ByteArray × ByteArray} {v : Int × Bool}, tfind m k = some v → (k, v) ∈ m
 | [], k, v, h => by cases h
 | p :: r, k, v, h => by
  have h : (if KS.eqb k p.1 = true then some p.2 else tfind r k) = some v := h
  split at h
  ·rename_i e
   have := (Sh.eqb_iff KS_key).1 e
   cases h
   subst this
   exact List.mem_cons_self
  ·exact List.mem_cons_of_mem _ (tfind_mem h)

theorem tfind_of_mem {m : TM} (nd : (m.map (·.1)).Nodup) {k : ByteArray × ByteArray} {v : Int × Bool} (h : (k, v) ∈ m) : tfind m k = some v := by
 have hk : (tfind m k).isSome = true := (mem_keys (ks := KS) (vs := VS) KS_key).2 (List.mem_map_of_mem (f := (·.1)) h)
 obtain ⟨w, hw⟩ := Option.isSome_iff_exists.1 hk
 have h2 := tfind_mem hw
 obtain ⟨A, B, rfl⟩ := List.append_of_mem h
 rw [List.map_append, List.map_cons, List.nodup_append] at nd
 obtain ⟨n1, n2, n3⟩ := nd
 rw [List.nodup_cons] at n2
 rcases List.mem_append.1 h2 with h3 | h3
 ·exact absurd rfl (n3 _ (List.mem_map_of_mem h3) _ (by simp))
 ·rcases List.mem_cons.1 h3 with h4 | h4
  ·rw [hw]
   congr 1
   exact congrArg Prod.snd h4
  ·exact absurd (List.mem_map_of_mem (f := (·.1)) h4) n2.1

theorem Rel.find {m : TM} {L : List EN} (r : Rel m L) {l : List UInt8} (hl : nameB l = true) : tfind m (keyL l) = (lk (bs l) L).map fun x => (x.2.2, x.2.1) := by
 cases hk : lk (bs l) L with
 | some x =>
  have hx : x ∈ L := List.mem_of_find?_eq_some hk
  have he : x.1 = bs l := by have := List.find?_some hk; simpa [isP] using this
  refine tfind_of_mem r.keys ?_
  have : ent x ∈ L.map ent := List.mem_map_of_mem hx
  have h2 := r.perm.mem_iff.2 this
  unfold ent at h2
  rw [he, pth_bs] at h2
  exact h2
 | none =>
  cases ht : tfind m (keyL l) with
  | none => rfl
  | some v =>
   have h2 := r.perm.mem_iff.1 (tfind_mem ht)
   obtain ⟨y, hy, he⟩ := List.mem_map.1 h2
   have h3 := keyL_inj (r.name y hy) hl (congrArg Prod.fst he)
   have h4 : y.1 = bs l := by rw [← bs_pth y.1, h3]
   have h5 := List.find?_eq_none.1 hk y hy
   simp [isP, h4] at h5

theorem Rel.above {m : TM} {L : List EN} (r : Rel m L) {l : List UInt8} (hl : nameB l = true) : aboveV (splitL l).1 (splitL l).2 m = aboveR (splitL l).1 L := by
 obtain ⟨a1, a2, a3⟩ := name_parts hl
 unfold aboveV aboveR
 rw [if_neg a1]
 by_cases hs : (splitL l).1 = []
 ·rw [if_pos hs, if_pos hs]
 ·rw [if_neg hs, if_neg hs]
  obtain ⟨b1, b2⟩ := a3 hs
  have hd := r.find b1
  unfold keyL at hd
  rw [b2] at hd
  have hd : tfind m (bs [], bs (splitL l).1) = _ := hd
  rw [hd]
  cases lk (bs (splitL l).1) L <;> rfl

theorem no_above {l : List UInt8} (hl : nameB l = false) (m : TM) : splitL l = ([], []) ∧ aboveV (splitL l).1 (splitL l).2 m = 65282 := by
 have : splitL l = ([], []) := by unfold splitL; rw [hl]; rfl
 exact ⟨this, by rw [this]; rfl⟩

theorem Rel.get {m : TM} {L : List EN} (r : Rel m L) (l : List UInt8) : (getV l m).2.2 = (findR l L).2.2 ∧ (getV l m).2.1 = (findR l L).2.1 ∧ ((findR l L).2.2 = 0 → (getV l m).1 = (findR l L).1) := by
 unfold getV findR
 cases hl : nameB l with
 | false =>
  rw [(no_above hl m).2]
  simp
 | true =>
  rw [r.above hl, if_pos rfl]
  by_cases h : aboveR (splitL l).1 L = 0
  ·rw [if_pos h, if_pos h]
   have hf := r.find hl
   unfold keyL at hf
   rw [hf]
   cases lk (bs l) L with
   | none => exact ⟨rfl, rfl, fun h => absurd h (by decide)⟩
   | some x => exact ⟨rfl, rfl, fun _ => rfl⟩
  ·rw [if_neg h, if_neg h]
   exact ⟨rfl, rfl, fun e => absurd e h⟩

theorem Rel.findV {m : TM} {L : List EN} (r : Rel m L) (l : List UInt8) : findV l m = findR l L := by
 obtain ⟨h1, h2, h3⟩ := r.get l
 unfold Go.Proofs.Ytdopealphpmaeaa.findV
 by_cases h : (findR l L).2.2 = 0
 ·rw [if_pos (by rw [h1]; exact h)]
  exact Prod.ext (h3 h) (Prod.ext h2 h1)
 ·rw [if_neg (by rw [h1]; exact h), h1]
  unfold findR at h ⊢
  by_cases hl : nameB l = true
  ·rw [if_pos hl] at h ⊢
   by_cases ha : aboveR (splitL l).1 L = 0
   ·rw [if_pos ha] at h ⊢
    cases hk : lk (bs l) L with
    | none => rfl
    | some x => rw [hk] at h; exact absurd rfl h
   ·rw [if_neg ha]
  ·rw [if_neg hl]

theorem Rel.makeC {m : TM} {L : List EN} (r : Rel m L) (l : List UInt8) (dir : Bool) : makeC l dir m = makeR l dir L := by
 unfold Go.Proofs.Ytdopealphpmaeaa.makeC makeR
 cases hl : nameB l with
 | false =>
  rw [(no_above hl m).2]
  simp
 | true =>
  have hf := r.find hl
  unfold keyL at hf
  rw [r.above hl, hf, r.len]
  simp

theorem keys_perm {m m' : TM} (h : m.Perm m') (p : ByteArray) : mcount p m = mcount p m' := by
 unfold mcount
 rw [(h.filter _).length_eq]

theorem Rel.count {m : TM} {L : List EN} (r : Rel m L) (p : ByteArray) : mcount p m = IntKind.wrap .i64 (manyR p L : Int) := by
 rw [keys_perm r.perm]
 unfold mcount manyR
 rw [List.countP_eq_length_filter, List.filter_map, List.length_map]
 rfl

/-! ### what is made, dropped, moved -/
theorem tput_perm (k : ByteArray × ByteArray) (v : Int × Bool) : ∀ m : TM, (tput m k v).Perm ((k, v) :: tdel m k)
 | [] => List.Perm.refl _
 | p :: r => by
  have e1 : tput (p :: r) k v = if KS.eqb k p.1 = true then (k, v) :: r else p :: tput r k v := rfl
  have e2 : tdel (p :: r) k = if KS.eqb k p.1 = true then r else p :: tdel r k := rfl
  rw [e1, e2]
  split
  ·exact List.Perm.refl _
  ·exact ((tput_perm k v r).cons p).trans (List.Perm.swap _ _ _)
theorem tdel_perm {k : ByteArray × ByteArray} {v : Int × Bool} : ∀ {m : TM}, tfind m k = some v → m.Perm ((k, v) :: tdel m k)
 | [], h => by cases h
 | p :: r, h => by
  have e2 : tdel (p :: r) k = if KS.eqb k p.1 = true then r else p :: tdel r k := rfl
  have h : (if KS.eqb k p.1 = true then some p.2 else tfind r k) = some v := h
  rw [e2]
  split
  ·rename_i e
   rw [if_pos e] at h
   have := (Sh.eqb_iff KS_key).1 e
   cases h
   subst this
   exact List.Perm.refl _
  ·rename_i e
   rw [if_neg e] at h
   exact ((tdel_perm h).cons p).trans (List.Perm.swap _ _ _)
theorem tdel_none {k : ByteArray × ByteArray} : ∀ {m : TM}, tfind m k = none → tdel m k = m
 | [], _ => rfl
 | p :: r, h => by
  have e2 : tdel (p :: r) k = if KS.eqb k p.1 = true then r else p :: tdel r k := rfl
  have h : (if KS.eqb k p.1 = true then some p.2 else tfind r k) = none := h
  rw [e2]
  split
  ·rename_i e
   rw [if_pos e] at h
   cases h
  ·rename_i e
   rw [if_neg e] at h
   rw [tdel_none h]

theorem del_perm {p : ByteArray} {L : List EN} (nd : (L.map (·.1)).Nodup) {x : EN} (h : lk p L = some x) : L.Perm (x :: del p L) := by
 obtain ⟨A, B, rfl, _, hx, _⟩ := at_some h
 rw [← hx, del_mid nd]
 exact List.perm_middle

theorem Rel.drop {m : TM} {L : List EN} (r : Rel m L) {l : List UInt8} (hl : nameB l = true) : Rel (tdel m (keyL l)) (del (bs l) L) := by
 refine ⟨?_, fun x hx => r.name x (List.mem_filter.1 hx).1, del_names r.nd⟩
 have hf := r.find hl
 cases hk : lk (bs l) L with
 | none =>
  rw [hk] at hf
  rw [tdel_none hf, del_none hk]
  exact r.perm
 | some x =>
  rw [hk] at hf
  have he : x.1 = bs l := by have := List.find?_some hk; simpa [isP] using this
  have h1 := tdel_perm hf
  have h2 := (del_perm r.nd hk).map ent
  have h3 : ent x = (keyL l, (x.2.2, x.2.1)) := by unfold ent; rw [he, pth_bs]
  rw [List.map_cons, h3] at h2
  exact (h1.symm.trans (r.perm.trans h2)).cons_inv

theorem Rel.put {m : TM} {L : List EN} (r : Rel m L) {l : List UInt8} (hl : nameB l = true) (dir : Bool) (i : Int) {L' : List EN} (h : L'.Perm ((bs l, dir, i) :: del (bs l) L)) : Rel (tput m (keyL l) (i, dir)) L' := by
 have d := r.drop hl
 have hn : ¬ bs l ∈ (del (bs l) L).map (·.1) := fun hm => by
  obtain ⟨y, hy, he⟩ := List.mem_map.1 hm
  have := (List.mem_filter.1 hy).2
  simp [isP, he] at this
 refine ⟨?_, fun x hx => ?_, ?_⟩
 ·refine (tput_perm _ _ m).trans (((d.perm.cons (keyL l, (i, dir)))).trans ?_)
  have := (h.map ent).symm
  rw [List.map_cons] at this
  exact this
 ·rcases List.mem_cons.1 (h.mem_iff.1 hx) with rfl | hx
  ·exact hl
  ·exact d.name x hx
 ·have := (h.map (·.1)).nodup_iff
  rw [this, List.map_cons, List.nodup_cons]
  exact ⟨hn, d.nd⟩

theorem Rel.make {m : TM} {L : List EN} (r : Rel m L) {l : List UInt8} {dir : Bool} (h : makeR l dir L = 0) (i : Int) : Rel (tput m (keyL l) (i, dir)) (L ++ [(bs l, dir, i)]) := by
 unfold makeR at h
 cases hl : nameB l with
 | false => rw [hl] at h; cases h
 | true =>
  have hk : lk (bs l) L = none := by
   rw [hl] at h
   by_cases ha : aboveR (splitL l).1 L = 0
   ·cases hk : lk (bs l) L with
    | none => rfl
    | some x => simp [ha, hk] at h
   ·simp [ha] at h
  refine r.put hl dir i ?_
  rw [del_none hk]
  exact List.perm_append_singleton _ _

theorem Rel.dropC {m : TM} {L : List EN} (r : Rel m L) (hL : L.length < 1000) (l : List UInt8) (dir : Bool) : dropC l dir m = dropR l dir L := by
 obtain ⟨h1, h2, _⟩ := r.get l
 have hc : manyR (bs l) L ≤ L.length := List.countP_le_length
 unfold Go.Proofs.Ytdopealphpmaeaa.dropC dropR
 rw [h1, h2, r.count, w64 (by omega)]
 have e : ((0 : Int) < (manyR (bs l) L : Int)) = (0 < manyR (bs l) L) := propext ⟨by omega, by omega⟩
 simp only [e]

theorem Rel.moveC {m : TM} {L : List EN} (r : Rel m L) (a b : List UInt8) : moveC a b m = moveR a b L := by
 obtain ⟨h1, h2, _⟩ := r.get a
 unfold Go.Proofs.Ytdopealphpmaeaa.moveC moveR
 rw [h1, h2]
 cases hb : nameB b with
 | false =>
  rw [(no_above hb m).2]
  simp
 | true =>
  rw [r.above hb, r.find hb]
  cases lk (bs b) L <;> simp

theorem Rel.moved {m : TM} {L : List EN} (r : Rel m L) (a b : List UInt8) : Rel (movedC a b m) (movedR a b L) ∧ goneC a b m = goneR a b L := by
 have hm := r.moveC a b
 unfold movedC movedR goneC goneR
 rw [hm]
 by_cases h : moveR a b L = 0 ∧ a ≠ b
 ·rw [if_pos h, if_pos h, if_pos h, if_pos h]
  obtain ⟨hmv, hab⟩ := h
  have hf : (findR a L).2.2 = 0 := by
   unfold moveR at hmv
   by_cases hh : (findR a L).2.2 = 0
   ·exact hh
   ·rw [if_pos hh] at hmv; exact absurd hmv hh
  have hb : nameB b = true := by
   unfold moveR at hmv
   cases hb : nameB b with
   | true => rfl
   | false =>
    rw [if_neg (not_not_intro hf), hb] at hmv
    split at hmv
    ·cases hmv
    ·cases hmv
  obtain ⟨ha, x, hk, hx, _⟩ := findR_some hf
  have he : x.1 = bs a := by have := List.find?_some hk; simpa [isP] using this
  obtain ⟨g1, g2, g3⟩ := r.get a
  rw [g2, g3 hf, hx]
  refine ⟨?_, by rw [r.find hb]; cases lk (bs b) L <;> rfl⟩
  have hne : bs a ≠ bs b := fun h => hab (bs_inj.1 h)
  refine (r.drop ha).put hb x.2.1 x.2.2 ?_
  unfold ren
  have hka : lk (bs a) (del (bs b) L) = some x := by rw [lk_del hne, hk]
  rw [hka]
  obtain ⟨A, B, hL, hat, _, _⟩ := at_some hka
  have nd2 : ((del (bs b) L).map (·.1)).Nodup := del_names r.nd
  have hd : del (bs b) (del (bs a) L) = A ++ B := by
   have : del (bs b) (del (bs a) L) = del (bs a) (del (bs b) L) := by
    unfold del
    rw [List.filter_filter, List.filter_filter]
    congr 1
    funext y
    exact Bool.and_comm _ _
   rw [this]
   rw [hL] at nd2 ⊢
   rw [← he, del_mid nd2]
  rw [hd]
  show ((del (bs b) L).set (atI (bs a) 0 (del (bs b) L)).toNat (bs b, x.2)).Perm _
  rw [hat, hL, Int.toNat_natCast, mid_set]
  exact List.perm_middle
 ·rw [if_neg h, if_neg h, if_neg h, if_neg h]
  exact ⟨r, rfl⟩

end Go.Proofs.Ytdopealphpmaeaa
