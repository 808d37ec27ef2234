/-
  the law TreeDirs of chapter 13, as a printed function: it comes to true.
-/
import Derived.Test.YtppmkhgpljkljaaPNm
import Derived.KernelRfl
set_option linter.unusedSimpArgs false
set_option linter.unusedVariables false
namespace Go.Proofs.Ytppmkhgpljkljaa
open Go.Gx

def dn (d : Nat) : List UInt8 := [UInt8.ofNat (100 + d)]
def pnm (d k : Nat) : List UInt8 := [UInt8.ofNat (100 + d), 47, UInt8.ofNat (97 + k)]
def dk (d : Nat) : ByteArray × ByteArray := (bs [], bs (dn d))
def fk (d k : Nat) : ByteArray × ByteArray := (bs (dn d), bs (nm k))

theorem two {d : Nat} (h : d < 2) : d = 0 ∨ d = 1 := by omega
theorem four {k : Nat} (h : k < 4) : k = 0 ∨ k = 1 ∨ k = 2 ∨ k = 3 := by omega
theorem split_p {d k : Nat} (hd : d < 2) (hk : k < 4) : splitL (pnm d k) = (dn d, nm k) := by
  rcases two hd with rfl | rfl <;> rcases four hk with rfl | rfl | rfl | rfl <;> decide
theorem split_d {d : Nat} (hd : d < 2) : splitL (dn d) = ([], dn d) := by
  rcases two hd with rfl | rfl <;> decide
theorem str_p {d k : Nat} (hd : d < 2) (hk : k < 4) : mkStr ((IntKind.wrap .u8 ((100 : Int) + IntKind.wrap .u8 (d : Int))) :: ((47 : Int) :: ((IntKind.wrap .u8 ((97 : Int) + IntKind.wrap .u8 (k : Int))) :: ([] : List Int)))) = bs (pnm d k) := by
  rcases two hd with rfl | rfl <;> rcases four hk with rfl | rfl | rfl | rfl <;> rfl
theorem str_d {d : Nat} (hd : d < 2) : mkStr ((IntKind.wrap .u8 ((100 : Int) + IntKind.wrap .u8 (d : Int))) :: ([] : List Int)) = bs (dn d) := by
  rcases two hd with rfl | rfl <;> rfl
theorem dn_inj {a b : Nat} (ha : a < 2) (hb : b < 2) (h : dn a = dn b) : a = b := by
  rcases two ha with rfl | rfl <;> rcases two hb with rfl | rfl <;> first | rfl | (revert h; decide)
theorem fk_inj {a b c e : Nat} (ha : a < 2) (hb : b < 4) (hc : c < 2) (he : e < 4) (h : fk a b = fk c e) : a = c ∧ b = e := by
  have h1 := bs_inj.1 (congrArg Prod.fst h)
  have h2 := bs_inj.1 (congrArg Prod.snd h)
  exact ⟨dn_inj ha hc h1, nm_inj (by omega) (by omega) h2⟩
theorem dk_fk (a b c : Nat) : dk a ≠ fk b c := fun h => by
  have h1 : ([] : List UInt8) = dn b := bs_inj.1 (congrArg Prod.fst h)
  simp [dn] at h1
theorem bits : ∀ x : Fin 256, band .i64 (IntKind.wrap .i64 (shrI .u8 (x.val : Int) 2)) 1 = ((x.val / 4 % 2 : Nat) : Int) ∧ Int.tmod (IntKind.wrap .i64 (shrI .u8 (x.val : Int) 3)) 4 = ((x.val / 8 % 4 : Nat) : Int) := by decide +kernel

/-! ### the keys that stand there -/
def ct (B : List Bool) (j : Nat) : Nat := ((List.range j).filter (fun q => B.getD q false)).length
theorem ct_succ (B : List Bool) (j : Nat) : ct B (j + 1) = ct B j + (if B.getD j false = true then 1 else 0) := by
  unfold ct
  rw [List.range_succ, List.filter_append, List.length_append]
  congr 1
  simp only [List.filter_cons, List.filter_nil]
  split <;> rfl
theorem ct_le (B : List Bool) (j : Nat) : ct B j ≤ j := by
  unfold ct
  exact Nat.le_trans (List.length_filter_le _ _) (by simp)
def cd (B : List Bool) (x y : Nat) : Nat := ((List.range y).filter (fun k => B.getD (x * 4 + k) false)).length
theorem cd_succ (B : List Bool) (x y : Nat) : cd B x (y + 1) = cd B x y + (if B.getD (x * 4 + y) false = true then 1 else 0) := by
  unfold cd
  rw [List.range_succ, List.filter_append, List.length_append]
  congr 1
  simp only [List.filter_cons, List.filter_nil]
  split <;> rfl
theorem cd_le (B : List Bool) (x y : Nat) : cd B x y ≤ y := by
  unfold cd
  exact Nat.le_trans (List.length_filter_le _ _) (by simp)

def files (B : List Bool) : List (ByteArray × ByteArray) := ((List.range 8).filter (fun q => B.getD q false)).map fun q => fk (q / 4) (q % 4)
def allK (B : List Bool) : List (ByteArray × ByteArray) := dk 0 :: dk 1 :: files B

theorem mem_files {B : List Bool} {d k : Nat} (hd : d < 2) (hk : k < 4) : fk d k ∈ files B ↔ B.getD (d * 4 + k) false = true := by
  unfold files
  rw [List.mem_map]
  constructor
  · rintro ⟨q, hq, e⟩
    rw [List.mem_filter, List.mem_range] at hq
    obtain ⟨e1, e2⟩ := fk_inj (by omega) (by omega) hd hk e
    have : d * 4 + k = q := by omega
    rw [this]; exact hq.2
  · intro h
    refine ⟨d * 4 + k, ?_, by rw [show (d * 4 + k) / 4 = d by omega, show (d * 4 + k) % 4 = k by omega]⟩
    rw [List.mem_filter, List.mem_range]
    exact ⟨by omega, h⟩
theorem mem_files_ex {B : List Bool} {x : ByteArray × ByteArray} (h : x ∈ files B) : ∃ d k, d < 2 ∧ k < 4 ∧ x = fk d k := by
  unfold files at h
  obtain ⟨q, hq, rfl⟩ := List.mem_map.1 h
  rw [List.mem_filter, List.mem_range] at hq
  exact ⟨q / 4, q % 4, by omega, by omega, rfl⟩
theorem allK_nodup (B : List Bool) : (allK B).Nodup := by
  unfold allK
  rw [List.nodup_cons, List.nodup_cons]
  refine ⟨fun h => ?_, fun h => ?_, ?_⟩
  · rcases List.mem_cons.1 h with h | h
    · exact absurd (dn_inj (a := 0) (b := 1) (by omega) (by omega) (bs_inj.1 (congrArg Prod.snd h))) (by decide)
    · obtain ⟨d, k, _, _, e⟩ := mem_files_ex h
      exact dk_fk _ _ _ e
  · obtain ⟨d, k, _, _, e⟩ := mem_files_ex h
    exact dk_fk _ _ _ e
  · unfold files
    rw [List.nodup_iff_pairwise_ne, List.pairwise_map]
    have hn : ((List.range 8).filter (fun q => B.getD q false)).Nodup := List.nodup_range.filter _
    rw [List.nodup_iff_pairwise_ne] at hn
    refine hn.imp_of_mem fun {a b} ha hb hne e => hne ?_
    rw [List.mem_filter, List.mem_range] at ha hb
    obtain ⟨e1, e2⟩ := fk_inj (by omega) (by omega) (by omega) (by omega) e
    omega
theorem allK_len (B : List Bool) : (allK B).length = 2 + ct B 8 := by
  simp only [allK, files, List.length_cons, List.length_map, ct]
  omega
theorem allK_in {B : List Bool} {x : Nat} (hx : x < 2) : ((allK B).filter fun p => decide (p.1 = bs (dn x))).length = cd B x 4 := by
  have h0 : ∀ d, decide ((dk d).1 = bs (dn x)) = false := fun d => decide_eq_false fun e => by
    have := bs_inj.1 e
    simp [dn] at this
  have h1 : ∀ q, q < 8 → decide ((fk (q / 4) (q % 4)).1 = bs (dn x)) = decide (q / 4 = x) := fun q hq => by
    by_cases e : q / 4 = x
    · rw [decide_eq_true e, ← e]; exact decide_eq_true rfl
    · rw [decide_eq_false e]
      exact decide_eq_false fun h => e (dn_inj (by omega) hx (bs_inj.1 h))
  unfold allK files
  rw [List.filter_cons, List.filter_cons, h0, h0]
  simp only [Bool.false_eq_true, if_false]
  rw [List.filter_map, List.length_map, List.filter_filter]
  have h2 : ((List.range 8).filter fun q => (((fun p : ByteArray × ByteArray => decide (p.1 = bs (dn x))) ∘ fun q => fk (q / 4) (q % 4)) q) && B.getD q false) = (List.range 8).filter fun q => decide (q / 4 = x) && B.getD q false := by
    apply List.filter_congr
    intro q hq
    rw [List.mem_range] at hq
    rw [Function.comp, h1 q hq]
  rw [h2]
  unfold cd
  rw [show List.range 8 = [0, 1, 2, 3, 4, 5, 6, 7] from rfl, show List.range 4 = [0, 1, 2, 3] from rfl]
  rcases two hx with rfl | rfl
  · simp only [List.filter_cons, List.filter_nil, show ∀ q, 0 * 4 + q = q from fun q => by omega]
    simp
  · simp only [List.filter_cons, List.filter_nil]
    simp
    cases B[4]?.getD false <;> cases B[5]?.getD false <;> cases B[6]?.getD false <;> cases B[7]?.getD false <;> rfl

/-- what holds at each round's head -/
structure DInv (m : TM) (B : List Bool) : Prop where
  bl : B.length = 8
  nd : (m.map (·.1)).Nodup
  ks : ∀ key, key ∈ m.map (·.1) ↔ key ∈ allK B
  dv : ∀ d, d < 2 → ∃ v, tfind m (dk d) = some (v, true)
  fv : ∀ d k, d < 2 → k < 4 → ∀ x, tfind m (fk d k) = some x → x.2 = false

theorem DInv.perm {m : TM} {B : List Bool} (h : DInv m B) : (m.map (·.1)).Perm (allK B) := (List.perm_ext_iff_of_nodup h.nd (allK_nodup B)).2 h.ks
theorem DInv.len {m : TM} {B : List Bool} (h : DInv m B) : m.length = 2 + ct B 8 := by
  rw [← allK_len, ← h.perm.length_eq, List.length_map]
theorem DInv.find {m : TM} {B : List Bool} (h : DInv m B) {d k : Nat} (hd : d < 2) (hk : k < 4) : (tfind m (fk d k)).isSome = B.getD (d * 4 + k) false := by
  have h1 : (tfind m (fk d k)).isSome = true ↔ fk d k ∈ m.map (·.1) := mem_keys KS_key
  have h2 : fk d k ∈ allK B ↔ fk d k ∈ files B := by
    unfold allK
    rw [List.mem_cons, List.mem_cons]
    exact ⟨fun h => h.elim (fun e => absurd e.symm (dk_fk _ _ _)) fun h => h.elim (fun e => absurd e.symm (dk_fk _ _ _)) id, fun h => .inr (.inr h)⟩
  rw [h.ks, h2, mem_files hd hk] at h1
  cases hb : B.getD (d * 4 + k) false with
  | true => exact h1.2 hb
  | false =>
    rw [hb] at h1
    cases hs : (tfind m (fk d k)).isSome with
    | false => rfl
    | true => exact absurd (h1.1 hs) (by decide)
theorem DInv.count {m : TM} {B : List Bool} (h : DInv m B) {x : Nat} (hx : x < 2) : mcount (bs (dn x)) m = (cd B x 4 : Int) := by
  unfold mcount
  have e : ((m.filter fun p => decide (p.1.1 = bs (dn x))).length) = ((m.map (·.1)).filter fun p => decide (p.1 = bs (dn x))).length := by
    rw [List.filter_map, List.length_map]
    rfl
  have hle := cd_le B x 4
  rw [e, (h.perm.filter _).length_eq, allK_in hx, w64 (by omega)]

theorem set_get {B : List Bool} (hl : B.length = 8) {q j : Nat} {b : Bool} (hq : q < 8) : (B.set q b).getD j false = if q = j then b else B.getD j false := getD_set (by omega)

theorem DInv.put {m : TM} {B : List Bool} (h : DInv m B) {d k : Nat} (hd : d < 2) (hk : k < 4) (hb : B.getD (d * 4 + k) false = false) (nx : Int) : DInv (tput m (fk d k) (nx, false)) (B.set (d * 4 + k) true) := by
  have hf := h.find hd hk
  rw [hb] at hf
  have hks : (tput m (fk d k) (nx, false)).map (·.1) = m.map (·.1) ++ [fk d k] := by
    have := keys_put (vs := VS) KS_key (l := m) (fk d k) (nx, false)
    rw [if_neg (by show ¬ (tfind m (fk d k)).isSome = true; rw [hf]; decide)] at this
    exact this
  refine ⟨by simp [h.bl], nodup_put (vs := VS) KS_key h.nd _ _, fun key => ?_, fun d' hd' => ?_, fun d' k' hd' hk' x hx => ?_⟩
  · rw [hks, List.mem_append, List.mem_singleton, h.ks]
    unfold allK
    rw [List.mem_cons, List.mem_cons, List.mem_cons, List.mem_cons]
    have : key ∈ files (B.set (d * 4 + k) true) ↔ key ∈ files B ∨ key = fk d k := by
      constructor
      · intro hm
        obtain ⟨d', k', hd', hk', rfl⟩ := mem_files_ex hm
        rw [mem_files hd' hk', set_get h.bl (by omega)] at hm
        by_cases e : d * 4 + k = d' * 4 + k'
        · right
          rw [show d' = d by omega, show k' = k by omega]
        · rw [if_neg e] at hm
          exact .inl ((mem_files hd' hk').2 hm)
      · rintro (hm | rfl)
        · obtain ⟨d', k', hd', hk', rfl⟩ := mem_files_ex hm
          rw [mem_files hd' hk'] at hm
          rw [mem_files hd' hk', set_get h.bl (by omega), hm]
          simp
        · rw [mem_files hd hk, set_get h.bl (by omega), if_pos rfl]
    rw [this]
    simp only [or_assoc]
  · obtain ⟨v, hv⟩ := h.dv d' hd'
    exact ⟨v, (mfind_put_ne KS_key (fun e => dk_fk _ _ _ e.symm) _).trans hv⟩
  · by_cases e : fk d k = fk d' k'
    · rw [← e] at hx
      have : tfind (tput m (fk d k) (nx, false)) (fk d k) = some (nx, false) := mfind_put_same KS_key _ _
      rw [this] at hx
      cases hx
      rfl
    · have : tfind (tput m (fk d k) (nx, false)) (fk d' k') = tfind m (fk d' k') := mfind_put_ne KS_key e _
      rw [this] at hx
      exact h.fv d' k' hd' hk' x hx

theorem DInv.del {m : TM} {B : List Bool} (h : DInv m B) {d k : Nat} (hd : d < 2) (hk : k < 4) : DInv (tdel m (fk d k)) (B.set (d * 4 + k) false) := by
  have hsame : tfind (tdel m (fk d k)) (fk d k) = none := mfind_del_same (vs := VS) KS_key h.nd _
  have hne : ∀ key, fk d k ≠ key → tfind (tdel m (fk d k)) key = tfind m key := fun key e => mfind_del_ne KS_key e
  refine ⟨by simp [h.bl], nodup_del (vs := VS) KS_key h.nd _, fun key => ?_, fun d' hd' => ?_, fun d' k' hd' hk' x hx => ?_⟩
  · have h1 : (tfind (tdel m (fk d k)) key).isSome = true ↔ key ∈ (tdel m (fk d k)).map (·.1) := mem_keys KS_key
    have h2 : (tfind m key).isSome = true ↔ key ∈ m.map (·.1) := mem_keys KS_key
    rw [← h1]
    by_cases e : fk d k = key
    · rw [← e, hsame]
      constructor
      · intro h; cases h
      · intro hm
        exfalso
        have hm' : fk d k ∈ files (B.set (d * 4 + k) false) := by
          unfold allK at hm
          rcases List.mem_cons.1 hm with h | h
          · exact absurd h.symm (dk_fk _ _ _)
          · rcases List.mem_cons.1 h with h | h
            · exact absurd h.symm (dk_fk _ _ _)
            · exact h
        rw [mem_files hd hk, set_get h.bl (by omega), if_pos rfl] at hm'
        cases hm'
    · rw [hne key e, h2, h.ks]
      unfold allK
      rw [List.mem_cons, List.mem_cons, List.mem_cons, List.mem_cons]
      have : key ∈ files (B.set (d * 4 + k) false) ↔ key ∈ files B := by
        constructor
        · intro hm
          obtain ⟨d', k', hd', hk', rfl⟩ := mem_files_ex hm
          rw [mem_files hd' hk', set_get h.bl (by omega)] at hm
          rw [mem_files hd' hk']
          split at hm
          · cases hm
          · exact hm
        · intro hm
          obtain ⟨d', k', hd', hk', rfl⟩ := mem_files_ex hm
          rw [mem_files hd' hk'] at hm
          rw [mem_files hd' hk', set_get h.bl (by omega), if_neg (fun e' => e (by rw [show d = d' by omega, show k = k' by omega]))]
          exact hm
      rw [this]
  · obtain ⟨v, hv⟩ := h.dv d' hd'
    exact ⟨v, (hne _ (fun e => dk_fk _ _ _ e.symm)).trans hv⟩
  · by_cases e : fk d k = fk d' k'
    · rw [← e, hsame] at hx; cases hx
    · rw [hne _ e] at hx
      exact h.fv d' k' hd' hk' x hx
/-- what is nowhere may be struck -/
theorem DInv.same {m : TM} {B : List Bool} (h : DInv m B) {q : Nat} {b : Bool} (hq : q < 8) (hb : B.getD q false = b) : B.set q b = B := by
  apply List.ext_getElem
  · simp
  · intro i h1 h2
    rw [List.getElem_set]
    split
    · rename_i e
      subst e
      rw [← hb]
      simp [List.getD, h2]
    · rfl

theorem above_p {m : TM} {B : List Bool} (h : DInv m B) {d k : Nat} (hd : d < 2) : aboveV (dn d) (nm k) m = 0 := by
  obtain ⟨v, hv⟩ := h.dv d hd
  have hv : tfind m (bs [], bs (dn d)) = some (v, true) := hv
  unfold aboveV
  rw [if_neg (by simp [nm]), if_neg (by simp [dn]), hv]
  rfl

theorem make_p {R : Type} {m : TM} {B : List Bool} (h : DInv m B) (N : Nat) (hN : 8 < N) {d k : Nat} (hd : d < 2) (hk : k < 4) (nx : Int) (hx : 0 ≤ nx ∧ nx < 4611686018427387904) (K : Int → Int → Int → TM → Option R) :
    tree_Tree_Make_c502 N (bs (pnm d k)) false nx m K = if B.getD (d * 4 + k) false = true then K (-1) 65297 nx m else if 8 ≤ m.length then K (-1) 65308 nx m else K nx 0 (nx + 1) (tput m (fk d k) (nx, false)) := by
  rw [make_eq N hN _ _ _ hx]
  have hf := h.find hd hk
  have hc : makeC (pnm d k) false m = if B.getD (d * 4 + k) false = true then 65297 else if 8 ≤ m.length then 65308 else 0 := by
    unfold makeC
    rw [split_p hd hk]
    dsimp only
    rw [above_p h hd, show (bs (dn d), bs (nm k)) = fk d k from rfl, hf]
    simp
  rw [hc, split_p hd hk]
  dsimp only
  by_cases hb : B.getD (d * 4 + k) false = true
  · rw [if_pos hb, if_pos hb, if_neg (by decide)]
  · rw [if_neg hb, if_neg hb]
    by_cases h8 : 8 ≤ m.length
    · rw [if_pos h8, if_pos h8, if_neg (by decide)]
    · rw [if_neg h8, if_neg h8, if_pos rfl]
      rfl

theorem drop_p {R : Type} {m : TM} {B : List Bool} (h : DInv m B) (N : Nat) (hN : 8 < N) {d k : Nat} (hd : d < 2) (hk : k < 4) (nx : Int) (K : Int → Int → TM → Option R) :
    tree_Tree_Drop_c502 N (bs (pnm d k)) false nx m K = if B.getD (d * 4 + k) false = true then K 0 nx (tdel m (fk d k)) else K 65282 nx m := by
  unfold tree_Tree_Drop_c502 tree_Tree_Drop_c502_T
  have hf := h.find hd hk
  rw [get_eq N hN, tree_of_eq' N hN]
  have hg : getV (pnm d k) m = match tfind m (fk d k) with
      | none => (0, false, 65282)
      | some x => (x.1, x.2, 0) := by
    unfold getV
    rw [split_p hd hk]
    dsimp only
    rw [if_pos (above_p h hd)]
    rfl
  rw [hg, split_p hd hk]
  cases ht : tfind m (fk d k) with
  | none =>
    rw [ht] at hf
    rw [← hf]
    rfl
  | some x =>
    have hx := h.fv d k hd hk x ht
    rw [ht] at hf
    rw [← hf]
    dsimp only
    rw [hx]
    rfl

theorem get_d {m : TM} {B : List Bool} (h : DInv m B) {d : Nat} (hd : d < 2) : ∃ v, getV (dn d) m = (v, true, 0) := by
  obtain ⟨v, hv⟩ := h.dv d hd
  have hv : tfind m (bs [], bs (dn d)) = some (v, true) := hv
  refine ⟨v, ?_⟩
  unfold getV
  rw [split_d hd]
  dsimp only
  have : aboveV [] (dn d) m = 0 := by unfold aboveV; rw [if_neg (by simp [dn]), if_pos rfl]
  rw [if_pos this, hv]

theorem many_d {R : Type} {m : TM} {B : List Bool} (h : DInv m B) (N : Nat) (hN : 8 < N) {d : Nat} (hd : d < 2) (nx : Int) (K : Int → Int → TM → Option R) :
    tree_Tree_Many_fb98 N (bs (dn d)) nx m K = K (cd B d 4 : Int) nx m := by
  unfold tree_Tree_Many_fb98 tree_Tree_Many_fb98_T
  obtain ⟨v, hv⟩ := get_d h hd
  have hle := cd_le B d 4
  rw [get_eq N hN, hv]
  dsimp only
  rw [br_not (b := !decide ((0 : Int) = 0)) rfl, br_not (b := !true) rfl]
  unfold tree_Tree_many_fb98
  rw [h.count hd]
  dsimp only
  rw [wu16 (by omega)]

theorem drop_d {R : Type} {m : TM} {B : List Bool} (h : DInv m B) (N : Nat) (hN : 8 < N) {d : Nat} (hd : d < 2) (hc : 0 < cd B d 4) (nx : Int) (K : Int → Int → TM → Option R) :
    tree_Tree_Drop_c502 N (bs (dn d)) true nx m K = K 65319 nx m := by
  unfold tree_Tree_Drop_c502 tree_Tree_Drop_c502_T
  obtain ⟨v, hv⟩ := get_d h hd
  rw [get_eq N hN, hv]
  dsimp only
  simp only [Bool.not_true, br_false, br_true, decide_true]
  unfold tree_Tree_many_fb98
  rw [h.count hd]
  dsimp only
  rw [br_of (decide_eq_true (by omega))]

/-! ### the law's loops -/
section
variable {R : Type} (N : Nat) (hN : 100 < N)
set_option linter.unusedSectionVars false
include hN

theorem td_l1 (k : List Int → Int → Int → Int → ByteArray → Int → Int → TM → List Bool → Option R) (l : List Int) (i d c : Int) (p : ByteArray) (nx : Int) (m : TM) (B : List Bool) (hB : B.length = 8) :
    ∀ (r j n : Nat), 8 - j = r → j ≤ 8 → r < n → law13_TreeDirs_l1 N k n l i d c p ((2 + ct B j : Nat) : Int) (j : Int) nx m B = k l i d c p ((2 + ct B 8 : Nat) : Int) nx m B := by
  intro r
  induction r with
  | zero =>
    intro j n hr hj hn
    obtain ⟨n, rfl⟩ : ∃ n', n = n' + 1 := ⟨n - 1, by omega⟩
    have : j = 8 := by omega
    subst this
    simp only [law13_TreeDirs_l1, law13_TreeDirs_l1_T0]
    rw [br_not (decide_eq_false (by omega))]
  | succ r ih =>
    intro j n hr hj hn
    obtain ⟨n, rfl⟩ : ∃ n', n = n' + 1 := ⟨n - 1, by omega⟩
    have hc := ct_le B j
    have ih := ih (j + 1) n (by omega) (by omega) (by omega)
    have e1 : IntKind.wrap .i64 (Int.tdiv (j : Int) 4) = (j : Int) / 4 := by rw [Int.tdiv_eq_ediv_of_nonneg (by omega), w64 (by omega)]
    have e2 : Int.tmod (j : Int) 4 = (j : Int) % 4 := Int.tmod_eq_emod_of_nonneg (by omega)
    have e3 : Int.toNat ((j : Int) / 4 * 4 + (j : Int) % 4) = j := by omega
    simp only [law13_TreeDirs_l1, law13_TreeDirs_l1_T0, e1, e2, e3]
    rw [br_of (decide_eq_true (by omega)), br_of (inB_of (by omega)), br_of (by rw [inB_of (by omega), decide_eq_true (by omega)]; rfl), br_of (decide_eq_true (by omega)), w64_succ (i := j) (by omega), w64_succ (i := 2 + ct B j) (by omega), br_if]
    rw [ct_succ] at ih
    by_cases h : B.getD j false = true
    · rw [if_pos h] at ih ⊢
      exact ih
    · rw [if_neg h] at ih ⊢
      exact ih

theorem td_l3 (k : List Int → Int → Int → Int → Int → TM → List Bool → Option R) (l : List Int) (i : Int) (x : Nat) (hx : x < 2) (nx : Int) (m : TM) (B : List Bool) (hB : B.length = 8) :
    ∀ (r j n : Nat), 4 - j = r → j ≤ 4 → r < n → law13_TreeDirs_l3 N k n l i (x : Int) (cd B x j : Int) (j : Int) nx m B = k l i (x : Int) (cd B x 4 : Int) nx m B := by
  intro r
  induction r with
  | zero =>
    intro j n hr hj hn
    obtain ⟨n, rfl⟩ : ∃ n', n = n' + 1 := ⟨n - 1, by omega⟩
    have : j = 4 := by omega
    subst this
    simp only [law13_TreeDirs_l3, law13_TreeDirs_l3_T0]
    rw [br_not (decide_eq_false (by omega))]
  | succ r ih =>
    intro j n hr hj hn
    obtain ⟨n, rfl⟩ : ∃ n', n = n' + 1 := ⟨n - 1, by omega⟩
    have hc := cd_le B x j
    have ih := ih (j + 1) n (by omega) (by omega) (by omega)
    have e3 : Int.toNat ((x : Int) * 4 + (j : Int)) = x * 4 + j := by omega
    simp only [law13_TreeDirs_l3, law13_TreeDirs_l3_T0, e3]
    rw [br_of (decide_eq_true (by omega)), br_of (inB_of (by omega)), br_of (by rw [inB_of (by omega), decide_eq_true (by omega)]; rfl), br_of (decide_eq_true (by omega)), w64_succ (i := j) (by omega), br_if]
    rw [cd_succ] at ih
    by_cases h : B.getD (x * 4 + j) false = true
    · rw [if_pos h] at ih ⊢
      rw [wu16 (by omega)]
      exact ih
    · rw [if_neg h] at ih ⊢
      exact ih

theorem td_l2 (k0 : List Int → Bool → Int → Int → TM → List Bool → Option R) (k1 : List Int → Int → Int → TM → List Bool → Option R) (l : List Int) (i nx : Int) {m : TM} {B : List Bool} (h : DInv m B) :
    ∀ (r x n : Nat), 2 - x = r → x ≤ 2 → r < n → law13_TreeDirs_l2 N k0 k1 n l i (x : Int) nx m B = k1 l i nx m B := by
  intro r
  induction r with
  | zero =>
    intro x n hr hx hn
    obtain ⟨n, rfl⟩ : ∃ n', n = n' + 1 := ⟨n - 1, by omega⟩
    have : x = 2 := by omega
    subst this
    simp only [law13_TreeDirs_l2, law13_TreeDirs_l2_T0]
    rw [br_not (decide_eq_false (by omega))]
  | succ r ih =>
    intro x n hr hx hn
    obtain ⟨n, rfl⟩ : ∃ n', n = n' + 1 := ⟨n - 1, by omega⟩
    have hx2 : x < 2 := by omega
    have ih := ih (x + 1) n (by omega) (by omega) (by omega)
    simp only [law13_TreeDirs_l2, law13_TreeDirs_l2_T0]
    rw [br_of (decide_eq_true (by omega))]
    refine (td_l3 N hN _ l i x hx2 nx m B h.bl 4 0 N (by omega) (by omega) (by omega)).trans ?_
    rw [str_d hx2, many_d h N (by omega) hx2, br_of (by rw [decide_eq_true rfl]; rfl), br_dec, w64_succ (by omega)]
    by_cases hc : (0 : Int) < (cd B x 4 : Int)
    · rw [if_pos hc, drop_d h N (by omega) hx2 (by omega), br_not (by rw [decide_eq_true rfl]; rfl)]
      exact ih
    · rw [if_neg hc]
      exact ih

theorem td_l0 (k0 : Bool → Option R) (k1 : Option R) (l : List Int) (hl : ∀ x ∈ l, 0 ≤ x ∧ x ≤ 255) (h60 : l.length ≤ 60) :
    ∀ (r i n : Nat), l.length - i = r → i ≤ l.length → r < n → ∀ (nx : Int) (m : TM) (B : List Bool), DInv m B → 0 ≤ nx → nx ≤ 100 + (i : Int) → law13_TreeDirs_l0 N k0 k1 n l (i : Int) nx m B = k1 := by
  intro r
  induction r with
  | zero =>
    intro i n hr hi hn nx m B h hx0 hx1
    obtain ⟨n, rfl⟩ : ∃ n', n = n' + 1 := ⟨n - 1, by omega⟩
    simp only [law13_TreeDirs_l0, law13_TreeDirs_l0_T0]
    rw [br_not (decide_eq_false (by omega))]
  | succ r ih =>
    intro i n hr hi hn nx m B h hx0 hx1
    obtain ⟨n, rfl⟩ : ∃ n', n = n' + 1 := ⟨n - 1, by omega⟩
    have hlt : i < l.length := by omega
    have hg : l.getD i 0 = l[i] := by simp [List.getD, hlt]
    obtain ⟨v, hv, hv2⟩ : ∃ v : Nat, l[i] = (v : Int) ∧ v < 256 := by
      have := hl l[i] (List.getElem_mem hlt)
      exact ⟨(l[i]).toNat, by omega, by omega⟩
    obtain ⟨b1, b2⟩ := bits ⟨v, hv2⟩
    have b1 : band .i64 (IntKind.wrap .i64 (shrI .u8 (v : Int) 2)) 1 = ((v / 4 % 2 : Nat) : Int) := b1
    have b2 : Int.tmod (IntKind.wrap .i64 (shrI .u8 (v : Int) 3)) 4 = ((v / 8 % 4 : Nat) : Int) := b2
    obtain ⟨d, hd⟩ : ∃ d, d = v / 4 % 2 := ⟨_, rfl⟩
    obtain ⟨c, hc⟩ : ∃ c, c = v / 8 % 4 := ⟨_, rfl⟩
    rw [← hd] at b1
    rw [← hc] at b2
    have hd2 : d < 2 := by omega
    have hc4 : c < 4 := by omega
    have e3 : Int.toNat ((d : Int) * 4 + (c : Int)) = d * 4 + c := by omega
    have c1 : inB (i : Int) l.length = true := inB_of (by omega)
    have c2 : inB (d : Int) 2 = true := inB_of (by omega)
    have c3 : (inB (c : Int) 4 && decide ((0 : Int) ≤ (d : Int))) = true := by rw [inB_of (by omega), decide_eq_true (by omega)]; rfl
    have c4 : decide (d * 4 + c < 8) = true := decide_eq_true (by omega)
    have hlen := h.len
    have hih : ∀ nx' (m' : TM) (B' : List Bool), DInv m' B' → 0 ≤ nx' → nx' ≤ nx + 1 → law13_TreeDirs_l2 N (fun l144 b145 i146 i147 l148 l149 => k0 b145) (fun l150 i151 i152 l153 l154 => law13_TreeDirs_l0 N k0 k1 n l150 (IntKind.wrap .i64 (i151 + (1 : Int))) i152 l153 l154) N l (i : Int) (0 : Int) nx' m' B' = k1 := by
      intro nx' m' B' h' h0 h1
      refine (td_l2 N hN _ _ l (i : Int) nx' h' 2 0 N (by omega) (by omega) (by omega)).trans ?_
      rw [w64_succ (by omega)]
      exact ih (i + 1) n (by omega) (by omega) (by omega) nx' m' B' h' h0 (by omega)
    simp only [law13_TreeDirs_l0, law13_TreeDirs_l0_T0, Int.toNat_natCast, hg, hv, b1, b2, c1, br_true, str_p hd2 hc4]
    rw [br_of (decide_eq_true (by omega))]
    refine (td_l1 N hN _ l (i : Int) (d : Int) (c : Int) (bs (pnm d c)) nx m B h.bl 8 0 N (by omega) (by omega) (by omega)).trans ?_
    simp only [c1, br_true, Int.toNat_natCast, hg, hv]
    cases decide (band .u8 (v : Int) 3 < 2) with
    | true =>
      rw [br_true, make_p h N (by omega) hd2 hc4 nx (by omega)]
      by_cases hb : B.getD (d * 4 + c) false = true
      · rw [if_pos hb]
        simp only [c2, c3, c4, e3, br_true, hb, Bool.not_true, Bool.not_false, br_false, decide_true]
        have hs := h.same (q := d * 4 + c) (b := true) (by omega) hb
        rw [hs]
        exact hih nx m B h hx0 (by omega)
      · rw [if_neg hb]
        have hb' : B.getD (d * 4 + c) false = false := by simpa using hb
        by_cases h8 : 8 ≤ m.length
        · rw [if_pos h8]
          have d8 : decide ((8 : Int) ≤ ((2 + ct B 8 : Nat) : Int)) = true := decide_eq_true (by omega)
          have d9 : decide (((2 + ct B 8 : Nat) : Int) < 8) = false := decide_eq_false (by omega)
          have d0 : decide ((65308 : Int) = 0) = false := by decide
          simp only [c2, c3, c4, e3, br_true, hb', d8, d9, d0, Bool.not_true, Bool.not_false, br_false, decide_true]
          have hs := h.same (q := d * 4 + c) (b := false) (by omega) hb'
          rw [hs]
          exact hih nx m B h hx0 (by omega)
        · rw [if_neg h8]
          have d8 : decide ((8 : Int) ≤ ((2 + ct B 8 : Nat) : Int)) = false := decide_eq_false (by omega)
          have d9 : decide (((2 + ct B 8 : Nat) : Int) < 8) = true := decide_eq_true (by omega)
          simp only [c2, c3, c4, e3, br_true, hb', d8, d9, Bool.not_true, Bool.not_false, br_false, decide_true]
          exact hih (nx + 1) _ _ (h.put hd2 hc4 hb' nx) (by omega) (by omega)
    | false =>
      rw [br_false, drop_p h N (by omega) hd2 hc4 nx]
      by_cases hb : B.getD (d * 4 + c) false = true
      · rw [if_pos hb]
        simp only [c2, c3, c4, e3, br_true, hb, Bool.not_true, Bool.not_false, br_false, decide_true, beq_self_eq_true]
        exact hih nx _ _ (h.del hd2 hc4) hx0 (by omega)
      · rw [if_neg hb]
        have hb' : B.getD (d * 4 + c) false = false := by simpa using hb
        have d0 : decide ((65282 : Int) = 0) = false := by decide
        simp only [c2, c3, c4, e3, br_true, hb', d0, Bool.not_true, Bool.not_false, br_false, decide_true, beq_self_eq_true]
        have hs := h.same (q := d * 4 + c) (b := false) (by omega) hb'
        rw [hs]
        exact hih nx m B h hx0 (by omega)
end

def m0 : TM := [((bs [], bs [100]), (0, true)), ((bs [], bs [101]), (1, true))]
theorem inv0 : DInv m0 (List.replicate 8 false) where
  bl := rfl
  nd := by
    show [dk 0, dk 1].Nodup
    have := allK_nodup (List.replicate 8 false)
    exact this
  ks := fun key => Iff.rfl
  dv := fun d hd => by
    rcases two hd with rfl | rfl
    · exact ⟨0, by decide⟩
    · exact ⟨1, by decide⟩
  fv := fun d k hd hk x hx => by
    rcases two hd with rfl | rfl <;> rcases four hk with rfl | rfl | rfl | rfl <;> (revert hx; exact fun hx => by have : (none : Option (Int × Bool)) = some x := hx; cases this)

set_option maxRecDepth 100000 in
theorem awake13 {R : Type} (n : Nat) (k : Bool → Option R) : law13_awake (n + 3000) k = k true := by kernel_rfl
set_option maxRecDepth 100000 in
theorem new2 {R : Type} (n : Nat) (k0 : Int → List (ByteArray × (Bool × Int)) → Option R) (k1 : Int → List (ByteArray × (Bool × Int)) → Int → TM → Option R) :
    tree_New_644a (n + 3000) [(bs [100], (true, 0)), (bs [101], (true, 0))] k0 k1 = k1 0 [(bs [100], (true, 0)), (bs [101], (true, 0))] 2 m0 := by kernel_rfl

theorem treeDirs_N {R : Type} (N : Nat) (hN : 200 < N) (hA : ∀ (k : Bool → Option R), law13_awake N k = k true)
    (hW : ∀ (k0 : Int → List (ByteArray × (Bool × Int)) → Option R) (k1 : Int → List (ByteArray × (Bool × Int)) → Int → TM → Option R), tree_New_644a N [(bs [100], (true, 0)), (bs [101], (true, 0))] k0 k1 = k1 0 [(bs [100], (true, 0)), (bs [101], (true, 0))] 2 m0)
    (l : List Int) (hl : ∀ x ∈ l, 0 ≤ x ∧ x ≤ 255) (k : Bool → Option R) : law13_TreeDirs N l k = k true := by
  unfold law13_TreeDirs law13_TreeDirs_T
  rw [hA, br_not (b := !true) rfl, br_dec]
  by_cases h : (60 : Int) < (l.length : Int)
  · rw [if_pos h]
  · rw [if_neg h, hW, br_of (by rfl)]
    exact td_l0 N (by omega) _ _ l hl (by omega) l.length 0 N (by omega) (by omega) (by omega) 2 m0 _ inv0 (by omega) (by omega)

theorem treeDirs_true {R : Type} (n : Nat) (l : List Int) (hl : ∀ x ∈ l, 0 ≤ x ∧ x ≤ 255) (k : Bool → Option R) : law13_TreeDirs (n + 3000) l k = k true :=
  treeDirs_N (n + 3000) (by omega) (fun k => awake13 n k) (fun k0 k1 => new2 n k0 k1) l hl k

end Go.Proofs.Ytppmkhgpljkljaa
