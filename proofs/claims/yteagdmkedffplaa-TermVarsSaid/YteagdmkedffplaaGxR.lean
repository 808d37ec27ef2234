/-
  Gx, part R: plain facts for the printed functions: tests, wrapping, strings, lists, maps.
-/
import Derived.Test.YteagdmkedffplaaGxZ
import Derived.IntWalk
namespace Go.Gx
section
variable {R : Type}

@[simp] theorem br_true (x y : Option R) : br true x y = x := rfl
@[simp] theorem br_false (x y : Option R) : br false x y = y := rfl
theorem br_of {b : Bool} (h : b = true) (x y : Option R) : br b x y = x := by rw [h]; rfl
theorem br_not {b : Bool} (h : b = false) (x y : Option R) : br b x y = y := by rw [h]; rfl
theorem br_if (b : Bool) (x y : Option R) : br b x y = if b = true then x else y := by cases b <;> rfl
theorem br_dec (p : Prop) [Decidable p] (x y : Option R) : br (decide p) x y = if p then x else y := by
  by_cases h : p
  · rw [if_pos h, decide_eq_true h]; rfl
  · rw [if_neg h, decide_eq_false h]; rfl
theorem br_ndec (p : Prop) [Decidable p] (x y : Option R) : br (!decide p) x y = if p then y else x := by
  by_cases h : p
  · rw [if_pos h, decide_eq_true h]; rfl
  · rw [if_neg h, decide_eq_false h]; rfl
theorem br_neg (b : Bool) (x y : Option R) : br (!b) x y = br b y x := by cases b <;> rfl
theorem br_and (a b : Bool) (x y : Option R) : br (a && b) x y = br a (br b x y) y := by cases a <;> rfl
theorem br_self (b : Bool) (x y : Option R) : br (b == b) x y = x := by rw [beq_self_eq_true]; rfl
theorem br_same (b : Bool) (x : Option R) : br b x x = x := by cases b <;> rfl
theorem br_push (b : Bool) {A : Type} (a c : A) (k : A → Option R) : br b (k a) (k c) = k (if b = true then a else c) := by cases b <;> rfl

/-! wrapping -/
theorem w64 {x : Int} (h : -9223372036854775808 ≤ x ∧ x ≤ 9223372036854775807) : IntKind.wrap .i64 x = x := IntWalk.i64_in x h
theorem wu8 {x : Int} (h : 0 ≤ x ∧ x ≤ 255) : IntKind.wrap .u8 x = x := IntWalk.u8_in x h
theorem wu16 {x : Int} (h : 0 ≤ x ∧ x ≤ 65535) : IntKind.wrap .u16 x = x := IntWalk.u16_in x h
theorem wu8_mod (x : Int) : IntKind.wrap .u8 x = x % 256 := by simp [IntKind.wrap, IntKind.bits, IntKind.signed]
theorem wu16_mod (x : Int) : IntKind.wrap .u16 x = x % 65536 := by simp [IntKind.wrap, IntKind.bits, IntKind.signed]
theorem w64_succ {i : Nat} (h : i < 9223372036854775807) : IntKind.wrap .i64 ((i : Int) + 1) = ((i + 1 : Nat) : Int) := by rw [w64 (by omega)]; rfl

/-! places -/
theorem inB_of {i : Int} {n : Nat} (h : 0 ≤ i ∧ i < n) : inB i n = true := by simp [inB, h]
theorem leB_of {i : Int} {n : Nat} (h : 0 ≤ i ∧ i ≤ n) : leB i n = true := by simp [leB, h]
theorem fits_of {α : Type} {lo len : Nat} {l : List α} (h : lo + len ≤ l.length) : fits lo len l = true := by simp [fits, h]
theorem fits_not {α : Type} {lo len : Nat} {l : List α} (h : l.length < lo + len) : fits lo len l = false := by simp [fits]; omega
theorem addLo_eq' (n : Nat) (i : Int) : addLo n i = n + i := by cases n <;> simp [addLo]
theorem addN_eq' (n m : Nat) : addN n m = n + m := by cases n <;> cases m <;> simp [addN]
theorem sub_all {α : Type} (l : List α) : sub l 0 l.length = l := by simp [sub]

/-! strings -/
theorem bs_inj {a b : List UInt8} : bs a = bs b ↔ a = b := by
  constructor
  · intro h
    have : a.toArray = b.toArray := congrArg ByteArray.data h
    exact congrArg Array.toList this
  · exact congrArg _
theorem bs_list (s : ByteArray) : bs s.data.toList = s := by cases s; simp [bs]
theorem bs_data (l : List UInt8) : (bs l).data.toList = l := rfl
@[simp] theorem bs_size (l : List UInt8) : (bs l).size = l.length := by simp [bs, ByteArray.size]
theorem bs_ex (s : ByteArray) : ∃ l, s = bs l := ⟨_, (bs_list s).symm⟩
theorem bt_bs (l : List UInt8) (i : Nat) : bt (bs l) (i : Int) = ((l.getD i 0).toNat : Int) := by
  simp [bt, bs]
theorem bt_get {l : List UInt8} {i : Nat} (h : i < l.length) : bt (bs l) (i : Int) = (l[i].toNat : Int) := by
  rw [bt_bs]; simp [List.getD, List.getElem?_eq_getElem h]
theorem bs_extract (l : List UInt8) (a b : Nat) : (bs l).extract a b = bs ((l.drop a).take (b - a)) := by
  apply ByteArray.ext
  simp only [bs, ByteArray.data_extract]
  simp [List.extract_toArray]

/-! the index of a byte -/
theorem indexByte_eq (l : List UInt8) (c : UInt8) : Lib.indexByte l c = if c ∈ l then ((l.takeWhile (· != c)).length : Int) else -1 := by
  induction l with
  | nil => rfl
  | cons b l ih =>
    unfold Lib.indexByte
    by_cases h : b = c
    · subst h; simp
    · have h2 : (b == c) = false := by simpa using h
      rw [ih]
      by_cases h3 : c ∈ l
      · have hc : ¬ (c = b) := fun e => h e.symm
        simp [h3, h]
        try omega
      · have hc : ¬ (c = b) := fun e => h e.symm
        simp [h3, h2, hc]

/-! maps -/
def Sh.key : Sh → Bool
  | .int _ => true
  | .bool => true
  | .str => true
  | .isl _ => false
  | .pair a b => a.key && b.key
  | .unit => true

theorem Sh.eqb_iff : ∀ {s : Sh}, s.key = true → ∀ {a b : s.T}, s.eqb a b = true ↔ a = b
  | .int _, _, a, b => by simp [Sh.eqb]
  | .bool, _, a, b => by simp [Sh.eqb]
  | .str, _, a, b => by simp [Sh.eqb]
  | .isl _, h, _, _ => by cases h
  | .pair x y, h, a, b => by
    have h : (x.key && y.key) = true := h
    rw [Bool.and_eq_true] at h
    show (x.eqb a.1 b.1 && y.eqb a.2 b.2) = true ↔ a = b
    rw [Bool.and_eq_true, Sh.eqb_iff h.1, Sh.eqb_iff h.2]
    exact ⟨fun e => Prod.ext e.1 e.2, fun e => by rw [e]; exact ⟨rfl, rfl⟩⟩
  | .unit, _, a, b => by simp [Sh.eqb]

theorem Sh.eqb_self {s : Sh} (h : s.key = true) (a : s.T) : s.eqb a a = true := (Sh.eqb_iff h).2 rfl
theorem Sh.eqb_ne {s : Sh} (h : s.key = true) {a b : s.T} (n : a ≠ b) : s.eqb a b = false := by
  cases e : s.eqb a b with
  | false => rfl
  | true => exact absurd ((Sh.eqb_iff h).1 e) n

section
variable {ks vs : Sh} (hk : ks.key = true)

theorem mfind_nil (k : ks.T) : mfind ks vs [] k = none := rfl
include hk
theorem mfind_put_same {l : List (ks.T × vs.T)} (k : ks.T) (v : vs.T) : mfind ks vs (mput ks vs l k v) k = some v := by
  induction l with
  | nil => simp [mput, mfind, Sh.eqb_self hk]
  | cons p r ih =>
    by_cases h : ks.eqb k p.1 = true
    · simp only [mput, if_pos h, mfind]; rw [if_pos (Sh.eqb_self hk _)]
    · simp only [mput, if_neg h, mfind]; exact ih
theorem mfind_put_ne {l : List (ks.T × vs.T)} {k k' : ks.T} (hn : k ≠ k') (v : vs.T) : mfind ks vs (mput ks vs l k v) k' = mfind ks vs l k' := by
  have hn' : ¬ (ks.eqb k' k = true) := fun e => hn ((Sh.eqb_iff hk).1 e).symm
  induction l with
  | nil => simp only [mput, mfind]; rw [if_neg hn']
  | cons p r ih =>
    by_cases h : ks.eqb k p.1 = true
    · have hp : ¬ (ks.eqb k' p.1 = true) := fun e => hn (((Sh.eqb_iff hk).1 h).trans ((Sh.eqb_iff hk).1 e).symm)
      simp only [mput, if_pos h, mfind]; rw [if_neg hn', if_neg hp]
    · simp only [mput, if_neg h, mfind]; rw [ih]

theorem mem_keys {l : List (ks.T × vs.T)} {k : ks.T} : (mfind ks vs l k).isSome = true ↔ k ∈ l.map (·.1) := by
  induction l with
  | nil => simp [mfind]
  | cons p r ih =>
    simp only [mfind, List.map_cons, List.mem_cons]
    by_cases h : k = p.1
    · rw [if_pos (by rw [h]; exact Sh.eqb_self hk _)]; simp [h]
    · rw [if_neg (by rw [Sh.eqb_ne hk h]; simp), ih]; simp [h]

omit hk in
theorem length_put {l : List (ks.T × vs.T)} (k : ks.T) (v : vs.T) : (mput ks vs l k v).length = if (mfind ks vs l k).isSome then l.length else l.length + 1 := by
  induction l with
  | nil => rfl
  | cons p r ih =>
    by_cases h : ks.eqb k p.1 = true
    · simp [mput, mfind, h]
    · simp only [mput, mfind, if_neg h, List.length_cons, ih]
      split <;> rfl

theorem keys_put {l : List (ks.T × vs.T)} (k : ks.T) (v : vs.T) : (mput ks vs l k v).map (·.1) = if (mfind ks vs l k).isSome then l.map (·.1) else l.map (·.1) ++ [k] := by
  induction l with
  | nil => rfl
  | cons p r ih =>
    by_cases h : ks.eqb k p.1 = true
    · have := (Sh.eqb_iff hk).1 h
      simp only [mput, mfind, if_pos h, List.map_cons, Option.isSome_some, if_true]
      rw [this]
    · simp only [mput, mfind, if_neg h, List.map_cons, ih]
      split <;> rfl

theorem nodup_put {l : List (ks.T × vs.T)} (h : (l.map (·.1)).Nodup) (k : ks.T) (v : vs.T) : ((mput ks vs l k v).map (·.1)).Nodup := by
  rw [keys_put hk]
  split
  · exact h
  · rename_i hn
    rw [List.nodup_append]
    refine ⟨h, by simp, ?_⟩
    intro a ha b hb e
    rw [List.mem_singleton] at hb
    subst hb
    subst e
    exact hn ((mem_keys hk).2 ha)

theorem keys_del {l : List (ks.T × vs.T)} (k : ks.T) : ∃ a b, l.map (·.1) = a ++ b ∧ (mdel ks vs l k).map (·.1) = a ++ b.drop 1 ∧ ((mfind ks vs l k).isSome = true → b.head? = some k) ∧ (¬ (mfind ks vs l k).isSome = true → b = []) := by
  induction l with
  | nil => exact ⟨[], [], rfl, rfl, fun h => (by simp [mfind] at h), fun _ => rfl⟩
  | cons p r ih =>
    by_cases h : ks.eqb k p.1 = true
    · have := (Sh.eqb_iff hk).1 h
      refine ⟨[], p.1 :: r.map (·.1), rfl, by simp [mdel, h], fun _ => by simp [this], fun hn => absurd (by simp [mfind, h]) hn⟩
    · obtain ⟨a, b, h1, h2, h3, h4⟩ := ih
      have e : mfind ks vs (p :: r) k = mfind ks vs r k := by simp only [mfind, if_neg h]
      rw [e]
      exact ⟨p.1 :: a, b, by simp [h1], by simp [mdel, h, h2], h3, h4⟩

omit hk in
theorem length_del {l : List (ks.T × vs.T)} (k : ks.T) : (mdel ks vs l k).length = if (mfind ks vs l k).isSome then l.length - 1 else l.length := by
  induction l with
  | nil => rfl
  | cons p r ih =>
    by_cases h : ks.eqb k p.1 = true
    · simp [mdel, mfind, h]
    · simp only [mdel, mfind, if_neg h, List.length_cons, ih]
      split
      · rename_i hs
        have : 0 < r.length := by
          cases r with
          | nil => simp [mfind] at hs
          | cons => simp
        omega
      · rfl

theorem nodup_del {l : List (ks.T × vs.T)} (h : (l.map (·.1)).Nodup) (k : ks.T) : ((mdel ks vs l k).map (·.1)).Nodup := by
  obtain ⟨a, b, h1, h2, _, _⟩ := keys_del hk (vs := vs) (l := l) k
  rw [h1] at h
  rw [h2]
  exact List.Nodup.sublist (List.Sublist.append_left (List.drop_sublist _ _) _) h

theorem mfind_del_ne {l : List (ks.T × vs.T)} {k k' : ks.T} (hn : k ≠ k') : mfind ks vs (mdel ks vs l k) k' = mfind ks vs l k' := by
  induction l with
  | nil => rfl
  | cons p r ih =>
    by_cases h : ks.eqb k p.1 = true
    · have e := (Sh.eqb_iff hk).1 h
      have : ¬ (ks.eqb k' p.1 = true) := fun e' => hn (e.trans ((Sh.eqb_iff hk).1 e').symm)
      simp [mdel, mfind, h, this]
    · simp only [mdel, mfind, if_neg h, ih]

theorem mfind_del_same {l : List (ks.T × vs.T)} (h : (l.map (·.1)).Nodup) (k : ks.T) : mfind ks vs (mdel ks vs l k) k = none := by
  cases hs : mfind ks vs (mdel ks vs l k) k with
  | none => rfl
  | some v =>
    have hm : k ∈ (mdel ks vs l k).map (·.1) := (mem_keys hk).1 (by rw [hs]; rfl)
    obtain ⟨a, b, h1, h2, h3, h4⟩ := keys_del hk (vs := vs) (l := l) k
    rw [h2] at hm
    rw [h1] at h
    exfalso
    by_cases hf : (mfind ks vs l k).isSome = true
    · have hb := h3 hf
      cases b with
      | nil => cases hb
      | cons x t =>
        simp only [List.head?_cons, Option.some.injEq] at hb
        subst hb
        rw [List.nodup_append] at h
        rcases List.mem_append.1 hm with hm | hm
        · exact h.2.2 _ hm _ (by simp) rfl
        · have h5 := h.2.1
          rw [List.nodup_cons] at h5
          exact h5.1 (by simpa using hm)
    · have hb := h4 hf
      subst hb
      rw [List.append_nil] at h1
      exact hf ((mem_keys hk).2 (by rw [h1]; simpa using hm))
end

end

/-! the same once more -/
theorem listDec_self {α : Type} {f : α → α → Bool} (h : ∀ a, f a a = true) : ∀ l : List α, listDec f l l = true
  | [] => rfl
  | a :: l => by
    unfold listDec
    rw [h, listDec_self h l]
    rfl
theorem Sh.dec_self : ∀ (s : Sh) (a : s.T), s.dec a a = true
  | .int _, a => decide_eq_true (rfl : (a : Int) = a)
  | .bool, a => decide_eq_true (rfl : (a : Bool) = a)
  | .str, a => decide_eq_true (rfl : (a : ByteArray) = a)
  | .isl s, a => listDec_self (Sh.dec_self s) a
  | .pair x y, a => by
    show (x.dec a.1 a.1 && y.dec a.2 a.2) = true
    rw [Sh.dec_self x, Sh.dec_self y]
    rfl
  | .unit, _ => rfl
theorem listDec_dec (s : Sh) (l : List s.T) : listDec s.dec l l = true := listDec_self (Sh.dec_self s) l
theorem listDec_int (k : IntKind) (l : List Int) : listDec (Sh.dec (.int k)) l l = true := listDec_dec (.int k) l

end Go.Gx
