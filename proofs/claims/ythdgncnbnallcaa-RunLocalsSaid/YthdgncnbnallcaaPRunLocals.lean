/-
  the law RunLocals of chapter 16, as a printed function: it comes to true.
-/
import Derived.Test.YthdgncnbnallcaaPCheckS
import Derived.KernelRfl
set_option linter.unusedSimpArgs false
set_option linter.unusedVariables false
namespace Go.Proofs.Ythdgncnbnallcaa
open Go.Gx

def loc0 : List Int := List.replicate 8 0
def mem0 : List Int := List.replicate 32 0
def fds0 : List Int := [0, 0, 0, 0]
abbrev EV := List (Bool × Int)
abbrev ST (P : List Ins) (p s : Nat) (stack loc mem : List Int) (ev : EV) : run_all_32d2_S0 := .v2 300 P [] [] [] [] (p : Int) loc mem 0 0 (s : Int) stack fds0 0 [] [] [] 0 [] ev
theorem eight {a : Nat} (h : a < 8) : a = 0 ∨ a = 1 ∨ a = 2 ∨ a = 3 ∨ a = 4 ∨ a = 5 ∨ a = 6 ∨ a = 7 := by omega
theorem thirty {b : Nat} (h : b < 32) : b = 0 ∨ b = 1 ∨ b = 2 ∨ b = 3 ∨ b = 4 ∨ b = 5 ∨ b = 6 ∨ b = 7 ∨ b = 8 ∨ b = 9 ∨ b = 10 ∨ b = 11 ∨ b = 12 ∨ b = 13 ∨ b = 14 ∨ b = 15 ∨ b = 16 ∨ b = 17 ∨ b = 18 ∨ b = 19 ∨ b = 20 ∨ b = 21 ∨ b = 22 ∨ b = 23 ∨ b = 24 ∨ b = 25 ∨ b = 26 ∨ b = 27 ∨ b = 28 ∨ b = 29 ∨ b = 30 ∨ b = 31 := by omega
theorem mid_at {α : Type} {L pre m post : List α} (e : L = pre ++ (m ++ post)) {p j : Nat} (hp : p = pre.length + j) (h : j < m.length) (d : α) : p < L.length ∧ L.getD p d = m.getD j d := by
  subst e hp
  refine ⟨by simp; omega, ?_⟩
  rw [List.getD_eq_getElem?_getD, List.getElem?_append_right (by omega), Nat.add_sub_cancel_left, List.getElem?_append_left h, List.getD_eq_getElem?_getD]

/-! ### a step for each instruction -/
section
variable {R : Type} (N n : Nat) {P : List Ins} (hl : P.length ≤ 96) {p s : Nat} (hp : p < P.length) (hs : s < 300) (loc mem : List Int) (ev : EV)
  (k0 : List Ins → List ByteArray → List (List Int) → List (List Int) → List Bool → Int → List Int → List Int → Int → Int → Int → List Int → Int → List Bool → EV → Option R)
  (k1 : List Ins → List ByteArray → List (List Int) → List (List Int) → List Bool → Int → List Int → List Int → Int → Int → Int → List Int → List Int → Int → List ((ByteArray × ByteArray) × (Int × Bool)) → List (Int × List Int) → List (Int × Int) → Int → List Bool → EV → Option R)
include hl hp hs

theorem do_push0 {A : Int} (hq : P.getD p (0, 0) = (1, A)) : run_all_32d2_l0 N k0 k1 (n + 1) (ST P p s [] loc mem ev) = run_all_32d2_l0 N k0 k1 n (ST P (p + 1) (s + 1) [IntKind.wrap .u16 A] loc mem (ev)) := by
  rw [run_all_32d2_l0, run_all_32d2_l0_T2]
  rw [br_of (by rfl), br_not (decide_eq_false (by omega))]
  unfold run_machine_step_6326 run_machine_step_6326_T
  rw [br_of (inB_of ⟨by omega, by omega⟩), br_of (decide_eq_true (by omega))]
  simp only [Int.toNat_natCast, hq, w64_succ (show p < 9223372036854775807 by omega), w64_succ (show s < 9223372036854775807 by omega)]
  kernel_rfl

theorem do_push1 {A x : Int} (hq : P.getD p (0, 0) = (1, A)) : run_all_32d2_l0 N k0 k1 (n + 1) (ST P p s [x] loc mem ev) = run_all_32d2_l0 N k0 k1 n (ST P (p + 1) (s + 1) [x, IntKind.wrap .u16 A] loc mem (ev)) := by
  rw [run_all_32d2_l0, run_all_32d2_l0_T2]
  rw [br_of (by rfl), br_not (decide_eq_false (by omega))]
  unfold run_machine_step_6326 run_machine_step_6326_T
  rw [br_of (inB_of ⟨by omega, by omega⟩), br_of (decide_eq_true (by omega))]
  simp only [Int.toNat_natCast, hq, w64_succ (show p < 9223372036854775807 by omega), w64_succ (show s < 9223372036854775807 by omega)]
  kernel_rfl

theorem do_set {a : Nat} (ha : a < 8) {x : Int} (hq : P.getD p (0, 0) = (19, (a : Int))) : run_all_32d2_l0 N k0 k1 (n + 1) (ST P p s [x] loc mem ev) = run_all_32d2_l0 N k0 k1 n (ST P (p + 1) (s + 1) [] (loc.set a x) mem (ev)) := by
  rw [run_all_32d2_l0, run_all_32d2_l0_T2]
  rw [br_of (by rfl), br_not (decide_eq_false (by omega))]
  unfold run_machine_step_6326 run_machine_step_6326_T
  rw [br_of (inB_of ⟨by omega, by omega⟩), br_of (decide_eq_true (by omega))]
  simp only [Int.toNat_natCast, hq, w64_succ (show p < 9223372036854775807 by omega), w64_succ (show s < 9223372036854775807 by omega)]
  rcases eight ha with h | h | h | h | h | h | h | h <;> subst h <;> kernel_rfl

theorem do_get {a : Nat} (ha : a < 8) (hq : P.getD p (0, 0) = (18, (a : Int))) : run_all_32d2_l0 N k0 k1 (n + 1) (ST P p s [] loc mem ev) = run_all_32d2_l0 N k0 k1 n (ST P (p + 1) (s + 1) [loc.getD a 0] loc mem (ev)) := by
  rw [run_all_32d2_l0, run_all_32d2_l0_T2]
  rw [br_of (by rfl), br_not (decide_eq_false (by omega))]
  unfold run_machine_step_6326 run_machine_step_6326_T
  rw [br_of (inB_of ⟨by omega, by omega⟩), br_of (decide_eq_true (by omega))]
  simp only [Int.toNat_natCast, hq, w64_succ (show p < 9223372036854775807 by omega), w64_succ (show s < 9223372036854775807 by omega)]
  rcases eight ha with h | h | h | h | h | h | h | h <;> subst h <;> kernel_rfl

theorem do_store {b : Nat} (hb : b < 32) {x : Int} (hq : P.getD p (0, 0) = (21, 0)) : run_all_32d2_l0 N k0 k1 (n + 1) (ST P p s [(b : Int), x] loc mem ev) = run_all_32d2_l0 N k0 k1 n (ST P (p + 1) (s + 1) [] loc (mem.set b (IntKind.wrap .u8 x)) (ev)) := by
  rw [run_all_32d2_l0, run_all_32d2_l0_T2]
  rw [br_of (by rfl), br_not (decide_eq_false (by omega))]
  unfold run_machine_step_6326 run_machine_step_6326_T
  rw [br_of (inB_of ⟨by omega, by omega⟩), br_of (decide_eq_true (by omega))]
  simp only [Int.toNat_natCast, hq, w64_succ (show p < 9223372036854775807 by omega), w64_succ (show s < 9223372036854775807 by omega)]
  rcases thirty hb with h | h | h | h | h | h | h | h | h | h | h | h | h | h | h | h | h | h | h | h | h | h | h | h | h | h | h | h | h | h | h | h <;> subst h <;> kernel_rfl

theorem do_load {b : Nat} (hb : b < 32) (hq : P.getD p (0, 0) = (20, 0)) : run_all_32d2_l0 N k0 k1 (n + 1) (ST P p s [(b : Int)] loc mem ev) = run_all_32d2_l0 N k0 k1 n (ST P (p + 1) (s + 1) [IntKind.wrap .u16 (mem.getD b 0)] loc mem (ev)) := by
  rw [run_all_32d2_l0, run_all_32d2_l0_T2]
  rw [br_of (by rfl), br_not (decide_eq_false (by omega))]
  unfold run_machine_step_6326 run_machine_step_6326_T
  rw [br_of (inB_of ⟨by omega, by omega⟩), br_of (decide_eq_true (by omega))]
  simp only [Int.toNat_natCast, hq, w64_succ (show p < 9223372036854775807 by omega), w64_succ (show s < 9223372036854775807 by omega)]
  rcases thirty hb with h | h | h | h | h | h | h | h | h | h | h | h | h | h | h | h | h | h | h | h | h | h | h | h | h | h | h | h | h | h | h | h <;> subst h <;> kernel_rfl

theorem do_out (he : ev.length ≤ 100) {x : Int} (hq : P.getD p (0, 0) = (24, 0)) : run_all_32d2_l0 N k0 k1 (n + 1) (ST P p s [x] loc mem ev) = run_all_32d2_l0 N k0 k1 n (ST P (p + 1) (s + 1) [] loc mem (ev ++ [(true, band .u16 x 255)])) := by
  rw [run_all_32d2_l0, run_all_32d2_l0_T2]
  rw [br_of (by rfl), br_not (decide_eq_false (by omega))]
  unfold run_machine_step_6326 run_machine_step_6326_T
  rw [br_of (inB_of ⟨by omega, by omega⟩), br_of (decide_eq_true (by omega))]
  simp only [Int.toNat_natCast, hq, w64_succ (show p < 9223372036854775807 by omega), w64_succ (show s < 9223372036854775807 by omega)]
  have g : (((fits 0 ev.length ev) && (decide ((ev.length + 1) * 4 ≤ 70368744177664))) && true) = true := by rw [fits_of (by omega), decide_eq_true (by omega)]; rfl
  refine Eq.trans (b := br (((fits 0 ev.length ev) && (decide ((ev.length + 1) * 4 ≤ 70368744177664))) && true) (run_all_32d2_l0 N k0 k1 n (ST P (p + 1) (s + 1) [] loc mem (sub ev 0 ev.length ++ [(true, band .u16 x 255)]))) none) (by kernel_rfl) ?_
  rw [g, sub_all]
  rfl

theorem do_exit {x : Int} (hq : P.getD p (0, 0) = (26, 0)) : run_all_32d2_l0 N k0 k1 (n + 1 + 1) (ST P p s [x] loc mem ev) = k1 P [] [] [] [] ((p + 1 : Nat) : Int) loc mem 1 (band .u16 x 255) ((s + 1 : Nat) : Int) [] fds0 0 [] [] [] 0 [] ev := by
  rw [run_all_32d2_l0, run_all_32d2_l0_T2]
  rw [br_of (by rfl), br_not (decide_eq_false (by omega))]
  unfold run_machine_step_6326 run_machine_step_6326_T
  rw [br_of (inB_of ⟨by omega, by omega⟩), br_of (decide_eq_true (by omega))]
  simp only [Int.toNat_natCast, hq, w64_succ (show p < 9223372036854775807 by omega), w64_succ (show s < 9223372036854775807 by omega)]
  kernel_rfl
end

/-! ### rows of instructions -/
abbrev Item := Nat × Nat × Int
def five (i : Item) : List Ins := [(1, i.2.2), (19, (i.1 : Int)), (1, (i.2.1 : Int)), (1, i.2.2), (21, 0)]
def fives : List Item → List Ins
  | [] => []
  | i :: r => five i ++ fives r
def locF : List Item → List Int → List Int
  | [], l => l
  | i :: r, l => locF r (l.set i.1 i.2.2)
def memF : List Item → List Int → List Int
  | [], l => l
  | i :: r, l => memF r (l.set i.2.1 (IntKind.wrap .u8 i.2.2))
def okI (i : Item) : Prop := i.1 < 8 ∧ i.2.1 < 32 ∧ 0 ≤ i.2.2 ∧ i.2.2 ≤ 65535
theorem fives_len : ∀ l : List Item, (fives l).length = 5 * l.length
  | [] => rfl
  | i :: r => by rw [fives, List.length_append, fives_len r]; simp [five]; omega
def gets : Nat → Nat → List Ins
  | _, 0 => []
  | j, m + 1 => [(18, (j : Int)), (24, 0)] ++ gets (j + 1) m
def loads : Nat → Nat → List Ins
  | _, 0 => []
  | j, m + 1 => [(1, ((4 * j : Nat) : Int)), (20, 0), (24, 0)] ++ loads (j + 1) m
def getV (loc : List Int) (j : Nat) : Bool × Int := (true, band .u16 (loc.getD j 0) 255)
def loadV (mem : List Int) (j : Nat) : Bool × Int := (true, band .u16 (IntKind.wrap .u16 (mem.getD (4 * j) 0)) 255)
theorem gets_len : ∀ (m j : Nat), (gets j m).length = 2 * m
  | 0, _ => rfl
  | m + 1, j => by rw [gets, List.length_append, gets_len m]; simp; omega
theorem loads_len : ∀ (m j : Nat), (loads j m).length = 3 * m
  | 0, _ => rfl
  | m + 1, j => by rw [loads, List.length_append, loads_len m]; simp; omega

/-! ### they may run -/
theorem tbs : (tk 1 = 0 ∧ gv 1 = 1) ∧ (tk 18 = 0 ∧ gv 18 = 1) ∧ (tk 19 = 1 ∧ gv 19 = 0) ∧ (tk 20 = 1 ∧ gv 20 = 1) ∧ (tk 21 = 2 ∧ gv 21 = 0) ∧ (tk 24 = 1 ∧ gv 24 = 0) := by decide +kernel
theorem is_push {a : Int} (h : 0 ≤ a ∧ a ≤ 65535) : isI 1 a = true := by
  have e : (tb 1).2.2.2 = true ∧ (tb 1).2.2.1 = 65536 := by decide +kernel
  unfold isI
  rw [e.1, e.2, decide_eq_true (by omega), decide_eq_true (by omega)]
  rfl
theorem is_slot {o : Int} (ho : o = 18 ∨ o = 19) {a : Nat} (h : a < 8) : isI o (a : Int) = true := by
  have e : ∀ o : Int, o = 18 ∨ o = 19 → isI o 0 = true ∧ isI o 1 = true ∧ isI o 2 = true ∧ isI o 3 = true ∧ isI o 4 = true ∧ isI o 5 = true ∧ isI o 6 = true ∧ isI o 7 = true := by
    rintro o (h | h) <;> subst h <;> decide +kernel
  have e := e o ho
  rcases eight h with h | h | h | h | h | h | h | h <;> subst h
  · exact e.1
  · exact e.2.1
  · exact e.2.2.1
  · exact e.2.2.2.1
  · exact e.2.2.2.2.1
  · exact e.2.2.2.2.2.1
  · exact e.2.2.2.2.2.2.1
  · exact e.2.2.2.2.2.2.2
theorem is_rest : isI 20 0 = true ∧ isI 21 0 = true ∧ isI 24 0 = true := by decide +kernel
theorem way1 {l : List Ins} {a h h' : Int} (ha : 0 ≤ a ∧ a ≤ 65535) (hh : 0 ≤ h ∧ h ≤ 15) (w : Way l (h + 1) h') : Way ((1, a) :: l) h h' := by
  refine .cons ⟨is_push ha, rfl, rfl, rfl, ?_, ?_⟩ ?_ w
  · rw [tbs.1.1]; omega
  · rw [tbs.1.1, tbs.1.2]; omega
  · show h + 1 = h - tk 1 + gv 1
    rw [tbs.1.1, tbs.1.2]; omega
theorem way_five {i : Item} (h : okI i) : Way (five i) 0 0 := by
  obtain ⟨h1, h2, h3⟩ := h
  unfold five
  refine way1 h3 (by omega) ?_
  refine .cons (h' := 0) ⟨is_slot (.inr rfl) h1, rfl, rfl, rfl, ?_, ?_⟩ ?_ ?_
  · show tk 19 ≤ _
    rw [tbs.2.2.1.1]; omega
  · show _ - tk 19 + gv 19 ≤ _
    rw [tbs.2.2.1.1, tbs.2.2.1.2]; omega
  · show _ = _ - tk 19 + gv 19
    rw [tbs.2.2.1.1, tbs.2.2.1.2]; omega
  refine way1 (by omega) (by omega) (way1 h3 (by omega) ?_)
  refine .cons (h' := 0) ⟨is_rest.2.1, rfl, rfl, rfl, ?_, ?_⟩ ?_ .nil
  · show tk 21 ≤ _
    rw [tbs.2.2.2.2.1.1]; omega
  · show _ - tk 21 + gv 21 ≤ _
    rw [tbs.2.2.2.2.1.1, tbs.2.2.2.2.1.2]; omega
  · show _ = _ - tk 21 + gv 21
    rw [tbs.2.2.2.2.1.1, tbs.2.2.2.2.1.2]; omega
theorem way_fives : ∀ {l : List Item}, (∀ i ∈ l, okI i) → Way (fives l) 0 0
  | [], _ => .nil
  | i :: _, h => (way_five (h i (by simp))).append (way_fives fun j hj => h j (by simp [hj]))
theorem way24 {l : List Ins} {h' : Int} (w : Way l 0 h') : Way ((24, 0) :: l) 1 h' := by
  refine .cons (h' := 0) ⟨is_rest.2.2, rfl, rfl, rfl, ?_, ?_⟩ ?_ w
  · show tk 24 ≤ _
    rw [tbs.2.2.2.2.2.1]; omega
  · show _ - tk 24 + gv 24 ≤ _
    rw [tbs.2.2.2.2.2.1, tbs.2.2.2.2.2.2]; omega
  · show _ = _ - tk 24 + gv 24
    rw [tbs.2.2.2.2.2.1, tbs.2.2.2.2.2.2]; omega
theorem way18 {a : Nat} (ha : a < 8) {l : List Ins} {h' : Int} (w : Way l 1 h') : Way ((18, (a : Int)) :: l) 0 h' := by
  refine .cons (h' := 1) ⟨is_slot (.inl rfl) ha, rfl, rfl, rfl, ?_, ?_⟩ ?_ w
  · show tk 18 ≤ _
    rw [tbs.2.1.1]; omega
  · show _ - tk 18 + gv 18 ≤ _
    rw [tbs.2.1.1, tbs.2.1.2]; omega
  · show _ = _ - tk 18 + gv 18
    rw [tbs.2.1.1, tbs.2.1.2]; omega
theorem way_gets : ∀ (m j : Nat), j + m ≤ 8 → Way (gets j m) 0 0
  | 0, _, _ => .nil
  | m + 1, j, h => way18 (by omega) (way24 (way_gets m (j + 1) (by omega)))
theorem way_loads : ∀ (m j : Nat), j + m ≤ 8 → Way (loads j m) 0 0
  | 0, _, _ => .nil
  | m + 1, j, h => by
    refine way1 (by omega) (by omega) ?_
    refine .cons (h' := 1) ⟨is_rest.1, rfl, rfl, rfl, ?_, ?_⟩ ?_ (way24 (way_loads m (j + 1) (by omega)))
    · show tk 20 ≤ _
      rw [tbs.2.2.2.1.1]; omega
    · show _ - tk 20 + gv 20 ≤ _
      rw [tbs.2.2.2.1.1, tbs.2.2.2.1.2]; omega
    · show _ = _ - tk 20 + gv 20
      rw [tbs.2.2.2.1.1, tbs.2.2.2.1.2]; omega

/-! ### what they do -/
section
variable {R : Type} (N : Nat) {P : List Ins} (hl : P.length ≤ 96)
  (k0 : List Ins → List ByteArray → List (List Int) → List (List Int) → List Bool → Int → List Int → List Int → Int → Int → Int → List Int → Int → List Bool → EV → Option R)
  (k1 : List Ins → List ByteArray → List (List Int) → List (List Int) → List Bool → Int → List Int → List Int → Int → Int → Int → List Int → List Int → Int → List ((ByteArray × ByteArray) × (Int × Bool)) → List (Int × List Int) → List (Int × Int) → Int → List Bool → EV → Option R)
include hl
theorem run_five (n : Nat) {pre post : List Ins} {i : Item} (hi : okI i) (e : P = pre ++ (five i ++ post)) {p s : Nat} (hp : p = pre.length) (hs : s + 5 ≤ 300) (loc mem : List Int) (ev : EV) :
    run_all_32d2_l0 N k0 k1 (n + 5) (ST P p s [] loc mem ev) = run_all_32d2_l0 N k0 k1 n (ST P (p + 5) (s + 5) [] (loc.set i.1 i.2.2) (mem.set i.2.1 (IntKind.wrap .u8 i.2.2)) ev) := by
  obtain ⟨h1, h2, h3⟩ := hi
  have a0 := mid_at e (p := p) (j := 0) (by omega) (by simp [five]) (0, 0)
  have a1 := mid_at e (p := p + 1) (j := 1) (by omega) (by simp [five]) (0, 0)
  have a2 := mid_at e (p := p + 2) (j := 2) (by omega) (by simp [five]) (0, 0)
  have a3 := mid_at e (p := p + 3) (j := 3) (by omega) (by simp [five]) (0, 0)
  have a4 := mid_at e (p := p + 4) (j := 4) (by omega) (by simp [five]) (0, 0)
  have w1 : IntKind.wrap .u16 i.2.2 = i.2.2 := wu16 h3
  have w2 : IntKind.wrap .u16 (i.2.1 : Int) = (i.2.1 : Int) := wu16 (by omega)
  refine (do_push0 N (n + 4) hl a0.1 (by omega) loc mem ev k0 k1 a0.2).trans ?_
  rw [w1]
  refine (do_set N (n + 3) hl a1.1 (by omega) loc mem ev k0 k1 h1 a1.2).trans ?_
  refine (do_push0 N (n + 2) hl a2.1 (by omega) _ mem ev k0 k1 a2.2).trans ?_
  rw [w2]
  refine (do_push1 N (n + 1) hl a3.1 (by omega) _ mem ev k0 k1 a3.2).trans ?_
  rw [w1]
  exact do_store N n hl a4.1 (by omega) _ mem ev k0 k1 h2 a4.2

theorem run_fives : ∀ (l : List Item) (n : Nat) {pre post : List Ins}, (∀ i ∈ l, okI i) → P = pre ++ (fives l ++ post) → ∀ {p s : Nat}, p = pre.length → s + 5 * l.length ≤ 300 → ∀ (loc mem : List Int) (ev : EV),
    run_all_32d2_l0 N k0 k1 (n + 5 * l.length) (ST P p s [] loc mem ev) = run_all_32d2_l0 N k0 k1 n (ST P (p + 5 * l.length) (s + 5 * l.length) [] (locF l loc) (memF l mem) ev)
  | [], _, _, _, _, _, _, _, _, _, _, _, _ => rfl
  | i :: r, n, pre, post, h, e, p, s, hp, hs, loc, mem, ev => by
    rw [List.length_cons] at hs ⊢
    have e1 : n + 5 * (r.length + 1) = (n + 5 * r.length) + 5 := by omega
    rw [e1]
    refine (run_five N hl k0 k1 (n + 5 * r.length) (h i (by simp)) (post := fives r ++ post) (by rw [e, fives, List.append_assoc]) hp (by omega) loc mem ev).trans ?_
    have := run_fives r n (pre := pre ++ five i) (post := post) (fun j hj => h j (by simp [hj])) (by rw [e, fives]; simp [List.append_assoc]) (p := p + 5) (s := s + 5) (by rw [List.length_append, hp]; rfl) (by omega) (loc.set i.1 i.2.2) (mem.set i.2.1 (IntKind.wrap .u8 i.2.2)) ev
    refine this.trans ?_
    rw [show p + 5 + 5 * r.length = p + 5 * (r.length + 1) by omega, show s + 5 + 5 * r.length = s + 5 * (r.length + 1) by omega]
    rfl

theorem run_gets : ∀ (m j n : Nat) {pre post : List Ins}, j + m ≤ 8 → P = pre ++ (gets j m ++ post) → ∀ {p s : Nat}, p = pre.length → s + 2 * m ≤ 300 → ∀ (loc mem : List Int) (ev : EV), ev.length + m ≤ 100 →
    run_all_32d2_l0 N k0 k1 (n + 2 * m) (ST P p s [] loc mem ev) = run_all_32d2_l0 N k0 k1 n (ST P (p + 2 * m) (s + 2 * m) [] loc mem (ev ++ (List.range' j m).map (getV loc)))
  | 0, _, _, _, _, _, _, _, _, _, _, _, _, _, _ => by simp
  | m + 1, j, n, pre, post, h, e, p, s, hp, hs, loc, mem, ev, he => by
    have e1 : n + 2 * (m + 1) = (n + 2 * m) + 2 := by omega
    have e' : P = pre ++ ([(18, (j : Int)), (24, 0)] ++ (gets (j + 1) m ++ post)) := by rw [e, gets, List.append_assoc]
    have a0 := mid_at e' (p := p) (j := 0) (by omega) (by simp) (0, 0)
    have a1 := mid_at e' (p := p + 1) (j := 1) (by omega) (by simp) (0, 0)
    rw [e1]
    refine (do_get N (n + 2 * m + 1) hl a0.1 (by omega) loc mem ev k0 k1 (a := j) (by omega) a0.2).trans ?_
    refine (do_out N (n + 2 * m) hl a1.1 (by omega) loc mem ev k0 k1 (by omega) a1.2).trans ?_
    have := run_gets m (j + 1) n (pre := pre ++ [(18, (j : Int)), (24, 0)]) (post := post) (by omega) (by rw [e']; simp [List.append_assoc]) (p := p + 2) (s := s + 2) (by rw [List.length_append, hp]; rfl) (by omega) loc mem (ev ++ [getV loc j]) (by simp; omega)
    refine this.trans ?_
    rw [show p + 2 + 2 * m = p + 2 * (m + 1) by omega, show s + 2 + 2 * m = s + 2 * (m + 1) by omega, List.append_assoc]
    rfl

theorem run_loads : ∀ (m j n : Nat) {pre post : List Ins}, j + m ≤ 8 → P = pre ++ (loads j m ++ post) → ∀ {p s : Nat}, p = pre.length → s + 3 * m ≤ 300 → ∀ (loc mem : List Int) (ev : EV), ev.length + m ≤ 100 →
    run_all_32d2_l0 N k0 k1 (n + 3 * m) (ST P p s [] loc mem ev) = run_all_32d2_l0 N k0 k1 n (ST P (p + 3 * m) (s + 3 * m) [] loc mem (ev ++ (List.range' j m).map (loadV mem)))
  | 0, _, _, _, _, _, _, _, _, _, _, _, _, _, _ => by simp
  | m + 1, j, n, pre, post, h, e, p, s, hp, hs, loc, mem, ev, he => by
    have e1 : n + 3 * (m + 1) = (n + 3 * m) + 3 := by omega
    have e' : P = pre ++ ([(1, ((4 * j : Nat) : Int)), (20, 0), (24, 0)] ++ (loads (j + 1) m ++ post)) := by rw [e, loads, List.append_assoc]
    have a0 := mid_at e' (p := p) (j := 0) (by omega) (by simp) (0, 0)
    have a1 := mid_at e' (p := p + 1) (j := 1) (by omega) (by simp) (0, 0)
    have a2 := mid_at e' (p := p + 2) (j := 2) (by omega) (by simp) (0, 0)
    rw [e1]
    refine (do_push0 N (n + 3 * m + 2) hl a0.1 (by omega) loc mem ev k0 k1 a0.2).trans ?_
    rw [show IntKind.wrap .u16 ((4 * j : Nat) : Int) = ((4 * j : Nat) : Int) from wu16 (by omega)]
    refine (do_load N (n + 3 * m + 1) hl a1.1 (by omega) loc mem ev k0 k1 (b := 4 * j) (by omega) a1.2).trans ?_
    refine (do_out N (n + 3 * m) hl a2.1 (by omega) loc mem ev k0 k1 (by omega) a2.2).trans ?_
    have := run_loads m (j + 1) n (pre := pre ++ [(1, ((4 * j : Nat) : Int)), (20, 0), (24, 0)]) (post := post) (by omega) (by rw [e']; simp [List.append_assoc]) (p := p + 3) (s := s + 3) (by rw [List.length_append, hp]; rfl) (by omega) loc mem (ev ++ [loadV mem j]) (by simp; omega)
    refine this.trans ?_
    rw [show p + 3 + 3 * m = p + 3 * (m + 1) by omega, show s + 3 + 3 * m = s + 3 * (m + 1) by omega, List.append_assoc]
    rfl
end

def prg (l : List Item) : List Ins := fives l ++ (gets 0 8 ++ (loads 0 8 ++ [(18, 0)]))
def evs (l : List Item) : EV := (List.range' 0 8).map (getV (locF l loc0)) ++ (List.range' 0 8).map (loadV (memF l mem0))
theorem prg_len (l : List Item) : (prg l).length = 5 * l.length + 41 := by
  unfold prg
  rw [List.length_append, List.length_append, List.length_append, fives_len, gets_len, loads_len]
  simp
theorem way_prg {l : List Item} (h : ∀ i ∈ l, okI i) : Way (prg l) 0 1 :=
  (way_fives h).append ((way_gets 8 0 (by omega)).append ((way_loads 8 0 (by omega)).append (way18 (a := 0) (by omega) .nil)))

theorem made_eq {R : Type} (n : Nat) {P : List Ins} (hP : ∀ {R : Type} (k : Int → Int → List Ins → List ByteArray → Option R), check_Run_87f1 (n + 3000) P [] k = k 0 0 P []) (k0 k1 k2) :
    run_made_32d2 (R := R) (n + 3000) 300 P [] [] [] [] k0 k1 k2 = k2 0 P [] [] [] [] 0 loc0 mem0 0 0 0 [] fds0 0 [] [] [] 0 [] [] := by
  unfold run_made_32d2 run_made_32d2_T
  rw [hP]
  rfl

theorem locals_loop {R : Type} (N n : Nat) {l : List Item} (hl : l.length ≤ 10) (h : ∀ i ∈ l, okI i) (k0 k1) :
    run_all_32d2_l0 (R := R) N k0 k1 (n + (5 * l.length + 43)) (ST (prg l ++ [(26, 0)]) 0 0 [] loc0 mem0 []) =
      k1 (prg l ++ [(26, 0)]) [] [] [] [] ((5 * l.length + 42 : Nat) : Int) (locF l loc0) (memF l mem0) 1 (band .u16 ((locF l loc0).getD 0 0) 255) ((5 * l.length + 42 : Nat) : Int) [] fds0 0 [] [] [] 0 [] (evs l) := by
  obtain ⟨P, hP⟩ : ∃ P, P = prg l ++ [((26 : Int), (0 : Int))] := ⟨_, rfl⟩
  rw [← hP]
  have hlen : P.length ≤ 96 := by rw [hP, List.length_append, prg_len]; simp; omega
  have e1 : P = [] ++ (fives l ++ (gets 0 8 ++ (loads 0 8 ++ [(18, 0), (26, 0)]))) := by rw [hP, prg]; simp [List.append_assoc]
  have e2 : P = fives l ++ (gets 0 8 ++ (loads 0 8 ++ [(18, 0), (26, 0)])) := e1
  have e3 : P = (fives l ++ gets 0 8) ++ (loads 0 8 ++ [(18, 0), (26, 0)]) := by rw [e2]; simp [List.append_assoc]
  have e4 : P = (fives l ++ gets 0 8 ++ loads 0 8) ++ ([(18, 0), (26, 0)] ++ []) := by rw [e2]; simp [List.append_assoc]
  rw [show n + (5 * l.length + 43) = (n + 43) + 5 * l.length by omega]
  refine (run_fives N hlen k0 k1 l (n + 43) h e1 rfl (by omega) loc0 mem0 []).trans ?_
  refine (run_gets N hlen k0 k1 8 0 (n + 27) (by omega) e2 (p := 0 + 5 * l.length) (by rw [fives_len]; omega) (by omega) _ _ _ (by simp)).trans ?_
  refine (run_loads N hlen k0 k1 8 0 (n + 3) (by omega) e3 (p := 0 + 5 * l.length + 2 * 8) (by rw [List.length_append, fives_len, gets_len]; omega) (by omega) _ _ _ (by simp)).trans ?_
  have hl3 : (fives l ++ gets 0 8 ++ loads 0 8).length = 5 * l.length + 40 := by rw [List.length_append, List.length_append, fives_len, gets_len, loads_len]
  have a0 := mid_at e4 (p := 0 + 5 * l.length + 2 * 8 + 3 * 8) (j := 0) (by rw [hl3]; omega) (by simp) (0, 0)
  have a1 := mid_at e4 (p := 0 + 5 * l.length + 2 * 8 + 3 * 8 + 1) (j := 1) (by rw [hl3]; omega) (by simp) (0, 0)
  refine (do_get N (n + 2) hlen a0.1 (by omega) _ _ _ k0 k1 (a := 0) (by omega) a0.2).trans ?_
  refine (do_exit N n hlen a1.1 (by omega) _ _ _ k0 k1 a1.2).trans ?_
  rw [show 0 + 5 * l.length + 2 * 8 + 3 * 8 + 1 + 1 = 5 * l.length + 42 by omega]
  rfl

theorem locals_run {R : Type} (n : Nat) {l : List Item} (hl : l.length ≤ 10) (h : ∀ i ∈ l, okI i) (k : Int → Int → Int → List Ins → List ByteArray → EV → Option R) :
    run_Run_99d4 (n + 3000) 300 (prg l ++ [(26, 0)]) [] k = k 1 (band .u16 ((locF l loc0).getD 0 0) 255) 0 (prg l ++ [(26, 0)]) [] (evs l) := by
  have hm' := fun k0 k1 k2 => made_eq (R := R) n (P := prg l ++ [(26, 0)]) (fun {R} k => straight_ok (way_prg h) (by rw [prg_len]; omega) (n + 3000) (by omega) k) k0 k1 k2
  have gen : ∀ N q, N = q + (5 * l.length + 43) → (∀ k0 k1 k2, run_made_32d2 (R := R) N 300 (prg l ++ [(26, 0)]) [] [] [] [] k0 k1 k2 = k2 0 (prg l ++ [(26, 0)]) [] [] [] [] 0 loc0 mem0 0 0 0 [] fds0 0 [] [] [] 0 [] []) →
      run_Run_99d4 N 300 (prg l ++ [(26, 0)]) [] k = k 1 (band .u16 ((locF l loc0).getD 0 0) 255) 0 (prg l ++ [(26, 0)]) [] (evs l) := by
    intro N q hN hmade
    unfold run_Run_99d4 run_Run_99d4_T run_all_32d2 run_all_32d2_T
    rw [hmade, br_not (by rfl)]
    subst hN
    refine (locals_loop (q + (5 * l.length + 43)) q hl h _ _).trans ?_
    rfl
  exact gen (n + 3000) (n + 3000 - (5 * l.length + 43)) (by omega) hm'

/-! ### the law's own loops -/
def numV (val : Int) (i : Nat) (b : Int) : Int := IntKind.wrap .u16 (IntKind.wrap .u16 (val * IntKind.wrap .u16 ((i + 1 : Nat) : Int)) + IntKind.wrap .u16 b)
def items (val : Int) : Nat → List (Int × Int) → List Item
  | _, [] => []
  | i, x :: r => (x.1.toNat % 8, x.1.toNat % 32, numV val i x.2) :: items val (i + 1) r
theorem items_len (val : Int) : ∀ (l : List (Int × Int)) (i : Nat), (items val i l).length = l.length
  | [], _ => rfl
  | x :: r, i => by rw [items, List.length_cons, items_len val r, List.length_cons]
theorem u16_in (x : Int) : 0 ≤ IntKind.wrap .u16 x ∧ IntKind.wrap .u16 x ≤ 65535 := by rw [wu16_mod]; omega
theorem items_ok (val : Int) : ∀ (l : List (Int × Int)) (i : Nat), ∀ x ∈ items val i l, okI x
  | [], _, x, hx => by cases hx
  | y :: r, i, x, hx => by
    rw [items, List.mem_cons] at hx
    rcases hx with rfl | hx
    · exact ⟨Nat.mod_lt _ (by omega), Nat.mod_lt _ (by omega), u16_in _⟩
    · exact items_ok val r (i + 1) x hx

theorem law_l0 {R : Type} (N : Nat) (k0 : List Ins → List ByteArray → List Int → List Int → Option R) (x0 : List (Int × Int)) (val : Int) (h10 : x0.length ≤ 10) (hb : ∀ x ∈ x0, 0 ≤ x.1 ∧ x.1 ≤ 255) :
    ∀ (r : List (Int × Int)) (fuel i : Nat) (P : List Ins) (loc mem : List Int), x0.drop i = r → r.length < fuel → P.length = 5 * i → i ≤ x0.length →
      law16_RunLocals_l0 N k0 fuel x0 val (i : Int) P [] loc mem = k0 (P ++ fives (items val i r)) [] (locF (items val i r) loc) (memF (items val i r) mem)
  | r, 0, _, _, _, _, _, h, _, _ => absurd h (by omega)
  | [], n + 1, i, P, loc, mem, hd, _, _, hi => by
    have hlen : x0.length ≤ i := by have := congrArg List.length hd; simp at this; omega
    rw [law16_RunLocals_l0, law16_RunLocals_l0_T0, br_not (decide_eq_false (by omega)), items, fives, List.append_nil]
    rfl
  | x :: r, n + 1, i, P, loc, mem, hd, hf, hP, hi => by
    rw [List.length_cons] at hf
    have hlt : i < x0.length := by have := congrArg List.length hd; simp at this; omega
    have hx : x0.getD i (0, 0) = x := by
      have := congrArg (fun l => l[0]?) hd
      simp only [List.getElem?_drop, Nat.add_zero, List.getElem?_cons_zero] at this
      rw [List.getD_eq_getElem?_getD, this]
      rfl
    have hd' : x0.drop (i + 1) = r := by rw [← List.drop_drop, hd]; rfl
    have hxb := hb x (by rw [← List.take_append_drop i x0, hd]; simp)
    have e8' : Int.tmod (IntKind.wrap .i64 x.1) 8 = ((x.1.toNat % 8 : Nat) : Int) := by
      rw [w64 (by omega), Int.tmod_eq_emod_of_nonneg hxb.1]
      omega
    have e32' : Int.tmod (IntKind.wrap .i64 x.1) 32 = ((x.1.toNat % 32 : Nat) : Int) := by
      rw [w64 (by omega), Int.tmod_eq_emod_of_nonneg hxb.1]
      omega
    have l8 := Nat.mod_lt x.1.toNat (show 0 < 8 by omega)
    have l32 := Nat.mod_lt x.1.toNat (show 0 < 32 by omega)
    have g1 : decide ((i : Int) < (x0.length : Int)) = true := decide_eq_true (by omega)
    have g2 : inB (i : Int) x0.length = true := inB_of ⟨by omega, by omega⟩
    have g3 : (((fits 0 P.length P) && (decide ((P.length + 5) * 16 ≤ 70368744177664))) && true) = true := by rw [fits_of (by omega), decide_eq_true (by omega)]; rfl
    have g4 : inB ((x.1.toNat % 8 : Nat) : Int) 8 = true := inB_of ⟨by omega, by omega⟩
    have g5 : decide (x.1.toNat % 8 < 8) = true := decide_eq_true l8
    have g6 : inB ((x.1.toNat % 32 : Nat) : Int) 32 = true := inB_of ⟨by omega, by omega⟩
    have g7 : decide (x.1.toNat % 32 < 32) = true := decide_eq_true l32
    have wn : IntKind.wrap .i64 ((i : Int) + 1) = ((i + 1 : Nat) : Int) := w64_succ (by omega)
    have wv : IntKind.wrap .i64 (numV val i x.2) = numV val i x.2 := w64 (by have := u16_in (IntKind.wrap .u16 (val * IntKind.wrap .u16 ((i + 1 : Nat) : Int)) + IntKind.wrap .u16 x.2); unfold numV; omega)
    rw [law16_RunLocals_l0, law16_RunLocals_l0_T0]
    have hv : IntKind.wrap .u16 (IntKind.wrap .u16 (val * IntKind.wrap .u16 ((i + 1 : Nat) : Int)) + IntKind.wrap .u16 x.2) = numV val i x.2 := rfl
    simp only [g1, g2, g3, br_true, Int.toNat_natCast, hx, e8', e32', g4, g5, g6, g7, wn, hv, wv, sub_all]
    have ih := law_l0 N k0 x0 val h10 hb r n (i + 1) (P ++ five (x.1.toNat % 8, x.1.toNat % 32, numV val i x.2)) (loc.set (x.1.toNat % 8) (numV val i x.2)) (mem.set (x.1.toNat % 32) (IntKind.wrap .u8 (numV val i x.2))) hd' (by omega) (by rw [List.length_append, hP]; simp [five]; omega) (by omega)
    refine ih.trans ?_
    rw [items, fives, List.append_assoc]
    rfl

theorem law_l1 {R : Type} (N : Nat) (k0 : List Ins → List ByteArray → List Int → List Int → Option R) (loc mem : List Int) : ∀ (m fuel j : Nat) (P : List Ins), j + m = 8 → m < fuel → P.length + 2 * m ≤ 90 →
      law16_RunLocals_l1 N k0 fuel (j : Int) P [] loc mem = k0 (P ++ gets j m) [] loc mem
  | _, 0, _, _, _, h, _ => absurd h (by omega)
  | 0, n + 1, j, P, hj, _, _ => by
    rw [law16_RunLocals_l1, law16_RunLocals_l1_T0, br_not (decide_eq_false (by omega)), gets, List.append_nil]
  | m + 1, n + 1, j, P, hj, hf, hP => by
    have g3 : (((fits 0 P.length P) && (decide ((P.length + 2) * 16 ≤ 70368744177664))) && true) = true := by rw [fits_of (by omega), decide_eq_true (by omega)]; rfl
    rw [law16_RunLocals_l1, law16_RunLocals_l1_T0, br_of (decide_eq_true (by omega)), br_of g3, w64_succ (by omega), sub_all]
    refine (law_l1 N k0 loc mem m n (j + 1) _ (by omega) (by omega) (by simp; omega)).trans ?_
    rw [gets, List.append_assoc]
theorem law_l2 {R : Type} (N : Nat) (k0 : List Ins → List ByteArray → List Int → List Int → Option R) (loc mem : List Int) : ∀ (m fuel j : Nat) (P : List Ins), j + m = 8 → m < fuel → P.length + 3 * m ≤ 100 →
      law16_RunLocals_l2 N k0 fuel (j : Int) P [] loc mem = k0 (P ++ loads j m) [] loc mem
  | _, 0, _, _, _, h, _ => absurd h (by omega)
  | 0, n + 1, j, P, hj, _, _ => by
    rw [law16_RunLocals_l2, law16_RunLocals_l2_T0, br_not (decide_eq_false (by omega)), loads, List.append_nil]
  | m + 1, n + 1, j, P, hj, hf, hP => by
    have g3 : (((fits 0 P.length P) && (decide ((P.length + 3) * 16 ≤ 70368744177664))) && true) = true := by rw [fits_of (by omega), decide_eq_true (by omega)]; rfl
    rw [law16_RunLocals_l2, law16_RunLocals_l2_T0, br_of (decide_eq_true (by omega)), br_of g3, w64_succ (by omega), sub_all, w64 (x := 4 * (j : Int)) (by omega)]
    refine (law_l2 N k0 loc mem m n (j + 1) _ (by omega) (by omega) (by simp; omega)).trans ?_
    rw [loads, List.append_assoc]
    rfl

/-! ### what it shows is what was set -/
theorem set_in {l : List Int} {i : Nat} {v : Int} (hl : ∀ x ∈ l, 0 ≤ x ∧ x ≤ 255) (hv : 0 ≤ v ∧ v ≤ 255) : ∀ x ∈ l.set i v, 0 ≤ x ∧ x ≤ 255 := fun x hx => by
  rcases List.mem_or_eq_of_mem_set hx with h | h
  · exact hl x h
  · rw [h]; exact hv
theorem memF_in : ∀ (l : List Item) (m : List Int), (∀ x ∈ m, 0 ≤ x ∧ x ≤ 255) → ∀ x ∈ memF l m, 0 ≤ x ∧ x ≤ 255
  | [], _, h => h
  | i :: r, m, h => memF_in r _ (set_in h (by rw [wu8_mod]; omega))
theorem getD_in {l : List Int} (h : ∀ x ∈ l, 0 ≤ x ∧ x ≤ 255) (i : Nat) : 0 ≤ l.getD i 0 ∧ l.getD i 0 ≤ 255 := by
  rw [List.getD_eq_getElem?_getD]
  cases e : l[i]? with
  | none => exact ⟨Int.le_refl 0, by decide⟩
  | some v => exact h v (List.mem_of_getElem? e)
theorem band_low {x : Int} (h : 0 ≤ x ∧ x ≤ 255) : band .u16 x 255 = x := by
  have : ∀ n : Fin 256, band .u16 (n.val : Int) 255 = (n.val : Int) := by decide +kernel
  have := this ⟨x.toNat, by omega⟩
  simp only [Int.toNat_of_nonneg h.1] at this
  exact this
theorem ev_get (l : List Item) {j : Nat} (h : j < 8) : (evs l).getD j (false, 0) = getV (locF l loc0) j := by
  rcases eight h with h | h | h | h | h | h | h | h <;> subst h <;> rfl
theorem ev_load (l : List Item) {j : Nat} (h : j < 8) : (evs l).getD (8 + j) (false, 0) = loadV (memF l mem0) j := by
  rcases eight h with h | h | h | h | h | h | h | h <;> subst h <;> rfl
theorem ev_len (l : List Item) : (evs l).length = 16 := rfl

theorem law_l3 {R : Type} (N : Nat) (k0 : Bool → Option R) (k1 : Option R) (l : List Item) (a b : Int) : ∀ (m fuel j : Nat), j + m = 8 → m < fuel →
      law16_RunLocals_l3 N k0 k1 fuel (j : Int) (locF l loc0) (memF l mem0) a b (evs l) = k1
  | _, 0, _, _, h => absurd h (by omega)
  | 0, n + 1, j, hj, _ => by
    rw [law16_RunLocals_l3, law16_RunLocals_l3_T0, br_not (decide_eq_false (by omega))]
  | m + 1, n + 1, j, hj, hf => by
    have hm := getD_in (memF_in l mem0 (fun x hx => by have := List.eq_of_mem_replicate hx; omega)) (4 * j)
    rw [law16_RunLocals_l3, law16_RunLocals_l3_T0, br_of (decide_eq_true (by omega)), ev_len, br_of (inB_of ⟨by omega, by omega⟩), Int.toNat_natCast, br_of (decide_eq_true (by omega)), br_of (inB_of ⟨by omega, by omega⟩), br_of (decide_eq_true (by omega)), ev_get l (by omega)]
    rw [br_of (by rw [decide_eq_true (by rfl)]; rfl), w64 (x := 8 + (j : Int)) (by omega), w64 (x := 4 * (j : Int)) (by omega), br_of (inB_of ⟨by omega, by omega⟩), show (8 + (j : Int)).toNat = 8 + j by omega, br_of (decide_eq_true (by omega)), br_of (inB_of ⟨by omega, by omega⟩), show (4 * (j : Int)).toNat = 4 * j by omega, br_of (decide_eq_true (by omega)), ev_load l (by omega)]
    rw [br_not (by
      have e : (loadV (memF l mem0) j).2 = IntKind.wrap .u16 ((memF l mem0).getD (4 * j) 0) := by
        show band .u16 (IntKind.wrap .u16 ((memF l mem0).getD (4 * j) 0)) 255 = _
        rw [wu16 (by omega), band_low hm]
      rw [decide_eq_true e]; rfl), w64_succ (by omega)]
    exact law_l3 N k0 k1 l a b m n (j + 1) (by omega) (by omega)

set_option maxRecDepth 100000 in
theorem awake16 {R : Type} (n : Nat) (k : Bool → Option R) : law16_awake (n + 3000) k = k true := by kernel_rfl

theorem runLocals_N {R : Type} (N : Nat) (hN : 100 < N) (hA : ∀ k : Bool → Option R, law16_awake N k = k true)
    (hR : ∀ {l : List Item}, l.length ≤ 10 → (∀ i ∈ l, okI i) → ∀ (k : Int → Int → Int → List Ins → List ByteArray → EV → Option R), run_Run_99d4 N 300 (prg l ++ [(26, 0)]) [] k = k 1 (band .u16 ((locF l loc0).getD 0 0) 255) 0 (prg l ++ [(26, 0)]) [] (evs l))
    (x0 : List (Int × Int)) (x1 : Int) (hb : ∀ x ∈ x0, 0 ≤ x.1 ∧ x.1 ≤ 255) (k : Bool → Option R) : law16_RunLocals N x0 x1 k = k true := by
  unfold law16_RunLocals law16_RunLocals_T
  rw [hA, br_not (b := !true) rfl]
  by_cases h10 : 10 < x0.length
  · rw [br_of (decide_eq_true (by omega))]
  rw [br_not (decide_eq_false (by omega))]
  refine (law_l0 N _ x0 x1 (by omega) hb x0 N 0 [] _ _ rfl (by omega) rfl (by omega)).trans ?_
  rw [List.nil_append]
  have hil := items_len x1 x0 0
  have hok := items_ok x1 x0 0
  generalize items x1 0 x0 = l at hil hok
  refine (law_l1 N _ _ _ 8 N 0 _ rfl (by omega) (by rw [fives_len]; omega)).trans ?_
  refine (law_l2 N _ _ _ 8 N 0 _ rfl (by omega) (by rw [List.length_append, fives_len, gets_len]; omega)).trans ?_
  have hlen : (fives l ++ gets 0 8 ++ loads 0 8).length = 5 * l.length + 40 := by rw [List.length_append, List.length_append, fives_len, gets_len, loads_len]
  rw [hlen, w64 (by omega), br_not (decide_eq_false (by omega)), br_of (by rw [← hlen, fits_of (by omega), hlen, decide_eq_true (by omega)]; rfl)]
  rw [← hlen, sub_all]
  have hp : (fives l ++ gets 0 8 ++ loads 0 8) ++ [((18 : Int), (0 : Int)), (26, 0)] = prg l ++ [(26, 0)] := by unfold prg; simp [List.append_assoc]
  refine (congrArg (fun p => run_Run_99d4 N 300 p [] _) hp).trans ?_
  refine (hR (by omega) hok _).trans ?_
  rw [ev_len, br_of (by rfl), br_of (by rfl), br_of (by rfl), br_not (by
    have e : band .u16 ((locF l loc0).getD 0 0) 255 = band .u16 (List.getD (locF l (List.replicate 8 0)) 0 0) 255 := rfl
    rw [decide_eq_true e]; rfl)]
  exact law_l3 N _ _ l _ _ 8 N 0 rfl (by omega)

theorem runLocals_true {R : Type} (n : Nat) (x0 : List (Int × Int)) (x1 : Int) (hb : ∀ x ∈ x0, 0 ≤ x.1 ∧ x.1 ≤ 255) (k : Bool → Option R) : law16_RunLocals (n + 3000) x0 x1 k = k true :=
  runLocals_N (n + 3000) (by omega) (fun k => awake16 n k) (fun hl h k => locals_run n hl h k) x0 x1 hb k

end Go.Proofs.Ythdgncnbnallcaa
