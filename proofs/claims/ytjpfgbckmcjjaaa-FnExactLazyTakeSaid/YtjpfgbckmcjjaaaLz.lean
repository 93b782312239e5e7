/- Heaps that are swept only when cells are needed: how they read, when they are valid, in plain words; sets of cells of which one is within the other. No program. -/
import Derived.Test.YtjpfgbckmcjjaaaSi
import Derived.Test.YtjpfgbckmcjjaaaZ1
import Derived.Test.YtjpfgbckmcjjaaaVs
namespace Go.Proofs.Ytjpfgbckmcjjaaa
open Go.RowKit
structure Lz where
  store : Hp
  marks : List Bool
  at_ : Int
def RdZ (w : World) (B : Nat) (v : Value) (l : Lz) : Prop :=
  ∃ A n c A' n' c' E q f, v = .agg #[.slice A n c, .slice A' n' c', .slice E q f, .int .i64 l.at_] ∧ RdC w B A n c l.store.cells ∧ RdI w B A' n' c' l.store.roots ∧ RdB w B E q f l.marks
theorem RdZ.below {w w' : World} {B : Nat} {v : Value} {l : Lz} (hh : RdZ w B v l) (hb : Below B w w') : RdZ w' B v l := by
  obtain ⟨A, n, c, A', n', c', E, q, f, rfl, h1, h2, h3⟩ := hh
  exact ⟨_, _, _, _, _, _, _, _, _, rfl, h1.below hb, h2.below hb, h3.below hb⟩
theorem RdZ.mono {w : World} {B B' : Nat} {v : Value} {l : Lz} (hh : RdZ w B v l) (hb : B ≤ B') : RdZ w B' v l := by
  obtain ⟨A, n, c, A', n', c', E, q, f, rfl, h1, h2, h3⟩ := hh
  exact ⟨_, _, _, _, _, _, _, _, _, rfl, h1.mono hb, h2.mono hb, h3.mono hb⟩
theorem RdZ.top {w : World} {B : Nat} {v : Value} {l : Lz} (hh : RdZ w B v l) : RdZ w w.heap.size v l := by
  obtain ⟨A, n, c, A', n', c', E, q, f, rfl, h1, h2, h3⟩ := hh
  exact ⟨_, _, _, _, _, _, _, _, _, rfl, h1.top, h2.top, h3.top⟩
noncomputable def lzA (l : Lz) (k : Nat) : Bool := !reachB l.store.cells l.store.roots k || atB l.marks k
def lzB (l : Lz) (k : Nat) : Bool := !atB l.marks k || usedN l.store.cells k
def lzC (l : Lz) (k : Nat) : Bool := !decide ((k : Int) < l.at_) || atB l.marks k || !usedN l.store.cells k
noncomputable def lzAt (l : Lz) (k : Nat) : Bool := lzA l k && lzB l k && lzC l k
def lzHead (l : Lz) : Bool := heapOk l.store && decide (l.marks.length = l.store.cells.length) && decide (0 ≤ l.at_) && decide (l.at_ ≤ l.marks.length)
noncomputable def mLzValid (l : Lz) : Bool := lzHead l && (List.range l.marks.length).all (lzAt l)
theorem lz_no {l : Lz} (h : lzHead l = false) : mLzValid l = false := by simp [mLzValid, h]
theorem lz_yes {l : Lz} (h : lzHead l = true) : mLzValid l = (List.range l.marks.length).all (lzAt l) := by simp [mLzValid, h]
theorem all_and {p q : Nat → Bool} (l : List Nat) : l.all (fun k => p k && q k) = (l.all p && l.all q) := by
  induction l with
  | nil => rfl
  | cons a l ih =>
    simp only [List.all_cons, ih]
    cases p a <;> cases q a <;> simp
theorem lz_split (l : Lz) : (List.range l.marks.length).all (lzAt l) = ((List.range l.marks.length).all (lzA l) && ((List.range l.marks.length).all (lzB l) && (List.range l.marks.length).all (lzC l))) := by
  have e : lzAt l = fun k => lzA l k && (lzB l k && lzC l k) := funext fun k => by unfold lzAt; rw [Bool.and_assoc]
  rw [e, all_and, all_and]
/-! ### Sets within sets -/
theorem less_zero {a b n : Nat} (ha : a < 2 ^ 64) (hn : ∀ c, a.testBit c = true → c < n) {p : Nat → Bool} (hp : ∀ c, c < n → p c = (!a.testBit c || b.testBit c)) : ((lessB a b : Int) == 0) = (List.range n).all p := by
  rw [Bool.eq_iff_iff, beq_iff_eq, List.all_eq_true]
  constructor
  · intro h0 c hc
    have h1 : lessB a b = 0 := by omega
    have h2 := lessB_bit a b c ha
    rw [h1, Nat.zero_testBit] at h2
    rw [hp c (List.mem_range.1 hc)]
    clear hp hn h1 h0 ha
    generalize a.testBit c = x at *
    generalize b.testBit c = y at *
    cases x <;> cases y <;> first | rfl | cases h2
  · intro h
    have h1 : lessB a b = 0 := by
      apply Nat.eq_of_testBit_eq
      intro c
      rw [lessB_bit a b c ha, Nat.zero_testBit]
      cases h3 : a.testBit c
      · rfl
      · have h2 := h c (List.mem_range.2 (hn c h3))
        rw [hp c (hn c h3), h3] at h2
        simp at h2
        rw [h2]; rfl
    rw [h1]; rfl
theorem ones_bit (k c : Nat) : (2 ^ k - 1).testBit c = decide (c < k) := Nat.testBit_two_pow_sub_one k c
theorem ones_lt {k : Nat} (h : k ≤ 64) : 2 ^ k - 1 < 2 ^ 64 := by
  have := Nat.pow_le_pow_right (n := 2) (by omega) h
  have := Nat.two_pow_pos k
  omega
section
variable {l : Lz} (hh : lzHead l = true)
include hh
theorem lz_parts : heapOk l.store = true ∧ l.marks.length = l.store.cells.length ∧ 0 ≤ l.at_ ∧ l.at_ ≤ l.marks.length ∧ l.marks.length ≤ 40 := by
  have h := hh
  unfold lzHead at h
  simp only [Bool.and_eq_true, decide_eq_true_eq] at h
  have := heapOk_small h.1.1.1
  exact ⟨h.1.1.1, h.1.1.2, h.1.2, h.2, by omega⟩
theorem lz_one : ((lessB (closM l.store.cells (usedM l.store.cells) l.store.roots) (setM l.marks) : Int) == 0) = (List.range l.marks.length).all (lzA l) := by
  obtain ⟨h1, h2, h3, h4, h5⟩ := lz_parts hh
  have h64 : l.store.cells.length ≤ 64 := by omega
  refine less_zero (closM_lt _ _ _) (fun c hc => ?_) fun c hc => ?_
  · rw [closM_used h64] at hc
    simp only [reachB, decide_eq_true_eq] at hc
    have := usedN_lt hc.inS
    omega
  · rw [closM_used h64, setM_bit]; rfl
theorem lz_two : ((lessB (setM l.marks) (usedM l.store.cells) : Int) == 0) = (List.range l.marks.length).all (lzB l) := by
  obtain ⟨h1, h2, h3, h4, h5⟩ := lz_parts hh
  have h64 : l.store.cells.length ≤ 64 := by omega
  refine less_zero (setM_lt (by omega)) (fun c hc => ?_) fun c hc => ?_
  · rw [setM_bit] at hc
    rcases Nat.lt_or_ge c l.marks.length with q | q
    · exact q
    · rw [List.getD_eq_getElem?_getD, List.getElem?_eq_none q] at hc; cases hc
  · rw [usedM_bit h64, setM_bit]; rfl
theorem lz_three : ((lessB (usedM l.store.cells &&& (2 ^ l.at_.toNat - 1)) (setM l.marks) : Int) == 0) = (List.range l.marks.length).all (lzC l) := by
  obtain ⟨h1, h2, h3, h4, h5⟩ := lz_parts hh
  have h64 : l.store.cells.length ≤ 64 := by omega
  have hb : ∀ c, (usedM l.store.cells &&& (2 ^ l.at_.toNat - 1)).testBit c = (usedN l.store.cells c && decide (c < l.at_.toNat)) := fun c => by
    rw [Nat.testBit_and, usedM_bit h64, ones_bit]
  refine less_zero (Nat.lt_of_le_of_lt Nat.and_le_left (usedM_lt _)) (fun c hc => ?_) fun c hc => ?_
  · rw [hb] at hc
    simp only [Bool.and_eq_true, decide_eq_true_eq] at hc
    omega
  · rw [hb, setM_bit]
    have e : decide (c < l.at_.toNat) = decide ((c : Int) < l.at_) := decide_eq_decide.2 (by omega)
    rw [e]
    show (!decide ((c : Int) < l.at_) || atB l.marks c || !usedN l.store.cells c) = (!(usedN l.store.cells c && decide ((c : Int) < l.at_)) || atB l.marks c)
    cases decide ((c : Int) < l.at_) <;> cases usedN l.store.cells c <;> cases atB l.marks c <;> rfl
end
end Go.Proofs.Ytjpfgbckmcjjaaa
