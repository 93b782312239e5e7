/- TableValid, the program's: it returns mTableValid, for every table that can be read. -/
import Derived.Test.YtjpfgbckmcjjaaaTh
import Derived.Test.YtjpfgbckmcjjaaaSet
import Derived.Test.YtjpfgbckmcjjaaaHvI
namespace Go.Proofs.Ytjpfgbckmcjjaaa
open Go.RowKit
def handAt (hs : List Int) (k : Nat) : Bool := decide (0 ≤ hs.getD k 0) && decide (hs.getD k 0 < hs.length) && !(hs.take k).contains (hs.getD k 0)
def permB (hs : List Int) : Bool := (List.range hs.length).all (handAt hs)
def mTableValid (t : Tbl) : Bool := decide (t.hands.length = t.store.cells.length) && decide (t.hands.length ≤ 40) && permB t.hands && heapOk (tellH t)
theorem mTab_no1 {t : Tbl} (h : t.hands.length ≠ t.store.cells.length) : mTableValid t = false := by simp [mTableValid, h]
theorem mTab_no2 {t : Tbl} (h : 40 < t.hands.length) : mTableValid t = false := by
  have : decide (t.hands.length ≤ 40) = false := by simp; omega
  simp [mTableValid, this]
theorem permB_no {hs : List Int} {k : Nat} (hk : k < hs.length) (h : handAt hs k = false) : permB hs = false := by
  unfold permB
  rw [List.all_eq_false]
  exact ⟨k, List.mem_range.2 hk, by rw [h]; exact Bool.false_ne_true⟩
theorem permB_yes {hs : List Int} (h : ∀ k, k < hs.length → handAt hs k = true) : permB hs = true := by
  unfold permB
  rw [List.all_eq_true]
  exact fun k hk => h k (List.mem_range.1 hk)
theorem mTab_no3 {t : Tbl} {k : Nat} (hk : k < t.hands.length) (h : handAt t.hands k = false) : mTableValid t = false := by
  simp [mTableValid, permB_no hk h]
theorem mTab_yes {t : Tbl} (h1 : t.hands.length = t.store.cells.length) (h2 : t.hands.length ≤ 40) (h : ∀ k, k < t.hands.length → handAt t.hands k = true) : mTableValid t = heapOk (tellH t) := by
  simp [mTableValid, h1, permB_yes h]; omega
theorem handAt_no {hs : List Int} {k : Nat} {x : Int} (hx : Hid (hs[k]? = some x)) (h : x < 0 ∨ (hs.length : Int) ≤ x) : handAt hs k = false := by
  unfold handAt
  rw [getD_of hx]
  rcases h with h | h
  · have : decide (0 ≤ x) = false := by simp; omega
    rw [this]; rfl
  · have : decide (x < (hs.length : Int)) = false := by simp; omega
    rw [this]; simp
theorem handAt_met {hs : List Int} {k : Nat} {x : Int} (hx : Hid (hs[k]? = some x)) (h : (hs.take k).contains x = true) : handAt hs k = false := by
  unfold handAt
  rw [getD_of hx, h]; simp
theorem handAt_yes {hs : List Int} {k : Nat} {x : Int} (hx : Hid (hs[k]? = some x)) (h0 : 0 ≤ x) (h1 : x < (hs.length : Int)) (h : (hs.take k).contains x = false) : handAt hs k = true := by
  unfold handAt
  rw [getD_of hx, h]; simp [h0, h1]
theorem hands_succ {hs : List Int} {k : Nat} (h : ∀ j, j < k → handAt hs j = true) (hk : handAt hs k = true) : ∀ j, j < k + 1 → handAt hs j = true := by
  intro j hj
  rcases Nat.lt_or_ge j k with h1 | h1
  · exact h j h1
  · obtain rfl : j = k := by omega
    exact hk
theorem contains_snoc {hs : List Int} {k : Nat} {x y : Int} (hx : Hid (hs[k]? = some x)) : (hs.take (k + 1)).contains y = ((hs.take k).contains y || decide (y = x)) := by
  rw [take_snoc' hx]
  simp only [List.contains_append, List.contains_cons, List.contains_nil, Bool.or_false]
  congr 1
end Go.Proofs.Ytjpfgbckmcjjaaa
