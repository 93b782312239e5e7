/- DropRegion, the program's: it makes mDropH, mDropL and mDropN, for every heap, list and number. -/
import Derived.Test.YtjpfgbckmcjjaaaFc
import Derived.Test.YtjpfgbckmcjjaaaRg
import Derived.Test.YtjpfgbckmcjjaaaCpI
import Derived.Test.YtjpfgbckmcjjaaaZ1
namespace Go.Proofs.Ytjpfgbckmcjjaaa
open Go.RowKit
def drB (rs : List Int) (f : Int) (i : Nat) : Bool := decide (f ≤ rs.getD i 0)
def drRoot (rs : List Int) (f r : Int) : Int := if 0 ≤ r ∧ f ≤ rs.getD r.toNat 0 then -1 else r
def drZ (f x : Int) : Int := if f ≤ x then 0 else x
def drCells (cs : List Cel) (rs : List Int) (f : Int) : List Cel := (List.range cs.length).map fun i => if drB rs f i then noCel else cs.getD i noCel
def drCnt (rs : List Int) (f : Int) : Nat := ((List.range rs.length).filter (drB rs f)).length
def mDropOk (h : Hp) (rs : List Int) (f : Int) : Bool := mRegionsValid h rs && (decide (1 ≤ f) && decide (f ≤ 5))
def mDropH (h : Hp) (rs : List Int) (f : Int) : Hp := if mDropOk h rs f then ⟨drCells h.cells rs f, h.roots.map (drRoot rs f)⟩ else ⟨[], []⟩
def mDropL (h : Hp) (rs : List Int) (f : Int) : List Int := if mDropOk h rs f then rs.map (drZ f) else []
def mDropN (h : Hp) (rs : List Int) (f : Int) : Int := if mDropOk h rs f then (drCnt rs f : Nat) else -1
/-- A call makes a heap, a list and a number. -/
def Made3 (w : World) (h : Hp) (xs : List Int) (n : Int) (e : Ending) (w' : World) : Prop :=
  ∃ cv rvs rv lv, e = .returned (.tuple #[.agg #[cv, rv], lv, .int .i64 n]) ∧ Owns w.heap.size w w' [.cells cv rvs h.cells, .ints rv h.roots, .ints lv xs]
theorem mDrop_no {h : Hp} {rs : List Int} {f : Int} (h0 : mDropOk h rs f = false) : mDropH h rs f = ⟨[], []⟩ ∧ mDropL h rs f = [] ∧ mDropN h rs f = -1 := by simp [mDropH, mDropL, mDropN, h0]
theorem mDrop_yes {h : Hp} {rs : List Int} {f : Int} (h0 : mDropOk h rs f = true) : mDropH h rs f = ⟨drCells h.cells rs f, h.roots.map (drRoot rs f)⟩ ∧ mDropL h rs f = rs.map (drZ f) ∧ mDropN h rs f = (drCnt rs f : Nat) := by simp [mDropH, mDropL, mDropN, h0]
theorem mapD_turn {α : Type} {f : α → α} {xs : List α} {k : Nat} {x : α} (h : Hid (xs[k]? = some x)) : ((xs.take k).map f ++ xs.drop k).set k (f x) = (xs.take (k + 1)).map f ++ xs.drop (k + 1) := by
  obtain ⟨hk, rfl⟩ := List.getElem?_eq_some_iff.1 h.out
  have hl : ((xs.take k).map f).length = k := by simp; omega
  rw [take_snoc' h, List.map_append, List.set_append_right _ _ (by omega), hl, Nat.sub_self, List.drop_eq_getElem_cons hk, List.set_cons_zero, List.append_assoc]; rfl
theorem mapD_here {α : Type} {f : α → α} {xs : List α} {k : Nat} {x : α} (h : Hid (xs[k]? = some x)) : ((xs.take k).map f ++ xs.drop k)[k]? = some x := by
  obtain ⟨hk, rfl⟩ := List.getElem?_eq_some_iff.1 h.out
  have hl : ((xs.take k).map f).length = k := by simp; omega
  rw [List.getElem?_append_right (by omega), hl, Nat.sub_self, List.drop_eq_getElem_cons hk]; rfl
theorem mapD_keep {α : Type} {f : α → α} {xs : List α} {k : Nat} {x : α} (h : Hid (xs[k]? = some x)) (hf : f x = x) : (xs.take (k + 1)).map f ++ xs.drop (k + 1) = (xs.take k).map f ++ xs.drop k := by
  have h1 := mapD_turn (f := f) h
  rw [← h1, hf]
  obtain ⟨h2, h3⟩ := List.getElem?_eq_some_iff.1 (mapD_here (f := f) h)
  exact (by rw [← h3]; exact List.set_getElem_self h2)
theorem mapD_len {α : Type} {f : α → α} {xs : List α} (k : Nat) : ((xs.take k).map f ++ xs.drop k).length = xs.length := by simp; omega
abbrev OB.rowJ (v : Value) (n : Nat) (xs : List Int) : OB := .row 3 1 v n (xs.map (Value.int .i64))
theorem Owns.putRowJ {lo : Nat} {w0 w : World} {L : List OB} {g n c : Nat} {xs : List Int} (h : Owns lo w0 w L) (i : Nat) (hX : L[i]? = some (.rowJ (.slice (some ⟨g, 0, none⟩) n c) n xs)) (j : Nat) (x : Int) : Owns lo w0 (w.setCell ⟨g, j, none⟩ (.int .i64 x)) (L.set i (.rowJ (.slice (some ⟨g, 0, none⟩) n c) n (xs.set j x))) := by
  have := h.putRow i hX j (.int .i64 x)
  rwa [← List.map_set] at this
theorem rowJ_ints {v : Value} {n : Nat} {xs : List Int} (hn : xs.length = n) : OB.rowJ v n xs = OB.ints v xs := by subst hn; rfl
theorem drM_has {rs : List Int} {f : Int} (h1 : 1 ≤ f) (x : Int) : hasB (bitsOf rs.length (drB rs f)) x = decide (0 ≤ x ∧ f ≤ rs.getD x.toNat 0) := by
  unfold hasB
  rw [bitsOf_bit]
  by_cases h0 : 0 ≤ x
  · by_cases hl : x.toNat < rs.length
    · simp [h0, hl, drB]
    · have : rs.getD x.toNat 0 = 0 := by simp [List.getD, List.getElem?_eq_none (Nat.le_of_not_lt hl)]
      rw [this]
      simp [h0, hl]; omega
  · simp [h0]
theorem drGone {h : Hp} {rs : List Int} {f : Int} (h1 : 1 ≤ f) (hl : rs.length = h.cells.length) (hv : ∀ k, k < h.cells.length → rgAt h.cells rs k = true) {i : Nat} (hi : i < h.cells.length) : goneB (bitsOf rs.length (drB rs f)) h.cells i = drB rs f i := by
  unfold goneB
  rw [bitsOf_bit]
  have hd : decide (i < rs.length) = true := by simp; omega
  rw [hd, Bool.true_and]
  cases hb : drB rs f i
  · rfl
  · have hu := hv i hi
    unfold rgAt at hu
    simp only [Bool.and_eq_true, Bool.or_eq_true, beq_iff_eq] at hu
    have hge : f ≤ rs.getD i 0 := by simpa [drB] using hb
    rcases hu.1.2 with h2 | h2
    · rw [h2]; rfl
    · omega
theorem dr_cells {h : Hp} {rs : List Int} {f : Int} (h1 : 1 ≤ f) (hl : rs.length = h.cells.length) (hv : ∀ k, k < h.cells.length → rgAt h.cells rs k = true) : wipeTo (bitsOf rs.length (drB rs f)) h.cells h.cells.length = drCells h.cells rs f := by
  unfold wipeTo drCells
  apply List.map_congr_left
  intro i hi
  have hi' := List.mem_range.1 hi
  have hd : decide (i < h.cells.length) = true := by simpa using hi'
  rw [hd, drGone h1 hl hv hi', Bool.true_and]
theorem dr_cnt {h : Hp} {rs : List Int} {f : Int} (h1 : 1 ≤ f) (hl : rs.length = h.cells.length) (hv : ∀ k, k < h.cells.length → rgAt h.cells rs k = true) : cntTo (bitsOf rs.length (drB rs f)) h.cells h.cells.length = drCnt rs f := by
  unfold cntTo drCnt
  rw [← hl]
  congr 1
  apply List.filter_congr
  intro i hi
  exact drGone h1 hl hv (by have := List.mem_range.1 hi; omega)
end Go.Proofs.Ytjpfgbckmcjjaaa
