/- The laws' copying functions make slices, cells and heaps of their own that read as the ones that were given: for sizes up to 2^20. -/
import Derived.Test.YtlhecfpflkioeaaOwn
import Derived.Test.YtlhecfpflkioeaaChecked
namespace Go.Proofs.Ytlhecfpflkioeaa
open Go.RowKit
theorem Try.infoInt : (Try.prog.info? 3).map (fun i => (i.zero, i.size, i.bytes)) = some (some (.int .i64 0), 1, 8) := by kernel_rfl
theorem Try.infoCell : (Try.prog.info? 61).map (fun i => (i.zero, i.size, i.bytes)) = some (some (.agg #[.bool false, .int .i64 0, .slice none 0 0]), 3, 40) := by kernel_rfl

/-- What toIntS has filled after k rounds. -/
def filled (xs : List Int) (k : Nat) : List Value := (xs.take k).map (Value.int .i64) ++ List.replicate (xs.length - k) (.int .i64 0)
theorem filled_zero (xs : List Int) : filled xs 0 = List.replicate xs.length (.int .i64 0) := by simp [filled]
theorem filled_end {xs : List Int} {k : Nat} (h : xs.length ≤ k) : filled xs k = xs.map (Value.int .i64) := by
  simp [filled, List.take_of_length_le h, show xs.length - k = 0 by omega]
theorem filled_succ {xs : List Int} {k : Nat} {x : Int} (h : Hid (xs[k]? = some x)) : (filled xs k).set k (.int .i64 x) = filled xs (k + 1) := by
  obtain ⟨hk, rfl⟩ := List.getElem?_eq_some_iff.1 h.out
  unfold filled
  have e : xs.length - k = (xs.length - (k + 1)) + 1 := by omega
  rw [e, List.replicate_succ, List.take_succ_eq_append_getElem hk, List.map_append, List.append_assoc]
  rw [List.set_append_right _ _ (by simp; omega)]
  simp [show k - min k xs.length = 0 by omega]
theorem filled_at {xs : List Int} {k : Nat} (h : k < xs.length) : (filled xs k)[k]? = some (.int .i64 0) := by
  unfold filled
  rw [List.getElem?_append_right (by simp; omega)]
  rw [List.getElem?_replicate]; simp [show k - min k xs.length = 0 by omega]; omega

theorem snoc_cases {α : Type} {l : List α} {x y : α} {i : Nat} (h : (l ++ [x])[i]? = some y) : (i < l.length ∧ l[i]? = some y) ∨ (i = l.length ∧ y = x) := by
  rcases Nat.lt_or_ge i l.length with hi | hi
  · rw [List.getElem?_append_left hi] at h; exact .inl ⟨hi, h⟩
  · rw [List.getElem?_append_right hi] at h
    have : i - l.length = 0 := by
      rcases Nat.eq_zero_or_pos (i - l.length) with h0 | h0
      · exact h0
      · obtain ⟨m, hm⟩ : ∃ m, i - l.length = m + 1 := ⟨i - l.length - 1, by omega⟩
        rw [hm] at h; simp at h
    rw [this] at h; simp at h
    exact .inr ⟨by omega, h.symm⟩
/-- What toCellS has made after k rounds. -/
structure CellsTo (wr : World) (lo g n : Nat) (cs : List Cel) (k : Nat) (rvs : List Value) : Prop where
  len : rvs.length = k
  own : wr.ownsRow lo 61 3 (.slice (some ⟨g, 0, none⟩) n n) n (cellVals (cs.take k) rvs ++ zcells (n - k))
  refs : ∀ (i : Nat) (rv : Value) (c : Cel), rvs[i]? = some rv → cs[i]? = some c → OwI wr (g + 1) wr.heap.size rv c.refs
  apart : ∀ (i j : Nat) (a b : Value), i ≠ j → rvs[i]? = some a → rvs[j]? = some b → Apart a b
theorem CellsTo.lt {wr : World} {lo g n : Nat} {cs : List Cel} {k : Nat} {rvs : List Value} (h : CellsTo wr lo g n cs k rvs) : lo ≤ g ∧ g < wr.heap.size := h.own.lt g rfl

def Small (h : Hp) : Prop := cellsBulk h.cells + h.roots.length ≤ 1048576
theorem refs_le_bulk : ∀ {cs : List Cel} {x : Cel}, x ∈ cs → x.refs.length ≤ cellsBulk cs
  | c :: cs, x, h => by
    rcases List.mem_cons.1 h with rfl | h
    · simp [cellsBulk]; omega
    · have := refs_le_bulk h; simp [cellsBulk] at this ⊢; omega
theorem len_le_bulk (cs : List Cel) : cs.length ≤ cellsBulk cs := by unfold cellsBulk; omega

end Go.Proofs.Ytlhecfpflkioeaa
