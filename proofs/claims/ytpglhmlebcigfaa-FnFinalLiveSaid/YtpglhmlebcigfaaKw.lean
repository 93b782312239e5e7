/- KeptWatched, the program's and the reference's: both make mKeptWatched, for every heap and list that can be read. -/
import Derived.Test.YtpglhmlebcigfaaWt
import Derived.Test.YtpglhmlebcigfaaRch
import Derived.Test.YtpglhmlebcigfaaClo
import Derived.Test.YtpglhmlebcigfaaLi
import Derived.Test.YtpglhmlebcigfaaZ0
namespace Go.Proofs.Ytpglhmlebcigfaa
open Go.RowKit
noncomputable def mKeptWatched (h : Hp) (ws : List Int) : List Bool := if mWatchedValid h ws then reachL h.cells (h.roots ++ ws) else []
theorem mKept_no {h : Hp} {ws : List Int} (h0 : mWatchedValid h ws = false) : mKeptWatched h ws = [] := by simp [mKeptWatched, h0]
theorem mKept_yes {h : Hp} {ws : List Int} (h0 : mWatchedValid h ws = true) : mKeptWatched h ws = reachL h.cells (h.roots ++ ws) := by simp [mKeptWatched, h0]
theorem usedB_parts {cs : List Cel} {x : Int} (h : usedB cs x = true) : 0 ≤ x ∧ x < cs.length ∧ usedN cs x.toNat = true ∧ leadsB cs x = true := by
  simp only [usedB, Bool.and_eq_true, decide_eq_true_eq] at h
  refine ⟨h.1.1, h.1.2, h.2, ?_⟩
  have h2 := h.2
  simp only [leadsB, h.1.1, h.1.2, h2, decide_true, Bool.and_self, Bool.or_true]
theorem mWatched_parts {h : Hp} {ws : List Int} (h0 : mWatchedValid h ws = true) : heapOk h = true ∧ (∀ r ∈ ws, usedB h.cells r = true) ∧ (∀ k x y, ws[k]? = some x → ws[k + 1]? = some y → x < y) := by
  simp only [mWatchedValid, Bool.and_eq_true, List.all_eq_true, List.mem_range] at h0
  refine ⟨h0.1, fun r hr => ?_, fun k x y hx hy => ?_⟩
  · obtain ⟨i, hi⟩ := List.getElem?_of_mem hr
    have := h0.2 i (List.getElem?_eq_some_iff.1 hi).1
    unfold watchAt at this
    rw [getD_of (d := 0) (Go.Lib.hid hi)] at this
    simp only [Bool.and_eq_true] at this
    exact this.1
  · have := h0.2 (k + 1) (List.getElem?_eq_some_iff.1 hy).1
    unfold watchAt at this
    rw [getD_of (d := 0) (Go.Lib.hid hy), Nat.add_sub_cancel, getD_of (d := 0) (Go.Lib.hid hx)] at this
    simpa using (Bool.and_eq_true_iff.1 this).2
theorem asc_ge {ws : List Int} (h0 : ∀ r ∈ ws, (0 : Int) ≤ r) (h : ∀ k x y, ws[k]? = some x → ws[k + 1]? = some y → x < y) : ∀ (k : Nat) (x : Int), ws[k]? = some x → (k : Int) ≤ x
  | 0, x, hx => by simpa using h0 x (List.mem_of_getElem? hx)
  | k + 1, x, hx => by
    have hk := (List.getElem?_eq_some_iff.1 hx).1
    have h1 := asc_ge h0 h k ws[k] (List.getElem?_eq_getElem (by omega))
    have h2 := h k ws[k] x (List.getElem?_eq_getElem (by omega)) hx
    omega
theorem mWatched_len {h : Hp} {ws : List Int} (h0 : mWatchedValid h ws = true) : ws.length ≤ 40 := by
  obtain ⟨h1, h2, h3⟩ := mWatched_parts h0
  obtain ⟨h4, -⟩ := heapOk_small h1
  rcases Nat.eq_zero_or_pos ws.length with h5 | h5
  · omega
  · have hl : ws[ws.length - 1]? = some (ws[ws.length - 1]'(by omega)) := List.getElem?_eq_getElem _
    have h6 := asc_ge (fun r hr => (usedB_parts (h2 r hr)).1) h3 _ _ hl
    have h7 := (usedB_parts (h2 _ (List.mem_of_getElem? hl))).2.1
    omega
theorem mKeptWatched_len (h : Hp) (ws : List Int) : (mKeptWatched h ws).length ≤ 1048576 := by
  unfold mKeptWatched
  split
  · rename_i h0
    obtain ⟨h1, -⟩ := heapOk_small (mWatched_parts h0).1
    rw [reachL_length]; omega
  · simp
end Go.Proofs.Ytpglhmlebcigfaa
