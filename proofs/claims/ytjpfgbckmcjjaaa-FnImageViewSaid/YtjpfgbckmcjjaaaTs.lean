/- TableValid, the reference's: it returns mTableValid too. -/
import Derived.Test.YtjpfgbckmcjjaaaTl
import Derived.Test.YtjpfgbckmcjjaaaTv
import Derived.Test.YtjpfgbckmcjjaaaRch
namespace Go.Proofs.Ytjpfgbckmcjjaaa
open Go.RowKit
theorem tell_leads {t : Tbl} {cs : List Cel} {r : Int} (h : leadsB cs (tellR t.hands r) = true) : inT t.hands r = true := by
  cases hi : inT t.hands r
  · have := inT_no hi
    rw [tellR_no (by omega) (by omega)] at h
    rw [leadsB_out (by omega) (.inl (by omega))] at h
    cases h
  · rfl
theorem heapOk_allIn {t : Tbl} (h : heapOk (tellH t) = true) : allIn t = true := by
  obtain ⟨h1, h2⟩ := heapOk_leads h
  unfold allIn
  simp only [Bool.and_eq_true, List.all_eq_true]
  refine ⟨fun r hr => tell_leads (h1 _ (List.mem_map.2 ⟨r, hr, rfl⟩)), fun c hc r hr => ?_⟩
  obtain ⟨k, hk⟩ := List.getElem?_of_mem hc
  exact tell_leads (h2 k (tellC t.hands c) (by show (t.store.cells.map (tellC t.hands))[k]? = _; rw [List.getElem?_map, hk]; rfl) _ (List.mem_map.2 ⟨r, hr, rfl⟩))
theorem mTab_spec {t : Tbl} (h1 : t.hands.length = t.store.cells.length) (h : ∀ k, k < t.hands.length → handAt t.hands k = true) : mTableValid t = (allIn t && heapOk (tellH t)) := by
  cases hk : heapOk (tellH t)
  · simp [mTableValid, hk]
  · obtain ⟨h2, -⟩ := heapOk_small hk
    have h3 : (tellH t).cells.length = t.store.cells.length := List.length_map _
    rw [mTab_yes h1 (by omega) h, hk, heapOk_allIn hk]; rfl
theorem mTab_spec1 {t : Tbl} (h1 : t.hands.length = t.store.cells.length) (h : ∀ k, k < t.hands.length → handAt t.hands k = true) (ha : allIn t = false) : mTableValid t = false := by rw [mTab_spec h1 h, ha]; rfl
theorem mTab_spec2 {t : Tbl} (h1 : t.hands.length = t.store.cells.length) (h : ∀ k, k < t.hands.length → handAt t.hands k = true) (ha : allIn t = true) : mTableValid t = heapOk (tellH t) := by rw [mTab_spec h1 h, ha]; rfl
def metT (hs : List Int) (n k : Nat) : List Bool := (List.range n).map fun c : Nat => (hs.take k).contains (c : Int)
theorem metT_zero (hs : List Int) (n : Nat) : List.replicate n false = metT hs n 0 := by
  unfold metT
  apply List.ext_getElem <;> simp
theorem metT_at {hs : List Int} {n k q : Nat} (hq : q < n) : (metT hs n k)[q]? = some ((hs.take k).contains (q : Int)) := by simp [metT, List.getElem?_range hq]
theorem metT_succ {hs : List Int} {n k q : Nat} (hx : Hid (hs[k]? = some (q : Int))) : metT hs n (k + 1) = (metT hs n k).set q true := by
  unfold metT
  apply List.ext_getElem (by simp)
  intro i h1 h2
  simp only [List.getElem_set, List.getElem_map, List.getElem_range]
  rw [contains_snoc hx]
  by_cases e : q = i
  · rw [if_pos e]; simp; omega
  · rw [if_neg e]
    have : decide ((i : Int) = (q : Int)) = false := by simp; omega
    rw [this, Bool.or_false]
end Go.Proofs.Ytjpfgbckmcjjaaa
