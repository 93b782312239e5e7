/- Plain laws on the sizes of regions: they divide the used cells; what is given back is no more counted. No program. -/
import Derived.Test.YtmhcajjlhiopmaaDq
import Derived.Test.YtmhcajjlhiopmaaRs
import Derived.Test.YtmhcajjlhiopmaaUc
namespace Go.Proofs.Ytmhcajjlhiopmaa
open Go.RowKit
theorem six_of {s : List Int} (h : s.length = 6) : ∃ a b c d e f, s = [a, b, c, d, e, f] := by
  match s, h with
  | [a, b, c, d, e, f], _ => exact ⟨a, b, c, d, e, f, rfl⟩
theorem nat_six {q : Nat} (h : q < 6) : q = 0 ∨ q = 1 ∨ q = 2 ∨ q = 3 ∨ q = 4 ∨ q = 5 := by omega
/-- The sizes of a heap and of what is left of it when the regions from f on are given back. -/
structure SzRel (f : Int) (s s' : List Int) (u u' d : Nat) : Prop where
  sum : s.getD 0 0 + s.getD 1 0 + s.getD 2 0 + s.getD 3 0 + s.getD 4 0 + s.getD 5 0 = u
  low : ∀ q : Nat, q < 6 → (q : Int) < f → s'.getD q 0 = s.getD q 0
  high : ∀ q : Nat, q < 6 → f ≤ (q : Int) → s'.getD q 0 = 0
  sum' : s'.getD 0 0 + s'.getD 1 0 + s'.getD 2 0 + s'.getD 3 0 + s'.getD 4 0 + s'.getD 5 0 = u'
  out : u = u' + d
theorem sz_rel {h : Hp} {rs : List Int} {f : Int} (hv : mRegionsValid h rs = true) (h1 : 1 ≤ f) (h5 : f ≤ 5) : ∀ k, k ≤ h.cells.length → SzRel f (sizesTo h.cells rs k) (sizesTo (drCells h.cells rs f) (rs.map (drZ f)) k) (usedTo h.cells k) (usedTo (drCells h.cells rs f) k) (drTo rs f k)
  | 0, _ => by
    have z : ∀ q : Nat, q < 6 → (List.replicate 6 (0 : Int)).getD q 0 = 0 := fun q hq => by rcases nat_six hq with rfl | rfl | rfl | rfl | rfl | rfl <;> rfl
    refine ⟨rfl, fun q hq _ => ?_, fun q hq _ => ?_, rfl, rfl⟩
    · rw [sizesTo, sizesTo]
    · rw [sizesTo]; exact z q hq
  | k + 1, hk => by
    have ih := sz_rel hv h1 h5 k (by omega)
    obtain ⟨l, hl⟩ : ∃ l, h.cells[k]? = some l := ⟨_, List.getElem?_eq_getElem (by omega)⟩
    obtain ⟨r, hr, hr0, hr5, hru, -⟩ := rg_parts hv hl
    obtain ⟨q, rfl⟩ := Int.eq_ofNat_of_zero_le hr0
    have hq : q < 6 := by omega
    have e2 := drCells_at (rs := rs) (f := f) hl
    have e3 : (rs.map (drZ f))[k]? = some (drZ f q) := by rw [List.getElem?_map, hr]; rfl
    have hu : usedN h.cells k = l.used := usedN_at (Go.Lib.hid hl)
    have hu' : usedN (drCells h.cells rs f) k = (if drB rs f k then noCel else l).used := usedN_at (Go.Lib.hid e2)
    rw [drB_at hr] at e2 hu'
    rw [usedTo_succ, usedTo_succ, drTo_succ, drB_at hr, hu, hu']
    have L := sizesTo_length h.cells rs k
    have L' := sizesTo_length (drCells h.cells rs f) (rs.map (drZ f)) k
    have hS := sizesTo_yes (cs := h.cells) (rs := rs) (k := k) (l := l) (q := q) (Go.Lib.hid hl) (Go.Lib.hid hr)
    have hN := sizesTo_no (cs := h.cells) (rs := rs) (k := k) (l := l) (Go.Lib.hid hl)
    have hN' := sizesTo_no (cs := drCells h.cells rs f) (rs := rs.map (drZ f)) (k := k) (Go.Lib.hid e2)
    generalize hs : sizesTo h.cells rs k = s at *
    generalize hs' : sizesTo (drCells h.cells rs f) (rs.map (drZ f)) k = s' at *
    by_cases hfr : f ≤ (q : Int)
    · rw [decide_eq_true hfr] at e2 hu' hN' ⊢
      have hlu : l.used = true := hru.elim id fun h6 => by omega
      rw [hN' rfl, hS hlu, hlu]
      obtain ⟨a, b, c, d, e, g, rfl⟩ := six_of L
      obtain ⟨i1, i2, i3, i4, i5⟩ := ih
      refine ⟨?_, fun p hp hpf => ?_, i3, by simpa [noCel] using i4, by simp [noCel]; omega⟩
      · rcases nat_six hq with rfl | rfl | rfl | rfl | rfl | rfl <;> simp at i1 ⊢ <;> omega
      · rw [i2 p hp hpf]
        rcases nat_six hq with rfl | rfl | rfl | rfl | rfl | rfl <;> rcases nat_six hp with rfl | rfl | rfl | rfl | rfl | rfl <;> first | rfl | (exfalso; omega)
    · rw [decide_eq_false hfr] at e2 hu' hN' ⊢
      rw [drZ_neg (by omega)] at e3
      have hS' := sizesTo_yes (cs := drCells h.cells rs f) (rs := rs.map (drZ f)) (k := k) (q := q) (Go.Lib.hid e2) (Go.Lib.hid e3)
      rw [hs'] at hS'
      obtain ⟨i1, i2, i3, i4, i5⟩ := ih
      have j2 := i2 q hq (by omega)
      cases hlu : l.used
      · rw [hN hlu, hN' hlu]
        exact ⟨by simpa using i1, i2, i3, by simpa [hlu] using i4, by simp [hlu]; omega⟩
      · rw [hS hlu, hS' hlu]
        obtain ⟨a, b, c, d, e, g, rfl⟩ := six_of L
        obtain ⟨a', b', c', d', e', g', rfl⟩ := six_of L'
        refine ⟨?_, fun p hp hpf => ?_, fun p hp hpf => ?_, ?_, by simp [hlu]; omega⟩
        · rcases nat_six hq with rfl | rfl | rfl | rfl | rfl | rfl <;> simp at i1 ⊢ <;> omega
        · have k2 := i2 p hp hpf
          rcases nat_six hq with rfl | rfl | rfl | rfl | rfl | rfl <;> rcases nat_six hp with rfl | rfl | rfl | rfl | rfl | rfl <;> simp at j2 k2 ⊢ <;> omega
        · have k3 := i3 p hp hpf
          rcases nat_six hq with rfl | rfl | rfl | rfl | rfl | rfl <;> rcases nat_six hp with rfl | rfl | rfl | rfl | rfl | rfl <;> first | (exfalso; omega) | (simp at k3 ⊢; omega)
        · rcases nat_six hq with rfl | rfl | rfl | rfl | rfl | rfl <;> simp [hlu] at i4 ⊢ <;> omega
end Go.Proofs.Ytmhcajjlhiopmaa
