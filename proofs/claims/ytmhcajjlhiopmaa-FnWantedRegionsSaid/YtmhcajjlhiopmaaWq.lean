/- Plain laws on wanted regions: they are valid; the cell of a root has at most the region that is asked for it; with region 5 for all roots all used cells have it. No program. -/
import Derived.Test.YtmhcajjlhiopmaaWr
namespace Go.Proofs.Ytmhcajjlhiopmaa
open Go.RowKit
theorem mWanted_facts {h : Hp} {ws : List Int} (h0 : 0 < (mWantedRegions h ws).length) : heapOk h = true ∧ ws.length = 4 ∧ (∀ x ∈ ws, regB x = true) ∧ mWantedRegions h ws = (List.range h.cells.length).map (wTo h ws 4) := by
  unfold mWantedRegions at h0 ⊢
  split at h0
  · rename_i hc
    rw [if_pos hc]
    simp only [Bool.and_eq_true, decide_eq_true_eq, List.all_eq_true] at hc
    exact ⟨hc.1.1, hc.1.2, hc.2, rfl⟩
  · simp at h0
theorem wTo_in {h : Hp} {ws : List Int} (h2 : ∀ x ∈ ws, regB x = true) (c : Nat) : ∀ j, 0 ≤ wTo h ws j c ∧ wTo h ws j c ≤ 5
  | 0 => by rw [wTo]; split <;> omega
  | j + 1 => by
    have ih := wTo_in (h := h) h2 c j
    rw [wTo]
    split
    · have : 0 ≤ ws.getD j 0 := by
        rw [List.getD_eq_getElem?_getD]
        cases hj : ws[j]? with
        | none => simp
        | some x => have := regB_yes (h2 x (List.mem_of_getElem? hj)); simpa using this.1
      omega
    · exact ih
theorem wTo_free {h : Hp} {ws : List Int} (h2 : ∀ x ∈ ws, regB x = true) {c : Nat} (hu : usedN h.cells c = false) : wTo h ws 4 c = 0 := by
  have h1 := wTo_mono (h := h) (wants := ws) c 0 4 (by omega)
  have h3 := (wTo_in (h := h) h2 c 4).1
  have h4 : wTo h ws 0 c = 0 := by rw [wTo, if_neg (by rw [hu]; exact Bool.false_ne_true)]
  omega
theorem wanted_valid {h : Hp} {ws : List Int} (h0 : heapOk h = true) (h2 : ∀ x ∈ ws, regB x = true) : mRegionsValid h ((List.range h.cells.length).map (wTo h ws 4)) = true := by
  refine mRegions_yes h0 (by simp) ?_
  rw [List.all_eq_true]
  intro k hk
  have hk := List.mem_range.1 hk
  obtain ⟨l, hl⟩ : ∃ l, h.cells[k]? = some l := ⟨_, List.getElem?_eq_getElem hk⟩
  have hr : ((List.range h.cells.length).map (wTo h ws 4))[k]? = some (wTo h ws 4 k) := by simp [List.getElem?_range hk]
  rw [rgAt_eq (Go.Lib.hid hl) (Go.Lib.hid hr)]
  have hu : usedN h.cells k = l.used := usedN_at (Go.Lib.hid hl)
  have hin := wTo_in (h := h) h2 k 4
  simp only [Bool.and_eq_true, Bool.or_eq_true, decide_eq_true_eq, beq_iff_eq, List.all_eq_true]
  refine ⟨⟨hin, ?_⟩, fun x hx => ?_⟩
  · cases hlu : l.used
    · exact .inr (wTo_free h2 (by rw [hu, hlu]))
    · exact .inl rfl
  · unfold rgRef
    by_cases hx0 : x < 0
    · simp [hx0]
    · have hld := (heapOk_leads h0).2 k l hl x hx
      have hux := leadsB_used hld (by omega)
      have hk1 : usedN h.cells k = true := by
        cases hk2 : usedN h.cells k
        · rw [free_refs h0 hl hk2] at hx; cases hx
        · rfl
      have h5 := wTo_edge (wants := ws) hl hx (by omega) hux hk1 4
      have h6 : gd ((List.range h.cells.length).map (wTo h ws 4)) x.toNat = wTo h ws 4 x.toNat := gd_map (usedN_lt hux)
      unfold gd at h6
      rw [h6]
      simp [h5]
theorem wanted_root {h : Hp} {ws : List Int} (h0 : heapOk h = true) {k q : Nat} (hk : k < 4) (hr : h.roots[k]? = some (q : Int)) : q < h.cells.length ∧ wTo h ws 4 q ≤ ws.getD k 0 := by
  have hl := (heapOk_leads h0).1 _ (List.mem_of_getElem? hr)
  have hu := leadsB_used hl (by omega)
  rw [Int.toNat_natCast] at hu
  have e : h.roots.getD k (-1) = (q : Int) := by rw [List.getD_eq_getElem?_getD, hr]; rfl
  refine ⟨usedN_lt hu, Int.le_trans (wTo_mono q (k + 1) 4 (by omega)) ?_⟩
  rw [wTo, if_pos]
  · omega
  · simp only [reachB, decide_eq_true_eq, e]
    exact .base (List.mem_singleton_self _) (by omega) (by rwa [Int.toNat_natCast])
theorem five_at {k : Nat} (hk : k < 4) : ([5, 5, 5, 5] : List Int).getD k 0 = 5 := by
  match k, hk with
  | 0, _ => rfl
  | 1, _ => rfl
  | 2, _ => rfl
  | 3, _ => rfl
theorem five_reg : ∀ x ∈ ([5, 5, 5, 5] : List Int), regB x = true := by
  intro x hx
  simp only [List.mem_cons, List.not_mem_nil, or_false, or_self] at hx
  subst hx
  rfl
theorem wanted_five {h : Hp} (h0 : heapOk h = true) : mWantedRegions h [5, 5, 5, 5] = (List.range h.cells.length).map (wTo h [5, 5, 5, 5] 4) := by
  unfold mWantedRegions
  rw [if_pos]
  simp only [Bool.and_eq_true, decide_eq_true_eq, List.all_eq_true]
  exact ⟨⟨h0, rfl⟩, five_reg⟩
theorem wanted_all {h : Hp} {c : Nat} (hu : usedN h.cells c = true) : wTo h [5, 5, 5, 5] 4 c = 5 := by
  have h1 := le_wTo (wants := [5, 5, 5, 5]) hu (Int.le_refl 5) 4 fun k hk _ => by rw [five_at hk]; omega
  have h2 := (wTo_in (h := h) five_reg c 4).2
  omega
end Go.Proofs.Ytmhcajjlhiopmaa
