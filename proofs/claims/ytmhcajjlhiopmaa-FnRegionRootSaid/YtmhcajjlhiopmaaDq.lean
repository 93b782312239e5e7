/- Plain laws on regions that are given back: the heap and the regions stay valid; nothing is left to give back. No program. -/
import Derived.Test.YtmhcajjlhiopmaaDrI
namespace Go.Proofs.Ytmhcajjlhiopmaa
open Go.RowKit
theorem drCells_len (cs : List Cel) (rs : List Int) (f : Int) : (drCells cs rs f).length = cs.length := by simp [drCells]
theorem drCells_at {cs : List Cel} {rs : List Int} {f : Int} {k : Nat} {l : Cel} (hl : cs[k]? = some l) : (drCells cs rs f)[k]? = some (if drB rs f k then noCel else l) := by
  have hk := (List.getElem?_eq_some_iff.1 hl).1
  unfold drCells
  rw [List.getElem?_map, List.getElem?_range hk]
  simp only [Option.map_some]
  rw [getD_of (Go.Lib.hid hl)]
theorem drZ_neg {f x : Int} (h : x < f) : drZ f x = x := by unfold drZ; rw [if_neg (by omega)]
theorem drZ_pos {f x : Int} (h : f ≤ x) : drZ f x = 0 := by unfold drZ; rw [if_pos h]
theorem drZ_le {f x : Int} (h : 0 ≤ x) : drZ f x ≤ x := by unfold drZ; split <;> omega
theorem drB_at {rs : List Int} {f : Int} {k : Nat} {r : Int} (h : rs[k]? = some r) : drB rs f k = decide (f ≤ r) := by unfold drB; rw [List.getD_eq_getElem?_getD, h]; rfl
/-- What a valid list of regions says about one cell. -/
theorem rg_parts {h : Hp} {rs : List Int} (hv : mRegionsValid h rs = true) {k : Nat} {l : Cel} (hl : h.cells[k]? = some l) : ∃ r, rs[k]? = some r ∧ 0 ≤ r ∧ r ≤ 5 ∧ (l.used = true ∨ r = 0) ∧ ∀ x ∈ l.refs, x < 0 ∨ rs.getD x.toNat 0 ≤ r := by
  obtain ⟨h1, h2, h3⟩ := mRegions_parts hv
  have hk := (List.getElem?_eq_some_iff.1 hl).1
  obtain ⟨r, hr⟩ : ∃ r, rs[k]? = some r := ⟨_, List.getElem?_eq_getElem (by omega)⟩
  have h4 := h3 k hk
  rw [rgAt_eq (Go.Lib.hid hl) (Go.Lib.hid hr)] at h4
  simp only [Bool.and_eq_true, Bool.or_eq_true, decide_eq_true_eq, beq_iff_eq, List.all_eq_true, rgRef] at h4
  exact ⟨r, hr, h4.1.1.1, h4.1.1.2, h4.1.2, h4.2⟩
theorem leadsB_range {cs : List Cel} {r : Int} (h : leadsB cs r = true) : r = -1 ∨ ∃ q l, r = ((q : Nat) : Int) ∧ cs[q]? = some l ∧ l.used = true := by
  by_cases h0 : 0 ≤ r
  · right
    have hu := leadsB_used h h0
    have hq := usedN_lt hu
    refine ⟨r.toNat, cs[r.toNat], by omega, List.getElem?_eq_getElem hq, ?_⟩
    rw [← hu]
    exact (usedN_at (Go.Lib.hid (List.getElem?_eq_getElem hq))).symm
  · left
    simp only [leadsB, Bool.or_eq_true, Bool.and_eq_true, beq_iff_eq, decide_eq_true_eq] at h
    rcases h with h | h
    · exact h
    · omega
theorem leadsB_of {cs : List Cel} {q : Nat} {l : Cel} (hl : cs[q]? = some l) (hu : l.used = true) : leadsB cs (q : Int) = true := by
  have hq := (List.getElem?_eq_some_iff.1 hl).1
  have h1 : ((q : Int) == -1) = false := by rw [beq_eq_false_iff_ne]; omega
  unfold leadsB
  rw [h1, Int.toNat_natCast, getD_of (Go.Lib.hid hl), hu]
  simp [hq]
theorem leadsB_neg (cs : List Cel) : leadsB cs (-1) = true := by simp [leadsB]
theorem dr_valid {h : Hp} {rs : List Int} {f : Int} (hv : mRegionsValid h rs = true) (h1 : 1 ≤ f) : mRegionsValid ⟨drCells h.cells rs f, h.roots.map (drRoot rs f)⟩ (rs.map (drZ f)) = true := by
  obtain ⟨e1, hok, -⟩ := mRegions_parts hv
  have hld := heapOk_leads hok
  have hsm := heapOk_small hok
  -- what a kept cell refers to is kept
  have keep : ∀ (q : Nat) (l : Cel) (r : Int), h.cells[q]? = some l → l.used = true → rs[q]? = some r → r < f → leadsB (drCells h.cells rs f) (q : Int) = true := by
    intro q l r hl hu hr hrf
    have e2 := drCells_at (rs := rs) (f := f) hl
    rw [drB_at hr, decide_eq_false (by omega), if_neg Bool.false_ne_true] at e2
    exact leadsB_of e2 hu
  refine mRegions_yes ?_ (by simp [drCells_len, e1]) ?_
  · have hcell : ∀ c ∈ h.cells, cellOk h.cells c = true := by simp only [heapOk, Bool.and_eq_true, List.all_eq_true] at hok; exact hok.1.2
    simp only [heapOk, Bool.and_eq_true, List.all_eq_true, decide_eq_true_eq]
    refine ⟨⟨⟨by rw [drCells_len]; exact hsm.1, by rw [List.length_map]; exact hsm.2⟩, fun c hc => ?_⟩, fun x hx => ?_⟩
    · obtain ⟨k, hk⟩ := List.mem_iff_getElem?.1 hc
      have hkl : k < h.cells.length := by have := (List.getElem?_eq_some_iff.1 hk).1; rwa [drCells_len] at this
      obtain ⟨l, hl⟩ : ∃ l, h.cells[k]? = some l := ⟨_, List.getElem?_eq_getElem hkl⟩
      rw [drCells_at hl] at hk
      obtain ⟨r, hr, hr0, -, -, hrx⟩ := rg_parts hv hl
      rw [drB_at hr] at hk
      by_cases hfr : f ≤ r
      · rw [decide_eq_true hfr, if_pos rfl] at hk
        cases hk
        rfl
      · rw [decide_eq_false hfr, if_neg Bool.false_ne_true] at hk
        obtain rfl := Option.some.inj hk
        have hcl := hcell l (List.mem_of_getElem? hl)
        unfold cellOk at hcl ⊢
        split
        · rename_i hu
          rw [if_pos hu] at hcl
          simp only [Bool.and_eq_true, List.all_eq_true] at hcl ⊢
          refine ⟨fun y hy => ?_, hcl.2⟩
          rcases leadsB_range (hcl.1 y hy) with rfl | ⟨q, lq, rfl, hlq, huq⟩
          · exact leadsB_neg _
          · obtain ⟨rq, hrq, -, -, -, -⟩ := rg_parts hv hlq
            have h5 := hrx _ hy
            rw [Int.toNat_natCast, List.getD_eq_getElem?_getD, hrq] at h5
            simp only [Option.getD_some] at h5
            exact keep q lq rq hlq huq hrq (by omega)
        · rename_i hu
          rwa [if_neg hu] at hcl
    · obtain ⟨y, hy, rfl⟩ := List.mem_map.1 hx
      rcases leadsB_range (hld.1 y hy) with rfl | ⟨q, lq, rfl, hlq, huq⟩
      · have : drRoot rs f (-1) = -1 := by unfold drRoot; rw [if_neg (by omega)]
        rw [this]; exact leadsB_neg _
      · obtain ⟨rq, hrq, -, -, -, -⟩ := rg_parts hv hlq
        unfold drRoot
        rw [Int.toNat_natCast, List.getD_eq_getElem?_getD, hrq]
        simp only [Option.getD_some]
        split
        · exact leadsB_neg _
        · exact keep q lq rq hlq huq hrq (by omega)
  · rw [List.all_eq_true]
    intro k hk
    have hk := List.mem_range.1 hk
    simp only [drCells_len] at hk
    obtain ⟨l, hl⟩ : ∃ l, h.cells[k]? = some l := ⟨_, List.getElem?_eq_getElem hk⟩
    obtain ⟨r, hr, hr0, hr5, hru, hrx⟩ := rg_parts hv hl
    have e3 : (rs.map (drZ f))[k]? = some (drZ f r) := by rw [List.getElem?_map, hr]; rfl
    have e2 := drCells_at (rs := rs) (f := f) hl
    rw [drB_at hr] at e2
    by_cases hfr : f ≤ r
    · rw [decide_eq_true hfr, if_pos rfl] at e2
      rw [drZ_pos hfr] at e3
      rw [rgAt_eq (Go.Lib.hid e2) (Go.Lib.hid e3)]
      rfl
    · rw [decide_eq_false hfr, if_neg Bool.false_ne_true] at e2
      rw [drZ_neg (by omega)] at e3
      rw [rgAt_eq (Go.Lib.hid e2) (Go.Lib.hid e3)]
      simp only [Bool.and_eq_true, Bool.or_eq_true, decide_eq_true_eq, beq_iff_eq, List.all_eq_true, rgRef]
      refine ⟨⟨⟨hr0, hr5⟩, hru⟩, fun x hx => ?_⟩
      rcases hrx x hx with h5 | h5
      · exact .inl h5
      · rcases leadsB_range ((heapOk_leads hok).2 k l hl x hx) with rfl | ⟨q, lq, rfl, hlq, huq⟩
        · exact .inl (by omega)
        · obtain ⟨rq, hrq, hrq0, -, -, -⟩ := rg_parts hv hlq
          right
          rw [Int.toNat_natCast, List.getD_eq_getElem?_getD, hrq] at h5
          rw [Int.toNat_natCast, List.getD_eq_getElem?_getD, List.getElem?_map, hrq]
          simp only [Option.map_some, Option.getD_some] at h5 ⊢
          have := drZ_le (f := f) hrq0
          omega
theorem dr_none {rs : List Int} {f : Int} (h1 : 1 ≤ f) : drCnt (rs.map (drZ f)) f = 0 := by
  unfold drCnt
  rw [List.length_eq_zero_iff, List.filter_eq_nil_iff]
  intro k hk
  have hk := List.mem_range.1 hk
  rw [List.length_map] at hk
  obtain ⟨r, hr⟩ : ∃ r, rs[k]? = some r := ⟨_, List.getElem?_eq_getElem hk⟩
  have e3 : (rs.map (drZ f))[k]? = some (drZ f r) := by rw [List.getElem?_map, hr]; rfl
  rw [drB_at e3]
  have : ¬ f ≤ drZ f r := by unfold drZ; split <;> omega
  simp [this]
theorem mDropOk_parts {h : Hp} {rs : List Int} {f : Int} (h0 : mDropOk h rs f = true) : mRegionsValid h rs = true ∧ 1 ≤ f ∧ f ≤ 5 := by
  simp only [mDropOk, Bool.and_eq_true, decide_eq_true_eq] at h0
  exact h0
theorem mDrop_again {h : Hp} {rs : List Int} {f : Int} (h0 : mDropOk h rs f = true) : mDropN (mDropH h rs f) (mDropL h rs f) f = 0 ∧ mRegionsValid (mDropH h rs f) (mDropL h rs f) = true := by
  obtain ⟨h1, h2, h3⟩ := mDropOk_parts h0
  have hv := dr_valid h1 h2
  obtain ⟨e1, e2, -⟩ := mDrop_yes h0
  rw [e1, e2]
  have hok : mDropOk ⟨drCells h.cells rs f, h.roots.map (drRoot rs f)⟩ (rs.map (drZ f)) f = true := by simp [mDropOk, hv, h2, h3]
  refine ⟨?_, hv⟩
  rw [(mDrop_yes hok).2.2, dr_none h2]; rfl
def drTo (rs : List Int) (f : Int) (k : Nat) : Nat := ((List.range k).filter (drB rs f)).length
theorem drTo_succ (rs : List Int) (f : Int) (k : Nat) : drTo rs f (k + 1) = drTo rs f k + (if drB rs f k then 1 else 0) := by
  unfold drTo
  rw [List.range_succ, List.filter_append, List.length_append]
  cases h : drB rs f k <;> simp [h]
theorem drTo_le (rs : List Int) (f : Int) (k : Nat) : drTo rs f k ≤ k := by
  have := List.length_filter_le (drB rs f) (List.range k)
  rwa [List.length_range] at this
end Go.Proofs.Ytmhcajjlhiopmaa
