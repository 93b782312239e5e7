/- Packing a table, in plain words: a valid table stays valid when two cells change places. No program is walked. -/
import Derived.Test.YtcekohpekpkobaaMsL
namespace Go.Proofs.Ytcekohpekpkobaa
open Go.RowKit
def usedAt (t : Tbl) (k : Nat) : Bool := (t.store.cells.getD k noCel).used
def firstU (t : Tbl) (a : Nat) : Option Nat := (List.range t.store.cells.length).find? fun i => decide (a < i) && usedAt t i
def packStep (t : Tbl) (a : Nat) : Tbl × Nat := if usedAt t a then (t, 0) else match firstU t a with
  | some b => (mMoved t a b, 1)
  | none => (t, 0)
def packTo (t : Tbl) : Nat → Tbl × Nat
  | 0 => (t, 0)
  | k + 1 => ((packStep (packTo t k).1 k).1, (packTo t k).2 + (packStep (packTo t k).1 k).2)
def mPackT (t : Tbl) : Tbl := if mTableValid t then (packTo t t.store.cells.length).1 else ⟨⟨[], []⟩, []⟩
def mPackN (t : Tbl) : Int := if mTableValid t then ((packTo t t.store.cells.length).2 : Nat) else -1
theorem firstU_some {t : Tbl} {a b : Nat} (h1 : a < b) (h2 : b < t.store.cells.length) (h3 : usedAt t b = true) (h4 : ∀ i, a < i → i < b → usedAt t i = false) : firstU t a = some b := by
  unfold firstU
  rw [List.find?_range_eq_some]
  refine ⟨by simp [h1, h3], List.mem_range.2 h2, fun j hj => ?_⟩
  by_cases h : a < j
  · simp [h4 j h hj]
  · simp [h]
theorem firstU_none {t : Tbl} {a : Nat} (h4 : ∀ i, a < i → i < t.store.cells.length → usedAt t i = false) : firstU t a = none := by
  unfold firstU
  rw [List.find?_eq_none]
  intro x hx
  have := List.mem_range.1 hx
  by_cases h : a < x
  · simp [h4 x h this]
  · simp [h]
theorem mMoved_len (t : Tbl) (a b : Nat) : (mMoved t a b).store.cells.length = t.store.cells.length ∧ (mMoved t a b).hands.length = t.hands.length := ⟨swCells_len _ _ _, by simp [mMoved]⟩
theorem packStep_len (t : Tbl) (a : Nat) : (packStep t a).1.store.cells.length = t.store.cells.length ∧ (packStep t a).1.hands.length = t.hands.length ∧ (packStep t a).2 ≤ 1 := by
  unfold packStep
  split
  · exact ⟨rfl, rfl, by simp⟩
  · split
    · exact ⟨(mMoved_len _ _ _).1, (mMoved_len _ _ _).2, Nat.le_refl _⟩
    · exact ⟨rfl, rfl, by simp⟩
theorem packTo_len (t : Tbl) : ∀ k, (packTo t k).1.store.cells.length = t.store.cells.length ∧ (packTo t k).1.hands.length = t.hands.length ∧ (packTo t k).2 ≤ k
  | 0 => ⟨rfl, rfl, Nat.le_refl _⟩
  | k + 1 => by
    obtain ⟨h1, h2, h3⟩ := packTo_len t k
    obtain ⟨k1, k2, k3⟩ := packStep_len (packTo t k).1 k
    refine ⟨k1.trans h1, k2.trans h2, ?_⟩
    show (packTo t k).2 + (packStep (packTo t k).1 k).2 ≤ k + 1
    omega
/-! ### Validity -/
theorem swH_swapN {a b : Nat} {x : Int} (h0 : 0 ≤ x) : swH a b x = (swapN a b x.toNat : Nat) := by
  unfold swH swapN
  by_cases h1 : x = (a : Int)
  · rw [if_pos h1]
    by_cases h2 : x.toNat = b
    · rw [if_pos h2]; omega
    · rw [if_neg h2, if_pos (by omega)]
  · rw [if_neg h1]
    by_cases h2 : x = (b : Int)
    · rw [if_pos h2, if_pos (by omega)]
    · rw [if_neg h2, if_neg (by omega), if_neg (by omega)]; omega
theorem swH_neg (a b : Nat) {x : Int} (h : x < 0) : swH a b x = x := by unfold swH; rw [if_neg (by omega), if_neg (by omega)]
theorem swH_swH (a b : Nat) (x : Int) : swH a b (swH a b x) = x := by
  unfold swH
  by_cases h1 : x = (a : Int)
  · rw [if_pos h1]
    by_cases h2 : (b : Int) = (a : Int)
    · rw [if_pos h2]; omega
    · rw [if_neg h2, if_pos rfl]; exact h1.symm
  · rw [if_neg h1]
    by_cases h2 : x = (b : Int)
    · rw [if_pos h2, if_pos rfl]; exact h2.symm
    · rw [if_neg h2, if_neg h1, if_neg h2]
theorem swH_inj {a b : Nat} {x y : Int} (h : swH a b x = swH a b y) : x = y := by rw [← swH_swH a b x, h, swH_swH]
theorem swapN_swapN (a b n : Nat) : swapN a b (swapN a b n) = n := by
  unfold swapN
  by_cases h1 : n = b
  · rw [if_pos h1]
    by_cases h2 : a = b
    · rw [if_pos h2]; omega
    · rw [if_neg h2, if_pos rfl]; exact h1.symm
  · rw [if_neg h1]
    by_cases h2 : n = a
    · rw [if_pos h2, if_pos rfl]; exact h2.symm
    · rw [if_neg h2, if_neg h1, if_neg h2]
theorem swH_range {a b n : Nat} (ha : a < n) (hb : b < n) {x : Int} (h0 : 0 ≤ x) (h1 : x < n) : 0 ≤ swH a b x ∧ swH a b x < n := by
  unfold swH; split
  · omega
  · split <;> omega
theorem mem_map_sw {a b : Nat} {x : Int} {l : List Int} : swH a b x ∈ l.map (swH a b) ↔ x ∈ l := by
  rw [List.mem_map]
  constructor
  · rintro ⟨y, hy, e⟩; rw [← swH_inj e]; exact hy
  · intro h; exact ⟨x, h, rfl⟩
theorem permB_sw {hs : List Int} {a b : Nat} (ha : a < hs.length) (hb : b < hs.length) (h : permB hs = true) : permB (hs.map (swH a b)) = true := by
  unfold permB at h ⊢
  rw [List.length_map]
  simp only [List.all_eq_true, List.mem_range] at h ⊢
  intro k hk
  have h1 := h k hk
  have e : (hs.map (swH a b)).getD k 0 = swH a b (hs.getD k 0) := by
    simp only [List.getD_eq_getElem?_getD, List.getElem?_map, List.getElem?_eq_getElem hk, Option.map_some, Option.getD_some]
  unfold handAt at h1 ⊢
  rw [e, List.length_map, ← List.map_take]
  simp only [Bool.and_eq_true, decide_eq_true_eq, Bool.not_eq_true', List.contains_eq_mem, decide_eq_false_iff_not] at h1 ⊢
  obtain ⟨k1, k2⟩ := swH_range ha hb h1.1.1 h1.1.2
  exact ⟨⟨k1, k2⟩, fun hm => h1.2 (mem_map_sw.1 hm)⟩
def mapR (f : Int → Int) (c : Cel) : Cel := ⟨c.used, c.data, c.refs.map f⟩
def conjH (H : Hp) (a b : Nat) : Hp := ⟨swCells (H.cells.map (mapR (swH a b))) a b, H.roots.map (swH a b)⟩
theorem swCells_get {cs : List Cel} {a b : Nat} (ha : a < cs.length) (hb : b < cs.length) (i : Nat) : (swCells cs a b)[i]? = cs[swapN a b i]? := by
  have h1 := swCells_of (Go.Lib.hid (List.getElem?_eq_getElem ha)) (Go.Lib.hid (List.getElem?_eq_getElem hb))
  rw [← h1]
  exact get_swap (List.getElem?_eq_getElem ha) (List.getElem?_eq_getElem hb) i
theorem conj_used {H : Hp} {a b : Nat} (ha : a < H.cells.length) (hb : b < H.cells.length) (n : Nat) : ((conjH H a b).cells.getD (swapN a b n) noCel).used = (H.cells.getD n noCel).used := by
  unfold conjH
  simp only [List.getD_eq_getElem?_getD]
  rw [swCells_get (by simpa using ha) (by simpa using hb), swapN_swapN, List.getElem?_map]
  cases H.cells[n]? <;> rfl
theorem conj_leads {H : Hp} {a b : Nat} (ha : a < H.cells.length) (hb : b < H.cells.length) (x : Int) : leadsB (conjH H a b).cells (swH a b x) = leadsB H.cells x := by
  have hl : (conjH H a b).cells.length = H.cells.length := by simp [conjH, swCells_len]
  by_cases h0 : 0 ≤ x
  · have e := swH_swapN (a := a) (b := b) h0
    have hu := conj_used ha hb x.toNat
    unfold leadsB
    rw [hl, e, Int.toNat_natCast, hu]
    have e1 : (((swapN a b x.toNat : Nat) : Int) == -1) = false := beq_eq_false_iff_ne.2 (by omega)
    have e2 : (x == -1) = false := beq_eq_false_iff_ne.2 (by omega)
    have e3 : decide (((swapN a b x.toNat : Nat) : Int) < (H.cells.length : Int)) = decide (x < (H.cells.length : Int)) := decide_eq_decide.2 (by
      unfold swapN; split
      · omega
      · split <;> omega)
    have e4 : decide (0 ≤ ((swapN a b x.toNat : Nat) : Int)) = true := decide_eq_true (by omega)
    have e5 : decide (0 ≤ x) = true := decide_eq_true h0
    rw [e1, e2, e3, e4, e5]
  · rw [swH_neg a b (by omega)]
    unfold leadsB
    have e5 : decide (0 ≤ x) = false := decide_eq_false h0
    rw [e5]; rfl
theorem conj_cell {H : Hp} {a b : Nat} (ha : a < H.cells.length) (hb : b < H.cells.length) (c : Cel) : cellOk (conjH H a b).cells (mapR (swH a b) c) = cellOk H.cells c := by
  have e : (c.refs.map (swH a b)).all (leadsB (conjH H a b).cells) = c.refs.all (leadsB H.cells) := by
    rw [List.all_map]
    congr 1
    funext x
    exact conj_leads ha hb x
  unfold cellOk mapR
  simp only [e, List.length_map]
theorem conj_ok {H : Hp} {a b : Nat} (ha : a < H.cells.length) (hb : b < H.cells.length) (h : heapOk H = true) : heapOk (conjH H a b) = true := by
  have hl : (conjH H a b).cells.length = H.cells.length := by simp [conjH, swCells_len]
  unfold heapOk at h ⊢
  rw [hl]
  simp only [Bool.and_eq_true, decide_eq_true_eq, List.all_eq_true] at h ⊢
  refine ⟨⟨⟨h.1.1.1, by simpa [conjH] using h.1.1.2⟩, fun c hc => ?_⟩, fun r hr => ?_⟩
  · obtain ⟨i, hi⟩ := List.getElem?_of_mem hc
    have hi' : (swCells (H.cells.map (mapR (swH a b))) a b)[i]? = some c := hi
    rw [swCells_get (by simpa using ha) (by simpa using hb), List.getElem?_map] at hi'
    obtain ⟨d, hd, rfl⟩ := Option.map_eq_some_iff.1 hi'
    rw [conj_cell ha hb]
    exact h.1.2 d (List.mem_of_getElem? hd)
  · obtain ⟨x, hx, rfl⟩ := List.mem_map.1 hr
    rw [conj_leads ha hb]
    exact h.2 x hx
theorem tellR_sw (hs : List Int) (a b : Nat) (r : Int) : tellR (hs.map (swH a b)) r = swH a b (tellR hs r) := by
  unfold tellR
  rw [List.length_map]
  by_cases h1 : r = -1
  · rw [if_pos h1, if_pos h1, swH_neg a b (by omega)]
  rw [if_neg h1, if_neg h1]
  by_cases h2 : r < 0 ∨ (hs.length : Int) ≤ r
  · rw [if_pos h2, if_pos h2, swH_neg a b (by omega)]
  rw [if_neg h2, if_neg h2]
  simp only [List.getD_eq_getElem?_getD, List.getElem?_map]
  rw [List.getElem?_eq_getElem (by omega : r.toNat < hs.length)]
  rfl
theorem swCells_map (f : Cel → Cel) (hf : f noCel = noCel) (cs : List Cel) (a b : Nat) : (swCells cs a b).map f = swCells (cs.map f) a b := by
  have e : ∀ k, (cs.map f).getD k noCel = f (cs.getD k noCel) := fun k => by
    simp only [List.getD_eq_getElem?_getD, List.getElem?_map]
    cases cs[k]? with
    | none => exact hf.symm
    | some c => rfl
  unfold swCells
  rw [List.map_set, List.map_set, e, e]
theorem tellH_moved (t : Tbl) (a b : Nat) : tellH (mMoved t a b) = conjH (tellH t) a b := by
  have e1 : ∀ c, tellC (t.hands.map (swH a b)) c = mapR (swH a b) (tellC t.hands c) := fun c => by
    unfold tellC mapR
    simp only [List.map_map]
    congr 1
    exact List.map_congr_left fun r _ => tellR_sw t.hands a b r
  have h1 : (swCells t.store.cells a b).map (tellC (t.hands.map (swH a b))) = swCells ((t.store.cells.map (tellC t.hands)).map (mapR (swH a b))) a b := by
    rw [swCells_map _ (by rfl), List.map_map]
    congr 1
    exact List.map_congr_left fun c _ => e1 c
  have h2 : t.store.roots.map (tellR (t.hands.map (swH a b))) = (t.store.roots.map (tellR t.hands)).map (swH a b) := by
    rw [List.map_map]
    exact List.map_congr_left fun r _ => tellR_sw t.hands a b r
  show (⟨(swCells t.store.cells a b).map (tellC (t.hands.map (swH a b))), t.store.roots.map (tellR (t.hands.map (swH a b)))⟩ : Hp) = ⟨swCells ((t.store.cells.map (tellC t.hands)).map (mapR (swH a b))) a b, (t.store.roots.map (tellR t.hands)).map (swH a b)⟩
  rw [h1, h2]
/-- A valid table stays valid. -/
theorem mMoved_valid {t : Tbl} {a b : Nat} (h : mTableValid t = true) (ha : a < t.store.cells.length) (hb : b < t.store.cells.length) : mTableValid (mMoved t a b) = true := by
  unfold mTableValid at h ⊢
  obtain ⟨l1, l2⟩ := mMoved_len t a b
  rw [tellH_moved, l1, l2]
  simp only [Bool.and_eq_true, decide_eq_true_eq] at h ⊢
  exact ⟨⟨⟨h.1.1.1, h.1.1.2⟩, permB_sw (by omega) (by omega) h.1.2⟩, conj_ok (by simpa [tellH] using ha) (by simpa [tellH] using hb) h.2⟩
theorem packStep_valid {t : Tbl} {a : Nat} (h : mTableValid t = true) (ha : a < t.store.cells.length) : mTableValid (packStep t a).1 = true := by
  unfold packStep
  split
  · exact h
  · split
    · rename_i b hb
      have := List.mem_range.1 (List.mem_of_find?_eq_some hb)
      exact mMoved_valid h ha this
    · exact h
theorem packTo_valid {t : Tbl} (h : mTableValid t = true) : ∀ k, k ≤ t.store.cells.length → mTableValid (packTo t k).1 = true
  | 0, _ => h
  | k + 1, hk => packStep_valid (packTo_valid h k (by omega)) (by rw [(packTo_len t k).1]; omega)
end Go.Proofs.Ytcekohpekpkobaa
