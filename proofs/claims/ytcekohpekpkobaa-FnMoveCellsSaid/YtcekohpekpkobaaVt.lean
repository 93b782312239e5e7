/- Plain laws: a table in which cells change places tells a heap of which a program sees the same; moving back leads back; a packed table begins with its used cells, and packing it again moves nothing. No program. -/
import Derived.Test.YtcekohpekpkobaaZ1
import Derived.Test.YtcekohpekpkobaaPt
namespace Go.Proofs.Ytcekohpekpkobaa
open Go.RowKit
theorem up_sw (a b : Nat) : up (swH a b) = swH a b := funext fun r => by
  unfold up
  split
  · rename_i h; exact (swH_neg a b h).symm
  · rfl
theorem conj_cel {H : Hp} {a b : Nat} (ha : a < H.cells.length) (hb : b < H.cells.length) {c : Int} (h0 : 0 ≤ c) : cel (conjH H a b).cells (swH a b c) = mapR (swH a b) (cel H.cells c) := by
  unfold cel
  rw [swH_swapN h0, Int.toNat_natCast, List.getD_eq_getElem?_getD, List.getD_eq_getElem?_getD]
  show ((swCells (H.cells.map (mapR (swH a b))) a b)[swapN a b c.toNat]?).getD noCel = _
  rw [swCells_get (by simpa using ha) (by simpa using hb), swapN_swapN, List.getElem?_map]
  cases H.cells[c.toNat]? <;> rfl
theorem conj_iso {H : Hp} {a b : Nat} (h0 : heapOk H = true) (ha : a < H.cells.length) (hb : b < H.cells.length) : Iso H (conjH H a b) (RchI H) (swH a b) := by
  refine ⟨rchI_root h0, rchI_ref h0, fun c hc => ⟨hc.1, ?_⟩, fun x y _ _ e => swH_inj e, ?_, fun c hc => ?_, fun c hc => ?_⟩
  · rw [swH_swapN hc.1]; omega
  · rw [up_sw]; rfl
  · rw [conj_cel ha hb hc.1]; rfl
  · rw [conj_cel ha hb hc.1, up_sw]; rfl
theorem tab_heap {t : Tbl} (h : mTableValid t = true) : heapOk (tellH t) = true := by
  unfold mTableValid at h
  simp only [Bool.and_eq_true] at h
  exact h.2
theorem tab_len {t : Tbl} (h : mTableValid t = true) : t.hands.length = t.store.cells.length ∧ t.store.cells.length ≤ 40 ∧ t.store.roots.length = 4 := by
  have h1 := heapOk_small (tab_heap h)
  unfold mTableValid at h
  simp only [Bool.and_eq_true, decide_eq_true_eq] at h
  have h2 : (tellH t).roots.length = t.store.roots.length := by simp [tellH]
  exact ⟨h.1.1.1, by omega, by omega⟩
theorem moved_view {t : Tbl} {a b : Nat} (h : mTableValid t = true) (ha : a < t.store.cells.length) (hb : b < t.store.cells.length) : mView (tellH (mMoved t a b)) = mView (tellH t) := by
  have hl : (tellH t).cells.length = t.store.cells.length := by simp [tellH]
  rw [tellH_moved]
  exact view_same (conj_iso (tab_heap h) (by omega) (by omega)) (tab_heap h) (by have := tab_heap (mMoved_valid h ha hb); rwa [tellH_moved] at this)
theorem swCells_back {cs : List Cel} {a b : Nat} (ha : a < cs.length) (hb : b < cs.length) : swCells (swCells cs a b) a b = cs := by
  apply List.ext_getElem?
  intro i
  rw [swCells_get (by rw [swCells_len]; exact ha) (by rw [swCells_len]; exact hb), swCells_get ha hb, swapN_swapN]
theorem moved_back {t : Tbl} {a b : Nat} (ha : a < t.store.cells.length) (hb : b < t.store.cells.length) : mMoved (mMoved t a b) a b = t := by
  obtain ⟨⟨cs, rs⟩, hs⟩ := t
  unfold mMoved
  simp only
  rw [swCells_back ha hb, List.map_map]
  have e : (swH a b ∘ swH a b) = id := funext fun x => swH_swH a b x
  rw [e, List.map_id]
theorem swCells_a {cs : List Cel} {a b : Nat} (ha : a < cs.length) (hb : b < cs.length) : (swCells cs a b)[a]? = cs[b]? := by
  rw [swCells_get ha hb]
  unfold swapN
  by_cases e : a = b
  · rw [if_pos e, e]
  · rw [if_neg e, if_pos rfl]
/-! ### Packing -/
theorem usedAt_moved {t : Tbl} {a b : Nat} (ha : a < t.store.cells.length) (hb : b < t.store.cells.length) (i : Nat) : usedAt (mMoved t a b) i = usedAt t (swapN a b i) := by
  unfold usedAt
  rw [List.getD_eq_getElem?_getD, List.getD_eq_getElem?_getD]
  show (((swCells t.store.cells a b)[i]?).getD noCel).used = _
  rw [swCells_get ha hb]
theorem firstU_is {t : Tbl} {a b : Nat} (h : firstU t a = some b) : a < b ∧ b < t.store.cells.length ∧ usedAt t b = true := by
  unfold firstU at h
  have h1 := List.mem_range.1 (List.mem_of_find?_eq_some h)
  have h2 := List.find?_some h
  simp only [Bool.and_eq_true, decide_eq_true_eq] at h2
  exact ⟨h2.1, h1, h2.2⟩
theorem firstU_not {t : Tbl} {a : Nat} (h : firstU t a = none) (i : Nat) (hi : a < i) : usedAt t i = false := by
  rcases Nat.lt_or_ge i t.store.cells.length with hl | hl
  · unfold firstU at h
    rw [List.find?_eq_none] at h
    have := h i (List.mem_range.2 hl)
    simpa [hi] using this
  · unfold usedAt
    rw [List.getD_eq_getElem?_getD, List.getElem?_eq_none hl]; rfl
/-- What holds behind k steps. -/
def Packed (t : Tbl) (k : Nat) : Prop := ∀ i, i < k → usedAt t i = true ∨ ∀ j, i < j → usedAt t j = false
theorem packStep_packed {t : Tbl} {a : Nat} (ha : a < t.store.cells.length) (h : Packed t a) : Packed (packStep t a).1 (a + 1) ∧ (usedAt (packStep t a).1 a = true ∨ (packStep t a).2 = 0) ∧ ∀ i, i < a → usedAt (packStep t a).1 i = usedAt t i := by
  unfold packStep
  by_cases hu : usedAt t a = true
  · rw [if_pos hu]
    refine ⟨fun i hi => ?_, .inl hu, fun _ _ => rfl⟩
    rcases Nat.lt_or_ge i a with q | q
    · exact h i q
    · have : i = a := by omega
      rw [this]; exact .inl hu
  · rw [if_neg hu]
    split
    · rename_i b hb
      obtain ⟨h1, h2, h3⟩ := firstU_is hb
      have hm := fun i => usedAt_moved ha h2 i
      have ea : usedAt (mMoved t a b) a = true := by
        rw [hm]; unfold swapN; rw [if_neg (by omega), if_pos rfl]; exact h3
      have ei : ∀ i, i < a → usedAt (mMoved t a b) i = usedAt t i := fun i hi => by
        rw [hm]; unfold swapN; rw [if_neg (by omega), if_neg (by omega)]
      refine ⟨fun i hi => ?_, .inl ea, ei⟩
      rcases Nat.lt_or_ge i a with q | q
      · rcases h i q with k | k
        · exact .inl (by simp only [ei i q]; exact k)
        · have := k b (by omega)
          rw [h3] at this; cases this
      · have : i = a := by omega
        rw [this]; exact .inl ea
    · rename_i hb
      have hn := firstU_not hb
      refine ⟨fun i hi => ?_, .inr rfl, fun _ _ => rfl⟩
      rcases Nat.lt_or_ge i a with q | q
      · exact h i q
      · have : i = a := by omega
        rw [this]; exact .inr fun j hj => hn j hj
theorem packTo_packed (t : Tbl) : ∀ k, k ≤ t.store.cells.length → Packed (packTo t k).1 k ∧ (packTo t k).2 ≤ ((List.range k).filter (usedAt (packTo t k).1)).length
  | 0, _ => ⟨fun i hi => by omega, Nat.zero_le _⟩
  | k + 1, hk => by
    obtain ⟨h1, h2⟩ := packTo_packed t k (by omega)
    have hl := (packTo_len t k).1
    have h3 := (packStep_len (packTo t k).1 k).2.2
    obtain ⟨k1, k2, k3⟩ := packStep_packed (by omega) h1
    refine ⟨k1, ?_⟩
    show (packTo t k).2 + (packStep (packTo t k).1 k).2 ≤ ((List.range (k + 1)).filter (usedAt (packStep (packTo t k).1 k).1)).length
    have e : (List.range k).filter (usedAt (packStep (packTo t k).1 k).1) = (List.range k).filter (usedAt (packTo t k).1) := List.filter_congr fun i hi => by rw [k3 i (List.mem_range.1 hi)]
    rw [List.range_succ, List.filter_append, List.length_append, e]
    rcases k2 with k2 | k2
    · have : ([k].filter (usedAt (packStep (packTo t k).1 k).1)).length = 1 := by simp [k2]
      omega
    · omega
theorem pack_first {t : Tbl} (k : Nat) (hk : usedAt (packTo t t.store.cells.length).1 (k + 1) = true) (hl : k + 1 < t.store.cells.length) : usedAt (packTo t t.store.cells.length).1 k = true := by
  rcases (packTo_packed t _ (Nat.le_refl _)).1 k (by omega) with h | h
  · exact h
  · have := h (k + 1) (by omega)
    rw [hk] at this; cases this
theorem pack_again {x : Tbl} (h : Packed x x.store.cells.length) : ∀ k, k ≤ x.store.cells.length → packTo x k = (x, 0)
  | 0, _ => rfl
  | k + 1, hk => by
    have ih := pack_again h k (by omega)
    have e : packStep x k = (x, 0) := by
      unfold packStep
      rcases h k (by omega) with q | q
      · rw [if_pos q]
      · split
        · rfl
        · rw [firstU_none fun i h1 _ => q i h1]
    show ((packStep (packTo x k).1 k).1, (packTo x k).2 + (packStep (packTo x k).1 k).2) = (x, 0)
    rw [ih]
    show ((packStep x k).1, 0 + (packStep x k).2) = (x, 0)
    rw [e]
    rfl
theorem packTo_view {t : Tbl} (h : mTableValid t = true) : ∀ k, k ≤ t.store.cells.length → mView (tellH (packTo t k).1) = mView (tellH t)
  | 0, _ => rfl
  | k + 1, hk => by
    have ih := packTo_view h k (by omega)
    have hv := packTo_valid h k (by omega)
    have hl := (packTo_len t k).1
    rw [← ih]
    show mView (tellH (packStep (packTo t k).1 k).1) = _
    unfold packStep
    split
    · rfl
    · split
      · rename_i b hb
        obtain ⟨h1, h2, h3⟩ := firstU_is hb
        exact moved_view hv (by omega) h2
      · rfl
theorem used_tell (t : Tbl) (i : Nat) : usedN (tellH t).cells i = usedAt t i := by
  unfold usedAt
  show (((t.store.cells.map (tellC t.hands)).getD i noCel)).used = _
  rw [List.getD_eq_getElem?_getD, List.getD_eq_getElem?_getD, List.getElem?_map]
  cases t.store.cells[i]? <;> rfl
/-- What the law says of a packed table. -/
theorem pack_facts {t : Tbl} (h : mTableValid t = true) : mTableValid (mPackT t) = true ∧ mView (tellH (mPackT t)) = mView (tellH t) ∧ mPackN (mPackT t) = 0 ∧ (∀ k, k + 1 < (mPackT t).store.cells.length → usedAt (mPackT t) (k + 1) = true → usedAt (mPackT t) k = true) ∧ (∃ n : Nat, mPackN t = n ∧ n ≤ ((List.range (mPackT t).store.cells.length).filter (usedN (tellH (mPackT t)).cells)).length) ∧ (mPackT t).store.cells.length = t.store.cells.length := by
  have e1 : mPackT t = (packTo t t.store.cells.length).1 := by unfold mPackT; rw [if_pos h]
  have e2 : mPackN t = ((packTo t t.store.cells.length).2 : Nat) := by unfold mPackN; rw [if_pos h]
  have hl := (packTo_len t t.store.cells.length).1
  have hv := packTo_valid h _ (Nat.le_refl _)
  have hp := packTo_packed t _ (Nat.le_refl _)
  rw [e1]
  refine ⟨hv, packTo_view h _ (Nat.le_refl _), ?_, fun k hk hu => pack_first k hu (by omega), ⟨_, e2, ?_⟩, hl⟩
  · unfold mPackN
    rw [if_pos hv, pack_again (by rw [hl]; exact hp.1) _ (Nat.le_refl _)]; rfl
  · rw [hl, List.filter_congr fun i _ => used_tell _ i]
    exact hp.2
end Go.Proofs.Ytcekohpekpkobaa
