/- Plain laws on sweeping by marks that keep what they lead to: the heap stays valid, and a program sees the same. No program. -/
import Derived.Test.YtjpfgbckmcjjaaaZ1
import Derived.Test.YtjpfgbckmcjjaaaSw
namespace Go.Proofs.Ytjpfgbckmcjjaaa
open Go.RowKit
/-- Marks that hold the roots' cells, and with each cell all to which it refers. -/
structure Keeps (h : Hp) (ms : List Bool) : Prop where
  len : ms.length = h.cells.length
  root : ∀ r ∈ h.roots, 0 ≤ r → atB ms r.toNat = true
  ref : ∀ (k : Nat) (l : Cel), h.cells[k]? = some l → atB ms k = true → ∀ r ∈ l.refs, 0 ≤ r → atB ms r.toNat = true
theorem atB_at {ms : List Bool} {i : Nat} {b : Bool} (h : ms[i]? = some b) : atB ms i = b := by
  unfold atB
  rw [List.getD_eq_getElem?_getD, h]; rfl
theorem atB_dead {ms : List Bool} {i : Nat} (hi : i < ms.length) : atB (deadL ms) i = !atB ms i := by
  unfold atB deadL
  rw [List.getD_eq_getElem?_getD, List.getD_eq_getElem?_getD, List.getElem?_map, List.getElem?_eq_getElem hi]; rfl
theorem Keeps.rch {h : Hp} {ms : List Bool} (K : Keeps h ms) {S : Nat → Bool} {c : Nat} (hr : Rch h.cells S h.roots c) : atB ms c = true := by
  induction hr with
  | base h1 h2 _ => exact K.root _ h1 h2
  | step _ h1 h2 h3 _ ih => exact K.ref _ _ h1 ih _ h2 h3
theorem reachL_from {h : Hp} {fr : List Int} (h0 : heapOk h = true) (hf : ∀ r ∈ h.roots, r ∈ fr) : Keeps h (reachL h.cells fr) := by
  have key : ∀ r : Int, usedN h.cells r.toNat = true → reachB h.cells fr r.toNat = true → atB (reachL h.cells fr) r.toNat = true := fun r hu hb => by
    rw [atB_at (reachL_at (usedN_lt hu)), hb]
  refine ⟨reachL_length _ _, fun r hr hp => ?_, fun k l hl hk r hr hp => ?_⟩
  · have hu := leadsB_used ((heapOk_leads h0).1 r hr) hp
    refine key r hu ?_
    simp only [reachB, decide_eq_true_eq]
    exact .base (hf r hr) hp hu
  · have hu := leadsB_used ((heapOk_leads h0).2 k l hl r hr) hp
    refine key r hu ?_
    rw [atB_at (reachL_at (List.getElem?_eq_some_iff.1 hl).1)] at hk
    simp only [reachB, decide_eq_true_eq] at hk ⊢
    exact .step hk hl hr hp hu
theorem sweep_cel {h : Hp} {ms : List Bool} (K : Keeps h ms) {i : Nat} (hm : atB ms i = true) : (mDrop h (deadL ms)).cells[i]? = h.cells[i]? := by
  show (wipeP _ _ _)[i]? = _
  rw [wipeP_get]
  by_cases hi : i < h.cells.length
  · rw [if_pos hi, atB_dead (by rw [K.len]; exact hi), hm, List.getD_eq_getElem?_getD, List.getElem?_eq_getElem hi]; simp
  · rw [if_neg hi, List.getElem?_eq_none (by omega)]
theorem sweep_gone {h : Hp} {ms : List Bool} (K : Keeps h ms) {i : Nat} (hi : i < h.cells.length) (hm : atB ms i = false) : (mDrop h (deadL ms)).cells[i]? = some noCel := by
  show (wipeP _ _ _)[i]? = _
  rw [wipeP_get, if_pos hi, atB_dead (by rw [K.len]; exact hi), hm]
  simp [hi]
theorem sweep_len (h : Hp) (ds : List Bool) : (mDrop h ds).cells.length = h.cells.length := by simp [mDrop, wipeP_len]
theorem sweep_used {h : Hp} {ms : List Bool} (K : Keeps h ms) {i : Nat} (hm : atB ms i = true) : usedN (mDrop h (deadL ms)).cells i = usedN h.cells i := by
  rw [usedN_def, usedN_def, List.getD_eq_getElem?_getD, List.getD_eq_getElem?_getD, sweep_cel K hm]
theorem Keeps.ok {h : Hp} {ms : List Bool} (K : Keeps h ms) (h0 : heapOk h = true) : sweepOk h ms = true := by
  have g := good_iff.1 h0
  unfold sweepOk
  rw [h0, decide_eq_true K.len]
  simp only [Bool.and_self, Bool.true_and]
  rw [good_iff]
  have key : ∀ r, leadsB h.cells r = true → (0 ≤ r → atB ms r.toNat = true) → leadsB (mDrop h (deadL ms)).cells r = true := fun r hr h1 => by
    rcases leadsB_iff.1 hr with e | ⟨hp, hu⟩
    · rw [e]; exact leadsB_nil _
    · rw [leadsB_iff]
      exact .inr ⟨hp, by rw [sweep_used K (h1 hp)]; exact hu⟩
  refine ⟨by rw [sweep_len]; exact g.len, g.roots, fun c hc => ?_, fun r hr => key r (g.lead r hr) (K.root r hr)⟩
  obtain ⟨i, hi⟩ := List.getElem?_of_mem hc
  have hl : i < h.cells.length := by have := (List.getElem?_eq_some_iff.1 hi).1; rwa [sweep_len] at this
  cases hm : atB ms i
  · rw [sweep_gone K hl hm] at hi
    injection hi with hi
    rw [← hi]; rfl
  · rw [sweep_cel K hm] at hi
    have hok := g.cell c (List.mem_of_getElem? hi)
    rw [cellOk_iff] at hok ⊢
    rcases hok with ⟨k1, k2, k3⟩ | hok
    · exact .inl ⟨k1, fun r hr => key r (k2 r hr) (K.ref i c hi hm r hr), k3⟩
    · exact .inr hok
theorem Keeps.heap {h : Hp} {ms : List Bool} (K : Keeps h ms) (h0 : heapOk h = true) : heapOk (mDrop h (deadL ms)) = true := by
  have := K.ok h0
  unfold sweepOk at this
  simp only [Bool.and_eq_true] at this
  exact this.2
theorem Keeps.iso {h : Hp} {ms : List Bool} (K : Keeps h ms) (h0 : heapOk h = true) : Iso h (mDrop h (deadL ms)) (RchI h) id := by
  have hc : ∀ c, RchI h c → cel (mDrop h (deadL ms)).cells (id c) = cel h.cells c := fun c hc => by
    have h1 := hc.2
    simp only [reachB, decide_eq_true_eq] at h1
    unfold cel
    rw [List.getD_eq_getElem?_getD, List.getD_eq_getElem?_getD, id, sweep_cel K (K.rch h1)]
  exact ⟨rchI_root h0, rchI_ref h0, fun c hc => ⟨hc.1, hc.1⟩, fun a b _ _ e => e, (map_up_id _).symm, fun c k => by rw [hc c k], fun c k => by rw [hc c k, map_up_id]⟩
theorem Keeps.view {h : Hp} {ms : List Bool} (K : Keeps h ms) (h0 : heapOk h = true) : mView (mDrop h (deadL ms)) = mView h := view_same (K.iso h0) h0 (K.heap h0)
theorem keeps_reach {h : Hp} (h0 : heapOk h = true) : Keeps h (mReachable h) := by
  rw [mReachable_yes h0]
  exact reachL_from h0 fun _ hr => hr
theorem collect_eq {h : Hp} (h0 : heapOk h = true) : mCollect h = mDrop h (deadL (mReachable h)) := by
  unfold mCollect
  exact (mSweep_yes ((keeps_reach h0).ok h0)).1
theorem collect_ok {h : Hp} (h0 : heapOk h = true) : heapOk (mCollect h) = true := by
  rw [collect_eq h0]
  exact (keeps_reach h0).heap h0
theorem collect_view {h : Hp} (h0 : heapOk h = true) : mView (mCollect h) = mView h := by
  rw [collect_eq h0]
  exact (keeps_reach h0).view h0
end Go.Proofs.Ytjpfgbckmcjjaaa
