/- Plain laws on programs that run with a limit of cells, with sweeping or with copying: they show what the program without freeing shows; they come to the end exactly if fewer cells than the limit can be reached wherever a cell is made. No program. -/
import Derived.Test.YtjpfgbckmcjjaaaSim
namespace Go.Proofs.Ytjpfgbckmcjjaaa
open Go.RowKit
/-! ### The first free place -/
def mFree (h : Hp) : Nat := h.cells.findIdx fun c => !c.used
theorem mFree_le (h : Hp) : mFree h ≤ h.cells.length := List.findIdx_le_length
theorem mFree_not (h : Hp) : usedN h.cells (mFree h) = false := by
  rw [usedN_def, List.getD_eq_getElem?_getD]
  rcases Nat.lt_or_ge (mFree h) h.cells.length with q | q
  · rw [List.getElem?_eq_getElem q]
    have := List.findIdx_getElem (p := fun c : Cel => !c.used) (xs := h.cells) (w := q)
    simp only [Bool.not_eq_true'] at this
    exact this
  · rw [List.getElem?_eq_none q]; rfl
theorem mFree_before {h : Hp} {i : Nat} (hi : i < mFree h) : usedN h.cells i = true := by
  have hl : i < h.cells.length := by have := mFree_le h; omega
  rw [usedN_def, List.getD_eq_getElem?_getD, List.getElem?_eq_getElem hl]
  have := List.not_of_lt_findIdx (p := fun c : Cel => !c.used) (xs := h.cells) hi
  simpa using this
/-! ### A step, and a run -/
noncomputable def stepSw (h : Hp) (L : Nat) (o : Cmd) : Hp × Bool :=
  if possB h o then
    if o.op = 1 then
      if mFree h < L then (mDo h o (mFree h), true)
      else if mFree (mCollect h) < L then (mDo (mCollect h) o (mFree (mCollect h)), true) else (mCollect h, false)
    else (mDo h o 0, true)
  else (h, false)
noncomputable def runSw (L : Nat) : Hp → List Cmd → Hp × Bool
  | h, [] => (h, true)
  | h, o :: os => if (stepSw h L o).2 = false ∧ o.op = 1 then ((stepSw h L o).1, false) else runSw L (stepSw h L o).1 os
theorem mDo_len {h : Hp} {o : Cmd} {p : Nat} (hp : p ≤ h.cells.length) : (mDo h o p).cells.length ≤ h.cells.length + 1 ∧ (o.op ≠ 1 → (mDo h o p).cells.length = h.cells.length) ∧ (p < h.cells.length → (mDo h o p).cells.length = h.cells.length) := by
  unfold mDo
  by_cases h1 : o.op = 1
  · rw [if_pos h1]
    obtain ⟨k1, k2, k3⟩ := putCel_len (newCel o) hp
    exact ⟨k1, fun k => absurd h1 k, k3⟩
  · rw [if_neg h1]
    have key : ∀ x : Hp, x.cells.length = h.cells.length → x.cells.length ≤ h.cells.length + 1 ∧ (o.op ≠ 1 → x.cells.length = h.cells.length) ∧ (p < h.cells.length → x.cells.length = h.cells.length) := fun x e => ⟨by omega, fun _ => e, fun _ => e⟩
    split
    · exact key _ rfl
    split
    · exact key _ (by simp)
    split
    · exact key _ rfl
    split
    · exact key _ rfl
    split
    · exact key _ (by simp)
    · exact key _ rfl
theorem usedN_end (cs : List Cel) : usedN cs cs.length = false := by
  rw [usedN_def, List.getD_eq_getElem?_getD, List.getElem?_eq_none (Nat.le_refl _)]; rfl
theorem poss_new {h : Hp} {o : Cmd} (h1 : o.op = 1) : possB h o = true := by
  unfold possB
  simp [h1]
theorem mStep_is {h : Hp} {o : Cmd} (g : Good h) (hc : cmdOk o = true) (hl : h.cells.length < 40) : mStep h o = if possB h o then mDo h o h.cells.length else h := by
  have e : stepOk h o = possB h o := by
    unfold stepOk
    rw [decide_eq_false (by omega : ¬ h.cells.length = 40)]
    simp
  unfold mStep
  rw [good_iff.2 g, hc, e]
  simp
theorem mStep_len {h : Hp} {o : Cmd} : (mStep h o).cells.length ≤ h.cells.length + 1 := by
  unfold mStep
  split
  · split
    · exact (mDo_len (Nat.le_refl _)).1
    · omega
  · simp
theorem run_len : ∀ (os : List Cmd) (h : Hp), (os.foldl mStep h).cells.length ≤ h.cells.length + os.length
  | [], h => by simp
  | o :: os, h => by
    have h1 := run_len os (mStep h o)
    have h2 := mStep_len (h := h) (o := o)
    simp only [List.foldl_cons, List.length_cons]
    omega
theorem collect_used {h : Hp} (h0 : heapOk h = true) {i : Nat} (hu : usedN (mCollect h).cells i = true) : reachB (mCollect h).cells (mCollect h).roots i = true := by
  have K := keeps_reach h0
  have hi : i < h.cells.length := by
    have := usedN_lt hu
    rwa [collect_eq h0, sweep_len] at this
  have hm : atB (mReachable h) i = true := by
    cases hb : atB (mReachable h) i
    · rw [collect_eq h0, usedN_def, List.getD_eq_getElem?_getD, sweep_gone K hi hb] at hu
      simp [noCel] at hu
    · rfl
  have hr : reachB h.cells h.roots i = true := by
    rw [mReachable_yes h0, atB_at (reachL_at hi)] at hm
    exact hm
  have := (collect_sim h0).rch' (c := (i : Int)) ⟨by omega, by rw [Int.toNat_natCast]; exact hr⟩
  have h2 := this.2
  rwa [id, Int.toNat_natCast] at h2
theorem collect_len' {h : Hp} (h0 : heapOk h = true) : (mCollect h).cells.length = h.cells.length := by rw [collect_eq h0, sweep_len]
theorem stepSw_sim {L : Nat} (hL : L ≤ 40) {h0 h : Hp} {R : Int → Prop} {f : Int → Int} {o : Cmd} (g0 : Good h0) (g : Good h) (s : Sim h0 h R f) (hl : h.cells.length ≤ L) (hc : cmdOk o = true) (h40 : h0.cells.length < 40) :
    Good (stepSw h L o).1 ∧ (stepSw h L o).1.cells.length ≤ L ∧ (¬ ((stepSw h L o).2 = false ∧ o.op = 1) → ∃ R' f', Sim (mStep h0 o) (stepSw h L o).1 R' f') ∧ (((stepSw h L o).2 = false ∧ o.op = 1) ↔ (o.op = 1 ∧ L ≤ liveN h0)) := by
  have hok := good_iff.2 g
  have hok0 := good_iff.2 g0
  rw [mStep_is g0 hc h40]
  have hp := s.poss o
  unfold stepSw
  cases hpb : possB h o
  · have h1 : o.op ≠ 1 := fun e => by rw [poss_new e] at hpb; cases hpb
    rw [hpb] at hp
    rw [← hp]
    refine ⟨by simpa using g, by simpa using hl, fun _ => ⟨R, f, by simpa using s⟩, ?_⟩
    simp [h1]
  · rw [hpb] at hp
    rw [← hp]
    simp only [if_true]
    by_cases h1 : o.op = 1
    · simp only [h1, if_true]
      have new : ∀ (x : Hp) (R : Int → Prop) (f : Int → Int), Good x → Sim h0 x R f → x.cells.length ≤ L → mFree x < L → Good (mDo x o (mFree x)) ∧ (mDo x o (mFree x)).cells.length ≤ L ∧ (∃ R' f', Sim (mDo h0 o h0.cells.length) (mDo x o (mFree x)) R' f') ∧ ¬ L ≤ liveN h0 := fun x R f gx sx hlx hf => by
        have hd := mDo_len (o := o) (mFree_le x)
        refine ⟨mDo_good gx hc (poss_new h1) (mFree_le x) fun _ => by omega, ?_, sx.step hp.symm fun _ => ⟨Nat.le_refl _, mFree_le x, usedN_end _, mFree_not x⟩, ?_⟩
        · rcases Nat.lt_or_ge (mFree x) x.cells.length with q | q
          · have := hd.2.2 q; omega
          · have := mFree_le x; omega
        · have h2 := live_free (good_iff.2 gx) hlx hf (mFree_not x)
          rw [← sx.toIso.live]; omega
      by_cases hf : mFree h < L
      · obtain ⟨k1, k2, k3, k4⟩ := new h R f g s hl hf
        simp only [hf, if_true]
        exact ⟨k1, k2, fun _ => k3, by simp; omega⟩
      · simp only [hf, if_false]
        have gx := mCollect_good g
        have sx := s.trans (collect_sim hok) hok0
        have hlx := collect_len' hok
        by_cases hf2 : mFree (mCollect h) < L
        · obtain ⟨k1, k2, k3, k4⟩ := new _ _ _ gx sx (by omega) hf2
          simp only [hf2, if_true]
          exact ⟨k1, k2, fun _ => k3, by simp; omega⟩
        · simp only [hf2, if_false]
          refine ⟨gx, by omega, fun k => absurd ⟨trivial, trivial⟩ k, ?_⟩
          have h2 := live_full (good_iff.2 gx) (L := L) fun i hi => collect_used hok (mFree_before (by omega))
          rw [sx.toIso.live] at h2
          simp [h2]
    · simp only [h1, if_false]
      refine ⟨mDo_good g hc hpb (Nat.zero_le _) fun k => absurd k h1, by rw [(mDo_len (Nat.zero_le _)).2.1 h1]; exact hl, fun _ => s.step hp.symm fun k => absurd k h1, by simp⟩
/-- When a run with a limit comes to its end: fewer cells than the limit can be reached wherever a cell is made. -/
def Fits (L : Nat) (h0 : Hp) (os : List Cmd) : Prop := ∀ (i : Nat) (o : Cmd), os[i]? = some o → o.op = 1 → liveN ((os.take i).foldl mStep h0) < L
theorem fits_cons {L : Nat} {h0 : Hp} {o : Cmd} {os : List Cmd} : Fits L h0 (o :: os) ↔ (o.op = 1 → liveN h0 < L) ∧ Fits L (mStep h0 o) os := by
  constructor
  · intro h
    exact ⟨fun h1 => h 0 o rfl h1, fun i p hp h1 => h (i + 1) p (by simpa using hp) h1⟩
  · rintro ⟨h1, h2⟩ i p hp hq
    cases i with
    | zero =>
      simp only [List.getElem?_cons_zero, Option.some.injEq] at hp
      subst hp
      exact h1 hq
    | succ i => exact h2 i p (by simpa using hp) hq
theorem runSw_sim {L : Nat} (hL : L ≤ 40) : ∀ (os : List Cmd) (h0 h : Hp) (R : Int → Prop) (f : Int → Int), Good h0 → Good h → Sim h0 h R f → h.cells.length ≤ L → (∀ o ∈ os, cmdOk o = true) → h0.cells.length + os.length ≤ 40 →
    Good (runSw L h os).1 ∧ (runSw L h os).1.cells.length ≤ L ∧ ((runSw L h os).2 = true → ∃ R' f', Sim (os.foldl mStep h0) (runSw L h os).1 R' f') ∧ ((runSw L h os).2 = true ↔ Fits L h0 os)
  | [], h0, h, R, f, g0, g, s, hl, _, _ => ⟨g, hl, fun _ => ⟨R, f, s⟩, ⟨fun _ i o ho => by simp at ho, fun _ => rfl⟩⟩
  | o :: os, h0, h, R, f, g0, g, s, hl, hc, h40 => by
    simp only [List.length_cons] at h40
    have hco := hc o (by simp)
    obtain ⟨k1, k2, k3, k4⟩ := stepSw_sim hL g0 g s hl hco (by omega)
    rw [fits_cons]
    simp only [runSw]
    by_cases hx : (stepSw h L o).2 = false ∧ o.op = 1
    · rw [if_pos hx]
      refine ⟨k1, k2, fun k => by simp at k, ⟨fun k => by simp at k, fun k => ?_⟩⟩
      have := k4.1 hx
      have := k.1 hx.2
      omega
    · rw [if_neg hx]
      obtain ⟨R', f', s'⟩ := k3 hx
      have hlen := mStep_len (h := h0) (o := o)
      obtain ⟨j1, j2, j3, j4⟩ := runSw_sim hL os (mStep h0 o) (stepSw h L o).1 R' f' (mStep_good g0 hco) k1 s' k2 (fun p hp => hc p (by simp [hp])) (by omega)
      refine ⟨j1, j2, j3, j4.trans ⟨fun k => ⟨fun h1 => ?_, k⟩, fun k => k.2⟩⟩
      rcases Nat.lt_or_ge (liveN h0) L with q | q
      · exact q
      · exact absurd (k4.2 ⟨h1, q⟩) hx
/-! ### Peaks -/
noncomputable def liveAt (cs : List Cmd) (k : Nat) : Nat := liveN (runTo (cs.take k))
noncomputable def peakTo (cs : List Cmd) : Nat → Nat
  | 0 => 0
  | k + 1 => max (peakTo cs k) (liveAt cs (k + 1))
theorem ordH_empty : ordH emptyH = [] := by
  have h := ordH_len (good_iff.2 emptyH_good)
  exact List.length_eq_zero_iff.1 (by simpa [emptyH] using h)
theorem liveAt_zero (cs : List Cmd) : liveAt cs 0 = 0 := by
  unfold liveAt liveN
  rw [List.take_zero]
  show (ordH emptyH).length = 0
  rw [ordH_empty]; rfl
theorem le_peak (cs : List Cmd) {k : Nat} : ∀ {n : Nat}, k ≤ n → liveAt cs k ≤ peakTo cs n
  | 0, h => by
    have : k = 0 := by omega
    rw [this, liveAt_zero]; omega
  | n + 1, h => by
    rcases Nat.lt_or_ge n k with q | q
    · have : k = n + 1 := by omega
      rw [this]; exact Nat.le_max_right _ _
    · exact Nat.le_trans (le_peak cs q) (Nat.le_max_left _ _)
theorem peak_le (cs : List Cmd) {b : Nat} : ∀ {n : Nat}, (∀ k, k ≤ n → liveAt cs k ≤ b) → peakTo cs n ≤ b
  | 0, _ => Nat.zero_le _
  | n + 1, h => Nat.max_le.2 ⟨peak_le cs fun k hk => h k (by omega), h _ (Nat.le_refl _)⟩
theorem cmdsOk_iff {cs : List Cmd} : cmdsOk cs = true ↔ (∀ o ∈ cs, cmdOk o = true) ∧ cs.length ≤ 40 := by
  simp [cmdsOk, List.all_eq_true]
theorem runTo_ok {cs : List Cmd} (hc : ∀ o ∈ cs, cmdOk o = true) (k : Nat) : Good (runTo (cs.take k)) := runTo_good _ fun o ho => hc o (List.mem_of_mem_take ho)
theorem liveAt_le {cs : List Cmd} (hc : ∀ o ∈ cs, cmdOk o = true) (k : Nat) : liveAt cs k ≤ k ∧ liveAt cs k ≤ cs.length := by
  have h1 := live_le (good_iff.2 (runTo_ok hc k))
  have h2 := run_len (cs.take k) emptyH
  rw [List.length_take] at h2
  have h3 : (emptyH).cells.length = 0 := rfl
  unfold liveAt
  unfold runTo at h1 ⊢
  omega
theorem peakTo_take (cs : List Cmd) (m : Nat) : ∀ n, n ≤ m → peakTo (cs.take m) n = peakTo cs n
  | 0, _ => rfl
  | n + 1, h => by
    rw [peakTo, peakTo, peakTo_take cs m n (by omega)]
    unfold liveAt
    rw [List.take_take, show min (n + 1) m = n + 1 by omega]
/-! ### Runs with sweeping, from the empty heap -/
noncomputable def mRunSwH (cs : List Cmd) (L : Int) : Hp := if cmdsOk cs && inR L 1 40 then (runSw L.toNat emptyH cs).1 else ⟨[], []⟩
noncomputable def mRunSwB (cs : List Cmd) (L : Int) : Bool := cmdsOk cs && inR L 1 40 && (runSw L.toNat emptyH cs).2
section
variable {cs : List Cmd} {L : Nat}
theorem runSw_facts (hc : cmdsOk cs = true) (hL : L ≤ 40) : Good (runSw L emptyH cs).1 ∧ (runSw L emptyH cs).1.cells.length ≤ L ∧ ((runSw L emptyH cs).2 = true → ∃ R' f', Sim (mRun cs) (runSw L emptyH cs).1 R' f') ∧ ((runSw L emptyH cs).2 = true ↔ Fits L emptyH cs) := by
  obtain ⟨h1, h2⟩ := cmdsOk_iff.1 hc
  have e : mRun cs = cs.foldl mStep emptyH := by unfold mRun; rw [if_pos hc]; rfl
  rw [e]
  exact runSw_sim hL cs emptyH emptyH _ _ emptyH_good emptyH_good (sim_refl (good_iff.2 emptyH_good)) (Nat.zero_le _) h1 (by show 0 + cs.length ≤ 40; omega)
theorem fits_live (i : Nat) : liveN ((cs.take i).foldl mStep emptyH) = liveAt cs i := rfl
theorem fits_more {L' : Nat} (h : Fits L emptyH cs) (hl : L ≤ L') : Fits L' emptyH cs := fun i o ho h1 => Nat.lt_of_lt_of_le (h i o ho h1) hl
theorem fits_peak (h : peakTo cs cs.length < L) : Fits L emptyH cs := fun i o ho _ => by
  have hi := (List.getElem?_eq_some_iff.1 ho).1
  have := le_peak cs (k := i) (n := cs.length) (by omega)
  show liveAt cs i < L
  omega
theorem fits_40 (hc : cmdsOk cs = true) : Fits 40 emptyH cs := fun i o ho _ => by
  obtain ⟨h1, h2⟩ := cmdsOk_iff.1 hc
  have hi := (List.getElem?_eq_some_iff.1 ho).1
  have := (liveAt_le h1 i).1
  show liveAt cs i < 40
  omega
theorem fits_not (h : ¬ Fits L emptyH cs) : L ≤ peakTo cs cs.length := by
  rcases Nat.lt_or_ge (peakTo cs cs.length) L with q | q
  · exact absurd (fits_peak q) h
  · exact q
theorem run_ok (hc : cmdsOk cs = true) : heapOk (mRun cs) = true := by
  have e : mRun cs = runTo cs := by unfold mRun; rw [if_pos hc]
  rw [e]
  exact good_iff.2 (runTo_good cs (cmdsOk_iff.1 hc).1)
theorem runSw_view (hc : cmdsOk cs = true) (hL : L ≤ 40) (h : (runSw L emptyH cs).2 = true) : mView (runSw L emptyH cs).1 = mView (mRun cs) := by
  obtain ⟨h1, -, h3, -⟩ := runSw_facts hc hL
  obtain ⟨R, f, s⟩ := h3 h
  exact view_same s.toIso (run_ok hc) (good_iff.2 h1)
theorem runSw_end (hc : cmdsOk cs = true) (hL : L ≤ 40) : (runSw L emptyH cs).2 = true ↔ Fits L emptyH cs := (runSw_facts hc hL).2.2.2
end
end Go.Proofs.Ytjpfgbckmcjjaaa
