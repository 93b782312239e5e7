/- Plain laws on heaps gathered anew in an order: a program sees the same of them; runs with a limit that gather when need be. No program. -/
import Derived.Test.YtdkpfggfkhnjfaaZ3
namespace Go.Proofs.Ytdkpfggfkhnjfaa
open Go.RowKit
theorem idx_get : ∀ (o : List Int) (r : Int), r ∈ o → o[o.idxOf r]? = some r
  | [], r, h => by simp at h
  | a :: o, r, h => by
    rw [List.idxOf_cons]
    by_cases e : a = r
    · rw [e]; simp
    · rw [beq_eq_false_iff_ne.2 e]
      have hm : r ∈ o := by
        rcases List.mem_cons.1 h with h | h
        · exact absurd h.symm e
        · exact h
      simpa using idx_get o r hm
theorem nameI_in {o : List Int} {r : Int} (h : r ∈ o) : 0 ≤ nameI o r ∧ (nameI o r).toNat < o.length ∧ o[(nameI o r).toNat]? = some r := by
  unfold nameI
  rw [if_pos h, Int.toNat_natCast]
  have := idx_get o r h
  exact ⟨by omega, (List.getElem?_eq_some_iff.1 this).1, this⟩
theorem nameI_out {o : List Int} {r : Int} (h : r ∉ o) : nameI o r = -1 := by unfold nameI; rw [if_neg h]
theorem nameI_inj {o : List Int} {a b : Int} (ha : a ∈ o) (hb : b ∈ o) (h : nameI o a = nameI o b) : a = b := by
  have h1 := (nameI_in ha).2.2
  have h2 := (nameI_in hb).2.2
  rw [h, h2] at h1
  injection h1 with h1
  exact h1.symm
def copyCel (h : Hp) (o : List Int) (c : Int) : Cel := ⟨true, (cel h.cells c).data, (cel h.cells c).refs.map (nameI o)⟩
def gath (h : Hp) (o : List Int) : Hp := ⟨o.map (copyCel h o), h.roots.map (nameI o)⟩
noncomputable def mCopy (h : Hp) : Hp := if heapOk h then gath h (ordH h) else ⟨[], []⟩
theorem mCopy_yes {h : Hp} (h0 : heapOk h = true) : mCopy h = gath h (ordH h) := by simp [mCopy, h0]
section
variable {h : Hp} {o : List Int}
theorem name_up (hm : ∀ c, c ∈ o ↔ RchI h c) {rs : List Int} (h1 : ∀ r ∈ rs, leadsB h.cells r = true) : rs.map (nameI o) = rs.map (up (nameI o)) := by
  refine List.map_congr_left fun r hr => ?_
  rcases leadsB_iff.1 (h1 r hr) with e | ⟨hp, -⟩
  · rw [up_neg (by omega), nameI_out, e]
    intro k
    have := ((hm r).1 k).1
    omega
  · rw [up_pos hp]
theorem gath_cel {c : Int} (hc : c ∈ o) : cel (gath h o).cells (nameI o c) = copyCel h o c := by
  unfold cel
  rw [List.getD_eq_getElem?_getD]
  show ((o.map (copyCel h o))[(nameI o c).toNat]?).getD noCel = _
  rw [List.getElem?_map, (nameI_in hc).2.2]; rfl
theorem rchI_cel (h0 : heapOk h = true) {c : Int} (hc : RchI h c) : (cel h.cells c).used = true ∧ cellOk h.cells (cel h.cells c) = true := by
  have hu := rchI_used hc
  refine ⟨hu, ?_⟩
  have hl := usedN_lt hu
  have hg := good_iff.1 h0
  refine hg.cell _ ?_
  unfold cel
  rw [List.getD_eq_getElem?_getD, List.getElem?_eq_getElem hl]
  exact List.getElem_mem hl
theorem cell_leads (h0 : heapOk h = true) (c : Int) : ∀ r ∈ (cel h.cells c).refs, leadsB h.cells r = true := fun r hr => by
  obtain ⟨l, hl, hm, -⟩ := cel_refs hr
  exact (heapOk_leads h0).2 _ l hl r hm
theorem gath_sim (h0 : heapOk h = true) (hm : ∀ c, c ∈ o ↔ RchI h c) : Sim h (gath h o) (RchI h) (nameI o) := by
  have key : ∀ c, RchI h c → cel (gath h o).cells (nameI o c) = copyCel h o c := fun c hc => gath_cel ((hm c).2 hc)
  refine { root := rchI_root h0, ref := rchI_ref h0, pos := fun c hc => ⟨hc.1, (nameI_in ((hm c).2 hc)).1⟩, inj := fun a b ha hb e => nameI_inj ((hm a).2 ha) ((hm b).2 hb) e, roots := name_up hm (heapOk_leads h0).1, data := fun c hc => ?_, refs := fun c hc => ?_, use := fun c hc => rchI_used hc, use' := fun c hc => ?_ }
  · rw [key c hc]; rfl
  · rw [key c hc]
    exact name_up hm (cell_leads h0 c)
  · rw [usedN_cel, key c hc]; rfl
theorem gath_ok (h0 : heapOk h = true) (hl : o.length ≤ 40) (hm : ∀ c, c ∈ o ↔ RchI h c) : heapOk (gath h o) = true := by
  have g := good_iff.1 h0
  have lead : ∀ r, leadsB h.cells r = true → (0 ≤ r → r ∈ o) → leadsB (gath h o).cells (nameI o r) = true := fun r hr hro => by
    rcases leadsB_iff.1 hr with e | ⟨hp, -⟩
    · rw [nameI_out]
      · exact leadsB_nil _
      · intro k
        have := ((hm r).1 k).1
        omega
    · rw [leadsB_iff]
      refine .inr ⟨(nameI_in (hro hp)).1, ?_⟩
      rw [usedN_cel, gath_cel (hro hp)]; rfl
  rw [good_iff]
  refine ⟨by simpa [gath] using hl, by simpa [gath] using g.roots, fun c hc => ?_, fun r hr => ?_⟩
  · obtain ⟨x, hx, rfl⟩ := List.mem_map.1 hc
    have hxr := (hm x).1 hx
    obtain ⟨k1, k2⟩ := rchI_cel h0 hxr
    rw [cellOk_iff] at k2 ⊢
    rcases k2 with ⟨-, q2, q3, q4, q5⟩ | ⟨q, -⟩
    · refine .inl ⟨rfl, fun r hr => ?_, q3, q4, by simpa [copyCel] using q5⟩
      obtain ⟨y, hy, rfl⟩ := List.mem_map.1 hr
      exact lead y (q2 y hy) fun hp => (hm y).2 (rchI_ref h0 x hxr y hy hp)
    · rw [k1] at q; cases q
  · obtain ⟨y, hy, rfl⟩ := List.mem_map.1 hr
    exact lead y (g.lead y hy) fun hp => (hm y).2 (rchI_root h0 y hy hp)
end
theorem copy_ok {h : Hp} (h0 : heapOk h = true) : heapOk (mCopy h) = true := by
  rw [mCopy_yes h0]
  refine gath_ok h0 ?_ fun c => mem_ordH h0
  have := ordH_len h0
  have := (heapOk_small h0).1
  omega
theorem copy_sim {h : Hp} (h0 : heapOk h = true) : Sim h (mCopy h) (RchI h) (nameI (ordH h)) := by
  rw [mCopy_yes h0]
  exact gath_sim h0 fun c => mem_ordH h0
theorem copy_len {h : Hp} (h0 : heapOk h = true) : (mCopy h).cells.length = liveN h := by
  rw [mCopy_yes h0]
  simp [gath, liveN]
theorem copy_view {h : Hp} (h0 : heapOk h = true) : mView (mCopy h) = mView h := view_same (copy_sim h0).toIso h0 (copy_ok h0)
/-! ### Runs that gather -/
def runCp (mv : Hp → Hp) (L : Nat) : Hp → List Cmd → Hp × Bool
  | h, [] => (h, true)
  | h, o :: os => if o.op = 1 ∧ L ≤ h.cells.length then (if L ≤ (mv h).cells.length then (mv h, false) else runCp mv L (mStep (mv h) o) os) else runCp mv L (mStep h o) os
structure Mover (mv : Hp → Hp) : Prop where
  ok : ∀ h, heapOk h = true → heapOk (mv h) = true
  sim : ∀ h, heapOk h = true → ∃ g, Sim h (mv h) (RchI h) g
  len : ∀ h, heapOk h = true → (mv h).cells.length = liveN h
theorem copy_mover : Mover mCopy := ⟨fun _ h0 => copy_ok h0, fun _ h0 => ⟨_, copy_sim h0⟩, fun _ h0 => copy_len h0⟩
theorem mStep_is' {h : Hp} {o : Cmd} (g : Good h) (hc : cmdOk o = true) (hl : o.op = 1 → h.cells.length < 40) : mStep h o = if possB h o then mDo h o h.cells.length else h := by
  by_cases h1 : o.op = 1
  · exact mStep_is g hc (hl h1)
  · have e : stepOk h o = possB h o := by
      unfold stepOk
      rw [decide_eq_false h1]
      simp
    unfold mStep
    rw [good_iff.2 g, hc, e]
    simp
theorem step_sim {h0 h : Hp} {R : Int → Prop} {f : Int → Int} {o : Cmd} (g0 : Good h0) (g : Good h) (s : Sim h0 h R f) (hc : cmdOk o = true) (h40 : h0.cells.length < 40) (hl : o.op = 1 → h.cells.length < 40) : (∃ R' f', Sim (mStep h0 o) (mStep h o) R' f') ∧ Good (mStep h o) ∧ (o.op ≠ 1 → (mStep h o).cells.length = h.cells.length) := by
  refine ⟨?_, mStep_good g hc, fun h1 => ?_⟩
  · rw [mStep_is g0 hc h40, mStep_is' g hc hl]
    have hp := s.poss o
    cases hpb : possB h o
    · rw [hpb] at hp
      rw [← hp]
      exact ⟨R, f, by simpa using s⟩
    · rw [hpb] at hp
      rw [← hp]
      simp only [if_true]
      exact s.step hp.symm fun _ => ⟨Nat.le_refl _, Nat.le_refl _, usedN_end _, usedN_end _⟩
  · rw [mStep_is' g hc hl]
    split
    · exact (mDo_len (Nat.le_refl _)).2.1 h1
    · rfl
theorem runCp_sim {mv : Hp → Hp} (M : Mover mv) {L : Nat} (hL : L ≤ 40) : ∀ (os : List Cmd) (h0 h : Hp) (R : Int → Prop) (f : Int → Int), Good h0 → Good h → Sim h0 h R f → h.cells.length ≤ L → (∀ o ∈ os, cmdOk o = true) → h0.cells.length + os.length ≤ 40 →
    Good (runCp mv L h os).1 ∧ (runCp mv L h os).1.cells.length ≤ L ∧ ((runCp mv L h os).2 = true → ∃ R' f', Sim (os.foldl mStep h0) (runCp mv L h os).1 R' f') ∧ ((runCp mv L h os).2 = true ↔ Fits L h0 os)
  | [], h0, h, R, f, g0, g, s, hl, _, _ => ⟨g, hl, fun _ => ⟨R, f, s⟩, ⟨fun _ i o ho => by simp at ho, fun _ => rfl⟩⟩
  | o :: os, h0, h, R, f, g0, g, s, hl, hc, h40 => by
    simp only [List.length_cons] at h40
    have hco := hc o (by simp)
    have hok := good_iff.2 g
    have hok0 := good_iff.2 g0
    have hlen := mStep_len (h := h0) (o := o)
    rw [fits_cons]
    have go : ∀ (x : Hp) (R : Int → Prop) (f : Int → Int), Good x → Sim h0 x R f → x.cells.length ≤ L → (o.op = 1 → x.cells.length < L) →
        Good (runCp mv L (mStep x o) os).1 ∧ (runCp mv L (mStep x o) os).1.cells.length ≤ L ∧ ((runCp mv L (mStep x o) os).2 = true → ∃ R' f', Sim (os.foldl mStep (mStep h0 o)) (runCp mv L (mStep x o) os).1 R' f') ∧ ((runCp mv L (mStep x o) os).2 = true ↔ (o.op = 1 → liveN h0 < L) ∧ Fits L (mStep h0 o) os) := fun x R f gx sx hlx hnx => by
      obtain ⟨⟨R', f', s'⟩, k2, k3⟩ := step_sim g0 gx sx hco (by omega) fun h1 => by have := hnx h1; omega
      have hl' : (mStep x o).cells.length ≤ L := by
        by_cases h1 : o.op = 1
        · have := mStep_len (h := x) (o := o)
          have := hnx h1
          omega
        · rw [k3 h1]; exact hlx
      obtain ⟨j1, j2, j3, j4⟩ := runCp_sim M hL os (mStep h0 o) (mStep x o) R' f' (mStep_good g0 hco) k2 s' hl' (fun p hp => hc p (by simp [hp])) (by omega)
      refine ⟨j1, j2, j3, j4.trans ⟨fun k => ⟨fun h1 => ?_, k⟩, fun k => k.2⟩⟩
      have h2 := live_le (good_iff.2 gx)
      rw [sx.toIso.live] at h2
      have := hnx h1
      omega
    simp only [runCp]
    by_cases hx : o.op = 1 ∧ L ≤ h.cells.length
    · rw [if_pos hx]
      obtain ⟨gm, sm⟩ := M.sim h hok
      have s2 := s.trans sm hok0
      have gx := good_iff.1 (M.ok h hok)
      have hle := M.len h hok
      have hlv := live_le hok
      by_cases hf : L ≤ (mv h).cells.length
      · rw [if_pos hf]
        refine ⟨gx, by show (mv h).cells.length ≤ L; omega, fun k => by simp at k, ⟨fun k => by simp at k, fun k => ?_⟩⟩
        have h2 := k.1 hx.1
        rw [s.toIso.live] at hle
        omega
      · rw [if_neg hf]
        exact go _ _ _ gx s2 (by omega) fun _ => by omega
    · rw [if_neg hx]
      exact go h R f g s hl fun h1 => by
        rcases Nat.lt_or_ge h.cells.length L with q | q
        · exact q
        · exact absurd ⟨h1, q⟩ hx
section
variable {cs : List Cmd} {L : Nat}
theorem runCp_facts {mv : Hp → Hp} (M : Mover mv) (hc : cmdsOk cs = true) (hL : L ≤ 40) : heapOk (runCp mv L emptyH cs).1 = true ∧ (runCp mv L emptyH cs).1.cells.length ≤ L ∧ ((runCp mv L emptyH cs).2 = true → mView (runCp mv L emptyH cs).1 = mView (mRun cs)) ∧ ((runCp mv L emptyH cs).2 = true ↔ Fits L emptyH cs) := by
  obtain ⟨h1, h2⟩ := cmdsOk_iff.1 hc
  have e : mRun cs = cs.foldl mStep emptyH := by unfold mRun; rw [if_pos hc]; rfl
  obtain ⟨k1, k2, k3, k4⟩ := runCp_sim M hL cs emptyH emptyH _ _ emptyH_good emptyH_good (sim_refl (good_iff.2 emptyH_good)) (Nat.zero_le _) h1 (by show 0 + cs.length ≤ 40; omega)
  refine ⟨good_iff.2 k1, k2, fun h => ?_, k4⟩
  obtain ⟨R, f, s⟩ := k3 h
  rw [← e] at s
  exact view_same s.toIso (run_ok hc) (good_iff.2 k1)
end
end Go.Proofs.Ytdkpfggfkhnjfaa
