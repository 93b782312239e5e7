/- The program's freeCells gives back the used cells of a set. -/
import Derived.Test.YtpafdaooddbpkaaZ1
namespace Go.Proofs.Ytpafdaooddbpkaa
open Go.RowKit
theorem Owns.cell3 {lo : Nat} {w0 w : World} {L : List OB} {v : Value} {rvs : List Value} {cs : List Cel} {k : Nat} {l : Cel} (h : Owns lo w0 w L) (j : Nat) (hX : L[j]? = some (.cells v rvs cs)) (hc : Hid (cs[k]? = some l)) :
    ∃ g cC x, v = .slice (some ⟨g, 0, none⟩) cs.length cC ∧ (w.cell? ⟨g, k * 3, none⟩ = some (.bool l.used) ∧ w.cell? ⟨g, k * 3 + 1, none⟩ = some (.int .i64 l.data) ∧ w.cell? ⟨g, k * 3 + 2, none⟩ = some x) ∧ w.frozen? ⟨g, k * 3, none⟩ = false ∧ w.frozen? ⟨g, k * 3 + 1, none⟩ = false ∧ w.frozen? ⟨g, k * 3 + 2, none⟩ = false := by
  have ho := h.owC j hX
  have hk := (List.getElem?_eq_some_iff.1 hc.out).1
  have hrv : rvs[k]? = some (rvs[k]'(by rw [ho.same]; exact hk)) := List.getElem?_eq_getElem _
  obtain ⟨v0, v1, v2⟩ := cellVals_at cs rvs k l _ hc.out hrv
  rcases ho.own.2 with ⟨_, h0⟩ | ⟨g, cC, cur, rfl, _⟩
  · omega
  · exact ⟨g, cC, _, rfl, ⟨(ho.own.cellAt _ (by omega)).trans v0, (ho.own.cellAt _ (by omega)).trans v1, (ho.own.cellAt _ (by omega)).trans v2⟩, ho.own.frozenAt _, ho.own.frozenAt _, ho.own.frozenAt _⟩
def goneB (S : Nat) (cs : List Cel) (i : Nat) : Bool := S.testBit i && (cs.getD i noCel).used
def wipeTo (S : Nat) (cs : List Cel) (k : Nat) : List Cel := (List.range cs.length).map fun i => if decide (i < k) && goneB S cs i then noCel else cs.getD i noCel
def cntTo (S : Nat) (cs : List Cel) (k : Nat) : Nat := ((List.range k).filter (goneB S cs)).length
theorem wipeTo_len (S : Nat) (cs : List Cel) (k : Nat) : (wipeTo S cs k).length = cs.length := by simp [wipeTo]
theorem wipeTo_zero (S : Nat) (cs : List Cel) : wipeTo S cs 0 = cs := by
  unfold wipeTo
  apply List.ext_getElem (by simp)
  intro i h1 h2
  simp [List.getD, h2]
theorem wipeTo_at {S : Nat} {cs : List Cel} {k : Nat} {l : Cel} (h : Hid (cs[k]? = some l)) : (wipeTo S cs k)[k]? = some l := by
  have hk := (List.getElem?_eq_some_iff.1 h.out).1
  unfold wipeTo
  rw [List.getElem?_map, List.getElem?_range hk, Option.map_some]
  have : decide (k < k) = false := by simp
  rw [this, Bool.false_and, if_neg Bool.false_ne_true, getD_of h]
theorem wipeTo_no {S : Nat} {cs : List Cel} {k : Nat} (h : goneB S cs k = false) : wipeTo S cs (k + 1) = wipeTo S cs k := by
  unfold wipeTo
  apply List.map_congr_left
  intro i _
  by_cases e : i = k
  · subst e; rw [h]; simp
  · have : decide (i < k + 1) = decide (i < k) := by simp; omega
    rw [this]
theorem wipeTo_yes {S : Nat} {cs : List Cel} {k : Nat} (h : goneB S cs k = true) : wipeTo S cs (k + 1) = (wipeTo S cs k).set k noCel := by
  unfold wipeTo
  apply List.ext_getElem (by simp)
  intro i h1 h2
  simp only [List.getElem_set, List.getElem_map, List.getElem_range]
  by_cases e : k = i
  · subst e; rw [if_pos rfl, h]; simp
  · rw [if_neg e]
    have : decide (i < k + 1) = decide (i < k) := by simp; omega
    rw [this]
theorem cntTo_no {S : Nat} {cs : List Cel} {k : Nat} (h : goneB S cs k = false) : cntTo S cs (k + 1) = cntTo S cs k := by
  unfold cntTo; rw [List.range_succ, List.filter_append, List.filter_cons, List.filter_nil, h]; simp
theorem cntTo_yes {S : Nat} {cs : List Cel} {k : Nat} (h : goneB S cs k = true) : cntTo S cs (k + 1) = cntTo S cs k + 1 := by
  unfold cntTo; rw [List.range_succ, List.filter_append, List.filter_cons, List.filter_nil, h]; simp
theorem cntTo_le (S : Nat) (cs : List Cel) (k : Nat) : cntTo S cs k ≤ k := by
  unfold cntTo; exact Nat.le_trans (List.length_filter_le _ _) (by simp)
theorem goneB_at {S : Nat} {cs : List Cel} {k : Nat} {l : Cel} (h : Hid (cs[k]? = some l)) : goneB S cs k = (S.testBit k && l.used) := by unfold goneB; rw [getD_of h]
set_option maxHeartbeats 1600000 in
theorem freeCells_own {lo : Nat} {w0 w : World} {M : List OB} {g : Nat} {cv rv : Value} {tt : TypeId} {rvs : List Value} {cs : List Cel} {S : Nat} (h : Owns lo w0 w (.box g [cv, rv] tt :: .cells cv rvs cs :: M)) (hS : S < 2 ^ 64) (hn : cs.length ≤ 1048576) :
    Calls Try.prog 102 #[.pointer (some ⟨g, 0, none⟩), .int .u64 S] w fun e w' => e = .returned (.int .i64 (cntTo S cs cs.length : Nat)) ∧ ∃ rvs', Owns lo w0 w' (.box g [cv, rv] tt :: .cells cv rvs' (wipeTo S cs cs.length) :: M) := by
  obtain ⟨C, kC, rfl, -⟩ := h.formC 1 rfl
  obtain ⟨x0, x1, -, -⟩ := h.box2 0 rfl
  have HM := Go.Lib.hid hS
  clear hS
  go_enter Try.func102, Try.ntmps102
  go_wp2_with fail
  go_loopw [5, 12] (fun v5 i wr => ∃ (k : Nat) (rvs' : List Value), i = .int .i64 k ∧ k ≤ cs.length ∧ v5 = .int .i64 (cntTo S cs k : Nat) ∧ Owns lo w0 wr (.box g [.slice C cs.length kC, rv] tt :: .cells (.slice C cs.length kC) rvs' (wipeTo S cs k) :: M)) (fun _ i _ => cs.length - (intOf i).toNat)
  case atStart => exact ⟨0, rvs, rfl, Nat.zero_le _, rfl, by rw [wipeTo_zero]; exact h⟩
  case round =>
    clear h x0 x1
    obtain ⟨k, rvs', rfl, hk, rfl, H⟩ := hrel
    obtain ⟨x0, x1, -, -⟩ := H.box2 0 rfl
    have hc := cntTo_le S cs k
    by_cases hlt : k < cs.length
    · obtain ⟨l, hl⟩ : ∃ l, Hid (cs[k]? = some l) := ⟨_, Go.Lib.hid (List.getElem?_eq_getElem hlt)⟩
      obtain ⟨gC, cC, x, e7, ⟨y0, y1, y2⟩, z0, z1, z2⟩ := H.cell3 1 rfl (Go.Lib.hid (wipeTo_at (S := S) hl))
      simp only [Value.slice.injEq] at e7
      obtain ⟨rfl, -, rfl⟩ := e7
      have HB := Go.Lib.hid (hasB_nat S k)
      have hg := goneB_at (S := S) hl
      cases hb : S.testBit k
      · rw [hb, Bool.false_and] at hg
        have H1 := Go.Lib.hid (wipeTo_no hg)
        have H2 := Go.Lib.hid (cntTo_no hg)
        have HV := Go.Lib.hid (HB.out.trans hb)
        clear hg hb HB
        go_wp2_with fail
        refine (has_any _ (k : Int) _ HM.out).mono ?_
        rintro e w5 ⟨rfl, hw5⟩
        obtain rfl := hw5
        rw [HV.out]
        go_wp2
        go_roundw
        case rel => exact ⟨k + 1, _, by go_num, by omega, by rw [H2.out], by rw [H1.out]; exact H⟩
        case measure => simp [intOf]; omega
      · have HV := Go.Lib.hid (HB.out.trans hb)
        rw [hb, Bool.true_and] at hg
        cases hu : l.used
        · rw [hu] at y0 hg
          have H1 := Go.Lib.hid (wipeTo_no hg)
          have H2 := Go.Lib.hid (cntTo_no hg)
          clear hg hb HB hu
          go_wp2_with fail
          refine (has_any _ (k : Int) _ HM.out).mono ?_
          rintro e w5 ⟨rfl, hw5⟩
          obtain rfl := hw5
          rw [HV.out]
          go_wp2
          go_roundw
          case rel => exact ⟨k + 1, _, by go_num, by omega, by rw [H2.out], by rw [H1.out]; exact H⟩
          case measure => simp [intOf]; omega
        · rw [hu] at y0 hg
          have H1 := Go.Lib.hid (wipeTo_yes hg)
          have H2 := Go.Lib.hid (cntTo_yes hg)
          have H7 := H.wipe 1 rfl (by rw [wipeTo_len]) k (by rw [wipeTo_len]; exact hlt)
          rw [← H1.out] at H7
          clear hg hb HB hu
          go_wp2_with fail
          refine (has_any _ (k : Int) _ HM.out).mono ?_
          rintro e w5 ⟨rfl, hw5⟩
          obtain rfl := hw5
          rw [HV.out]
          go_wp2
          go_roundw
          case rel => exact ⟨k + 1, _, by go_num, by omega, by rw [H2.out]; go_num, H7⟩
          case measure => simp [intOf]; omega
    · obtain rfl : k = cs.length := by omega
      have HO : Hid (∃ rvs', Owns lo w0 wr (.box g [.slice C cs.length kC, rv] tt :: .cells (.slice C cs.length kC) rvs' (wipeTo S cs cs.length) :: M)) := Go.Lib.hid ⟨rvs', H⟩
      clear H
      go_wp2
      go_ret
      exact ⟨rfl, HO.out⟩
end Go.Proofs.Ytpafdaooddbpkaa
