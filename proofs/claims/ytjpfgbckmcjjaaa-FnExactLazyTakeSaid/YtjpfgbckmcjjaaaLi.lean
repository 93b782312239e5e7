/- The program's list of a set: for every one of some cells whether it is in the set. -/
import Derived.Test.YtjpfgbckmcjjaaaZ1
namespace Go.Proofs.Ytjpfgbckmcjjaaa
open Go.RowKit
theorem mapB_turn {f : Nat → Bool} {k n : Nat} (h : k < n) : ((List.range k).map f ++ List.replicate (n - k) false).set k (f k) = (List.range (k + 1)).map f ++ List.replicate (n - (k + 1)) false := by
  have e : n - k = (n - (k + 1)) + 1 := by omega
  rw [e, List.replicate_succ, List.range_succ, List.map_append, List.set_append_right _ _ (by simp)]
  simp
theorem mapB_here {f : Nat → Bool} {k n : Nat} (h : k < n) : ((List.range k).map f ++ List.replicate (n - k) false)[k]? = some false := by
  rw [List.getElem?_append_right (by simp)]
  simp only [List.length_map, List.length_range, Nat.sub_self]
  rw [List.getElem?_replicate, if_pos (by omega)]
theorem list_any (m n : Nat) (w : World) (hm : m < 2 ^ 64) (hn : n ≤ 1048576) :
    Calls Try.prog 63 #[.int .u64 m, .int .i64 n] w (MadeB w ((List.range n).map m.testBit)) := by
  obtain ⟨i0, hi, hz0, hz1, hz2⟩ := info_parts Try.infoBool
  have HM := Go.Lib.hid hm
  clear hm
  go_enter Try.func63, Try.ntmps63
  go_wp2_with (at_make; refine wpList_make_full _ rfl _ _ _ rfl w.heap.size 4 i0 (.bool false) 1 Try.underlying35 hi hz0 hz1 .i64 .i64 _ _ n rfl rfl rfl rfl (by rw [hz2]; omega) (by unfold maxLen; omega) (Nat.le_refl _) ?_)
  intro w1 hown hg
  have H1 := (Owns.nil w).mkB (by simpa using hown) hg
  clear hown hg
  go_wp2_with fail
  go_loopw [11] (fun i wr => ∃ k : Nat, i = .int .i64 k ∧ k ≤ n ∧ Owns w.heap.size w wr [.row 4 1 (.slice (some ⟨w.heap.size, 0, none⟩) n n) n (((List.range k).map m.testBit ++ List.replicate (n - k) false).map Value.bool)]) (fun i _ => n - (intOf i).toNat)
  case atStart => exact ⟨0, rfl, Nat.zero_le _, H1⟩
  case round =>
    clear H1
    obtain ⟨k, rfl, hk, H⟩ := hrel
    by_cases hlt : k < n
    · have hT := mapB_turn (f := m.testBit) hlt
      obtain ⟨y0, yf⟩ := H.elem 0 rfl (j := k) (u := .bool false) (by rw [List.getElem?_map, mapB_here hlt]; rfl)
      have H2 := H.putRow 0 rfl k (.bool (m.testBit k))
      simp only [List.set_cons_zero] at H2
      rw [show ((List.map m.testBit (List.range k) ++ List.replicate (n - k) false).map Value.bool).set k (.bool (m.testBit k)) = ((List.map m.testBit (List.range k) ++ List.replicate (n - k) false).set k (m.testBit k)).map Value.bool from by rw [List.map_set], hT] at H2
      have HB := Go.Lib.hid (hasB_nat m k)
      have HH := Go.Lib.hid H2
      clear hT H2 H
      generalize m.testBit k = bk at *
      go_wp2_with fail
      refine (has_any m k _ HM.out).mono ?_
      rintro e w2 ⟨rfl, hw2⟩
      obtain rfl := hw2
      rw [HB.out]
      go_wp2
      go_roundw
      case rel => exact ⟨k + 1, by go_num, by omega, HH.out⟩
      case measure => simp [intOf]; omega
    · obtain rfl : k = n := by omega
      rw [Nat.sub_self, List.replicate_zero, List.append_nil] at H
      have ho := H.own 0 rfl
      have hO : OwB wr w.heap.size wr.heap.size (.slice (some ⟨w.heap.size, 0, none⟩) k k) ((List.range k).map m.testBit) := ⟨by rw [List.length_map, List.length_range]; exact ho, fun q e => (ho.lt q e).2⟩
      have HD := H.below
      clear H ho
      go_wp2
      go_ret
      exact ⟨_, rfl, hO, HD⟩
theorem list_clos {h : Hp} {fr : List Int} {n : Nat} (hn : n = h.cells.length) (h64 : h.cells.length ≤ 64) : (List.range n).map (closM h.cells (usedM h.cells) fr).testBit = reachL h.cells fr := by
  subst hn
  unfold reachL
  rw [show (closM h.cells (usedM h.cells) fr).testBit = reachB h.cells fr from funext fun c => closM_used h64 c]
end Go.Proofs.Ytjpfgbckmcjjaaa
