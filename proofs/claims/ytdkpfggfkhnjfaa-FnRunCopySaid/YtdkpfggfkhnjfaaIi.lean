/- The program's sameInts tells whether two lists that can be read are the same. -/
import Derived.Test.YtdkpfggfkhnjfaaZ0
namespace Go.Proofs.Ytdkpfggfkhnjfaa
open Go.RowKit
theorem RdI.len2 {w : World} {B : Nat} {A : Option Addr} {n c : Nat} {xs : List Int} (h : RdI w B A n c xs) : n = xs.length := by have := RdI.le1 h; have := RdI.le2 h; omega
theorem same2_any (w : World) (B B' : Nat) (A A' : Option Addr) (n c n' c' : Nat) (xs ys : List Int) (hr : RdI w B A n c xs) (hs : RdI w B' A' n' c' ys) :
    Calls Try.prog 25 #[.slice A n c, .slice A' n' c'] w fun e w' => e = .returned (.bool (decide (xs = ys))) ∧ Below w.heap.size w w' := by
  have hr := hr.top
  have hs := hs.top
  have l1 := RdI.len2 hr
  have l2 := RdI.len2 hs
  have m1 := Nat.le_trans hr.cap hr.mx
  have m2 := Nat.le_trans hs.cap hs.mx
  unfold maxLen at m1 m2
  go_enter Try.func25, Try.ntmps25
  by_cases c0 : n = n'
  rotate_left
  · have HF : Hid (decide (xs = ys) = false) := Go.Lib.hid (decide_eq_false fun e => c0 (by rw [l1, l2, e]))
    have k1 : ((n : Int) != (n' : Int)) = true := by simp; omega
    go_wp2
    go_ret
    exact ⟨ret_b HF.out.symm, Below.refl _ _⟩
  subst c0
  go_wp2_with fail
  go_loopw [13] (fun i wr => ∃ k : Nat, i = .int .i64 k ∧ k ≤ n ∧ xs.take k = ys.take k ∧ Below w.heap.size w wr) (fun i _ => n - (intOf i).toNat)
  case atStart => exact ⟨0, rfl, Nat.zero_le _, rfl, Below.refl _ _⟩
  case round =>
    obtain ⟨k, rfl, hk, he, hb⟩ := hrel
    by_cases hlt : k < n
    · obtain ⟨b, o, x, rfl, hbb, hx, q1⟩ := RdI.at_ hr hlt
      obtain ⟨b', o', y, rfl, hbb', hy, q2⟩ := RdI.at_ hs hlt
      have g1 := keepd (keept q1 hb) (Below.refl _ _)
      have g2 := keepd (keept q2 hb) (Below.refl _ _)
      by_cases c1 : x = y
      · subst c1
        have HE := Go.Lib.hid (show xs.take (k + 1) = ys.take (k + 1) from by rw [take_snoc' hx, take_snoc' hy, he])
        clear he
        go_wp2_with fail
        refine wp_region_tree (fun w' => w'.cell? ⟨b, o + k, none⟩ = some (.int .i64 x) ∧ w'.cell? ⟨b', o' + k, none⟩ = some (.int .i64 x)) 9 [] (.take 0 (.take 1 (.take 2 (.take 3 (.take 4 (.take 5 (.take 6 (.take 7 (.take 8 (.done)))))))))) (by kernel_rfl) (by kernel_rfl) (by kernel_rfl) (⟨g1, g2⟩) ?_
        simp only [fillT, List.getElem?_cons_zero, List.getElem?_cons_succ]
        repeat (first
          | (with_reducible refine po_take (v := ?_) ?_ (fun w' hS' => ?_) ?_
             rotate_left
             · (go_simp; done)
             · ((try dsimp only at hS'); go_simp; try with_reducible rfl)
             simp only [Act.put, List.setIfInBounds_toArray, List.set_cons_zero, List.set_cons_succ])
          | (with_reducible refine po_skip ?_ ?_
             · (go_simp; done)
             simp only [Act.put, List.setIfInBounds_toArray, List.set_cons_zero, List.set_cons_succ]))
        refine po_done ?_
        go_wp2
        go_roundw
        case rel => exact ⟨k + 1, by go_num, by omega, HE.out, hb.drew⟩
        case measure => simp [intOf]; omega
      · have HF : Hid (decide (xs = ys) = false) := Go.Lib.hid (decide_eq_false fun e => c1 (by have h1 := hx.out; rw [e, hy.out] at h1; injection h1 with h1; exact h1.symm))
        have k1 : (x != y) = true := by simp; exact c1
        clear he
        go_wp2_with fail
        refine wp_region_tree (fun w' => w'.cell? ⟨b, o + k, none⟩ = some (.int .i64 x) ∧ w'.cell? ⟨b', o' + k, none⟩ = some (.int .i64 y)) 9 [] (.take 0 (.take 1 (.take 2 (.take 3 (.take 4 (.take 5 (.take 6 (.take 7 (.take 8 (.done)))))))))) (by kernel_rfl) (by kernel_rfl) (by kernel_rfl) (⟨g1, g2⟩) ?_
        simp only [fillT, List.getElem?_cons_zero, List.getElem?_cons_succ]
        repeat (first
          | (with_reducible refine po_take (v := ?_) ?_ (fun w' hS' => ?_) ?_
             rotate_left
             · (go_simp; done)
             · ((try dsimp only at hS'); go_simp; try with_reducible rfl)
             simp only [Act.put, List.setIfInBounds_toArray, List.set_cons_zero, List.set_cons_succ])
          | (with_reducible refine po_skip ?_ ?_
             · (go_simp; done)
             simp only [Act.put, List.setIfInBounds_toArray, List.set_cons_zero, List.set_cons_succ]))
        refine po_done ?_
        go_wp2
        go_ret
        exact ⟨ret_b HF.out.symm, hb.drew⟩
    · have HF : Hid (decide (xs = ys) = true) := Go.Lib.hid (decide_eq_true (by rwa [List.take_of_length_le (by omega), List.take_of_length_le (by omega)] at he))
      clear he
      go_wp2
      go_ret
      exact ⟨ret_b HF.out.symm, hb⟩
end Go.Proofs.Ytdkpfggfkhnjfaa
