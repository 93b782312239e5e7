/- The program's CellsFrom at a used cell of a valid heap; two equal lists of flags are the same. For every heap and lists that can be read. -/
import Derived.Test.YtjpfgbckmcjjaaaRa
import Derived.Test.YtjpfgbckmcjjaaaRd
import Derived.Test.YtjpfgbckmcjjaaaWt
namespace Go.Proofs.Ytjpfgbckmcjjaaa
open Go.RowKit
set_option maxHeartbeats 1600000 in
set_option maxRecDepth 20000 in
theorem sameFlags_yes (w : World) (B B' : Nat) (A A' : Option Addr) (n n' c c' : Nat) (xs : List Bool) (h1 : RdB w B A n c xs) (h2 : RdB w B' A' n' c' xs) :
    Calls Try.prog 20 #[.slice A n c, .slice A' n' c'] w fun e w' => e = .returned (.bool true) ∧ Below w.heap.size w w' := by
  have h1 := h1.top
  have h2 := h2.top
  obtain rfl : n = n' := by have := RdB.le1 h1; have := RdB.le2 h1; have := RdB.le1 h2; have := RdB.le2 h2; omega
  have hm : n ≤ maxLen := Nat.le_trans h1.cap h1.mx
  unfold maxLen at hm
  go_enter Try.func20, Try.ntmps20
  go_wp2_with fail
  go_loopw [5] (fun i wr => ∃ k : Nat, i = .int .i64 k ∧ k ≤ n ∧ Below w.heap.size w wr) (fun i _ => n - (intOf i).toNat)
  case atStart => exact ⟨0, rfl, Nat.zero_le _, Below.refl _ _⟩
  case round =>
    obtain ⟨k, rfl, hk, hb⟩ := hrel
    by_cases hlt : k < n
    · obtain ⟨b, o, x, rfl, hbb, hx, g1⟩ := RdB.at_ (h1.below hb) hlt
      obtain ⟨b', o', x', rfl, hbb', hx', g2⟩ := RdB.at_ (h2.below hb) hlt
      obtain rfl := hid_inj hx hx'
      have i1 : (0 : Int) ≤ (k : Int) := by omega
      have i2 : (k : Int) < (n : Int) := by omega
      clear hx hx'
      go_wp2_with fail
      refine wp_region_tree (fun w' => w'.cell? ⟨b, o + k, none⟩ = some (.bool x) ∧ w'.cell? ⟨b', o' + k, none⟩ = some (.bool x)) 9 [] (.take 0 (.take 1 (.take 2 (.take 3 (.take 4 (.take 5 (.take 6 (.take 7 (.take 8 (.done)))))))))) (by kernel_rfl) (by kernel_rfl) (by kernel_rfl) (⟨g1, g2⟩) ?_
      simp only [fillT, List.getElem?_cons_zero, List.getElem?_cons_succ, Nat.reduceBEq]
      repeat (first
        | (with_reducible refine po_take (v := ?_) ?_ (fun w' hS' => ?_) ?_
           rotate_left
           · (go_simp; done)
           · ((try dsimp only at hS'); go_simp; try with_reducible rfl)
           simp only [Act.put, List.setIfInBounds_toArray, List.set_cons_zero, List.set_cons_succ])
        | (with_reducible refine po_skip ?_ ?_
           · (go_simp; done)
           simp only [Act.put, List.setIfInBounds_toArray, List.set_cons_zero, List.set_cons_succ]))
      refine po_done ?_
      go_wp2
      go_roundw
      case rel => exact ⟨k + 1, by go_num, by omega, hb.drew⟩
      case measure => simp [intOf]; omega
    · go_wp2
      go_ret
      exact ⟨rfl, hb⟩
end Go.Proofs.Ytjpfgbckmcjjaaa
