/- The laws' fixed question alive() answers true. -/
import Derived.Test.YtdkpfggfkhnjfaaZ0
namespace Go.Proofs.Ytdkpfggfkhnjfaa
open Go.RowKit
theorem isTotal3 (w : World) : Calls Try.prog 64 #[.int .i64 3] w fun e w' => e = .returned (.bool true) ∧ w = w' := by
  go_enter Try.func64, Try.ntmps64
  go_wp2
  go_ret
  exact ⟨rfl, rfl⟩
/-- The one block of three words that alive() asks for. -/
structure Blk3 (w : World) (b : Nat) : Prop where
  c0 : w.cell? ⟨b, 0, none⟩ = some (.int .i64 0)
  c1 : w.cell? ⟨b, 1, none⟩ = some (.int .i64 3)
  c2 : w.cell? ⟨b, 2, none⟩ = some (.bool false)
theorem Blk3.below {w w' : World} {b : Nat} (h : Blk3 w b) (hb : Below w.heap.size w w') : Blk3 w' b := ⟨keept h.c0 hb, keept h.c1 hb, keept h.c2 hb⟩
set_option maxHeartbeats 1600000 in
theorem blocksValid3 (w : World) (b k : Nat) (h : Blk3 w b) (_hk : 1 ≤ k) (_hm : k ≤ maxLen) :
    Calls Try.prog 42 #[.slice (some ⟨b, 0, none⟩) 1 k, .int .i64 3] w fun e w' => e = .returned (.bool true) ∧ Below w.heap.size w w' := by
  have hm := _hm
  unfold maxLen at hm
  go_enter Try.func42, Try.ntmps42
  go_wp2_with fail
  refine (isTotal3 _).mono ?_
  rintro e w' ⟨rfl, hw⟩
  obtain rfl := hw
  go_wp2_with fail
  go_loopw [5, 13] (fun v5 i wr => ∃ j : Nat, i = .int .i64 j ∧ j ≤ 1 ∧ v5 = .int .i64 (3 * (j : Int)) ∧ Below w.heap.size w wr) (fun _ i _ => 1 - (intOf i).toNat)
  case atStart => exact ⟨0, rfl, by omega, rfl, Below.refl _ _⟩
  case round =>
    obtain ⟨j, rfl, hj, rfl, hb⟩ := hrel
    have hj2 : j = 0 ∨ j = 1 := by omega
    rcases hj2 with rfl | rfl
    · have hB := h.below hb
      have g0 := hB.c0
      have g1 := hB.c1
      have g2 := hB.c2
      have hb2 := hb.trans ((below_alloc wr (.cells #[.int .i64 0, .int .i64 3, .bool false] 54)).mono hb.size)
      go_wp2_with fail
      go_roundw
      case rel => exact ⟨1, rfl, by omega, rfl, hb2⟩
      case measure => simp [intOf]
    · go_wp2
      go_ret
      exact ⟨rfl, hb⟩
set_option maxHeartbeats 1600000 in
theorem freeWords3 (w : World) (b k : Nat) (h : Blk3 w b) (hk : 1 ≤ k) (hm : k ≤ maxLen) :
    Calls Try.prog 23 #[.slice (some ⟨b, 0, none⟩) 1 k, .int .i64 3] w fun e w' => e = .returned (.int .i64 3) ∧ Below w.heap.size w w' := by
  have hm' := hm
  unfold maxLen at hm
  go_enter Try.func23, Try.ntmps23
  go_wp2_with fail
  refine (blocksValid3 _ b k h hk hm').mono ?_
  rintro e w1 ⟨rfl, hb1⟩
  go_wp2_with fail
  go_loopw [5, 14] (fun v5 i wr => ∃ j : Nat, i = .int .i64 j ∧ j ≤ 1 ∧ v5 = .int .i64 (3 * (j : Int)) ∧ Below w.heap.size w wr) (fun _ i _ => 1 - (intOf i).toNat)
  case atStart => exact ⟨0, rfl, by omega, rfl, hb1⟩
  case round =>
    obtain ⟨j, rfl, hj, rfl, hb⟩ := hrel
    have hj2 : j = 0 ∨ j = 1 := by omega
    rcases hj2 with rfl | rfl
    · have hB := h.below hb
      have g0 := hB.c0
      have g1 := hB.c1
      have g2 := hB.c2
      have hb2 := hb.trans ((below_alloc wr (.cells #[.int .i64 0, .int .i64 3, .bool false] 54)).mono hb.size)
      go_wp2_with fail
      go_roundw
      case rel => exact ⟨1, rfl, by omega, rfl, hb2⟩
      case measure => simp [intOf]
    · go_wp2
      go_ret
      exact ⟨rfl, hb⟩
theorem alive_any (w : World) : Calls Try.prog 9 #[] w fun e w' => e = .returned (.bool true) ∧ Below w.heap.size w w' := by
  have hb := below_alloc w (.cells #[.int .i64 0, .int .i64 3, .bool false] 54)
  have h3 := blk3 (heap1 w (.cells #[.int .i64 0, .int .i64 3, .bool false] 54))
  go_enter Try.func9, Try.ntmps9
  go_wp2_with fail
  refine (freeWords3 _ _ _ ⟨h3.1, h3.2.1, h3.2.2.1⟩ (Nat.le_refl _) one_le_maxLen).mono ?_
  rintro e w1 ⟨rfl, hb1⟩
  have hb2 := hb.trans (hb1.mono hb.size)
  clear hb hb1 h3
  go_wp2
  go_ret
  exact ⟨rfl, hb2⟩
end Go.Proofs.Ytdkpfggfkhnjfaa
