/- The program's test whether an instruction is possible. For every heap that can be read, and every instruction. Printed by gencq.py. -/
import Derived.Test.YtdkpfggfkhnjfaaPq
import Derived.Test.YtdkpfggfkhnjfaaCv
namespace Go.Proofs.Ytdkpfggfkhnjfaa
open Go.RowKit
set_option maxHeartbeats 3200000 in
set_option maxRecDepth 20000 in
theorem implPoss_n1 (w : World) (B : Nat) (v : Value) (h : Hp) (hh : RdH w B v h) (op a b c : Int) (hy : heapOk h = false) :
    Calls Try.prog 48 #[v, cmdV ⟨op, a, b, c⟩] w fun e w' => e = .returned (.bool (mPoss h ⟨op, a, b, c⟩)) ∧ Below w.heap.size w w' := by
  have hh' := hh.top
  obtain ⟨D, m, d, D', m', d', rfl, hC, hR⟩ := hh.top
  have HY := Go.Lib.hid hy
  have HF : Hid (mPoss h ⟨op, a, b, c⟩ = false) := Go.Lib.hid (mPoss_no1 hy)
  have H := ((Owns.nil w).box [.slice D m d, .slice D' m' d'] 29).box [.int .i64 op, .int .i64 a, .int .i64 b, .int .i64 c] 46
  simp only [World.size_alloc] at H
  obtain ⟨a0, a1, -, -⟩ := H.box2 1 rfl
  obtain ⟨b0, b1, b2, b3, -, -, -, -⟩ := box4 H 0 rfl
  go_enter Try.func48, Try.ntmps48
  go_wp2_with fail
  have HX := H.drew
  clear a0 a1 b0 b1 b2 b3 H
  obtain ⟨a0, a1, -, -⟩ := HX.box2 1 rfl
  obtain ⟨b0, b1, b2, b3, -, -, -, -⟩ := box4 HX 0 rfl
  refine wp_region_tree (fun w' => (w'.cell? ⟨w.heap.size, 0, none⟩ = some (.slice D m d) ∧ w'.cell? ⟨w.heap.size, 1, none⟩ = some (.slice D' m' d')) ∧ w'.cell? ⟨w.heap.size + 1, 0, none⟩ = some (.int .i64 op) ∧ w'.cell? ⟨w.heap.size + 1, 1, none⟩ = some (.int .i64 a) ∧ w'.cell? ⟨w.heap.size + 1, 2, none⟩ = some (.int .i64 b) ∧ w'.cell? ⟨w.heap.size + 1, 3, none⟩ = some (.int .i64 c)) 17 [] (.take 0 (.alt 1 (.take 2 (.take 3 (.alt 4 (.take 5 (.take 6 (.take 8 (.take 9 (.take 12 (.take 13 (.alt 7 (.take 10 (.take 11 (.alt 14 (.take 15 (.take 16 (.done))) (.stop)))) (.stop)))))))) (.stop)))) (.stop))) (by kernel_rfl) (by kernel_rfl) (by kernel_rfl) (⟨⟨a0, a1⟩, b0, b1, b2, b3⟩) ?_
  simp only [fillT, List.getElem?_cons_zero, List.getElem?_cons_succ, Nat.reduceBEq]
  repeat (first
    | (with_reducible refine po_take (v := ?_) ?_ (fun w' hS' => ?_) ?_
       rotate_left
       · (go_simp; done)
       · ((try dsimp only at hS'); go_simp; try with_reducible rfl)
       simp only [Act.put, List.setIfInBounds_toArray, List.set_cons_zero, List.set_cons_succ])
    | (with_reducible refine po_skip ?_ ?_
       · (go_simp; done)
       simp only [Act.put, List.setIfInBounds_toArray, List.set_cons_zero, List.set_cons_succ]))
  with_reducible refine po_run ?_ (fun K hK => ?_) ?_
  · (go_simp; done)
  rotate_left
  · exact po_stop
  go_simp
  refine (heapValid_any _ _ _ h (hh'.below HX.below)).mono ?_
  rintro e w1 ⟨rfl, hb⟩
  rw [HY.out]
  replace HX := HX.call hb
  clear hb a0 a1 b0 b1 b2 b3
  obtain ⟨a0, a1, -, -⟩ := HX.box2 1 rfl
  obtain ⟨b0, b1, b2, b3, -, -, -, -⟩ := box4 HX 0 rfl
  refine hK.out _ _ (.inr (⟨⟨a0, a1⟩, b0, b1, b2, b3⟩)) ?_
  clear hK K
  repeat (first
    | (with_reducible refine po_take (v := ?_) ?_ (fun w' hS' => ?_) ?_
       rotate_left
       · (go_simp; done)
       · ((try dsimp only at hS'); go_simp; try with_reducible rfl)
       simp only [Act.put, List.setIfInBounds_toArray, List.set_cons_zero, List.set_cons_succ])
    | (with_reducible refine po_skip ?_ ?_
       · (go_simp; done)
       simp only [Act.put, List.setIfInBounds_toArray, List.set_cons_zero, List.set_cons_succ]))
  with_reducible refine po_no ?_ ?_ ?_ ?_
  · (go_simp; done)
  · exact .inr (⟨⟨a0, a1⟩, b0, b1, b2, b3⟩)
  rotate_left
  · exact po_stop
  simp only [Act.put, List.setIfInBounds_toArray, List.set_cons_zero, List.set_cons_succ]
  repeat (first
    | (with_reducible refine po_take (v := ?_) ?_ (fun w' hS' => ?_) ?_
       rotate_left
       · (go_simp; done)
       · ((try dsimp only at hS'); go_simp; try with_reducible rfl)
       simp only [Act.put, List.setIfInBounds_toArray, List.set_cons_zero, List.set_cons_succ])
    | (with_reducible refine po_skip ?_ ?_
       · (go_simp; done)
       simp only [Act.put, List.setIfInBounds_toArray, List.set_cons_zero, List.set_cons_succ]))
  with_reducible refine po_no ?_ ?_ ?_ ?_
  · (go_simp; done)
  · exact .inr (⟨⟨a0, a1⟩, b0, b1, b2, b3⟩)
  rotate_left
  · exact po_stop
  simp only [Act.put, List.setIfInBounds_toArray, List.set_cons_zero, List.set_cons_succ]
  repeat (first
    | (with_reducible refine po_take (v := ?_) ?_ (fun w' hS' => ?_) ?_
       rotate_left
       · (go_simp; done)
       · ((try dsimp only at hS'); go_simp; try with_reducible rfl)
       simp only [Act.put, List.setIfInBounds_toArray, List.set_cons_zero, List.set_cons_succ])
    | (with_reducible refine po_skip ?_ ?_
       · (go_simp; done)
       simp only [Act.put, List.setIfInBounds_toArray, List.set_cons_zero, List.set_cons_succ]))
  with_reducible refine po_no ?_ ?_ ?_ ?_
  · (go_simp; done)
  · exact .inr (⟨⟨a0, a1⟩, b0, b1, b2, b3⟩)
  rotate_left
  · exact po_stop
  simp only [Act.put, List.setIfInBounds_toArray, List.set_cons_zero, List.set_cons_succ]
  repeat (first
    | (with_reducible refine po_take (v := ?_) ?_ (fun w' hS' => ?_) ?_
       rotate_left
       · (go_simp; done)
       · ((try dsimp only at hS'); go_simp; try with_reducible rfl)
       simp only [Act.put, List.setIfInBounds_toArray, List.set_cons_zero, List.set_cons_succ])
    | (with_reducible refine po_skip ?_ ?_
       · (go_simp; done)
       simp only [Act.put, List.setIfInBounds_toArray, List.set_cons_zero, List.set_cons_succ]))
  refine po_done ?_
  have HB := HX.below
  clear HX a0 a1 b0 b1 b2 b3
  go_wp2
  go_ret
  exact ⟨ret_b HF.out.symm, HB⟩
set_option maxHeartbeats 3200000 in
set_option maxRecDepth 20000 in
theorem implPoss_n2 (w : World) (B : Nat) (v : Value) (h : Hp) (hh : RdH w B v h) (op a b c : Int) (hy : heapOk h = true) (hc : cmdOk ⟨op, a, b, c⟩ = false) :
    Calls Try.prog 48 #[v, cmdV ⟨op, a, b, c⟩] w fun e w' => e = .returned (.bool (mPoss h ⟨op, a, b, c⟩)) ∧ Below w.heap.size w w' := by
  have hh' := hh.top
  obtain ⟨D, m, d, D', m', d', rfl, hC, hR⟩ := hh.top
  have HY := Go.Lib.hid hy
  have HC := Go.Lib.hid hc
  have HF : Hid (mPoss h ⟨op, a, b, c⟩ = false) := Go.Lib.hid (mPoss_no2 hc)
  have H := ((Owns.nil w).box [.slice D m d, .slice D' m' d'] 29).box [.int .i64 op, .int .i64 a, .int .i64 b, .int .i64 c] 46
  simp only [World.size_alloc] at H
  obtain ⟨a0, a1, -, -⟩ := H.box2 1 rfl
  obtain ⟨b0, b1, b2, b3, -, -, -, -⟩ := box4 H 0 rfl
  go_enter Try.func48, Try.ntmps48
  go_wp2_with fail
  have HX := H.drew
  clear a0 a1 b0 b1 b2 b3 H
  obtain ⟨a0, a1, -, -⟩ := HX.box2 1 rfl
  obtain ⟨b0, b1, b2, b3, -, -, -, -⟩ := box4 HX 0 rfl
  refine wp_region_tree (fun w' => (w'.cell? ⟨w.heap.size, 0, none⟩ = some (.slice D m d) ∧ w'.cell? ⟨w.heap.size, 1, none⟩ = some (.slice D' m' d')) ∧ w'.cell? ⟨w.heap.size + 1, 0, none⟩ = some (.int .i64 op) ∧ w'.cell? ⟨w.heap.size + 1, 1, none⟩ = some (.int .i64 a) ∧ w'.cell? ⟨w.heap.size + 1, 2, none⟩ = some (.int .i64 b) ∧ w'.cell? ⟨w.heap.size + 1, 3, none⟩ = some (.int .i64 c)) 17 [] (.take 0 (.alt 1 (.take 2 (.take 3 (.alt 4 (.take 5 (.take 6 (.take 8 (.take 9 (.take 12 (.take 13 (.alt 7 (.take 10 (.take 11 (.alt 14 (.take 15 (.take 16 (.done))) (.stop)))) (.stop)))))))) (.stop)))) (.stop))) (by kernel_rfl) (by kernel_rfl) (by kernel_rfl) (⟨⟨a0, a1⟩, b0, b1, b2, b3⟩) ?_
  simp only [fillT, List.getElem?_cons_zero, List.getElem?_cons_succ, Nat.reduceBEq]
  repeat (first
    | (with_reducible refine po_take (v := ?_) ?_ (fun w' hS' => ?_) ?_
       rotate_left
       · (go_simp; done)
       · ((try dsimp only at hS'); go_simp; try with_reducible rfl)
       simp only [Act.put, List.setIfInBounds_toArray, List.set_cons_zero, List.set_cons_succ])
    | (with_reducible refine po_skip ?_ ?_
       · (go_simp; done)
       simp only [Act.put, List.setIfInBounds_toArray, List.set_cons_zero, List.set_cons_succ]))
  with_reducible refine po_run ?_ (fun K hK => ?_) ?_
  · (go_simp; done)
  rotate_left
  · exact po_stop
  go_simp
  refine (heapValid_any _ _ _ h (hh'.below HX.below)).mono ?_
  rintro e w1 ⟨rfl, hb⟩
  rw [HY.out]
  replace HX := HX.call hb
  clear hb a0 a1 b0 b1 b2 b3
  obtain ⟨a0, a1, -, -⟩ := HX.box2 1 rfl
  obtain ⟨b0, b1, b2, b3, -, -, -, -⟩ := box4 HX 0 rfl
  refine hK.out _ _ (.inr (⟨⟨a0, a1⟩, b0, b1, b2, b3⟩)) ?_
  clear hK K
  repeat (first
    | (with_reducible refine po_take (v := ?_) ?_ (fun w' hS' => ?_) ?_
       rotate_left
       · (go_simp; done)
       · ((try dsimp only at hS'); go_simp; try with_reducible rfl)
       simp only [Act.put, List.setIfInBounds_toArray, List.set_cons_zero, List.set_cons_succ])
    | (with_reducible refine po_skip ?_ ?_
       · (go_simp; done)
       simp only [Act.put, List.setIfInBounds_toArray, List.set_cons_zero, List.set_cons_succ]))
  with_reducible refine po_run ?_ (fun K hK => ?_) ?_
  · (go_simp; done)
  rotate_left
  · exact po_stop
  go_simp
  refine (implCommandValid_any ⟨op, a, b, c⟩ _).mono ?_
  rintro e w2 ⟨rfl, hb⟩
  rw [HC.out]
  replace HX := HX.call hb
  clear hb a0 a1 b0 b1 b2 b3
  obtain ⟨a0, a1, -, -⟩ := HX.box2 1 rfl
  obtain ⟨b0, b1, b2, b3, -, -, -, -⟩ := box4 HX 0 rfl
  refine hK.out _ _ (.inr (⟨⟨a0, a1⟩, b0, b1, b2, b3⟩)) ?_
  clear hK K
  repeat (first
    | (with_reducible refine po_take (v := ?_) ?_ (fun w' hS' => ?_) ?_
       rotate_left
       · (go_simp; done)
       · ((try dsimp only at hS'); go_simp; try with_reducible rfl)
       simp only [Act.put, List.setIfInBounds_toArray, List.set_cons_zero, List.set_cons_succ])
    | (with_reducible refine po_skip ?_ ?_
       · (go_simp; done)
       simp only [Act.put, List.setIfInBounds_toArray, List.set_cons_zero, List.set_cons_succ]))
  with_reducible refine po_no ?_ ?_ ?_ ?_
  · (go_simp; done)
  · exact .inr (⟨⟨a0, a1⟩, b0, b1, b2, b3⟩)
  rotate_left
  · exact po_stop
  simp only [Act.put, List.setIfInBounds_toArray, List.set_cons_zero, List.set_cons_succ]
  repeat (first
    | (with_reducible refine po_take (v := ?_) ?_ (fun w' hS' => ?_) ?_
       rotate_left
       · (go_simp; done)
       · ((try dsimp only at hS'); go_simp; try with_reducible rfl)
       simp only [Act.put, List.setIfInBounds_toArray, List.set_cons_zero, List.set_cons_succ])
    | (with_reducible refine po_skip ?_ ?_
       · (go_simp; done)
       simp only [Act.put, List.setIfInBounds_toArray, List.set_cons_zero, List.set_cons_succ]))
  with_reducible refine po_no ?_ ?_ ?_ ?_
  · (go_simp; done)
  · exact .inr (⟨⟨a0, a1⟩, b0, b1, b2, b3⟩)
  rotate_left
  · exact po_stop
  simp only [Act.put, List.setIfInBounds_toArray, List.set_cons_zero, List.set_cons_succ]
  repeat (first
    | (with_reducible refine po_take (v := ?_) ?_ (fun w' hS' => ?_) ?_
       rotate_left
       · (go_simp; done)
       · ((try dsimp only at hS'); go_simp; try with_reducible rfl)
       simp only [Act.put, List.setIfInBounds_toArray, List.set_cons_zero, List.set_cons_succ])
    | (with_reducible refine po_skip ?_ ?_
       · (go_simp; done)
       simp only [Act.put, List.setIfInBounds_toArray, List.set_cons_zero, List.set_cons_succ]))
  refine po_done ?_
  have HB := HX.below
  clear HX a0 a1 b0 b1 b2 b3
  go_wp2
  go_ret
  exact ⟨ret_b HF.out.symm, HB⟩
set_option maxHeartbeats 3200000 in
set_option maxRecDepth 20000 in
theorem implPoss_1 (w : World) (B : Nat) (v : Value) (h : Hp) (hh : RdH w B v h) (an : Nat) (b c : Int) (hy : heapOk h = true) (hc : cmdOk ⟨1, an, b, c⟩ = true) :
    Calls Try.prog 48 #[v, cmdV ⟨1, an, b, c⟩] w fun e w' => e = .returned (.bool (mPoss h ⟨1, an, b, c⟩)) ∧ Below w.heap.size w w' := by
  have hh' := hh.top
  obtain ⟨D, m, d, D', m', d', rfl, hC, hR⟩ := hh.top
  have GG := Go.Lib.hid (good_iff.1 hy)
  have HY := Go.Lib.hid hy
  have HC := Go.Lib.hid hc
  have hI := opsAt_1
  have hP := opsP_1
  have HH := Go.Lib.hid hh'
  have ha3 : an ≤ 3 := by have := (cmd_a hc).2; simp only at this; omega
  clear hh hC hR
  have HF : Hid (mPoss h ⟨1, an, b, c⟩ = true) := Go.Lib.hid (by rw [mPoss_yes hy hc]; simp [possB])
  have H := ((Owns.nil w).box [.slice D m d, .slice D' m' d'] 29).box [.int .i64 1, .int .i64 an, .int .i64 b, .int .i64 c] 46
  simp only [World.size_alloc] at H
  obtain ⟨a0, a1, -, -⟩ := H.box2 1 rfl
  obtain ⟨b0, b1, b2, b3, -, -, -, -⟩ := box4 H 0 rfl
  go_enter Try.func48, Try.ntmps48
  go_wp2_with fail
  have HX := H.drew
  clear a0 a1 b0 b1 b2 b3 H
  obtain ⟨a0, a1, -, -⟩ := HX.box2 1 rfl
  obtain ⟨b0, b1, b2, b3, -, -, -, -⟩ := box4 HX 0 rfl
  refine wp_region_tree (fun w' => (w'.cell? ⟨w.heap.size, 0, none⟩ = some (.slice D m d) ∧ w'.cell? ⟨w.heap.size, 1, none⟩ = some (.slice D' m' d')) ∧ w'.cell? ⟨w.heap.size + 1, 0, none⟩ = some (.int .i64 1) ∧ w'.cell? ⟨w.heap.size + 1, 1, none⟩ = some (.int .i64 an) ∧ w'.cell? ⟨w.heap.size + 1, 2, none⟩ = some (.int .i64 b) ∧ w'.cell? ⟨w.heap.size + 1, 3, none⟩ = some (.int .i64 c)) 17 [] (.take 0 (.alt 1 (.take 2 (.take 3 (.alt 4 (.take 5 (.take 6 (.take 8 (.take 9 (.take 12 (.take 13 (.alt 7 (.take 10 (.take 11 (.alt 14 (.take 15 (.take 16 (.done))) (.stop)))) (.stop)))))))) (.stop)))) (.stop))) (by kernel_rfl) (by kernel_rfl) (by kernel_rfl) (⟨⟨a0, a1⟩, b0, b1, b2, b3⟩) ?_
  simp only [fillT, List.getElem?_cons_zero, List.getElem?_cons_succ, Nat.reduceBEq]
  repeat (first
    | (with_reducible refine po_take (v := ?_) ?_ (fun w' hS' => ?_) ?_
       rotate_left
       · (go_simp; done)
       · ((try dsimp only at hS'); go_simp; try with_reducible rfl)
       simp only [Act.put, List.setIfInBounds_toArray, List.set_cons_zero, List.set_cons_succ])
    | (with_reducible refine po_skip ?_ ?_
       · (go_simp; done)
       simp only [Act.put, List.setIfInBounds_toArray, List.set_cons_zero, List.set_cons_succ]))
  with_reducible refine po_run ?_ (fun K hK => ?_) ?_
  · (go_simp; done)
  rotate_left
  · exact po_stop
  go_simp
  refine (heapValid_any _ _ _ h (hh'.below HX.below)).mono ?_
  rintro e w1 ⟨rfl, hb⟩
  rw [HY.out]
  replace HX := HX.call hb
  clear hb a0 a1 b0 b1 b2 b3
  obtain ⟨a0, a1, -, -⟩ := HX.box2 1 rfl
  obtain ⟨b0, b1, b2, b3, -, -, -, -⟩ := box4 HX 0 rfl
  refine hK.out _ _ (.inr (⟨⟨a0, a1⟩, b0, b1, b2, b3⟩)) ?_
  clear hK K
  repeat (first
    | (with_reducible refine po_take (v := ?_) ?_ (fun w' hS' => ?_) ?_
       rotate_left
       · (go_simp; done)
       · ((try dsimp only at hS'); go_simp; try with_reducible rfl)
       simp only [Act.put, List.setIfInBounds_toArray, List.set_cons_zero, List.set_cons_succ])
    | (with_reducible refine po_skip ?_ ?_
       · (go_simp; done)
       simp only [Act.put, List.setIfInBounds_toArray, List.set_cons_zero, List.set_cons_succ]))
  with_reducible refine po_run ?_ (fun K hK => ?_) ?_
  · (go_simp; done)
  rotate_left
  · exact po_stop
  go_simp
  refine (implCommandValid_any ⟨1, an, b, c⟩ _).mono ?_
  rintro e w2 ⟨rfl, hb⟩
  rw [HC.out]
  replace HX := HX.call hb
  clear hb a0 a1 b0 b1 b2 b3
  obtain ⟨a0, a1, -, -⟩ := HX.box2 1 rfl
  obtain ⟨b0, b1, b2, b3, -, -, -, -⟩ := box4 HX 0 rfl
  refine hK.out _ _ (.inr (⟨⟨a0, a1⟩, b0, b1, b2, b3⟩)) ?_
  clear hK K
  repeat (first
    | (with_reducible refine po_take (v := ?_) ?_ (fun w' hS' => ?_) ?_
       rotate_left
       · (go_simp; done)
       · ((try dsimp only at hS'); go_simp; try with_reducible rfl)
       simp only [Act.put, List.setIfInBounds_toArray, List.set_cons_zero, List.set_cons_succ])
    | (with_reducible refine po_skip ?_ ?_
       · (go_simp; done)
       simp only [Act.put, List.setIfInBounds_toArray, List.set_cons_zero, List.set_cons_succ]))
  with_reducible refine po_run ?_ (fun K hK => ?_) ?_
  · (go_simp; done)
  rotate_left
  · exact po_stop
  go_simp
  refine (operations_any _).mono ?_
  rintro e w3 ⟨rfl, hb⟩
  replace HX := HX.call hb
  clear hb a0 a1 b0 b1 b2 b3
  obtain ⟨a0, a1, -, -⟩ := HX.box2 1 rfl
  obtain ⟨b0, b1, b2, b3, -, -, -, -⟩ := box4 HX 0 rfl
  refine hK.out _ _ (.inr (⟨⟨a0, a1⟩, b0, b1, b2, b3⟩)) ?_
  clear hK K
  repeat (first
    | (with_reducible refine po_take (v := ?_) ?_ (fun w' hS' => ?_) ?_
       rotate_left
       · (go_simp; done)
       · ((try dsimp only at hS'); go_simp; try with_reducible rfl)
       simp only [Act.put, List.setIfInBounds_toArray, List.set_cons_zero, List.set_cons_succ])
    | (with_reducible refine po_skip ?_ ?_
       · (go_simp; done)
       simp only [Act.put, List.setIfInBounds_toArray, List.set_cons_zero, List.set_cons_succ]))
  with_reducible refine po_run ?_ (fun K hK => ?_) ?_
  · (go_simp; done)
  rotate_left
  · exact po_stop
  go_simp
  refine (always_any _ _ _ h (HH.out.below HX.below) ⟨1, an, b, c⟩).mono ?_
  rintro e w4 ⟨rfl, hb⟩
  replace HX := HX.call hb
  clear hb a0 a1 b0 b1 b2 b3
  obtain ⟨a0, a1, -, -⟩ := HX.box2 1 rfl
  obtain ⟨b0, b1, b2, b3, -, -, -, -⟩ := box4 HX 0 rfl
  refine hK.out _ _ (.inr (⟨⟨a0, a1⟩, b0, b1, b2, b3⟩)) ?_
  clear hK K
  repeat (first
    | (with_reducible refine po_take (v := ?_) ?_ (fun w' hS' => ?_) ?_
       rotate_left
       · (go_simp; done)
       · ((try dsimp only at hS'); go_simp; try with_reducible rfl)
       simp only [Act.put, List.setIfInBounds_toArray, List.set_cons_zero, List.set_cons_succ])
    | (with_reducible refine po_skip ?_ ?_
       · (go_simp; done)
       simp only [Act.put, List.setIfInBounds_toArray, List.set_cons_zero, List.set_cons_succ]))
  refine po_done ?_
  have HB := HX.below
  clear HX a0 a1 b0 b1 b2 b3
  go_wp2
  go_ret
  exact ⟨ret_b HF.out.symm, HB⟩
set_option maxHeartbeats 3200000 in
set_option maxRecDepth 20000 in
theorem implPoss_2 (w : World) (B : Nat) (v : Value) (h : Hp) (hh : RdH w B v h) (an bn : Nat) (c : Int) (hy : heapOk h = true) (hc : cmdOk ⟨2, an, bn, c⟩ = true) :
    Calls Try.prog 48 #[v, cmdV ⟨2, an, bn, c⟩] w fun e w' => e = .returned (.bool (mPoss h ⟨2, an, bn, c⟩)) ∧ Below w.heap.size w w' := by
  have hh' := hh.top
  obtain ⟨D, m, d, D', m', d', rfl, hC, hR⟩ := hh.top
  have GG := Go.Lib.hid (good_iff.1 hy)
  have HY := Go.Lib.hid hy
  have HC := Go.Lib.hid hc
  have hI := opsAt_2
  have hP := opsP_2
  have HH := Go.Lib.hid hh'
  have ha3 : an ≤ 3 := by have := (cmd_a hc).2; simp only at this; omega
  have hb3 : bn ≤ 3 := by have := (cmd_b hc (.inl rfl)).2; simp only at this; omega
  have hc0 : 0 ≤ c := (cmd_c hc (.inl rfl)).1
  clear hh hC hR
  have HF : Hid (mPoss h ⟨2, an, bn, c⟩ = placeB h (rootI h bn) c) := Go.Lib.hid (by rw [mPoss_yes hy hc]; simp [possB])
  have H := ((Owns.nil w).box [.slice D m d, .slice D' m' d'] 29).box [.int .i64 2, .int .i64 an, .int .i64 bn, .int .i64 c] 46
  simp only [World.size_alloc] at H
  obtain ⟨a0, a1, -, -⟩ := H.box2 1 rfl
  obtain ⟨b0, b1, b2, b3, -, -, -, -⟩ := box4 H 0 rfl
  go_enter Try.func48, Try.ntmps48
  go_wp2_with fail
  have HX := H.drew
  clear a0 a1 b0 b1 b2 b3 H
  obtain ⟨a0, a1, -, -⟩ := HX.box2 1 rfl
  obtain ⟨b0, b1, b2, b3, -, -, -, -⟩ := box4 HX 0 rfl
  refine wp_region_tree (fun w' => (w'.cell? ⟨w.heap.size, 0, none⟩ = some (.slice D m d) ∧ w'.cell? ⟨w.heap.size, 1, none⟩ = some (.slice D' m' d')) ∧ w'.cell? ⟨w.heap.size + 1, 0, none⟩ = some (.int .i64 2) ∧ w'.cell? ⟨w.heap.size + 1, 1, none⟩ = some (.int .i64 an) ∧ w'.cell? ⟨w.heap.size + 1, 2, none⟩ = some (.int .i64 bn) ∧ w'.cell? ⟨w.heap.size + 1, 3, none⟩ = some (.int .i64 c)) 17 [] (.take 0 (.alt 1 (.take 2 (.take 3 (.alt 4 (.take 5 (.take 6 (.take 8 (.take 9 (.take 12 (.take 13 (.alt 7 (.take 10 (.take 11 (.alt 14 (.take 15 (.take 16 (.done))) (.stop)))) (.stop)))))))) (.stop)))) (.stop))) (by kernel_rfl) (by kernel_rfl) (by kernel_rfl) (⟨⟨a0, a1⟩, b0, b1, b2, b3⟩) ?_
  simp only [fillT, List.getElem?_cons_zero, List.getElem?_cons_succ, Nat.reduceBEq]
  repeat (first
    | (with_reducible refine po_take (v := ?_) ?_ (fun w' hS' => ?_) ?_
       rotate_left
       · (go_simp; done)
       · ((try dsimp only at hS'); go_simp; try with_reducible rfl)
       simp only [Act.put, List.setIfInBounds_toArray, List.set_cons_zero, List.set_cons_succ])
    | (with_reducible refine po_skip ?_ ?_
       · (go_simp; done)
       simp only [Act.put, List.setIfInBounds_toArray, List.set_cons_zero, List.set_cons_succ]))
  with_reducible refine po_run ?_ (fun K hK => ?_) ?_
  · (go_simp; done)
  rotate_left
  · exact po_stop
  go_simp
  refine (heapValid_any _ _ _ h (hh'.below HX.below)).mono ?_
  rintro e w1 ⟨rfl, hb⟩
  rw [HY.out]
  replace HX := HX.call hb
  clear hb a0 a1 b0 b1 b2 b3
  obtain ⟨a0, a1, -, -⟩ := HX.box2 1 rfl
  obtain ⟨b0, b1, b2, b3, -, -, -, -⟩ := box4 HX 0 rfl
  refine hK.out _ _ (.inr (⟨⟨a0, a1⟩, b0, b1, b2, b3⟩)) ?_
  clear hK K
  repeat (first
    | (with_reducible refine po_take (v := ?_) ?_ (fun w' hS' => ?_) ?_
       rotate_left
       · (go_simp; done)
       · ((try dsimp only at hS'); go_simp; try with_reducible rfl)
       simp only [Act.put, List.setIfInBounds_toArray, List.set_cons_zero, List.set_cons_succ])
    | (with_reducible refine po_skip ?_ ?_
       · (go_simp; done)
       simp only [Act.put, List.setIfInBounds_toArray, List.set_cons_zero, List.set_cons_succ]))
  with_reducible refine po_run ?_ (fun K hK => ?_) ?_
  · (go_simp; done)
  rotate_left
  · exact po_stop
  go_simp
  refine (implCommandValid_any ⟨2, an, bn, c⟩ _).mono ?_
  rintro e w2 ⟨rfl, hb⟩
  rw [HC.out]
  replace HX := HX.call hb
  clear hb a0 a1 b0 b1 b2 b3
  obtain ⟨a0, a1, -, -⟩ := HX.box2 1 rfl
  obtain ⟨b0, b1, b2, b3, -, -, -, -⟩ := box4 HX 0 rfl
  refine hK.out _ _ (.inr (⟨⟨a0, a1⟩, b0, b1, b2, b3⟩)) ?_
  clear hK K
  repeat (first
    | (with_reducible refine po_take (v := ?_) ?_ (fun w' hS' => ?_) ?_
       rotate_left
       · (go_simp; done)
       · ((try dsimp only at hS'); go_simp; try with_reducible rfl)
       simp only [Act.put, List.setIfInBounds_toArray, List.set_cons_zero, List.set_cons_succ])
    | (with_reducible refine po_skip ?_ ?_
       · (go_simp; done)
       simp only [Act.put, List.setIfInBounds_toArray, List.set_cons_zero, List.set_cons_succ]))
  with_reducible refine po_run ?_ (fun K hK => ?_) ?_
  · (go_simp; done)
  rotate_left
  · exact po_stop
  go_simp
  refine (operations_any _).mono ?_
  rintro e w3 ⟨rfl, hb⟩
  replace HX := HX.call hb
  clear hb a0 a1 b0 b1 b2 b3
  obtain ⟨a0, a1, -, -⟩ := HX.box2 1 rfl
  obtain ⟨b0, b1, b2, b3, -, -, -, -⟩ := box4 HX 0 rfl
  refine hK.out _ _ (.inr (⟨⟨a0, a1⟩, b0, b1, b2, b3⟩)) ?_
  clear hK K
  repeat (first
    | (with_reducible refine po_take (v := ?_) ?_ (fun w' hS' => ?_) ?_
       rotate_left
       · (go_simp; done)
       · ((try dsimp only at hS'); go_simp; try with_reducible rfl)
       simp only [Act.put, List.setIfInBounds_toArray, List.set_cons_zero, List.set_cons_succ])
    | (with_reducible refine po_skip ?_ ?_
       · (go_simp; done)
       simp only [Act.put, List.setIfInBounds_toArray, List.set_cons_zero, List.set_cons_succ]))
  with_reducible refine po_run ?_ (fun K hK => ?_) ?_
  · (go_simp; done)
  rotate_left
  · exact po_stop
  go_simp
  refine (possGet_any _ _ _ h (HH.out.below HX.below) GG.out 2 an c bn (by omega) (by omega)).mono ?_
  rintro e w4 ⟨rfl, hb⟩
  replace HX := HX.call hb
  clear hb a0 a1 b0 b1 b2 b3
  obtain ⟨a0, a1, -, -⟩ := HX.box2 1 rfl
  obtain ⟨b0, b1, b2, b3, -, -, -, -⟩ := box4 HX 0 rfl
  refine hK.out _ _ (.inr (⟨⟨a0, a1⟩, b0, b1, b2, b3⟩)) ?_
  clear hK K
  repeat (first
    | (with_reducible refine po_take (v := ?_) ?_ (fun w' hS' => ?_) ?_
       rotate_left
       · (go_simp; done)
       · ((try dsimp only at hS'); go_simp; try with_reducible rfl)
       simp only [Act.put, List.setIfInBounds_toArray, List.set_cons_zero, List.set_cons_succ])
    | (with_reducible refine po_skip ?_ ?_
       · (go_simp; done)
       simp only [Act.put, List.setIfInBounds_toArray, List.set_cons_zero, List.set_cons_succ]))
  refine po_done ?_
  have HB := HX.below
  clear HX a0 a1 b0 b1 b2 b3
  go_wp2
  go_ret
  exact ⟨ret_b HF.out.symm, HB⟩
set_option maxHeartbeats 3200000 in
set_option maxRecDepth 20000 in
theorem implPoss_3 (w : World) (B : Nat) (v : Value) (h : Hp) (hh : RdH w B v h) (an : Nat) (b c : Int) (hy : heapOk h = true) (hc : cmdOk ⟨3, an, b, c⟩ = true) :
    Calls Try.prog 48 #[v, cmdV ⟨3, an, b, c⟩] w fun e w' => e = .returned (.bool (mPoss h ⟨3, an, b, c⟩)) ∧ Below w.heap.size w w' := by
  have hh' := hh.top
  obtain ⟨D, m, d, D', m', d', rfl, hC, hR⟩ := hh.top
  have GG := Go.Lib.hid (good_iff.1 hy)
  have HY := Go.Lib.hid hy
  have HC := Go.Lib.hid hc
  have hI := opsAt_3
  have hP := opsP_3
  have HH := Go.Lib.hid hh'
  have ha3 : an ≤ 3 := by have := (cmd_a hc).2; simp only at this; omega
  have hc0 : 0 ≤ c := (cmd_c hc (.inr rfl)).1
  clear hh hC hR
  have HF : Hid (mPoss h ⟨3, an, b, c⟩ = placeB h (rootI h an) c) := Go.Lib.hid (by rw [mPoss_yes hy hc]; simp [possB])
  have H := ((Owns.nil w).box [.slice D m d, .slice D' m' d'] 29).box [.int .i64 3, .int .i64 an, .int .i64 b, .int .i64 c] 46
  simp only [World.size_alloc] at H
  obtain ⟨a0, a1, -, -⟩ := H.box2 1 rfl
  obtain ⟨b0, b1, b2, b3, -, -, -, -⟩ := box4 H 0 rfl
  go_enter Try.func48, Try.ntmps48
  go_wp2_with fail
  have HX := H.drew
  clear a0 a1 b0 b1 b2 b3 H
  obtain ⟨a0, a1, -, -⟩ := HX.box2 1 rfl
  obtain ⟨b0, b1, b2, b3, -, -, -, -⟩ := box4 HX 0 rfl
  refine wp_region_tree (fun w' => (w'.cell? ⟨w.heap.size, 0, none⟩ = some (.slice D m d) ∧ w'.cell? ⟨w.heap.size, 1, none⟩ = some (.slice D' m' d')) ∧ w'.cell? ⟨w.heap.size + 1, 0, none⟩ = some (.int .i64 3) ∧ w'.cell? ⟨w.heap.size + 1, 1, none⟩ = some (.int .i64 an) ∧ w'.cell? ⟨w.heap.size + 1, 2, none⟩ = some (.int .i64 b) ∧ w'.cell? ⟨w.heap.size + 1, 3, none⟩ = some (.int .i64 c)) 17 [] (.take 0 (.alt 1 (.take 2 (.take 3 (.alt 4 (.take 5 (.take 6 (.take 8 (.take 9 (.take 12 (.take 13 (.alt 7 (.take 10 (.take 11 (.alt 14 (.take 15 (.take 16 (.done))) (.stop)))) (.stop)))))))) (.stop)))) (.stop))) (by kernel_rfl) (by kernel_rfl) (by kernel_rfl) (⟨⟨a0, a1⟩, b0, b1, b2, b3⟩) ?_
  simp only [fillT, List.getElem?_cons_zero, List.getElem?_cons_succ, Nat.reduceBEq]
  repeat (first
    | (with_reducible refine po_take (v := ?_) ?_ (fun w' hS' => ?_) ?_
       rotate_left
       · (go_simp; done)
       · ((try dsimp only at hS'); go_simp; try with_reducible rfl)
       simp only [Act.put, List.setIfInBounds_toArray, List.set_cons_zero, List.set_cons_succ])
    | (with_reducible refine po_skip ?_ ?_
       · (go_simp; done)
       simp only [Act.put, List.setIfInBounds_toArray, List.set_cons_zero, List.set_cons_succ]))
  with_reducible refine po_run ?_ (fun K hK => ?_) ?_
  · (go_simp; done)
  rotate_left
  · exact po_stop
  go_simp
  refine (heapValid_any _ _ _ h (hh'.below HX.below)).mono ?_
  rintro e w1 ⟨rfl, hb⟩
  rw [HY.out]
  replace HX := HX.call hb
  clear hb a0 a1 b0 b1 b2 b3
  obtain ⟨a0, a1, -, -⟩ := HX.box2 1 rfl
  obtain ⟨b0, b1, b2, b3, -, -, -, -⟩ := box4 HX 0 rfl
  refine hK.out _ _ (.inr (⟨⟨a0, a1⟩, b0, b1, b2, b3⟩)) ?_
  clear hK K
  repeat (first
    | (with_reducible refine po_take (v := ?_) ?_ (fun w' hS' => ?_) ?_
       rotate_left
       · (go_simp; done)
       · ((try dsimp only at hS'); go_simp; try with_reducible rfl)
       simp only [Act.put, List.setIfInBounds_toArray, List.set_cons_zero, List.set_cons_succ])
    | (with_reducible refine po_skip ?_ ?_
       · (go_simp; done)
       simp only [Act.put, List.setIfInBounds_toArray, List.set_cons_zero, List.set_cons_succ]))
  with_reducible refine po_run ?_ (fun K hK => ?_) ?_
  · (go_simp; done)
  rotate_left
  · exact po_stop
  go_simp
  refine (implCommandValid_any ⟨3, an, b, c⟩ _).mono ?_
  rintro e w2 ⟨rfl, hb⟩
  rw [HC.out]
  replace HX := HX.call hb
  clear hb a0 a1 b0 b1 b2 b3
  obtain ⟨a0, a1, -, -⟩ := HX.box2 1 rfl
  obtain ⟨b0, b1, b2, b3, -, -, -, -⟩ := box4 HX 0 rfl
  refine hK.out _ _ (.inr (⟨⟨a0, a1⟩, b0, b1, b2, b3⟩)) ?_
  clear hK K
  repeat (first
    | (with_reducible refine po_take (v := ?_) ?_ (fun w' hS' => ?_) ?_
       rotate_left
       · (go_simp; done)
       · ((try dsimp only at hS'); go_simp; try with_reducible rfl)
       simp only [Act.put, List.setIfInBounds_toArray, List.set_cons_zero, List.set_cons_succ])
    | (with_reducible refine po_skip ?_ ?_
       · (go_simp; done)
       simp only [Act.put, List.setIfInBounds_toArray, List.set_cons_zero, List.set_cons_succ]))
  with_reducible refine po_run ?_ (fun K hK => ?_) ?_
  · (go_simp; done)
  rotate_left
  · exact po_stop
  go_simp
  refine (operations_any _).mono ?_
  rintro e w3 ⟨rfl, hb⟩
  replace HX := HX.call hb
  clear hb a0 a1 b0 b1 b2 b3
  obtain ⟨a0, a1, -, -⟩ := HX.box2 1 rfl
  obtain ⟨b0, b1, b2, b3, -, -, -, -⟩ := box4 HX 0 rfl
  refine hK.out _ _ (.inr (⟨⟨a0, a1⟩, b0, b1, b2, b3⟩)) ?_
  clear hK K
  repeat (first
    | (with_reducible refine po_take (v := ?_) ?_ (fun w' hS' => ?_) ?_
       rotate_left
       · (go_simp; done)
       · ((try dsimp only at hS'); go_simp; try with_reducible rfl)
       simp only [Act.put, List.setIfInBounds_toArray, List.set_cons_zero, List.set_cons_succ])
    | (with_reducible refine po_skip ?_ ?_
       · (go_simp; done)
       simp only [Act.put, List.setIfInBounds_toArray, List.set_cons_zero, List.set_cons_succ]))
  with_reducible refine po_run ?_ (fun K hK => ?_) ?_
  · (go_simp; done)
  rotate_left
  · exact po_stop
  go_simp
  refine (possSet_any _ _ _ h (HH.out.below HX.below) GG.out 3 b c an (by omega) (by omega)).mono ?_
  rintro e w4 ⟨rfl, hb⟩
  replace HX := HX.call hb
  clear hb a0 a1 b0 b1 b2 b3
  obtain ⟨a0, a1, -, -⟩ := HX.box2 1 rfl
  obtain ⟨b0, b1, b2, b3, -, -, -, -⟩ := box4 HX 0 rfl
  refine hK.out _ _ (.inr (⟨⟨a0, a1⟩, b0, b1, b2, b3⟩)) ?_
  clear hK K
  repeat (first
    | (with_reducible refine po_take (v := ?_) ?_ (fun w' hS' => ?_) ?_
       rotate_left
       · (go_simp; done)
       · ((try dsimp only at hS'); go_simp; try with_reducible rfl)
       simp only [Act.put, List.setIfInBounds_toArray, List.set_cons_zero, List.set_cons_succ])
    | (with_reducible refine po_skip ?_ ?_
       · (go_simp; done)
       simp only [Act.put, List.setIfInBounds_toArray, List.set_cons_zero, List.set_cons_succ]))
  refine po_done ?_
  have HB := HX.below
  clear HX a0 a1 b0 b1 b2 b3
  go_wp2
  go_ret
  exact ⟨ret_b HF.out.symm, HB⟩
set_option maxHeartbeats 3200000 in
set_option maxRecDepth 20000 in
theorem implPoss_4 (w : World) (B : Nat) (v : Value) (h : Hp) (hh : RdH w B v h) (an : Nat) (b c : Int) (hy : heapOk h = true) (hc : cmdOk ⟨4, an, b, c⟩ = true) :
    Calls Try.prog 48 #[v, cmdV ⟨4, an, b, c⟩] w fun e w' => e = .returned (.bool (mPoss h ⟨4, an, b, c⟩)) ∧ Below w.heap.size w w' := by
  have hh' := hh.top
  obtain ⟨D, m, d, D', m', d', rfl, hC, hR⟩ := hh.top
  have GG := Go.Lib.hid (good_iff.1 hy)
  have HY := Go.Lib.hid hy
  have HC := Go.Lib.hid hc
  have hI := opsAt_4
  have hP := opsP_4
  have HH := Go.Lib.hid hh'
  have ha3 : an ≤ 3 := by have := (cmd_a hc).2; simp only at this; omega
  clear hh hC hR
  have HF : Hid (mPoss h ⟨4, an, b, c⟩ = true) := Go.Lib.hid (by rw [mPoss_yes hy hc]; simp [possB])
  have H := ((Owns.nil w).box [.slice D m d, .slice D' m' d'] 29).box [.int .i64 4, .int .i64 an, .int .i64 b, .int .i64 c] 46
  simp only [World.size_alloc] at H
  obtain ⟨a0, a1, -, -⟩ := H.box2 1 rfl
  obtain ⟨b0, b1, b2, b3, -, -, -, -⟩ := box4 H 0 rfl
  go_enter Try.func48, Try.ntmps48
  go_wp2_with fail
  have HX := H.drew
  clear a0 a1 b0 b1 b2 b3 H
  obtain ⟨a0, a1, -, -⟩ := HX.box2 1 rfl
  obtain ⟨b0, b1, b2, b3, -, -, -, -⟩ := box4 HX 0 rfl
  refine wp_region_tree (fun w' => (w'.cell? ⟨w.heap.size, 0, none⟩ = some (.slice D m d) ∧ w'.cell? ⟨w.heap.size, 1, none⟩ = some (.slice D' m' d')) ∧ w'.cell? ⟨w.heap.size + 1, 0, none⟩ = some (.int .i64 4) ∧ w'.cell? ⟨w.heap.size + 1, 1, none⟩ = some (.int .i64 an) ∧ w'.cell? ⟨w.heap.size + 1, 2, none⟩ = some (.int .i64 b) ∧ w'.cell? ⟨w.heap.size + 1, 3, none⟩ = some (.int .i64 c)) 17 [] (.take 0 (.alt 1 (.take 2 (.take 3 (.alt 4 (.take 5 (.take 6 (.take 8 (.take 9 (.take 12 (.take 13 (.alt 7 (.take 10 (.take 11 (.alt 14 (.take 15 (.take 16 (.done))) (.stop)))) (.stop)))))))) (.stop)))) (.stop))) (by kernel_rfl) (by kernel_rfl) (by kernel_rfl) (⟨⟨a0, a1⟩, b0, b1, b2, b3⟩) ?_
  simp only [fillT, List.getElem?_cons_zero, List.getElem?_cons_succ, Nat.reduceBEq]
  repeat (first
    | (with_reducible refine po_take (v := ?_) ?_ (fun w' hS' => ?_) ?_
       rotate_left
       · (go_simp; done)
       · ((try dsimp only at hS'); go_simp; try with_reducible rfl)
       simp only [Act.put, List.setIfInBounds_toArray, List.set_cons_zero, List.set_cons_succ])
    | (with_reducible refine po_skip ?_ ?_
       · (go_simp; done)
       simp only [Act.put, List.setIfInBounds_toArray, List.set_cons_zero, List.set_cons_succ]))
  with_reducible refine po_run ?_ (fun K hK => ?_) ?_
  · (go_simp; done)
  rotate_left
  · exact po_stop
  go_simp
  refine (heapValid_any _ _ _ h (hh'.below HX.below)).mono ?_
  rintro e w1 ⟨rfl, hb⟩
  rw [HY.out]
  replace HX := HX.call hb
  clear hb a0 a1 b0 b1 b2 b3
  obtain ⟨a0, a1, -, -⟩ := HX.box2 1 rfl
  obtain ⟨b0, b1, b2, b3, -, -, -, -⟩ := box4 HX 0 rfl
  refine hK.out _ _ (.inr (⟨⟨a0, a1⟩, b0, b1, b2, b3⟩)) ?_
  clear hK K
  repeat (first
    | (with_reducible refine po_take (v := ?_) ?_ (fun w' hS' => ?_) ?_
       rotate_left
       · (go_simp; done)
       · ((try dsimp only at hS'); go_simp; try with_reducible rfl)
       simp only [Act.put, List.setIfInBounds_toArray, List.set_cons_zero, List.set_cons_succ])
    | (with_reducible refine po_skip ?_ ?_
       · (go_simp; done)
       simp only [Act.put, List.setIfInBounds_toArray, List.set_cons_zero, List.set_cons_succ]))
  with_reducible refine po_run ?_ (fun K hK => ?_) ?_
  · (go_simp; done)
  rotate_left
  · exact po_stop
  go_simp
  refine (implCommandValid_any ⟨4, an, b, c⟩ _).mono ?_
  rintro e w2 ⟨rfl, hb⟩
  rw [HC.out]
  replace HX := HX.call hb
  clear hb a0 a1 b0 b1 b2 b3
  obtain ⟨a0, a1, -, -⟩ := HX.box2 1 rfl
  obtain ⟨b0, b1, b2, b3, -, -, -, -⟩ := box4 HX 0 rfl
  refine hK.out _ _ (.inr (⟨⟨a0, a1⟩, b0, b1, b2, b3⟩)) ?_
  clear hK K
  repeat (first
    | (with_reducible refine po_take (v := ?_) ?_ (fun w' hS' => ?_) ?_
       rotate_left
       · (go_simp; done)
       · ((try dsimp only at hS'); go_simp; try with_reducible rfl)
       simp only [Act.put, List.setIfInBounds_toArray, List.set_cons_zero, List.set_cons_succ])
    | (with_reducible refine po_skip ?_ ?_
       · (go_simp; done)
       simp only [Act.put, List.setIfInBounds_toArray, List.set_cons_zero, List.set_cons_succ]))
  with_reducible refine po_run ?_ (fun K hK => ?_) ?_
  · (go_simp; done)
  rotate_left
  · exact po_stop
  go_simp
  refine (operations_any _).mono ?_
  rintro e w3 ⟨rfl, hb⟩
  replace HX := HX.call hb
  clear hb a0 a1 b0 b1 b2 b3
  obtain ⟨a0, a1, -, -⟩ := HX.box2 1 rfl
  obtain ⟨b0, b1, b2, b3, -, -, -, -⟩ := box4 HX 0 rfl
  refine hK.out _ _ (.inr (⟨⟨a0, a1⟩, b0, b1, b2, b3⟩)) ?_
  clear hK K
  repeat (first
    | (with_reducible refine po_take (v := ?_) ?_ (fun w' hS' => ?_) ?_
       rotate_left
       · (go_simp; done)
       · ((try dsimp only at hS'); go_simp; try with_reducible rfl)
       simp only [Act.put, List.setIfInBounds_toArray, List.set_cons_zero, List.set_cons_succ])
    | (with_reducible refine po_skip ?_ ?_
       · (go_simp; done)
       simp only [Act.put, List.setIfInBounds_toArray, List.set_cons_zero, List.set_cons_succ]))
  with_reducible refine po_run ?_ (fun K hK => ?_) ?_
  · (go_simp; done)
  rotate_left
  · exact po_stop
  go_simp
  refine (always_any _ _ _ h (HH.out.below HX.below) ⟨4, an, b, c⟩).mono ?_
  rintro e w4 ⟨rfl, hb⟩
  replace HX := HX.call hb
  clear hb a0 a1 b0 b1 b2 b3
  obtain ⟨a0, a1, -, -⟩ := HX.box2 1 rfl
  obtain ⟨b0, b1, b2, b3, -, -, -, -⟩ := box4 HX 0 rfl
  refine hK.out _ _ (.inr (⟨⟨a0, a1⟩, b0, b1, b2, b3⟩)) ?_
  clear hK K
  repeat (first
    | (with_reducible refine po_take (v := ?_) ?_ (fun w' hS' => ?_) ?_
       rotate_left
       · (go_simp; done)
       · ((try dsimp only at hS'); go_simp; try with_reducible rfl)
       simp only [Act.put, List.setIfInBounds_toArray, List.set_cons_zero, List.set_cons_succ])
    | (with_reducible refine po_skip ?_ ?_
       · (go_simp; done)
       simp only [Act.put, List.setIfInBounds_toArray, List.set_cons_zero, List.set_cons_succ]))
  refine po_done ?_
  have HB := HX.below
  clear HX a0 a1 b0 b1 b2 b3
  go_wp2
  go_ret
  exact ⟨ret_b HF.out.symm, HB⟩
set_option maxHeartbeats 3200000 in
set_option maxRecDepth 20000 in
theorem implPoss_5 (w : World) (B : Nat) (v : Value) (h : Hp) (hh : RdH w B v h) (an : Nat) (b c : Int) (hy : heapOk h = true) (hc : cmdOk ⟨5, an, b, c⟩ = true) :
    Calls Try.prog 48 #[v, cmdV ⟨5, an, b, c⟩] w fun e w' => e = .returned (.bool (mPoss h ⟨5, an, b, c⟩)) ∧ Below w.heap.size w w' := by
  have hh' := hh.top
  obtain ⟨D, m, d, D', m', d', rfl, hC, hR⟩ := hh.top
  have GG := Go.Lib.hid (good_iff.1 hy)
  have HY := Go.Lib.hid hy
  have HC := Go.Lib.hid hc
  have hI := opsAt_5
  have hP := opsP_5
  have HH := Go.Lib.hid hh'
  have ha3 : an ≤ 3 := by have := (cmd_a hc).2; simp only at this; omega
  clear hh hC hR
  have HF : Hid (mPoss h ⟨5, an, b, c⟩ = true) := Go.Lib.hid (by rw [mPoss_yes hy hc]; simp [possB])
  have H := ((Owns.nil w).box [.slice D m d, .slice D' m' d'] 29).box [.int .i64 5, .int .i64 an, .int .i64 b, .int .i64 c] 46
  simp only [World.size_alloc] at H
  obtain ⟨a0, a1, -, -⟩ := H.box2 1 rfl
  obtain ⟨b0, b1, b2, b3, -, -, -, -⟩ := box4 H 0 rfl
  go_enter Try.func48, Try.ntmps48
  go_wp2_with fail
  have HX := H.drew
  clear a0 a1 b0 b1 b2 b3 H
  obtain ⟨a0, a1, -, -⟩ := HX.box2 1 rfl
  obtain ⟨b0, b1, b2, b3, -, -, -, -⟩ := box4 HX 0 rfl
  refine wp_region_tree (fun w' => (w'.cell? ⟨w.heap.size, 0, none⟩ = some (.slice D m d) ∧ w'.cell? ⟨w.heap.size, 1, none⟩ = some (.slice D' m' d')) ∧ w'.cell? ⟨w.heap.size + 1, 0, none⟩ = some (.int .i64 5) ∧ w'.cell? ⟨w.heap.size + 1, 1, none⟩ = some (.int .i64 an) ∧ w'.cell? ⟨w.heap.size + 1, 2, none⟩ = some (.int .i64 b) ∧ w'.cell? ⟨w.heap.size + 1, 3, none⟩ = some (.int .i64 c)) 17 [] (.take 0 (.alt 1 (.take 2 (.take 3 (.alt 4 (.take 5 (.take 6 (.take 8 (.take 9 (.take 12 (.take 13 (.alt 7 (.take 10 (.take 11 (.alt 14 (.take 15 (.take 16 (.done))) (.stop)))) (.stop)))))))) (.stop)))) (.stop))) (by kernel_rfl) (by kernel_rfl) (by kernel_rfl) (⟨⟨a0, a1⟩, b0, b1, b2, b3⟩) ?_
  simp only [fillT, List.getElem?_cons_zero, List.getElem?_cons_succ, Nat.reduceBEq]
  repeat (first
    | (with_reducible refine po_take (v := ?_) ?_ (fun w' hS' => ?_) ?_
       rotate_left
       · (go_simp; done)
       · ((try dsimp only at hS'); go_simp; try with_reducible rfl)
       simp only [Act.put, List.setIfInBounds_toArray, List.set_cons_zero, List.set_cons_succ])
    | (with_reducible refine po_skip ?_ ?_
       · (go_simp; done)
       simp only [Act.put, List.setIfInBounds_toArray, List.set_cons_zero, List.set_cons_succ]))
  with_reducible refine po_run ?_ (fun K hK => ?_) ?_
  · (go_simp; done)
  rotate_left
  · exact po_stop
  go_simp
  refine (heapValid_any _ _ _ h (hh'.below HX.below)).mono ?_
  rintro e w1 ⟨rfl, hb⟩
  rw [HY.out]
  replace HX := HX.call hb
  clear hb a0 a1 b0 b1 b2 b3
  obtain ⟨a0, a1, -, -⟩ := HX.box2 1 rfl
  obtain ⟨b0, b1, b2, b3, -, -, -, -⟩ := box4 HX 0 rfl
  refine hK.out _ _ (.inr (⟨⟨a0, a1⟩, b0, b1, b2, b3⟩)) ?_
  clear hK K
  repeat (first
    | (with_reducible refine po_take (v := ?_) ?_ (fun w' hS' => ?_) ?_
       rotate_left
       · (go_simp; done)
       · ((try dsimp only at hS'); go_simp; try with_reducible rfl)
       simp only [Act.put, List.setIfInBounds_toArray, List.set_cons_zero, List.set_cons_succ])
    | (with_reducible refine po_skip ?_ ?_
       · (go_simp; done)
       simp only [Act.put, List.setIfInBounds_toArray, List.set_cons_zero, List.set_cons_succ]))
  with_reducible refine po_run ?_ (fun K hK => ?_) ?_
  · (go_simp; done)
  rotate_left
  · exact po_stop
  go_simp
  refine (implCommandValid_any ⟨5, an, b, c⟩ _).mono ?_
  rintro e w2 ⟨rfl, hb⟩
  rw [HC.out]
  replace HX := HX.call hb
  clear hb a0 a1 b0 b1 b2 b3
  obtain ⟨a0, a1, -, -⟩ := HX.box2 1 rfl
  obtain ⟨b0, b1, b2, b3, -, -, -, -⟩ := box4 HX 0 rfl
  refine hK.out _ _ (.inr (⟨⟨a0, a1⟩, b0, b1, b2, b3⟩)) ?_
  clear hK K
  repeat (first
    | (with_reducible refine po_take (v := ?_) ?_ (fun w' hS' => ?_) ?_
       rotate_left
       · (go_simp; done)
       · ((try dsimp only at hS'); go_simp; try with_reducible rfl)
       simp only [Act.put, List.setIfInBounds_toArray, List.set_cons_zero, List.set_cons_succ])
    | (with_reducible refine po_skip ?_ ?_
       · (go_simp; done)
       simp only [Act.put, List.setIfInBounds_toArray, List.set_cons_zero, List.set_cons_succ]))
  with_reducible refine po_run ?_ (fun K hK => ?_) ?_
  · (go_simp; done)
  rotate_left
  · exact po_stop
  go_simp
  refine (operations_any _).mono ?_
  rintro e w3 ⟨rfl, hb⟩
  replace HX := HX.call hb
  clear hb a0 a1 b0 b1 b2 b3
  obtain ⟨a0, a1, -, -⟩ := HX.box2 1 rfl
  obtain ⟨b0, b1, b2, b3, -, -, -, -⟩ := box4 HX 0 rfl
  refine hK.out _ _ (.inr (⟨⟨a0, a1⟩, b0, b1, b2, b3⟩)) ?_
  clear hK K
  repeat (first
    | (with_reducible refine po_take (v := ?_) ?_ (fun w' hS' => ?_) ?_
       rotate_left
       · (go_simp; done)
       · ((try dsimp only at hS'); go_simp; try with_reducible rfl)
       simp only [Act.put, List.setIfInBounds_toArray, List.set_cons_zero, List.set_cons_succ])
    | (with_reducible refine po_skip ?_ ?_
       · (go_simp; done)
       simp only [Act.put, List.setIfInBounds_toArray, List.set_cons_zero, List.set_cons_succ]))
  with_reducible refine po_run ?_ (fun K hK => ?_) ?_
  · (go_simp; done)
  rotate_left
  · exact po_stop
  go_simp
  refine (always_any _ _ _ h (HH.out.below HX.below) ⟨5, an, b, c⟩).mono ?_
  rintro e w4 ⟨rfl, hb⟩
  replace HX := HX.call hb
  clear hb a0 a1 b0 b1 b2 b3
  obtain ⟨a0, a1, -, -⟩ := HX.box2 1 rfl
  obtain ⟨b0, b1, b2, b3, -, -, -, -⟩ := box4 HX 0 rfl
  refine hK.out _ _ (.inr (⟨⟨a0, a1⟩, b0, b1, b2, b3⟩)) ?_
  clear hK K
  repeat (first
    | (with_reducible refine po_take (v := ?_) ?_ (fun w' hS' => ?_) ?_
       rotate_left
       · (go_simp; done)
       · ((try dsimp only at hS'); go_simp; try with_reducible rfl)
       simp only [Act.put, List.setIfInBounds_toArray, List.set_cons_zero, List.set_cons_succ])
    | (with_reducible refine po_skip ?_ ?_
       · (go_simp; done)
       simp only [Act.put, List.setIfInBounds_toArray, List.set_cons_zero, List.set_cons_succ]))
  refine po_done ?_
  have HB := HX.below
  clear HX a0 a1 b0 b1 b2 b3
  go_wp2
  go_ret
  exact ⟨ret_b HF.out.symm, HB⟩
set_option maxHeartbeats 3200000 in
set_option maxRecDepth 20000 in
theorem implPoss_6 (w : World) (B : Nat) (v : Value) (h : Hp) (hh : RdH w B v h) (an : Nat) (b c : Int) (hy : heapOk h = true) (hc : cmdOk ⟨6, an, b, c⟩ = true) :
    Calls Try.prog 48 #[v, cmdV ⟨6, an, b, c⟩] w fun e w' => e = .returned (.bool (mPoss h ⟨6, an, b, c⟩)) ∧ Below w.heap.size w w' := by
  have hh' := hh.top
  obtain ⟨D, m, d, D', m', d', rfl, hC, hR⟩ := hh.top
  have GG := Go.Lib.hid (good_iff.1 hy)
  have HY := Go.Lib.hid hy
  have HC := Go.Lib.hid hc
  have hI := opsAt_6
  have hP := opsP_6
  have HH := Go.Lib.hid hh'
  have ha3 : an ≤ 3 := by have := (cmd_a hc).2; simp only at this; omega
  clear hh hC hR
  have HF : Hid (mPoss h ⟨6, an, b, c⟩ = decide (0 ≤ rootI h an)) := Go.Lib.hid (by rw [mPoss_yes hy hc]; simp [possB])
  have H := ((Owns.nil w).box [.slice D m d, .slice D' m' d'] 29).box [.int .i64 6, .int .i64 an, .int .i64 b, .int .i64 c] 46
  simp only [World.size_alloc] at H
  obtain ⟨a0, a1, -, -⟩ := H.box2 1 rfl
  obtain ⟨b0, b1, b2, b3, -, -, -, -⟩ := box4 H 0 rfl
  go_enter Try.func48, Try.ntmps48
  go_wp2_with fail
  have HX := H.drew
  clear a0 a1 b0 b1 b2 b3 H
  obtain ⟨a0, a1, -, -⟩ := HX.box2 1 rfl
  obtain ⟨b0, b1, b2, b3, -, -, -, -⟩ := box4 HX 0 rfl
  refine wp_region_tree (fun w' => (w'.cell? ⟨w.heap.size, 0, none⟩ = some (.slice D m d) ∧ w'.cell? ⟨w.heap.size, 1, none⟩ = some (.slice D' m' d')) ∧ w'.cell? ⟨w.heap.size + 1, 0, none⟩ = some (.int .i64 6) ∧ w'.cell? ⟨w.heap.size + 1, 1, none⟩ = some (.int .i64 an) ∧ w'.cell? ⟨w.heap.size + 1, 2, none⟩ = some (.int .i64 b) ∧ w'.cell? ⟨w.heap.size + 1, 3, none⟩ = some (.int .i64 c)) 17 [] (.take 0 (.alt 1 (.take 2 (.take 3 (.alt 4 (.take 5 (.take 6 (.take 8 (.take 9 (.take 12 (.take 13 (.alt 7 (.take 10 (.take 11 (.alt 14 (.take 15 (.take 16 (.done))) (.stop)))) (.stop)))))))) (.stop)))) (.stop))) (by kernel_rfl) (by kernel_rfl) (by kernel_rfl) (⟨⟨a0, a1⟩, b0, b1, b2, b3⟩) ?_
  simp only [fillT, List.getElem?_cons_zero, List.getElem?_cons_succ, Nat.reduceBEq]
  repeat (first
    | (with_reducible refine po_take (v := ?_) ?_ (fun w' hS' => ?_) ?_
       rotate_left
       · (go_simp; done)
       · ((try dsimp only at hS'); go_simp; try with_reducible rfl)
       simp only [Act.put, List.setIfInBounds_toArray, List.set_cons_zero, List.set_cons_succ])
    | (with_reducible refine po_skip ?_ ?_
       · (go_simp; done)
       simp only [Act.put, List.setIfInBounds_toArray, List.set_cons_zero, List.set_cons_succ]))
  with_reducible refine po_run ?_ (fun K hK => ?_) ?_
  · (go_simp; done)
  rotate_left
  · exact po_stop
  go_simp
  refine (heapValid_any _ _ _ h (hh'.below HX.below)).mono ?_
  rintro e w1 ⟨rfl, hb⟩
  rw [HY.out]
  replace HX := HX.call hb
  clear hb a0 a1 b0 b1 b2 b3
  obtain ⟨a0, a1, -, -⟩ := HX.box2 1 rfl
  obtain ⟨b0, b1, b2, b3, -, -, -, -⟩ := box4 HX 0 rfl
  refine hK.out _ _ (.inr (⟨⟨a0, a1⟩, b0, b1, b2, b3⟩)) ?_
  clear hK K
  repeat (first
    | (with_reducible refine po_take (v := ?_) ?_ (fun w' hS' => ?_) ?_
       rotate_left
       · (go_simp; done)
       · ((try dsimp only at hS'); go_simp; try with_reducible rfl)
       simp only [Act.put, List.setIfInBounds_toArray, List.set_cons_zero, List.set_cons_succ])
    | (with_reducible refine po_skip ?_ ?_
       · (go_simp; done)
       simp only [Act.put, List.setIfInBounds_toArray, List.set_cons_zero, List.set_cons_succ]))
  with_reducible refine po_run ?_ (fun K hK => ?_) ?_
  · (go_simp; done)
  rotate_left
  · exact po_stop
  go_simp
  refine (implCommandValid_any ⟨6, an, b, c⟩ _).mono ?_
  rintro e w2 ⟨rfl, hb⟩
  rw [HC.out]
  replace HX := HX.call hb
  clear hb a0 a1 b0 b1 b2 b3
  obtain ⟨a0, a1, -, -⟩ := HX.box2 1 rfl
  obtain ⟨b0, b1, b2, b3, -, -, -, -⟩ := box4 HX 0 rfl
  refine hK.out _ _ (.inr (⟨⟨a0, a1⟩, b0, b1, b2, b3⟩)) ?_
  clear hK K
  repeat (first
    | (with_reducible refine po_take (v := ?_) ?_ (fun w' hS' => ?_) ?_
       rotate_left
       · (go_simp; done)
       · ((try dsimp only at hS'); go_simp; try with_reducible rfl)
       simp only [Act.put, List.setIfInBounds_toArray, List.set_cons_zero, List.set_cons_succ])
    | (with_reducible refine po_skip ?_ ?_
       · (go_simp; done)
       simp only [Act.put, List.setIfInBounds_toArray, List.set_cons_zero, List.set_cons_succ]))
  with_reducible refine po_run ?_ (fun K hK => ?_) ?_
  · (go_simp; done)
  rotate_left
  · exact po_stop
  go_simp
  refine (operations_any _).mono ?_
  rintro e w3 ⟨rfl, hb⟩
  replace HX := HX.call hb
  clear hb a0 a1 b0 b1 b2 b3
  obtain ⟨a0, a1, -, -⟩ := HX.box2 1 rfl
  obtain ⟨b0, b1, b2, b3, -, -, -, -⟩ := box4 HX 0 rfl
  refine hK.out _ _ (.inr (⟨⟨a0, a1⟩, b0, b1, b2, b3⟩)) ?_
  clear hK K
  repeat (first
    | (with_reducible refine po_take (v := ?_) ?_ (fun w' hS' => ?_) ?_
       rotate_left
       · (go_simp; done)
       · ((try dsimp only at hS'); go_simp; try with_reducible rfl)
       simp only [Act.put, List.setIfInBounds_toArray, List.set_cons_zero, List.set_cons_succ])
    | (with_reducible refine po_skip ?_ ?_
       · (go_simp; done)
       simp only [Act.put, List.setIfInBounds_toArray, List.set_cons_zero, List.set_cons_succ]))
  with_reducible refine po_run ?_ (fun K hK => ?_) ?_
  · (go_simp; done)
  rotate_left
  · exact po_stop
  go_simp
  refine (possData_any _ _ _ h (HH.out.below HX.below) GG.out 6 b c an (by omega)).mono ?_
  rintro e w4 ⟨rfl, hb⟩
  replace HX := HX.call hb
  clear hb a0 a1 b0 b1 b2 b3
  obtain ⟨a0, a1, -, -⟩ := HX.box2 1 rfl
  obtain ⟨b0, b1, b2, b3, -, -, -, -⟩ := box4 HX 0 rfl
  refine hK.out _ _ (.inr (⟨⟨a0, a1⟩, b0, b1, b2, b3⟩)) ?_
  clear hK K
  repeat (first
    | (with_reducible refine po_take (v := ?_) ?_ (fun w' hS' => ?_) ?_
       rotate_left
       · (go_simp; done)
       · ((try dsimp only at hS'); go_simp; try with_reducible rfl)
       simp only [Act.put, List.setIfInBounds_toArray, List.set_cons_zero, List.set_cons_succ])
    | (with_reducible refine po_skip ?_ ?_
       · (go_simp; done)
       simp only [Act.put, List.setIfInBounds_toArray, List.set_cons_zero, List.set_cons_succ]))
  refine po_done ?_
  have HB := HX.below
  clear HX a0 a1 b0 b1 b2 b3
  go_wp2
  go_ret
  exact ⟨ret_b HF.out.symm, HB⟩
theorem implPossible_any (w : World) (B : Nat) (v : Value) (h : Hp) (hh : RdH w B v h) (o : Cmd) :
    Calls Try.prog 48 #[v, cmdV o] w fun e w' => e = .returned (.bool (mPoss h o)) ∧ Below w.heap.size w w' := by
  obtain ⟨op, a, b, c⟩ := o
  cases hy : heapOk h
  · exact implPoss_n1 w B v h hh op a b c hy
  cases hc : cmdOk ⟨op, a, b, c⟩
  · exact implPoss_n2 w B v h hh op a b c hy hc
  obtain ⟨an, rfl⟩ := Int.eq_ofNat_of_zero_le (cmd_a hc).1
  by_cases h1 : op = 1
  · subst h1; exact implPoss_1 w B v h hh an b c hy hc
  by_cases h2 : op = 2
  · subst h2
    obtain ⟨bn, rfl⟩ := Int.eq_ofNat_of_zero_le (cmd_b hc (.inl rfl)).1
    exact implPoss_2 w B v h hh an bn c hy hc
  by_cases h3 : op = 3
  · subst h3; exact implPoss_3 w B v h hh an b c hy hc
  by_cases h4 : op = 4
  · subst h4; exact implPoss_4 w B v h hh an b c hy hc
  by_cases h5 : op = 5
  · subst h5; exact implPoss_5 w B v h hh an b c hy hc
  by_cases h6 : op = 6
  · subst h6; exact implPoss_6 w B v h hh an b c hy hc
  exact absurd hc (by rw [cmdOk0 _ _ _ ⟨h1, h2, h3, h4, h5, h6⟩]; exact Bool.false_ne_true)
end Go.Proofs.Ytdkpfggfkhnjfaa
