/- The program's test of an instruction. For every instruction. Printed by gencv.py. -/
import Derived.Test.YtdkpfggfkhnjfaaOv
import Derived.Test.YtdkpfggfkhnjfaaZ2
import Derived.Test.YtdkpfggfkhnjfaaZ0
namespace Go.Proofs.Ytdkpfggfkhnjfaa
open Go.RowKit
theorem cmdOk_tests {k a b c : Int} {bk ck : Int} (e : cmdOk ⟨k, a, b, c⟩ = (inR a 0 3 && inR b 0 bk && inR c 0 ck)) :
    (a < 0 → cmdOk ⟨k, a, b, c⟩ = false) ∧ (¬ a < 4 → cmdOk ⟨k, a, b, c⟩ = false) ∧ (b < 0 → cmdOk ⟨k, a, b, c⟩ = false) ∧ (bk < b → cmdOk ⟨k, a, b, c⟩ = false) ∧ (c < 0 → cmdOk ⟨k, a, b, c⟩ = false) ∧ (ck < c → cmdOk ⟨k, a, b, c⟩ = false) ∧ (0 ≤ a → a < 4 → 0 ≤ b → b ≤ bk → 0 ≤ c → c ≤ ck → cmdOk ⟨k, a, b, c⟩ = true) := by
  rw [e]
  simp only [inR]
  refine ⟨fun h => ?_, fun h => ?_, fun h => ?_, fun h => ?_, fun h => ?_, fun h => ?_, fun h1 h2 h3 h4 h5 h6 => ?_⟩
  · simp; omega
  · simp; omega
  · simp; omega
  · simp; omega
  · simp; omega
  · simp; omega
  · simp; omega
theorem cmdOk_t1 (a b c : Int) : cmdOk ⟨1, a, b, c⟩ = (inR a 0 3 && inR b 0 3 && inR c 0 99) := cmdOk1 a b c
theorem cmdOk_t2 (a b c : Int) : cmdOk ⟨2, a, b, c⟩ = (inR a 0 3 && inR b 0 3 && inR c 0 2) := cmdOk2 a b c
theorem cmdOk_t3 (a b c : Int) : cmdOk ⟨3, a, b, c⟩ = (inR a 0 3 && inR b 0 3 && inR c 0 2) := cmdOk3 a b c
theorem inR_0 (c : Int) : inR c 0 0 = (c == 0) := by
  rw [Bool.eq_iff_iff]
  simp [inR]; omega
theorem cmdOk_t4 (a b c : Int) : cmdOk ⟨4, a, b, c⟩ = (inR a 0 3 && inR b 0 3 && inR c 0 0) := by rw [cmdOk4, inR_0]
theorem cmdOk_t5 (a b c : Int) : cmdOk ⟨5, a, b, c⟩ = (inR a 0 3 && inR b 0 0 && inR c 0 0) := by rw [cmdOk5, inR_0, inR_0]
theorem cmdOk_t6 (a b c : Int) : cmdOk ⟨6, a, b, c⟩ = (inR a 0 3 && inR b 0 99 && inR c 0 0) := by rw [cmdOk6, inR_0]

theorem opsAt_1 (w : World) : (Instr.index 90 opsV (.int .i64 1)).run Try.prog w = .ok (.agg #[.int .i64 3, .int .i64 99, fnV 68, .nilFunc]) w := by kernel_rfl
theorem opsP_1 (w : World) : (Instr.field 89 (.agg #[.int .i64 3, .int .i64 99, fnV 68, .nilFunc]) 2).run Try.prog w = .ok (fnV 68) w := by kernel_rfl
theorem opsR_1 (w : World) : (Instr.field 89 (.agg #[.int .i64 3, .int .i64 99, fnV 68, .nilFunc]) 3).run Try.prog w = .ok (.nilFunc) w := by kernel_rfl
set_option maxHeartbeats 3200000 in
set_option maxRecDepth 20000 in
theorem implCommandValid_1 (a b c : Int) (w : World) : Calls Try.prog 47 #[cmdV ⟨1, a, b, c⟩] w fun e w' => e = .returned (.bool (cmdOk ⟨1, a, b, c⟩)) ∧ Below w.heap.size w w' := by
  have H := (Owns.nil w).box [.int .i64 1, .int .i64 a, .int .i64 b, .int .i64 c] 46
  have hI := opsAt_1
  obtain ⟨t1, t2, t3, t4, t5, t6, t7⟩ := cmdOk_tests (cmdOk_t1 a b c)
  have T1 := Go.Lib.hid t1
  have T2 := Go.Lib.hid t2
  have T3 := Go.Lib.hid t3
  have T4 := Go.Lib.hid t4
  have T5 := Go.Lib.hid t5
  have T6 := Go.Lib.hid t6
  have T7 := Go.Lib.hid t7
  clear t1 t2 t3 t4 t5 t6 t7
  obtain ⟨b0, b1, b2, b3, -, -, -, -⟩ := box4 H 0 rfl
  go_enter Try.func47, Try.ntmps47
  go_wp2_with fail
  have HX := H.drew
  clear b0 b1 b2 b3
  obtain ⟨b0, b1, b2, b3, -, -, -, -⟩ := box4 HX 0 rfl
  refine wp_region_tree (fun w' => w'.cell? ⟨w.heap.size, 0, none⟩ = some (.int .i64 1) ∧ w'.cell? ⟨w.heap.size, 1, none⟩ = some (.int .i64 a) ∧ w'.cell? ⟨w.heap.size, 2, none⟩ = some (.int .i64 b) ∧ w'.cell? ⟨w.heap.size, 3, none⟩ = some (.int .i64 c)) 5 [] (.take 1 (.take 2 (.alt 0 (.take 3 (.alt 4 (.alt 5 (.done) (.stop)) (.stop))) (.alt 4 (.alt 0 (.take 3 (.alt 5 (.done) (.stop))) (.stop)) (.stop))))) (by kernel_rfl) (by kernel_rfl) (by kernel_rfl) (⟨b0, b1, b2, b3⟩) ?_
  simp only [fillT, List.getElem?_cons_zero, List.getElem?_cons_succ, Nat.reduceBEq]
  repeat (first
    | (with_reducible refine po_take (v := ?_) ?_ (fun w' hS' => ?_) ?_
       rotate_left
       · (go_simp; done)
       · ((try dsimp only at hS'); go_simp; try with_reducible rfl)
       simp only [Act.put, List.setIfInBounds_toArray, List.set_cons_zero, List.set_cons_succ])
    | (with_reducible refine po_skip ?_ ?_
       · (go_simp; done)
       simp only [Act.put, List.setIfInBounds_toArray, List.set_cons_zero, List.set_cons_succ]))
  with_reducible refine po_run ?_ (fun K hK => ?_) ?_
  · (go_simp; done)
  · -- operation 0 first
    go_simp
    refine (operations_any _).mono ?_
    rintro e w1 ⟨rfl, hb⟩
    replace HX := HX.call hb
    clear hb b0 b1 b2 b3
    obtain ⟨b0, b1, b2, b3, -, -, -, -⟩ := box4 HX 0 rfl
    refine hK.out _ _ (.inr (⟨b0, b1, b2, b3⟩)) ?_
    clear hK K
    repeat (first
      | (with_reducible refine po_take (v := ?_) ?_ (fun w' hS' => ?_) ?_
         rotate_left
         · (go_simp; done)
         · ((try dsimp only at hS'); go_simp; try with_reducible rfl)
         simp only [Act.put, List.setIfInBounds_toArray, List.set_cons_zero, List.set_cons_succ])
      | (with_reducible refine po_skip ?_ ?_
         · (go_simp; done)
         simp only [Act.put, List.setIfInBounds_toArray, List.set_cons_zero, List.set_cons_succ]))
    with_reducible refine po_run ?_ (fun K hK => ?_) ?_
    · (go_simp; done)
    rotate_left
    · exact po_stop
    go_simp
    replace HX := HX.box [.int .i64 0, .int .i64 0, .nilFunc, .nilFunc] 89
    try simp only [drew_size, World.size_alloc] at HX
    clear b0 b1 b2 b3
    revert HX; generalize World.alloc _ _ = wz; intro HX
    obtain ⟨b0, b1, b2, b3, -, -, -, -⟩ := box4 HX 1 rfl
    refine hK.out _ _ (.inr (⟨b0, b1, b2, b3⟩)) ?_
    clear hK K
    with_reducible refine po_run ?_ (fun K hK => ?_) ?_
    · (go_simp; done)
    rotate_left
    · exact po_stop
    obtain ⟨x0, x1, x2, x3, y0, y1, y2, y3⟩ := box4 HX 0 rfl
    go_simp
    clear x0 x1 x2 x3 y0 y1 y2 y3
    replace HX := (((HX.putBox 0 rfl 0 (.int .i64 3)).putBox 0 rfl 1 (.int .i64 99)).putBox 0 rfl 2 (fnV 68)).putBox 0 rfl 3 (.nilFunc)
    simp only [List.set_cons_zero, List.set_cons_succ] at HX
    clear b0 b1 b2 b3
    obtain ⟨b0, b1, b2, b3, -, -, -, -⟩ := box4 HX 1 rfl
    refine hK.out _ _ (.inl rfl) ?_
    clear hK K
    clear b0 b1 b2 b3
    refine po_done ?_
    obtain ⟨b0, b1, b2, b3, -, -, -, -⟩ := box4 HX 1 rfl
    obtain ⟨x0, x1, x2, x3, -, -, -, -⟩ := box4 HX 0 rfl
    have HB := HX.below
    clear HX
    by_cases h1 : a < 0
    · have HV := Go.Lib.hid (T1.out h1)
      have q1 : ¬ 0 ≤ a := by omega
      go_wp2
      go_ret
      exact ⟨ret_b HV.out.symm, HB⟩
    have q1 : 0 ≤ a := by omega
    by_cases h2 : a < 4
    rotate_left
    · have HV := Go.Lib.hid (T2.out (by omega))
      go_wp2
      go_ret
      exact ⟨ret_b HV.out.symm, HB⟩
    by_cases h3 : b < 0
    · have HV := Go.Lib.hid (T3.out h3)
      have q2 : ¬ 0 ≤ b := by omega
      go_wp2
      go_ret
      exact ⟨ret_b HV.out.symm, HB⟩
    have q2 : 0 ≤ b := by omega
    by_cases h4 : 3 < b
    · have HV := Go.Lib.hid (T4.out h4)
      have q3 : ¬ b ≤ 3 := by omega
      go_wp2
      go_ret
      exact ⟨ret_b HV.out.symm, HB⟩
    have q3 : b ≤ 3 := by omega
    by_cases h5 : c < 0
    · have HV := Go.Lib.hid (T5.out h5)
      have q4 : ¬ 0 ≤ c := by omega
      go_wp2
      go_ret
      exact ⟨ret_b HV.out.symm, HB⟩
    have q4 : 0 ≤ c := by omega
    by_cases h6 : 99 < c
    · have HV := Go.Lib.hid (T6.out h6)
      have q5 : ¬ c ≤ 99 := by omega
      go_wp2
      go_ret
      exact ⟨ret_b HV.out.symm, HB⟩
    have q5 : c ≤ 99 := by omega
    have HV := Go.Lib.hid (T7.out q1 h2 q2 q3 q4 q5)
    go_wp2
    go_ret
    exact ⟨ret_b HV.out.symm, HB⟩
  with_reducible refine po_run ?_ (fun K hK => ?_) ?_
  · (go_simp; done)
  rotate_left
  · exact po_stop
  go_simp
  replace HX := HX.box [.int .i64 0, .int .i64 0, .nilFunc, .nilFunc] 89
  try simp only [drew_size, World.size_alloc] at HX
  clear b0 b1 b2 b3
  obtain ⟨b0, b1, b2, b3, -, -, -, -⟩ := box4 HX 1 rfl
  refine hK.out _ _ (.inr (⟨b0, b1, b2, b3⟩)) ?_
  clear hK K
  with_reducible refine po_run ?_ (fun K hK => ?_) ?_
  · (go_simp; done)
  rotate_left
  · exact po_stop
  go_simp
  refine (operations_any _).mono ?_
  rintro e w1 ⟨rfl, hb⟩
  replace HX := HX.call hb
  clear hb b0 b1 b2 b3
  obtain ⟨b0, b1, b2, b3, -, -, -, -⟩ := box4 HX 1 rfl
  refine hK.out _ _ (.inr (⟨b0, b1, b2, b3⟩)) ?_
  clear hK K
  repeat (first
    | (with_reducible refine po_take (v := ?_) ?_ (fun w' hS' => ?_) ?_
       rotate_left
       · (go_simp; done)
       · ((try dsimp only at hS'); go_simp; try with_reducible rfl)
       simp only [Act.put, List.setIfInBounds_toArray, List.set_cons_zero, List.set_cons_succ])
    | (with_reducible refine po_skip ?_ ?_
       · (go_simp; done)
       simp only [Act.put, List.setIfInBounds_toArray, List.set_cons_zero, List.set_cons_succ]))
  with_reducible refine po_run ?_ (fun K hK => ?_) ?_
  · (go_simp; done)
  rotate_left
  · exact po_stop
  obtain ⟨x0, x1, x2, x3, y0, y1, y2, y3⟩ := box4 HX 0 rfl
  go_simp
  clear x0 x1 x2 x3 y0 y1 y2 y3
  replace HX := (((HX.putBox 0 rfl 0 (.int .i64 3)).putBox 0 rfl 1 (.int .i64 99)).putBox 0 rfl 2 (fnV 68)).putBox 0 rfl 3 (.nilFunc)
  simp only [List.set_cons_zero, List.set_cons_succ] at HX
  clear b0 b1 b2 b3
  obtain ⟨b0, b1, b2, b3, -, -, -, -⟩ := box4 HX 1 rfl
  refine hK.out _ _ (.inl rfl) ?_
  clear hK K
  clear b0 b1 b2 b3
  refine po_done ?_
  obtain ⟨b0, b1, b2, b3, -, -, -, -⟩ := box4 HX 1 rfl
  obtain ⟨x0, x1, x2, x3, -, -, -, -⟩ := box4 HX 0 rfl
  have HB := HX.below
  clear HX
  by_cases h1 : a < 0
  · have HV := Go.Lib.hid (T1.out h1)
    have q1 : ¬ 0 ≤ a := by omega
    go_wp2
    go_ret
    exact ⟨ret_b HV.out.symm, HB⟩
  have q1 : 0 ≤ a := by omega
  by_cases h2 : a < 4
  rotate_left
  · have HV := Go.Lib.hid (T2.out (by omega))
    go_wp2
    go_ret
    exact ⟨ret_b HV.out.symm, HB⟩
  by_cases h3 : b < 0
  · have HV := Go.Lib.hid (T3.out h3)
    have q2 : ¬ 0 ≤ b := by omega
    go_wp2
    go_ret
    exact ⟨ret_b HV.out.symm, HB⟩
  have q2 : 0 ≤ b := by omega
  by_cases h4 : 3 < b
  · have HV := Go.Lib.hid (T4.out h4)
    have q3 : ¬ b ≤ 3 := by omega
    go_wp2
    go_ret
    exact ⟨ret_b HV.out.symm, HB⟩
  have q3 : b ≤ 3 := by omega
  by_cases h5 : c < 0
  · have HV := Go.Lib.hid (T5.out h5)
    have q4 : ¬ 0 ≤ c := by omega
    go_wp2
    go_ret
    exact ⟨ret_b HV.out.symm, HB⟩
  have q4 : 0 ≤ c := by omega
  by_cases h6 : 99 < c
  · have HV := Go.Lib.hid (T6.out h6)
    have q5 : ¬ c ≤ 99 := by omega
    go_wp2
    go_ret
    exact ⟨ret_b HV.out.symm, HB⟩
  have q5 : c ≤ 99 := by omega
  have HV := Go.Lib.hid (T7.out q1 h2 q2 q3 q4 q5)
  go_wp2
  go_ret
  exact ⟨ret_b HV.out.symm, HB⟩
theorem opsAt_2 (w : World) : (Instr.index 90 opsV (.int .i64 2)).run Try.prog w = .ok (.agg #[.int .i64 3, .int .i64 2, fnV 69, fnV 71]) w := by kernel_rfl
theorem opsP_2 (w : World) : (Instr.field 89 (.agg #[.int .i64 3, .int .i64 2, fnV 69, fnV 71]) 2).run Try.prog w = .ok (fnV 69) w := by kernel_rfl
theorem opsR_2 (w : World) : (Instr.field 89 (.agg #[.int .i64 3, .int .i64 2, fnV 69, fnV 71]) 3).run Try.prog w = .ok (fnV 71) w := by kernel_rfl
set_option maxHeartbeats 3200000 in
set_option maxRecDepth 20000 in
theorem implCommandValid_2 (a b c : Int) (w : World) : Calls Try.prog 47 #[cmdV ⟨2, a, b, c⟩] w fun e w' => e = .returned (.bool (cmdOk ⟨2, a, b, c⟩)) ∧ Below w.heap.size w w' := by
  have H := (Owns.nil w).box [.int .i64 2, .int .i64 a, .int .i64 b, .int .i64 c] 46
  have hI := opsAt_2
  obtain ⟨t1, t2, t3, t4, t5, t6, t7⟩ := cmdOk_tests (cmdOk_t2 a b c)
  have T1 := Go.Lib.hid t1
  have T2 := Go.Lib.hid t2
  have T3 := Go.Lib.hid t3
  have T4 := Go.Lib.hid t4
  have T5 := Go.Lib.hid t5
  have T6 := Go.Lib.hid t6
  have T7 := Go.Lib.hid t7
  clear t1 t2 t3 t4 t5 t6 t7
  obtain ⟨b0, b1, b2, b3, -, -, -, -⟩ := box4 H 0 rfl
  go_enter Try.func47, Try.ntmps47
  go_wp2_with fail
  have HX := H.drew
  clear b0 b1 b2 b3
  obtain ⟨b0, b1, b2, b3, -, -, -, -⟩ := box4 HX 0 rfl
  refine wp_region_tree (fun w' => w'.cell? ⟨w.heap.size, 0, none⟩ = some (.int .i64 2) ∧ w'.cell? ⟨w.heap.size, 1, none⟩ = some (.int .i64 a) ∧ w'.cell? ⟨w.heap.size, 2, none⟩ = some (.int .i64 b) ∧ w'.cell? ⟨w.heap.size, 3, none⟩ = some (.int .i64 c)) 5 [] (.take 1 (.take 2 (.alt 0 (.take 3 (.alt 4 (.alt 5 (.done) (.stop)) (.stop))) (.alt 4 (.alt 0 (.take 3 (.alt 5 (.done) (.stop))) (.stop)) (.stop))))) (by kernel_rfl) (by kernel_rfl) (by kernel_rfl) (⟨b0, b1, b2, b3⟩) ?_
  simp only [fillT, List.getElem?_cons_zero, List.getElem?_cons_succ, Nat.reduceBEq]
  repeat (first
    | (with_reducible refine po_take (v := ?_) ?_ (fun w' hS' => ?_) ?_
       rotate_left
       · (go_simp; done)
       · ((try dsimp only at hS'); go_simp; try with_reducible rfl)
       simp only [Act.put, List.setIfInBounds_toArray, List.set_cons_zero, List.set_cons_succ])
    | (with_reducible refine po_skip ?_ ?_
       · (go_simp; done)
       simp only [Act.put, List.setIfInBounds_toArray, List.set_cons_zero, List.set_cons_succ]))
  with_reducible refine po_run ?_ (fun K hK => ?_) ?_
  · (go_simp; done)
  · -- operation 0 first
    go_simp
    refine (operations_any _).mono ?_
    rintro e w1 ⟨rfl, hb⟩
    replace HX := HX.call hb
    clear hb b0 b1 b2 b3
    obtain ⟨b0, b1, b2, b3, -, -, -, -⟩ := box4 HX 0 rfl
    refine hK.out _ _ (.inr (⟨b0, b1, b2, b3⟩)) ?_
    clear hK K
    repeat (first
      | (with_reducible refine po_take (v := ?_) ?_ (fun w' hS' => ?_) ?_
         rotate_left
         · (go_simp; done)
         · ((try dsimp only at hS'); go_simp; try with_reducible rfl)
         simp only [Act.put, List.setIfInBounds_toArray, List.set_cons_zero, List.set_cons_succ])
      | (with_reducible refine po_skip ?_ ?_
         · (go_simp; done)
         simp only [Act.put, List.setIfInBounds_toArray, List.set_cons_zero, List.set_cons_succ]))
    with_reducible refine po_run ?_ (fun K hK => ?_) ?_
    · (go_simp; done)
    rotate_left
    · exact po_stop
    go_simp
    replace HX := HX.box [.int .i64 0, .int .i64 0, .nilFunc, .nilFunc] 89
    try simp only [drew_size, World.size_alloc] at HX
    clear b0 b1 b2 b3
    revert HX; generalize World.alloc _ _ = wz; intro HX
    obtain ⟨b0, b1, b2, b3, -, -, -, -⟩ := box4 HX 1 rfl
    refine hK.out _ _ (.inr (⟨b0, b1, b2, b3⟩)) ?_
    clear hK K
    with_reducible refine po_run ?_ (fun K hK => ?_) ?_
    · (go_simp; done)
    rotate_left
    · exact po_stop
    obtain ⟨x0, x1, x2, x3, y0, y1, y2, y3⟩ := box4 HX 0 rfl
    go_simp
    clear x0 x1 x2 x3 y0 y1 y2 y3
    replace HX := (((HX.putBox 0 rfl 0 (.int .i64 3)).putBox 0 rfl 1 (.int .i64 2)).putBox 0 rfl 2 (fnV 69)).putBox 0 rfl 3 (fnV 71)
    simp only [List.set_cons_zero, List.set_cons_succ] at HX
    clear b0 b1 b2 b3
    obtain ⟨b0, b1, b2, b3, -, -, -, -⟩ := box4 HX 1 rfl
    refine hK.out _ _ (.inl rfl) ?_
    clear hK K
    clear b0 b1 b2 b3
    refine po_done ?_
    obtain ⟨b0, b1, b2, b3, -, -, -, -⟩ := box4 HX 1 rfl
    obtain ⟨x0, x1, x2, x3, -, -, -, -⟩ := box4 HX 0 rfl
    have HB := HX.below
    clear HX
    by_cases h1 : a < 0
    · have HV := Go.Lib.hid (T1.out h1)
      have q1 : ¬ 0 ≤ a := by omega
      go_wp2
      go_ret
      exact ⟨ret_b HV.out.symm, HB⟩
    have q1 : 0 ≤ a := by omega
    by_cases h2 : a < 4
    rotate_left
    · have HV := Go.Lib.hid (T2.out (by omega))
      go_wp2
      go_ret
      exact ⟨ret_b HV.out.symm, HB⟩
    by_cases h3 : b < 0
    · have HV := Go.Lib.hid (T3.out h3)
      have q2 : ¬ 0 ≤ b := by omega
      go_wp2
      go_ret
      exact ⟨ret_b HV.out.symm, HB⟩
    have q2 : 0 ≤ b := by omega
    by_cases h4 : 3 < b
    · have HV := Go.Lib.hid (T4.out h4)
      have q3 : ¬ b ≤ 3 := by omega
      go_wp2
      go_ret
      exact ⟨ret_b HV.out.symm, HB⟩
    have q3 : b ≤ 3 := by omega
    by_cases h5 : c < 0
    · have HV := Go.Lib.hid (T5.out h5)
      have q4 : ¬ 0 ≤ c := by omega
      go_wp2
      go_ret
      exact ⟨ret_b HV.out.symm, HB⟩
    have q4 : 0 ≤ c := by omega
    by_cases h6 : 2 < c
    · have HV := Go.Lib.hid (T6.out h6)
      have q5 : ¬ c ≤ 2 := by omega
      go_wp2
      go_ret
      exact ⟨ret_b HV.out.symm, HB⟩
    have q5 : c ≤ 2 := by omega
    have HV := Go.Lib.hid (T7.out q1 h2 q2 q3 q4 q5)
    go_wp2
    go_ret
    exact ⟨ret_b HV.out.symm, HB⟩
  with_reducible refine po_run ?_ (fun K hK => ?_) ?_
  · (go_simp; done)
  rotate_left
  · exact po_stop
  go_simp
  replace HX := HX.box [.int .i64 0, .int .i64 0, .nilFunc, .nilFunc] 89
  try simp only [drew_size, World.size_alloc] at HX
  clear b0 b1 b2 b3
  obtain ⟨b0, b1, b2, b3, -, -, -, -⟩ := box4 HX 1 rfl
  refine hK.out _ _ (.inr (⟨b0, b1, b2, b3⟩)) ?_
  clear hK K
  with_reducible refine po_run ?_ (fun K hK => ?_) ?_
  · (go_simp; done)
  rotate_left
  · exact po_stop
  go_simp
  refine (operations_any _).mono ?_
  rintro e w1 ⟨rfl, hb⟩
  replace HX := HX.call hb
  clear hb b0 b1 b2 b3
  obtain ⟨b0, b1, b2, b3, -, -, -, -⟩ := box4 HX 1 rfl
  refine hK.out _ _ (.inr (⟨b0, b1, b2, b3⟩)) ?_
  clear hK K
  repeat (first
    | (with_reducible refine po_take (v := ?_) ?_ (fun w' hS' => ?_) ?_
       rotate_left
       · (go_simp; done)
       · ((try dsimp only at hS'); go_simp; try with_reducible rfl)
       simp only [Act.put, List.setIfInBounds_toArray, List.set_cons_zero, List.set_cons_succ])
    | (with_reducible refine po_skip ?_ ?_
       · (go_simp; done)
       simp only [Act.put, List.setIfInBounds_toArray, List.set_cons_zero, List.set_cons_succ]))
  with_reducible refine po_run ?_ (fun K hK => ?_) ?_
  · (go_simp; done)
  rotate_left
  · exact po_stop
  obtain ⟨x0, x1, x2, x3, y0, y1, y2, y3⟩ := box4 HX 0 rfl
  go_simp
  clear x0 x1 x2 x3 y0 y1 y2 y3
  replace HX := (((HX.putBox 0 rfl 0 (.int .i64 3)).putBox 0 rfl 1 (.int .i64 2)).putBox 0 rfl 2 (fnV 69)).putBox 0 rfl 3 (fnV 71)
  simp only [List.set_cons_zero, List.set_cons_succ] at HX
  clear b0 b1 b2 b3
  obtain ⟨b0, b1, b2, b3, -, -, -, -⟩ := box4 HX 1 rfl
  refine hK.out _ _ (.inl rfl) ?_
  clear hK K
  clear b0 b1 b2 b3
  refine po_done ?_
  obtain ⟨b0, b1, b2, b3, -, -, -, -⟩ := box4 HX 1 rfl
  obtain ⟨x0, x1, x2, x3, -, -, -, -⟩ := box4 HX 0 rfl
  have HB := HX.below
  clear HX
  by_cases h1 : a < 0
  · have HV := Go.Lib.hid (T1.out h1)
    have q1 : ¬ 0 ≤ a := by omega
    go_wp2
    go_ret
    exact ⟨ret_b HV.out.symm, HB⟩
  have q1 : 0 ≤ a := by omega
  by_cases h2 : a < 4
  rotate_left
  · have HV := Go.Lib.hid (T2.out (by omega))
    go_wp2
    go_ret
    exact ⟨ret_b HV.out.symm, HB⟩
  by_cases h3 : b < 0
  · have HV := Go.Lib.hid (T3.out h3)
    have q2 : ¬ 0 ≤ b := by omega
    go_wp2
    go_ret
    exact ⟨ret_b HV.out.symm, HB⟩
  have q2 : 0 ≤ b := by omega
  by_cases h4 : 3 < b
  · have HV := Go.Lib.hid (T4.out h4)
    have q3 : ¬ b ≤ 3 := by omega
    go_wp2
    go_ret
    exact ⟨ret_b HV.out.symm, HB⟩
  have q3 : b ≤ 3 := by omega
  by_cases h5 : c < 0
  · have HV := Go.Lib.hid (T5.out h5)
    have q4 : ¬ 0 ≤ c := by omega
    go_wp2
    go_ret
    exact ⟨ret_b HV.out.symm, HB⟩
  have q4 : 0 ≤ c := by omega
  by_cases h6 : 2 < c
  · have HV := Go.Lib.hid (T6.out h6)
    have q5 : ¬ c ≤ 2 := by omega
    go_wp2
    go_ret
    exact ⟨ret_b HV.out.symm, HB⟩
  have q5 : c ≤ 2 := by omega
  have HV := Go.Lib.hid (T7.out q1 h2 q2 q3 q4 q5)
  go_wp2
  go_ret
  exact ⟨ret_b HV.out.symm, HB⟩
theorem opsAt_3 (w : World) : (Instr.index 90 opsV (.int .i64 3)).run Try.prog w = .ok (.agg #[.int .i64 3, .int .i64 2, fnV 72, fnV 73]) w := by kernel_rfl
theorem opsP_3 (w : World) : (Instr.field 89 (.agg #[.int .i64 3, .int .i64 2, fnV 72, fnV 73]) 2).run Try.prog w = .ok (fnV 72) w := by kernel_rfl
theorem opsR_3 (w : World) : (Instr.field 89 (.agg #[.int .i64 3, .int .i64 2, fnV 72, fnV 73]) 3).run Try.prog w = .ok (fnV 73) w := by kernel_rfl
set_option maxHeartbeats 3200000 in
set_option maxRecDepth 20000 in
theorem implCommandValid_3 (a b c : Int) (w : World) : Calls Try.prog 47 #[cmdV ⟨3, a, b, c⟩] w fun e w' => e = .returned (.bool (cmdOk ⟨3, a, b, c⟩)) ∧ Below w.heap.size w w' := by
  have H := (Owns.nil w).box [.int .i64 3, .int .i64 a, .int .i64 b, .int .i64 c] 46
  have hI := opsAt_3
  obtain ⟨t1, t2, t3, t4, t5, t6, t7⟩ := cmdOk_tests (cmdOk_t3 a b c)
  have T1 := Go.Lib.hid t1
  have T2 := Go.Lib.hid t2
  have T3 := Go.Lib.hid t3
  have T4 := Go.Lib.hid t4
  have T5 := Go.Lib.hid t5
  have T6 := Go.Lib.hid t6
  have T7 := Go.Lib.hid t7
  clear t1 t2 t3 t4 t5 t6 t7
  obtain ⟨b0, b1, b2, b3, -, -, -, -⟩ := box4 H 0 rfl
  go_enter Try.func47, Try.ntmps47
  go_wp2_with fail
  have HX := H.drew
  clear b0 b1 b2 b3
  obtain ⟨b0, b1, b2, b3, -, -, -, -⟩ := box4 HX 0 rfl
  refine wp_region_tree (fun w' => w'.cell? ⟨w.heap.size, 0, none⟩ = some (.int .i64 3) ∧ w'.cell? ⟨w.heap.size, 1, none⟩ = some (.int .i64 a) ∧ w'.cell? ⟨w.heap.size, 2, none⟩ = some (.int .i64 b) ∧ w'.cell? ⟨w.heap.size, 3, none⟩ = some (.int .i64 c)) 5 [] (.take 1 (.take 2 (.alt 0 (.take 3 (.alt 4 (.alt 5 (.done) (.stop)) (.stop))) (.alt 4 (.alt 0 (.take 3 (.alt 5 (.done) (.stop))) (.stop)) (.stop))))) (by kernel_rfl) (by kernel_rfl) (by kernel_rfl) (⟨b0, b1, b2, b3⟩) ?_
  simp only [fillT, List.getElem?_cons_zero, List.getElem?_cons_succ, Nat.reduceBEq]
  repeat (first
    | (with_reducible refine po_take (v := ?_) ?_ (fun w' hS' => ?_) ?_
       rotate_left
       · (go_simp; done)
       · ((try dsimp only at hS'); go_simp; try with_reducible rfl)
       simp only [Act.put, List.setIfInBounds_toArray, List.set_cons_zero, List.set_cons_succ])
    | (with_reducible refine po_skip ?_ ?_
       · (go_simp; done)
       simp only [Act.put, List.setIfInBounds_toArray, List.set_cons_zero, List.set_cons_succ]))
  with_reducible refine po_run ?_ (fun K hK => ?_) ?_
  · (go_simp; done)
  · -- operation 0 first
    go_simp
    refine (operations_any _).mono ?_
    rintro e w1 ⟨rfl, hb⟩
    replace HX := HX.call hb
    clear hb b0 b1 b2 b3
    obtain ⟨b0, b1, b2, b3, -, -, -, -⟩ := box4 HX 0 rfl
    refine hK.out _ _ (.inr (⟨b0, b1, b2, b3⟩)) ?_
    clear hK K
    repeat (first
      | (with_reducible refine po_take (v := ?_) ?_ (fun w' hS' => ?_) ?_
         rotate_left
         · (go_simp; done)
         · ((try dsimp only at hS'); go_simp; try with_reducible rfl)
         simp only [Act.put, List.setIfInBounds_toArray, List.set_cons_zero, List.set_cons_succ])
      | (with_reducible refine po_skip ?_ ?_
         · (go_simp; done)
         simp only [Act.put, List.setIfInBounds_toArray, List.set_cons_zero, List.set_cons_succ]))
    with_reducible refine po_run ?_ (fun K hK => ?_) ?_
    · (go_simp; done)
    rotate_left
    · exact po_stop
    go_simp
    replace HX := HX.box [.int .i64 0, .int .i64 0, .nilFunc, .nilFunc] 89
    try simp only [drew_size, World.size_alloc] at HX
    clear b0 b1 b2 b3
    revert HX; generalize World.alloc _ _ = wz; intro HX
    obtain ⟨b0, b1, b2, b3, -, -, -, -⟩ := box4 HX 1 rfl
    refine hK.out _ _ (.inr (⟨b0, b1, b2, b3⟩)) ?_
    clear hK K
    with_reducible refine po_run ?_ (fun K hK => ?_) ?_
    · (go_simp; done)
    rotate_left
    · exact po_stop
    obtain ⟨x0, x1, x2, x3, y0, y1, y2, y3⟩ := box4 HX 0 rfl
    go_simp
    clear x0 x1 x2 x3 y0 y1 y2 y3
    replace HX := (((HX.putBox 0 rfl 0 (.int .i64 3)).putBox 0 rfl 1 (.int .i64 2)).putBox 0 rfl 2 (fnV 72)).putBox 0 rfl 3 (fnV 73)
    simp only [List.set_cons_zero, List.set_cons_succ] at HX
    clear b0 b1 b2 b3
    obtain ⟨b0, b1, b2, b3, -, -, -, -⟩ := box4 HX 1 rfl
    refine hK.out _ _ (.inl rfl) ?_
    clear hK K
    clear b0 b1 b2 b3
    refine po_done ?_
    obtain ⟨b0, b1, b2, b3, -, -, -, -⟩ := box4 HX 1 rfl
    obtain ⟨x0, x1, x2, x3, -, -, -, -⟩ := box4 HX 0 rfl
    have HB := HX.below
    clear HX
    by_cases h1 : a < 0
    · have HV := Go.Lib.hid (T1.out h1)
      have q1 : ¬ 0 ≤ a := by omega
      go_wp2
      go_ret
      exact ⟨ret_b HV.out.symm, HB⟩
    have q1 : 0 ≤ a := by omega
    by_cases h2 : a < 4
    rotate_left
    · have HV := Go.Lib.hid (T2.out (by omega))
      go_wp2
      go_ret
      exact ⟨ret_b HV.out.symm, HB⟩
    by_cases h3 : b < 0
    · have HV := Go.Lib.hid (T3.out h3)
      have q2 : ¬ 0 ≤ b := by omega
      go_wp2
      go_ret
      exact ⟨ret_b HV.out.symm, HB⟩
    have q2 : 0 ≤ b := by omega
    by_cases h4 : 3 < b
    · have HV := Go.Lib.hid (T4.out h4)
      have q3 : ¬ b ≤ 3 := by omega
      go_wp2
      go_ret
      exact ⟨ret_b HV.out.symm, HB⟩
    have q3 : b ≤ 3 := by omega
    by_cases h5 : c < 0
    · have HV := Go.Lib.hid (T5.out h5)
      have q4 : ¬ 0 ≤ c := by omega
      go_wp2
      go_ret
      exact ⟨ret_b HV.out.symm, HB⟩
    have q4 : 0 ≤ c := by omega
    by_cases h6 : 2 < c
    · have HV := Go.Lib.hid (T6.out h6)
      have q5 : ¬ c ≤ 2 := by omega
      go_wp2
      go_ret
      exact ⟨ret_b HV.out.symm, HB⟩
    have q5 : c ≤ 2 := by omega
    have HV := Go.Lib.hid (T7.out q1 h2 q2 q3 q4 q5)
    go_wp2
    go_ret
    exact ⟨ret_b HV.out.symm, HB⟩
  with_reducible refine po_run ?_ (fun K hK => ?_) ?_
  · (go_simp; done)
  rotate_left
  · exact po_stop
  go_simp
  replace HX := HX.box [.int .i64 0, .int .i64 0, .nilFunc, .nilFunc] 89
  try simp only [drew_size, World.size_alloc] at HX
  clear b0 b1 b2 b3
  obtain ⟨b0, b1, b2, b3, -, -, -, -⟩ := box4 HX 1 rfl
  refine hK.out _ _ (.inr (⟨b0, b1, b2, b3⟩)) ?_
  clear hK K
  with_reducible refine po_run ?_ (fun K hK => ?_) ?_
  · (go_simp; done)
  rotate_left
  · exact po_stop
  go_simp
  refine (operations_any _).mono ?_
  rintro e w1 ⟨rfl, hb⟩
  replace HX := HX.call hb
  clear hb b0 b1 b2 b3
  obtain ⟨b0, b1, b2, b3, -, -, -, -⟩ := box4 HX 1 rfl
  refine hK.out _ _ (.inr (⟨b0, b1, b2, b3⟩)) ?_
  clear hK K
  repeat (first
    | (with_reducible refine po_take (v := ?_) ?_ (fun w' hS' => ?_) ?_
       rotate_left
       · (go_simp; done)
       · ((try dsimp only at hS'); go_simp; try with_reducible rfl)
       simp only [Act.put, List.setIfInBounds_toArray, List.set_cons_zero, List.set_cons_succ])
    | (with_reducible refine po_skip ?_ ?_
       · (go_simp; done)
       simp only [Act.put, List.setIfInBounds_toArray, List.set_cons_zero, List.set_cons_succ]))
  with_reducible refine po_run ?_ (fun K hK => ?_) ?_
  · (go_simp; done)
  rotate_left
  · exact po_stop
  obtain ⟨x0, x1, x2, x3, y0, y1, y2, y3⟩ := box4 HX 0 rfl
  go_simp
  clear x0 x1 x2 x3 y0 y1 y2 y3
  replace HX := (((HX.putBox 0 rfl 0 (.int .i64 3)).putBox 0 rfl 1 (.int .i64 2)).putBox 0 rfl 2 (fnV 72)).putBox 0 rfl 3 (fnV 73)
  simp only [List.set_cons_zero, List.set_cons_succ] at HX
  clear b0 b1 b2 b3
  obtain ⟨b0, b1, b2, b3, -, -, -, -⟩ := box4 HX 1 rfl
  refine hK.out _ _ (.inl rfl) ?_
  clear hK K
  clear b0 b1 b2 b3
  refine po_done ?_
  obtain ⟨b0, b1, b2, b3, -, -, -, -⟩ := box4 HX 1 rfl
  obtain ⟨x0, x1, x2, x3, -, -, -, -⟩ := box4 HX 0 rfl
  have HB := HX.below
  clear HX
  by_cases h1 : a < 0
  · have HV := Go.Lib.hid (T1.out h1)
    have q1 : ¬ 0 ≤ a := by omega
    go_wp2
    go_ret
    exact ⟨ret_b HV.out.symm, HB⟩
  have q1 : 0 ≤ a := by omega
  by_cases h2 : a < 4
  rotate_left
  · have HV := Go.Lib.hid (T2.out (by omega))
    go_wp2
    go_ret
    exact ⟨ret_b HV.out.symm, HB⟩
  by_cases h3 : b < 0
  · have HV := Go.Lib.hid (T3.out h3)
    have q2 : ¬ 0 ≤ b := by omega
    go_wp2
    go_ret
    exact ⟨ret_b HV.out.symm, HB⟩
  have q2 : 0 ≤ b := by omega
  by_cases h4 : 3 < b
  · have HV := Go.Lib.hid (T4.out h4)
    have q3 : ¬ b ≤ 3 := by omega
    go_wp2
    go_ret
    exact ⟨ret_b HV.out.symm, HB⟩
  have q3 : b ≤ 3 := by omega
  by_cases h5 : c < 0
  · have HV := Go.Lib.hid (T5.out h5)
    have q4 : ¬ 0 ≤ c := by omega
    go_wp2
    go_ret
    exact ⟨ret_b HV.out.symm, HB⟩
  have q4 : 0 ≤ c := by omega
  by_cases h6 : 2 < c
  · have HV := Go.Lib.hid (T6.out h6)
    have q5 : ¬ c ≤ 2 := by omega
    go_wp2
    go_ret
    exact ⟨ret_b HV.out.symm, HB⟩
  have q5 : c ≤ 2 := by omega
  have HV := Go.Lib.hid (T7.out q1 h2 q2 q3 q4 q5)
  go_wp2
  go_ret
  exact ⟨ret_b HV.out.symm, HB⟩
theorem opsAt_4 (w : World) : (Instr.index 90 opsV (.int .i64 4)).run Try.prog w = .ok (.agg #[.int .i64 3, .int .i64 0, fnV 68, fnV 74]) w := by kernel_rfl
theorem opsP_4 (w : World) : (Instr.field 89 (.agg #[.int .i64 3, .int .i64 0, fnV 68, fnV 74]) 2).run Try.prog w = .ok (fnV 68) w := by kernel_rfl
theorem opsR_4 (w : World) : (Instr.field 89 (.agg #[.int .i64 3, .int .i64 0, fnV 68, fnV 74]) 3).run Try.prog w = .ok (fnV 74) w := by kernel_rfl
set_option maxHeartbeats 3200000 in
set_option maxRecDepth 20000 in
theorem implCommandValid_4 (a b c : Int) (w : World) : Calls Try.prog 47 #[cmdV ⟨4, a, b, c⟩] w fun e w' => e = .returned (.bool (cmdOk ⟨4, a, b, c⟩)) ∧ Below w.heap.size w w' := by
  have H := (Owns.nil w).box [.int .i64 4, .int .i64 a, .int .i64 b, .int .i64 c] 46
  have hI := opsAt_4
  obtain ⟨t1, t2, t3, t4, t5, t6, t7⟩ := cmdOk_tests (cmdOk_t4 a b c)
  have T1 := Go.Lib.hid t1
  have T2 := Go.Lib.hid t2
  have T3 := Go.Lib.hid t3
  have T4 := Go.Lib.hid t4
  have T5 := Go.Lib.hid t5
  have T6 := Go.Lib.hid t6
  have T7 := Go.Lib.hid t7
  clear t1 t2 t3 t4 t5 t6 t7
  obtain ⟨b0, b1, b2, b3, -, -, -, -⟩ := box4 H 0 rfl
  go_enter Try.func47, Try.ntmps47
  go_wp2_with fail
  have HX := H.drew
  clear b0 b1 b2 b3
  obtain ⟨b0, b1, b2, b3, -, -, -, -⟩ := box4 HX 0 rfl
  refine wp_region_tree (fun w' => w'.cell? ⟨w.heap.size, 0, none⟩ = some (.int .i64 4) ∧ w'.cell? ⟨w.heap.size, 1, none⟩ = some (.int .i64 a) ∧ w'.cell? ⟨w.heap.size, 2, none⟩ = some (.int .i64 b) ∧ w'.cell? ⟨w.heap.size, 3, none⟩ = some (.int .i64 c)) 5 [] (.take 1 (.take 2 (.alt 0 (.take 3 (.alt 4 (.alt 5 (.done) (.stop)) (.stop))) (.alt 4 (.alt 0 (.take 3 (.alt 5 (.done) (.stop))) (.stop)) (.stop))))) (by kernel_rfl) (by kernel_rfl) (by kernel_rfl) (⟨b0, b1, b2, b3⟩) ?_
  simp only [fillT, List.getElem?_cons_zero, List.getElem?_cons_succ, Nat.reduceBEq]
  repeat (first
    | (with_reducible refine po_take (v := ?_) ?_ (fun w' hS' => ?_) ?_
       rotate_left
       · (go_simp; done)
       · ((try dsimp only at hS'); go_simp; try with_reducible rfl)
       simp only [Act.put, List.setIfInBounds_toArray, List.set_cons_zero, List.set_cons_succ])
    | (with_reducible refine po_skip ?_ ?_
       · (go_simp; done)
       simp only [Act.put, List.setIfInBounds_toArray, List.set_cons_zero, List.set_cons_succ]))
  with_reducible refine po_run ?_ (fun K hK => ?_) ?_
  · (go_simp; done)
  · -- operation 0 first
    go_simp
    refine (operations_any _).mono ?_
    rintro e w1 ⟨rfl, hb⟩
    replace HX := HX.call hb
    clear hb b0 b1 b2 b3
    obtain ⟨b0, b1, b2, b3, -, -, -, -⟩ := box4 HX 0 rfl
    refine hK.out _ _ (.inr (⟨b0, b1, b2, b3⟩)) ?_
    clear hK K
    repeat (first
      | (with_reducible refine po_take (v := ?_) ?_ (fun w' hS' => ?_) ?_
         rotate_left
         · (go_simp; done)
         · ((try dsimp only at hS'); go_simp; try with_reducible rfl)
         simp only [Act.put, List.setIfInBounds_toArray, List.set_cons_zero, List.set_cons_succ])
      | (with_reducible refine po_skip ?_ ?_
         · (go_simp; done)
         simp only [Act.put, List.setIfInBounds_toArray, List.set_cons_zero, List.set_cons_succ]))
    with_reducible refine po_run ?_ (fun K hK => ?_) ?_
    · (go_simp; done)
    rotate_left
    · exact po_stop
    go_simp
    replace HX := HX.box [.int .i64 0, .int .i64 0, .nilFunc, .nilFunc] 89
    try simp only [drew_size, World.size_alloc] at HX
    clear b0 b1 b2 b3
    revert HX; generalize World.alloc _ _ = wz; intro HX
    obtain ⟨b0, b1, b2, b3, -, -, -, -⟩ := box4 HX 1 rfl
    refine hK.out _ _ (.inr (⟨b0, b1, b2, b3⟩)) ?_
    clear hK K
    with_reducible refine po_run ?_ (fun K hK => ?_) ?_
    · (go_simp; done)
    rotate_left
    · exact po_stop
    obtain ⟨x0, x1, x2, x3, y0, y1, y2, y3⟩ := box4 HX 0 rfl
    go_simp
    clear x0 x1 x2 x3 y0 y1 y2 y3
    replace HX := (((HX.putBox 0 rfl 0 (.int .i64 3)).putBox 0 rfl 1 (.int .i64 0)).putBox 0 rfl 2 (fnV 68)).putBox 0 rfl 3 (fnV 74)
    simp only [List.set_cons_zero, List.set_cons_succ] at HX
    clear b0 b1 b2 b3
    obtain ⟨b0, b1, b2, b3, -, -, -, -⟩ := box4 HX 1 rfl
    refine hK.out _ _ (.inl rfl) ?_
    clear hK K
    clear b0 b1 b2 b3
    refine po_done ?_
    obtain ⟨b0, b1, b2, b3, -, -, -, -⟩ := box4 HX 1 rfl
    obtain ⟨x0, x1, x2, x3, -, -, -, -⟩ := box4 HX 0 rfl
    have HB := HX.below
    clear HX
    by_cases h1 : a < 0
    · have HV := Go.Lib.hid (T1.out h1)
      have q1 : ¬ 0 ≤ a := by omega
      go_wp2
      go_ret
      exact ⟨ret_b HV.out.symm, HB⟩
    have q1 : 0 ≤ a := by omega
    by_cases h2 : a < 4
    rotate_left
    · have HV := Go.Lib.hid (T2.out (by omega))
      go_wp2
      go_ret
      exact ⟨ret_b HV.out.symm, HB⟩
    by_cases h3 : b < 0
    · have HV := Go.Lib.hid (T3.out h3)
      have q2 : ¬ 0 ≤ b := by omega
      go_wp2
      go_ret
      exact ⟨ret_b HV.out.symm, HB⟩
    have q2 : 0 ≤ b := by omega
    by_cases h4 : 3 < b
    · have HV := Go.Lib.hid (T4.out h4)
      have q3 : ¬ b ≤ 3 := by omega
      go_wp2
      go_ret
      exact ⟨ret_b HV.out.symm, HB⟩
    have q3 : b ≤ 3 := by omega
    by_cases h5 : c < 0
    · have HV := Go.Lib.hid (T5.out h5)
      have q4 : ¬ 0 ≤ c := by omega
      go_wp2
      go_ret
      exact ⟨ret_b HV.out.symm, HB⟩
    have q4 : 0 ≤ c := by omega
    by_cases h6 : 0 < c
    · have HV := Go.Lib.hid (T6.out h6)
      have q5 : ¬ c ≤ 0 := by omega
      go_wp2
      go_ret
      exact ⟨ret_b HV.out.symm, HB⟩
    have q5 : c ≤ 0 := by omega
    have HV := Go.Lib.hid (T7.out q1 h2 q2 q3 q4 q5)
    go_wp2
    go_ret
    exact ⟨ret_b HV.out.symm, HB⟩
  with_reducible refine po_run ?_ (fun K hK => ?_) ?_
  · (go_simp; done)
  rotate_left
  · exact po_stop
  go_simp
  replace HX := HX.box [.int .i64 0, .int .i64 0, .nilFunc, .nilFunc] 89
  try simp only [drew_size, World.size_alloc] at HX
  clear b0 b1 b2 b3
  obtain ⟨b0, b1, b2, b3, -, -, -, -⟩ := box4 HX 1 rfl
  refine hK.out _ _ (.inr (⟨b0, b1, b2, b3⟩)) ?_
  clear hK K
  with_reducible refine po_run ?_ (fun K hK => ?_) ?_
  · (go_simp; done)
  rotate_left
  · exact po_stop
  go_simp
  refine (operations_any _).mono ?_
  rintro e w1 ⟨rfl, hb⟩
  replace HX := HX.call hb
  clear hb b0 b1 b2 b3
  obtain ⟨b0, b1, b2, b3, -, -, -, -⟩ := box4 HX 1 rfl
  refine hK.out _ _ (.inr (⟨b0, b1, b2, b3⟩)) ?_
  clear hK K
  repeat (first
    | (with_reducible refine po_take (v := ?_) ?_ (fun w' hS' => ?_) ?_
       rotate_left
       · (go_simp; done)
       · ((try dsimp only at hS'); go_simp; try with_reducible rfl)
       simp only [Act.put, List.setIfInBounds_toArray, List.set_cons_zero, List.set_cons_succ])
    | (with_reducible refine po_skip ?_ ?_
       · (go_simp; done)
       simp only [Act.put, List.setIfInBounds_toArray, List.set_cons_zero, List.set_cons_succ]))
  with_reducible refine po_run ?_ (fun K hK => ?_) ?_
  · (go_simp; done)
  rotate_left
  · exact po_stop
  obtain ⟨x0, x1, x2, x3, y0, y1, y2, y3⟩ := box4 HX 0 rfl
  go_simp
  clear x0 x1 x2 x3 y0 y1 y2 y3
  replace HX := (((HX.putBox 0 rfl 0 (.int .i64 3)).putBox 0 rfl 1 (.int .i64 0)).putBox 0 rfl 2 (fnV 68)).putBox 0 rfl 3 (fnV 74)
  simp only [List.set_cons_zero, List.set_cons_succ] at HX
  clear b0 b1 b2 b3
  obtain ⟨b0, b1, b2, b3, -, -, -, -⟩ := box4 HX 1 rfl
  refine hK.out _ _ (.inl rfl) ?_
  clear hK K
  clear b0 b1 b2 b3
  refine po_done ?_
  obtain ⟨b0, b1, b2, b3, -, -, -, -⟩ := box4 HX 1 rfl
  obtain ⟨x0, x1, x2, x3, -, -, -, -⟩ := box4 HX 0 rfl
  have HB := HX.below
  clear HX
  by_cases h1 : a < 0
  · have HV := Go.Lib.hid (T1.out h1)
    have q1 : ¬ 0 ≤ a := by omega
    go_wp2
    go_ret
    exact ⟨ret_b HV.out.symm, HB⟩
  have q1 : 0 ≤ a := by omega
  by_cases h2 : a < 4
  rotate_left
  · have HV := Go.Lib.hid (T2.out (by omega))
    go_wp2
    go_ret
    exact ⟨ret_b HV.out.symm, HB⟩
  by_cases h3 : b < 0
  · have HV := Go.Lib.hid (T3.out h3)
    have q2 : ¬ 0 ≤ b := by omega
    go_wp2
    go_ret
    exact ⟨ret_b HV.out.symm, HB⟩
  have q2 : 0 ≤ b := by omega
  by_cases h4 : 3 < b
  · have HV := Go.Lib.hid (T4.out h4)
    have q3 : ¬ b ≤ 3 := by omega
    go_wp2
    go_ret
    exact ⟨ret_b HV.out.symm, HB⟩
  have q3 : b ≤ 3 := by omega
  by_cases h5 : c < 0
  · have HV := Go.Lib.hid (T5.out h5)
    have q4 : ¬ 0 ≤ c := by omega
    go_wp2
    go_ret
    exact ⟨ret_b HV.out.symm, HB⟩
  have q4 : 0 ≤ c := by omega
  by_cases h6 : 0 < c
  · have HV := Go.Lib.hid (T6.out h6)
    have q5 : ¬ c ≤ 0 := by omega
    go_wp2
    go_ret
    exact ⟨ret_b HV.out.symm, HB⟩
  have q5 : c ≤ 0 := by omega
  have HV := Go.Lib.hid (T7.out q1 h2 q2 q3 q4 q5)
  go_wp2
  go_ret
  exact ⟨ret_b HV.out.symm, HB⟩
theorem opsAt_5 (w : World) : (Instr.index 90 opsV (.int .i64 5)).run Try.prog w = .ok (.agg #[.int .i64 0, .int .i64 0, fnV 68, fnV 75]) w := by kernel_rfl
theorem opsP_5 (w : World) : (Instr.field 89 (.agg #[.int .i64 0, .int .i64 0, fnV 68, fnV 75]) 2).run Try.prog w = .ok (fnV 68) w := by kernel_rfl
theorem opsR_5 (w : World) : (Instr.field 89 (.agg #[.int .i64 0, .int .i64 0, fnV 68, fnV 75]) 3).run Try.prog w = .ok (fnV 75) w := by kernel_rfl
set_option maxHeartbeats 3200000 in
set_option maxRecDepth 20000 in
theorem implCommandValid_5 (a b c : Int) (w : World) : Calls Try.prog 47 #[cmdV ⟨5, a, b, c⟩] w fun e w' => e = .returned (.bool (cmdOk ⟨5, a, b, c⟩)) ∧ Below w.heap.size w w' := by
  have H := (Owns.nil w).box [.int .i64 5, .int .i64 a, .int .i64 b, .int .i64 c] 46
  have hI := opsAt_5
  obtain ⟨t1, t2, t3, t4, t5, t6, t7⟩ := cmdOk_tests (cmdOk_t5 a b c)
  have T1 := Go.Lib.hid t1
  have T2 := Go.Lib.hid t2
  have T3 := Go.Lib.hid t3
  have T4 := Go.Lib.hid t4
  have T5 := Go.Lib.hid t5
  have T6 := Go.Lib.hid t6
  have T7 := Go.Lib.hid t7
  clear t1 t2 t3 t4 t5 t6 t7
  obtain ⟨b0, b1, b2, b3, -, -, -, -⟩ := box4 H 0 rfl
  go_enter Try.func47, Try.ntmps47
  go_wp2_with fail
  have HX := H.drew
  clear b0 b1 b2 b3
  obtain ⟨b0, b1, b2, b3, -, -, -, -⟩ := box4 HX 0 rfl
  refine wp_region_tree (fun w' => w'.cell? ⟨w.heap.size, 0, none⟩ = some (.int .i64 5) ∧ w'.cell? ⟨w.heap.size, 1, none⟩ = some (.int .i64 a) ∧ w'.cell? ⟨w.heap.size, 2, none⟩ = some (.int .i64 b) ∧ w'.cell? ⟨w.heap.size, 3, none⟩ = some (.int .i64 c)) 5 [] (.take 1 (.take 2 (.alt 0 (.take 3 (.alt 4 (.alt 5 (.done) (.stop)) (.stop))) (.alt 4 (.alt 0 (.take 3 (.alt 5 (.done) (.stop))) (.stop)) (.stop))))) (by kernel_rfl) (by kernel_rfl) (by kernel_rfl) (⟨b0, b1, b2, b3⟩) ?_
  simp only [fillT, List.getElem?_cons_zero, List.getElem?_cons_succ, Nat.reduceBEq]
  repeat (first
    | (with_reducible refine po_take (v := ?_) ?_ (fun w' hS' => ?_) ?_
       rotate_left
       · (go_simp; done)
       · ((try dsimp only at hS'); go_simp; try with_reducible rfl)
       simp only [Act.put, List.setIfInBounds_toArray, List.set_cons_zero, List.set_cons_succ])
    | (with_reducible refine po_skip ?_ ?_
       · (go_simp; done)
       simp only [Act.put, List.setIfInBounds_toArray, List.set_cons_zero, List.set_cons_succ]))
  with_reducible refine po_run ?_ (fun K hK => ?_) ?_
  · (go_simp; done)
  · -- operation 0 first
    go_simp
    refine (operations_any _).mono ?_
    rintro e w1 ⟨rfl, hb⟩
    replace HX := HX.call hb
    clear hb b0 b1 b2 b3
    obtain ⟨b0, b1, b2, b3, -, -, -, -⟩ := box4 HX 0 rfl
    refine hK.out _ _ (.inr (⟨b0, b1, b2, b3⟩)) ?_
    clear hK K
    repeat (first
      | (with_reducible refine po_take (v := ?_) ?_ (fun w' hS' => ?_) ?_
         rotate_left
         · (go_simp; done)
         · ((try dsimp only at hS'); go_simp; try with_reducible rfl)
         simp only [Act.put, List.setIfInBounds_toArray, List.set_cons_zero, List.set_cons_succ])
      | (with_reducible refine po_skip ?_ ?_
         · (go_simp; done)
         simp only [Act.put, List.setIfInBounds_toArray, List.set_cons_zero, List.set_cons_succ]))
    with_reducible refine po_run ?_ (fun K hK => ?_) ?_
    · (go_simp; done)
    rotate_left
    · exact po_stop
    go_simp
    replace HX := HX.box [.int .i64 0, .int .i64 0, .nilFunc, .nilFunc] 89
    try simp only [drew_size, World.size_alloc] at HX
    clear b0 b1 b2 b3
    revert HX; generalize World.alloc _ _ = wz; intro HX
    obtain ⟨b0, b1, b2, b3, -, -, -, -⟩ := box4 HX 1 rfl
    refine hK.out _ _ (.inr (⟨b0, b1, b2, b3⟩)) ?_
    clear hK K
    with_reducible refine po_run ?_ (fun K hK => ?_) ?_
    · (go_simp; done)
    rotate_left
    · exact po_stop
    obtain ⟨x0, x1, x2, x3, y0, y1, y2, y3⟩ := box4 HX 0 rfl
    go_simp
    clear x0 x1 x2 x3 y0 y1 y2 y3
    replace HX := (((HX.putBox 0 rfl 0 (.int .i64 0)).putBox 0 rfl 1 (.int .i64 0)).putBox 0 rfl 2 (fnV 68)).putBox 0 rfl 3 (fnV 75)
    simp only [List.set_cons_zero, List.set_cons_succ] at HX
    clear b0 b1 b2 b3
    obtain ⟨b0, b1, b2, b3, -, -, -, -⟩ := box4 HX 1 rfl
    refine hK.out _ _ (.inl rfl) ?_
    clear hK K
    clear b0 b1 b2 b3
    refine po_done ?_
    obtain ⟨b0, b1, b2, b3, -, -, -, -⟩ := box4 HX 1 rfl
    obtain ⟨x0, x1, x2, x3, -, -, -, -⟩ := box4 HX 0 rfl
    have HB := HX.below
    clear HX
    by_cases h1 : a < 0
    · have HV := Go.Lib.hid (T1.out h1)
      have q1 : ¬ 0 ≤ a := by omega
      go_wp2
      go_ret
      exact ⟨ret_b HV.out.symm, HB⟩
    have q1 : 0 ≤ a := by omega
    by_cases h2 : a < 4
    rotate_left
    · have HV := Go.Lib.hid (T2.out (by omega))
      go_wp2
      go_ret
      exact ⟨ret_b HV.out.symm, HB⟩
    by_cases h3 : b < 0
    · have HV := Go.Lib.hid (T3.out h3)
      have q2 : ¬ 0 ≤ b := by omega
      go_wp2
      go_ret
      exact ⟨ret_b HV.out.symm, HB⟩
    have q2 : 0 ≤ b := by omega
    by_cases h4 : 0 < b
    · have HV := Go.Lib.hid (T4.out h4)
      have q3 : ¬ b ≤ 0 := by omega
      go_wp2
      go_ret
      exact ⟨ret_b HV.out.symm, HB⟩
    have q3 : b ≤ 0 := by omega
    by_cases h5 : c < 0
    · have HV := Go.Lib.hid (T5.out h5)
      have q4 : ¬ 0 ≤ c := by omega
      go_wp2
      go_ret
      exact ⟨ret_b HV.out.symm, HB⟩
    have q4 : 0 ≤ c := by omega
    by_cases h6 : 0 < c
    · have HV := Go.Lib.hid (T6.out h6)
      have q5 : ¬ c ≤ 0 := by omega
      go_wp2
      go_ret
      exact ⟨ret_b HV.out.symm, HB⟩
    have q5 : c ≤ 0 := by omega
    have HV := Go.Lib.hid (T7.out q1 h2 q2 q3 q4 q5)
    go_wp2
    go_ret
    exact ⟨ret_b HV.out.symm, HB⟩
  with_reducible refine po_run ?_ (fun K hK => ?_) ?_
  · (go_simp; done)
  rotate_left
  · exact po_stop
  go_simp
  replace HX := HX.box [.int .i64 0, .int .i64 0, .nilFunc, .nilFunc] 89
  try simp only [drew_size, World.size_alloc] at HX
  clear b0 b1 b2 b3
  obtain ⟨b0, b1, b2, b3, -, -, -, -⟩ := box4 HX 1 rfl
  refine hK.out _ _ (.inr (⟨b0, b1, b2, b3⟩)) ?_
  clear hK K
  with_reducible refine po_run ?_ (fun K hK => ?_) ?_
  · (go_simp; done)
  rotate_left
  · exact po_stop
  go_simp
  refine (operations_any _).mono ?_
  rintro e w1 ⟨rfl, hb⟩
  replace HX := HX.call hb
  clear hb b0 b1 b2 b3
  obtain ⟨b0, b1, b2, b3, -, -, -, -⟩ := box4 HX 1 rfl
  refine hK.out _ _ (.inr (⟨b0, b1, b2, b3⟩)) ?_
  clear hK K
  repeat (first
    | (with_reducible refine po_take (v := ?_) ?_ (fun w' hS' => ?_) ?_
       rotate_left
       · (go_simp; done)
       · ((try dsimp only at hS'); go_simp; try with_reducible rfl)
       simp only [Act.put, List.setIfInBounds_toArray, List.set_cons_zero, List.set_cons_succ])
    | (with_reducible refine po_skip ?_ ?_
       · (go_simp; done)
       simp only [Act.put, List.setIfInBounds_toArray, List.set_cons_zero, List.set_cons_succ]))
  with_reducible refine po_run ?_ (fun K hK => ?_) ?_
  · (go_simp; done)
  rotate_left
  · exact po_stop
  obtain ⟨x0, x1, x2, x3, y0, y1, y2, y3⟩ := box4 HX 0 rfl
  go_simp
  clear x0 x1 x2 x3 y0 y1 y2 y3
  replace HX := (((HX.putBox 0 rfl 0 (.int .i64 0)).putBox 0 rfl 1 (.int .i64 0)).putBox 0 rfl 2 (fnV 68)).putBox 0 rfl 3 (fnV 75)
  simp only [List.set_cons_zero, List.set_cons_succ] at HX
  clear b0 b1 b2 b3
  obtain ⟨b0, b1, b2, b3, -, -, -, -⟩ := box4 HX 1 rfl
  refine hK.out _ _ (.inl rfl) ?_
  clear hK K
  clear b0 b1 b2 b3
  refine po_done ?_
  obtain ⟨b0, b1, b2, b3, -, -, -, -⟩ := box4 HX 1 rfl
  obtain ⟨x0, x1, x2, x3, -, -, -, -⟩ := box4 HX 0 rfl
  have HB := HX.below
  clear HX
  by_cases h1 : a < 0
  · have HV := Go.Lib.hid (T1.out h1)
    have q1 : ¬ 0 ≤ a := by omega
    go_wp2
    go_ret
    exact ⟨ret_b HV.out.symm, HB⟩
  have q1 : 0 ≤ a := by omega
  by_cases h2 : a < 4
  rotate_left
  · have HV := Go.Lib.hid (T2.out (by omega))
    go_wp2
    go_ret
    exact ⟨ret_b HV.out.symm, HB⟩
  by_cases h3 : b < 0
  · have HV := Go.Lib.hid (T3.out h3)
    have q2 : ¬ 0 ≤ b := by omega
    go_wp2
    go_ret
    exact ⟨ret_b HV.out.symm, HB⟩
  have q2 : 0 ≤ b := by omega
  by_cases h4 : 0 < b
  · have HV := Go.Lib.hid (T4.out h4)
    have q3 : ¬ b ≤ 0 := by omega
    go_wp2
    go_ret
    exact ⟨ret_b HV.out.symm, HB⟩
  have q3 : b ≤ 0 := by omega
  by_cases h5 : c < 0
  · have HV := Go.Lib.hid (T5.out h5)
    have q4 : ¬ 0 ≤ c := by omega
    go_wp2
    go_ret
    exact ⟨ret_b HV.out.symm, HB⟩
  have q4 : 0 ≤ c := by omega
  by_cases h6 : 0 < c
  · have HV := Go.Lib.hid (T6.out h6)
    have q5 : ¬ c ≤ 0 := by omega
    go_wp2
    go_ret
    exact ⟨ret_b HV.out.symm, HB⟩
  have q5 : c ≤ 0 := by omega
  have HV := Go.Lib.hid (T7.out q1 h2 q2 q3 q4 q5)
  go_wp2
  go_ret
  exact ⟨ret_b HV.out.symm, HB⟩
theorem opsAt_6 (w : World) : (Instr.index 90 opsV (.int .i64 6)).run Try.prog w = .ok (.agg #[.int .i64 99, .int .i64 0, fnV 76, fnV 77]) w := by kernel_rfl
theorem opsP_6 (w : World) : (Instr.field 89 (.agg #[.int .i64 99, .int .i64 0, fnV 76, fnV 77]) 2).run Try.prog w = .ok (fnV 76) w := by kernel_rfl
theorem opsR_6 (w : World) : (Instr.field 89 (.agg #[.int .i64 99, .int .i64 0, fnV 76, fnV 77]) 3).run Try.prog w = .ok (fnV 77) w := by kernel_rfl
set_option maxHeartbeats 3200000 in
set_option maxRecDepth 20000 in
theorem implCommandValid_6 (a b c : Int) (w : World) : Calls Try.prog 47 #[cmdV ⟨6, a, b, c⟩] w fun e w' => e = .returned (.bool (cmdOk ⟨6, a, b, c⟩)) ∧ Below w.heap.size w w' := by
  have H := (Owns.nil w).box [.int .i64 6, .int .i64 a, .int .i64 b, .int .i64 c] 46
  have hI := opsAt_6
  obtain ⟨t1, t2, t3, t4, t5, t6, t7⟩ := cmdOk_tests (cmdOk_t6 a b c)
  have T1 := Go.Lib.hid t1
  have T2 := Go.Lib.hid t2
  have T3 := Go.Lib.hid t3
  have T4 := Go.Lib.hid t4
  have T5 := Go.Lib.hid t5
  have T6 := Go.Lib.hid t6
  have T7 := Go.Lib.hid t7
  clear t1 t2 t3 t4 t5 t6 t7
  obtain ⟨b0, b1, b2, b3, -, -, -, -⟩ := box4 H 0 rfl
  go_enter Try.func47, Try.ntmps47
  go_wp2_with fail
  have HX := H.drew
  clear b0 b1 b2 b3
  obtain ⟨b0, b1, b2, b3, -, -, -, -⟩ := box4 HX 0 rfl
  refine wp_region_tree (fun w' => w'.cell? ⟨w.heap.size, 0, none⟩ = some (.int .i64 6) ∧ w'.cell? ⟨w.heap.size, 1, none⟩ = some (.int .i64 a) ∧ w'.cell? ⟨w.heap.size, 2, none⟩ = some (.int .i64 b) ∧ w'.cell? ⟨w.heap.size, 3, none⟩ = some (.int .i64 c)) 5 [] (.take 1 (.take 2 (.alt 0 (.take 3 (.alt 4 (.alt 5 (.done) (.stop)) (.stop))) (.alt 4 (.alt 0 (.take 3 (.alt 5 (.done) (.stop))) (.stop)) (.stop))))) (by kernel_rfl) (by kernel_rfl) (by kernel_rfl) (⟨b0, b1, b2, b3⟩) ?_
  simp only [fillT, List.getElem?_cons_zero, List.getElem?_cons_succ, Nat.reduceBEq]
  repeat (first
    | (with_reducible refine po_take (v := ?_) ?_ (fun w' hS' => ?_) ?_
       rotate_left
       · (go_simp; done)
       · ((try dsimp only at hS'); go_simp; try with_reducible rfl)
       simp only [Act.put, List.setIfInBounds_toArray, List.set_cons_zero, List.set_cons_succ])
    | (with_reducible refine po_skip ?_ ?_
       · (go_simp; done)
       simp only [Act.put, List.setIfInBounds_toArray, List.set_cons_zero, List.set_cons_succ]))
  with_reducible refine po_run ?_ (fun K hK => ?_) ?_
  · (go_simp; done)
  · -- operation 0 first
    go_simp
    refine (operations_any _).mono ?_
    rintro e w1 ⟨rfl, hb⟩
    replace HX := HX.call hb
    clear hb b0 b1 b2 b3
    obtain ⟨b0, b1, b2, b3, -, -, -, -⟩ := box4 HX 0 rfl
    refine hK.out _ _ (.inr (⟨b0, b1, b2, b3⟩)) ?_
    clear hK K
    repeat (first
      | (with_reducible refine po_take (v := ?_) ?_ (fun w' hS' => ?_) ?_
         rotate_left
         · (go_simp; done)
         · ((try dsimp only at hS'); go_simp; try with_reducible rfl)
         simp only [Act.put, List.setIfInBounds_toArray, List.set_cons_zero, List.set_cons_succ])
      | (with_reducible refine po_skip ?_ ?_
         · (go_simp; done)
         simp only [Act.put, List.setIfInBounds_toArray, List.set_cons_zero, List.set_cons_succ]))
    with_reducible refine po_run ?_ (fun K hK => ?_) ?_
    · (go_simp; done)
    rotate_left
    · exact po_stop
    go_simp
    replace HX := HX.box [.int .i64 0, .int .i64 0, .nilFunc, .nilFunc] 89
    try simp only [drew_size, World.size_alloc] at HX
    clear b0 b1 b2 b3
    revert HX; generalize World.alloc _ _ = wz; intro HX
    obtain ⟨b0, b1, b2, b3, -, -, -, -⟩ := box4 HX 1 rfl
    refine hK.out _ _ (.inr (⟨b0, b1, b2, b3⟩)) ?_
    clear hK K
    with_reducible refine po_run ?_ (fun K hK => ?_) ?_
    · (go_simp; done)
    rotate_left
    · exact po_stop
    obtain ⟨x0, x1, x2, x3, y0, y1, y2, y3⟩ := box4 HX 0 rfl
    go_simp
    clear x0 x1 x2 x3 y0 y1 y2 y3
    replace HX := (((HX.putBox 0 rfl 0 (.int .i64 99)).putBox 0 rfl 1 (.int .i64 0)).putBox 0 rfl 2 (fnV 76)).putBox 0 rfl 3 (fnV 77)
    simp only [List.set_cons_zero, List.set_cons_succ] at HX
    clear b0 b1 b2 b3
    obtain ⟨b0, b1, b2, b3, -, -, -, -⟩ := box4 HX 1 rfl
    refine hK.out _ _ (.inl rfl) ?_
    clear hK K
    clear b0 b1 b2 b3
    refine po_done ?_
    obtain ⟨b0, b1, b2, b3, -, -, -, -⟩ := box4 HX 1 rfl
    obtain ⟨x0, x1, x2, x3, -, -, -, -⟩ := box4 HX 0 rfl
    have HB := HX.below
    clear HX
    by_cases h1 : a < 0
    · have HV := Go.Lib.hid (T1.out h1)
      have q1 : ¬ 0 ≤ a := by omega
      go_wp2
      go_ret
      exact ⟨ret_b HV.out.symm, HB⟩
    have q1 : 0 ≤ a := by omega
    by_cases h2 : a < 4
    rotate_left
    · have HV := Go.Lib.hid (T2.out (by omega))
      go_wp2
      go_ret
      exact ⟨ret_b HV.out.symm, HB⟩
    by_cases h3 : b < 0
    · have HV := Go.Lib.hid (T3.out h3)
      have q2 : ¬ 0 ≤ b := by omega
      go_wp2
      go_ret
      exact ⟨ret_b HV.out.symm, HB⟩
    have q2 : 0 ≤ b := by omega
    by_cases h4 : 99 < b
    · have HV := Go.Lib.hid (T4.out h4)
      have q3 : ¬ b ≤ 99 := by omega
      go_wp2
      go_ret
      exact ⟨ret_b HV.out.symm, HB⟩
    have q3 : b ≤ 99 := by omega
    by_cases h5 : c < 0
    · have HV := Go.Lib.hid (T5.out h5)
      have q4 : ¬ 0 ≤ c := by omega
      go_wp2
      go_ret
      exact ⟨ret_b HV.out.symm, HB⟩
    have q4 : 0 ≤ c := by omega
    by_cases h6 : 0 < c
    · have HV := Go.Lib.hid (T6.out h6)
      have q5 : ¬ c ≤ 0 := by omega
      go_wp2
      go_ret
      exact ⟨ret_b HV.out.symm, HB⟩
    have q5 : c ≤ 0 := by omega
    have HV := Go.Lib.hid (T7.out q1 h2 q2 q3 q4 q5)
    go_wp2
    go_ret
    exact ⟨ret_b HV.out.symm, HB⟩
  with_reducible refine po_run ?_ (fun K hK => ?_) ?_
  · (go_simp; done)
  rotate_left
  · exact po_stop
  go_simp
  replace HX := HX.box [.int .i64 0, .int .i64 0, .nilFunc, .nilFunc] 89
  try simp only [drew_size, World.size_alloc] at HX
  clear b0 b1 b2 b3
  obtain ⟨b0, b1, b2, b3, -, -, -, -⟩ := box4 HX 1 rfl
  refine hK.out _ _ (.inr (⟨b0, b1, b2, b3⟩)) ?_
  clear hK K
  with_reducible refine po_run ?_ (fun K hK => ?_) ?_
  · (go_simp; done)
  rotate_left
  · exact po_stop
  go_simp
  refine (operations_any _).mono ?_
  rintro e w1 ⟨rfl, hb⟩
  replace HX := HX.call hb
  clear hb b0 b1 b2 b3
  obtain ⟨b0, b1, b2, b3, -, -, -, -⟩ := box4 HX 1 rfl
  refine hK.out _ _ (.inr (⟨b0, b1, b2, b3⟩)) ?_
  clear hK K
  repeat (first
    | (with_reducible refine po_take (v := ?_) ?_ (fun w' hS' => ?_) ?_
       rotate_left
       · (go_simp; done)
       · ((try dsimp only at hS'); go_simp; try with_reducible rfl)
       simp only [Act.put, List.setIfInBounds_toArray, List.set_cons_zero, List.set_cons_succ])
    | (with_reducible refine po_skip ?_ ?_
       · (go_simp; done)
       simp only [Act.put, List.setIfInBounds_toArray, List.set_cons_zero, List.set_cons_succ]))
  with_reducible refine po_run ?_ (fun K hK => ?_) ?_
  · (go_simp; done)
  rotate_left
  · exact po_stop
  obtain ⟨x0, x1, x2, x3, y0, y1, y2, y3⟩ := box4 HX 0 rfl
  go_simp
  clear x0 x1 x2 x3 y0 y1 y2 y3
  replace HX := (((HX.putBox 0 rfl 0 (.int .i64 99)).putBox 0 rfl 1 (.int .i64 0)).putBox 0 rfl 2 (fnV 76)).putBox 0 rfl 3 (fnV 77)
  simp only [List.set_cons_zero, List.set_cons_succ] at HX
  clear b0 b1 b2 b3
  obtain ⟨b0, b1, b2, b3, -, -, -, -⟩ := box4 HX 1 rfl
  refine hK.out _ _ (.inl rfl) ?_
  clear hK K
  clear b0 b1 b2 b3
  refine po_done ?_
  obtain ⟨b0, b1, b2, b3, -, -, -, -⟩ := box4 HX 1 rfl
  obtain ⟨x0, x1, x2, x3, -, -, -, -⟩ := box4 HX 0 rfl
  have HB := HX.below
  clear HX
  by_cases h1 : a < 0
  · have HV := Go.Lib.hid (T1.out h1)
    have q1 : ¬ 0 ≤ a := by omega
    go_wp2
    go_ret
    exact ⟨ret_b HV.out.symm, HB⟩
  have q1 : 0 ≤ a := by omega
  by_cases h2 : a < 4
  rotate_left
  · have HV := Go.Lib.hid (T2.out (by omega))
    go_wp2
    go_ret
    exact ⟨ret_b HV.out.symm, HB⟩
  by_cases h3 : b < 0
  · have HV := Go.Lib.hid (T3.out h3)
    have q2 : ¬ 0 ≤ b := by omega
    go_wp2
    go_ret
    exact ⟨ret_b HV.out.symm, HB⟩
  have q2 : 0 ≤ b := by omega
  by_cases h4 : 99 < b
  · have HV := Go.Lib.hid (T4.out h4)
    have q3 : ¬ b ≤ 99 := by omega
    go_wp2
    go_ret
    exact ⟨ret_b HV.out.symm, HB⟩
  have q3 : b ≤ 99 := by omega
  by_cases h5 : c < 0
  · have HV := Go.Lib.hid (T5.out h5)
    have q4 : ¬ 0 ≤ c := by omega
    go_wp2
    go_ret
    exact ⟨ret_b HV.out.symm, HB⟩
  have q4 : 0 ≤ c := by omega
  by_cases h6 : 0 < c
  · have HV := Go.Lib.hid (T6.out h6)
    have q5 : ¬ c ≤ 0 := by omega
    go_wp2
    go_ret
    exact ⟨ret_b HV.out.symm, HB⟩
  have q5 : c ≤ 0 := by omega
  have HV := Go.Lib.hid (T7.out q1 h2 q2 q3 q4 q5)
  go_wp2
  go_ret
  exact ⟨ret_b HV.out.symm, HB⟩
theorem implCommandValid_any (o : Cmd) (w : World) : Calls Try.prog 47 #[cmdV o] w fun e w' => e = .returned (.bool (cmdOk o)) ∧ Below w.heap.size w w' := by
  obtain ⟨op, a, b, c⟩ := o
  by_cases h1 : op = 1
  · subst h1; exact implCommandValid_1 a b c w
  by_cases h2 : op = 2
  · subst h2; exact implCommandValid_2 a b c w
  by_cases h3 : op = 3
  · subst h3; exact implCommandValid_3 a b c w
  by_cases h4 : op = 4
  · subst h4; exact implCommandValid_4 a b c w
  by_cases h5 : op = 5
  · subst h5; exact implCommandValid_5 a b c w
  by_cases h6 : op = 6
  · subst h6; exact implCommandValid_6 a b c w
  have HV := Go.Lib.hid (cmdOk0 a b c ⟨h1, h2, h3, h4, h5, h6⟩)
  have H := (Owns.nil w).box [.int .i64 op, .int .i64 a, .int .i64 b, .int .i64 c] 46
  have HB := H.below
  obtain ⟨b0, b1, b2, b3, -, -, -, -⟩ := box4 H 0 rfl
  clear H
  by_cases hlo : op < 1
  · go_enter Try.func47, Try.ntmps47
    go_wp2
    go_ret
    exact ⟨ret_b HV.out.symm, HB⟩
  · have hhi : 6 < op := by omega
    go_enter Try.func47, Try.ntmps47
    go_wp2
    go_ret
    exact ⟨ret_b HV.out.symm, HB⟩
end Go.Proofs.Ytdkpfggfkhnjfaa
