/- UsedCells, the program's: both numbers. -/
import Derived.Test.YtdkpfggfkhnjfaaZ4
namespace Go.Proofs.Ytdkpfggfkhnjfaa
open Go.RowKit
set_option maxHeartbeats 1600000 in
set_option maxRecDepth 20000 in
theorem implUsedCells2_any (w : World) (B : Nat) (v : Value) (h : Hp) (hh : RdH w B v h) (hok : heapOk h = true) :
    Calls Try.prog 30 #[v] w fun e w' => e = .returned (.tuple #[.int .i64 (usedTo h.cells h.cells.length : Nat), .int .i64 (cntB (mReachable h) : Nat)]) ∧ Below w.heap.size w w' := by
  have hh' := hh.top
  obtain ⟨D, m, d, D', m', d', rfl, hC, hR⟩ := hh.top
  have l3 := hC.le1; have l4 := hC.le2
  obtain ⟨s4, -⟩ := heapOk_small hok
  have h64 : h.cells.length ≤ 64 := by omega
  have hm64 : m ≤ 1048576 := by omega
  have H1 := (Owns.nil w).box [.slice D m d, .slice D' m' d'] 29
  go_enter Try.func30, Try.ntmps30
  go_wp2_with fail
  refine (heapValid_any _ _ _ h (hh'.below H1.below)).mono ?_
  rintro e w1 ⟨rfl, hb1⟩
  rw [hok]
  clear hok
  have H2 := H1.call hb1
  clear H1 hb1
  obtain ⟨S, hS⟩ : ∃ S, S = usedM h.cells := ⟨_, rfl⟩
  have HM : Hid (S < 2 ^ 64) := Go.Lib.hid (by rw [hS]; exact usedM_lt h.cells)
  have hml : m = h.cells.length := by omega
  obtain ⟨Z, hZ⟩ : ∃ Z, Z = (List.range m).map S.testBit := ⟨_, rfl⟩
  have HU : Hid (cntB Z = usedTo h.cells h.cells.length) := Go.Lib.hid (by rw [hZ, hml, hS]; exact cntB_used (by omega))
  have hZl : Z.length ≤ 1048576 := by rw [hZ]; simp; omega
  have HZ := Go.Lib.hid hZ
  obtain ⟨Y, hY⟩ : ∃ Y, Y = mReachable h := ⟨_, rfl⟩
  have hYl : Y.length ≤ 1048576 := by rw [hY]; exact mReachable_len h
  have HY := Go.Lib.hid hY
  have HSM := Go.Lib.hid hS
  clear hZ hY hS hml
  have HX := H2.drew
  obtain ⟨b0, b1, -, -⟩ := HX.box2 0 rfl
  go_wp2_with fail
  refine wp_region_tree (fun w' => w'.cell? ⟨w.heap.size, 0, none⟩ = some (.slice D m d) ∧ w'.cell? ⟨w.heap.size, 1, none⟩ = some (.slice D' m' d')) 12 [] (.take 0 (.take 2 (.take 3 (.take 4 (.take 7 (.alt 1 (.alt 5 (.alt 6 (.alt 8 (.alt 9 (.take 10 (.take 11 (.done))) (.stop)) (.stop)) (.stop)) (.stop)) (.stop))))))) (by kernel_rfl) (by kernel_rfl) (by kernel_rfl) (⟨b0, b1⟩) ?_
  simp only [fillT, List.getElem?_cons_zero, List.getElem?_cons_succ, Nat.reduceBEq]
  repeat (first
    | (with_reducible refine po_take (v := ?_) ?_ (fun w' hS' => ?_) ?_
       rotate_left
       · (go_simp; done)
       · ((try dsimp only at hS'); go_simp; try with_reducible rfl)
       simp only [Act.put, List.setIfInBounds_toArray, List.set_cons_zero, List.set_cons_succ])
    | (with_reducible refine po_skip ?_ ?_
       · (go_simp; done)
       simp only [Act.put, List.setIfInBounds_toArray, List.set_cons_zero, List.set_cons_succ]))
  with_reducible refine po_run ?_ (fun K hK => ?_) ?_
  · (go_simp; done)
  rotate_left
  · exact po_stop
  go_simp
  refine (usedSet_any _ _ _ h (hh'.below HX.below) h64).mono ?_
  rintro e w7 ⟨he, hb⟩
  rw [← HSM.out] at he
  subst he
  replace HX := HX.call hb
  clear hb b0 b1
  obtain ⟨b0, b1, -, -⟩ := HX.box2 0 rfl
  refine hK.out _ _ (.inr (⟨b0, b1⟩)) ?_
  clear hK K
  with_reducible refine po_run ?_ (fun K hK => ?_) ?_
  · (go_simp; done)
  rotate_left
  · exact po_stop
  go_simp
  refine (list_any _ m _ HM.out hm64).mono ?_
  rintro e w9 ⟨v9, rfl, ho9, hb9⟩
  rw [← HZ.out] at ho9
  replace HX := HX.madeB ho9 hb9
  obtain ⟨V9, k9, rfl, -⟩ := HX.formB 0 rfl
  clear ho9 hb9 b0 b1
  obtain ⟨b0, b1, -, -⟩ := HX.box2 1 rfl
  refine hK.out _ _ (.inr (⟨b0, b1⟩)) ?_
  clear hK K
  with_reducible refine po_run ?_ (fun K hK => ?_) ?_
  · (go_simp; done)
  rotate_left
  · exact po_stop
  go_simp
  refine (count_any _ _ _ _ _ _ (HX.owB 0 rfl).rdB hZl).mono ?_
  rintro e w10 ⟨rfl, hb⟩
  replace HX := HX.call hb
  clear hb b0 b1
  obtain ⟨b0, b1, -, -⟩ := HX.box2 1 rfl
  refine hK.out _ _ (.inr (⟨b0, b1⟩)) ?_
  clear hK K
  with_reducible refine po_run ?_ (fun K hK => ?_) ?_
  · (go_simp; done)
  rotate_left
  · exact po_stop
  go_simp
  refine (implReachable_any _ _ _ h (hh'.below HX.below)).mono ?_
  rintro e w11 ⟨v11, rfl, ho11, hb11⟩
  rw [← HY.out] at ho11
  replace HX := HX.madeB ho11 hb11
  obtain ⟨V11, k11, rfl, -⟩ := HX.formB 0 rfl
  clear ho11 hb11 b0 b1
  obtain ⟨b0, b1, -, -⟩ := HX.box2 2 rfl
  refine hK.out _ _ (.inr (⟨b0, b1⟩)) ?_
  clear hK K
  with_reducible refine po_run ?_ (fun K hK => ?_) ?_
  · (go_simp; done)
  rotate_left
  · exact po_stop
  go_simp
  refine (count_any _ _ _ _ _ _ (HX.owB 0 rfl).rdB hYl).mono ?_
  rintro e w12 ⟨rfl, hb⟩
  replace HX := HX.call hb
  clear hb b0 b1
  obtain ⟨b0, b1, -, -⟩ := HX.box2 2 rfl
  refine hK.out _ _ (.inr (⟨b0, b1⟩)) ?_
  clear hK K
  repeat (first
    | (with_reducible refine po_take (v := ?_) ?_ (fun w' hS' => ?_) ?_
       rotate_left
       · (go_simp; done)
       · ((try dsimp only at hS'); go_simp; try with_reducible rfl)
       simp only [Act.put, List.setIfInBounds_toArray, List.set_cons_zero, List.set_cons_succ])
    | (with_reducible refine po_skip ?_ ?_
       · (go_simp; done)
       simp only [Act.put, List.setIfInBounds_toArray, List.set_cons_zero, List.set_cons_succ]))
  refine po_done ?_
  have HB := HX.below
  clear b0 b1 HX
  rw [HU.out]
  have HYe := HY.out
  go_wp2
  exact bodyPost_ret (v := .tuple #[.int .i64 ((usedTo h.cells h.cells.length : Nat) : Int), .int .i64 ((cntB Y : Nat) : Int)]) (by simp [results, Try.results30, go_sem]) rfl ⟨by rw [HYe], HB⟩
end Go.Proofs.Ytdkpfggfkhnjfaa
