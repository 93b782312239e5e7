/- What the program's operations do to a heap of the call's own: one contract for each. For every valid heap. -/
import Derived.Test.YtdkpfggfkhnjfaaPl
import Derived.Test.YtdkpfggfkhnjfaaZ1
import Derived.Test.YtdkpfggfkhnjfaaZ0
namespace Go.Proofs.Ytdkpfggfkhnjfaa
open Go.RowKit
section
variable {lo : Nat} {w0 w : World} {L0 : List OB} {g : Nat} {C : Option Addr} {nC kC gC gR nR kR : Nat} {rvs : List Value} {cs : List Cel} {rs : List Int} {t : TypeId}
set_option maxHeartbeats 3200000 in
set_option maxRecDepth 20000 in
theorem runCopy_own (H : Owns lo w0 w (.box g [.slice C nC kC, .slice (some ⟨gR, 0, none⟩) nR kR] t :: .cells (.slice C nC kC) rvs cs :: .ints (.slice (some ⟨gR, 0, none⟩) nR kR) rs :: L0)) (hnR : nR = rs.length) (op c : Int) (an bn : Nat) (xa xb : Int) (hxa : Hid (rs[an]? = some xa)) (hxb : Hid (rs[bn]? = some xb)) :
    Calls Try.prog 74 #[.pointer (some ⟨g, 0, none⟩), cmdV ⟨op, an, bn, c⟩] w fun e w' => (∃ u, e = .returned u) ∧ Owns lo w0 w' (.box g [.slice C nC kC, .slice (some ⟨gR, 0, none⟩) nR kR] t :: .cells (.slice C nC kC) rvs cs :: .ints (.slice (some ⟨gR, 0, none⟩) nR kR) (rs.set an xb) :: L0) := by
  have hal : an < nR := by rw [hnR]; exact (List.getElem?_eq_some_iff.1 hxa.out).1
  have hbl : bn < nR := by rw [hnR]; exact (List.getElem?_eq_some_iff.1 hxb.out).1
  have HN := Go.Lib.hid hnR
  have H1 := H.box [.int .i64 op, .int .i64 an, .int .i64 bn, .int .i64 c] 46
  have HX := H1.drew
  obtain ⟨x0, x1, -, -⟩ := HX.box2 1 rfl
  obtain ⟨b0, b1, b2, b3, -, -, -, -⟩ := box4 HX 0 rfl
  obtain ⟨y0, -⟩ := HX.intAt 3 rfl hnR hxb
  obtain ⟨e0, e1⟩ := HX.intAt 3 rfl hnR hxa
  clear hnR H
  go_enter Try.func74, Try.ntmps74
  go_wp2_with fail
  refine wp_region_tree (fun w' => (w'.cell? ⟨g, 0, none⟩ = some (.slice C nC kC) ∧ w'.cell? ⟨g, 1, none⟩ = some (.slice (some ⟨gR, 0, none⟩) nR kR)) ∧ (w'.cell? ⟨w.heap.size, 1, none⟩ = some (.int .i64 an) ∧ w'.cell? ⟨w.heap.size, 2, none⟩ = some (.int .i64 bn)) ∧ w'.cell? ⟨gR, bn, none⟩ = some (.int .i64 xb)) 15 [] (.take 0 (.take 1 (.take 2 (.take 3 (.take 4 (.take 5 (.take 6 (.take 7 (.take 8 (.take 9 (.take 10 (.take 11 (.take 12 (.take 13 (.take 14 (.alt 15 (.done) (.stop))))))))))))))))) (by kernel_rfl) (by kernel_rfl) (by kernel_rfl) (⟨⟨x0, x1⟩, ⟨b1, b2⟩, y0⟩) ?_
  simp only [fillT, List.getElem?_cons_zero, List.getElem?_cons_succ, Nat.reduceBEq]
  repeat (first
    | (with_reducible refine po_take (v := ?_) ?_ (fun w' hS' => ?_) ?_
       rotate_left
       · (go_simp; done)
       · ((try dsimp only at hS'); go_simp; try with_reducible rfl)
       simp only [Act.put, List.setIfInBounds_toArray, List.set_cons_zero, List.set_cons_succ])
    | (with_reducible refine po_skip ?_ ?_
       · (go_simp; done)
       simp only [Act.put, List.setIfInBounds_toArray, List.set_cons_zero, List.set_cons_succ]))
  with_reducible refine po_run ?_ (fun K hK => ?_) ?_
  · (go_simp; done)
  rotate_left
  · exact po_stop
  go_simp
  clear HX
  have HX := H1.setInt 3 rfl HN.out an xb
  simp only [List.set_cons_zero, List.set_cons_succ] at HX
  clear H1 x0 x1 b0 b1 b2 b3 y0 e0 e1
  refine hK.out _ _ (.inl rfl) ?_
  clear hK K
  refine po_done ?_
  have HZ := HX.drew.erase 0
  simp only [List.eraseIdx_cons_zero] at HZ
  clear HX
  go_wp2
  refine bodyPost_end (results_none rfl _ _ _) rfl ?_
  exact ⟨⟨_, rfl⟩, HZ⟩
set_option maxHeartbeats 3200000 in
set_option maxRecDepth 20000 in
theorem runDrop_own (H : Owns lo w0 w (.box g [.slice C nC kC, .slice (some ⟨gR, 0, none⟩) nR kR] t :: .cells (.slice C nC kC) rvs cs :: .ints (.slice (some ⟨gR, 0, none⟩) nR kR) rs :: L0)) (hnR : nR = rs.length) (op b c : Int) (an : Nat) (xa : Int) (hxa : Hid (rs[an]? = some xa)) :
    Calls Try.prog 75 #[.pointer (some ⟨g, 0, none⟩), cmdV ⟨op, an, b, c⟩] w fun e w' => (∃ u, e = .returned u) ∧ Owns lo w0 w' (.box g [.slice C nC kC, .slice (some ⟨gR, 0, none⟩) nR kR] t :: .cells (.slice C nC kC) rvs cs :: .ints (.slice (some ⟨gR, 0, none⟩) nR kR) (rs.set an (-1)) :: L0) := by
  have hal : an < nR := by rw [hnR]; exact (List.getElem?_eq_some_iff.1 hxa.out).1
  have HN := Go.Lib.hid hnR
  have H1 := H.box [.int .i64 op, .int .i64 an, .int .i64 b, .int .i64 c] 46
  have HX := H1.drew
  obtain ⟨x0, x1, -, -⟩ := HX.box2 1 rfl
  obtain ⟨b0, b1, b2, b3, -, -, -, -⟩ := box4 HX 0 rfl
  obtain ⟨e0, e1⟩ := HX.intAt 3 rfl hnR hxa
  clear hnR H
  go_enter Try.func75, Try.ntmps75
  go_wp2_with fail
  refine wp_region_tree (fun w' => (w'.cell? ⟨g, 0, none⟩ = some (.slice C nC kC) ∧ w'.cell? ⟨g, 1, none⟩ = some (.slice (some ⟨gR, 0, none⟩) nR kR)) ∧ w'.cell? ⟨w.heap.size, 1, none⟩ = some (.int .i64 an)) 7 [] (.take 0 (.take 1 (.take 2 (.take 3 (.take 4 (.take 5 (.take 6 (.alt 7 (.done) (.stop))))))))) (by kernel_rfl) (by kernel_rfl) (by kernel_rfl) (⟨⟨x0, x1⟩, b1⟩) ?_
  simp only [fillT, List.getElem?_cons_zero, List.getElem?_cons_succ, Nat.reduceBEq]
  repeat (first
    | (with_reducible refine po_take (v := ?_) ?_ (fun w' hS' => ?_) ?_
       rotate_left
       · (go_simp; done)
       · ((try dsimp only at hS'); go_simp; try with_reducible rfl)
       simp only [Act.put, List.setIfInBounds_toArray, List.set_cons_zero, List.set_cons_succ])
    | (with_reducible refine po_skip ?_ ?_
       · (go_simp; done)
       simp only [Act.put, List.setIfInBounds_toArray, List.set_cons_zero, List.set_cons_succ]))
  with_reducible refine po_run ?_ (fun K hK => ?_) ?_
  · (go_simp; done)
  rotate_left
  · exact po_stop
  go_simp
  clear HX
  have HX := H1.setInt 3 rfl HN.out an (-1)
  simp only [List.set_cons_zero, List.set_cons_succ] at HX
  clear H1 x0 x1 b0 b1 b2 b3 e0 e1
  refine hK.out _ _ (.inl rfl) ?_
  clear hK K
  refine po_done ?_
  have HZ := HX.drew.erase 0
  simp only [List.eraseIdx_cons_zero] at HZ
  clear HX
  go_wp2
  refine bodyPost_end (results_none rfl _ _ _) rfl ?_
  exact ⟨⟨_, rfl⟩, HZ⟩
set_option maxHeartbeats 3200000 in
set_option maxRecDepth 20000 in
theorem runData_own (H : Owns lo w0 w (.box g [.slice (some ⟨gC, 0, none⟩) nC kC, .slice (some ⟨gR, 0, none⟩) nR kR] t :: .cells (.slice (some ⟨gC, 0, none⟩) nC kC) rvs cs :: .ints (.slice (some ⟨gR, 0, none⟩) nR kR) rs :: L0)) (hnC : nC = cs.length) (hnR : nR = rs.length) (op b c : Int) (an q : Nat) (l : Cel) (hxa : Hid (rs[an]? = some (q : Int))) (hl : Hid (cs[q]? = some l)) :
    Calls Try.prog 77 #[.pointer (some ⟨g, 0, none⟩), cmdV ⟨op, an, b, c⟩] w fun e w' => (∃ u, e = .returned u) ∧ Owns lo w0 w' (.box g [.slice (some ⟨gC, 0, none⟩) nC kC, .slice (some ⟨gR, 0, none⟩) nR kR] t :: .cells (.slice (some ⟨gC, 0, none⟩) nC kC) rvs (cs.set q ⟨l.used, b, l.refs⟩) :: .ints (.slice (some ⟨gR, 0, none⟩) nR kR) rs :: L0) := by
  have hal : an < nR := by rw [hnR]; exact (List.getElem?_eq_some_iff.1 hxa.out).1
  have hql : q < nC := by rw [hnC]; exact (List.getElem?_eq_some_iff.1 hl.out).1
  have HN := Go.Lib.hid hnC
  have i1 : (0 : Int) ≤ (q : Int) := by omega
  have i2 : (q : Int) < (nC : Int) := by omega
  have H1 := H.box [.int .i64 op, .int .i64 an, .int .i64 b, .int .i64 c] 46
  have HX := H1.drew
  obtain ⟨x0, x1, -, -⟩ := HX.box2 1 rfl
  obtain ⟨b0, b1, b2, b3, -, -, -, -⟩ := box4 HX 0 rfl
  obtain ⟨y0, -⟩ := HX.intAt 3 rfl hnR hxa
  obtain ⟨gC', cC', A2, c2, eC, -, -, e0, -, -, e1, -, -, -⟩ := HX.cellW 2 rfl hl
  simp only [Value.slice.injEq, Option.some.injEq, Addr.mk.injEq, and_true] at eC
  obtain ⟨rfl, -, rfl⟩ := eC
  clear hnR hnC H
  go_enter Try.func77, Try.ntmps77
  go_wp2_with fail
  refine wp_region_tree (fun w' => (w'.cell? ⟨g, 0, none⟩ = some (.slice (some ⟨gC, 0, none⟩) nC kC) ∧ w'.cell? ⟨g, 1, none⟩ = some (.slice (some ⟨gR, 0, none⟩) nR kR)) ∧ (w'.cell? ⟨w.heap.size, 1, none⟩ = some (.int .i64 an) ∧ w'.cell? ⟨w.heap.size, 2, none⟩ = some (.int .i64 b)) ∧ w'.cell? ⟨gR, an, none⟩ = some (.int .i64 (q : Int))) 16 [] (.take 0 (.take 1 (.take 2 (.take 3 (.take 4 (.take 5 (.take 6 (.take 7 (.take 8 (.take 9 (.take 10 (.take 11 (.take 12 (.take 13 (.take 14 (.take 15 (.alt 16 (.done) (.stop)))))))))))))))))) (by kernel_rfl) (by kernel_rfl) (by kernel_rfl) (⟨⟨x0, x1⟩, ⟨b1, b2⟩, y0⟩) ?_
  simp only [fillT, List.getElem?_cons_zero, List.getElem?_cons_succ, Nat.reduceBEq]
  repeat (first
    | (with_reducible refine po_take (v := ?_) ?_ (fun w' hS' => ?_) ?_
       rotate_left
       · (go_simp; done)
       · ((try dsimp only at hS'); go_simp; try with_reducible rfl)
       simp only [Act.put, List.setIfInBounds_toArray, List.set_cons_zero, List.set_cons_succ])
    | (with_reducible refine po_skip ?_ ?_
       · (go_simp; done)
       simp only [Act.put, List.setIfInBounds_toArray, List.set_cons_zero, List.set_cons_succ]))
  with_reducible refine po_run ?_ (fun K hK => ?_) ?_
  · (go_simp; done)
  rotate_left
  · exact po_stop
  go_simp
  clear HX
  have HX := H1.putDat 2 rfl HN.out hl.out b
  simp only [List.set_cons_zero, List.set_cons_succ] at HX
  clear H1 x0 x1 b0 b1 b2 b3 y0 e0 e1
  refine hK.out _ _ (.inl rfl) ?_
  clear hK K
  refine po_done ?_
  have HZ := HX.drew.erase 0
  simp only [List.eraseIdx_cons_zero] at HZ
  clear HX
  go_wp2
  refine bodyPost_end (results_none rfl _ _ _) rfl ?_
  exact ⟨⟨_, rfl⟩, HZ⟩
set_option maxHeartbeats 3200000 in
set_option maxRecDepth 20000 in
theorem runGet_own (H : Owns lo w0 w (.box g [.slice (some ⟨gC, 0, none⟩) nC kC, .slice (some ⟨gR, 0, none⟩) nR kR] t :: .cells (.slice (some ⟨gC, 0, none⟩) nC kC) rvs cs :: .ints (.slice (some ⟨gR, 0, none⟩) nR kR) rs :: L0)) (hnC : nC = cs.length) (hnR : nR = rs.length) (hkC : nC ≤ kC) (hkR : nR ≤ kR) (op : Int) (an bn cn q : Nat) (l : Cel) (xa y : Int) (hxa : Hid (rs[an]? = some xa)) (hxb : Hid (rs[bn]? = some (q : Int))) (hl : Hid (cs[q]? = some l)) (hy : Hid (l.refs[cn]? = some y)) :
    Calls Try.prog 71 #[.pointer (some ⟨g, 0, none⟩), cmdV ⟨op, an, bn, cn⟩] w fun e w' => (∃ u, e = .returned u) ∧ Owns lo w0 w' (.box g [.slice (some ⟨gC, 0, none⟩) nC kC, .slice (some ⟨gR, 0, none⟩) nR kR] t :: .cells (.slice (some ⟨gC, 0, none⟩) nC kC) rvs cs :: .ints (.slice (some ⟨gR, 0, none⟩) nR kR) (rs.set an y) :: L0) := by
  have hal : an < nR := by rw [hnR]; exact (List.getElem?_eq_some_iff.1 hxa.out).1
  have hcl : cn < l.refs.length := (List.getElem?_eq_some_iff.1 hy.out).1
  have HC := Go.Lib.hid hnC
  have HN := Go.Lib.hid hnR
  have H1 := H.box [.int .i64 op, .int .i64 an, .int .i64 bn, .int .i64 cn] 46
  have HX := H1.drew
  obtain ⟨x0, x1, -, -⟩ := HX.box2 1 rfl
  obtain ⟨b0, b1, b2, b3, -, -, -, -⟩ := box4 HX 0 rfl
  clear hnR hnC H H1
  go_enter Try.func71, Try.ntmps71
  go_wp2_with fail
  refine wp_region_tree (fun w' => (w'.cell? ⟨g, 0, none⟩ = some (.slice (some ⟨gC, 0, none⟩) nC kC) ∧ w'.cell? ⟨g, 1, none⟩ = some (.slice (some ⟨gR, 0, none⟩) nR kR)) ∧ (w'.cell? ⟨w.heap.size, 1, none⟩ = some (.int .i64 an) ∧ w'.cell? ⟨w.heap.size, 2, none⟩ = some (.int .i64 bn) ∧ w'.cell? ⟨w.heap.size, 3, none⟩ = some (.int .i64 cn))) 13 [] (.take 0 (.take 1 (.take 2 (.take 3 (.take 4 (.take 5 (.take 6 (.alt 7 (.take 8 (.take 9 (.take 10 (.take 11 (.take 12 (.done)))))) (.stop))))))))) (by kernel_rfl) (by kernel_rfl) (by kernel_rfl) (⟨⟨x0, x1⟩, b1, b2, b3⟩) ?_
  simp only [fillT, List.getElem?_cons_zero, List.getElem?_cons_succ, Nat.reduceBEq]
  repeat (first
    | (with_reducible refine po_take (v := ?_) ?_ (fun w' hS' => ?_) ?_
       rotate_left
       · (go_simp; done)
       · ((try dsimp only at hS'); go_simp; try with_reducible rfl)
       simp only [Act.put, List.setIfInBounds_toArray, List.set_cons_zero, List.set_cons_succ])
    | (with_reducible refine po_skip ?_ ?_
       · (go_simp; done)
       simp only [Act.put, List.setIfInBounds_toArray, List.set_cons_zero, List.set_cons_succ]))
  with_reducible refine po_run ?_ (fun K hK => ?_) ?_
  · (go_simp; done)
  rotate_left
  · exact po_stop
  go_simp
  obtain ⟨gF, c2, hrv, hP⟩ := place_own HX 2 3 rfl rfl HC.out HN.out hkC hkR bn cn q l hxb hl hcl
  refine hP.mono ?_
  rintro e w1 ⟨rfl, HY⟩
  clear hP HX x0 x1 b0 b1 b2 b3
  obtain ⟨x0, x1, -, -⟩ := HY.box2 1 rfl
  obtain ⟨b0, b1, b2, b3, -, -, -, -⟩ := box4 HY 0 rfl
  refine hK.out _ _ (.inr (⟨⟨x0, x1⟩, b1, b2, b3⟩)) ?_
  clear hK K
  clear x0 x1 b0 b1 b2 b3
  repeat (first
    | (with_reducible refine po_take (v := ?_) ?_ (fun w' hS' => ?_) ?_
       rotate_left
       · (go_simp; done)
       · ((try dsimp only at hS'); go_simp; try with_reducible rfl)
       simp only [Act.put, List.setIfInBounds_toArray, List.set_cons_zero, List.set_cons_succ])
    | (with_reducible refine po_skip ?_ ?_
       · (go_simp; done)
       simp only [Act.put, List.setIfInBounds_toArray, List.set_cons_zero, List.set_cons_succ]))
  refine po_done ?_
  have HX := HY.drew
  obtain ⟨x0, x1, -, -⟩ := HX.box2 1 rfl
  obtain ⟨b0, b1, b2, b3, -, -, -, -⟩ := box4 HX 0 rfl
  obtain ⟨gF', eF, y0, -⟩ := HX.refAt 2 rfl hrv hl hy
  simp only [Option.some.injEq, Addr.mk.injEq, and_true] at eF
  obtain rfl := eF
  obtain ⟨e0, e1⟩ := HX.intAt 3 rfl HN.out hxa
  go_wp2_with fail
  refine wp_region_tree (fun w' => (w'.cell? ⟨g, 0, none⟩ = some (.slice (some ⟨gC, 0, none⟩) nC kC) ∧ w'.cell? ⟨g, 1, none⟩ = some (.slice (some ⟨gR, 0, none⟩) nR kR)) ∧ w'.cell? ⟨w.heap.size, 1, none⟩ = some (.int .i64 an) ∧ w'.cell? ⟨gF, cn, none⟩ = some (.int .i64 y)) 10 [] (.take 0 (.take 1 (.take 2 (.take 3 (.take 4 (.take 5 (.take 6 (.take 7 (.take 8 (.take 9 (.alt 10 (.done) (.stop)))))))))))) (by kernel_rfl) (by kernel_rfl) (by kernel_rfl) (⟨⟨x0, x1⟩, b1, y0⟩) ?_
  simp only [fillT, List.getElem?_cons_zero, List.getElem?_cons_succ, Nat.reduceBEq]
  repeat (first
    | (with_reducible refine po_take (v := ?_) ?_ (fun w' hS' => ?_) ?_
       rotate_left
       · (go_simp; done)
       · ((try dsimp only at hS'); go_simp; try with_reducible rfl)
       simp only [Act.put, List.setIfInBounds_toArray, List.set_cons_zero, List.set_cons_succ])
    | (with_reducible refine po_skip ?_ ?_
       · (go_simp; done)
       simp only [Act.put, List.setIfInBounds_toArray, List.set_cons_zero, List.set_cons_succ]))
  with_reducible refine po_run ?_ (fun K hK => ?_) ?_
  · (go_simp; done)
  rotate_left
  · exact po_stop
  go_simp
  clear HX
  have HX := HY.setInt 3 rfl HN.out an y
  simp only [List.set_cons_zero, List.set_cons_succ] at HX
  clear HY x0 x1 b0 b1 b2 b3 y0 e0 e1
  refine hK.out _ _ (.inl rfl) ?_
  clear hK K
  refine po_done ?_
  have HZ := HX.drew.erase 0
  simp only [List.eraseIdx_cons_zero] at HZ
  clear HX
  go_wp2
  refine bodyPost_end (results_none rfl _ _ _) rfl ?_
  exact ⟨⟨_, rfl⟩, HZ⟩
set_option maxHeartbeats 3200000 in
set_option maxRecDepth 20000 in
theorem runSet_own (H : Owns lo w0 w (.box g [.slice (some ⟨gC, 0, none⟩) nC kC, .slice (some ⟨gR, 0, none⟩) nR kR] t :: .cells (.slice (some ⟨gC, 0, none⟩) nC kC) rvs cs :: .ints (.slice (some ⟨gR, 0, none⟩) nR kR) rs :: L0)) (hnC : nC = cs.length) (hnR : nR = rs.length) (hkC : nC ≤ kC) (hkR : nR ≤ kR) (op : Int) (an bn cn q : Nat) (l : Cel) (xb y : Int) (hxa : Hid (rs[an]? = some (q : Int))) (hxb : Hid (rs[bn]? = some xb)) (hl : Hid (cs[q]? = some l)) (hy : Hid (l.refs[cn]? = some y)) :
    Calls Try.prog 73 #[.pointer (some ⟨g, 0, none⟩), cmdV ⟨op, an, bn, cn⟩] w fun e w' => (∃ u, e = .returned u) ∧ Owns lo w0 w' (.box g [.slice (some ⟨gC, 0, none⟩) nC kC, .slice (some ⟨gR, 0, none⟩) nR kR] t :: .cells (.slice (some ⟨gC, 0, none⟩) nC kC) rvs (cs.set q ⟨l.used, l.data, l.refs.set cn xb⟩) :: .ints (.slice (some ⟨gR, 0, none⟩) nR kR) rs :: L0) := by
  have hbl : bn < nR := by rw [hnR]; exact (List.getElem?_eq_some_iff.1 hxb.out).1
  have hcl : cn < l.refs.length := (List.getElem?_eq_some_iff.1 hy.out).1
  have HC := Go.Lib.hid hnC
  have HN := Go.Lib.hid hnR
  have H1 := H.box [.int .i64 op, .int .i64 an, .int .i64 bn, .int .i64 cn] 46
  have HX := H1.drew
  obtain ⟨x0, x1, -, -⟩ := HX.box2 1 rfl
  obtain ⟨b0, b1, b2, b3, -, -, -, -⟩ := box4 HX 0 rfl
  clear hnR hnC H H1
  go_enter Try.func73, Try.ntmps73
  go_wp2_with fail
  refine wp_region_tree (fun w' => (w'.cell? ⟨g, 0, none⟩ = some (.slice (some ⟨gC, 0, none⟩) nC kC) ∧ w'.cell? ⟨g, 1, none⟩ = some (.slice (some ⟨gR, 0, none⟩) nR kR)) ∧ (w'.cell? ⟨w.heap.size, 1, none⟩ = some (.int .i64 an) ∧ w'.cell? ⟨w.heap.size, 2, none⟩ = some (.int .i64 bn) ∧ w'.cell? ⟨w.heap.size, 3, none⟩ = some (.int .i64 cn))) 13 [] (.take 0 (.take 1 (.take 2 (.take 3 (.take 4 (.take 5 (.take 6 (.alt 7 (.take 8 (.take 9 (.take 10 (.take 11 (.take 12 (.done)))))) (.stop))))))))) (by kernel_rfl) (by kernel_rfl) (by kernel_rfl) (⟨⟨x0, x1⟩, b1, b2, b3⟩) ?_
  simp only [fillT, List.getElem?_cons_zero, List.getElem?_cons_succ, Nat.reduceBEq]
  repeat (first
    | (with_reducible refine po_take (v := ?_) ?_ (fun w' hS' => ?_) ?_
       rotate_left
       · (go_simp; done)
       · ((try dsimp only at hS'); go_simp; try with_reducible rfl)
       simp only [Act.put, List.setIfInBounds_toArray, List.set_cons_zero, List.set_cons_succ])
    | (with_reducible refine po_skip ?_ ?_
       · (go_simp; done)
       simp only [Act.put, List.setIfInBounds_toArray, List.set_cons_zero, List.set_cons_succ]))
  with_reducible refine po_run ?_ (fun K hK => ?_) ?_
  · (go_simp; done)
  rotate_left
  · exact po_stop
  go_simp
  obtain ⟨gF, c2, hrv, hP⟩ := place_own HX 2 3 rfl rfl HC.out HN.out hkC hkR an cn q l hxa hl hcl
  refine hP.mono ?_
  rintro e w1 ⟨rfl, HY⟩
  clear hP HX x0 x1 b0 b1 b2 b3
  obtain ⟨x0, x1, -, -⟩ := HY.box2 1 rfl
  obtain ⟨b0, b1, b2, b3, -, -, -, -⟩ := box4 HY 0 rfl
  refine hK.out _ _ (.inr (⟨⟨x0, x1⟩, b1, b2, b3⟩)) ?_
  clear hK K
  clear x0 x1 b0 b1 b2 b3
  repeat (first
    | (with_reducible refine po_take (v := ?_) ?_ (fun w' hS' => ?_) ?_
       rotate_left
       · (go_simp; done)
       · ((try dsimp only at hS'); go_simp; try with_reducible rfl)
       simp only [Act.put, List.setIfInBounds_toArray, List.set_cons_zero, List.set_cons_succ])
    | (with_reducible refine po_skip ?_ ?_
       · (go_simp; done)
       simp only [Act.put, List.setIfInBounds_toArray, List.set_cons_zero, List.set_cons_succ]))
  refine po_done ?_
  have HX := HY.drew
  obtain ⟨x0, x1, -, -⟩ := HX.box2 1 rfl
  obtain ⟨b0, b1, b2, b3, -, -, -, -⟩ := box4 HX 0 rfl
  obtain ⟨gF', eF, e0, e1⟩ := HX.refAt 2 rfl hrv hl hy
  simp only [Option.some.injEq, Addr.mk.injEq, and_true] at eF
  obtain rfl := eF
  obtain ⟨y0, -⟩ := HX.intAt 3 rfl HN.out hxb
  go_wp2_with fail
  refine wp_region_tree (fun w' => (w'.cell? ⟨g, 0, none⟩ = some (.slice (some ⟨gC, 0, none⟩) nC kC) ∧ w'.cell? ⟨g, 1, none⟩ = some (.slice (some ⟨gR, 0, none⟩) nR kR)) ∧ w'.cell? ⟨w.heap.size, 2, none⟩ = some (.int .i64 bn) ∧ w'.cell? ⟨gR, bn, none⟩ = some (.int .i64 xb)) 10 [] (.take 0 (.take 1 (.take 2 (.take 3 (.take 4 (.take 5 (.take 6 (.take 7 (.take 8 (.take 9 (.alt 10 (.done) (.stop)))))))))))) (by kernel_rfl) (by kernel_rfl) (by kernel_rfl) (⟨⟨x0, x1⟩, b2, y0⟩) ?_
  simp only [fillT, List.getElem?_cons_zero, List.getElem?_cons_succ, Nat.reduceBEq]
  repeat (first
    | (with_reducible refine po_take (v := ?_) ?_ (fun w' hS' => ?_) ?_
       rotate_left
       · (go_simp; done)
       · ((try dsimp only at hS'); go_simp; try with_reducible rfl)
       simp only [Act.put, List.setIfInBounds_toArray, List.set_cons_zero, List.set_cons_succ])
    | (with_reducible refine po_skip ?_ ?_
       · (go_simp; done)
       simp only [Act.put, List.setIfInBounds_toArray, List.set_cons_zero, List.set_cons_succ]))
  with_reducible refine po_run ?_ (fun K hK => ?_) ?_
  · (go_simp; done)
  rotate_left
  · exact po_stop
  go_simp
  clear HX
  have HX := HY.putRef 2 rfl hrv.out hl.out rfl cn xb
  simp only [List.set_cons_zero, List.set_cons_succ] at HX
  clear HY x0 x1 b0 b1 b2 b3 y0 e0 e1
  refine hK.out _ _ (.inl rfl) ?_
  clear hK K
  refine po_done ?_
  have HZ := HX.drew.erase 0
  simp only [List.eraseIdx_cons_zero] at HZ
  clear HX
  go_wp2
  refine bodyPost_end (results_none rfl _ _ _) rfl ?_
  exact ⟨⟨_, rfl⟩, HZ⟩
end
end Go.Proofs.Ytdkpfggfkhnjfaa
