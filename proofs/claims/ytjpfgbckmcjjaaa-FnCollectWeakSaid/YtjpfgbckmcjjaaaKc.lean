/- CollectWeak, the program's and the reference's: both make mCollect and mClearWeak where the references are valid. For every heap and list that can be read. -/
import Derived.Test.YtjpfgbckmcjjaaaSk
import Derived.Test.YtjpfgbckmcjjaaaCw
namespace Go.Proofs.Ytjpfgbckmcjjaaa
open Go.RowKit
/-- A call makes a heap and a list. -/
def MadeHI (w : World) (h : Hp) (xs : List Int) (e : Ending) (w' : World) : Prop :=
  ∃ cv rvs rv lv, e = .returned (.tuple #[.agg #[cv, rv], lv]) ∧ Owns w.heap.size w w' [.cells cv rvs h.cells, .ints rv h.roots, .ints lv xs]
noncomputable def mCwH (h : Hp) (ws : List Int) : Hp := if mWeakValid h ws then mCollect h else ⟨[], []⟩
set_option maxHeartbeats 3200000 in
set_option maxRecDepth 20000 in
theorem implCollectWeak_any (w : World) (B B' : Nat) (v : Value) (h : Hp) (A : Option Addr) (n c : Nat) (ws : List Int) (hh : RdH w B v h) (hr : RdI w B' A n c ws) :
    Calls Try.prog 10 #[v, .slice A n c] w (MadeHI w (mCwH h ws) (mClearWeak h ws)) := by
  have hh' := hh.top
  have hr := hr.top
  obtain ⟨D, m, d, D', m', d', rfl, hC, hR⟩ := hh.top
  have H := ((Owns.nil w).box [.slice D m d, .slice D' m' d'] 26).box [.slice none 0 0, .slice none 0 0] 26
  simp only [List.set_cons_zero, List.set_cons_succ, List.eraseIdx_cons_zero, List.eraseIdx_cons_succ, List.drop_succ_cons, List.drop_zero, List.take_succ_cons, List.take_zero, List.length_append, List.length_cons, List.length_nil, List.nil_append, Nat.zero_add, World.size_alloc] at H
  obtain ⟨a0, a1, -, -⟩ := H.box2 1 rfl
  obtain ⟨X, hX⟩ : ∃ X, X = mClearWeak h ws := ⟨_, rfl⟩
  rw [← hX]
  have HXe := Go.Lib.hid hX
  clear hX
  go_enter Try.func10, Try.ntmps10
  go_wp2_with fail
  refine (implWeakValid_any _ _ _ _ h _ _ _ ws (hh'.below H.below) (hr.below H.below)).mono ?_
  rintro e w1 ⟨rfl, hb1⟩
  have H1 := H.call hb1
  clear H hb1 a0 a1
  obtain ⟨a0, a1, -, -⟩ := H1.box2 1 rfl
  obtain ⟨b0, b1, b2, b3⟩ := H1.box2 0 rfl
  cases hy : mWeakValid h ws
  · have HCe : Hid (mCwH h ws = ⟨[], []⟩ ∧ X = []) := Go.Lib.hid ⟨by unfold mCwH; rw [hy]; rfl, by rw [HXe.out]; exact mClear_no hy⟩
    clear hy
    have HZ := (((H1.putBox 0 rfl 0 (.slice none 0 0)).putBox 0 rfl 1 (.slice none 0 0)).noInts.noInts).noCells
    simp only [List.set_cons_zero, List.set_cons_succ, List.eraseIdx_cons_zero, List.eraseIdx_cons_succ, List.drop_succ_cons, List.drop_zero, List.take_succ_cons, List.take_zero, List.length_append, List.length_cons, List.length_nil, List.nil_append, Nat.zero_add, World.size_alloc] at HZ
    obtain ⟨z0, z1, -, -⟩ := HZ.box2 3 rfl
    have HE := HZ.take 3
    simp only [List.set_cons_zero, List.set_cons_succ, List.eraseIdx_cons_zero, List.eraseIdx_cons_succ, List.drop_succ_cons, List.drop_zero, List.take_succ_cons, List.take_zero, List.length_append, List.length_cons, List.length_nil, List.nil_append, Nat.zero_add, World.size_alloc] at HE
    have HS : Hid (MadeHI w (mCwH h ws) X (.returned (.tuple #[.agg #[.slice none 0 0, .slice none 0 0], .slice none 0 0])) _) := Go.Lib.hid (by rw [HCe.out.1, HCe.out.2]; exact ⟨_, [], _, _, rfl, HE⟩)
    clear H1 HZ HE
    go_wp2
    exact bodyPost_ret (v := .tuple #[.agg #[.slice none 0 0, .slice none 0 0], .slice none 0 0]) (by simp [results, Try.results10, go_sem, z0, z1]) rfl HS.out
  · have HCe : Hid (mCwH h ws = mCollect h) := Go.Lib.hid (by unfold mCwH; rw [hy]; rfl)
    have HLe : Hid (X.length ≤ 1048576) := Go.Lib.hid (by rw [HXe.out]; exact mClearWeak_len h ws)
    clear hy
    go_wp2_with fail
    refine (implCollect_any _ _ _ h (hh'.below H1.below)).mono ?_
    rintro e w2 ⟨cv, rvs, rv, rfl, K⟩
    have H2 := H1.merge K
    simp only [List.cons_append, List.nil_append] at H2
    obtain ⟨T, hT⟩ : ∃ T, T = mCollect h := ⟨_, rfl⟩
    rw [← hT] at H2 HCe
    clear hT K H1 a0 a1 b0 b1 b2 b3
    obtain ⟨C, kC, rfl, -⟩ := H2.formC 0 rfl
    obtain ⟨R, kR, rfl, -⟩ := H2.formI 1 rfl
    have H3 := H2.box [.slice C T.cells.length kC, .slice R T.roots.length kR] 26
    clear H2
    obtain ⟨z0, z1, -, -⟩ := H3.box2 0 rfl
    obtain ⟨a0, a1, -, -⟩ := H3.box2 4 rfl
    generalize mCollectN h = nn at *
    go_wp2_with fail
    have HX := H3.drew
    have H0 := Go.Lib.hid H3
    clear H3
    refine wp_region_tree (fun w' => (w'.cell? ⟨w2.heap.size, 0, none⟩ = some (.slice C T.cells.length kC) ∧ w'.cell? ⟨w2.heap.size, 1, none⟩ = some (.slice R T.roots.length kR)) ∧ w'.cell? ⟨w.heap.size, 0, none⟩ = some (.slice D m d) ∧ w'.cell? ⟨w.heap.size, 1, none⟩ = some (.slice D' m' d')) 6 [] (.take 0 (.take 1 (.take 2 (.alt 3 (.alt 4 (.take 5 (.done)) (.stop)) (.stop))))) (by kernel_rfl) (by kernel_rfl) (by kernel_rfl) (⟨⟨z0, z1⟩, a0, a1⟩) ?_
    simp only [fillT, List.getElem?_cons_zero, List.getElem?_cons_succ, Nat.reduceBEq]
    repeat (first
      | (with_reducible refine po_take (v := ?_) ?_ (fun w' hS' => ?_) ?_
         rotate_left
         · (go_simp; done)
         · ((try dsimp only at hS'); go_simp; try with_reducible rfl)
         simp only [Act.put, List.setIfInBounds_toArray, List.set_cons_zero, List.set_cons_succ])
      | (with_reducible refine po_skip ?_ ?_
         · (go_simp; done)
         simp only [Act.put, List.setIfInBounds_toArray, List.set_cons_zero, List.set_cons_succ]))
    with_reducible refine po_run ?_ (fun K hK => ?_) ?_
    · (go_simp; done)
    rotate_left
    · exact po_stop
    go_simp
    refine (implClearWeak_any _ _ _ _ h _ _ _ ws (hh'.below HX.below) (hr.below HX.below)).mono ?_
    rintro e w3 ⟨v3, rfl, ho3, hb3⟩
    rw [← HXe.out] at ho3
    replace HX := HX.madeI ho3 hb3
    clear z0 z1 a0 a1 ho3 hb3
    obtain ⟨L3, l3, rfl, -⟩ := HX.formI 0 rfl
    obtain ⟨z0, z1, -, -⟩ := HX.box2 1 rfl
    obtain ⟨a0, a1, -, -⟩ := HX.box2 5 rfl
    refine hK.out _ _ (.inr (⟨⟨z0, z1⟩, a0, a1⟩)) ?_
    clear hK K
    with_reducible refine po_run ?_ (fun K hK => ?_) ?_
    · (go_simp; done)
    rotate_left
    · exact po_stop
    obtain ⟨y0, y1, y2, y3⟩ := HX.box2 4 rfl
    go_simp
    have HZ := (HX.putBox 4 rfl 0 (.slice C T.cells.length kC)).putBox 4 rfl 1 (.slice R T.roots.length kR)
    simp only [List.set_cons_zero, List.set_cons_succ, List.eraseIdx_cons_zero, List.eraseIdx_cons_succ, List.drop_succ_cons, List.drop_zero, List.take_succ_cons, List.take_zero, List.length_append, List.length_cons, List.length_nil, List.nil_append, Nat.zero_add, World.size_alloc] at HZ
    clear z0 z1 a0 a1
    obtain ⟨z0, z1, -, -⟩ := HZ.box2 1 rfl
    obtain ⟨a0, a1, -, -⟩ := HZ.box2 5 rfl
    refine hK.out _ _ (.inr (⟨⟨z0, z1⟩, a0, a1⟩)) ?_
    clear hK K
    repeat (first
      | (with_reducible refine po_take (v := ?_) ?_ (fun w' hS' => ?_) ?_
         rotate_left
         · (go_simp; done)
         · ((try dsimp only at hS'); go_simp; try with_reducible rfl)
         simp only [Act.put, List.setIfInBounds_toArray, List.set_cons_zero, List.set_cons_succ])
      | (with_reducible refine po_skip ?_ ?_
         · (go_simp; done)
         simp only [Act.put, List.setIfInBounds_toArray, List.set_cons_zero, List.set_cons_succ]))
    refine po_done ?_
    obtain ⟨q0, q1, -, -⟩ := HZ.box2 4 rfl
    have HE : Owns w.heap.size w _ [.cells (.slice C T.cells.length kC) rvs T.cells, .ints (.slice R T.roots.length kR) T.roots, .ints (.slice L3 X.length l3) X] := HZ.order [2, 3, 0] (by decide) rfl
    have HS : Hid (MadeHI w (mCwH h ws) X (.returned (.tuple #[.agg #[.slice C T.cells.length kC, .slice R T.roots.length kR], .slice L3 X.length l3])) _) := Go.Lib.hid (by rw [HCe.out]; exact ⟨_, rvs, _, _, rfl, HE⟩)
    clear HX HZ HE H0 a0 a1 z0 z1
    go_wp2
    exact bodyPost_ret (v := .tuple #[.agg #[.slice C T.cells.length kC, .slice R T.roots.length kR], .slice L3 X.length l3]) (by simp [results, Try.results10, go_sem, q0, q1]) rfl HS.out
set_option maxHeartbeats 3200000 in
set_option maxRecDepth 20000 in
theorem specCollectWeak_any (w : World) (B B' : Nat) (v : Value) (h : Hp) (A : Option Addr) (n c : Nat) (ws : List Int) (hh : RdH w B v h) (hr : RdI w B' A n c ws) :
    Calls Try.prog 11 #[v, .slice A n c] w (MadeHI w (mCwH h ws) (mClearWeak h ws)) := by
  have hh' := hh.top
  have hr := hr.top
  obtain ⟨D, m, d, D', m', d', rfl, hC, hR⟩ := hh.top
  have H := ((Owns.nil w).box [.slice D m d, .slice D' m' d'] 26).box [.slice none 0 0, .slice none 0 0] 26
  simp only [List.set_cons_zero, List.set_cons_succ, List.eraseIdx_cons_zero, List.eraseIdx_cons_succ, List.drop_succ_cons, List.drop_zero, List.take_succ_cons, List.take_zero, List.length_append, List.length_cons, List.length_nil, List.nil_append, Nat.zero_add, World.size_alloc] at H
  obtain ⟨a0, a1, -, -⟩ := H.box2 1 rfl
  obtain ⟨X, hX⟩ : ∃ X, X = mClearWeak h ws := ⟨_, rfl⟩
  rw [← hX]
  have HXe := Go.Lib.hid hX
  clear hX
  go_enter Try.func11, Try.ntmps11
  go_wp2_with fail
  refine (specWeakValid_any _ _ _ _ h _ _ _ ws (hh'.below H.below) (hr.below H.below)).mono ?_
  rintro e w1 ⟨rfl, hb1⟩
  have H1 := H.call hb1
  clear H hb1 a0 a1
  obtain ⟨a0, a1, -, -⟩ := H1.box2 1 rfl
  obtain ⟨b0, b1, b2, b3⟩ := H1.box2 0 rfl
  cases hy : mWeakValid h ws
  · have HCe : Hid (mCwH h ws = ⟨[], []⟩ ∧ X = []) := Go.Lib.hid ⟨by unfold mCwH; rw [hy]; rfl, by rw [HXe.out]; exact mClear_no hy⟩
    clear hy
    have H2 := H1.litI [] zero_le_maxLen
    simp only [List.map_nil] at H2
    have HZ := ((H2.putBox 1 rfl 0 (.slice none 0 0)).putBox 1 rfl 1 (.slice none 0 0)).noInts.noCells
    simp only [List.set_cons_zero, List.set_cons_succ, List.eraseIdx_cons_zero, List.eraseIdx_cons_succ, List.drop_succ_cons, List.drop_zero, List.take_succ_cons, List.take_zero, List.length_append, List.length_cons, List.length_nil, List.nil_append, Nat.zero_add, World.size_alloc] at HZ
    obtain ⟨z0, z1, -, -⟩ := HZ.box2 3 rfl
    have HE := HZ.take 3
    simp only [List.set_cons_zero, List.set_cons_succ, List.eraseIdx_cons_zero, List.eraseIdx_cons_succ, List.drop_succ_cons, List.drop_zero, List.take_succ_cons, List.take_zero, List.length_append, List.length_cons, List.length_nil, List.nil_append, Nat.zero_add, World.size_alloc] at HE
    have HS : Hid (MadeHI w (mCwH h ws) X (.returned (.tuple #[.agg #[.slice none 0 0, .slice none 0 0], .slice (some ⟨w1.heap.size, 0, none⟩) 0 0])) _) := Go.Lib.hid (by rw [HCe.out.1, HCe.out.2]; exact ⟨_, [], _, _, rfl, HE⟩)
    obtain ⟨c0, c1, c2, c3⟩ := H2.box2 1 rfl
    clear H1 H2 HZ HE
    go_wp2
    exact bodyPost_ret (v := .tuple #[.agg #[.slice none 0 0, .slice none 0 0], .slice (some ⟨w1.heap.size, 0, none⟩) 0 0]) (by simp [results, Try.results11, go_sem, z0, z1]) rfl HS.out
  · have HCe : Hid (mCwH h ws = mCollect h) := Go.Lib.hid (by unfold mCwH; rw [hy]; rfl)
    have HLe : Hid (X.length ≤ 1048576) := Go.Lib.hid (by rw [HXe.out]; exact mClearWeak_len h ws)
    clear hy
    go_wp2_with fail
    refine (specCollect_any _ _ _ h (hh'.below H1.below)).mono ?_
    rintro e w2 ⟨cv, rvs, rv, rfl, K⟩
    have H2 := H1.merge K
    simp only [List.cons_append, List.nil_append] at H2
    obtain ⟨T, hT⟩ : ∃ T, T = mCollect h := ⟨_, rfl⟩
    rw [← hT] at H2 HCe
    clear hT K H1 a0 a1 b0 b1 b2 b3
    obtain ⟨C, kC, rfl, -⟩ := H2.formC 0 rfl
    obtain ⟨R, kR, rfl, -⟩ := H2.formI 1 rfl
    have H3 := H2.box [.slice C T.cells.length kC, .slice R T.roots.length kR] 26
    clear H2
    obtain ⟨z0, z1, -, -⟩ := H3.box2 0 rfl
    obtain ⟨a0, a1, -, -⟩ := H3.box2 4 rfl
    generalize mCollectN h = nn at *
    go_wp2_with fail
    have HX := H3.drew
    have H0 := Go.Lib.hid H3
    clear H3
    refine wp_region_tree (fun w' => (w'.cell? ⟨w2.heap.size, 0, none⟩ = some (.slice C T.cells.length kC) ∧ w'.cell? ⟨w2.heap.size, 1, none⟩ = some (.slice R T.roots.length kR)) ∧ w'.cell? ⟨w.heap.size, 0, none⟩ = some (.slice D m d) ∧ w'.cell? ⟨w.heap.size, 1, none⟩ = some (.slice D' m' d')) 6 [] (.take 0 (.take 1 (.take 2 (.alt 3 (.alt 4 (.take 5 (.done)) (.stop)) (.stop))))) (by kernel_rfl) (by kernel_rfl) (by kernel_rfl) (⟨⟨z0, z1⟩, a0, a1⟩) ?_
    simp only [fillT, List.getElem?_cons_zero, List.getElem?_cons_succ, Nat.reduceBEq]
    repeat (first
      | (with_reducible refine po_take (v := ?_) ?_ (fun w' hS' => ?_) ?_
         rotate_left
         · (go_simp; done)
         · ((try dsimp only at hS'); go_simp; try with_reducible rfl)
         simp only [Act.put, List.setIfInBounds_toArray, List.set_cons_zero, List.set_cons_succ])
      | (with_reducible refine po_skip ?_ ?_
         · (go_simp; done)
         simp only [Act.put, List.setIfInBounds_toArray, List.set_cons_zero, List.set_cons_succ]))
    with_reducible refine po_run ?_ (fun K hK => ?_) ?_
    · (go_simp; done)
    rotate_left
    · exact po_stop
    go_simp
    refine (specClearWeak_any _ _ _ _ h _ _ _ ws (hh'.below HX.below) (hr.below HX.below)).mono ?_
    rintro e w3 ⟨v3, rfl, ho3, hb3⟩
    rw [← HXe.out] at ho3
    replace HX := HX.madeI ho3 hb3
    clear z0 z1 a0 a1 ho3 hb3
    obtain ⟨L3, l3, rfl, -⟩ := HX.formI 0 rfl
    obtain ⟨z0, z1, -, -⟩ := HX.box2 1 rfl
    obtain ⟨a0, a1, -, -⟩ := HX.box2 5 rfl
    refine hK.out _ _ (.inr (⟨⟨z0, z1⟩, a0, a1⟩)) ?_
    clear hK K
    with_reducible refine po_run ?_ (fun K hK => ?_) ?_
    · (go_simp; done)
    rotate_left
    · exact po_stop
    obtain ⟨y0, y1, y2, y3⟩ := HX.box2 4 rfl
    go_simp
    have HZ := (HX.putBox 4 rfl 0 (.slice C T.cells.length kC)).putBox 4 rfl 1 (.slice R T.roots.length kR)
    simp only [List.set_cons_zero, List.set_cons_succ, List.eraseIdx_cons_zero, List.eraseIdx_cons_succ, List.drop_succ_cons, List.drop_zero, List.take_succ_cons, List.take_zero, List.length_append, List.length_cons, List.length_nil, List.nil_append, Nat.zero_add, World.size_alloc] at HZ
    clear z0 z1 a0 a1
    obtain ⟨z0, z1, -, -⟩ := HZ.box2 1 rfl
    obtain ⟨a0, a1, -, -⟩ := HZ.box2 5 rfl
    refine hK.out _ _ (.inr (⟨⟨z0, z1⟩, a0, a1⟩)) ?_
    clear hK K
    repeat (first
      | (with_reducible refine po_take (v := ?_) ?_ (fun w' hS' => ?_) ?_
         rotate_left
         · (go_simp; done)
         · ((try dsimp only at hS'); go_simp; try with_reducible rfl)
         simp only [Act.put, List.setIfInBounds_toArray, List.set_cons_zero, List.set_cons_succ])
      | (with_reducible refine po_skip ?_ ?_
         · (go_simp; done)
         simp only [Act.put, List.setIfInBounds_toArray, List.set_cons_zero, List.set_cons_succ]))
    refine po_done ?_
    obtain ⟨q0, q1, -, -⟩ := HZ.box2 4 rfl
    have HE : Owns w.heap.size w _ [.cells (.slice C T.cells.length kC) rvs T.cells, .ints (.slice R T.roots.length kR) T.roots, .ints (.slice L3 X.length l3) X] := HZ.order [2, 3, 0] (by decide) rfl
    have HS : Hid (MadeHI w (mCwH h ws) X (.returned (.tuple #[.agg #[.slice C T.cells.length kC, .slice R T.roots.length kR], .slice L3 X.length l3])) _) := Go.Lib.hid (by rw [HCe.out]; exact ⟨_, rvs, _, _, rfl, HE⟩)
    clear HX HZ HE H0 a0 a1 z0 z1
    go_wp2
    exact bodyPost_ret (v := .tuple #[.agg #[.slice C T.cells.length kC, .slice R T.roots.length kR], .slice L3 X.length l3]) (by simp [results, Try.results11, go_sem, q0, q1]) rfl HS.out
end Go.Proofs.Ytjpfgbckmcjjaaa
