/- LazyStart, the program's and the reference's: both make mLzStart. For every heap that can be read. -/
import Derived.Test.YtjpfgbckmcjjaaaLz
import Derived.Test.YtjpfgbckmcjjaaaDc
import Derived.Test.YtjpfgbckmcjjaaaRa
import Derived.Test.YtjpfgbckmcjjaaaCpI
import Derived.Test.YtjpfgbckmcjjaaaCpS
namespace Go.Proofs.Ytjpfgbckmcjjaaa
open Go.RowKit
noncomputable def mLzStart (h : Hp) : Lz := if heapOk h then ⟨h, mReachable h, 0⟩ else ⟨⟨[], []⟩, [], 0⟩
/-- A call makes a lazy heap: three parts of its own. -/
def MadeZ (w : World) (l : Lz) (e : Ending) (w' : World) : Prop :=
  ∃ cv rvs rv mv, e = .returned (.agg #[cv, rv, mv, .int .i64 l.at_]) ∧ Owns w.heap.size w w' [.cells cv rvs l.store.cells, .ints rv l.store.roots, .bools mv l.marks]
theorem refsZ {h : Hp} (hok : heapOk h = true) {c : Nat} {l : Cel} (hl : h.cells[c]? = some l) : l.refs.length ≤ 3 := by
  have h2 := hok
  simp only [heapOk, Bool.and_eq_true, List.all_eq_true] at h2
  have h3 := h2.1.2 l (List.mem_of_getElem? hl)
  unfold cellOk at h3
  split at h3 <;> simp at h3
  · omega
  · rw [h3.2]; simp
set_option maxHeartbeats 3200000 in
set_option maxRecDepth 20000 in
theorem implLazyStart_any (w : World) (B : Nat) (v : Value) (h : Hp) (hh : RdH w B v h) :
    Calls Try.prog 32 #[v] w (MadeZ w (mLzStart h)) := by
  have hh' := hh.top
  obtain ⟨D, m, d, D', m', d', rfl, hC, hR⟩ := hh.top
  have H := ((Owns.nil w).box [.slice D m d, .slice D' m' d'] 26).box [.slice none 0 0, .slice none 0 0, .slice none 0 0, .int .i64 0] 50
  simp only [World.size_alloc] at H
  obtain ⟨a0, a1, -, -⟩ := H.box2 1 rfl
  go_enter Try.func32, Try.ntmps32
  go_wp2_with fail
  refine (heapValid_any _ _ _ h (hh'.below H.below)).mono ?_
  rintro e w1 ⟨rfl, hb⟩
  have H1 := H.call hb
  clear H hb a0 a1
  cases hy : heapOk h
  · have HF : Hid (mLzStart h = ⟨⟨[], []⟩, [], 0⟩) := Go.Lib.hid (by unfold mLzStart; rw [hy]; rfl)
    obtain ⟨y0, y1, y2, y3, y4, y5, y6, y7⟩ := box4 H1 0 rfl
    have HZ := ((((((H1.putBox 0 rfl 0 (.slice none 0 0)).putBox 0 rfl 1 (.slice none 0 0)).putBox 0 rfl 2 (.slice none 0 0)).putBox 0 rfl 3 (.int .i64 0)).noBools).noInts).noCells
    simp only [List.set_cons_zero, List.set_cons_succ] at HZ
    obtain ⟨z0, z1, z2, z3, -, -, -, -⟩ := box4 HZ 3 rfl
    have HE := HZ.take 3
    simp only [List.take_succ_cons, List.take_zero] at HE
    have HS : Hid (MadeZ w (mLzStart h) (.returned (.agg #[.slice none 0 0, .slice none 0 0, .slice none 0 0, .int .i64 0])) _) := Go.Lib.hid (by rw [HF.out]; exact ⟨_, [], _, _, rfl, HE⟩)
    clear H1 HZ HE hy
    go_wp2
    exact bodyPost_ret (v := .agg #[.slice none 0 0, .slice none 0 0, .slice none 0 0, .int .i64 0]) (by simp [results, Try.results32, go_sem, z0, z1, z2, z3]) rfl HS.out
  · obtain ⟨s4, s5⟩ := heapOk_small hy
    have HN : Hid (∀ c ∈ h.cells, c.refs.length ≤ 1048576) := Go.Lib.hid fun c hc => by
      obtain ⟨i, hi⟩ := List.getElem?_of_mem hc
      have := refsZ hy hi
      omega
    have HF : Hid (mLzStart h = ⟨h, mReachable h, 0⟩) := Go.Lib.hid (by unfold mLzStart; rw [hy]; rfl)
    obtain ⟨Q, hQ⟩ : ∃ Q, Q = mReachable h := ⟨_, rfl⟩
    rw [← hQ] at HF
    have HQ := Go.Lib.hid hQ
    have s6 : h.roots.length ≤ 4 := by omega
    clear hy hQ s5
    go_wp2_with fail
    have HX := H1.drew
    have H0 := Go.Lib.hid H1
    clear H1
    obtain ⟨a0, a1, -, -⟩ := HX.box2 1 rfl
    refine wp_region_tree (fun w' => w'.cell? ⟨w.heap.size, 0, none⟩ = some (.slice D m d) ∧ w'.cell? ⟨w.heap.size, 1, none⟩ = some (.slice D' m' d')) 5 [] (.take 0 (.take 2 (.alt 1 (.alt 3 (.take 4 (.alt 5 (.done) (.stop))) (.stop)) (.stop)))) (by kernel_rfl) (by kernel_rfl) (by kernel_rfl) (⟨a0, a1⟩) ?_
    simp only [fillT, List.getElem?_cons_zero, List.getElem?_cons_succ, Nat.reduceBEq]
    repeat (first
      | (with_reducible refine po_take (v := ?_) ?_ (fun w' hS' => ?_) ?_
         rotate_left
         · (go_simp; done)
         · ((try dsimp only at hS'); go_simp; try with_reducible rfl)
         simp only [Act.put, List.setIfInBounds_toArray, List.set_cons_zero, List.set_cons_succ])
      | (with_reducible refine po_skip ?_ ?_
         · (go_simp; done)
         simp only [Act.put, List.setIfInBounds_toArray, List.set_cons_zero, List.set_cons_succ]))
    with_reducible refine po_run ?_ (fun K hK => ?_) ?_
    · (go_simp; done)
    rotate_left
    · exact po_stop
    try (revert a0 a1 HX; generalize World.drew _ = wd; intro HX a0 a1)
    go_simp
    refine (copyHeap_any _ _ _ h (hh'.below HX.below) (by omega) (by omega) HN.out).mono ?_
    rintro e w2 ⟨v2, rfl, ho, hb⟩
    obtain ⟨cv, rvs, rv, rfl, HY⟩ := HX.madeH ho hb
    clear HX ho hb a0 a1
    have HX := HY
    clear HY
    obtain ⟨C, kC, rfl, -⟩ := HX.formC 0 rfl
    obtain ⟨R, kR, rfl, -⟩ := HX.formI 1 rfl
    obtain ⟨a0, a1, -, -⟩ := HX.box2 3 rfl
    refine hK.out _ _ (.inr (⟨a0, a1⟩)) ?_
    clear hK K
    with_reducible refine po_run ?_ (fun K hK => ?_) ?_
    · (go_simp; done)
    rotate_left
    · exact po_stop
    try (revert a0 a1 HX; generalize World.drew _ = wd; intro HX a0 a1)
    go_simp
    refine (implReachable_any _ _ _ h (hh'.below HX.below)).mono ?_
    rintro e w3 ⟨v3, rfl, ho, hb⟩
    rw [← HQ.out] at ho
    have HY := HX.madeB ho hb
    clear HX ho hb a0 a1
    have HX := HY
    clear HY
    obtain ⟨V, kV, rfl, -⟩ := HX.formB 0 rfl
    obtain ⟨a0, a1, -, -⟩ := HX.box2 4 rfl
    refine hK.out _ _ (.inr (⟨a0, a1⟩)) ?_
    clear hK K
    repeat (first
      | (with_reducible refine po_take (v := ?_) ?_ (fun w' hS' => ?_) ?_
         rotate_left
         · (go_simp; done)
         · ((try dsimp only at hS'); go_simp; try with_reducible rfl)
         simp only [Act.put, List.setIfInBounds_toArray, List.set_cons_zero, List.set_cons_succ])
      | (with_reducible refine po_skip ?_ ?_
         · (go_simp; done)
         simp only [Act.put, List.setIfInBounds_toArray, List.set_cons_zero, List.set_cons_succ]))
    with_reducible refine po_run ?_ (fun K hK => ?_) ?_
    · (go_simp; done)
    rotate_left
    · exact po_stop
    obtain ⟨y0, y1, y2, y3, y4, y5, y6, y7⟩ := box4 HX 3 rfl
    go_simp
    have HZ := (((HX.putBox 3 rfl 0 (.slice C h.cells.length kC)).putBox 3 rfl 1 (.slice R h.roots.length kR)).putBox 3 rfl 2 (.slice V Q.length kV)).putBox 3 rfl 3 (.int .i64 0)
    simp only [List.set_cons_zero, List.set_cons_succ] at HZ
    refine hK.out _ _ (.inl rfl) ?_
    clear hK K
    refine po_done ?_
    obtain ⟨z0, z1, z2, z3, -, -, -, -⟩ := box4 HZ 3 rfl
    have HE : Owns w.heap.size w _ [.cells (.slice C h.cells.length kC) rvs h.cells, .ints (.slice R h.roots.length kR) h.roots, .bools (.slice V Q.length kV) Q] := HZ.order [1, 2, 0] (by decide) rfl
    have HS : Hid (MadeZ w (mLzStart h) (.returned (.agg #[.slice C h.cells.length kC, .slice R h.roots.length kR, .slice V Q.length kV, .int .i64 0])) _) := Go.Lib.hid (by rw [HF.out]; exact ⟨_, rvs, _, _, rfl, HE⟩)
    clear HX HZ HE H0 a0 a1 y0 y1 y2 y3 y4 y5 y6 y7
    go_wp2
    exact bodyPost_ret (v := .agg #[.slice C h.cells.length kC, .slice R h.roots.length kR, .slice V Q.length kV, .int .i64 0]) (by simp [results, Try.results32, go_sem, z0, z1, z2, z3]) rfl HS.out
set_option maxHeartbeats 3200000 in
set_option maxRecDepth 20000 in
theorem specLazyStart_any (w : World) (B : Nat) (v : Value) (h : Hp) (hh : RdH w B v h) :
    Calls Try.prog 34 #[v] w (MadeZ w (mLzStart h)) := by
  have hh' := hh.top
  obtain ⟨D, m, d, D', m', d', rfl, hC, hR⟩ := hh.top
  have H := ((Owns.nil w).box [.slice D m d, .slice D' m' d'] 26).box [.slice none 0 0, .slice none 0 0, .slice none 0 0, .int .i64 0] 50
  simp only [World.size_alloc] at H
  obtain ⟨a0, a1, -, -⟩ := H.box2 1 rfl
  go_enter Try.func34, Try.ntmps34
  go_wp2_with fail
  refine (specHeapValid_any _ _ _ h (hh'.below H.below)).mono ?_
  rintro e w1 ⟨rfl, hb⟩
  have H1 := H.call hb
  clear H hb a0 a1
  cases hy : heapOk h
  · have HF : Hid (mLzStart h = ⟨⟨[], []⟩, [], 0⟩) := Go.Lib.hid (by unfold mLzStart; rw [hy]; rfl)
    obtain ⟨y0, y1, y2, y3, y4, y5, y6, y7⟩ := box4 H1 0 rfl
    have HZ := ((((((H1.putBox 0 rfl 0 (.slice none 0 0)).putBox 0 rfl 1 (.slice none 0 0)).putBox 0 rfl 2 (.slice none 0 0)).putBox 0 rfl 3 (.int .i64 0)).noBools).noInts).noCells
    simp only [List.set_cons_zero, List.set_cons_succ] at HZ
    obtain ⟨z0, z1, z2, z3, -, -, -, -⟩ := box4 HZ 3 rfl
    have HE := HZ.take 3
    simp only [List.take_succ_cons, List.take_zero] at HE
    have HS : Hid (MadeZ w (mLzStart h) (.returned (.agg #[.slice none 0 0, .slice none 0 0, .slice none 0 0, .int .i64 0])) _) := Go.Lib.hid (by rw [HF.out]; exact ⟨_, [], _, _, rfl, HE⟩)
    clear H1 HZ HE hy
    go_wp2
    exact bodyPost_ret (v := .agg #[.slice none 0 0, .slice none 0 0, .slice none 0 0, .int .i64 0]) (by simp [results, Try.results34, go_sem, z0, z1, z2, z3]) rfl HS.out
  · obtain ⟨s4, s5⟩ := heapOk_small hy
    have HN : Hid (∀ c ∈ h.cells, c.refs.length ≤ 1048576) := Go.Lib.hid fun c hc => by
      obtain ⟨i, hi⟩ := List.getElem?_of_mem hc
      have := refsZ hy hi
      omega
    have HF : Hid (mLzStart h = ⟨h, mReachable h, 0⟩) := Go.Lib.hid (by unfold mLzStart; rw [hy]; rfl)
    obtain ⟨Q, hQ⟩ : ∃ Q, Q = mReachable h := ⟨_, rfl⟩
    rw [← hQ] at HF
    have HQ := Go.Lib.hid hQ
    have s6 : h.roots.length ≤ 4 := by omega
    clear hy hQ s5
    go_wp2_with fail
    have HX := H1.drew
    have H0 := Go.Lib.hid H1
    clear H1
    obtain ⟨a0, a1, -, -⟩ := HX.box2 1 rfl
    refine wp_region_tree (fun w' => w'.cell? ⟨w.heap.size, 0, none⟩ = some (.slice D m d) ∧ w'.cell? ⟨w.heap.size, 1, none⟩ = some (.slice D' m' d')) 5 [] (.take 0 (.take 2 (.alt 1 (.alt 3 (.take 4 (.alt 5 (.done) (.stop))) (.stop)) (.stop)))) (by kernel_rfl) (by kernel_rfl) (by kernel_rfl) (⟨a0, a1⟩) ?_
    simp only [fillT, List.getElem?_cons_zero, List.getElem?_cons_succ, Nat.reduceBEq]
    repeat (first
      | (with_reducible refine po_take (v := ?_) ?_ (fun w' hS' => ?_) ?_
         rotate_left
         · (go_simp; done)
         · ((try dsimp only at hS'); go_simp; try with_reducible rfl)
         simp only [Act.put, List.setIfInBounds_toArray, List.set_cons_zero, List.set_cons_succ])
      | (with_reducible refine po_skip ?_ ?_
         · (go_simp; done)
         simp only [Act.put, List.setIfInBounds_toArray, List.set_cons_zero, List.set_cons_succ]))
    with_reducible refine po_run ?_ (fun K hK => ?_) ?_
    · (go_simp; done)
    rotate_left
    · exact po_stop
    try (revert a0 a1 HX; generalize World.drew _ = wd; intro HX a0 a1)
    go_simp
    refine (l7Copy_any _ _ _ h (hh'.below HX.below) (by omega) (by omega) HN.out).mono ?_
    rintro e w2 ⟨v2, rfl, ho, hb⟩
    obtain ⟨cv, rvs, rv, rfl, HY⟩ := HX.madeH ho hb
    clear HX ho hb a0 a1
    have HX := HY
    clear HY
    obtain ⟨C, kC, rfl, -⟩ := HX.formC 0 rfl
    obtain ⟨R, kR, rfl, -⟩ := HX.formI 1 rfl
    obtain ⟨a0, a1, -, -⟩ := HX.box2 3 rfl
    refine hK.out _ _ (.inr (⟨a0, a1⟩)) ?_
    clear hK K
    with_reducible refine po_run ?_ (fun K hK => ?_) ?_
    · (go_simp; done)
    rotate_left
    · exact po_stop
    try (revert a0 a1 HX; generalize World.drew _ = wd; intro HX a0 a1)
    go_simp
    refine (specReachable_any _ _ _ h (hh'.below HX.below)).mono ?_
    rintro e w3 ⟨v3, rfl, ho, hb⟩
    rw [← HQ.out] at ho
    have HY := HX.madeB ho hb
    clear HX ho hb a0 a1
    have HX := HY
    clear HY
    obtain ⟨V, kV, rfl, -⟩ := HX.formB 0 rfl
    obtain ⟨a0, a1, -, -⟩ := HX.box2 4 rfl
    refine hK.out _ _ (.inr (⟨a0, a1⟩)) ?_
    clear hK K
    repeat (first
      | (with_reducible refine po_take (v := ?_) ?_ (fun w' hS' => ?_) ?_
         rotate_left
         · (go_simp; done)
         · ((try dsimp only at hS'); go_simp; try with_reducible rfl)
         simp only [Act.put, List.setIfInBounds_toArray, List.set_cons_zero, List.set_cons_succ])
      | (with_reducible refine po_skip ?_ ?_
         · (go_simp; done)
         simp only [Act.put, List.setIfInBounds_toArray, List.set_cons_zero, List.set_cons_succ]))
    with_reducible refine po_run ?_ (fun K hK => ?_) ?_
    · (go_simp; done)
    rotate_left
    · exact po_stop
    obtain ⟨y0, y1, y2, y3, y4, y5, y6, y7⟩ := box4 HX 3 rfl
    go_simp
    have HZ := (((HX.putBox 3 rfl 0 (.slice C h.cells.length kC)).putBox 3 rfl 1 (.slice R h.roots.length kR)).putBox 3 rfl 2 (.slice V Q.length kV)).putBox 3 rfl 3 (.int .i64 0)
    simp only [List.set_cons_zero, List.set_cons_succ] at HZ
    refine hK.out _ _ (.inl rfl) ?_
    clear hK K
    refine po_done ?_
    obtain ⟨z0, z1, z2, z3, -, -, -, -⟩ := box4 HZ 3 rfl
    have HE : Owns w.heap.size w _ [.cells (.slice C h.cells.length kC) rvs h.cells, .ints (.slice R h.roots.length kR) h.roots, .bools (.slice V Q.length kV) Q] := HZ.order [1, 2, 0] (by decide) rfl
    have HS : Hid (MadeZ w (mLzStart h) (.returned (.agg #[.slice C h.cells.length kC, .slice R h.roots.length kR, .slice V Q.length kV, .int .i64 0])) _) := Go.Lib.hid (by rw [HF.out]; exact ⟨_, rvs, _, _, rfl, HE⟩)
    clear HX HZ HE H0 a0 a1 y0 y1 y2 y3 y4 y5 y6 y7
    go_wp2
    exact bodyPost_ret (v := .agg #[.slice C h.cells.length kC, .slice R h.roots.length kR, .slice V Q.length kV, .int .i64 0]) (by simp [results, Try.results34, go_sem, z0, z1, z2, z3]) rfl HS.out
end Go.Proofs.Ytjpfgbckmcjjaaa
