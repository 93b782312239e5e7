/- TableHeap, the program's and the reference's: both make mTableHeap, for every table that can be read. -/
import Derived.Test.YtnpehidhoekfcaaTs
namespace Go.Proofs.Ytnpehidhoekfcaa
open Go.RowKit
def mTableHeap (t : Tbl) : Hp := if mTableValid t then tellH t else ⟨[], []⟩
theorem mTHp_no {t : Tbl} (h0 : mTableValid t = false) : mTableHeap t = ⟨[], []⟩ := by simp [mTableHeap, h0]
theorem mTHp_yes {t : Tbl} (h0 : mTableValid t = true) : mTableHeap t = tellH t := by simp [mTableHeap, h0]
/-- A call makes a heap: two parts of its own. -/
def MadeHp (w : World) (h : Hp) (e : Ending) (w' : World) : Prop := ∃ cv rvs rv, e = .returned (.agg #[cv, rv]) ∧ Owns w.heap.size w w' [.cells cv rvs h.cells, .ints rv h.roots]
theorem mTab_allIn {t : Tbl} (h0 : mTableValid t = true) : allIn t = true := by
  simp only [mTableValid, Bool.and_eq_true] at h0
  exact heapOk_allIn h0.2
set_option maxHeartbeats 1600000 in
theorem implTableHeap_any (w : World) (B : Nat) (v : Value) (t : Tbl) (hh : RdT w B v t) (hn : t.store.cells.length ≤ 1048576) (hn2 : t.store.roots.length ≤ 1048576) (hn3 : ∀ c ∈ t.store.cells, c.refs.length ≤ 1048576) (hn4 : t.hands.length ≤ 1048576) :
    Calls Try.prog 26 #[v] w (MadeHp w (mTableHeap t)) := by
  have hh' := hh.top
  obtain ⟨D, m, d, D', m', d', E, q, f, rfl, hC, hR, hE⟩ := hh.top
  have H1 := ((Owns.nil w).box [.slice D m d, .slice D' m' d', .slice E q f] 42).box [.slice none 0 0, .slice none 0 0] 27
  simp only [World.size_alloc] at H1
  obtain ⟨a0, a1, a2, -, -, -⟩ := H1.box3 1 rfl
  have HS3 := Go.Lib.hid hn3
  clear hn3
  go_enter Try.func26, Try.ntmps26
  go_wp2_with fail
  refine (implTableValid_any _ _ _ t (hh'.below H1.below) hn hn2 HS3.out hn4).mono ?_
  rintro e w1 ⟨rfl, hb⟩
  have H2 := H1.call hb
  clear H1 hb a0 a1 a2
  obtain ⟨a0, a1, a2, -, -, -⟩ := H2.box3 1 rfl
  obtain ⟨b0, b1, b2, b3⟩ := H2.box2 0 rfl
  cases hy : mTableValid t
  · have HF := Go.Lib.hid (mTHp_no hy)
    clear hy
    have H3 := (((H2.putBox 0 rfl 0 (.slice none 0 0)).putBox 0 rfl 1 (.slice none 0 0)).noInts).noCells
    simp only [List.set_cons_zero, List.set_cons_succ] at H3
    obtain ⟨c0, c1, -, -⟩ := H3.box2 2 rfl
    have HS : Hid (MadeHp w (mTableHeap t) (.returned (.agg #[.slice none 0 0, .slice none 0 0])) _) := Go.Lib.hid (by rw [HF.out]; exact ⟨_, [], _, rfl, H3.take 2⟩)
    clear H3 H2
    go_wp2
    exact bodyPost_ret (v := .agg #[.slice none 0 0, .slice none 0 0]) (by simp [results, Try.results26, go_sem, c0, c1]) rfl HS.out
  · have HF := Go.Lib.hid (mTHp_yes hy)
    clear hy
    go_wp2_with fail
    refine (tabHeap_any _ _ _ t (hh'.below H2.below) hn hn2 HS3.out hn4).mono ?_
    rintro e w2 ⟨v1, rfl, ho, hb⟩
    obtain ⟨cv, rvs, rv, rfl, H3⟩ := H2.madeH ho hb
    obtain ⟨T, HT⟩ : ∃ T, Hid (tellH t = T) := ⟨_, Go.Lib.hid rfl⟩
    rw [HT.out] at H3 HF
    obtain ⟨C, kC, rfl, -⟩ := H3.formC 0 rfl
    obtain ⟨R, kR, rfl, -⟩ := H3.formI 1 rfl
    clear H2 ho hb a0 a1 a2 b0 b1 b2 b3
    obtain ⟨b0, b1, b2, b3⟩ := H3.box2 2 rfl
    have H4 := (H3.putBox 2 rfl 0 (.slice C T.cells.length kC)).putBox 2 rfl 1 (.slice R T.roots.length kR)
    simp only [List.set_cons_zero, List.set_cons_succ] at H4
    obtain ⟨c0, c1, -, -⟩ := H4.box2 2 rfl
    have HS : Hid (MadeHp w (mTableHeap t) (.returned (.agg #[.slice C T.cells.length kC, .slice R T.roots.length kR])) _) := Go.Lib.hid (by rw [HF.out]; exact ⟨_, rvs, _, rfl, H4.take 2⟩)
    clear H3 H4
    go_wp2
    exact bodyPost_ret (v := .agg #[.slice C T.cells.length kC, .slice R T.roots.length kR]) (by simp [results, Try.results26, go_sem, c0, c1]) rfl HS.out
set_option maxHeartbeats 1600000 in
theorem specTableHeap_any (w : World) (B : Nat) (v : Value) (t : Tbl) (hh : RdT w B v t) (hn : t.store.cells.length ≤ 1048576) (hn2 : t.store.roots.length ≤ 1048576) (hn3 : ∀ c ∈ t.store.cells, c.refs.length ≤ 1048576) (hn4 : t.hands.length ≤ 1048576) :
    Calls Try.prog 27 #[v] w (MadeHp w (mTableHeap t)) := by
  have hh' := hh.top
  obtain ⟨D, m, d, D', m', d', E, q, f, rfl, hC, hR, hE⟩ := hh.top
  have H1 := ((Owns.nil w).box [.slice D m d, .slice D' m' d', .slice E q f] 42).box [.slice none 0 0, .slice none 0 0] 27
  simp only [World.size_alloc] at H1
  obtain ⟨a0, a1, a2, -, -, -⟩ := H1.box3 1 rfl
  have HS3 := Go.Lib.hid hn3
  clear hn3
  go_enter Try.func27, Try.ntmps27
  go_wp2_with fail
  refine (specTableValid_any _ _ _ t (hh'.below H1.below) hn hn2 HS3.out hn4).mono ?_
  rintro e w1 ⟨rfl, hb⟩
  have H2 := H1.call hb
  clear H1 hb a0 a1 a2
  obtain ⟨a0, a1, a2, -, -, -⟩ := H2.box3 1 rfl
  obtain ⟨b0, b1, b2, b3⟩ := H2.box2 0 rfl
  cases hy : mTableValid t
  · have HF := Go.Lib.hid (mTHp_no hy)
    clear hy
    have H3 := (((H2.putBox 0 rfl 0 (.slice none 0 0)).putBox 0 rfl 1 (.slice none 0 0)).noInts).noCells
    simp only [List.set_cons_zero, List.set_cons_succ] at H3
    obtain ⟨c0, c1, -, -⟩ := H3.box2 2 rfl
    have HS : Hid (MadeHp w (mTableHeap t) (.returned (.agg #[.slice none 0 0, .slice none 0 0])) _) := Go.Lib.hid (by rw [HF.out]; exact ⟨_, [], _, rfl, H3.take 2⟩)
    clear H3 H2
    go_wp2
    exact bodyPost_ret (v := .agg #[.slice none 0 0, .slice none 0 0]) (by simp [results, Try.results27, go_sem, c0, c1]) rfl HS.out
  · have HF := Go.Lib.hid (mTHp_yes hy)
    have hal := mTab_allIn hy
    clear hy
    go_wp2_with fail
    refine (l23Heap_any _ _ _ t (hh'.below H2.below) hn hn2 HS3.out hn4).mono ?_
    rintro e w2 ⟨v1, T, rfl, ho, hb, hT⟩
    rw [← hT hal] at HF
    clear hT hal
    obtain ⟨cv, rvs, rv, rfl, H3⟩ := H2.madeH ho hb
    obtain ⟨C, kC, rfl, -⟩ := H3.formC 0 rfl
    obtain ⟨R, kR, rfl, -⟩ := H3.formI 1 rfl
    clear H2 ho hb a0 a1 a2 b0 b1 b2 b3
    have H5 := H3.box [.slice C T.cells.length kC, .slice R T.roots.length kR] 27
    obtain ⟨b0, b1, b2, b3⟩ := H5.box2 3 rfl
    obtain ⟨d0, d1, -, -⟩ := H5.box2 0 rfl
    have H4 := (H5.putBox 3 rfl 0 (.slice C T.cells.length kC)).putBox 3 rfl 1 (.slice R T.roots.length kR)
    simp only [List.set_cons_zero, List.set_cons_succ] at H4
    obtain ⟨c0, c1, -, -⟩ := H4.box2 3 rfl
    have HS : Hid (MadeHp w (mTableHeap t) (.returned (.agg #[.slice C T.cells.length kC, .slice R T.roots.length kR])) _) := Go.Lib.hid (by rw [HF.out]; exact ⟨_, rvs, _, rfl, H4.order [1, 2] (by decide) rfl⟩)
    clear H3 H4 H5
    go_wp2
    exact bodyPost_ret (v := .agg #[.slice C T.cells.length kC, .slice R T.roots.length kR]) (by simp [results, Try.results27, go_sem, c0, c1]) rfl HS.out
end Go.Proofs.Ytnpehidhoekfcaa
