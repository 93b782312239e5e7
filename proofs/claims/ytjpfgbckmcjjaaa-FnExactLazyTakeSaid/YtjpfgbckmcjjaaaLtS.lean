/- LazyTake, the reference's: it makes mTake, for every lazy heap that can be read. -/
import Derived.Test.YtjpfgbckmcjjaaaLp
import Derived.Test.YtjpfgbckmcjjaaaLzS
import Derived.Deep.DeepCutAuto
namespace Go.Proofs.Ytjpfgbckmcjjaaa
open Go.RowKit
theorem leads_lt {h : Hp} (hok : heapOk h = true) {p j q : Nat} {l : Cel} (hl : h.cells[p]? = some l) (hx : l.refs[j]? = some (q : Int)) : q < h.cells.length := by
  have h2 := (heapOk_leads hok).2 p l hl _ (List.mem_of_getElem? hx)
  rcases leadsB_iff.1 h2 with e | ⟨-, hu⟩
  · omega
  · have := usedN_lt hu; omega
set_option maxHeartbeats 6400000 in
set_option maxRecDepth 20000 in
theorem specLazyTake_any (w : World) (B : Nat) (v : Value) (l : Lz) (hh : RdZ w B v l) :
    Calls Try.prog 39 #[v] w (MadeZN w (mTake l)) := by
  have hh' := hh.top
  obtain ⟨D, m, d, D', m', d', E, q, f, rfl, hC, hR, hM⟩ := hh.top
  have l1 := hC.le1; have l2 := hC.le2
  have l3 := RdB.le1 hM; have l4 := RdB.le2 hM
  have hH : RdH w w.heap.size (.agg #[.slice D m d, .slice D' m' d']) l.store := ⟨_, _, _, _, _, _, rfl, hC, hR⟩
  have H := ((Owns.nil w).box [.slice D m d, .slice D' m' d', .slice E q f, .int .i64 l.at_] 50).box [.slice none 0 0, .slice none 0 0, .slice none 0 0, .int .i64 0] 50
  simp only [World.size_alloc] at H
  obtain ⟨a0, a1, a2, a3, -, -, -, -⟩ := box4 H 1 rfl
  go_enter Try.func39, Try.ntmps39
  go_wp2_with fail
  refine (specLazyValid_any _ _ _ l (hh'.below H.below)).mono ?_
  rintro e w1 ⟨rfl, hb⟩
  have H1 := H.call hb
  clear H hb a0 a1 a2 a3
  cases hy : mLzValid l
  · have HF := Go.Lib.hid (mTake_no hy)
    obtain ⟨y0, y1, y2, y3, y4, y5, y6, y7⟩ := box4 H1 0 rfl
    have HZ := ((((((H1.putBox 0 rfl 0 (.slice none 0 0)).putBox 0 rfl 1 (.slice none 0 0)).putBox 0 rfl 2 (.slice none 0 0)).putBox 0 rfl 3 (.int .i64 0)).noBools).noInts).noCells
    simp only [List.set_cons_zero, List.set_cons_succ] at HZ
    obtain ⟨z0, z1, z2, z3, -, -, -, -⟩ := box4 HZ 3 rfl
    have HE := HZ.take 3
    simp only [List.take_succ_cons, List.take_zero] at HE
    have HS : Hid (MadeZN w (mTake l) (.returned (.tuple #[.agg #[.slice none 0 0, .slice none 0 0, .slice none 0 0, .int .i64 0], .int .i64 (-1)])) _) := Go.Lib.hid (by rw [HF.out]; exact ⟨_, [], _, _, rfl, HE⟩)
    clear H1 HZ HE hy
    go_wp2
    exact bodyPost_ret (v := .tuple #[.agg #[.slice none 0 0, .slice none 0 0, .slice none 0 0, .int .i64 0], .int .i64 (-1)]) (by simp [results, Try.results39, go_sem, z0, z1, z2, z3]) rfl HS.out
  have hhead : lzHead l = true := by
    cases e : lzHead l
    · rw [lz_no e] at hy; cases hy
    · rfl
  obtain ⟨s1, s2, s3, s4, s5⟩ := lz_parts hhead
  obtain ⟨s6, s7⟩ := heapOk_small s1
  have HN : Hid (∀ c ∈ l.store.cells, c.refs.length ≤ 1048576) := Go.Lib.hid fun c hc => by
    obtain ⟨i, hi⟩ := List.getElem?_of_mem hc
    have := refsZ s1 hi
    omega
  have HOK := Go.Lib.hid s1
  have HV := Go.Lib.hid hy
  have s8 : l.store.roots.length ≤ 4 := by omega
  obtain ⟨a0', hat⟩ : ∃ a : Nat, l.at_ = (a : Int) := Int.eq_ofNat_of_zero_le s3
  have s9 : a0' ≤ l.marks.length := by omega
  have t1 : l.marks.length ≤ l.store.cells.length := by omega
  have t2 : l.store.cells.length ≤ l.marks.length := by omega
  have hat2 : l.at_.toNat = a0' := by omega
  have HAt := Go.Lib.hid hat2
  rw [hat] at H1
  have hM' := Go.Lib.hid hM
  clear hy hhead s1 s2 s3 s4 s7 hat hat2
  go_wp2_with fail
  go_upto_region 3 with fail
  go_cut [4] (fun s4 wx => ∃ (g : Nat) (C : Option Addr) (kC : Nat) (rvs : List Value) (R : Option Addr) (kR : Nat) (V : Option Addr) (kV : Nat), s4 = .pointer (some ⟨g, 0, none⟩) ∧ Owns w.heap.size w wx [.box g [.slice C l.store.cells.length kC, .slice R l.store.roots.length kR, .slice V l.marks.length kV, .int .i64 a0'] 50, .cells (.slice C l.store.cells.length kC) rvs l.store.cells, .ints (.slice R l.store.roots.length kR) l.store.roots, .bools (.slice V l.marks.length kV) l.marks, .box (w.heap.size + 1) [.slice none 0 0, .slice none 0 0, .slice none 0 0, .int .i64 0] 50, .box w.heap.size [.slice D m d, .slice D' m' d', .slice E q f, .int .i64 a0'] 50])
  case first =>
    have HX := H1.drew
    obtain ⟨b0, b1, b2, b3, -, -, -, -⟩ := box4 HX 1 rfl
    refine wp_region_tree (fun w' => w'.cell? ⟨w.heap.size, 0, none⟩ = some (.slice D m d) ∧ w'.cell? ⟨w.heap.size, 1, none⟩ = some (.slice D' m' d') ∧ w'.cell? ⟨w.heap.size, 2, none⟩ = some (.slice E q f) ∧ w'.cell? ⟨w.heap.size, 3, none⟩ = some (.int .i64 a0')) 11 [] (.take 0 (.take 1 (.take 4 (.take 5 (.take 7 (.take 8 (.alt 2 (.alt 3 (.alt 6 (.take 9 (.alt 10 (.alt 11 (.done) (.stop)) (.stop))) (.alt 10 (.alt 6 (.take 9 (.alt 11 (.done) (.stop))) (.stop)) (.stop))) (.alt 10 (.alt 3 (.alt 6 (.take 9 (.alt 11 (.done) (.stop))) (.stop)) (.stop)) (.stop))) (.alt 3 (.alt 2 (.alt 6 (.take 9 (.alt 10 (.alt 11 (.done) (.stop)) (.stop))) (.alt 10 (.alt 6 (.take 9 (.alt 11 (.done) (.stop))) (.stop)) (.stop))) (.alt 10 (.alt 2 (.alt 6 (.take 9 (.alt 11 (.done) (.stop))) (.stop)) (.stop)) (.stop))) (.alt 10 (.alt 2 (.alt 3 (.alt 6 (.take 9 (.alt 11 (.done) (.stop))) (.stop)) (.stop)) (.alt 3 (.alt 2 (.alt 6 (.take 9 (.alt 11 (.done) (.stop))) (.stop)) (.stop)) (.stop))) (.stop)))))))))) (by kernel_rfl) (by kernel_rfl) (by kernel_rfl) (⟨b0, b1, b2, b3⟩) ?_
    simp only [fillT, List.getElem?_cons_zero, List.getElem?_cons_succ, Nat.reduceBEq]
    repeat (first
      | (with_reducible refine po_take (v := ?_) ?_ (fun w' hS' => ?_) ?_
         rotate_left
         · (go_simp; done)
         · ((try dsimp only at hS'); go_simp; try with_reducible rfl)
         simp only [Act.put, List.setIfInBounds_toArray, List.set_cons_zero, List.set_cons_succ])
      | (with_reducible refine po_skip ?_ ?_
         · (go_simp; done)
         simp only [Act.put, List.setIfInBounds_toArray, List.set_cons_zero, List.set_cons_succ]))
    with_reducible refine po_run ?_ (fun K hK => ?_) ?_
    · (go_simp; done)
    · -- operation 2 first
      try (revert b0 b1 b2 b3 HX; generalize World.drew _ = wd; intro HX b0 b1 b2 b3)
      go_simp
      refine (l7Copy_any _ _ _ l.store (hH.below HX.below) (by omega) (by omega) HN.out).mono ?_
      rintro e w2 ⟨v2, rfl, ho, hb⟩
      obtain ⟨cv, rvs, rv, rfl, HY⟩ := HX.madeH ho hb
      clear HX ho
      have HX := HY
      clear HY
      obtain ⟨C, kC, rfl, -⟩ := HX.formC 0 rfl
      obtain ⟨R, kR, rfl, -⟩ := HX.formI 1 rfl
      replace b0 := keept b0 hb
      replace b1 := keept b1 hb
      replace b2 := keept b2 hb
      replace b3 := keept b3 hb
      clear hb
      refine hK.out _ _ (.inr (⟨b0, b1, b2, b3⟩)) ?_
      clear hK K
      with_reducible refine po_run ?_ (fun K hK => ?_) ?_
      · (go_simp; done)
      · -- operation 3 first
        try (revert b0 b1 b2 b3 HX; generalize World.drew _ = wd; intro HX b0 b1 b2 b3)
        go_simp
        replace HX := HX.litB [] zero_le_maxLen
        try simp only [List.map_nil, List.length_nil] at HX
        replace b0 := keept b0 (below_alloc _ (.cells #[] 4))
        replace b1 := keept b1 (below_alloc _ (.cells #[] 4))
        replace b2 := keept b2 (below_alloc _ (.cells #[] 4))
        replace b3 := keept b3 (below_alloc _ (.cells #[] 4))
        refine hK.out _ _ (.inr (⟨b0, b1, b2, b3⟩)) ?_
        clear hK K
        revert b0 b1 b2 b3 HX
        generalize World.alloc _ _ = wz
        intro HX b0 b1 b2 b3
        with_reducible refine po_run ?_ (fun K hK => ?_) ?_
        · (go_simp; done)
        · -- operation 6 first
          (first
            | refine wp_pushBO (.tmp 16) (.tmp 18) rfl HX 0 rfl rfl rfl (hM'.out.below HX.below) (by simp; omega) ?_
            | refine wp_pushBO (.tmp 16) (.tmp 18) rfl HX 1 rfl rfl rfl (hM'.out.below HX.below) (by simp; omega) ?_
            | refine wp_pushBO (.tmp 16) (.tmp 18) rfl HX 2 rfl rfl rfl (hM'.out.below HX.below) (by simp; omega) ?_
            | refine wp_pushBO (.tmp 16) (.tmp 18) rfl HX 3 rfl rfl rfl (hM'.out.below HX.below) (by simp; omega) ?_)
          intro V kV w5 HY
          simp only [List.set_cons_zero, List.nil_append] at HY
          simp only [List.nil_append]
          replace HX := HY
          clear HY b0 b1 b2 b3
          (first | (obtain ⟨b0, b1, b2, b3, -, -, -, -⟩ := box4 (g := w.heap.size) HX 2 rfl) | (obtain ⟨b0, b1, b2, b3, -, -, -, -⟩ := box4 (g := w.heap.size) HX 3 rfl) | (obtain ⟨b0, b1, b2, b3, -, -, -, -⟩ := box4 (g := w.heap.size) HX 4 rfl) | (obtain ⟨b0, b1, b2, b3, -, -, -, -⟩ := box4 (g := w.heap.size) HX 5 rfl))
          refine hK.out _ _ (.inr (⟨b0, b1, b2, b3⟩)) ?_
          clear hK K
          repeat (first
            | (with_reducible refine po_take (v := ?_) ?_ (fun w' hS' => ?_) ?_
               rotate_left
               · (go_simp; done)
               · ((try dsimp only at hS'); go_simp; try with_reducible rfl)
               simp only [Act.put, List.setIfInBounds_toArray, List.set_cons_zero, List.set_cons_succ])
            | (with_reducible refine po_skip ?_ ?_
               · (go_simp; done)
               simp only [Act.put, List.setIfInBounds_toArray, List.set_cons_zero, List.set_cons_succ]))
          with_reducible refine po_run ?_ (fun K hK => ?_) ?_
          · (go_simp; done)
          rotate_left
          · exact po_stop
          try (revert b0 b1 b2 b3 HX; generalize World.drew _ = wd; intro HX b0 b1 b2 b3)
          go_simp
          have HY := HX
          replace HX := HX.box [.slice none 0 0, .slice none 0 0, .slice none 0 0, .int .i64 0] 50
          try simp only [drew_size] at HX
          replace b0 := keept b0 (below_alloc _ (.cells #[.slice none 0 0, .slice none 0 0, .slice none 0 0, .int .i64 0] 50))
          replace b1 := keept b1 (below_alloc _ (.cells #[.slice none 0 0, .slice none 0 0, .slice none 0 0, .int .i64 0] 50))
          replace b2 := keept b2 (below_alloc _ (.cells #[.slice none 0 0, .slice none 0 0, .slice none 0 0, .int .i64 0] 50))
          replace b3 := keept b3 (below_alloc _ (.cells #[.slice none 0 0, .slice none 0 0, .slice none 0 0, .int .i64 0] 50))
          refine hK.out _ _ (.inr (⟨b0, b1, b2, b3⟩)) ?_
          clear hK K
          with_reducible refine po_run ?_ (fun K hK => ?_) ?_
          · (go_simp; done)
          rotate_left
          · exact po_stop
          have HYb := HY.box [.slice C l.store.cells.length kC, .slice R l.store.roots.length kR, .slice V l.marks.length kV, .int .i64 a0'] 50
          (first | have HZ := HYb.order (L' := [.box _ [.slice C l.store.cells.length kC, .slice R l.store.roots.length kR, .slice V l.marks.length kV, .int .i64 a0'] 50, .cells (.slice C l.store.cells.length kC) rvs l.store.cells, .ints (.slice R l.store.roots.length kR) l.store.roots, .bools (.slice V l.marks.length kV) l.marks, .box (w.heap.size + 1) [.slice none 0 0, .slice none 0 0, .slice none 0 0, .int .i64 0] 50, .box w.heap.size [.slice D m d, .slice D' m' d', .slice E q f, .int .i64 a0'] 50]) [0, 1, 2, 3, 4, 5] (by decide) rfl | have HZ := HYb.order (L' := [.box _ [.slice C l.store.cells.length kC, .slice R l.store.roots.length kR, .slice V l.marks.length kV, .int .i64 a0'] 50, .cells (.slice C l.store.cells.length kC) rvs l.store.cells, .ints (.slice R l.store.roots.length kR) l.store.roots, .bools (.slice V l.marks.length kV) l.marks, .box (w.heap.size + 1) [.slice none 0 0, .slice none 0 0, .slice none 0 0, .int .i64 0] 50, .box w.heap.size [.slice D m d, .slice D' m' d', .slice E q f, .int .i64 a0'] 50]) [0, 2, 3, 1, 4, 5] (by decide) rfl)
          go_simp
          refine hK.out _ _ (.inl rfl) ?_
          clear hK K
          refine po_done ?_
          go_wp2_with fail
          go_meet
          exact ⟨_, _, _, _, _, _, _, _, rfl, HZ⟩
        with_reducible refine po_run ?_ (fun K hK => ?_) ?_
        · (go_simp; done)
        rotate_left
        · exact po_stop
        try (revert b0 b1 b2 b3 HX; generalize World.drew _ = wd; intro HX b0 b1 b2 b3)
        go_simp
        have HY := HX
        replace HX := HX.box [.slice none 0 0, .slice none 0 0, .slice none 0 0, .int .i64 0] 50
        try simp only [drew_size] at HX
        replace b0 := keept b0 (below_alloc _ (.cells #[.slice none 0 0, .slice none 0 0, .slice none 0 0, .int .i64 0] 50))
        replace b1 := keept b1 (below_alloc _ (.cells #[.slice none 0 0, .slice none 0 0, .slice none 0 0, .int .i64 0] 50))
        replace b2 := keept b2 (below_alloc _ (.cells #[.slice none 0 0, .slice none 0 0, .slice none 0 0, .int .i64 0] 50))
        replace b3 := keept b3 (below_alloc _ (.cells #[.slice none 0 0, .slice none 0 0, .slice none 0 0, .int .i64 0] 50))
        refine hK.out _ _ (.inr (⟨b0, b1, b2, b3⟩)) ?_
        clear hK K
        with_reducible refine po_run ?_ (fun K hK => ?_) ?_
        · (go_simp; done)
        rotate_left
        · exact po_stop
        (first
          | refine wp_pushBO (.tmp 16) (.tmp 18) rfl HX 0 rfl rfl rfl (hM'.out.below HX.below) (by simp; omega) ?_
          | refine wp_pushBO (.tmp 16) (.tmp 18) rfl HX 1 rfl rfl rfl (hM'.out.below HX.below) (by simp; omega) ?_
          | refine wp_pushBO (.tmp 16) (.tmp 18) rfl HX 2 rfl rfl rfl (hM'.out.below HX.below) (by simp; omega) ?_
          | refine wp_pushBO (.tmp 16) (.tmp 18) rfl HX 3 rfl rfl rfl (hM'.out.below HX.below) (by simp; omega) ?_)
        intro V kV w5 HY
        simp only [List.set_cons_zero, List.set_cons_succ, List.nil_append] at HY
        simp only [List.nil_append]
        replace HX := HY
        clear HY b0 b1 b2 b3
        (first | (obtain ⟨b0, b1, b2, b3, -, -, -, -⟩ := box4 (g := w.heap.size) HX 2 rfl) | (obtain ⟨b0, b1, b2, b3, -, -, -, -⟩ := box4 (g := w.heap.size) HX 3 rfl) | (obtain ⟨b0, b1, b2, b3, -, -, -, -⟩ := box4 (g := w.heap.size) HX 4 rfl) | (obtain ⟨b0, b1, b2, b3, -, -, -, -⟩ := box4 (g := w.heap.size) HX 5 rfl))
        refine hK.out _ _ (.inr (⟨b0, b1, b2, b3⟩)) ?_
        clear hK K
        repeat (first
          | (with_reducible refine po_take (v := ?_) ?_ (fun w' hS' => ?_) ?_
             rotate_left
             · (go_simp; done)
             · ((try dsimp only at hS'); go_simp; try with_reducible rfl)
             simp only [Act.put, List.setIfInBounds_toArray, List.set_cons_zero, List.set_cons_succ])
          | (with_reducible refine po_skip ?_ ?_
             · (go_simp; done)
             simp only [Act.put, List.setIfInBounds_toArray, List.set_cons_zero, List.set_cons_succ]))
        with_reducible refine po_run ?_ (fun K hK => ?_) ?_
        · (go_simp; done)
        rotate_left
        · exact po_stop
        (first | have HZ := HX.order (L' := [.box _ [.slice none 0 0, .slice none 0 0, .slice none 0 0, .int .i64 0] 50, .cells (.slice C l.store.cells.length kC) rvs l.store.cells, .ints (.slice R l.store.roots.length kR) l.store.roots, .bools (.slice V l.marks.length kV) l.marks, .box (w.heap.size + 1) [.slice none 0 0, .slice none 0 0, .slice none 0 0, .int .i64 0] 50, .box w.heap.size [.slice D m d, .slice D' m' d', .slice E q f, .int .i64 a0'] 50]) [0, 1, 2, 3, 4, 5] (by decide) rfl | have HZ := HX.order (L' := [.box _ [.slice none 0 0, .slice none 0 0, .slice none 0 0, .int .i64 0] 50, .cells (.slice C l.store.cells.length kC) rvs l.store.cells, .ints (.slice R l.store.roots.length kR) l.store.roots, .bools (.slice V l.marks.length kV) l.marks, .box (w.heap.size + 1) [.slice none 0 0, .slice none 0 0, .slice none 0 0, .int .i64 0] 50, .box w.heap.size [.slice D m d, .slice D' m' d', .slice E q f, .int .i64 a0'] 50]) [0, 2, 3, 1, 4, 5] (by decide) rfl | have HZ := HX.order (L' := [.box _ [.slice none 0 0, .slice none 0 0, .slice none 0 0, .int .i64 0] 50, .cells (.slice C l.store.cells.length kC) rvs l.store.cells, .ints (.slice R l.store.roots.length kR) l.store.roots, .bools (.slice V l.marks.length kV) l.marks, .box (w.heap.size + 1) [.slice none 0 0, .slice none 0 0, .slice none 0 0, .int .i64 0] 50, .box w.heap.size [.slice D m d, .slice D' m' d', .slice E q f, .int .i64 a0'] 50]) [2, 0, 1, 3, 4, 5] (by decide) rfl | have HZ := HX.order (L' := [.box _ [.slice none 0 0, .slice none 0 0, .slice none 0 0, .int .i64 0] 50, .cells (.slice C l.store.cells.length kC) rvs l.store.cells, .ints (.slice R l.store.roots.length kR) l.store.roots, .bools (.slice V l.marks.length kV) l.marks, .box (w.heap.size + 1) [.slice none 0 0, .slice none 0 0, .slice none 0 0, .int .i64 0] 50, .box w.heap.size [.slice D m d, .slice D' m' d', .slice E q f, .int .i64 a0'] 50]) [3, 0, 1, 2, 4, 5] (by decide) rfl | have HZ := HX.order (L' := [.box _ [.slice none 0 0, .slice none 0 0, .slice none 0 0, .int .i64 0] 50, .cells (.slice C l.store.cells.length kC) rvs l.store.cells, .ints (.slice R l.store.roots.length kR) l.store.roots, .bools (.slice V l.marks.length kV) l.marks, .box (w.heap.size + 1) [.slice none 0 0, .slice none 0 0, .slice none 0 0, .int .i64 0] 50, .box w.heap.size [.slice D m d, .slice D' m' d', .slice E q f, .int .i64 a0'] 50]) [1, 2, 3, 0, 4, 5] (by decide) rfl | have HZ := HX.order (L' := [.box _ [.slice none 0 0, .slice none 0 0, .slice none 0 0, .int .i64 0] 50, .cells (.slice C l.store.cells.length kC) rvs l.store.cells, .ints (.slice R l.store.roots.length kR) l.store.roots, .bools (.slice V l.marks.length kV) l.marks, .box (w.heap.size + 1) [.slice none 0 0, .slice none 0 0, .slice none 0 0, .int .i64 0] 50, .box w.heap.size [.slice D m d, .slice D' m' d', .slice E q f, .int .i64 a0'] 50]) [3, 1, 2, 0, 4, 5] (by decide) rfl)
        obtain ⟨x0, x1, x2, x3, xf0, xf1, xf2, xf3⟩ := box4 HZ 0 rfl
        replace HZ := (((HZ.putBox 0 rfl 0 (.slice C l.store.cells.length kC)).putBox 0 rfl 1 (.slice R l.store.roots.length kR)).putBox 0 rfl 2 (.slice V l.marks.length kV)).putBox 0 rfl 3 (.int .i64 a0')
        simp only [List.set_cons_zero, List.set_cons_succ] at HZ
        go_simp
        refine hK.out _ _ (.inl rfl) ?_
        clear hK K
        refine po_done ?_
        go_wp2_with fail
        go_meet
        exact ⟨_, _, _, _, _, _, _, _, rfl, HZ⟩
      with_reducible refine po_run ?_ (fun K hK => ?_) ?_
      · (go_simp; done)
      rotate_left
      · exact po_stop
      try (revert b0 b1 b2 b3 HX; generalize World.drew _ = wd; intro HX b0 b1 b2 b3)
      go_simp
      have HY := HX
      replace HX := HX.box [.slice none 0 0, .slice none 0 0, .slice none 0 0, .int .i64 0] 50
      try simp only [drew_size] at HX
      replace b0 := keept b0 (below_alloc _ (.cells #[.slice none 0 0, .slice none 0 0, .slice none 0 0, .int .i64 0] 50))
      replace b1 := keept b1 (below_alloc _ (.cells #[.slice none 0 0, .slice none 0 0, .slice none 0 0, .int .i64 0] 50))
      replace b2 := keept b2 (below_alloc _ (.cells #[.slice none 0 0, .slice none 0 0, .slice none 0 0, .int .i64 0] 50))
      replace b3 := keept b3 (below_alloc _ (.cells #[.slice none 0 0, .slice none 0 0, .slice none 0 0, .int .i64 0] 50))
      refine hK.out _ _ (.inr (⟨b0, b1, b2, b3⟩)) ?_
      clear hK K
      with_reducible refine po_run ?_ (fun K hK => ?_) ?_
      · (go_simp; done)
      rotate_left
      · exact po_stop
      try (revert b0 b1 b2 b3 HX; generalize World.drew _ = wd; intro HX b0 b1 b2 b3)
      go_simp
      replace HX := HX.litB [] zero_le_maxLen
      try simp only [World.size_alloc, List.map_nil, List.length_nil] at HX
      replace b0 := keept b0 (below_alloc _ (.cells #[] 4))
      replace b1 := keept b1 (below_alloc _ (.cells #[] 4))
      replace b2 := keept b2 (below_alloc _ (.cells #[] 4))
      replace b3 := keept b3 (below_alloc _ (.cells #[] 4))
      refine hK.out _ _ (.inr (⟨b0, b1, b2, b3⟩)) ?_
      clear hK K
      revert b0 b1 b2 b3 HX
      generalize World.alloc _ _ = wz
      intro HX b0 b1 b2 b3
      with_reducible refine po_run ?_ (fun K hK => ?_) ?_
      · (go_simp; done)
      rotate_left
      · exact po_stop
      (first
        | refine wp_pushBO (.tmp 16) (.tmp 18) rfl HX 0 rfl rfl rfl (hM'.out.below HX.below) (by simp; omega) ?_
        | refine wp_pushBO (.tmp 16) (.tmp 18) rfl HX 1 rfl rfl rfl (hM'.out.below HX.below) (by simp; omega) ?_
        | refine wp_pushBO (.tmp 16) (.tmp 18) rfl HX 2 rfl rfl rfl (hM'.out.below HX.below) (by simp; omega) ?_
        | refine wp_pushBO (.tmp 16) (.tmp 18) rfl HX 3 rfl rfl rfl (hM'.out.below HX.below) (by simp; omega) ?_)
      intro V kV w5 HY
      simp only [List.set_cons_zero, List.nil_append] at HY
      simp only [List.nil_append]
      replace HX := HY
      clear HY b0 b1 b2 b3
      (first | (obtain ⟨b0, b1, b2, b3, -, -, -, -⟩ := box4 (g := w.heap.size) HX 2 rfl) | (obtain ⟨b0, b1, b2, b3, -, -, -, -⟩ := box4 (g := w.heap.size) HX 3 rfl) | (obtain ⟨b0, b1, b2, b3, -, -, -, -⟩ := box4 (g := w.heap.size) HX 4 rfl) | (obtain ⟨b0, b1, b2, b3, -, -, -, -⟩ := box4 (g := w.heap.size) HX 5 rfl))
      refine hK.out _ _ (.inr (⟨b0, b1, b2, b3⟩)) ?_
      clear hK K
      repeat (first
        | (with_reducible refine po_take (v := ?_) ?_ (fun w' hS' => ?_) ?_
           rotate_left
           · (go_simp; done)
           · ((try dsimp only at hS'); go_simp; try with_reducible rfl)
           simp only [Act.put, List.setIfInBounds_toArray, List.set_cons_zero, List.set_cons_succ])
        | (with_reducible refine po_skip ?_ ?_
           · (go_simp; done)
           simp only [Act.put, List.setIfInBounds_toArray, List.set_cons_zero, List.set_cons_succ]))
      with_reducible refine po_run ?_ (fun K hK => ?_) ?_
      · (go_simp; done)
      rotate_left
      · exact po_stop
      (first | have HZ := HX.order (L' := [.box _ [.slice none 0 0, .slice none 0 0, .slice none 0 0, .int .i64 0] 50, .cells (.slice C l.store.cells.length kC) rvs l.store.cells, .ints (.slice R l.store.roots.length kR) l.store.roots, .bools (.slice V l.marks.length kV) l.marks, .box (w.heap.size + 1) [.slice none 0 0, .slice none 0 0, .slice none 0 0, .int .i64 0] 50, .box w.heap.size [.slice D m d, .slice D' m' d', .slice E q f, .int .i64 a0'] 50]) [0, 1, 2, 3, 4, 5] (by decide) rfl | have HZ := HX.order (L' := [.box _ [.slice none 0 0, .slice none 0 0, .slice none 0 0, .int .i64 0] 50, .cells (.slice C l.store.cells.length kC) rvs l.store.cells, .ints (.slice R l.store.roots.length kR) l.store.roots, .bools (.slice V l.marks.length kV) l.marks, .box (w.heap.size + 1) [.slice none 0 0, .slice none 0 0, .slice none 0 0, .int .i64 0] 50, .box w.heap.size [.slice D m d, .slice D' m' d', .slice E q f, .int .i64 a0'] 50]) [0, 2, 3, 1, 4, 5] (by decide) rfl | have HZ := HX.order (L' := [.box _ [.slice none 0 0, .slice none 0 0, .slice none 0 0, .int .i64 0] 50, .cells (.slice C l.store.cells.length kC) rvs l.store.cells, .ints (.slice R l.store.roots.length kR) l.store.roots, .bools (.slice V l.marks.length kV) l.marks, .box (w.heap.size + 1) [.slice none 0 0, .slice none 0 0, .slice none 0 0, .int .i64 0] 50, .box w.heap.size [.slice D m d, .slice D' m' d', .slice E q f, .int .i64 a0'] 50]) [2, 0, 1, 3, 4, 5] (by decide) rfl | have HZ := HX.order (L' := [.box _ [.slice none 0 0, .slice none 0 0, .slice none 0 0, .int .i64 0] 50, .cells (.slice C l.store.cells.length kC) rvs l.store.cells, .ints (.slice R l.store.roots.length kR) l.store.roots, .bools (.slice V l.marks.length kV) l.marks, .box (w.heap.size + 1) [.slice none 0 0, .slice none 0 0, .slice none 0 0, .int .i64 0] 50, .box w.heap.size [.slice D m d, .slice D' m' d', .slice E q f, .int .i64 a0'] 50]) [3, 0, 1, 2, 4, 5] (by decide) rfl | have HZ := HX.order (L' := [.box _ [.slice none 0 0, .slice none 0 0, .slice none 0 0, .int .i64 0] 50, .cells (.slice C l.store.cells.length kC) rvs l.store.cells, .ints (.slice R l.store.roots.length kR) l.store.roots, .bools (.slice V l.marks.length kV) l.marks, .box (w.heap.size + 1) [.slice none 0 0, .slice none 0 0, .slice none 0 0, .int .i64 0] 50, .box w.heap.size [.slice D m d, .slice D' m' d', .slice E q f, .int .i64 a0'] 50]) [1, 2, 3, 0, 4, 5] (by decide) rfl | have HZ := HX.order (L' := [.box _ [.slice none 0 0, .slice none 0 0, .slice none 0 0, .int .i64 0] 50, .cells (.slice C l.store.cells.length kC) rvs l.store.cells, .ints (.slice R l.store.roots.length kR) l.store.roots, .bools (.slice V l.marks.length kV) l.marks, .box (w.heap.size + 1) [.slice none 0 0, .slice none 0 0, .slice none 0 0, .int .i64 0] 50, .box w.heap.size [.slice D m d, .slice D' m' d', .slice E q f, .int .i64 a0'] 50]) [3, 1, 2, 0, 4, 5] (by decide) rfl)
      obtain ⟨x0, x1, x2, x3, xf0, xf1, xf2, xf3⟩ := box4 HZ 0 rfl
      replace HZ := (((HZ.putBox 0 rfl 0 (.slice C l.store.cells.length kC)).putBox 0 rfl 1 (.slice R l.store.roots.length kR)).putBox 0 rfl 2 (.slice V l.marks.length kV)).putBox 0 rfl 3 (.int .i64 a0')
      simp only [List.set_cons_zero, List.set_cons_succ] at HZ
      go_simp
      refine hK.out _ _ (.inl rfl) ?_
      clear hK K
      refine po_done ?_
      go_wp2_with fail
      go_meet
      exact ⟨_, _, _, _, _, _, _, _, rfl, HZ⟩
    with_reducible refine po_run ?_ (fun K hK => ?_) ?_
    · (go_simp; done)
    · -- operation 3 first
      try (revert b0 b1 b2 b3 HX; generalize World.drew _ = wd; intro HX b0 b1 b2 b3)
      go_simp
      replace HX := HX.litB [] zero_le_maxLen
      try simp only [List.map_nil, List.length_nil] at HX
      replace b0 := keept b0 (below_alloc _ (.cells #[] 4))
      replace b1 := keept b1 (below_alloc _ (.cells #[] 4))
      replace b2 := keept b2 (below_alloc _ (.cells #[] 4))
      replace b3 := keept b3 (below_alloc _ (.cells #[] 4))
      refine hK.out _ _ (.inr (⟨b0, b1, b2, b3⟩)) ?_
      clear hK K
      revert b0 b1 b2 b3 HX
      generalize World.alloc _ _ = wz
      intro HX b0 b1 b2 b3
      with_reducible refine po_run ?_ (fun K hK => ?_) ?_
      · (go_simp; done)
      · -- operation 2 first
        try (revert b0 b1 b2 b3 HX; generalize World.drew _ = wd; intro HX b0 b1 b2 b3)
        go_simp
        refine (l7Copy_any _ _ _ l.store (hH.below HX.below) (by omega) (by omega) HN.out).mono ?_
        rintro e w2 ⟨v2, rfl, ho, hb⟩
        obtain ⟨cv, rvs, rv, rfl, HY⟩ := HX.madeH ho hb
        clear HX ho
        have HX := HY
        clear HY
        obtain ⟨C, kC, rfl, -⟩ := HX.formC 0 rfl
        obtain ⟨R, kR, rfl, -⟩ := HX.formI 1 rfl
        replace b0 := keept b0 hb
        replace b1 := keept b1 hb
        replace b2 := keept b2 hb
        replace b3 := keept b3 hb
        clear hb
        refine hK.out _ _ (.inr (⟨b0, b1, b2, b3⟩)) ?_
        clear hK K
        with_reducible refine po_run ?_ (fun K hK => ?_) ?_
        · (go_simp; done)
        · -- operation 6 first
          (first
            | refine wp_pushBO (.tmp 16) (.tmp 18) rfl HX 0 rfl rfl rfl (hM'.out.below HX.below) (by simp; omega) ?_
            | refine wp_pushBO (.tmp 16) (.tmp 18) rfl HX 1 rfl rfl rfl (hM'.out.below HX.below) (by simp; omega) ?_
            | refine wp_pushBO (.tmp 16) (.tmp 18) rfl HX 2 rfl rfl rfl (hM'.out.below HX.below) (by simp; omega) ?_
            | refine wp_pushBO (.tmp 16) (.tmp 18) rfl HX 3 rfl rfl rfl (hM'.out.below HX.below) (by simp; omega) ?_)
          intro V kV w5 HY
          simp only [List.set_cons_zero, List.set_cons_succ, List.nil_append] at HY
          simp only [List.nil_append]
          replace HX := HY
          clear HY b0 b1 b2 b3
          (first | (obtain ⟨b0, b1, b2, b3, -, -, -, -⟩ := box4 (g := w.heap.size) HX 2 rfl) | (obtain ⟨b0, b1, b2, b3, -, -, -, -⟩ := box4 (g := w.heap.size) HX 3 rfl) | (obtain ⟨b0, b1, b2, b3, -, -, -, -⟩ := box4 (g := w.heap.size) HX 4 rfl) | (obtain ⟨b0, b1, b2, b3, -, -, -, -⟩ := box4 (g := w.heap.size) HX 5 rfl))
          refine hK.out _ _ (.inr (⟨b0, b1, b2, b3⟩)) ?_
          clear hK K
          repeat (first
            | (with_reducible refine po_take (v := ?_) ?_ (fun w' hS' => ?_) ?_
               rotate_left
               · (go_simp; done)
               · ((try dsimp only at hS'); go_simp; try with_reducible rfl)
               simp only [Act.put, List.setIfInBounds_toArray, List.set_cons_zero, List.set_cons_succ])
            | (with_reducible refine po_skip ?_ ?_
               · (go_simp; done)
               simp only [Act.put, List.setIfInBounds_toArray, List.set_cons_zero, List.set_cons_succ]))
          with_reducible refine po_run ?_ (fun K hK => ?_) ?_
          · (go_simp; done)
          rotate_left
          · exact po_stop
          try (revert b0 b1 b2 b3 HX; generalize World.drew _ = wd; intro HX b0 b1 b2 b3)
          go_simp
          have HY := HX
          replace HX := HX.box [.slice none 0 0, .slice none 0 0, .slice none 0 0, .int .i64 0] 50
          try simp only [drew_size] at HX
          replace b0 := keept b0 (below_alloc _ (.cells #[.slice none 0 0, .slice none 0 0, .slice none 0 0, .int .i64 0] 50))
          replace b1 := keept b1 (below_alloc _ (.cells #[.slice none 0 0, .slice none 0 0, .slice none 0 0, .int .i64 0] 50))
          replace b2 := keept b2 (below_alloc _ (.cells #[.slice none 0 0, .slice none 0 0, .slice none 0 0, .int .i64 0] 50))
          replace b3 := keept b3 (below_alloc _ (.cells #[.slice none 0 0, .slice none 0 0, .slice none 0 0, .int .i64 0] 50))
          refine hK.out _ _ (.inr (⟨b0, b1, b2, b3⟩)) ?_
          clear hK K
          with_reducible refine po_run ?_ (fun K hK => ?_) ?_
          · (go_simp; done)
          rotate_left
          · exact po_stop
          have HYb := HY.box [.slice C l.store.cells.length kC, .slice R l.store.roots.length kR, .slice V l.marks.length kV, .int .i64 a0'] 50
          (first | have HZ := HYb.order (L' := [.box _ [.slice C l.store.cells.length kC, .slice R l.store.roots.length kR, .slice V l.marks.length kV, .int .i64 a0'] 50, .cells (.slice C l.store.cells.length kC) rvs l.store.cells, .ints (.slice R l.store.roots.length kR) l.store.roots, .bools (.slice V l.marks.length kV) l.marks, .box (w.heap.size + 1) [.slice none 0 0, .slice none 0 0, .slice none 0 0, .int .i64 0] 50, .box w.heap.size [.slice D m d, .slice D' m' d', .slice E q f, .int .i64 a0'] 50]) [0, 1, 2, 3, 4, 5] (by decide) rfl | have HZ := HYb.order (L' := [.box _ [.slice C l.store.cells.length kC, .slice R l.store.roots.length kR, .slice V l.marks.length kV, .int .i64 a0'] 50, .cells (.slice C l.store.cells.length kC) rvs l.store.cells, .ints (.slice R l.store.roots.length kR) l.store.roots, .bools (.slice V l.marks.length kV) l.marks, .box (w.heap.size + 1) [.slice none 0 0, .slice none 0 0, .slice none 0 0, .int .i64 0] 50, .box w.heap.size [.slice D m d, .slice D' m' d', .slice E q f, .int .i64 a0'] 50]) [0, 2, 3, 1, 4, 5] (by decide) rfl)
          go_simp
          refine hK.out _ _ (.inl rfl) ?_
          clear hK K
          refine po_done ?_
          go_wp2_with fail
          go_meet
          exact ⟨_, _, _, _, _, _, _, _, rfl, HZ⟩
        with_reducible refine po_run ?_ (fun K hK => ?_) ?_
        · (go_simp; done)
        rotate_left
        · exact po_stop
        try (revert b0 b1 b2 b3 HX; generalize World.drew _ = wd; intro HX b0 b1 b2 b3)
        go_simp
        have HY := HX
        replace HX := HX.box [.slice none 0 0, .slice none 0 0, .slice none 0 0, .int .i64 0] 50
        try simp only [drew_size] at HX
        replace b0 := keept b0 (below_alloc _ (.cells #[.slice none 0 0, .slice none 0 0, .slice none 0 0, .int .i64 0] 50))
        replace b1 := keept b1 (below_alloc _ (.cells #[.slice none 0 0, .slice none 0 0, .slice none 0 0, .int .i64 0] 50))
        replace b2 := keept b2 (below_alloc _ (.cells #[.slice none 0 0, .slice none 0 0, .slice none 0 0, .int .i64 0] 50))
        replace b3 := keept b3 (below_alloc _ (.cells #[.slice none 0 0, .slice none 0 0, .slice none 0 0, .int .i64 0] 50))
        refine hK.out _ _ (.inr (⟨b0, b1, b2, b3⟩)) ?_
        clear hK K
        with_reducible refine po_run ?_ (fun K hK => ?_) ?_
        · (go_simp; done)
        rotate_left
        · exact po_stop
        (first
          | refine wp_pushBO (.tmp 16) (.tmp 18) rfl HX 0 rfl rfl rfl (hM'.out.below HX.below) (by simp; omega) ?_
          | refine wp_pushBO (.tmp 16) (.tmp 18) rfl HX 1 rfl rfl rfl (hM'.out.below HX.below) (by simp; omega) ?_
          | refine wp_pushBO (.tmp 16) (.tmp 18) rfl HX 2 rfl rfl rfl (hM'.out.below HX.below) (by simp; omega) ?_
          | refine wp_pushBO (.tmp 16) (.tmp 18) rfl HX 3 rfl rfl rfl (hM'.out.below HX.below) (by simp; omega) ?_)
        intro V kV w5 HY
        simp only [List.set_cons_zero, List.set_cons_succ, List.nil_append] at HY
        simp only [List.nil_append]
        replace HX := HY
        clear HY b0 b1 b2 b3
        (first | (obtain ⟨b0, b1, b2, b3, -, -, -, -⟩ := box4 (g := w.heap.size) HX 2 rfl) | (obtain ⟨b0, b1, b2, b3, -, -, -, -⟩ := box4 (g := w.heap.size) HX 3 rfl) | (obtain ⟨b0, b1, b2, b3, -, -, -, -⟩ := box4 (g := w.heap.size) HX 4 rfl) | (obtain ⟨b0, b1, b2, b3, -, -, -, -⟩ := box4 (g := w.heap.size) HX 5 rfl))
        refine hK.out _ _ (.inr (⟨b0, b1, b2, b3⟩)) ?_
        clear hK K
        repeat (first
          | (with_reducible refine po_take (v := ?_) ?_ (fun w' hS' => ?_) ?_
             rotate_left
             · (go_simp; done)
             · ((try dsimp only at hS'); go_simp; try with_reducible rfl)
             simp only [Act.put, List.setIfInBounds_toArray, List.set_cons_zero, List.set_cons_succ])
          | (with_reducible refine po_skip ?_ ?_
             · (go_simp; done)
             simp only [Act.put, List.setIfInBounds_toArray, List.set_cons_zero, List.set_cons_succ]))
        with_reducible refine po_run ?_ (fun K hK => ?_) ?_
        · (go_simp; done)
        rotate_left
        · exact po_stop
        (first | have HZ := HX.order (L' := [.box _ [.slice none 0 0, .slice none 0 0, .slice none 0 0, .int .i64 0] 50, .cells (.slice C l.store.cells.length kC) rvs l.store.cells, .ints (.slice R l.store.roots.length kR) l.store.roots, .bools (.slice V l.marks.length kV) l.marks, .box (w.heap.size + 1) [.slice none 0 0, .slice none 0 0, .slice none 0 0, .int .i64 0] 50, .box w.heap.size [.slice D m d, .slice D' m' d', .slice E q f, .int .i64 a0'] 50]) [0, 1, 2, 3, 4, 5] (by decide) rfl | have HZ := HX.order (L' := [.box _ [.slice none 0 0, .slice none 0 0, .slice none 0 0, .int .i64 0] 50, .cells (.slice C l.store.cells.length kC) rvs l.store.cells, .ints (.slice R l.store.roots.length kR) l.store.roots, .bools (.slice V l.marks.length kV) l.marks, .box (w.heap.size + 1) [.slice none 0 0, .slice none 0 0, .slice none 0 0, .int .i64 0] 50, .box w.heap.size [.slice D m d, .slice D' m' d', .slice E q f, .int .i64 a0'] 50]) [0, 2, 3, 1, 4, 5] (by decide) rfl | have HZ := HX.order (L' := [.box _ [.slice none 0 0, .slice none 0 0, .slice none 0 0, .int .i64 0] 50, .cells (.slice C l.store.cells.length kC) rvs l.store.cells, .ints (.slice R l.store.roots.length kR) l.store.roots, .bools (.slice V l.marks.length kV) l.marks, .box (w.heap.size + 1) [.slice none 0 0, .slice none 0 0, .slice none 0 0, .int .i64 0] 50, .box w.heap.size [.slice D m d, .slice D' m' d', .slice E q f, .int .i64 a0'] 50]) [2, 0, 1, 3, 4, 5] (by decide) rfl | have HZ := HX.order (L' := [.box _ [.slice none 0 0, .slice none 0 0, .slice none 0 0, .int .i64 0] 50, .cells (.slice C l.store.cells.length kC) rvs l.store.cells, .ints (.slice R l.store.roots.length kR) l.store.roots, .bools (.slice V l.marks.length kV) l.marks, .box (w.heap.size + 1) [.slice none 0 0, .slice none 0 0, .slice none 0 0, .int .i64 0] 50, .box w.heap.size [.slice D m d, .slice D' m' d', .slice E q f, .int .i64 a0'] 50]) [3, 0, 1, 2, 4, 5] (by decide) rfl | have HZ := HX.order (L' := [.box _ [.slice none 0 0, .slice none 0 0, .slice none 0 0, .int .i64 0] 50, .cells (.slice C l.store.cells.length kC) rvs l.store.cells, .ints (.slice R l.store.roots.length kR) l.store.roots, .bools (.slice V l.marks.length kV) l.marks, .box (w.heap.size + 1) [.slice none 0 0, .slice none 0 0, .slice none 0 0, .int .i64 0] 50, .box w.heap.size [.slice D m d, .slice D' m' d', .slice E q f, .int .i64 a0'] 50]) [1, 2, 3, 0, 4, 5] (by decide) rfl | have HZ := HX.order (L' := [.box _ [.slice none 0 0, .slice none 0 0, .slice none 0 0, .int .i64 0] 50, .cells (.slice C l.store.cells.length kC) rvs l.store.cells, .ints (.slice R l.store.roots.length kR) l.store.roots, .bools (.slice V l.marks.length kV) l.marks, .box (w.heap.size + 1) [.slice none 0 0, .slice none 0 0, .slice none 0 0, .int .i64 0] 50, .box w.heap.size [.slice D m d, .slice D' m' d', .slice E q f, .int .i64 a0'] 50]) [3, 1, 2, 0, 4, 5] (by decide) rfl)
        obtain ⟨x0, x1, x2, x3, xf0, xf1, xf2, xf3⟩ := box4 HZ 0 rfl
        replace HZ := (((HZ.putBox 0 rfl 0 (.slice C l.store.cells.length kC)).putBox 0 rfl 1 (.slice R l.store.roots.length kR)).putBox 0 rfl 2 (.slice V l.marks.length kV)).putBox 0 rfl 3 (.int .i64 a0')
        simp only [List.set_cons_zero, List.set_cons_succ] at HZ
        go_simp
        refine hK.out _ _ (.inl rfl) ?_
        clear hK K
        refine po_done ?_
        go_wp2_with fail
        go_meet
        exact ⟨_, _, _, _, _, _, _, _, rfl, HZ⟩
      with_reducible refine po_run ?_ (fun K hK => ?_) ?_
      · (go_simp; done)
      rotate_left
      · exact po_stop
      try (revert b0 b1 b2 b3 HX; generalize World.drew _ = wd; intro HX b0 b1 b2 b3)
      go_simp
      have HY := HX
      replace HX := HX.box [.slice none 0 0, .slice none 0 0, .slice none 0 0, .int .i64 0] 50
      try simp only [drew_size] at HX
      replace b0 := keept b0 (below_alloc _ (.cells #[.slice none 0 0, .slice none 0 0, .slice none 0 0, .int .i64 0] 50))
      replace b1 := keept b1 (below_alloc _ (.cells #[.slice none 0 0, .slice none 0 0, .slice none 0 0, .int .i64 0] 50))
      replace b2 := keept b2 (below_alloc _ (.cells #[.slice none 0 0, .slice none 0 0, .slice none 0 0, .int .i64 0] 50))
      replace b3 := keept b3 (below_alloc _ (.cells #[.slice none 0 0, .slice none 0 0, .slice none 0 0, .int .i64 0] 50))
      refine hK.out _ _ (.inr (⟨b0, b1, b2, b3⟩)) ?_
      clear hK K
      with_reducible refine po_run ?_ (fun K hK => ?_) ?_
      · (go_simp; done)
      rotate_left
      · exact po_stop
      try (revert b0 b1 b2 b3 HX; generalize World.drew _ = wd; intro HX b0 b1 b2 b3)
      go_simp
      refine (l7Copy_any _ _ _ l.store (hH.below HX.below) (by omega) (by omega) HN.out).mono ?_
      rintro e w2 ⟨v2, rfl, ho, hb⟩
      obtain ⟨cv, rvs, rv, rfl, HY⟩ := HX.madeH ho hb
      clear HX ho
      have HX := HY
      clear HY
      obtain ⟨C, kC, rfl, -⟩ := HX.formC 0 rfl
      obtain ⟨R, kR, rfl, -⟩ := HX.formI 1 rfl
      replace b0 := keept b0 hb
      replace b1 := keept b1 hb
      replace b2 := keept b2 hb
      replace b3 := keept b3 hb
      clear hb
      refine hK.out _ _ (.inr (⟨b0, b1, b2, b3⟩)) ?_
      clear hK K
      with_reducible refine po_run ?_ (fun K hK => ?_) ?_
      · (go_simp; done)
      rotate_left
      · exact po_stop
      (first
        | refine wp_pushBO (.tmp 16) (.tmp 18) rfl HX 0 rfl rfl rfl (hM'.out.below HX.below) (by simp; omega) ?_
        | refine wp_pushBO (.tmp 16) (.tmp 18) rfl HX 1 rfl rfl rfl (hM'.out.below HX.below) (by simp; omega) ?_
        | refine wp_pushBO (.tmp 16) (.tmp 18) rfl HX 2 rfl rfl rfl (hM'.out.below HX.below) (by simp; omega) ?_
        | refine wp_pushBO (.tmp 16) (.tmp 18) rfl HX 3 rfl rfl rfl (hM'.out.below HX.below) (by simp; omega) ?_)
      intro V kV w5 HY
      simp only [List.set_cons_zero, List.set_cons_succ, List.nil_append] at HY
      simp only [List.nil_append]
      replace HX := HY
      clear HY b0 b1 b2 b3
      (first | (obtain ⟨b0, b1, b2, b3, -, -, -, -⟩ := box4 (g := w.heap.size) HX 2 rfl) | (obtain ⟨b0, b1, b2, b3, -, -, -, -⟩ := box4 (g := w.heap.size) HX 3 rfl) | (obtain ⟨b0, b1, b2, b3, -, -, -, -⟩ := box4 (g := w.heap.size) HX 4 rfl) | (obtain ⟨b0, b1, b2, b3, -, -, -, -⟩ := box4 (g := w.heap.size) HX 5 rfl))
      refine hK.out _ _ (.inr (⟨b0, b1, b2, b3⟩)) ?_
      clear hK K
      repeat (first
        | (with_reducible refine po_take (v := ?_) ?_ (fun w' hS' => ?_) ?_
           rotate_left
           · (go_simp; done)
           · ((try dsimp only at hS'); go_simp; try with_reducible rfl)
           simp only [Act.put, List.setIfInBounds_toArray, List.set_cons_zero, List.set_cons_succ])
        | (with_reducible refine po_skip ?_ ?_
           · (go_simp; done)
           simp only [Act.put, List.setIfInBounds_toArray, List.set_cons_zero, List.set_cons_succ]))
      with_reducible refine po_run ?_ (fun K hK => ?_) ?_
      · (go_simp; done)
      rotate_left
      · exact po_stop
      (first | have HZ := HX.order (L' := [.box _ [.slice none 0 0, .slice none 0 0, .slice none 0 0, .int .i64 0] 50, .cells (.slice C l.store.cells.length kC) rvs l.store.cells, .ints (.slice R l.store.roots.length kR) l.store.roots, .bools (.slice V l.marks.length kV) l.marks, .box (w.heap.size + 1) [.slice none 0 0, .slice none 0 0, .slice none 0 0, .int .i64 0] 50, .box w.heap.size [.slice D m d, .slice D' m' d', .slice E q f, .int .i64 a0'] 50]) [0, 1, 2, 3, 4, 5] (by decide) rfl | have HZ := HX.order (L' := [.box _ [.slice none 0 0, .slice none 0 0, .slice none 0 0, .int .i64 0] 50, .cells (.slice C l.store.cells.length kC) rvs l.store.cells, .ints (.slice R l.store.roots.length kR) l.store.roots, .bools (.slice V l.marks.length kV) l.marks, .box (w.heap.size + 1) [.slice none 0 0, .slice none 0 0, .slice none 0 0, .int .i64 0] 50, .box w.heap.size [.slice D m d, .slice D' m' d', .slice E q f, .int .i64 a0'] 50]) [0, 2, 3, 1, 4, 5] (by decide) rfl | have HZ := HX.order (L' := [.box _ [.slice none 0 0, .slice none 0 0, .slice none 0 0, .int .i64 0] 50, .cells (.slice C l.store.cells.length kC) rvs l.store.cells, .ints (.slice R l.store.roots.length kR) l.store.roots, .bools (.slice V l.marks.length kV) l.marks, .box (w.heap.size + 1) [.slice none 0 0, .slice none 0 0, .slice none 0 0, .int .i64 0] 50, .box w.heap.size [.slice D m d, .slice D' m' d', .slice E q f, .int .i64 a0'] 50]) [2, 0, 1, 3, 4, 5] (by decide) rfl | have HZ := HX.order (L' := [.box _ [.slice none 0 0, .slice none 0 0, .slice none 0 0, .int .i64 0] 50, .cells (.slice C l.store.cells.length kC) rvs l.store.cells, .ints (.slice R l.store.roots.length kR) l.store.roots, .bools (.slice V l.marks.length kV) l.marks, .box (w.heap.size + 1) [.slice none 0 0, .slice none 0 0, .slice none 0 0, .int .i64 0] 50, .box w.heap.size [.slice D m d, .slice D' m' d', .slice E q f, .int .i64 a0'] 50]) [3, 0, 1, 2, 4, 5] (by decide) rfl | have HZ := HX.order (L' := [.box _ [.slice none 0 0, .slice none 0 0, .slice none 0 0, .int .i64 0] 50, .cells (.slice C l.store.cells.length kC) rvs l.store.cells, .ints (.slice R l.store.roots.length kR) l.store.roots, .bools (.slice V l.marks.length kV) l.marks, .box (w.heap.size + 1) [.slice none 0 0, .slice none 0 0, .slice none 0 0, .int .i64 0] 50, .box w.heap.size [.slice D m d, .slice D' m' d', .slice E q f, .int .i64 a0'] 50]) [1, 2, 3, 0, 4, 5] (by decide) rfl | have HZ := HX.order (L' := [.box _ [.slice none 0 0, .slice none 0 0, .slice none 0 0, .int .i64 0] 50, .cells (.slice C l.store.cells.length kC) rvs l.store.cells, .ints (.slice R l.store.roots.length kR) l.store.roots, .bools (.slice V l.marks.length kV) l.marks, .box (w.heap.size + 1) [.slice none 0 0, .slice none 0 0, .slice none 0 0, .int .i64 0] 50, .box w.heap.size [.slice D m d, .slice D' m' d', .slice E q f, .int .i64 a0'] 50]) [3, 1, 2, 0, 4, 5] (by decide) rfl)
      obtain ⟨x0, x1, x2, x3, xf0, xf1, xf2, xf3⟩ := box4 HZ 0 rfl
      replace HZ := (((HZ.putBox 0 rfl 0 (.slice C l.store.cells.length kC)).putBox 0 rfl 1 (.slice R l.store.roots.length kR)).putBox 0 rfl 2 (.slice V l.marks.length kV)).putBox 0 rfl 3 (.int .i64 a0')
      simp only [List.set_cons_zero, List.set_cons_succ] at HZ
      go_simp
      refine hK.out _ _ (.inl rfl) ?_
      clear hK K
      refine po_done ?_
      go_wp2_with fail
      go_meet
      exact ⟨_, _, _, _, _, _, _, _, rfl, HZ⟩
    with_reducible refine po_run ?_ (fun K hK => ?_) ?_
    · (go_simp; done)
    rotate_left
    · exact po_stop
    try (revert b0 b1 b2 b3 HX; generalize World.drew _ = wd; intro HX b0 b1 b2 b3)
    go_simp
    have HY := HX
    replace HX := HX.box [.slice none 0 0, .slice none 0 0, .slice none 0 0, .int .i64 0] 50
    try simp only [drew_size] at HX
    replace b0 := keept b0 (below_alloc _ (.cells #[.slice none 0 0, .slice none 0 0, .slice none 0 0, .int .i64 0] 50))
    replace b1 := keept b1 (below_alloc _ (.cells #[.slice none 0 0, .slice none 0 0, .slice none 0 0, .int .i64 0] 50))
    replace b2 := keept b2 (below_alloc _ (.cells #[.slice none 0 0, .slice none 0 0, .slice none 0 0, .int .i64 0] 50))
    replace b3 := keept b3 (below_alloc _ (.cells #[.slice none 0 0, .slice none 0 0, .slice none 0 0, .int .i64 0] 50))
    refine hK.out _ _ (.inr (⟨b0, b1, b2, b3⟩)) ?_
    clear hK K
    with_reducible refine po_run ?_ (fun K hK => ?_) ?_
    · (go_simp; done)
    · -- operation 2 first
      try (revert b0 b1 b2 b3 HX; generalize World.drew _ = wd; intro HX b0 b1 b2 b3)
      go_simp
      refine (l7Copy_any _ _ _ l.store (hH.below HX.below) (by omega) (by omega) HN.out).mono ?_
      rintro e w2 ⟨v2, rfl, ho, hb⟩
      obtain ⟨cv, rvs, rv, rfl, HY⟩ := HX.madeH ho hb
      clear HX ho
      have HX := HY
      clear HY
      obtain ⟨C, kC, rfl, -⟩ := HX.formC 0 rfl
      obtain ⟨R, kR, rfl, -⟩ := HX.formI 1 rfl
      replace b0 := keept b0 hb
      replace b1 := keept b1 hb
      replace b2 := keept b2 hb
      replace b3 := keept b3 hb
      clear hb
      refine hK.out _ _ (.inr (⟨b0, b1, b2, b3⟩)) ?_
      clear hK K
      with_reducible refine po_run ?_ (fun K hK => ?_) ?_
      · (go_simp; done)
      rotate_left
      · exact po_stop
      try (revert b0 b1 b2 b3 HX; generalize World.drew _ = wd; intro HX b0 b1 b2 b3)
      go_simp
      replace HX := HX.litB [] zero_le_maxLen
      try simp only [List.map_nil, List.length_nil] at HX
      replace b0 := keept b0 (below_alloc _ (.cells #[] 4))
      replace b1 := keept b1 (below_alloc _ (.cells #[] 4))
      replace b2 := keept b2 (below_alloc _ (.cells #[] 4))
      replace b3 := keept b3 (below_alloc _ (.cells #[] 4))
      refine hK.out _ _ (.inr (⟨b0, b1, b2, b3⟩)) ?_
      clear hK K
      revert b0 b1 b2 b3 HX
      generalize World.alloc _ _ = wz
      intro HX b0 b1 b2 b3
      with_reducible refine po_run ?_ (fun K hK => ?_) ?_
      · (go_simp; done)
      rotate_left
      · exact po_stop
      (first
        | refine wp_pushBO (.tmp 16) (.tmp 18) rfl HX 0 rfl rfl rfl (hM'.out.below HX.below) (by simp; omega) ?_
        | refine wp_pushBO (.tmp 16) (.tmp 18) rfl HX 1 rfl rfl rfl (hM'.out.below HX.below) (by simp; omega) ?_
        | refine wp_pushBO (.tmp 16) (.tmp 18) rfl HX 2 rfl rfl rfl (hM'.out.below HX.below) (by simp; omega) ?_
        | refine wp_pushBO (.tmp 16) (.tmp 18) rfl HX 3 rfl rfl rfl (hM'.out.below HX.below) (by simp; omega) ?_)
      intro V kV w5 HY
      simp only [List.set_cons_zero, List.nil_append] at HY
      simp only [List.nil_append]
      replace HX := HY
      clear HY b0 b1 b2 b3
      (first | (obtain ⟨b0, b1, b2, b3, -, -, -, -⟩ := box4 (g := w.heap.size) HX 2 rfl) | (obtain ⟨b0, b1, b2, b3, -, -, -, -⟩ := box4 (g := w.heap.size) HX 3 rfl) | (obtain ⟨b0, b1, b2, b3, -, -, -, -⟩ := box4 (g := w.heap.size) HX 4 rfl) | (obtain ⟨b0, b1, b2, b3, -, -, -, -⟩ := box4 (g := w.heap.size) HX 5 rfl))
      refine hK.out _ _ (.inr (⟨b0, b1, b2, b3⟩)) ?_
      clear hK K
      repeat (first
        | (with_reducible refine po_take (v := ?_) ?_ (fun w' hS' => ?_) ?_
           rotate_left
           · (go_simp; done)
           · ((try dsimp only at hS'); go_simp; try with_reducible rfl)
           simp only [Act.put, List.setIfInBounds_toArray, List.set_cons_zero, List.set_cons_succ])
        | (with_reducible refine po_skip ?_ ?_
           · (go_simp; done)
           simp only [Act.put, List.setIfInBounds_toArray, List.set_cons_zero, List.set_cons_succ]))
      with_reducible refine po_run ?_ (fun K hK => ?_) ?_
      · (go_simp; done)
      rotate_left
      · exact po_stop
      (first | have HZ := HX.order (L' := [.box _ [.slice none 0 0, .slice none 0 0, .slice none 0 0, .int .i64 0] 50, .cells (.slice C l.store.cells.length kC) rvs l.store.cells, .ints (.slice R l.store.roots.length kR) l.store.roots, .bools (.slice V l.marks.length kV) l.marks, .box (w.heap.size + 1) [.slice none 0 0, .slice none 0 0, .slice none 0 0, .int .i64 0] 50, .box w.heap.size [.slice D m d, .slice D' m' d', .slice E q f, .int .i64 a0'] 50]) [0, 1, 2, 3, 4, 5] (by decide) rfl | have HZ := HX.order (L' := [.box _ [.slice none 0 0, .slice none 0 0, .slice none 0 0, .int .i64 0] 50, .cells (.slice C l.store.cells.length kC) rvs l.store.cells, .ints (.slice R l.store.roots.length kR) l.store.roots, .bools (.slice V l.marks.length kV) l.marks, .box (w.heap.size + 1) [.slice none 0 0, .slice none 0 0, .slice none 0 0, .int .i64 0] 50, .box w.heap.size [.slice D m d, .slice D' m' d', .slice E q f, .int .i64 a0'] 50]) [0, 2, 3, 1, 4, 5] (by decide) rfl | have HZ := HX.order (L' := [.box _ [.slice none 0 0, .slice none 0 0, .slice none 0 0, .int .i64 0] 50, .cells (.slice C l.store.cells.length kC) rvs l.store.cells, .ints (.slice R l.store.roots.length kR) l.store.roots, .bools (.slice V l.marks.length kV) l.marks, .box (w.heap.size + 1) [.slice none 0 0, .slice none 0 0, .slice none 0 0, .int .i64 0] 50, .box w.heap.size [.slice D m d, .slice D' m' d', .slice E q f, .int .i64 a0'] 50]) [2, 0, 1, 3, 4, 5] (by decide) rfl | have HZ := HX.order (L' := [.box _ [.slice none 0 0, .slice none 0 0, .slice none 0 0, .int .i64 0] 50, .cells (.slice C l.store.cells.length kC) rvs l.store.cells, .ints (.slice R l.store.roots.length kR) l.store.roots, .bools (.slice V l.marks.length kV) l.marks, .box (w.heap.size + 1) [.slice none 0 0, .slice none 0 0, .slice none 0 0, .int .i64 0] 50, .box w.heap.size [.slice D m d, .slice D' m' d', .slice E q f, .int .i64 a0'] 50]) [3, 0, 1, 2, 4, 5] (by decide) rfl | have HZ := HX.order (L' := [.box _ [.slice none 0 0, .slice none 0 0, .slice none 0 0, .int .i64 0] 50, .cells (.slice C l.store.cells.length kC) rvs l.store.cells, .ints (.slice R l.store.roots.length kR) l.store.roots, .bools (.slice V l.marks.length kV) l.marks, .box (w.heap.size + 1) [.slice none 0 0, .slice none 0 0, .slice none 0 0, .int .i64 0] 50, .box w.heap.size [.slice D m d, .slice D' m' d', .slice E q f, .int .i64 a0'] 50]) [1, 2, 3, 0, 4, 5] (by decide) rfl | have HZ := HX.order (L' := [.box _ [.slice none 0 0, .slice none 0 0, .slice none 0 0, .int .i64 0] 50, .cells (.slice C l.store.cells.length kC) rvs l.store.cells, .ints (.slice R l.store.roots.length kR) l.store.roots, .bools (.slice V l.marks.length kV) l.marks, .box (w.heap.size + 1) [.slice none 0 0, .slice none 0 0, .slice none 0 0, .int .i64 0] 50, .box w.heap.size [.slice D m d, .slice D' m' d', .slice E q f, .int .i64 a0'] 50]) [3, 1, 2, 0, 4, 5] (by decide) rfl)
      obtain ⟨x0, x1, x2, x3, xf0, xf1, xf2, xf3⟩ := box4 HZ 0 rfl
      replace HZ := (((HZ.putBox 0 rfl 0 (.slice C l.store.cells.length kC)).putBox 0 rfl 1 (.slice R l.store.roots.length kR)).putBox 0 rfl 2 (.slice V l.marks.length kV)).putBox 0 rfl 3 (.int .i64 a0')
      simp only [List.set_cons_zero, List.set_cons_succ] at HZ
      go_simp
      refine hK.out _ _ (.inl rfl) ?_
      clear hK K
      refine po_done ?_
      go_wp2_with fail
      go_meet
      exact ⟨_, _, _, _, _, _, _, _, rfl, HZ⟩
    with_reducible refine po_run ?_ (fun K hK => ?_) ?_
    · (go_simp; done)
    rotate_left
    · exact po_stop
    try (revert b0 b1 b2 b3 HX; generalize World.drew _ = wd; intro HX b0 b1 b2 b3)
    go_simp
    replace HX := HX.litB [] zero_le_maxLen
    try simp only [World.size_alloc, List.map_nil, List.length_nil] at HX
    replace b0 := keept b0 (below_alloc _ (.cells #[] 4))
    replace b1 := keept b1 (below_alloc _ (.cells #[] 4))
    replace b2 := keept b2 (below_alloc _ (.cells #[] 4))
    replace b3 := keept b3 (below_alloc _ (.cells #[] 4))
    refine hK.out _ _ (.inr (⟨b0, b1, b2, b3⟩)) ?_
    clear hK K
    revert b0 b1 b2 b3 HX
    generalize World.alloc _ _ = wz
    intro HX b0 b1 b2 b3
    with_reducible refine po_run ?_ (fun K hK => ?_) ?_
    · (go_simp; done)
    rotate_left
    · exact po_stop
    try (revert b0 b1 b2 b3 HX; generalize World.drew _ = wd; intro HX b0 b1 b2 b3)
    go_simp
    refine (l7Copy_any _ _ _ l.store (hH.below HX.below) (by omega) (by omega) HN.out).mono ?_
    rintro e w2 ⟨v2, rfl, ho, hb⟩
    obtain ⟨cv, rvs, rv, rfl, HY⟩ := HX.madeH ho hb
    clear HX ho
    have HX := HY
    clear HY
    obtain ⟨C, kC, rfl, -⟩ := HX.formC 0 rfl
    obtain ⟨R, kR, rfl, -⟩ := HX.formI 1 rfl
    replace b0 := keept b0 hb
    replace b1 := keept b1 hb
    replace b2 := keept b2 hb
    replace b3 := keept b3 hb
    clear hb
    refine hK.out _ _ (.inr (⟨b0, b1, b2, b3⟩)) ?_
    clear hK K
    with_reducible refine po_run ?_ (fun K hK => ?_) ?_
    · (go_simp; done)
    rotate_left
    · exact po_stop
    (first
      | refine wp_pushBO (.tmp 16) (.tmp 18) rfl HX 0 rfl rfl rfl (hM'.out.below HX.below) (by simp; omega) ?_
      | refine wp_pushBO (.tmp 16) (.tmp 18) rfl HX 1 rfl rfl rfl (hM'.out.below HX.below) (by simp; omega) ?_
      | refine wp_pushBO (.tmp 16) (.tmp 18) rfl HX 2 rfl rfl rfl (hM'.out.below HX.below) (by simp; omega) ?_
      | refine wp_pushBO (.tmp 16) (.tmp 18) rfl HX 3 rfl rfl rfl (hM'.out.below HX.below) (by simp; omega) ?_)
    intro V kV w5 HY
    simp only [List.set_cons_zero, List.set_cons_succ, List.nil_append] at HY
    simp only [List.nil_append]
    replace HX := HY
    clear HY b0 b1 b2 b3
    (first | (obtain ⟨b0, b1, b2, b3, -, -, -, -⟩ := box4 (g := w.heap.size) HX 2 rfl) | (obtain ⟨b0, b1, b2, b3, -, -, -, -⟩ := box4 (g := w.heap.size) HX 3 rfl) | (obtain ⟨b0, b1, b2, b3, -, -, -, -⟩ := box4 (g := w.heap.size) HX 4 rfl) | (obtain ⟨b0, b1, b2, b3, -, -, -, -⟩ := box4 (g := w.heap.size) HX 5 rfl))
    refine hK.out _ _ (.inr (⟨b0, b1, b2, b3⟩)) ?_
    clear hK K
    repeat (first
      | (with_reducible refine po_take (v := ?_) ?_ (fun w' hS' => ?_) ?_
         rotate_left
         · (go_simp; done)
         · ((try dsimp only at hS'); go_simp; try with_reducible rfl)
         simp only [Act.put, List.setIfInBounds_toArray, List.set_cons_zero, List.set_cons_succ])
      | (with_reducible refine po_skip ?_ ?_
         · (go_simp; done)
         simp only [Act.put, List.setIfInBounds_toArray, List.set_cons_zero, List.set_cons_succ]))
    with_reducible refine po_run ?_ (fun K hK => ?_) ?_
    · (go_simp; done)
    rotate_left
    · exact po_stop
    (first | have HZ := HX.order (L' := [.box _ [.slice none 0 0, .slice none 0 0, .slice none 0 0, .int .i64 0] 50, .cells (.slice C l.store.cells.length kC) rvs l.store.cells, .ints (.slice R l.store.roots.length kR) l.store.roots, .bools (.slice V l.marks.length kV) l.marks, .box (w.heap.size + 1) [.slice none 0 0, .slice none 0 0, .slice none 0 0, .int .i64 0] 50, .box w.heap.size [.slice D m d, .slice D' m' d', .slice E q f, .int .i64 a0'] 50]) [0, 1, 2, 3, 4, 5] (by decide) rfl | have HZ := HX.order (L' := [.box _ [.slice none 0 0, .slice none 0 0, .slice none 0 0, .int .i64 0] 50, .cells (.slice C l.store.cells.length kC) rvs l.store.cells, .ints (.slice R l.store.roots.length kR) l.store.roots, .bools (.slice V l.marks.length kV) l.marks, .box (w.heap.size + 1) [.slice none 0 0, .slice none 0 0, .slice none 0 0, .int .i64 0] 50, .box w.heap.size [.slice D m d, .slice D' m' d', .slice E q f, .int .i64 a0'] 50]) [0, 2, 3, 1, 4, 5] (by decide) rfl | have HZ := HX.order (L' := [.box _ [.slice none 0 0, .slice none 0 0, .slice none 0 0, .int .i64 0] 50, .cells (.slice C l.store.cells.length kC) rvs l.store.cells, .ints (.slice R l.store.roots.length kR) l.store.roots, .bools (.slice V l.marks.length kV) l.marks, .box (w.heap.size + 1) [.slice none 0 0, .slice none 0 0, .slice none 0 0, .int .i64 0] 50, .box w.heap.size [.slice D m d, .slice D' m' d', .slice E q f, .int .i64 a0'] 50]) [2, 0, 1, 3, 4, 5] (by decide) rfl | have HZ := HX.order (L' := [.box _ [.slice none 0 0, .slice none 0 0, .slice none 0 0, .int .i64 0] 50, .cells (.slice C l.store.cells.length kC) rvs l.store.cells, .ints (.slice R l.store.roots.length kR) l.store.roots, .bools (.slice V l.marks.length kV) l.marks, .box (w.heap.size + 1) [.slice none 0 0, .slice none 0 0, .slice none 0 0, .int .i64 0] 50, .box w.heap.size [.slice D m d, .slice D' m' d', .slice E q f, .int .i64 a0'] 50]) [3, 0, 1, 2, 4, 5] (by decide) rfl | have HZ := HX.order (L' := [.box _ [.slice none 0 0, .slice none 0 0, .slice none 0 0, .int .i64 0] 50, .cells (.slice C l.store.cells.length kC) rvs l.store.cells, .ints (.slice R l.store.roots.length kR) l.store.roots, .bools (.slice V l.marks.length kV) l.marks, .box (w.heap.size + 1) [.slice none 0 0, .slice none 0 0, .slice none 0 0, .int .i64 0] 50, .box w.heap.size [.slice D m d, .slice D' m' d', .slice E q f, .int .i64 a0'] 50]) [1, 2, 3, 0, 4, 5] (by decide) rfl | have HZ := HX.order (L' := [.box _ [.slice none 0 0, .slice none 0 0, .slice none 0 0, .int .i64 0] 50, .cells (.slice C l.store.cells.length kC) rvs l.store.cells, .ints (.slice R l.store.roots.length kR) l.store.roots, .bools (.slice V l.marks.length kV) l.marks, .box (w.heap.size + 1) [.slice none 0 0, .slice none 0 0, .slice none 0 0, .int .i64 0] 50, .box w.heap.size [.slice D m d, .slice D' m' d', .slice E q f, .int .i64 a0'] 50]) [3, 1, 2, 0, 4, 5] (by decide) rfl)
    obtain ⟨x0, x1, x2, x3, xf0, xf1, xf2, xf3⟩ := box4 HZ 0 rfl
    replace HZ := (((HZ.putBox 0 rfl 0 (.slice C l.store.cells.length kC)).putBox 0 rfl 1 (.slice R l.store.roots.length kR)).putBox 0 rfl 2 (.slice V l.marks.length kV)).putBox 0 rfl 3 (.int .i64 a0')
    simp only [List.set_cons_zero, List.set_cons_succ] at HZ
    go_simp
    refine hK.out _ _ (.inl rfl) ?_
    clear hK K
    refine po_done ?_
    go_wp2_with fail
    go_meet
    exact ⟨_, _, _, _, _, _, _, _, rfl, HZ⟩
  case rest =>
    obtain ⟨g, C, kC, rvs, R, kR, V, kV, rfl, H2⟩ := hcut
    have HA0 : Hid (nxt l.marks a0' = nxt l.marks l.at_.toNat) := Go.Lib.hid (by rw [HAt.out])
    clear H1 HAt
    go_wp2_with fail
    go_loopw [] (fun wr => ∃ (a : Nat), a ≤ l.marks.length ∧ Hid (nxt l.marks a = nxt l.marks l.at_.toNat) ∧ Owns w.heap.size w wr [.box g [.slice C l.store.cells.length kC, .slice R l.store.roots.length kR, .slice V l.marks.length kV, .int .i64 a] 50, .cells (.slice C l.store.cells.length kC) rvs l.store.cells, .ints (.slice R l.store.roots.length kR) l.store.roots, .bools (.slice V l.marks.length kV) l.marks, .box (w.heap.size + 1) [.slice none 0 0, .slice none 0 0, .slice none 0 0, .int .i64 0] 50, .box w.heap.size [.slice D m d, .slice D' m' d', .slice E q f, .int .i64 a0'] 50]) (fun wr => match wr.cell? ⟨g, 3, none⟩ with | some (.int _ z) => l.marks.length - z.toNat | _ => 0)
    case atStart => exact ⟨a0', s9, HA0, H2⟩
    case round =>
      clear H2
      obtain ⟨a, ha, HAn, H⟩ := hrel
      obtain ⟨x0, x1, x2, x3, xf0, xf1, xf2, xf3⟩ := box4 H 0 rfl
      by_cases hlt : a < l.marks.length
      · obtain ⟨b, hb⟩ : ∃ b, Hid (l.marks[a]? = some b) := ⟨_, Go.Lib.hid (List.getElem?_eq_getElem hlt)⟩
        obtain ⟨gV, cV, e7, -, -, -, -⟩ := H.rowAt 3 rfl (by omega)
        simp only [Value.slice.injEq, true_and] at e7
        obtain ⟨rfl, rfl⟩ := e7
        have H5 := H.putBox 0 rfl 3 (.int .i64 ((a : Int) + 1))
        simp only [List.set_cons_zero, List.set_cons_succ] at H5
        obtain ⟨y0, y1, y2, y3, yf0, yf1, yf2, yf3⟩ := box4 H5 0 rfl
        obtain ⟨z0, -⟩ := H5.elem 3 rfl (j := a) (u := .bool b) (by rw [List.getElem?_map, hb.out]; rfl)
        have hw : IntKind.wrap .i64 ((a : Int) + 1) = (a : Int) + 1 := by rw [IntKind.wrap_i64]; omega
        have i1 : (0 : Int) ≤ (a : Int) := by omega
        have i2 : (a : Int) < (l.marks.length : Int) := by omega
        cases b
        rotate_left
        · have HN2 : Hid (nxt l.marks (a + 1) = nxt l.marks l.at_.toNat) := Go.Lib.hid ((nxt_yes hb.out).symm.trans HAn.out)
          have e1 : (((a + 1 : Nat) : Nat) : Int) = (a : Int) + 1 := by omega
          have HR : Hid (a + 1 ≤ l.marks.length ∧ Hid (nxt l.marks (a + 1) = nxt l.marks l.at_.toNat) ∧ Owns w.heap.size w _ [.box g [.slice C l.store.cells.length kC, .slice R l.store.roots.length kR, .slice (some ⟨gV, 0, none⟩) l.marks.length kV, .int .i64 (((a + 1 : Nat) : Int))] 50, .cells (.slice C l.store.cells.length kC) rvs (l.store.cells), .ints (.slice R l.store.roots.length kR) l.store.roots, .bools (.slice (some ⟨gV, 0, none⟩) l.marks.length kV) l.marks, .box (w.heap.size + 1) [.slice none 0 0, .slice none 0 0, .slice none 0 0, .int .i64 0] 50, .box w.heap.size [.slice D m d, .slice D' m' d', .slice E q f, .int .i64 a0'] 50]) := Go.Lib.hid ⟨by omega, HN2, by rw [e1]; exact H5⟩
          clear e1
          go_wp2
          go_roundw
          case rel => exact ⟨a + 1, HR.out⟩
          case measure => simp [x3, y3]; omega
        · have HK : Hid (nxt l.marks l.at_.toNat = a) := Go.Lib.hid (HAn.out.symm.trans (nxt_no hb.out))
          have HCs := Go.Lib.hid (ClrSt.start l.marks l.store.cells)
          go_wp2_with fail
          have H6 := H5
          clear H H5 x0 x1 x2 x3 xf0 xf1 xf2 xf3 y0 y1 y2 y3 yf0 yf1 yf2 yf3 z0
          go_loopw [6] (fun i wr => ∃ (p : Nat) (X : List Cel), i = .int .i64 p ∧ p ≤ l.store.cells.length ∧ ClrSt l.marks l.store.cells p X ∧ Owns w.heap.size w wr [.box g [.slice C l.store.cells.length kC, .slice R l.store.roots.length kR, .slice (some ⟨gV, 0, none⟩) l.marks.length kV, .int .i64 ((a : Int) + 1)] 50, .cells (.slice C l.store.cells.length kC) rvs (X), .ints (.slice R l.store.roots.length kR) l.store.roots, .bools (.slice (some ⟨gV, 0, none⟩) l.marks.length kV) l.marks, .box (w.heap.size + 1) [.slice none 0 0, .slice none 0 0, .slice none 0 0, .int .i64 0] 50, .box w.heap.size [.slice D m d, .slice D' m' d', .slice E q f, .int .i64 a0'] 50]) (fun i _ => l.store.cells.length - (intOf i).toNat)
          case atStart => exact ⟨0, _, rfl, Nat.zero_le _, HCs.out, H6⟩
          case round =>
            clear H6 HCs
            obtain ⟨p, X, rfl, hp, hX, H⟩ := hrel
            obtain ⟨x0, x1, x2, x3, xf0, xf1, xf2, xf3⟩ := box4 H 0 rfl
            by_cases hltp : p < l.store.cells.length
            · obtain ⟨l0, hl0⟩ : ∃ l0, Hid (l.store.cells[p]? = some l0) := ⟨_, Go.Lib.hid (List.getElem?_eq_getElem hltp)⟩
              have hX0 : Hid (X[p]? = some l0) := Go.Lib.hid (hX.here.trans hl0.out)
              have hXl := hX.len
              have HS : Hid (X.set p ⟨l0.used, l0.data, l0.refs⟩ = X) := Go.Lib.hid (by obtain ⟨h1, h2⟩ := List.getElem?_eq_some_iff.1 hX0.out; exact (by rw [← h2]; exact List.set_getElem_self h1))
              have HKY : ∀ Y, Hid ((X.set p ⟨l0.used, l0.data, Y⟩)[p]? = some ⟨l0.used, l0.data, Y⟩) := fun Y => Go.Lib.hid (by rw [List.getElem?_set_self (by omega)])
              have HX := Go.Lib.hid hX
              have HXl := Go.Lib.hid hXl
              have hr3 : l0.refs.length ≤ 3 := refsZ HOK.out hl0.out
              obtain ⟨bp, hbp⟩ : ∃ b, Hid (l.marks[p]? = some b) := ⟨_, Go.Lib.hid (List.getElem?_eq_getElem (by omega))⟩
              have HRs := Go.Lib.hid (ClrRt.start l.marks l0 p)
              clear hX hXl
              go_wp2_with fail
              clear x0 x1 x2 x3 xf0 xf1 xf2 xf3
              go_loopw [7] (fun i wr => ∃ (j : Nat) (Y : List Int), i = .int .i64 j ∧ j ≤ l0.refs.length ∧ ClrRt l.marks l0 p j Y ∧ Owns w.heap.size w wr [.box g [.slice C l.store.cells.length kC, .slice R l.store.roots.length kR, .slice (some ⟨gV, 0, none⟩) l.marks.length kV, .int .i64 ((a : Int) + 1)] 50, .cells (.slice C l.store.cells.length kC) rvs (X.set p ⟨l0.used, l0.data, Y⟩), .ints (.slice R l.store.roots.length kR) l.store.roots, .bools (.slice (some ⟨gV, 0, none⟩) l.marks.length kV) l.marks, .box (w.heap.size + 1) [.slice none 0 0, .slice none 0 0, .slice none 0 0, .int .i64 0] 50, .box w.heap.size [.slice D m d, .slice D' m' d', .slice E q f, .int .i64 a0'] 50]) (fun i _ => l0.refs.length - (intOf i).toNat)
              case atStart => exact ⟨0, _, rfl, Nat.zero_le _, HRs.out, by rw [HS.out]; exact H⟩
              case round =>
                clear H HS HRs
                obtain ⟨j, Y, rfl, hj, hY, H⟩ := hrel
                obtain ⟨x0, x1, x2, x3, xf0, xf1, xf2, xf3⟩ := box4 H 0 rfl
                obtain ⟨gC, cC, A, c, eC, hrv, z2, k1, k2⟩ := H.cellsAt 1 rfl (HKY Y)
                simp only [Value.slice.injEq] at eC
                obtain ⟨rfl, -, rfl⟩ := eC
                have HYl := Go.Lib.hid hY.len
                simp only [HYl.out] at z2 k1
                obtain ⟨zp, -⟩ := H.elem 3 rfl (j := p) (u := .bool bp) (by rw [List.getElem?_map, hbp.out]; rfl)
                have i3 : (0 : Int) ≤ (p : Int) := by omega
                have i4 : (p : Int) < (l.store.cells.length : Int) := by omega
                have i5 : (p : Int) < (l.marks.length : Int) := by omega
                by_cases hltj : j < l0.refs.length
                · obtain ⟨x, hx⟩ : ∃ x, Hid (l0.refs[j]? = some x) := ⟨_, Go.Lib.hid (List.getElem?_eq_getElem hltj)⟩
                  have HL := Go.Lib.hid (hY.here.trans hx.out)
                  obtain ⟨gr, rfl, z3, zf⟩ := H.refAt 1 rfl hrv (HKY Y) HL
                  have j1 : (0 : Int) ≤ (j : Int) := by omega
                  have j2 : (j : Int) < (l0.refs.length : Int) := by omega
                  cases bp
                  rotate_left
                  · have HN2 := Go.Lib.hid (hY.stay hx (clrR_mark (atB_at hbp.out) x))
                    clear hY
                    go_wp2
                    go_roundw
                    case rel => exact ⟨j + 1, Y, by go_num, by omega, HN2.out, H⟩
                    case measure => simp [intOf]; omega
                  · by_cases c0 : 0 ≤ x
                    rotate_left
                    · have HN2 := Go.Lib.hid (hY.stay hx (clrR_neg c0))
                      clear hY
                      go_wp2
                      go_roundw
                      case rel => exact ⟨j + 1, Y, by go_num, by omega, HN2.out, H⟩
                      case measure => simp [intOf]; omega
                    · obtain ⟨r, rfl⟩ := Int.eq_ofNat_of_zero_le c0
                      have hrl := leads_lt HOK.out hl0.out hx.out
                      obtain ⟨br, hbr⟩ : ∃ b, Hid (l.marks[r]? = some b) := ⟨_, Go.Lib.hid (List.getElem?_eq_getElem (by omega))⟩
                      obtain ⟨zr, -⟩ := H.elem 3 rfl (j := r) (u := .bool br) (by rw [List.getElem?_map, hbr.out]; rfl)
                      have i6 : (r : Int) < (l.marks.length : Int) := by omega
                      cases br
                      rotate_left
                      · have HN2 := Go.Lib.hid (hY.stay hx (clrR_to (atB_at hbr.out)))
                        clear hY
                        go_wp2
                        go_roundw
                        case rel => exact ⟨j + 1, Y, by go_num, by omega, HN2.out, H⟩
                        case measure => simp [intOf]; omega
                      · have HN2 := Go.Lib.hid (hY.turn hx (clrR_yes (atB_at hbp.out) (atB_at hbr.out)))
                        have HE : Hid (X.set p ⟨l0.used, l0.data, Y.set j (-1)⟩ = (X.set p ⟨l0.used, l0.data, Y⟩).set p ⟨l0.used, l0.data, Y.set j (-1)⟩) := Go.Lib.hid (by simp)
                        have H7 := H.putRef 1 rfl hrv.out (HKY Y).out rfl j (-1)
                        simp only [List.set_cons_zero, List.set_cons_succ] at H7
                        clear hY
                        go_wp2
                        go_roundw
                        case rel => exact ⟨j + 1, _, by go_num, by omega, HN2.out, by rw [HE.out]; exact H7⟩
                        case measure => simp [intOf]; omega
                · have HD := Go.Lib.hid (HX.out.done hl0 hY (by omega))
                  clear hY
                  go_wp2
                  go_roundw
                  case rel => exact ⟨p + 1, _, by go_num, by omega, HD.out, H⟩
                  case measure => simp [intOf]; omega
            · have hXf := hX.fin (by omega)
              subst hXf
              have hkm : a < (clrS l.marks l.store.cells).length := by rw [clrS_len]; omega
              obtain ⟨gC, cC, xx, eC, ⟨t0, t1, t2⟩, u0, u1, u2⟩ := H.cell3 1 rfl (k := a) (Go.Lib.hid (List.getElem?_eq_getElem hkm))
              simp only [Value.slice.injEq] at eC
              obtain ⟨rfl, -, rfl⟩ := eC
              have H7 := H.empty true 1 rfl (by rw [clrS_len]) a hkm
              simp only [List.set_cons_zero, List.set_cons_succ] at H7
              obtain ⟨n0, n1, n2, n3, -, -, -, -⟩ := box4 H7 0 rfl
              obtain ⟨v0, vf⟩ := H7.elem 3 rfl (j := a) (u := .bool false) (by rw [List.getElem?_map, hb.out]; rfl)
              have H8 := H7.putRowT 3 rfl a true
              simp only [List.set_cons_zero, List.set_cons_succ] at H8
              rw [rowT_bools (by simp : (l.marks.set a true).length = l.marks.length)] at H8
              obtain ⟨n0', n1', n2', n3', -, -, -, -⟩ := box4 H8 0 rfl
              obtain ⟨o0, o1, o2, o3, of0, of1, of2, of3⟩ := box4 H8 4 rfl
              have H9 := (((H8.putBox 4 rfl 0 (.slice (some ⟨gC, 0, none⟩) l.store.cells.length kC)).putBox 4 rfl 1 (.slice R l.store.roots.length kR)).putBox 4 rfl 2 (.slice (some ⟨gV, 0, none⟩) l.marks.length kV)).putBox 4 rfl 3 (.int .i64 ((a : Int) + 1))
              simp only [List.set_cons_zero, List.set_cons_succ] at H9
              obtain ⟨q0, q1, q2, q3, -, -, -, -⟩ := box4 H9 4 rfl
              have HF := Go.Lib.hid (mTake_yes HV.out HK.out hlt)
              have HS : Hid (MadeZN w (mTake l) (.returned (.tuple #[.agg #[.slice (some ⟨gC, 0, none⟩) l.store.cells.length kC, .slice R l.store.roots.length kR, .slice (some ⟨gV, 0, none⟩) l.marks.length kV, .int .i64 ((a : Int) + 1)], .int .i64 a])) _) := Go.Lib.hid (by rw [HF.out]; exact ⟨_, _, _, _, rfl, H9.order [1, 2, 3] (by decide) rfl⟩)
              have i4 : (a : Int) < (l.store.cells.length : Int) := by omega
              clear hX H H7 H8 H9
              go_wp2
              exact bodyPost_ret (v := .tuple #[.agg #[.slice (some ⟨gC, 0, none⟩) l.store.cells.length kC, .slice R l.store.roots.length kR, .slice (some ⟨gV, 0, none⟩) l.marks.length kV, .int .i64 ((a : Int) + 1)], .int .i64 a]) (by simp [results, Try.results39, go_sem, q0, q1, q2, q3]) rfl HS.out
      · have hae : a = l.marks.length := by omega
        have HF : Hid (mTake l = (⟨l.store, l.marks, (a : Int)⟩, -1)) := Go.Lib.hid (by rw [mTake_end HV.out (by rw [← HAn.out, nxt_end (by omega)]; omega)]; unfold lzSpent; rw [hae])
        obtain ⟨o0, o1, o2, o3, of0, of1, of2, of3⟩ := box4 H 4 rfl
        have H9 := (((H.putBox 4 rfl 0 (.slice C l.store.cells.length kC)).putBox 4 rfl 1 (.slice R l.store.roots.length kR)).putBox 4 rfl 2 (.slice V l.marks.length kV)).putBox 4 rfl 3 (.int .i64 (a : Int))
        simp only [List.set_cons_zero, List.set_cons_succ] at H9
        obtain ⟨q0, q1, q2, q3, -, -, -, -⟩ := box4 H9 4 rfl
        have HS : Hid (MadeZN w (mTake l) (.returned (.tuple #[.agg #[.slice C l.store.cells.length kC, .slice R l.store.roots.length kR, .slice V l.marks.length kV, .int .i64 (a : Int)], .int .i64 (-1)])) _) := Go.Lib.hid (by rw [HF.out]; exact ⟨_, _, _, _, rfl, H9.order [1, 2, 3] (by decide) rfl⟩)
        clear hae H H9
        go_wp2
        exact bodyPost_ret (v := .tuple #[.agg #[.slice C l.store.cells.length kC, .slice R l.store.roots.length kR, .slice V l.marks.length kV, .int .i64 (a : Int)], .int .i64 (-1)]) (by simp [results, Try.results39, go_sem, q0, q1, q2, q3]) rfl HS.out
end Go.Proofs.Ytjpfgbckmcjjaaa
