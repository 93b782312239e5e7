/- A heap with regions drawn from a code; the law FnRegionsValid's walk. For every code that can be read. -/
import Derived.Test.YtlhecfpflkioeaaRo
import Derived.Test.YtlhecfpflkioeaaAl
import Derived.Test.YtlhecfpflkioeaaRg
import Derived.Deep.OwnRows
namespace Go.Proofs.Ytlhecfpflkioeaa
open Go.RowKit
set_option maxHeartbeats 1600000 in
theorem DrawRegionsValid_any (w : World) (A : Option Addr) (n c : Nat) (bs : List Int) (hr : RdY w w.heap.size A n c bs) :
    Calls Try.prog 19 #[.slice A n c] w (DrawnR w) := by
  have H := (Owns.nil w).box [.slice none 0 0, .slice none 0 0] 26
  go_enter Try.func19, Try.ntmps19
  go_wp2_with fail
  refine (open_own H A n c bs hr).mono ?_
  rintro e w1 ⟨g, A1, n1, c1, bs1, rfl, hU, H1⟩
  clear H hr
  go_wp2_with fail
  refine (regions_own H1 0 rfl hU (by omega) 2 (by omega) (by omega)).mono ?_
  rintro e w2 ⟨T, cv, rvs, rv, rv0, v, rs0, xs, p1, rfl, hS, ht, hxl, hrl, -, -, H2⟩
  simp only [List.set_cons_zero] at H2
  clear H1 hU
  obtain ⟨C, kC, rfl, -⟩ := H2.formC 1 rfl
  obtain ⟨R0, kR0, e0, -⟩ := H2.formI 2 rfl
  obtain ⟨R, nR, kR, rfl⟩ := ht.form e0
  clear e0
  obtain ⟨y0, y1, y2, y3⟩ := H2.box2 4 rfl
  have HZ := (H2.putBox 4 rfl 0 (.slice C T.cells.length kC)).putBox 4 rfl 1 (.slice R nR kR)
  simp only [List.set_cons_zero, List.set_cons_succ] at HZ
  obtain ⟨z0, z1, -, -⟩ := HZ.box2 4 rfl
  obtain ⟨z2, -, -, -⟩ := (H2.putBox 4 rfl 0 (.slice C T.cells.length kC)).box2 4 rfl
  have HS : Hid (DrawnR w (.returned (.tuple #[.agg #[.slice C T.cells.length kC, .slice R nR kR], v])) _) := Go.Lib.hid ⟨T, _, rvs, _, _, _, _, xs, rfl, hS, ht, hxl, hrl, HZ.take 3⟩
  clear H2 HZ hS ht
  go_wp2
  exact bodyPost_ret (v := .tuple #[.agg #[.slice C T.cells.length kC, .slice R nR kR], v]) (by simp [results, Try.results19, go_sem, z0, z1]) rfl HS.out
/-! ### make of numbers at a step of a region that draws its order -/
theorem upon_makeI {lo : Nat} {w0 w : World} {L : List OB} {o : Oper} {a : Act} {K : Act → World → Prop} {Q : Exit → Act → World → Prop}
    (h : Owns lo w0 w L) (kl kc : IntKind) (C1 C2 : Int) (n : Nat) (h1 : C1 = (n : Int)) (h2 : C2 = (n : Int)) (hn : n ≤ 1048577)
    (hK : ∀ w', Owns lo w0 w' (.ints (.slice (some ⟨w.heap.size, 0, none⟩) n n) (List.replicate n 0) :: L) → Below w.heap.size w w' → K (a.put o.dst (.slice (some ⟨w.heap.size, 0, none⟩) n n)) w') :
    Oper.upon Try.prog o a K Q ((Sem.run Try.prog (Instr.makeSlice 24 (.int kl C1) (.int kc C2)) w).andThen fun a w' => Result.ok (Next.value a) w') := by
  subst h1 h2
  have hrun := run_make_row' (P := Try.prog) 24 3 (.int .i64 0) 8 Try.underlying24 Try.infoInt rfl kl kc n (by omega) (by omega) w
  have key : ∀ m, m = (List.replicate n (0 : Int)).length → Owns lo w0 (w.alloc (.cells ((List.replicate n (0 : Int)).map (Value.int .i64)).toArray 3)) (.ints (.slice (some ⟨w.heap.size, 0, none⟩) m m) (List.replicate n 0) :: L) := by
    rintro m rfl
    exact h.litI _ (by simp; unfold maxLen; omega)
  have he : madeCells #[Value.int .i64 0] n = ((List.replicate n (0 : Int)).map (Value.int .i64)).toArray := by
    apply Array.ext'
    rw [toList_madeCells_one, List.map_replicate]
  rw [he] at hrun
  exact upon_ok hrun (hK _ (key n (by simp)) (below_alloc _ _))
theorem rdI_rep {w : World} {B : Nat} {A : Option Addr} {n c : Nat} (h : RdI w B A (List.replicate n (0 : Int)).length c (List.replicate n 0)) : RdI w B A n c (List.replicate n 0) := by
  rwa [List.length_replicate] at h
theorem rep_at (n k : Nat) : (List.replicate n (0 : Int)).getD k 0 = 0 := by
  simp only [List.getD, List.getElem?_replicate]
  split <;> rfl
theorem mRegions_zero {h : Hp} {rs : List Int} (h0 : mRegionsValid h rs = true) : mRegionsValid h (List.replicate rs.length 0) = true := by
  simp only [mRegionsValid, Bool.and_eq_true, decide_eq_true_eq] at h0
  refine mRegions_yes h0.1.1 (by simp; exact h0.1.2) ?_
  rw [List.all_eq_true]
  intro k hk
  unfold rgAt rgRef
  simp only [rep_at]
  simp
theorem mRegions_more {h : Hp} {rs : List Int} (h1 : heapOk h = true → rs.length = h.cells.length ∨ rs.length = h.cells.length + 1) : mRegionsValid h (rs ++ [0, 0, 0]) = false := by
  cases hy : heapOk h
  · exact mRegions_no1 hy
  · refine mRegions_no2 ?_
    have := h1 hy
    simp
    omega
set_option maxHeartbeats 6400000 in
set_option maxRecDepth 20000 in
theorem lawRegionsValid_any (w : World) {A : Option Addr} {n c : Nat} {bs : List Int} (hr : RdY w w.heap.size A n c bs) :
    Calls Try.prog 6 #[.slice A n c] w fun e w' => e = .returned (.bool true) ∧ Below w.heap.size w w' := by
  by_cases s0 : 1048576 < n
  · go_enter Try.func6, Try.ntmps6
    go_wp2
    go_ret
    exact ⟨rfl, Below.refl _ _⟩
  go_enter Try.func6, Try.ntmps6
  go_wp2_with fail
  refine (DrawRegionsValid_any w A n c bs hr).mono ?_
  rintro e w1 ⟨T, cv, rvs, rv, rv0, v, rs0, xs, rfl, hS, ht, hxl, hrl, H1⟩
  obtain ⟨C, kC, rfl, -⟩ := H1.formC 1 rfl
  obtain ⟨R0, kR0, e0, -⟩ := H1.formI 2 rfl
  obtain ⟨R, nR, kR, rfl⟩ := ht.form e0
  obtain ⟨V, kV, rfl, -⟩ := H1.formI 0 rfl
  have HT := Go.Lib.hid ht
  have HBad := Go.Lib.hid (mRegions_more hrl)
  clear e0 ht hS hr s0 hrl
  have H := H1.box [.slice C T.cells.length kC, .slice R nR kR] 26
  clear H1
  obtain ⟨x0, x1, -, -⟩ := H.box2 0 rfl
  go_wp2_with fail
  refine (implRegionsValid_any _ _ _ _ T _ _ _ xs (H.rdHx 2 3 rfl rfl HT.out) (H.owI 1 rfl).rdI).mono ?_
  rintro e w2 ⟨rfl, hb⟩
  replace H := H.call hb
  clear hb x0 x1
  obtain ⟨x0, x1, -, -⟩ := H.box2 0 rfl
  go_wp2_with fail
  refine (specRegionsValid_any _ _ _ _ T _ _ _ xs (H.rdHx 2 3 rfl rfl HT.out) (H.owI 1 rfl).rdI).mono ?_
  rintro e w3 ⟨rfl, hb⟩
  replace H := H.call hb
  clear hb x0 x1
  obtain ⟨x0, x1, -, -⟩ := H.box2 0 rfl
  cases ok : mRegionsValid T xs
  · clear ok
    go_wp2_with fail
    have HX := H.drew
    have H0 := Go.Lib.hid H
    clear H x0 x1
    obtain ⟨x0, x1, -, -⟩ := HX.box2 0 rfl
    refine wp_region_tree (fun w' => w'.cell? ⟨w1.heap.size, 0, none⟩ = some (.slice C T.cells.length kC) ∧ w'.cell? ⟨w1.heap.size, 1, none⟩ = some (.slice R nR kR)) 23 [] (.take 0 (.take 1 (.take 2 (.take 3 (.take 4 (.take 5 (.alt 6 (.alt 7 (.take 8 (.take 9 (.take 10 (.take 12 (.alt 11 (.alt 13 (.alt 14 (.alt 15 (.alt 16 (.take 17 (.take 18 (.take 19 (.alt 20 (.take 21 (.take 22 (.done))) (.stop))))) (.stop)) (.stop)) (.stop)) (.alt 14 (.alt 13 (.alt 15 (.alt 16 (.take 17 (.take 18 (.take 19 (.alt 20 (.take 21 (.take 22 (.done))) (.stop))))) (.stop)) (.stop)) (.stop)) (.stop))) (.alt 14 (.alt 11 (.alt 13 (.alt 15 (.alt 16 (.take 17 (.take 18 (.take 19 (.alt 20 (.take 21 (.take 22 (.done))) (.stop))))) (.stop)) (.stop)) (.stop)) (.stop)) (.stop))))))) (.stop)) (.stop)))))))) (by kernel_rfl) (by kernel_rfl) (by kernel_rfl) (⟨x0, x1⟩) ?_
    simp only [fillT, List.getElem?_cons_zero, List.getElem?_cons_succ, Nat.reduceBEq]
    repeat (first
      | (with_reducible refine po_take (v := ?_) ?_ (fun w' hS' => ?_) ?_
         rotate_left
         · (go_simp; done)
         · ((try dsimp only at hS'); go_simp; try with_reducible rfl)
         simp only [Act.put, List.setIfInBounds_toArray, List.set_cons_zero, List.set_cons_succ])
      | (with_reducible refine po_skip ?_ ?_
         · (go_simp; done)
         simp only [Act.put, List.setIfInBounds_toArray, List.set_cons_zero, List.set_cons_succ]))
    with_reducible refine po_no ?_ ?_ ?_ ?_
    · (go_simp; done)
    · exact .inr (⟨x0, x1⟩)
    rotate_left
    · exact po_stop
    simp only [Act.put, List.setIfInBounds_toArray, List.set_cons_zero, List.set_cons_succ]
    with_reducible refine po_no ?_ ?_ ?_ ?_
    · (go_simp; done)
    · exact .inr (⟨x0, x1⟩)
    rotate_left
    · exact po_stop
    simp only [Act.put, List.setIfInBounds_toArray, List.set_cons_zero, List.set_cons_succ]
    repeat (first
      | (with_reducible refine po_take (v := ?_) ?_ (fun w' hS' => ?_) ?_
         rotate_left
         · (go_simp; done)
         · ((try dsimp only at hS'); go_simp; try with_reducible rfl)
         simp only [Act.put, List.setIfInBounds_toArray, List.set_cons_zero, List.set_cons_succ])
      | (with_reducible refine po_skip ?_ ?_
         · (go_simp; done)
         simp only [Act.put, List.setIfInBounds_toArray, List.set_cons_zero, List.set_cons_succ]))
    with_reducible refine po_run ?_ (fun K hK => ?_) ?_
    · (go_simp; done)
    · -- operation 11 first
      try (revert x0 x1 HX; generalize World.drew _ = wd; intro HX x0 x1)
      go_simp
      replace HX := HX.litI [] zero_le_maxLen
      try simp only [List.map_nil, List.length_nil] at HX
      clear x0 x1
      obtain ⟨x0, x1, -, -⟩ := HX.box2 1 rfl
      refine hK.out _ _ (.inr (⟨x0, x1⟩)) ?_
      clear hK K
      revert x0 x1 HX
      generalize World.alloc _ _ = wz
      intro HX x0 x1
      with_reducible refine po_run ?_ (fun K hK => ?_) ?_
      · (go_simp; done)
      · -- operation 13 first
        refine wp_pushO (.tmp 33) (.tmp 34) rfl HX 0 rfl rfl rfl (HX.owI 2 rfl).rdI (by simp; omega) ?_
        intro A3 k3 w5 HY
        simp only [List.set_cons_zero, List.nil_append] at HY
        simp only [List.nil_append]
        replace HX := HY
        clear HY
        clear x0 x1
        obtain ⟨x0, x1, -, -⟩ := HX.box2 1 rfl
        refine hK.out _ _ (.inr (⟨x0, x1⟩)) ?_
        clear hK K
        with_reducible refine po_run ?_ (fun K hK => ?_) ?_
        · (go_simp; done)
        rotate_left
        · exact po_stop
        try (revert x0 x1 HX; generalize World.drew _ = wd; intro HX x0 x1)
        go_simp
        replace HX := HX.litI [0, 0, 0] (by show 3 ≤ maxLen; unfold maxLen; omega)
        try simp only [List.map_cons, List.map_nil, List.length_cons, List.length_nil, Nat.zero_add, Nat.reduceAdd] at HX
        clear x0 x1
        obtain ⟨x0, x1, -, -⟩ := HX.box2 2 rfl
        refine hK.out _ _ (.inr (⟨x0, x1⟩)) ?_
        clear hK K
        revert x0 x1 HX
        generalize World.alloc _ _ = wz
        intro HX x0 x1
        with_reducible refine po_run ?_ (fun K hK => ?_) ?_
        · (go_simp; done)
        rotate_left
        · exact po_stop
        refine wp_pushO (.tmp 35) (.tmp 36) rfl HX 1 rfl rfl rfl (HX.owI 0 rfl).rdI (by simp; omega) ?_
        intro A4 k4 w6 HY
        simp only [List.set_cons_zero, List.set_cons_succ] at HY
        replace HX := HY
        clear HY
        clear x0 x1
        obtain ⟨x0, x1, -, -⟩ := HX.box2 2 rfl
        refine hK.out _ _ (.inr (⟨x0, x1⟩)) ?_
        clear hK K
        with_reducible refine po_run ?_ (fun K hK => ?_) ?_
        · (go_simp; done)
        rotate_left
        · exact po_stop
        have hrd := (HX.owI 1 rfl).rdI
        rw [show (xs ++ [(0 : Int), 0, 0]).length = xs.length + 3 by simp] at hrd
        go_simp
        refine (implRegionsValid_any _ _ _ _ T _ _ _ (xs ++ [0, 0, 0]) (HX.rdHx 4 5 rfl rfl HT.out) hrd).mono ?_
        rintro e w7 ⟨rfl, hb⟩
        rw [HBad.out]
        replace HX := HX.call hb
        clear hb hrd
        clear x0 x1
        obtain ⟨x0, x1, -, -⟩ := HX.box2 2 rfl
        refine hK.out _ _ (.inr (⟨x0, x1⟩)) ?_
        clear hK K
        repeat (first
          | (with_reducible refine po_take (v := ?_) ?_ (fun w' hS' => ?_) ?_
             rotate_left
             · (go_simp; done)
             · ((try dsimp only at hS'); go_simp; try with_reducible rfl)
             simp only [Act.put, List.setIfInBounds_toArray, List.set_cons_zero, List.set_cons_succ])
          | (with_reducible refine po_skip ?_ ?_
             · (go_simp; done)
             simp only [Act.put, List.setIfInBounds_toArray, List.set_cons_zero, List.set_cons_succ]))
        with_reducible refine po_run ?_ (fun K hK => ?_) ?_
        · (go_simp; done)
        rotate_left
        · exact po_stop
        go_simp
        refine (alive_any _).mono ?_
        rintro e w8 ⟨rfl, hb⟩
        replace HX := HX.call hb
        clear hb
        clear x0 x1
        obtain ⟨x0, x1, -, -⟩ := HX.box2 2 rfl
        refine hK.out _ _ (.inr (⟨x0, x1⟩)) ?_
        clear hK K
        repeat (first
          | (with_reducible refine po_take (v := ?_) ?_ (fun w' hS' => ?_) ?_
             rotate_left
             · (go_simp; done)
             · ((try dsimp only at hS'); go_simp; try with_reducible rfl)
             simp only [Act.put, List.setIfInBounds_toArray, List.set_cons_zero, List.set_cons_succ])
          | (with_reducible refine po_skip ?_ ?_
             · (go_simp; done)
             simp only [Act.put, List.setIfInBounds_toArray, List.set_cons_zero, List.set_cons_succ]))
        refine po_done ?_
        have HB := HX.below
        clear HX H0 x0 x1
        go_wp2
        go_ret
        exact ⟨rfl, HB⟩
      with_reducible refine po_run ?_ (fun K hK => ?_) ?_
      · (go_simp; done)
      rotate_left
      · exact po_stop
      try (revert x0 x1 HX; generalize World.drew _ = wd; intro HX x0 x1)
      go_simp
      replace HX := HX.litI [0, 0, 0] (by show 3 ≤ maxLen; unfold maxLen; omega)
      try simp only [List.map_cons, List.map_nil, List.length_cons, List.length_nil, Nat.zero_add, Nat.reduceAdd] at HX
      clear x0 x1
      obtain ⟨x0, x1, -, -⟩ := HX.box2 2 rfl
      refine hK.out _ _ (.inr (⟨x0, x1⟩)) ?_
      clear hK K
      revert x0 x1 HX
      generalize World.alloc _ _ = wz
      intro HX x0 x1
      with_reducible refine po_run ?_ (fun K hK => ?_) ?_
      · (go_simp; done)
      rotate_left
      · exact po_stop
      refine wp_pushO (.tmp 33) (.tmp 34) rfl HX 1 rfl rfl rfl (HX.owI 3 rfl).rdI (by simp; omega) ?_
      intro A3 k3 w5 HY
      simp only [List.set_cons_zero, List.set_cons_succ, List.nil_append] at HY
      simp only [List.nil_append]
      replace HX := HY
      clear HY
      clear x0 x1
      obtain ⟨x0, x1, -, -⟩ := HX.box2 2 rfl
      refine hK.out _ _ (.inr (⟨x0, x1⟩)) ?_
      clear hK K
      with_reducible refine po_run ?_ (fun K hK => ?_) ?_
      · (go_simp; done)
      rotate_left
      · exact po_stop
      refine wp_pushO (.tmp 35) (.tmp 36) rfl HX 1 rfl rfl rfl (HX.owI 0 rfl).rdI (by simp; omega) ?_
      intro A4 k4 w6 HY
      simp only [List.set_cons_zero, List.set_cons_succ] at HY
      replace HX := HY
      clear HY
      clear x0 x1
      obtain ⟨x0, x1, -, -⟩ := HX.box2 2 rfl
      refine hK.out _ _ (.inr (⟨x0, x1⟩)) ?_
      clear hK K
      with_reducible refine po_run ?_ (fun K hK => ?_) ?_
      · (go_simp; done)
      rotate_left
      · exact po_stop
      have hrd := (HX.owI 1 rfl).rdI
      rw [show (xs ++ [(0 : Int), 0, 0]).length = xs.length + 3 by simp] at hrd
      go_simp
      refine (implRegionsValid_any _ _ _ _ T _ _ _ (xs ++ [0, 0, 0]) (HX.rdHx 4 5 rfl rfl HT.out) hrd).mono ?_
      rintro e w7 ⟨rfl, hb⟩
      rw [HBad.out]
      replace HX := HX.call hb
      clear hb hrd
      clear x0 x1
      obtain ⟨x0, x1, -, -⟩ := HX.box2 2 rfl
      refine hK.out _ _ (.inr (⟨x0, x1⟩)) ?_
      clear hK K
      repeat (first
        | (with_reducible refine po_take (v := ?_) ?_ (fun w' hS' => ?_) ?_
           rotate_left
           · (go_simp; done)
           · ((try dsimp only at hS'); go_simp; try with_reducible rfl)
           simp only [Act.put, List.setIfInBounds_toArray, List.set_cons_zero, List.set_cons_succ])
        | (with_reducible refine po_skip ?_ ?_
           · (go_simp; done)
           simp only [Act.put, List.setIfInBounds_toArray, List.set_cons_zero, List.set_cons_succ]))
      with_reducible refine po_run ?_ (fun K hK => ?_) ?_
      · (go_simp; done)
      rotate_left
      · exact po_stop
      go_simp
      refine (alive_any _).mono ?_
      rintro e w8 ⟨rfl, hb⟩
      replace HX := HX.call hb
      clear hb
      clear x0 x1
      obtain ⟨x0, x1, -, -⟩ := HX.box2 2 rfl
      refine hK.out _ _ (.inr (⟨x0, x1⟩)) ?_
      clear hK K
      repeat (first
        | (with_reducible refine po_take (v := ?_) ?_ (fun w' hS' => ?_) ?_
           rotate_left
           · (go_simp; done)
           · ((try dsimp only at hS'); go_simp; try with_reducible rfl)
           simp only [Act.put, List.setIfInBounds_toArray, List.set_cons_zero, List.set_cons_succ])
        | (with_reducible refine po_skip ?_ ?_
           · (go_simp; done)
           simp only [Act.put, List.setIfInBounds_toArray, List.set_cons_zero, List.set_cons_succ]))
      refine po_done ?_
      have HB := HX.below
      clear HX H0 x0 x1
      go_wp2
      go_ret
      exact ⟨rfl, HB⟩
    with_reducible refine po_run ?_ (fun K hK => ?_) ?_
    · (go_simp; done)
    rotate_left
    · exact po_stop
    try (revert x0 x1 HX; generalize World.drew _ = wd; intro HX x0 x1)
    go_simp
    replace HX := HX.litI [0, 0, 0] (by show 3 ≤ maxLen; unfold maxLen; omega)
    try simp only [List.map_cons, List.map_nil, List.length_cons, List.length_nil, Nat.zero_add, Nat.reduceAdd] at HX
    clear x0 x1
    obtain ⟨x0, x1, -, -⟩ := HX.box2 1 rfl
    refine hK.out _ _ (.inr (⟨x0, x1⟩)) ?_
    clear hK K
    revert x0 x1 HX
    generalize World.alloc _ _ = wz
    intro HX x0 x1
    with_reducible refine po_run ?_ (fun K hK => ?_) ?_
    · (go_simp; done)
    rotate_left
    · exact po_stop
    try (revert x0 x1 HX; generalize World.drew _ = wd; intro HX x0 x1)
    go_simp
    replace HX := HX.litI [] zero_le_maxLen
    try simp only [List.map_nil, List.length_nil] at HX
    clear x0 x1
    obtain ⟨x0, x1, -, -⟩ := HX.box2 2 rfl
    refine hK.out _ _ (.inr (⟨x0, x1⟩)) ?_
    clear hK K
    revert x0 x1 HX
    generalize World.alloc _ _ = wz
    intro HX x0 x1
    with_reducible refine po_run ?_ (fun K hK => ?_) ?_
    · (go_simp; done)
    rotate_left
    · exact po_stop
    refine wp_pushO (.tmp 33) (.tmp 34) rfl HX 0 rfl rfl rfl (HX.owI 3 rfl).rdI (by simp; omega) ?_
    intro A3 k3 w5 HY
    simp only [List.set_cons_zero, List.nil_append] at HY
    simp only [List.nil_append]
    replace HX := HY
    clear HY
    clear x0 x1
    obtain ⟨x0, x1, -, -⟩ := HX.box2 2 rfl
    refine hK.out _ _ (.inr (⟨x0, x1⟩)) ?_
    clear hK K
    with_reducible refine po_run ?_ (fun K hK => ?_) ?_
    · (go_simp; done)
    rotate_left
    · exact po_stop
    refine wp_pushO (.tmp 35) (.tmp 36) rfl HX 0 rfl rfl rfl (HX.owI 1 rfl).rdI (by simp; omega) ?_
    intro A4 k4 w6 HY
    simp only [List.set_cons_zero] at HY
    replace HX := HY
    clear HY
    clear x0 x1
    obtain ⟨x0, x1, -, -⟩ := HX.box2 2 rfl
    refine hK.out _ _ (.inr (⟨x0, x1⟩)) ?_
    clear hK K
    with_reducible refine po_run ?_ (fun K hK => ?_) ?_
    · (go_simp; done)
    rotate_left
    · exact po_stop
    have hrd := (HX.owI 0 rfl).rdI
    rw [show (xs ++ [(0 : Int), 0, 0]).length = xs.length + 3 by simp] at hrd
    go_simp
    refine (implRegionsValid_any _ _ _ _ T _ _ _ (xs ++ [0, 0, 0]) (HX.rdHx 4 5 rfl rfl HT.out) hrd).mono ?_
    rintro e w7 ⟨rfl, hb⟩
    rw [HBad.out]
    replace HX := HX.call hb
    clear hb hrd
    clear x0 x1
    obtain ⟨x0, x1, -, -⟩ := HX.box2 2 rfl
    refine hK.out _ _ (.inr (⟨x0, x1⟩)) ?_
    clear hK K
    repeat (first
      | (with_reducible refine po_take (v := ?_) ?_ (fun w' hS' => ?_) ?_
         rotate_left
         · (go_simp; done)
         · ((try dsimp only at hS'); go_simp; try with_reducible rfl)
         simp only [Act.put, List.setIfInBounds_toArray, List.set_cons_zero, List.set_cons_succ])
      | (with_reducible refine po_skip ?_ ?_
         · (go_simp; done)
         simp only [Act.put, List.setIfInBounds_toArray, List.set_cons_zero, List.set_cons_succ]))
    with_reducible refine po_run ?_ (fun K hK => ?_) ?_
    · (go_simp; done)
    rotate_left
    · exact po_stop
    go_simp
    refine (alive_any _).mono ?_
    rintro e w8 ⟨rfl, hb⟩
    replace HX := HX.call hb
    clear hb
    clear x0 x1
    obtain ⟨x0, x1, -, -⟩ := HX.box2 2 rfl
    refine hK.out _ _ (.inr (⟨x0, x1⟩)) ?_
    clear hK K
    repeat (first
      | (with_reducible refine po_take (v := ?_) ?_ (fun w' hS' => ?_) ?_
         rotate_left
         · (go_simp; done)
         · ((try dsimp only at hS'); go_simp; try with_reducible rfl)
         simp only [Act.put, List.setIfInBounds_toArray, List.set_cons_zero, List.set_cons_succ])
      | (with_reducible refine po_skip ?_ ?_
         · (go_simp; done)
         simp only [Act.put, List.setIfInBounds_toArray, List.set_cons_zero, List.set_cons_succ]))
    refine po_done ?_
    have HB := HX.below
    clear HX H0 x0 x1
    go_wp2
    go_ret
    exact ⟨rfl, HB⟩
  · have HZr := Go.Lib.hid (mRegions_zero ok)
    clear ok
    go_wp2_with fail
    have HX := H.drew
    have H0 := Go.Lib.hid H
    clear H x0 x1
    obtain ⟨x0, x1, -, -⟩ := HX.box2 0 rfl
    refine wp_region_tree (fun w' => w'.cell? ⟨w1.heap.size, 0, none⟩ = some (.slice C T.cells.length kC) ∧ w'.cell? ⟨w1.heap.size, 1, none⟩ = some (.slice R nR kR)) 23 [] (.take 0 (.take 1 (.take 2 (.take 3 (.take 4 (.take 5 (.alt 6 (.alt 7 (.take 8 (.take 9 (.take 10 (.take 12 (.alt 11 (.alt 13 (.alt 14 (.alt 15 (.alt 16 (.take 17 (.take 18 (.take 19 (.alt 20 (.take 21 (.take 22 (.done))) (.stop))))) (.stop)) (.stop)) (.stop)) (.alt 14 (.alt 13 (.alt 15 (.alt 16 (.take 17 (.take 18 (.take 19 (.alt 20 (.take 21 (.take 22 (.done))) (.stop))))) (.stop)) (.stop)) (.stop)) (.stop))) (.alt 14 (.alt 11 (.alt 13 (.alt 15 (.alt 16 (.take 17 (.take 18 (.take 19 (.alt 20 (.take 21 (.take 22 (.done))) (.stop))))) (.stop)) (.stop)) (.stop)) (.stop)) (.stop))))))) (.stop)) (.stop)))))))) (by kernel_rfl) (by kernel_rfl) (by kernel_rfl) (⟨x0, x1⟩) ?_
    simp only [fillT, List.getElem?_cons_zero, List.getElem?_cons_succ, Nat.reduceBEq]
    repeat (first
      | (with_reducible refine po_take (v := ?_) ?_ (fun w' hS' => ?_) ?_
         rotate_left
         · (go_simp; done)
         · ((try dsimp only at hS'); go_simp; try with_reducible rfl)
         simp only [Act.put, List.setIfInBounds_toArray, List.set_cons_zero, List.set_cons_succ])
      | (with_reducible refine po_skip ?_ ?_
         · (go_simp; done)
         simp only [Act.put, List.setIfInBounds_toArray, List.set_cons_zero, List.set_cons_succ]))
    with_reducible refine po_run ?_ (fun K hK => ?_) ?_
    · (go_simp; done)
    rotate_left
    · exact po_stop
    try (revert x0 x1 HX; generalize World.drew _ = wd; intro HX x0 x1)
    go_simp
    refine upon_makeI HX _ _ _ _ xs.length rfl rfl (by omega) ?_
    intro w4 HY hb
    clear HX x0 x1
    have HX := HY
    clear HY
    obtain ⟨x0, x1, -, -⟩ := HX.box2 1 rfl
    refine hK.out _ _ (.inr (⟨x0, x1⟩)) ?_
    clear hK K
    with_reducible refine po_run ?_ (fun K hK => ?_) ?_
    · (go_simp; done)
    rotate_left
    · exact po_stop
    go_simp
    refine (implRegionsValid_any _ _ _ _ T _ _ _ (List.replicate xs.length 0) (HX.rdHx 3 4 rfl rfl HT.out) (HX.owI 0 rfl).rdI).mono ?_
    rintro e w4 ⟨rfl, hb⟩
    rw [HZr.out]
    have HY := (HX.call hb).erase 0
    simp only [List.eraseIdx_cons_zero] at HY
    clear HX hb x0 x1
    have HX := HY
    clear HY
    obtain ⟨x0, x1, -, -⟩ := HX.box2 0 rfl
    refine hK.out _ _ (.inr (⟨x0, x1⟩)) ?_
    clear hK K
    repeat (first
      | (with_reducible refine po_take (v := ?_) ?_ (fun w' hS' => ?_) ?_
         rotate_left
         · (go_simp; done)
         · ((try dsimp only at hS'); go_simp; try with_reducible rfl)
         simp only [Act.put, List.setIfInBounds_toArray, List.set_cons_zero, List.set_cons_succ])
      | (with_reducible refine po_skip ?_ ?_
         · (go_simp; done)
         simp only [Act.put, List.setIfInBounds_toArray, List.set_cons_zero, List.set_cons_succ]))
    with_reducible refine po_run ?_ (fun K hK => ?_) ?_
    · (go_simp; done)
    · -- operation 11 first
      try (revert x0 x1 HX; generalize World.drew _ = wd; intro HX x0 x1)
      go_simp
      replace HX := HX.litI [] zero_le_maxLen
      try simp only [List.map_nil, List.length_nil] at HX
      clear x0 x1
      obtain ⟨x0, x1, -, -⟩ := HX.box2 1 rfl
      refine hK.out _ _ (.inr (⟨x0, x1⟩)) ?_
      clear hK K
      revert x0 x1 HX
      generalize World.alloc _ _ = wz
      intro HX x0 x1
      with_reducible refine po_run ?_ (fun K hK => ?_) ?_
      · (go_simp; done)
      · -- operation 13 first
        refine wp_pushO (.tmp 33) (.tmp 34) rfl HX 0 rfl rfl rfl (HX.owI 2 rfl).rdI (by simp; omega) ?_
        intro A3 k3 w5 HY
        simp only [List.set_cons_zero, List.nil_append] at HY
        simp only [List.nil_append]
        replace HX := HY
        clear HY
        clear x0 x1
        obtain ⟨x0, x1, -, -⟩ := HX.box2 1 rfl
        refine hK.out _ _ (.inr (⟨x0, x1⟩)) ?_
        clear hK K
        with_reducible refine po_run ?_ (fun K hK => ?_) ?_
        · (go_simp; done)
        rotate_left
        · exact po_stop
        try (revert x0 x1 HX; generalize World.drew _ = wd; intro HX x0 x1)
        go_simp
        replace HX := HX.litI [0, 0, 0] (by show 3 ≤ maxLen; unfold maxLen; omega)
        try simp only [List.map_cons, List.map_nil, List.length_cons, List.length_nil, Nat.zero_add, Nat.reduceAdd] at HX
        clear x0 x1
        obtain ⟨x0, x1, -, -⟩ := HX.box2 2 rfl
        refine hK.out _ _ (.inr (⟨x0, x1⟩)) ?_
        clear hK K
        revert x0 x1 HX
        generalize World.alloc _ _ = wz
        intro HX x0 x1
        with_reducible refine po_run ?_ (fun K hK => ?_) ?_
        · (go_simp; done)
        rotate_left
        · exact po_stop
        refine wp_pushO (.tmp 35) (.tmp 36) rfl HX 1 rfl rfl rfl (HX.owI 0 rfl).rdI (by simp; omega) ?_
        intro A4 k4 w6 HY
        simp only [List.set_cons_zero, List.set_cons_succ] at HY
        replace HX := HY
        clear HY
        clear x0 x1
        obtain ⟨x0, x1, -, -⟩ := HX.box2 2 rfl
        refine hK.out _ _ (.inr (⟨x0, x1⟩)) ?_
        clear hK K
        with_reducible refine po_run ?_ (fun K hK => ?_) ?_
        · (go_simp; done)
        rotate_left
        · exact po_stop
        have hrd := (HX.owI 1 rfl).rdI
        rw [show (xs ++ [(0 : Int), 0, 0]).length = xs.length + 3 by simp] at hrd
        go_simp
        refine (implRegionsValid_any _ _ _ _ T _ _ _ (xs ++ [0, 0, 0]) (HX.rdHx 4 5 rfl rfl HT.out) hrd).mono ?_
        rintro e w7 ⟨rfl, hb⟩
        rw [HBad.out]
        replace HX := HX.call hb
        clear hb hrd
        clear x0 x1
        obtain ⟨x0, x1, -, -⟩ := HX.box2 2 rfl
        refine hK.out _ _ (.inr (⟨x0, x1⟩)) ?_
        clear hK K
        repeat (first
          | (with_reducible refine po_take (v := ?_) ?_ (fun w' hS' => ?_) ?_
             rotate_left
             · (go_simp; done)
             · ((try dsimp only at hS'); go_simp; try with_reducible rfl)
             simp only [Act.put, List.setIfInBounds_toArray, List.set_cons_zero, List.set_cons_succ])
          | (with_reducible refine po_skip ?_ ?_
             · (go_simp; done)
             simp only [Act.put, List.setIfInBounds_toArray, List.set_cons_zero, List.set_cons_succ]))
        with_reducible refine po_run ?_ (fun K hK => ?_) ?_
        · (go_simp; done)
        rotate_left
        · exact po_stop
        go_simp
        refine (alive_any _).mono ?_
        rintro e w8 ⟨rfl, hb⟩
        replace HX := HX.call hb
        clear hb
        clear x0 x1
        obtain ⟨x0, x1, -, -⟩ := HX.box2 2 rfl
        refine hK.out _ _ (.inr (⟨x0, x1⟩)) ?_
        clear hK K
        repeat (first
          | (with_reducible refine po_take (v := ?_) ?_ (fun w' hS' => ?_) ?_
             rotate_left
             · (go_simp; done)
             · ((try dsimp only at hS'); go_simp; try with_reducible rfl)
             simp only [Act.put, List.setIfInBounds_toArray, List.set_cons_zero, List.set_cons_succ])
          | (with_reducible refine po_skip ?_ ?_
             · (go_simp; done)
             simp only [Act.put, List.setIfInBounds_toArray, List.set_cons_zero, List.set_cons_succ]))
        refine po_done ?_
        have HB := HX.below
        clear HX H0 x0 x1
        go_wp2
        go_ret
        exact ⟨rfl, HB⟩
      with_reducible refine po_run ?_ (fun K hK => ?_) ?_
      · (go_simp; done)
      rotate_left
      · exact po_stop
      try (revert x0 x1 HX; generalize World.drew _ = wd; intro HX x0 x1)
      go_simp
      replace HX := HX.litI [0, 0, 0] (by show 3 ≤ maxLen; unfold maxLen; omega)
      try simp only [List.map_cons, List.map_nil, List.length_cons, List.length_nil, Nat.zero_add, Nat.reduceAdd] at HX
      clear x0 x1
      obtain ⟨x0, x1, -, -⟩ := HX.box2 2 rfl
      refine hK.out _ _ (.inr (⟨x0, x1⟩)) ?_
      clear hK K
      revert x0 x1 HX
      generalize World.alloc _ _ = wz
      intro HX x0 x1
      with_reducible refine po_run ?_ (fun K hK => ?_) ?_
      · (go_simp; done)
      rotate_left
      · exact po_stop
      refine wp_pushO (.tmp 33) (.tmp 34) rfl HX 1 rfl rfl rfl (HX.owI 3 rfl).rdI (by simp; omega) ?_
      intro A3 k3 w5 HY
      simp only [List.set_cons_zero, List.set_cons_succ, List.nil_append] at HY
      simp only [List.nil_append]
      replace HX := HY
      clear HY
      clear x0 x1
      obtain ⟨x0, x1, -, -⟩ := HX.box2 2 rfl
      refine hK.out _ _ (.inr (⟨x0, x1⟩)) ?_
      clear hK K
      with_reducible refine po_run ?_ (fun K hK => ?_) ?_
      · (go_simp; done)
      rotate_left
      · exact po_stop
      refine wp_pushO (.tmp 35) (.tmp 36) rfl HX 1 rfl rfl rfl (HX.owI 0 rfl).rdI (by simp; omega) ?_
      intro A4 k4 w6 HY
      simp only [List.set_cons_zero, List.set_cons_succ] at HY
      replace HX := HY
      clear HY
      clear x0 x1
      obtain ⟨x0, x1, -, -⟩ := HX.box2 2 rfl
      refine hK.out _ _ (.inr (⟨x0, x1⟩)) ?_
      clear hK K
      with_reducible refine po_run ?_ (fun K hK => ?_) ?_
      · (go_simp; done)
      rotate_left
      · exact po_stop
      have hrd := (HX.owI 1 rfl).rdI
      rw [show (xs ++ [(0 : Int), 0, 0]).length = xs.length + 3 by simp] at hrd
      go_simp
      refine (implRegionsValid_any _ _ _ _ T _ _ _ (xs ++ [0, 0, 0]) (HX.rdHx 4 5 rfl rfl HT.out) hrd).mono ?_
      rintro e w7 ⟨rfl, hb⟩
      rw [HBad.out]
      replace HX := HX.call hb
      clear hb hrd
      clear x0 x1
      obtain ⟨x0, x1, -, -⟩ := HX.box2 2 rfl
      refine hK.out _ _ (.inr (⟨x0, x1⟩)) ?_
      clear hK K
      repeat (first
        | (with_reducible refine po_take (v := ?_) ?_ (fun w' hS' => ?_) ?_
           rotate_left
           · (go_simp; done)
           · ((try dsimp only at hS'); go_simp; try with_reducible rfl)
           simp only [Act.put, List.setIfInBounds_toArray, List.set_cons_zero, List.set_cons_succ])
        | (with_reducible refine po_skip ?_ ?_
           · (go_simp; done)
           simp only [Act.put, List.setIfInBounds_toArray, List.set_cons_zero, List.set_cons_succ]))
      with_reducible refine po_run ?_ (fun K hK => ?_) ?_
      · (go_simp; done)
      rotate_left
      · exact po_stop
      go_simp
      refine (alive_any _).mono ?_
      rintro e w8 ⟨rfl, hb⟩
      replace HX := HX.call hb
      clear hb
      clear x0 x1
      obtain ⟨x0, x1, -, -⟩ := HX.box2 2 rfl
      refine hK.out _ _ (.inr (⟨x0, x1⟩)) ?_
      clear hK K
      repeat (first
        | (with_reducible refine po_take (v := ?_) ?_ (fun w' hS' => ?_) ?_
           rotate_left
           · (go_simp; done)
           · ((try dsimp only at hS'); go_simp; try with_reducible rfl)
           simp only [Act.put, List.setIfInBounds_toArray, List.set_cons_zero, List.set_cons_succ])
        | (with_reducible refine po_skip ?_ ?_
           · (go_simp; done)
           simp only [Act.put, List.setIfInBounds_toArray, List.set_cons_zero, List.set_cons_succ]))
      refine po_done ?_
      have HB := HX.below
      clear HX H0 x0 x1
      go_wp2
      go_ret
      exact ⟨rfl, HB⟩
    with_reducible refine po_run ?_ (fun K hK => ?_) ?_
    · (go_simp; done)
    rotate_left
    · exact po_stop
    try (revert x0 x1 HX; generalize World.drew _ = wd; intro HX x0 x1)
    go_simp
    replace HX := HX.litI [0, 0, 0] (by show 3 ≤ maxLen; unfold maxLen; omega)
    try simp only [List.map_cons, List.map_nil, List.length_cons, List.length_nil, Nat.zero_add, Nat.reduceAdd] at HX
    clear x0 x1
    obtain ⟨x0, x1, -, -⟩ := HX.box2 1 rfl
    refine hK.out _ _ (.inr (⟨x0, x1⟩)) ?_
    clear hK K
    revert x0 x1 HX
    generalize World.alloc _ _ = wz
    intro HX x0 x1
    with_reducible refine po_run ?_ (fun K hK => ?_) ?_
    · (go_simp; done)
    rotate_left
    · exact po_stop
    try (revert x0 x1 HX; generalize World.drew _ = wd; intro HX x0 x1)
    go_simp
    replace HX := HX.litI [] zero_le_maxLen
    try simp only [List.map_nil, List.length_nil] at HX
    clear x0 x1
    obtain ⟨x0, x1, -, -⟩ := HX.box2 2 rfl
    refine hK.out _ _ (.inr (⟨x0, x1⟩)) ?_
    clear hK K
    revert x0 x1 HX
    generalize World.alloc _ _ = wz
    intro HX x0 x1
    with_reducible refine po_run ?_ (fun K hK => ?_) ?_
    · (go_simp; done)
    rotate_left
    · exact po_stop
    refine wp_pushO (.tmp 33) (.tmp 34) rfl HX 0 rfl rfl rfl (HX.owI 3 rfl).rdI (by simp; omega) ?_
    intro A3 k3 w5 HY
    simp only [List.set_cons_zero, List.nil_append] at HY
    simp only [List.nil_append]
    replace HX := HY
    clear HY
    clear x0 x1
    obtain ⟨x0, x1, -, -⟩ := HX.box2 2 rfl
    refine hK.out _ _ (.inr (⟨x0, x1⟩)) ?_
    clear hK K
    with_reducible refine po_run ?_ (fun K hK => ?_) ?_
    · (go_simp; done)
    rotate_left
    · exact po_stop
    refine wp_pushO (.tmp 35) (.tmp 36) rfl HX 0 rfl rfl rfl (HX.owI 1 rfl).rdI (by simp; omega) ?_
    intro A4 k4 w6 HY
    simp only [List.set_cons_zero] at HY
    replace HX := HY
    clear HY
    clear x0 x1
    obtain ⟨x0, x1, -, -⟩ := HX.box2 2 rfl
    refine hK.out _ _ (.inr (⟨x0, x1⟩)) ?_
    clear hK K
    with_reducible refine po_run ?_ (fun K hK => ?_) ?_
    · (go_simp; done)
    rotate_left
    · exact po_stop
    have hrd := (HX.owI 0 rfl).rdI
    rw [show (xs ++ [(0 : Int), 0, 0]).length = xs.length + 3 by simp] at hrd
    go_simp
    refine (implRegionsValid_any _ _ _ _ T _ _ _ (xs ++ [0, 0, 0]) (HX.rdHx 4 5 rfl rfl HT.out) hrd).mono ?_
    rintro e w7 ⟨rfl, hb⟩
    rw [HBad.out]
    replace HX := HX.call hb
    clear hb hrd
    clear x0 x1
    obtain ⟨x0, x1, -, -⟩ := HX.box2 2 rfl
    refine hK.out _ _ (.inr (⟨x0, x1⟩)) ?_
    clear hK K
    repeat (first
      | (with_reducible refine po_take (v := ?_) ?_ (fun w' hS' => ?_) ?_
         rotate_left
         · (go_simp; done)
         · ((try dsimp only at hS'); go_simp; try with_reducible rfl)
         simp only [Act.put, List.setIfInBounds_toArray, List.set_cons_zero, List.set_cons_succ])
      | (with_reducible refine po_skip ?_ ?_
         · (go_simp; done)
         simp only [Act.put, List.setIfInBounds_toArray, List.set_cons_zero, List.set_cons_succ]))
    with_reducible refine po_run ?_ (fun K hK => ?_) ?_
    · (go_simp; done)
    rotate_left
    · exact po_stop
    go_simp
    refine (alive_any _).mono ?_
    rintro e w8 ⟨rfl, hb⟩
    replace HX := HX.call hb
    clear hb
    clear x0 x1
    obtain ⟨x0, x1, -, -⟩ := HX.box2 2 rfl
    refine hK.out _ _ (.inr (⟨x0, x1⟩)) ?_
    clear hK K
    repeat (first
      | (with_reducible refine po_take (v := ?_) ?_ (fun w' hS' => ?_) ?_
         rotate_left
         · (go_simp; done)
         · ((try dsimp only at hS'); go_simp; try with_reducible rfl)
         simp only [Act.put, List.setIfInBounds_toArray, List.set_cons_zero, List.set_cons_succ])
      | (with_reducible refine po_skip ?_ ?_
         · (go_simp; done)
         simp only [Act.put, List.setIfInBounds_toArray, List.set_cons_zero, List.set_cons_succ]))
    refine po_done ?_
    have HB := HX.below
    clear HX H0 x0 x1
    go_wp2
    go_ret
    exact ⟨rfl, HB⟩
end Go.Proofs.Ytlhecfpflkioeaa
