/- The program's copyHeap makes the heap that it was handed. -/
import Derived.Test.YtdkpfggfkhnjfaaZ0
import Derived.Deep.DeepCutAuto
namespace Go.Proofs.Ytdkpfggfkhnjfaa
open Go.RowKit
set_option maxHeartbeats 3200000 in
set_option maxRecDepth 20000 in
theorem copyHeap_any (w : World) (B : Nat) (v : Value) (h : Hp) (hh : RdH w B v h) (hn : h.cells.length ≤ 1048576) (hn2 : h.roots.length ≤ 1048576) (hn3 : ∀ c ∈ h.cells, c.refs.length ≤ 1048576) :
    Calls Try.prog 49 #[v] w (MadeH w h) := by
  obtain ⟨D, m, d, D', m', d', rfl, hC, hR⟩ := hh.top
  have hm1 := hC.mx; have hcap1 := hC.cap
  have l3 := hC.le1; have l4 := hC.le2
  have l5 := RdI.le1 hR; have l6 := RdI.le2 hR
  unfold maxLen at hm1
  have H1 := ((Owns.nil w).box [.slice D m d, .slice D' m' d'] 29).box [.slice none 0 0, .slice none 0 0] 29
  simp only [World.size_alloc] at H1
  go_enter Try.func49, Try.ntmps49
  go_wp2_with fail
  generalize (w.alloc (.cells #[.slice D m d, .slice D' m' d'] 29)).alloc (.cells #[.slice none 0 0, .slice none 0 0] 29) = w1 at *
  go_upto_region 1 with fail
  go_cut [3] (fun s3 wx => ∃ (g : Nat) (cv rv : Value), s3 = .pointer (some ⟨g, 0, none⟩) ∧ Owns w.heap.size w wx [.cells cv [] [], .box g [cv, rv] 29, .ints rv h.roots, .box (w.heap.size + 1) [.slice none 0 0, .slice none 0 0] 29, .box w.heap.size [.slice D m d, .slice D' m' d'] 29])
  case first =>
    have HX := H1.drew
    obtain ⟨b0, b1, -, -⟩ := HX.box2 1 rfl
    refine wp_region_tree (fun w' => w'.cell? ⟨w.heap.size, 0, none⟩ = some (.slice D m d) ∧ w'.cell? ⟨w.heap.size, 1, none⟩ = some (.slice D' m' d')) 10 [] (.take 0 (.take 1 (.take 2 (.take 3 (.take 5 (.take 6 (.alt 4 (.alt 7 (.take 8 (.alt 9 (.alt 10 (.done) (.stop)) (.stop))) (.alt 9 (.alt 7 (.take 8 (.alt 10 (.done) (.stop))) (.stop)) (.stop))) (.alt 7 (.alt 4 (.take 8 (.alt 9 (.alt 10 (.done) (.stop)) (.stop))) (.alt 9 (.alt 4 (.take 8 (.alt 10 (.done) (.stop))) (.stop)) (.stop))) (.alt 9 (.alt 4 (.alt 7 (.take 8 (.alt 10 (.done) (.stop))) (.stop)) (.alt 7 (.alt 4 (.take 8 (.alt 10 (.done) (.stop))) (.stop)) (.stop))) (.stop)))))))))) (by kernel_rfl) (by kernel_rfl) (by kernel_rfl) (⟨b0, b1⟩) ?_
    simp only [fillT, List.getElem?_cons_zero, List.getElem?_cons_succ, Nat.reduceBEq]
    repeat (first
      | (with_reducible refine po_take (v := ?_) ?_ (fun w' hS' => ?_) ?_
         rotate_left
         · (go_simp; done)
         · ((try dsimp only at hS'); go_simp; try with_reducible rfl)
         simp only [Act.put, List.setIfInBounds_toArray, List.set_cons_zero, List.set_cons_succ])
      | (with_reducible refine po_skip ?_ ?_
         · (go_simp; done)
         simp only [Act.put, List.setIfInBounds_toArray, List.set_cons_zero, List.set_cons_succ]))
    with_reducible refine po_run ?_ (fun K hK => ?_) ?_
    · (go_simp; done)
    · -- operation 4 first
      go_simp
      refine upon_makeC HX .i64 .i64 _ (m + 1) (by rw [IntKind.wrap_i64]; omega) (by omega) ?_
      intro q4 w2 HX hb
      replace b0 := keept b0 hb
      replace b1 := keept b1 hb
      refine hK.out _ _ (.inr (⟨b0, b1⟩)) ?_
      clear hK K
      with_reducible refine po_run ?_ (fun K hK => ?_) ?_
      · (go_simp; done)
      · -- operation 7 first
        go_simp
        refine (clone_any _ _ _ _ _ h.roots (hR.below HX.below) (by omega)).mono ?_
        rintro e w3 ⟨v3, rfl, ho, hb⟩
        obtain ⟨A3, k3, rfl, -⟩ := ho.form
        replace HX := HX.madeI ho hb
        replace b0 := keept b0 hb
        replace b1 := keept b1 hb
        refine hK.out _ _ (.inr (⟨b0, b1⟩)) ?_
        clear hK K
        repeat (first
          | (with_reducible refine po_take (v := ?_) ?_ (fun w' hS' => ?_) ?_
             rotate_left
             · (go_simp; done)
             · ((try dsimp only at hS'); go_simp; try with_reducible rfl)
             simp only [Act.put, List.setIfInBounds_toArray, List.set_cons_zero, List.set_cons_succ])
          | (with_reducible refine po_skip ?_ ?_
             · (go_simp; done)
             simp only [Act.put, List.setIfInBounds_toArray, List.set_cons_zero, List.set_cons_succ]))
        with_reducible refine po_run ?_ (fun K hK => ?_) ?_
        · (go_simp; done)
        rotate_left
        · exact po_stop
        go_simp
        have HY := HX
        replace HX := HX.box [.slice none 0 0, .slice none 0 0] 29
        try simp only [drew_size] at HX
        replace b0 := keept b0 (below_alloc _ (.cells #[.slice none 0 0, .slice none 0 0] 29))
        replace b1 := keept b1 (below_alloc _ (.cells #[.slice none 0 0, .slice none 0 0] 29))
        refine hK.out _ _ (.inr (⟨b0, b1⟩)) ?_
        clear hK K
        with_reducible refine po_run ?_ (fun K hK => ?_) ?_
        · (go_simp; done)
        rotate_left
        · exact po_stop
        have HYb := HY.box [.slice (some ⟨q4, 0, none⟩) 0 (m + 1), .slice A3 h.roots.length k3] 29
        have HZ := HYb.places [0, 2, 1, 3, 4] (by decide) (by simp); simp only [List.filterMap_cons, List.filterMap_nil, List.getElem?_cons_zero, List.getElem?_cons_succ] at HZ
        replace HZ := HZ.swap
        go_simp
        refine hK.out _ _ (.inl rfl) ?_
        clear hK K
        refine po_done ?_
        go_wp2_with fail
        go_meet
        exact ⟨_, _, _, rfl, HZ⟩
      with_reducible refine po_run ?_ (fun K hK => ?_) ?_
      · (go_simp; done)
      rotate_left
      · exact po_stop
      go_simp
      have HY := HX
      replace HX := HX.box [.slice none 0 0, .slice none 0 0] 29
      try simp only [drew_size] at HX
      replace b0 := keept b0 (below_alloc _ (.cells #[.slice none 0 0, .slice none 0 0] 29))
      replace b1 := keept b1 (below_alloc _ (.cells #[.slice none 0 0, .slice none 0 0] 29))
      refine hK.out _ _ (.inr (⟨b0, b1⟩)) ?_
      clear hK K
      with_reducible refine po_run ?_ (fun K hK => ?_) ?_
      · (go_simp; done)
      rotate_left
      · exact po_stop
      go_simp
      refine (clone_any _ _ _ _ _ h.roots (hR.below HX.below) (by omega)).mono ?_
      rintro e w3 ⟨v3, rfl, ho, hb⟩
      obtain ⟨A3, k3, rfl, -⟩ := ho.form
      replace HX := HX.madeI ho hb
      replace b0 := keept b0 hb
      replace b1 := keept b1 hb
      refine hK.out _ _ (.inr (⟨b0, b1⟩)) ?_
      clear hK K
      repeat (first
        | (with_reducible refine po_take (v := ?_) ?_ (fun w' hS' => ?_) ?_
           rotate_left
           · (go_simp; done)
           · ((try dsimp only at hS'); go_simp; try with_reducible rfl)
           simp only [Act.put, List.setIfInBounds_toArray, List.set_cons_zero, List.set_cons_succ])
        | (with_reducible refine po_skip ?_ ?_
           · (go_simp; done)
           simp only [Act.put, List.setIfInBounds_toArray, List.set_cons_zero, List.set_cons_succ]))
      with_reducible refine po_run ?_ (fun K hK => ?_) ?_
      · (go_simp; done)
      rotate_left
      · exact po_stop
      have HZ := HX.places [1, 2, 0, 3, 4] (by decide) (by simp); simp only [List.filterMap_cons, List.filterMap_nil, List.getElem?_cons_zero, List.getElem?_cons_succ] at HZ
      obtain ⟨x0, x1, xf, yf⟩ := HZ.box2 0 rfl
      replace HZ := (HZ.putBox 0 rfl 0 (.slice (some ⟨q4, 0, none⟩) 0 (m + 1))).putBox 0 rfl 1 (.slice A3 h.roots.length k3)
      replace HZ := HZ.swap
      go_simp
      refine hK.out _ _ (.inl rfl) ?_
      clear hK K
      refine po_done ?_
      go_wp2_with fail
      go_meet
      exact ⟨_, _, _, rfl, HZ⟩
    with_reducible refine po_run ?_ (fun K hK => ?_) ?_
    · (go_simp; done)
    · -- operation 7 first
      go_simp
      refine (clone_any _ _ _ _ _ h.roots (hR.below HX.below) (by omega)).mono ?_
      rintro e w3 ⟨v3, rfl, ho, hb⟩
      obtain ⟨A3, k3, rfl, -⟩ := ho.form
      replace HX := HX.madeI ho hb
      replace b0 := keept b0 hb
      replace b1 := keept b1 hb
      refine hK.out _ _ (.inr (⟨b0, b1⟩)) ?_
      clear hK K
      with_reducible refine po_run ?_ (fun K hK => ?_) ?_
      · (go_simp; done)
      · -- operation 4 first
        go_simp
        refine upon_makeC HX .i64 .i64 _ (m + 1) (by rw [IntKind.wrap_i64]; omega) (by omega) ?_
        intro q4 w2 HX hb
        replace b0 := keept b0 hb
        replace b1 := keept b1 hb
        refine hK.out _ _ (.inr (⟨b0, b1⟩)) ?_
        clear hK K
        repeat (first
          | (with_reducible refine po_take (v := ?_) ?_ (fun w' hS' => ?_) ?_
             rotate_left
             · (go_simp; done)
             · ((try dsimp only at hS'); go_simp; try with_reducible rfl)
             simp only [Act.put, List.setIfInBounds_toArray, List.set_cons_zero, List.set_cons_succ])
          | (with_reducible refine po_skip ?_ ?_
             · (go_simp; done)
             simp only [Act.put, List.setIfInBounds_toArray, List.set_cons_zero, List.set_cons_succ]))
        with_reducible refine po_run ?_ (fun K hK => ?_) ?_
        · (go_simp; done)
        rotate_left
        · exact po_stop
        go_simp
        have HY := HX
        replace HX := HX.box [.slice none 0 0, .slice none 0 0] 29
        try simp only [drew_size] at HX
        replace b0 := keept b0 (below_alloc _ (.cells #[.slice none 0 0, .slice none 0 0] 29))
        replace b1 := keept b1 (below_alloc _ (.cells #[.slice none 0 0, .slice none 0 0] 29))
        refine hK.out _ _ (.inr (⟨b0, b1⟩)) ?_
        clear hK K
        with_reducible refine po_run ?_ (fun K hK => ?_) ?_
        · (go_simp; done)
        rotate_left
        · exact po_stop
        have HYb := HY.box [.slice (some ⟨q4, 0, none⟩) 0 (m + 1), .slice A3 h.roots.length k3] 29
        have HZ := HYb.places [0, 1, 2, 3, 4] (by decide) (by simp); simp only [List.filterMap_cons, List.filterMap_nil, List.getElem?_cons_zero, List.getElem?_cons_succ] at HZ
        replace HZ := HZ.swap
        go_simp
        refine hK.out _ _ (.inl rfl) ?_
        clear hK K
        refine po_done ?_
        go_wp2_with fail
        go_meet
        exact ⟨_, _, _, rfl, HZ⟩
      with_reducible refine po_run ?_ (fun K hK => ?_) ?_
      · (go_simp; done)
      rotate_left
      · exact po_stop
      go_simp
      have HY := HX
      replace HX := HX.box [.slice none 0 0, .slice none 0 0] 29
      try simp only [drew_size] at HX
      replace b0 := keept b0 (below_alloc _ (.cells #[.slice none 0 0, .slice none 0 0] 29))
      replace b1 := keept b1 (below_alloc _ (.cells #[.slice none 0 0, .slice none 0 0] 29))
      refine hK.out _ _ (.inr (⟨b0, b1⟩)) ?_
      clear hK K
      with_reducible refine po_run ?_ (fun K hK => ?_) ?_
      · (go_simp; done)
      rotate_left
      · exact po_stop
      go_simp
      refine upon_makeC HX .i64 .i64 _ (m + 1) (by rw [IntKind.wrap_i64]; omega) (by omega) ?_
      intro q4 w2 HX hb
      replace b0 := keept b0 hb
      replace b1 := keept b1 hb
      refine hK.out _ _ (.inr (⟨b0, b1⟩)) ?_
      clear hK K
      repeat (first
        | (with_reducible refine po_take (v := ?_) ?_ (fun w' hS' => ?_) ?_
           rotate_left
           · (go_simp; done)
           · ((try dsimp only at hS'); go_simp; try with_reducible rfl)
           simp only [Act.put, List.setIfInBounds_toArray, List.set_cons_zero, List.set_cons_succ])
        | (with_reducible refine po_skip ?_ ?_
           · (go_simp; done)
           simp only [Act.put, List.setIfInBounds_toArray, List.set_cons_zero, List.set_cons_succ]))
      with_reducible refine po_run ?_ (fun K hK => ?_) ?_
      · (go_simp; done)
      rotate_left
      · exact po_stop
      have HZ := HX.places [1, 0, 2, 3, 4] (by decide) (by simp); simp only [List.filterMap_cons, List.filterMap_nil, List.getElem?_cons_zero, List.getElem?_cons_succ] at HZ
      obtain ⟨x0, x1, xf, yf⟩ := HZ.box2 0 rfl
      replace HZ := (HZ.putBox 0 rfl 0 (.slice (some ⟨q4, 0, none⟩) 0 (m + 1))).putBox 0 rfl 1 (.slice A3 h.roots.length k3)
      replace HZ := HZ.swap
      go_simp
      refine hK.out _ _ (.inl rfl) ?_
      clear hK K
      refine po_done ?_
      go_wp2_with fail
      go_meet
      exact ⟨_, _, _, rfl, HZ⟩
    with_reducible refine po_run ?_ (fun K hK => ?_) ?_
    · (go_simp; done)
    rotate_left
    · exact po_stop
    go_simp
    have HY := HX
    replace HX := HX.box [.slice none 0 0, .slice none 0 0] 29
    try simp only [drew_size] at HX
    replace b0 := keept b0 (below_alloc _ (.cells #[.slice none 0 0, .slice none 0 0] 29))
    replace b1 := keept b1 (below_alloc _ (.cells #[.slice none 0 0, .slice none 0 0] 29))
    refine hK.out _ _ (.inr (⟨b0, b1⟩)) ?_
    clear hK K
    with_reducible refine po_run ?_ (fun K hK => ?_) ?_
    · (go_simp; done)
    · -- operation 4 first
      go_simp
      refine upon_makeC HX .i64 .i64 _ (m + 1) (by rw [IntKind.wrap_i64]; omega) (by omega) ?_
      intro q4 w2 HX hb
      replace b0 := keept b0 hb
      replace b1 := keept b1 hb
      refine hK.out _ _ (.inr (⟨b0, b1⟩)) ?_
      clear hK K
      with_reducible refine po_run ?_ (fun K hK => ?_) ?_
      · (go_simp; done)
      rotate_left
      · exact po_stop
      go_simp
      refine (clone_any _ _ _ _ _ h.roots (hR.below HX.below) (by omega)).mono ?_
      rintro e w3 ⟨v3, rfl, ho, hb⟩
      obtain ⟨A3, k3, rfl, -⟩ := ho.form
      replace HX := HX.madeI ho hb
      replace b0 := keept b0 hb
      replace b1 := keept b1 hb
      refine hK.out _ _ (.inr (⟨b0, b1⟩)) ?_
      clear hK K
      repeat (first
        | (with_reducible refine po_take (v := ?_) ?_ (fun w' hS' => ?_) ?_
           rotate_left
           · (go_simp; done)
           · ((try dsimp only at hS'); go_simp; try with_reducible rfl)
           simp only [Act.put, List.setIfInBounds_toArray, List.set_cons_zero, List.set_cons_succ])
        | (with_reducible refine po_skip ?_ ?_
           · (go_simp; done)
           simp only [Act.put, List.setIfInBounds_toArray, List.set_cons_zero, List.set_cons_succ]))
      with_reducible refine po_run ?_ (fun K hK => ?_) ?_
      · (go_simp; done)
      rotate_left
      · exact po_stop
      have HZ := HX.places [2, 1, 0, 3, 4] (by decide) (by simp); simp only [List.filterMap_cons, List.filterMap_nil, List.getElem?_cons_zero, List.getElem?_cons_succ] at HZ
      obtain ⟨x0, x1, xf, yf⟩ := HZ.box2 0 rfl
      replace HZ := (HZ.putBox 0 rfl 0 (.slice (some ⟨q4, 0, none⟩) 0 (m + 1))).putBox 0 rfl 1 (.slice A3 h.roots.length k3)
      replace HZ := HZ.swap
      go_simp
      refine hK.out _ _ (.inl rfl) ?_
      clear hK K
      refine po_done ?_
      go_wp2_with fail
      go_meet
      exact ⟨_, _, _, rfl, HZ⟩
    with_reducible refine po_run ?_ (fun K hK => ?_) ?_
    · (go_simp; done)
    rotate_left
    · exact po_stop
    go_simp
    refine (clone_any _ _ _ _ _ h.roots (hR.below HX.below) (by omega)).mono ?_
    rintro e w3 ⟨v3, rfl, ho, hb⟩
    obtain ⟨A3, k3, rfl, -⟩ := ho.form
    replace HX := HX.madeI ho hb
    replace b0 := keept b0 hb
    replace b1 := keept b1 hb
    refine hK.out _ _ (.inr (⟨b0, b1⟩)) ?_
    clear hK K
    with_reducible refine po_run ?_ (fun K hK => ?_) ?_
    · (go_simp; done)
    rotate_left
    · exact po_stop
    go_simp
    refine upon_makeC HX .i64 .i64 _ (m + 1) (by rw [IntKind.wrap_i64]; omega) (by omega) ?_
    intro q4 w2 HX hb
    replace b0 := keept b0 hb
    replace b1 := keept b1 hb
    refine hK.out _ _ (.inr (⟨b0, b1⟩)) ?_
    clear hK K
    repeat (first
      | (with_reducible refine po_take (v := ?_) ?_ (fun w' hS' => ?_) ?_
         rotate_left
         · (go_simp; done)
         · ((try dsimp only at hS'); go_simp; try with_reducible rfl)
         simp only [Act.put, List.setIfInBounds_toArray, List.set_cons_zero, List.set_cons_succ])
      | (with_reducible refine po_skip ?_ ?_
         · (go_simp; done)
         simp only [Act.put, List.setIfInBounds_toArray, List.set_cons_zero, List.set_cons_succ]))
    with_reducible refine po_run ?_ (fun K hK => ?_) ?_
    · (go_simp; done)
    rotate_left
    · exact po_stop
    have HZ := HX.places [2, 0, 1, 3, 4] (by decide) (by simp); simp only [List.filterMap_cons, List.filterMap_nil, List.getElem?_cons_zero, List.getElem?_cons_succ] at HZ
    obtain ⟨x0, x1, xf, yf⟩ := HZ.box2 0 rfl
    replace HZ := (HZ.putBox 0 rfl 0 (.slice (some ⟨q4, 0, none⟩) 0 (m + 1))).putBox 0 rfl 1 (.slice A3 h.roots.length k3)
    replace HZ := HZ.swap
    go_simp
    refine hK.out _ _ (.inl rfl) ?_
    clear hK K
    refine po_done ?_
    go_wp2_with fail
    go_meet
    exact ⟨_, _, _, rfl, HZ⟩
  case rest =>
    obtain ⟨bx, cv0, rv, rfl, H0⟩ := hcut
    obtain ⟨A3, k3, rfl, -⟩ := H0.formI 2 rfl
    obtain ⟨a0, a1, -, -⟩ := H0.box2 4 rfl
    clear H1
    go_wp2_with fail
    go_loopw [18] (fun i wr => ∃ (k : Nat) (cv : Value) (rvs : List Value), i = .int .i64 k ∧ k ≤ m ∧ Owns w.heap.size w wr [.cells cv rvs (h.cells.take k), .box bx [cv, .slice A3 h.roots.length k3] 29, .ints (.slice A3 h.roots.length k3) h.roots, .box (w.heap.size + 1) [.slice none 0 0, .slice none 0 0] 29, .box w.heap.size [.slice D m d, .slice D' m' d'] 29]) (fun i _ => m - (intOf i).toNat)
    case atStart => exact ⟨0, _, _, rfl, Nat.zero_le _, H0⟩
    case round =>
      clear H0 a0 a1
      obtain ⟨k, cv, rvs, rfl, hk, H⟩ := hrel
      by_cases hlt : k < m
      · obtain ⟨b, o, l, A2, n2, c2, rfl, hbb, hx, q1, q2, q3, hrf⟩ := hC.at_ hlt
        have g1 := H.ro q1 hbb
        have g2 := H.ro q2 hbb
        have g3 := H.ro q3 hbb
        have HX := (H.box [.bool l.used, .int .i64 l.data, .slice A2 n2 c2] 49).drew
        obtain ⟨x0, x1, xf, -⟩ := HX.box2 2 rfl
        obtain ⟨y0, y1, y2, -, -, -⟩ := HX.box3 0 rfl
        have hb3 := hn3 l (List.mem_of_getElem? hx.out)
        have r1 := RdI.le1 hrf; have r2 := RdI.le2 hrf
        clear q1 q2 q3
        go_wp2_with fail
        refine wp_region_tree (fun w' => w'.cell? ⟨bx, 0, none⟩ = some cv ∧ w'.cell? ⟨wr.heap.size, 0, none⟩ = some (.bool l.used) ∧ w'.cell? ⟨wr.heap.size, 1, none⟩ = some (.int .i64 l.data) ∧ w'.cell? ⟨wr.heap.size, 2, none⟩ = some (.slice A2 n2 c2)) 13 [] (.take 0 (.take 1 (.take 2 (.take 3 (.take 4 (.take 5 (.take 6 (.take 7 (.alt 8 (.take 9 (.alt 10 (.alt 11 (.take 12 (.alt 13 (.done) (.stop))) (.stop)) (.stop))) (.stop)))))))))) (by kernel_rfl) (by kernel_rfl) (by kernel_rfl) (⟨x0, y0, y1, y2⟩) ?_
        simp only [fillT, List.getElem?_cons_zero, List.getElem?_cons_succ, Nat.reduceBEq]
        repeat (first
          | (with_reducible refine po_take (v := ?_) ?_ (fun w' hS' => ?_) ?_
             rotate_left
             · (go_simp; done)
             · ((try dsimp only at hS'); go_simp; try with_reducible rfl)
             simp only [Act.put, List.setIfInBounds_toArray, List.set_cons_zero, List.set_cons_succ])
          | (with_reducible refine po_skip ?_ ?_
             · (go_simp; done)
             simp only [Act.put, List.setIfInBounds_toArray, List.set_cons_zero, List.set_cons_succ]))
        with_reducible refine po_run ?_ (fun K hK => ?_) ?_
        · (go_simp; done)
        rotate_left
        · exact po_stop
        go_simp
        refine (clone_any _ _ _ _ _ l.refs (hrf.below HX.below) (by omega)).mono ?_
        rintro e w3 ⟨v3, rfl, ho, hb⟩
        obtain ⟨A4, k4, rfl, -⟩ := ho.form
        replace HX := HX.madeI ho hb
        refine hK.out _ _ (.inr (⟨keept x0 hb, keept y0 hb, keept y1 hb, keept y2 hb⟩)) ?_
        clear hK K
        replace x0 := keept x0 hb
        replace y0 := keept y0 hb
        replace y1 := keept y1 hb
        replace y2 := keept y2 hb
        repeat (first
          | (with_reducible refine po_take (v := ?_) ?_ (fun w' hS' => ?_) ?_
             rotate_left
             · (go_simp; done)
             · ((try dsimp only at hS'); go_simp; try with_reducible rfl)
             simp only [Act.put, List.setIfInBounds_toArray, List.set_cons_zero, List.set_cons_succ])
          | (with_reducible refine po_skip ?_ ?_
             · (go_simp; done)
             simp only [Act.put, List.setIfInBounds_toArray, List.set_cons_zero, List.set_cons_succ]))
        with_reducible refine po_run ?_ (fun K hK => ?_) ?_
        · (go_simp; done)
        rotate_left
        · exact po_stop
        go_simp
        replace HX := HX.box [.bool l.used, .int .i64 l.data, .slice A4 l.refs.length k4] 49
        have hb := below_alloc w3 (.cells #[.bool l.used, .int .i64 l.data, .slice A4 l.refs.length k4] 49)
        refine hK.out _ _ (.inr (⟨keept x0 hb, keept y0 hb, keept y1 hb, keept y2 hb⟩)) ?_
        clear hK K
        with_reducible refine po_run ?_ (fun K hK => ?_) ?_
        · (go_simp; done)
        rotate_left
        · exact po_stop
        refine wp_pushCO (.tmp 23) (.tmp 32) rfl HX 3 1 rfl rfl rfl rfl rfl (HX.holds 0 _ rfl).2 (by simp; omega) ?_
        intro A5 e5 w5 HZ
        simp only [List.set_cons_zero, List.set_cons_succ, List.eraseIdx_cons_succ, List.eraseIdx_cons_zero] at HZ
        have hT : h.cells.take k ++ [l] = h.cells.take (k + 1) := (take_snoc' hx).symm
        have hL : (h.cells.take (k + 1)).length = k + 1 := by simp; omega
        rw [hT, hL] at HZ
        rw [hT, hL]
        clear hT hL
        obtain ⟨z0, z1, zf, -⟩ := HZ.box2 3 rfl
        obtain ⟨y0, y1, y2, -, -, -⟩ := HZ.box3 1 rfl
        refine hK.out _ _ (.inr (⟨z0, y0, y1, y2⟩)) ?_
        clear hK K
        repeat (first
          | (with_reducible refine po_take (v := ?_) ?_ (fun w' hS' => ?_) ?_
             rotate_left
             · (go_simp; done)
             · ((try dsimp only at hS'); go_simp; try with_reducible rfl)
             simp only [Act.put, List.setIfInBounds_toArray, List.set_cons_zero, List.set_cons_succ])
          | (with_reducible refine po_skip ?_ ?_
             · (go_simp; done)
             simp only [Act.put, List.setIfInBounds_toArray, List.set_cons_zero, List.set_cons_succ]))
        with_reducible refine po_run ?_ (fun K hK => ?_) ?_
        · (go_simp; done)
        rotate_left
        · exact po_stop
        replace HZ := (HZ.putBox 3 rfl 0 (.slice A5 (k + 1) e5)).drop 2
        simp only [List.set_cons_zero, List.set_cons_succ, List.drop_succ_cons, List.drop_zero] at HZ
        have HS := Go.Lib.hid HZ
        clear HZ HX H
        go_simp
        refine hK.out _ _ (.inl rfl) ?_
        clear hK K
        refine po_done ?_
        clear x0 x1 xf y0 y1 y2 z0 z1 zf g1 g2 g3
        go_wp2
        go_roundw
        case rel => exact ⟨k + 1, _, _, by go_num, by omega, HS.out⟩
        case measure => simp [intOf]; omega
      · rw [List.take_of_length_le (by omega)] at H
        obtain ⟨C1, e1, rfl, -⟩ := H.formC 0 rfl
        obtain ⟨x0, x1, -, -⟩ := H.box2 1 rfl
        obtain ⟨y0, y1, y2, y3⟩ := H.box2 3 rfl
        have R := (H.putBox 3 rfl 0 (.slice C1 h.cells.length e1)).putBox 3 rfl 1 (.slice A3 h.roots.length k3)
        have HR := Go.Lib.hid R
        clear R H
        go_wp2
        exact bodyPost_ret (v := .agg #[.slice C1 h.cells.length e1, .slice A3 h.roots.length k3]) (by simp [results, Try.results49, go_sem, y0, y1]) rfl (HR.out.toH 0 2 rfl rfl)
end Go.Proofs.Ytdkpfggfkhnjfaa
