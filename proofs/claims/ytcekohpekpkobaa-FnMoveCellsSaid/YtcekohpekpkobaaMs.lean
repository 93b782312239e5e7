/- MoveCells, the reference's: for every table that can be read. -/
import Derived.Test.YtcekohpekpkobaaMc
import Derived.Test.YtcekohpekpkobaaCpS
import Derived.Deep.DeepCutAuto
namespace Go.Proofs.Ytcekohpekpkobaa
open Go.RowKit
set_option maxHeartbeats 6400000 in
set_option maxRecDepth 20000 in
theorem specMoveCells_any (w : World) (B : Nat) (v : Value) (t : Tbl) (a b : Int) (hh : RdT w B v t) (hn : t.store.cells.length ≤ 1048576) (hn2 : t.store.roots.length ≤ 1048576) (hn3 : ∀ c ∈ t.store.cells, c.refs.length ≤ 1048576) (hn4 : t.hands.length ≤ 1048576) :
    Calls Try.prog 9 #[v, .int .i64 a, .int .i64 b] w (MadeTp w (mMove t a b)) := by
  have hh' := hh.top
  obtain ⟨D, m, d, D', m', d', E, q, f, rfl, hC, hR, hE⟩ := hh.top
  obtain rfl : q = t.hands.length := by have := RdI.le1 hE; have := RdI.le2 hE; omega
  obtain rfl := hC.len
  have HN3 := Go.Lib.hid hn3
  clear hn3
  have hst : RdH w w.heap.size (.agg #[.slice D t.store.cells.length d, .slice D' m' d']) t.store := ⟨_, _, _, _, _, _, rfl, hC, hR⟩
  have H := ((Owns.nil w).box [.slice D t.store.cells.length d, .slice D' m' d', .slice E t.hands.length f] 28).box [.slice none 0 0, .slice none 0 0, .slice none 0 0] 28
  simp only [World.size_alloc] at H
  obtain ⟨a0, a1, a2, -, -, -⟩ := H.box3 1 rfl
  go_enter Try.func9, Try.ntmps9
  go_wp2_with fail
  refine (specTableValid_any _ _ _ t (hh'.below H.below) hn hn2 HN3.out hn4).mono ?_
  rintro e w1 ⟨rfl, hb⟩
  replace H := H.call hb
  clear hb a0 a1 a2
  obtain ⟨a0, a1, a2, -, -, -⟩ := H.box3 1 rfl
  obtain ⟨y0, y1, y2, y3, y4, y5⟩ := H.box3 0 rfl
  cases hv : mTableValid t
  · have HF : Hid (mMove t a b = ⟨⟨[], []⟩, []⟩) := Go.Lib.hid (by unfold mMove; rw [if_neg]; simp [mMoveOk, hv])
    have HZ := (((((H.putBox 0 rfl 0 (.slice none 0 0)).putBox 0 rfl 1 (.slice none 0 0)).putBox 0 rfl 2 (.slice none 0 0)).noInts).noInts).noCells
    simp only [List.set_cons_zero, List.set_cons_succ] at HZ
    obtain ⟨z0, z1, z2, -, -, -⟩ := HZ.box3 3 rfl
    have HS : Hid (MadeTp w (mMove t a b) (.returned (.agg #[.slice none 0 0, .slice none 0 0, .slice none 0 0])) _) := Go.Lib.hid (by rw [HF.out]; exact ⟨_, [], _, _, rfl, HZ.take 3⟩)
    clear H HZ hv
    go_wp2
    exact bodyPost_ret (v := .agg #[.slice none 0 0, .slice none 0 0, .slice none 0 0]) (by simp [results, Try.results9, go_sem, z0, z1, z2]) rfl HS.out
  have hlen : t.hands.length = t.store.cells.length := by
    simp only [mTableValid, Bool.and_eq_true, decide_eq_true_eq] at hv
    exact hv.1.1.1
  by_cases c1 : a < 0 ∨ (t.store.cells.length : Int) - 1 < a
  · have HF : Hid (mMove t a b = ⟨⟨[], []⟩, []⟩) := Go.Lib.hid (by unfold mMove; rw [if_neg]; simp [mMoveOk]; omega)
    have HZ := (((((H.putBox 0 rfl 0 (.slice none 0 0)).putBox 0 rfl 1 (.slice none 0 0)).putBox 0 rfl 2 (.slice none 0 0)).noInts).noInts).noCells
    simp only [List.set_cons_zero, List.set_cons_succ] at HZ
    obtain ⟨z0, z1, z2, -, -, -⟩ := HZ.box3 3 rfl
    have HS : Hid (MadeTp w (mMove t a b) (.returned (.agg #[.slice none 0 0, .slice none 0 0, .slice none 0 0])) _) := Go.Lib.hid (by rw [HF.out]; exact ⟨_, [], _, _, rfl, HZ.take 3⟩)
    clear H HZ hv hlen
    go_wp2_with fail
    refine (l1In_no _ _ _ _ c1).mono ?_
    rintro e w' ⟨rfl, hw⟩
    obtain rfl := hw.symm
    go_wp2
    exact bodyPost_ret (v := .agg #[.slice none 0 0, .slice none 0 0, .slice none 0 0]) (by simp [results, Try.results9, go_sem, z0, z1, z2]) rfl HS.out
  by_cases c2 : b < 0 ∨ (t.store.cells.length : Int) - 1 < b
  · have HF : Hid (mMove t a b = ⟨⟨[], []⟩, []⟩) := Go.Lib.hid (by unfold mMove; rw [if_neg]; simp [mMoveOk]; omega)
    have HZ := (((((H.putBox 0 rfl 0 (.slice none 0 0)).putBox 0 rfl 1 (.slice none 0 0)).putBox 0 rfl 2 (.slice none 0 0)).noInts).noInts).noCells
    simp only [List.set_cons_zero, List.set_cons_succ] at HZ
    obtain ⟨z0, z1, z2, -, -, -⟩ := HZ.box3 3 rfl
    have HS : Hid (MadeTp w (mMove t a b) (.returned (.agg #[.slice none 0 0, .slice none 0 0, .slice none 0 0])) _) := Go.Lib.hid (by rw [HF.out]; exact ⟨_, [], _, _, rfl, HZ.take 3⟩)
    clear H HZ hv hlen
    go_wp2_with fail
    refine (l1In_yes _ _ _ _ (by omega) (by omega)).mono ?_
    rintro e w' ⟨rfl, hw⟩
    obtain rfl := hw.symm
    go_wp2_with fail
    refine (l1In_no _ _ _ _ c2).mono ?_
    rintro e w' ⟨rfl, hw⟩
    obtain rfl := hw.symm
    go_wp2
    exact bodyPost_ret (v := .agg #[.slice none 0 0, .slice none 0 0, .slice none 0 0]) (by simp [results, Try.results9, go_sem, z0, z1, z2]) rfl HS.out
  obtain ⟨an, rfl⟩ := Int.eq_ofNat_of_zero_le (show 0 ≤ a by omega)
  obtain ⟨bn, rfl⟩ := Int.eq_ofNat_of_zero_le (show 0 ≤ b by omega)
  have HF : Hid (mMove t an bn = mMoved t an bn) := Go.Lib.hid (by
    unfold mMove; rw [if_pos]; rfl
    simp [mMoveOk, hv]; omega)
  have hal : an < t.store.cells.length := by omega
  have hbl : bn < t.store.cells.length := by omega
  have HL := Go.Lib.hid hlen
  clear hv hlen
  go_wp2_with fail
  refine (l1In_yes _ _ _ _ (by omega) (by omega)).mono ?_
  rintro e w' ⟨rfl, hw⟩
  obtain rfl := hw.symm
  go_wp2_with fail
  refine (l1In_yes _ _ _ _ (by omega) (by omega)).mono ?_
  rintro e w' ⟨rfl, hw⟩
  obtain rfl := hw.symm
  clear c1 c2
  go_upto_region 4 with fail
  go_cut [8] (fun s8 wx => ∃ (g : Nat) (C R V : Option Addr) (kC kR kV : Nat) (rvs : List Value), s8 = .pointer (some ⟨g, 0, none⟩) ∧ Owns w.heap.size w wx [.box g [.slice C t.store.cells.length kC, .slice R t.store.roots.length kR, .slice V t.hands.length kV] 28, .cells (.slice C t.store.cells.length kC) rvs t.store.cells, .ints (.slice R t.store.roots.length kR) t.store.roots, .ints (.slice V t.hands.length kV) t.hands, .box (w.heap.size + 1) [.slice none 0 0, .slice none 0 0, .slice none 0 0] 28, .box w.heap.size [.slice D t.store.cells.length d, .slice D' m' d', .slice E t.hands.length f] 28])
  case first =>
    have HX := H.drew
    have H0 := Go.Lib.hid H
    clear H a0 a1 a2 y0 y1 y2 y3 y4 y5
    obtain ⟨a0, a1, a2, -, -, -⟩ := HX.box3 1 rfl
    refine wp_region_tree (fun w' => w'.cell? ⟨w.heap.size, 0, none⟩ = some (.slice D t.store.cells.length d) ∧ w'.cell? ⟨w.heap.size, 1, none⟩ = some (.slice D' m' d') ∧ w'.cell? ⟨w.heap.size, 2, none⟩ = some (.slice E t.hands.length f)) 9 [] (.take 0 (.take 1 (.take 4 (.take 5 (.alt 2 (.alt 3 (.alt 6 (.take 7 (.alt 8 (.alt 9 (.done) (.stop)) (.stop))) (.alt 8 (.alt 6 (.take 7 (.alt 9 (.done) (.stop))) (.stop)) (.stop))) (.alt 8 (.alt 3 (.alt 6 (.take 7 (.alt 9 (.done) (.stop))) (.stop)) (.stop)) (.stop))) (.alt 3 (.alt 2 (.alt 6 (.take 7 (.alt 8 (.alt 9 (.done) (.stop)) (.stop))) (.alt 8 (.alt 6 (.take 7 (.alt 9 (.done) (.stop))) (.stop)) (.stop))) (.alt 8 (.alt 2 (.alt 6 (.take 7 (.alt 9 (.done) (.stop))) (.stop)) (.stop)) (.stop))) (.alt 8 (.alt 2 (.alt 3 (.alt 6 (.take 7 (.alt 9 (.done) (.stop))) (.stop)) (.stop)) (.alt 3 (.alt 2 (.alt 6 (.take 7 (.alt 9 (.done) (.stop))) (.stop)) (.stop)) (.stop))) (.stop)))))))) (by kernel_rfl) (by kernel_rfl) (by kernel_rfl) (⟨a0, a1, a2⟩) ?_
    simp only [fillT, List.getElem?_cons_zero, List.getElem?_cons_succ, Nat.reduceBEq]
    repeat (first
      | (with_reducible refine po_take (v := ?_) ?_ (fun w' hS' => ?_) ?_
         rotate_left
         · (go_simp; done)
         · ((try dsimp only at hS'); go_simp; try with_reducible rfl)
         simp only [Act.put, List.setIfInBounds_toArray, List.set_cons_zero, List.set_cons_succ])
      | (with_reducible refine po_skip ?_ ?_
         · (go_simp; done)
         simp only [Act.put, List.setIfInBounds_toArray, List.set_cons_zero, List.set_cons_succ]))
    with_reducible refine po_run ?_ (fun K hK => ?_) ?_
    · (go_simp; done)
    · -- operation 2 first
      try (revert a0 a1 a2 HX; generalize World.drew _ = wd; intro HX a0 a1 a2)
      go_simp
      refine (l7Copy_any _ _ _ t.store (hst.below HX.below) hn hn2 HN3.out).mono ?_
      rintro e w2 ⟨v1, rfl, ho, hb⟩
      obtain ⟨cv, rvs, rv, rfl, K⟩ := HX.madeH ho hb
      obtain ⟨C, kC, rfl, -⟩ := K.formC 0 rfl
      obtain ⟨R, kR, rfl, -⟩ := K.formI 1 rfl
      clear HX ho hb
      have HX := K
      clear K
      clear a0 a1 a2
      obtain ⟨a0, a1, a2, -, -, -⟩ := HX.box3 (3 + 0) rfl
      refine hK.out _ _ (.inr (⟨a0, a1, a2⟩)) ?_
      clear hK K
      with_reducible refine po_run ?_ (fun K hK => ?_) ?_
      · (go_simp; done)
      · -- operation 3 first
        try (revert a0 a1 a2 HX; generalize World.drew _ = wd; intro HX a0 a1 a2)
        go_simp
        replace HX := HX.litI [] zero_le_maxLen
        try simp only [List.map_nil, List.length_nil] at HX
        clear a0 a1 a2
        obtain ⟨a0, a1, a2, -, -, -⟩ := HX.box3 (2 + 2 * 1 + 0) rfl
        refine hK.out _ _ (.inr (⟨a0, a1, a2⟩)) ?_
        clear hK K
        revert a0 a1 a2 HX
        generalize World.alloc _ _ = wz
        intro HX a0 a1 a2
        with_reducible refine po_run ?_ (fun K hK => ?_) ?_
        · (go_simp; done)
        · -- operation 6 first
          refine wp_pushO (.tmp 35) (.tmp 37) rfl HX (2 * 0 + 0) rfl rfl rfl (hE.below HX.below) (by simp; omega) ?_
          intro V kV w5 HY
          simp only [List.nil_append] at HY
          simp only [List.nil_append]
          replace HX := HY
          clear HY
          clear a0 a1 a2
          obtain ⟨a0, a1, a2, -, -, -⟩ := HX.box3 (2 + 2 * 1 + 0) rfl
          refine hK.out _ _ (.inr (⟨a0, a1, a2⟩)) ?_
          clear hK K
          repeat (first
            | (with_reducible refine po_take (v := ?_) ?_ (fun w' hS' => ?_) ?_
               rotate_left
               · (go_simp; done)
               · ((try dsimp only at hS'); go_simp; try with_reducible rfl)
               simp only [Act.put, List.setIfInBounds_toArray, List.set_cons_zero, List.set_cons_succ])
            | (with_reducible refine po_skip ?_ ?_
               · (go_simp; done)
               simp only [Act.put, List.setIfInBounds_toArray, List.set_cons_zero, List.set_cons_succ]))
          with_reducible refine po_run ?_ (fun K hK => ?_) ?_
          · (go_simp; done)
          rotate_left
          · exact po_stop
          try (revert a0 a1 a2 HX; generalize World.drew _ = wd; intro HX a0 a1 a2)
          go_simp
          replace HX := HX.box [.slice none 0 0, .slice none 0 0, .slice none 0 0] 28
          try simp only [World.size_alloc, drew_size, List.map_cons, List.map_nil, List.length_cons, List.length_nil, Nat.zero_add, Nat.reduceAdd] at HX
          clear a0 a1 a2
          obtain ⟨a0, a1, a2, -, -, -⟩ := HX.box3 (2 + 2 * 1 + 1) rfl
          refine hK.out _ _ (.inr (⟨a0, a1, a2⟩)) ?_
          clear hK K
          revert a0 a1 a2 HX
          generalize World.alloc _ _ = wz
          intro HX a0 a1 a2
          with_reducible refine po_run ?_ (fun K hK => ?_) ?_
          · (go_simp; done)
          rotate_left
          · exact po_stop
          obtain ⟨y0, y1, y2, y3, y4, y5⟩ := HX.box3 (2 * 0 + 0) rfl
          go_simp
          have HQ := ((HX.putBox (2 * 0 + 0) rfl 0 (.slice C t.store.cells.length kC)).putBox (2 * 0 + 0) rfl 1 (.slice R t.store.roots.length kR)).putBox (2 * 0 + 0) rfl 2 (.slice V t.hands.length kV)
          clear HX y0 y1 y2 y3 y4 y5 a0 a1 a2
          refine hK.out _ _ (.inl rfl) ?_
          clear hK K
          refine po_done ?_
          clear H0
          go_wp2_with fail
          go_meet
          exact ⟨_, C, R, V, kC, kR, kV, rvs, rfl, HQ.order [2 * 0 + 0, 2, 2 + 1, 2 * 0 + 1, 4, 5] (by decide) rfl⟩
        with_reducible refine po_run ?_ (fun K hK => ?_) ?_
        · (go_simp; done)
        rotate_left
        · exact po_stop
        try (revert a0 a1 a2 HX; generalize World.drew _ = wd; intro HX a0 a1 a2)
        go_simp
        replace HX := HX.box [.slice none 0 0, .slice none 0 0, .slice none 0 0] 28
        try simp only [World.size_alloc, drew_size, List.map_cons, List.map_nil, List.length_cons, List.length_nil, Nat.zero_add, Nat.reduceAdd] at HX
        clear a0 a1 a2
        obtain ⟨a0, a1, a2, -, -, -⟩ := HX.box3 (2 + 2 * 1 + 1) rfl
        refine hK.out _ _ (.inr (⟨a0, a1, a2⟩)) ?_
        clear hK K
        revert a0 a1 a2 HX
        generalize World.alloc _ _ = wz
        intro HX a0 a1 a2
        with_reducible refine po_run ?_ (fun K hK => ?_) ?_
        · (go_simp; done)
        rotate_left
        · exact po_stop
        refine wp_pushO (.tmp 35) (.tmp 37) rfl HX (2 * 0 + 1) rfl rfl rfl (hE.below HX.below) (by simp; omega) ?_
        intro V kV w5 HY
        simp only [List.set_cons_succ, List.nil_append] at HY
        simp only [List.nil_append]
        replace HX := HY
        clear HY
        clear a0 a1 a2
        obtain ⟨a0, a1, a2, -, -, -⟩ := HX.box3 (2 + 2 * 1 + 1) rfl
        refine hK.out _ _ (.inr (⟨a0, a1, a2⟩)) ?_
        clear hK K
        repeat (first
          | (with_reducible refine po_take (v := ?_) ?_ (fun w' hS' => ?_) ?_
             rotate_left
             · (go_simp; done)
             · ((try dsimp only at hS'); go_simp; try with_reducible rfl)
             simp only [Act.put, List.setIfInBounds_toArray, List.set_cons_zero, List.set_cons_succ])
          | (with_reducible refine po_skip ?_ ?_
             · (go_simp; done)
             simp only [Act.put, List.setIfInBounds_toArray, List.set_cons_zero, List.set_cons_succ]))
        with_reducible refine po_run ?_ (fun K hK => ?_) ?_
        · (go_simp; done)
        rotate_left
        · exact po_stop
        obtain ⟨y0, y1, y2, y3, y4, y5⟩ := HX.box3 (2 * 0 + 0) rfl
        go_simp
        have HQ := ((HX.putBox (2 * 0 + 0) rfl 0 (.slice C t.store.cells.length kC)).putBox (2 * 0 + 0) rfl 1 (.slice R t.store.roots.length kR)).putBox (2 * 0 + 0) rfl 2 (.slice V t.hands.length kV)
        clear HX y0 y1 y2 y3 y4 y5 a0 a1 a2
        refine hK.out _ _ (.inl rfl) ?_
        clear hK K
        refine po_done ?_
        clear H0
        go_wp2_with fail
        go_meet
        exact ⟨_, C, R, V, kC, kR, kV, rvs, rfl, HQ.order [2 * 0 + 0, 2, 2 + 1, 2 * 0 + 1, 4, 5] (by decide) rfl⟩
      with_reducible refine po_run ?_ (fun K hK => ?_) ?_
      · (go_simp; done)
      rotate_left
      · exact po_stop
      try (revert a0 a1 a2 HX; generalize World.drew _ = wd; intro HX a0 a1 a2)
      go_simp
      replace HX := HX.box [.slice none 0 0, .slice none 0 0, .slice none 0 0] 28
      try simp only [World.size_alloc, drew_size, List.map_cons, List.map_nil, List.length_cons, List.length_nil, Nat.zero_add, Nat.reduceAdd] at HX
      clear a0 a1 a2
      obtain ⟨a0, a1, a2, -, -, -⟩ := HX.box3 (2 + 2 * 1 + 0) rfl
      refine hK.out _ _ (.inr (⟨a0, a1, a2⟩)) ?_
      clear hK K
      revert a0 a1 a2 HX
      generalize World.alloc _ _ = wz
      intro HX a0 a1 a2
      with_reducible refine po_run ?_ (fun K hK => ?_) ?_
      · (go_simp; done)
      rotate_left
      · exact po_stop
      try (revert a0 a1 a2 HX; generalize World.drew _ = wd; intro HX a0 a1 a2)
      go_simp
      replace HX := HX.litI [] zero_le_maxLen
      try simp only [List.map_nil, List.length_nil] at HX
      clear a0 a1 a2
      obtain ⟨a0, a1, a2, -, -, -⟩ := HX.box3 (2 + 2 * 1 + 1) rfl
      refine hK.out _ _ (.inr (⟨a0, a1, a2⟩)) ?_
      clear hK K
      revert a0 a1 a2 HX
      generalize World.alloc _ _ = wz
      intro HX a0 a1 a2
      with_reducible refine po_run ?_ (fun K hK => ?_) ?_
      · (go_simp; done)
      rotate_left
      · exact po_stop
      refine wp_pushO (.tmp 35) (.tmp 37) rfl HX (2 * 0 + 0) rfl rfl rfl (hE.below HX.below) (by simp; omega) ?_
      intro V kV w5 HY
      simp only [List.nil_append] at HY
      simp only [List.nil_append]
      replace HX := HY
      clear HY
      clear a0 a1 a2
      obtain ⟨a0, a1, a2, -, -, -⟩ := HX.box3 (2 + 2 * 1 + 1) rfl
      refine hK.out _ _ (.inr (⟨a0, a1, a2⟩)) ?_
      clear hK K
      repeat (first
        | (with_reducible refine po_take (v := ?_) ?_ (fun w' hS' => ?_) ?_
           rotate_left
           · (go_simp; done)
           · ((try dsimp only at hS'); go_simp; try with_reducible rfl)
           simp only [Act.put, List.setIfInBounds_toArray, List.set_cons_zero, List.set_cons_succ])
        | (with_reducible refine po_skip ?_ ?_
           · (go_simp; done)
           simp only [Act.put, List.setIfInBounds_toArray, List.set_cons_zero, List.set_cons_succ]))
      with_reducible refine po_run ?_ (fun K hK => ?_) ?_
      · (go_simp; done)
      rotate_left
      · exact po_stop
      obtain ⟨y0, y1, y2, y3, y4, y5⟩ := HX.box3 (2 * 0 + 1) rfl
      go_simp
      have HQ := ((HX.putBox (2 * 0 + 1) rfl 0 (.slice C t.store.cells.length kC)).putBox (2 * 0 + 1) rfl 1 (.slice R t.store.roots.length kR)).putBox (2 * 0 + 1) rfl 2 (.slice V t.hands.length kV)
      clear HX y0 y1 y2 y3 y4 y5 a0 a1 a2
      refine hK.out _ _ (.inl rfl) ?_
      clear hK K
      refine po_done ?_
      clear H0
      go_wp2_with fail
      go_meet
      exact ⟨_, C, R, V, kC, kR, kV, rvs, rfl, HQ.order [2 * 0 + 1, 2, 2 + 1, 2 * 0 + 0, 4, 5] (by decide) rfl⟩
    with_reducible refine po_run ?_ (fun K hK => ?_) ?_
    · (go_simp; done)
    · -- operation 3 first
      try (revert a0 a1 a2 HX; generalize World.drew _ = wd; intro HX a0 a1 a2)
      go_simp
      replace HX := HX.litI [] zero_le_maxLen
      try simp only [List.map_nil, List.length_nil] at HX
      clear a0 a1 a2
      obtain ⟨a0, a1, a2, -, -, -⟩ := HX.box3 (2 + 2 * 0 + 0) rfl
      refine hK.out _ _ (.inr (⟨a0, a1, a2⟩)) ?_
      clear hK K
      revert a0 a1 a2 HX
      generalize World.alloc _ _ = wz
      intro HX a0 a1 a2
      with_reducible refine po_run ?_ (fun K hK => ?_) ?_
      · (go_simp; done)
      · -- operation 2 first
        try (revert a0 a1 a2 HX; generalize World.drew _ = wd; intro HX a0 a1 a2)
        go_simp
        refine (l7Copy_any _ _ _ t.store (hst.below HX.below) hn hn2 HN3.out).mono ?_
        rintro e w2 ⟨v1, rfl, ho, hb⟩
        obtain ⟨cv, rvs, rv, rfl, K⟩ := HX.madeH ho hb
        obtain ⟨C, kC, rfl, -⟩ := K.formC 0 rfl
        obtain ⟨R, kR, rfl, -⟩ := K.formI 1 rfl
        clear HX ho hb
        have HX := K
        clear K
        clear a0 a1 a2
        obtain ⟨a0, a1, a2, -, -, -⟩ := HX.box3 (3 + 1) rfl
        refine hK.out _ _ (.inr (⟨a0, a1, a2⟩)) ?_
        clear hK K
        with_reducible refine po_run ?_ (fun K hK => ?_) ?_
        · (go_simp; done)
        · -- operation 6 first
          refine wp_pushO (.tmp 35) (.tmp 37) rfl HX (2 * 1 + 0) rfl rfl rfl (hE.below HX.below) (by simp; omega) ?_
          intro V kV w5 HY
          simp only [List.set_cons_zero, List.set_cons_succ, List.nil_append] at HY
          simp only [List.nil_append]
          replace HX := HY
          clear HY
          clear a0 a1 a2
          obtain ⟨a0, a1, a2, -, -, -⟩ := HX.box3 (2 + 2 * 1 + 0) rfl
          refine hK.out _ _ (.inr (⟨a0, a1, a2⟩)) ?_
          clear hK K
          repeat (first
            | (with_reducible refine po_take (v := ?_) ?_ (fun w' hS' => ?_) ?_
               rotate_left
               · (go_simp; done)
               · ((try dsimp only at hS'); go_simp; try with_reducible rfl)
               simp only [Act.put, List.setIfInBounds_toArray, List.set_cons_zero, List.set_cons_succ])
            | (with_reducible refine po_skip ?_ ?_
               · (go_simp; done)
               simp only [Act.put, List.setIfInBounds_toArray, List.set_cons_zero, List.set_cons_succ]))
          with_reducible refine po_run ?_ (fun K hK => ?_) ?_
          · (go_simp; done)
          rotate_left
          · exact po_stop
          try (revert a0 a1 a2 HX; generalize World.drew _ = wd; intro HX a0 a1 a2)
          go_simp
          replace HX := HX.box [.slice none 0 0, .slice none 0 0, .slice none 0 0] 28
          try simp only [World.size_alloc, drew_size, List.map_cons, List.map_nil, List.length_cons, List.length_nil, Nat.zero_add, Nat.reduceAdd] at HX
          clear a0 a1 a2
          obtain ⟨a0, a1, a2, -, -, -⟩ := HX.box3 (2 + 2 * 1 + 1) rfl
          refine hK.out _ _ (.inr (⟨a0, a1, a2⟩)) ?_
          clear hK K
          revert a0 a1 a2 HX
          generalize World.alloc _ _ = wz
          intro HX a0 a1 a2
          with_reducible refine po_run ?_ (fun K hK => ?_) ?_
          · (go_simp; done)
          rotate_left
          · exact po_stop
          obtain ⟨y0, y1, y2, y3, y4, y5⟩ := HX.box3 (2 * 0 + 0) rfl
          go_simp
          have HQ := ((HX.putBox (2 * 0 + 0) rfl 0 (.slice C t.store.cells.length kC)).putBox (2 * 0 + 0) rfl 1 (.slice R t.store.roots.length kR)).putBox (2 * 0 + 0) rfl 2 (.slice V t.hands.length kV)
          clear HX y0 y1 y2 y3 y4 y5 a0 a1 a2
          refine hK.out _ _ (.inl rfl) ?_
          clear hK K
          refine po_done ?_
          clear H0
          go_wp2_with fail
          go_meet
          exact ⟨_, C, R, V, kC, kR, kV, rvs, rfl, HQ.order [2 * 0 + 0, 1, 1 + 1, 2 * 1 + 1, 4, 5] (by decide) rfl⟩
        with_reducible refine po_run ?_ (fun K hK => ?_) ?_
        · (go_simp; done)
        rotate_left
        · exact po_stop
        try (revert a0 a1 a2 HX; generalize World.drew _ = wd; intro HX a0 a1 a2)
        go_simp
        replace HX := HX.box [.slice none 0 0, .slice none 0 0, .slice none 0 0] 28
        try simp only [World.size_alloc, drew_size, List.map_cons, List.map_nil, List.length_cons, List.length_nil, Nat.zero_add, Nat.reduceAdd] at HX
        clear a0 a1 a2
        obtain ⟨a0, a1, a2, -, -, -⟩ := HX.box3 (2 + 2 * 1 + 1) rfl
        refine hK.out _ _ (.inr (⟨a0, a1, a2⟩)) ?_
        clear hK K
        revert a0 a1 a2 HX
        generalize World.alloc _ _ = wz
        intro HX a0 a1 a2
        with_reducible refine po_run ?_ (fun K hK => ?_) ?_
        · (go_simp; done)
        rotate_left
        · exact po_stop
        refine wp_pushO (.tmp 35) (.tmp 37) rfl HX (2 * 1 + 1) rfl rfl rfl (hE.below HX.below) (by simp; omega) ?_
        intro V kV w5 HY
        simp only [List.set_cons_zero, List.set_cons_succ, List.nil_append] at HY
        simp only [List.nil_append]
        replace HX := HY
        clear HY
        clear a0 a1 a2
        obtain ⟨a0, a1, a2, -, -, -⟩ := HX.box3 (2 + 2 * 1 + 1) rfl
        refine hK.out _ _ (.inr (⟨a0, a1, a2⟩)) ?_
        clear hK K
        repeat (first
          | (with_reducible refine po_take (v := ?_) ?_ (fun w' hS' => ?_) ?_
             rotate_left
             · (go_simp; done)
             · ((try dsimp only at hS'); go_simp; try with_reducible rfl)
             simp only [Act.put, List.setIfInBounds_toArray, List.set_cons_zero, List.set_cons_succ])
          | (with_reducible refine po_skip ?_ ?_
             · (go_simp; done)
             simp only [Act.put, List.setIfInBounds_toArray, List.set_cons_zero, List.set_cons_succ]))
        with_reducible refine po_run ?_ (fun K hK => ?_) ?_
        · (go_simp; done)
        rotate_left
        · exact po_stop
        obtain ⟨y0, y1, y2, y3, y4, y5⟩ := HX.box3 (2 * 0 + 0) rfl
        go_simp
        have HQ := ((HX.putBox (2 * 0 + 0) rfl 0 (.slice C t.store.cells.length kC)).putBox (2 * 0 + 0) rfl 1 (.slice R t.store.roots.length kR)).putBox (2 * 0 + 0) rfl 2 (.slice V t.hands.length kV)
        clear HX y0 y1 y2 y3 y4 y5 a0 a1 a2
        refine hK.out _ _ (.inl rfl) ?_
        clear hK K
        refine po_done ?_
        clear H0
        go_wp2_with fail
        go_meet
        exact ⟨_, C, R, V, kC, kR, kV, rvs, rfl, HQ.order [2 * 0 + 0, 1, 1 + 1, 2 * 1 + 1, 4, 5] (by decide) rfl⟩
      with_reducible refine po_run ?_ (fun K hK => ?_) ?_
      · (go_simp; done)
      rotate_left
      · exact po_stop
      try (revert a0 a1 a2 HX; generalize World.drew _ = wd; intro HX a0 a1 a2)
      go_simp
      replace HX := HX.box [.slice none 0 0, .slice none 0 0, .slice none 0 0] 28
      try simp only [World.size_alloc, drew_size, List.map_cons, List.map_nil, List.length_cons, List.length_nil, Nat.zero_add, Nat.reduceAdd] at HX
      clear a0 a1 a2
      obtain ⟨a0, a1, a2, -, -, -⟩ := HX.box3 (2 + 2 * 0 + 1) rfl
      refine hK.out _ _ (.inr (⟨a0, a1, a2⟩)) ?_
      clear hK K
      revert a0 a1 a2 HX
      generalize World.alloc _ _ = wz
      intro HX a0 a1 a2
      with_reducible refine po_run ?_ (fun K hK => ?_) ?_
      · (go_simp; done)
      rotate_left
      · exact po_stop
      try (revert a0 a1 a2 HX; generalize World.drew _ = wd; intro HX a0 a1 a2)
      go_simp
      refine (l7Copy_any _ _ _ t.store (hst.below HX.below) hn hn2 HN3.out).mono ?_
      rintro e w2 ⟨v1, rfl, ho, hb⟩
      obtain ⟨cv, rvs, rv, rfl, K⟩ := HX.madeH ho hb
      obtain ⟨C, kC, rfl, -⟩ := K.formC 0 rfl
      obtain ⟨R, kR, rfl, -⟩ := K.formI 1 rfl
      clear HX ho hb
      have HX := K
      clear K
      clear a0 a1 a2
      obtain ⟨a0, a1, a2, -, -, -⟩ := HX.box3 (3 + 2) rfl
      refine hK.out _ _ (.inr (⟨a0, a1, a2⟩)) ?_
      clear hK K
      with_reducible refine po_run ?_ (fun K hK => ?_) ?_
      · (go_simp; done)
      rotate_left
      · exact po_stop
      refine wp_pushO (.tmp 35) (.tmp 37) rfl HX (2 * 1 + 1) rfl rfl rfl (hE.below HX.below) (by simp; omega) ?_
      intro V kV w5 HY
      simp only [List.set_cons_zero, List.set_cons_succ, List.nil_append] at HY
      simp only [List.nil_append]
      replace HX := HY
      clear HY
      clear a0 a1 a2
      obtain ⟨a0, a1, a2, -, -, -⟩ := HX.box3 (2 + 2 * 1 + 1) rfl
      refine hK.out _ _ (.inr (⟨a0, a1, a2⟩)) ?_
      clear hK K
      repeat (first
        | (with_reducible refine po_take (v := ?_) ?_ (fun w' hS' => ?_) ?_
           rotate_left
           · (go_simp; done)
           · ((try dsimp only at hS'); go_simp; try with_reducible rfl)
           simp only [Act.put, List.setIfInBounds_toArray, List.set_cons_zero, List.set_cons_succ])
        | (with_reducible refine po_skip ?_ ?_
           · (go_simp; done)
           simp only [Act.put, List.setIfInBounds_toArray, List.set_cons_zero, List.set_cons_succ]))
      with_reducible refine po_run ?_ (fun K hK => ?_) ?_
      · (go_simp; done)
      rotate_left
      · exact po_stop
      obtain ⟨y0, y1, y2, y3, y4, y5⟩ := HX.box3 (2 * 1 + 0) rfl
      go_simp
      have HQ := ((HX.putBox (2 * 1 + 0) rfl 0 (.slice C t.store.cells.length kC)).putBox (2 * 1 + 0) rfl 1 (.slice R t.store.roots.length kR)).putBox (2 * 1 + 0) rfl 2 (.slice V t.hands.length kV)
      clear HX y0 y1 y2 y3 y4 y5 a0 a1 a2
      refine hK.out _ _ (.inl rfl) ?_
      clear hK K
      refine po_done ?_
      clear H0
      go_wp2_with fail
      go_meet
      exact ⟨_, C, R, V, kC, kR, kV, rvs, rfl, HQ.order [2 * 1 + 0, 0, 0 + 1, 2 * 1 + 1, 4, 5] (by decide) rfl⟩
    with_reducible refine po_run ?_ (fun K hK => ?_) ?_
    · (go_simp; done)
    rotate_left
    · exact po_stop
    try (revert a0 a1 a2 HX; generalize World.drew _ = wd; intro HX a0 a1 a2)
    go_simp
    replace HX := HX.box [.slice none 0 0, .slice none 0 0, .slice none 0 0] 28
    try simp only [World.size_alloc, drew_size, List.map_cons, List.map_nil, List.length_cons, List.length_nil, Nat.zero_add, Nat.reduceAdd] at HX
    clear a0 a1 a2
    obtain ⟨a0, a1, a2, -, -, -⟩ := HX.box3 (2 + 2 * 0 + 0) rfl
    refine hK.out _ _ (.inr (⟨a0, a1, a2⟩)) ?_
    clear hK K
    revert a0 a1 a2 HX
    generalize World.alloc _ _ = wz
    intro HX a0 a1 a2
    with_reducible refine po_run ?_ (fun K hK => ?_) ?_
    · (go_simp; done)
    · -- operation 2 first
      try (revert a0 a1 a2 HX; generalize World.drew _ = wd; intro HX a0 a1 a2)
      go_simp
      refine (l7Copy_any _ _ _ t.store (hst.below HX.below) hn hn2 HN3.out).mono ?_
      rintro e w2 ⟨v1, rfl, ho, hb⟩
      obtain ⟨cv, rvs, rv, rfl, K⟩ := HX.madeH ho hb
      obtain ⟨C, kC, rfl, -⟩ := K.formC 0 rfl
      obtain ⟨R, kR, rfl, -⟩ := K.formI 1 rfl
      clear HX ho hb
      have HX := K
      clear K
      clear a0 a1 a2
      obtain ⟨a0, a1, a2, -, -, -⟩ := HX.box3 (3 + 1) rfl
      refine hK.out _ _ (.inr (⟨a0, a1, a2⟩)) ?_
      clear hK K
      with_reducible refine po_run ?_ (fun K hK => ?_) ?_
      · (go_simp; done)
      rotate_left
      · exact po_stop
      try (revert a0 a1 a2 HX; generalize World.drew _ = wd; intro HX a0 a1 a2)
      go_simp
      replace HX := HX.litI [] zero_le_maxLen
      try simp only [List.map_nil, List.length_nil] at HX
      clear a0 a1 a2
      obtain ⟨a0, a1, a2, -, -, -⟩ := HX.box3 (2 + 2 * 1 + 1) rfl
      refine hK.out _ _ (.inr (⟨a0, a1, a2⟩)) ?_
      clear hK K
      revert a0 a1 a2 HX
      generalize World.alloc _ _ = wz
      intro HX a0 a1 a2
      with_reducible refine po_run ?_ (fun K hK => ?_) ?_
      · (go_simp; done)
      rotate_left
      · exact po_stop
      refine wp_pushO (.tmp 35) (.tmp 37) rfl HX (2 * 0 + 0) rfl rfl rfl (hE.below HX.below) (by simp; omega) ?_
      intro V kV w5 HY
      simp only [List.nil_append] at HY
      simp only [List.nil_append]
      replace HX := HY
      clear HY
      clear a0 a1 a2
      obtain ⟨a0, a1, a2, -, -, -⟩ := HX.box3 (2 + 2 * 1 + 1) rfl
      refine hK.out _ _ (.inr (⟨a0, a1, a2⟩)) ?_
      clear hK K
      repeat (first
        | (with_reducible refine po_take (v := ?_) ?_ (fun w' hS' => ?_) ?_
           rotate_left
           · (go_simp; done)
           · ((try dsimp only at hS'); go_simp; try with_reducible rfl)
           simp only [Act.put, List.setIfInBounds_toArray, List.set_cons_zero, List.set_cons_succ])
        | (with_reducible refine po_skip ?_ ?_
           · (go_simp; done)
           simp only [Act.put, List.setIfInBounds_toArray, List.set_cons_zero, List.set_cons_succ]))
      with_reducible refine po_run ?_ (fun K hK => ?_) ?_
      · (go_simp; done)
      rotate_left
      · exact po_stop
      obtain ⟨y0, y1, y2, y3, y4, y5⟩ := HX.box3 (2 * 1 + 1) rfl
      go_simp
      have HQ := ((HX.putBox (2 * 1 + 1) rfl 0 (.slice C t.store.cells.length kC)).putBox (2 * 1 + 1) rfl 1 (.slice R t.store.roots.length kR)).putBox (2 * 1 + 1) rfl 2 (.slice V t.hands.length kV)
      clear HX y0 y1 y2 y3 y4 y5 a0 a1 a2
      refine hK.out _ _ (.inl rfl) ?_
      clear hK K
      refine po_done ?_
      clear H0
      go_wp2_with fail
      go_meet
      exact ⟨_, C, R, V, kC, kR, kV, rvs, rfl, HQ.order [2 * 1 + 1, 1, 1 + 1, 2 * 0 + 0, 4, 5] (by decide) rfl⟩
    with_reducible refine po_run ?_ (fun K hK => ?_) ?_
    · (go_simp; done)
    rotate_left
    · exact po_stop
    try (revert a0 a1 a2 HX; generalize World.drew _ = wd; intro HX a0 a1 a2)
    go_simp
    replace HX := HX.litI [] zero_le_maxLen
    try simp only [List.map_nil, List.length_nil] at HX
    clear a0 a1 a2
    obtain ⟨a0, a1, a2, -, -, -⟩ := HX.box3 (2 + 2 * 0 + 1) rfl
    refine hK.out _ _ (.inr (⟨a0, a1, a2⟩)) ?_
    clear hK K
    revert a0 a1 a2 HX
    generalize World.alloc _ _ = wz
    intro HX a0 a1 a2
    with_reducible refine po_run ?_ (fun K hK => ?_) ?_
    · (go_simp; done)
    rotate_left
    · exact po_stop
    try (revert a0 a1 a2 HX; generalize World.drew _ = wd; intro HX a0 a1 a2)
    go_simp
    refine (l7Copy_any _ _ _ t.store (hst.below HX.below) hn hn2 HN3.out).mono ?_
    rintro e w2 ⟨v1, rfl, ho, hb⟩
    obtain ⟨cv, rvs, rv, rfl, K⟩ := HX.madeH ho hb
    obtain ⟨C, kC, rfl, -⟩ := K.formC 0 rfl
    obtain ⟨R, kR, rfl, -⟩ := K.formI 1 rfl
    clear HX ho hb
    have HX := K
    clear K
    clear a0 a1 a2
    obtain ⟨a0, a1, a2, -, -, -⟩ := HX.box3 (3 + 2) rfl
    refine hK.out _ _ (.inr (⟨a0, a1, a2⟩)) ?_
    clear hK K
    with_reducible refine po_run ?_ (fun K hK => ?_) ?_
    · (go_simp; done)
    rotate_left
    · exact po_stop
    refine wp_pushO (.tmp 35) (.tmp 37) rfl HX (2 * 1 + 0) rfl rfl rfl (hE.below HX.below) (by simp; omega) ?_
    intro V kV w5 HY
    simp only [List.set_cons_zero, List.set_cons_succ, List.nil_append] at HY
    simp only [List.nil_append]
    replace HX := HY
    clear HY
    clear a0 a1 a2
    obtain ⟨a0, a1, a2, -, -, -⟩ := HX.box3 (2 + 2 * 1 + 1) rfl
    refine hK.out _ _ (.inr (⟨a0, a1, a2⟩)) ?_
    clear hK K
    repeat (first
      | (with_reducible refine po_take (v := ?_) ?_ (fun w' hS' => ?_) ?_
         rotate_left
         · (go_simp; done)
         · ((try dsimp only at hS'); go_simp; try with_reducible rfl)
         simp only [Act.put, List.setIfInBounds_toArray, List.set_cons_zero, List.set_cons_succ])
      | (with_reducible refine po_skip ?_ ?_
         · (go_simp; done)
         simp only [Act.put, List.setIfInBounds_toArray, List.set_cons_zero, List.set_cons_succ]))
    with_reducible refine po_run ?_ (fun K hK => ?_) ?_
    · (go_simp; done)
    rotate_left
    · exact po_stop
    obtain ⟨y0, y1, y2, y3, y4, y5⟩ := HX.box3 (2 * 1 + 1) rfl
    go_simp
    have HQ := ((HX.putBox (2 * 1 + 1) rfl 0 (.slice C t.store.cells.length kC)).putBox (2 * 1 + 1) rfl 1 (.slice R t.store.roots.length kR)).putBox (2 * 1 + 1) rfl 2 (.slice V t.hands.length kV)
    clear HX y0 y1 y2 y3 y4 y5 a0 a1 a2
    refine hK.out _ _ (.inl rfl) ?_
    clear hK K
    refine po_done ?_
    clear H0
    go_wp2_with fail
    go_meet
    exact ⟨_, C, R, V, kC, kR, kV, rvs, rfl, HQ.order [2 * 1 + 1, 0, 0 + 1, 2 * 1 + 0, 4, 5] (by decide) rfl⟩
  case rest =>
    clear H a0 a1 a2 y0 y1 y2 y3 y4 y5
    obtain ⟨g, C, R, V, kC, kR, kV, rvs, rfl, H⟩ := hcut
    obtain ⟨la, hla⟩ : ∃ l, Hid (t.store.cells[an]? = some l) := ⟨_, Go.Lib.hid (List.getElem?_eq_getElem hal)⟩
    obtain ⟨lb, hlb⟩ : ∃ l, Hid (t.store.cells[bn]? = some l) := ⟨_, Go.Lib.hid (List.getElem?_eq_getElem hbl)⟩
    obtain ⟨gC, cC, Aa, ca, eC, hra, u0, u1, u2, -, -, -, -, -⟩ := H.cellW 1 rfl hla
    simp only [Value.slice.injEq] at eC
    obtain ⟨rfl, -, rfl⟩ := eC
    have H5 := H.box [.bool la.used, .int .i64 la.data, .slice Aa la.refs.length ca] 39
    obtain ⟨x0, x1, x2, -, -, -⟩ := H.box3 0 rfl
    go_wp2_with fail
    clear x0 x1 x2 u0 u1 u2
    obtain ⟨gC', cC', Aa', ca', eC, hra', u0, u1, u2, f0, f1, f2, -, -⟩ := H5.cellW 2 rfl hla
    simp only [Value.slice.injEq, Option.some.injEq, Addr.mk.injEq, and_true, true_and] at eC
    obtain ⟨rfl, rfl⟩ := eC
    have eV := hid_inj hra hra'
    simp only [Value.slice.injEq, true_and] at eV
    obtain ⟨rfl, rfl⟩ := eV
    obtain ⟨gC', cC', Ab, cb, eC, hrb, v0, v1, v2, g0, g1, g2, -, -⟩ := H5.cellW 2 rfl hlb
    simp only [Value.slice.injEq, Option.some.injEq, Addr.mk.injEq, and_true, true_and] at eC
    obtain ⟨rfl, rfl⟩ := eC
    have hneG : g ≠ gC := fun e => H5.apart 1 2 _ _ (by decide) rfl rfl g rfl (.inl (by rw [e]; rfl))
    have hneQ : wc.heap.size ≠ gC := fun e => H5.apart 0 2 _ _ (by decide) rfl rfl wc.heap.size rfl (.inl (by rw [e]; rfl))
    obtain ⟨x0, x1, x2, -, -, -⟩ := H5.box3 1 rfl
    obtain ⟨q0, q1, q2, -, -, -⟩ := H5.box3 0 rfl
    obtain ⟨p1, p2, p3, t0, t1, t2, t3, t4, t5⟩ := H5.after3 (a := an) 2 rfl rfl hbl (.bool lb.used) (.int .i64 lb.data) (.slice Ab lb.refs.length cb)
    have X0 := cell_far (u := .slice Ab lb.refs.length cb) (an * 3 + 2) (cell_far (u := .int .i64 lb.data) (an * 3 + 1) (cell_far (u := .bool lb.used) (an * 3) x0 hneG) hneG) hneG
    have Q0 := cell_far (u := .slice Ab lb.refs.length cb) (an * 3 + 2) (cell_far (u := .int .i64 lb.data) (an * 3 + 1) (cell_far (u := .bool lb.used) (an * 3) q0 hneQ) hneQ) hneQ
    have Q1 := cell_far (u := .slice Ab lb.refs.length cb) (an * 3 + 2) (cell_far (u := .int .i64 lb.data) (an * 3 + 1) (cell_far (u := .bool lb.used) (an * 3) q1 hneQ) hneQ) hneQ
    have Q2 := cell_far (u := .slice Ab lb.refs.length cb) (an * 3 + 2) (cell_far (u := .int .i64 lb.data) (an * 3 + 1) (cell_far (u := .bool lb.used) (an * 3) q2 hneQ) hneQ) hneQ
    have HZ := H5.swapCells 2 rfl rfl hla.out hlb.out hra.out hrb.out
    rw [swCells_of hla hlb] at HZ
    unfold putCell3 at HZ
    have HZ1 := HZ.erase 0
    simp only [List.set_cons_zero, List.set_cons_succ, List.eraseIdx_cons_zero] at HZ1
    have r0 := keepd x0 (Below.refl _ _)
    have r1 := keepd v0 (Below.refl _ _)
    have r2 := keepd v1 (Below.refl _ _)
    have r3 := keepd v2 (Below.refl _ _)
    clear HZ
    refine wp_region_tree (fun w' => w'.cell? ⟨g, 0, none⟩ = some (.slice (some ⟨gC, 0, none⟩) t.store.cells.length kC) ∧ w'.cell? ⟨gC, bn * 3, none⟩ = some (.bool lb.used) ∧ w'.cell? ⟨gC, bn * 3 + 1, none⟩ = some (.int .i64 lb.data) ∧ w'.cell? ⟨gC, bn * 3 + 2, none⟩ = some (.slice Ab lb.refs.length cb)) 11 [] (.take 0 (.take 1 (.take 2 (.take 3 (.take 4 (.take 5 (.take 6 (.take 7 (.take 8 (.take 9 (.take 10 (.alt 11 (.done) (.stop))))))))))))) (by kernel_rfl) (by kernel_rfl) (by kernel_rfl) (⟨r0, r1, r2, r3⟩) ?_
    simp only [fillT, List.getElem?_cons_zero, List.getElem?_cons_succ, Nat.reduceBEq]
    repeat (first
      | (with_reducible refine po_take (v := ?_) ?_ (fun w' hS' => ?_) ?_
         rotate_left
         · (go_simp; done)
         · ((try dsimp only at hS'); go_simp; try with_reducible rfl)
         simp only [Act.put, List.setIfInBounds_toArray, List.set_cons_zero, List.set_cons_succ])
      | (with_reducible refine po_skip ?_ ?_
         · (go_simp; done)
         simp only [Act.put, List.setIfInBounds_toArray, List.set_cons_zero, List.set_cons_succ]))
    with_reducible refine po_run ?_ (fun K hK => ?_) ?_
    · (go_simp; done)
    rotate_left
    · exact po_stop
    go_simp
    refine hK.out _ _ (.inl rfl) ?_
    clear hK K
    refine po_done ?_
    obtain ⟨n0, n1, n2, -, -, -⟩ := HZ1.box3 0 rfl
    obtain ⟨o0, o1, o2, -, -, -⟩ := HZ1.box3 5 rfl
    have HX := HZ1.drew
    clear H H5 HZ1 r0 r1 r2 r3
    go_wp2_with fail
    clear x0 x1 x2 q0 q1 q2 X0 Q0 Q1 Q2 t0 t1 t2 t3 t4 t5 u0 u1 u2 f0 f1 f2 v0 v1 v2 g0 g1 g2 n0 n1 n2 o0 o1 o2
    go_loopw [10] (fun i wr => ∃ (k : Nat) (X : List Int), i = .int .i64 k ∧ k ≤ t.hands.length ∧ X = (t.hands.take k).map (swH an bn) ++ t.hands.drop k ∧ Owns w.heap.size w wr [.box g [.slice (some ⟨gC, 0, none⟩) t.store.cells.length kC, .slice R t.store.roots.length kR, .slice V t.hands.length kV] 28, .cells (.slice (some ⟨gC, 0, none⟩) t.store.cells.length kC) ((rvs.set an (.slice Ab lb.refs.length cb)).set bn (.slice Aa la.refs.length ca)) (swCells t.store.cells an bn), .ints (.slice R t.store.roots.length kR) t.store.roots, .ints (.slice V t.hands.length kV) X, .box (w.heap.size + 1) [.slice none 0 0, .slice none 0 0, .slice none 0 0] 28, .box w.heap.size [.slice D t.store.cells.length d, .slice D' m' d', .slice E t.hands.length f] 28]) (fun i _ => t.hands.length - (intOf i).toNat)
    case atStart => exact ⟨0, t.hands, rfl, Nat.zero_le _, by simp, HX⟩
    case round =>
      clear HX
      obtain ⟨k, X, rfl, hk, hXX, H⟩ := hrel
      obtain ⟨x0, x1, x2, -, -, -⟩ := H.box3 0 rfl
      obtain ⟨o0, o1, o2, -, -, -⟩ := H.box3 5 rfl
      have hXl : t.hands.length = X.length := by rw [hXX]; simp; omega
      by_cases hlt : k < t.hands.length
      · obtain ⟨b', o', x, rfl, hbb, hx, s1⟩ := RdI.at_ hE hlt
        have s2 := H.ro s1 hbb
        have hXk : Hid (X[k]? = some x) := Go.Lib.hid (by rw [hXX]; exact mapT_here hx)
        obtain ⟨gE, cE, eE, -, -, -, -⟩ := H.rowAt 3 rfl (show 0 < X.length by omega)
        simp only [Value.slice.injEq] at eE
        obtain ⟨rfl, -, rfl⟩ := eE
        obtain ⟨y0, y1⟩ := H.intAt 3 rfl hXl hXk
        clear s1
        by_cases ea : x = (an : Int)
        · have e1 : (x == (an : Int)) = true := by simp [ea]
          have hsw : swH an bn x = (bn : Int) := by simp [swH, ea]
          clear ea
          have HE := Go.Lib.hid (show X.set k ((bn : Int)) = (t.hands.take (k + 1)).map (swH an bn) ++ t.hands.drop (k + 1) by rw [hXX, ← hsw]; exact mapT_turn hx)
          have H2 := H.setInt 3 rfl hXl k ((bn : Int))
          simp only [List.set_cons_zero, List.set_cons_succ] at H2
          clear hsw hXX H
          go_wp2_with fail
          go_roundw
          case rel => exact ⟨k + 1, _, by go_num, by omega, HE.out, H2⟩
          case measure => simp [intOf]; omega
        · have e1 : (x == (an : Int)) = false := by simp [ea]
          by_cases eb : x = (bn : Int)
          · have e2 : (x == (bn : Int)) = true := by simp [eb]
            have hsw : swH an bn x = (an : Int) := by unfold swH; rw [if_neg ea, if_pos eb]
            clear ea eb
            have HE := Go.Lib.hid (show X.set k ((an : Int)) = (t.hands.take (k + 1)).map (swH an bn) ++ t.hands.drop (k + 1) by rw [hXX, ← hsw]; exact mapT_turn hx)
            have H2 := H.setInt 3 rfl hXl k ((an : Int))
            simp only [List.set_cons_zero, List.set_cons_succ] at H2
            clear hsw hXX H
            go_wp2_with fail
            go_roundw
            case rel => exact ⟨k + 1, _, by go_num, by omega, HE.out, H2⟩
            case measure => simp [intOf]; omega
          · have e2 : (x == (bn : Int)) = false := by simp [eb]
            have hsw : swH an bn x = x := by unfold swH; rw [if_neg ea, if_neg eb]
            have HE := Go.Lib.hid (show X = (t.hands.take (k + 1)).map (swH an bn) ++ t.hands.drop (k + 1) by rw [hXX]; exact (mapT_keep hx hsw).symm)
            clear ea eb hsw hXX
            go_wp2_with fail
            go_roundw
            case rel => exact ⟨k + 1, X, by go_num, by omega, HE.out, H⟩
            case measure => simp [intOf]; omega
      · have HE : Hid (X = t.hands.map (swH an bn)) := Go.Lib.hid (by rw [hXX, List.take_of_length_le (by omega), List.drop_of_length_le (by omega), List.append_nil])
        clear hXX hXl
        obtain ⟨y0, y1, y2, y3, y4, y5⟩ := H.box3 4 rfl
        have HZ := ((H.putBox 4 rfl 0 (.slice (some ⟨gC, 0, none⟩) t.store.cells.length kC)).putBox 4 rfl 1 (.slice R t.store.roots.length kR)).putBox 4 rfl 2 (.slice V t.hands.length kV)
        simp only [List.set_cons_zero, List.set_cons_succ] at HZ
        obtain ⟨z0, z1, z2, -, -, -⟩ := HZ.box3 4 rfl
        have HS : Hid (MadeTp w (mMove t an bn) (.returned (.agg #[.slice (some ⟨gC, 0, none⟩) t.store.cells.length kC, .slice R t.store.roots.length kR, .slice V t.hands.length kV])) _) := Go.Lib.hid (by rw [HF.out]; exact ⟨_, _, _, _, rfl, by rw [HE.out] at HZ; exact HZ.order [1, 2, 3] (by decide) rfl⟩)
        clear H HZ
        go_wp2
        exact bodyPost_ret (v := .agg #[.slice (some ⟨gC, 0, none⟩) t.store.cells.length kC, .slice R t.store.roots.length kR, .slice V t.hands.length kV]) (by simp [results, Try.results9, go_sem, z0, z1, z2]) rfl HS.out
end Go.Proofs.Ytcekohpekpkobaa
