/- The drawing of a heap with watched cells, for every code that can be read. -/
import Derived.Test.YtjpfgbckmcjjaaaOo
namespace Go.Proofs.Ytjpfgbckmcjjaaa
open Go.RowKit
set_option maxHeartbeats 6400000 in
set_option maxRecDepth 20000 in
theorem watched_own {lo : Nat} {w0 w : World} {L : List OB} {g : Nat} {A : Option Addr} {n c p : Nat} (h : Owns lo w0 w L) (i : Nat) (hX : L[i]? = some (.rdr g A n c p)) {bs : List Int} (hr : RdU w0 lo A n c bs) (hp : p ≤ 600000) (N : Int) (hN0 : 1 ≤ N) (hN1 : N ≤ 1000) :
    Calls Try.prog 59 #[.pointer (some ⟨g, 0, none⟩), .int .i64 N] w (DrewHI lo w0 L i g A n c p) := by
  have H := h.box [.slice none 0 0, .slice none 0 0] 26
  clear h
  go_enter Try.func59, Try.ntmps59
  go_wp2_with fail
  refine (heap_own H (i + 1) hX hr (by omega) N (by omega) hN1).mono ?_
  rintro e w1 ⟨T, cv, rvs, rv, rv0, rs0, p1, rfl, hS, ht, hp1, hp2, H1⟩
  simp only [List.set_cons_succ] at H1
  obtain ⟨C, kC, rfl, -⟩ := H1.formC 0 rfl
  obtain ⟨R0, kR0, e0, -⟩ := H1.formI 1 rfl
  obtain ⟨R, nR, kR, rfl⟩ := ht.form e0
  clear e0 H
  have H2 := (H1.box [.slice C T.cells.length kC, .slice R nR kR] 26).litI [] zero_le_maxLen
  clear H1
  simp only [List.map_nil, List.length_nil, World.size_alloc] at H2
  have HT := Go.Lib.hid ht
  have hlen := hS.len
  have HS := Go.Lib.hid hS
  clear ht hS
  go_wp2_with fail
  go_loopw [7, 8] (fun v7 v8 wr => ∃ (v : Value) (k : Nat) (xs : List Int) (p' : Nat), v7 = v ∧ v8 = .int .i64 k ∧ k ≤ T.cells.length ∧ xs.length ≤ k ∧ p ≤ p' ∧ p' ≤ p + 1000 + k ∧ Owns lo w0 wr (.ints v xs :: .box w1.heap.size [.slice C T.cells.length kC, .slice R nR kR] 26 :: .cells (.slice C T.cells.length kC) rvs T.cells :: .ints rv0 rs0 :: .box w.heap.size [.slice none 0 0, .slice none 0 0] 26 :: L.set i (.rdr g A n c p'))) (fun _ v8 _ => T.cells.length - (intOf v8).toNat)
  case atStart => exact ⟨_, 0, [], p1, rfl, rfl, Nat.zero_le _, by simp, by omega, by omega, H2⟩
  case round =>
    clear H2 hp1 hp2
    obtain ⟨v, k, xs, p2, hv, rfl, hk, hl, hp1, hp2, H⟩ := hrel
    obtain rfl := hv.symm
    obtain ⟨x0, x1, x2, x3⟩ := H.box2 1 rfl
    by_cases hlt : k < T.cells.length
    rotate_left
    · have hk41 : xs.length ≤ 41 := by omega
      go_wp2_with fail
      refine (odd_own H (i + 5) (set_get hX _) hr (by omega) N (by omega) (by omega)).mono ?_
      rintro e w6 ⟨bo, rfl, H6⟩
      simp only [List.set_cons_succ, List.set_set] at H6
      clear H x0 x1 x2 x3
      obtain ⟨x0, x1, x2, x3⟩ := H6.box2 1 rfl
      cases bo
      · obtain ⟨w0_, w1_, -, -⟩ := H6.box2 1 rfl
        obtain ⟨y0, y1, y2, y3⟩ := H6.box2 4 rfl
        have HZ := (((H6.putBox 4 rfl 0 (.slice C T.cells.length kC)).putBox 4 rfl 1 (.slice R nR kR)).erase 1)
        simp only [List.set_cons_zero, List.set_cons_succ, List.eraseIdx_cons_zero, List.eraseIdx_cons_succ] at HZ
        obtain ⟨z0, z1, -, -⟩ := HZ.box2 3 rfl
        have HZ2 := HZ.erase 3
        simp only [List.eraseIdx_cons_zero, List.eraseIdx_cons_succ] at HZ2
        obtain ⟨z2, -, -, -⟩ := (H6.putBox 4 rfl 0 (.slice C T.cells.length kC)).box2 4 rfl
        have HSF : Hid (DrewHI lo w0 L i g A n c p (.returned (.tuple #[.agg #[.slice C T.cells.length kC, .slice R nR kR], v])) _) := Go.Lib.hid ⟨T, _, rvs, _, _, _, _, xs, (p2 + 1), rfl, HS.out, HT.out, by omega, by omega, by omega, HZ2⟩
        clear H6 HZ HZ2
        go_wp2
        exact bodyPost_ret (v := .tuple #[.agg #[.slice C T.cells.length kC, .slice R nR kR], v]) (by simp [results, Try.results59, go_sem, z0, z1, z2]) rfl HSF.out
      · go_wp2_with fail
        have HX := H6.drew
        have H0 := Go.Lib.hid H6
        clear H6 x0 x1 x2 x3
        obtain ⟨x0, x1, -, -⟩ := HX.box2 1 rfl
        refine wp_region_tree (fun w' => w'.cell? ⟨w1.heap.size, 0, none⟩ = some (.slice C T.cells.length kC) ∧ w'.cell? ⟨w1.heap.size, 1, none⟩ = some (.slice R nR kR)) 12 [8] (.take 0 (.take 1 (.take 2 (.take 3 (.take 5 (.alt 4 (.alt 6 (.take 7 (.alt 8 (.alt 9 (.alt 10 (.take 11 (.done)) (.stop)) (.stop)) (.stop))) (.stop)) (.alt 6 (.alt 4 (.take 7 (.alt 8 (.alt 9 (.alt 10 (.take 11 (.done)) (.stop)) (.stop)) (.stop))) (.stop)) (.stop)))))))) (by kernel_rfl) (by kernel_rfl) (by kernel_rfl) (⟨x0, x1⟩) ?_
        simp only [fillT, List.getElem?_cons_zero, List.getElem?_cons_succ, Nat.reduceBEq]
        repeat (first
          | (with_reducible refine po_take (v := ?_) ?_ (fun w' hS' => ?_) ?_
             rotate_left
             · (go_simp; done)
             · ((try dsimp only at hS'); go_simp; try with_reducible rfl)
             simp only [Act.put, List.setIfInBounds_toArray, List.set_cons_zero, List.set_cons_succ])
          | (with_reducible refine po_skip ?_ ?_
             · (go_simp; done)
             simp only [Act.put, List.setIfInBounds_toArray, List.set_cons_zero, List.set_cons_succ]))
        with_reducible refine po_run ?_ (fun K hK => ?_) ?_
        · (go_simp; done)
        · -- operation 4 first
          try (revert x0 x1 HX; generalize World.drew _ = wd; intro HX x0 x1)
          go_simp
          replace HX := HX.litI [0, (T.cells.length : Int), -1] (by show 3 ≤ maxLen; unfold maxLen; omega)
          try simp only [World.size_alloc, drew_size, List.map_cons, List.map_nil, List.length_cons, List.length_nil, Nat.zero_add, Nat.reduceAdd] at HX
          clear x0 x1
          obtain ⟨x0, x1, -, -⟩ := HX.box2 2 rfl
          refine hK.out _ _ (.inr (⟨x0, x1⟩)) ?_
          clear hK K
          revert x0 x1 HX
          generalize World.alloc _ _ = wz
          intro HX x0 x1
          with_reducible refine po_run ?_ (fun K hK => ?_) ?_
          · (go_simp; done)
          rotate_left
          · exact po_stop
          try (revert x0 x1 HX; generalize World.drew _ = wd; intro HX x0 x1)
          go_simp
          refine (pick_own HX (i + 6) (set_get hX _) hr (by omega) 3 (by unfold I64; omega)).mono ?_
          rintro e waj ⟨j2, rfl, hj2, HY⟩
          replace hj2 : j2 < 3 := by omega
          have hj2' : (j2 : Int) < 3 := by omega
          simp only [List.set_cons_succ, List.set_set] at HY
          clear HX x0 x1
          have HX := HY
          clear HY
          obtain ⟨x0, x1, -, -⟩ := HX.box2 2 rfl
          refine hK.out _ _ (.inr (⟨x0, x1⟩)) ?_
          clear hK K
          repeat (first
            | (with_reducible refine po_take (v := ?_) ?_ (fun w' hS' => ?_) ?_
               rotate_left
               · (go_simp; done)
               · ((try dsimp only at hS'); go_simp; try with_reducible rfl)
               simp only [Act.put, List.setIfInBounds_toArray, List.set_cons_zero, List.set_cons_succ])
            | (with_reducible refine po_skip ?_ ?_
               · (go_simp; done)
               simp only [Act.put, List.setIfInBounds_toArray, List.set_cons_zero, List.set_cons_succ]))
          with_reducible refine po_run ?_ (fun K hK => ?_) ?_
          · (go_simp; done)
          rotate_left
          · exact po_stop
          obtain ⟨v2, hv2⟩ : ∃ v, ([0, (T.cells.length : Int), -1] : List Int)[j2]? = some v := ⟨_, List.getElem?_eq_getElem (by simp; omega)⟩
          obtain ⟨zz, -⟩ := HX.elem 0 rfl (j := j2) (u := .int .i64 v2) (by rw [List.getElem?_map, hv2]; rfl)
          go_simp
          clear zz
          refine hK.out _ _ (.inr (⟨x0, x1⟩)) ?_
          clear hK K
          with_reducible refine po_run ?_ (fun K hK => ?_) ?_
          · (go_simp; done)
          rotate_left
          · exact po_stop
          go_simp
          replace HX := HX.litI [v2] one_le_maxLen
          try simp only [World.size_alloc, drew_size, List.map_cons, List.map_nil, List.length_cons, List.length_nil, Nat.zero_add, Nat.reduceAdd] at HX
          clear x0 x1
          obtain ⟨x0, x1, -, -⟩ := HX.box2 3 rfl
          refine hK.out _ _ (.inr (⟨x0, x1⟩)) ?_
          clear hK K
          revert x0 x1 HX
          generalize World.alloc _ _ = wz
          intro HX x0 x1
          with_reducible refine po_run ?_ (fun K hK => ?_) ?_
          · (go_simp; done)
          rotate_left
          · exact po_stop
          refine wp_pushO (.tmp 38) (.tmp 47) rfl HX 2 rfl rfl rfl (HX.owI 0 rfl).rdI (by simp; omega) ?_
          intro A3 k3 w9 HY
          simp only [List.set_cons_zero, List.set_cons_succ] at HY
          clear HX x0 x1
          have HX := HY
          clear HY
          obtain ⟨x0, x1, -, -⟩ := HX.box2 3 rfl
          refine hK.out _ _ (.inr (⟨x0, x1⟩)) ?_
          clear hK K
          repeat (first
            | (with_reducible refine po_take (v := ?_) ?_ (fun w' hS' => ?_) ?_
               rotate_left
               · (go_simp; done)
               · ((try dsimp only at hS'); go_simp; try with_reducible rfl)
               simp only [Act.put, List.setIfInBounds_toArray, List.set_cons_zero, List.set_cons_succ])
            | (with_reducible refine po_skip ?_ ?_
               · (go_simp; done)
               simp only [Act.put, List.setIfInBounds_toArray, List.set_cons_zero, List.set_cons_succ]))
          refine po_done ?_
          have HE := (HX.erase 0).erase 0
          simp only [List.eraseIdx_cons_zero, List.eraseIdx_cons_succ, List.length_append, List.length_cons, List.length_nil, Nat.zero_add] at HE
          clear HX H0 x0 x1
          obtain ⟨w0_, w1_, -, -⟩ := HE.box2 1 rfl
          obtain ⟨y0, y1, y2, y3⟩ := HE.box2 4 rfl
          have HZ := (((HE.putBox 4 rfl 0 (.slice C T.cells.length kC)).putBox 4 rfl 1 (.slice R nR kR)).erase 1)
          simp only [List.set_cons_zero, List.set_cons_succ, List.eraseIdx_cons_zero, List.eraseIdx_cons_succ] at HZ
          obtain ⟨z0, z1, -, -⟩ := HZ.box2 3 rfl
          have HZ2 := HZ.erase 3
          simp only [List.eraseIdx_cons_zero, List.eraseIdx_cons_succ] at HZ2
          obtain ⟨z2, -, -, -⟩ := (HE.putBox 4 rfl 0 (.slice C T.cells.length kC)).box2 4 rfl
          have HSF : Hid (DrewHI lo w0 L i g A n c p (.returned (.tuple #[.agg #[.slice C T.cells.length kC, .slice R nR kR], .slice A3 (xs.length + 1) k3])) _) := Go.Lib.hid ⟨T, _, rvs, _, _, _, _, (xs ++ [v2]), (p2 + 2), rfl, HS.out, HT.out, by simp; omega, by omega, by omega, HZ2⟩
          clear HE HZ HZ2
          go_wp2
          exact bodyPost_ret (v := .tuple #[.agg #[.slice C T.cells.length kC, .slice R nR kR], .slice A3 (xs.length + 1) k3]) (by simp [results, Try.results59, go_sem, z0, z1, z2]) rfl HSF.out
        with_reducible refine po_run ?_ (fun K hK => ?_) ?_
        · (go_simp; done)
        rotate_left
        · exact po_stop
        try (revert x0 x1 HX; generalize World.drew _ = wd; intro HX x0 x1)
        go_simp
        refine (pick_own HX (i + 5) (set_get hX _) hr (by omega) 3 (by unfold I64; omega)).mono ?_
        rintro e waj ⟨j2, rfl, hj2, HY⟩
        replace hj2 : j2 < 3 := by omega
        have hj2' : (j2 : Int) < 3 := by omega
        simp only [List.set_cons_succ, List.set_set] at HY
        clear HX x0 x1
        have HX := HY
        clear HY
        obtain ⟨x0, x1, -, -⟩ := HX.box2 1 rfl
        refine hK.out _ _ (.inr (⟨x0, x1⟩)) ?_
        clear hK K
        with_reducible refine po_run ?_ (fun K hK => ?_) ?_
        · (go_simp; done)
        rotate_left
        · exact po_stop
        try (revert x0 x1 HX; generalize World.drew _ = wd; intro HX x0 x1)
        go_simp
        replace HX := HX.litI [0, (T.cells.length : Int), -1] (by show 3 ≤ maxLen; unfold maxLen; omega)
        try simp only [World.size_alloc, drew_size, List.map_cons, List.map_nil, List.length_cons, List.length_nil, Nat.zero_add, Nat.reduceAdd] at HX
        clear x0 x1
        obtain ⟨x0, x1, -, -⟩ := HX.box2 2 rfl
        refine hK.out _ _ (.inr (⟨x0, x1⟩)) ?_
        clear hK K
        revert x0 x1 HX
        generalize World.alloc _ _ = wz
        intro HX x0 x1
        repeat (first
          | (with_reducible refine po_take (v := ?_) ?_ (fun w' hS' => ?_) ?_
             rotate_left
             · (go_simp; done)
             · ((try dsimp only at hS'); go_simp; try with_reducible rfl)
             simp only [Act.put, List.setIfInBounds_toArray, List.set_cons_zero, List.set_cons_succ])
          | (with_reducible refine po_skip ?_ ?_
             · (go_simp; done)
             simp only [Act.put, List.setIfInBounds_toArray, List.set_cons_zero, List.set_cons_succ]))
        with_reducible refine po_run ?_ (fun K hK => ?_) ?_
        · (go_simp; done)
        rotate_left
        · exact po_stop
        obtain ⟨v2, hv2⟩ : ∃ v, ([0, (T.cells.length : Int), -1] : List Int)[j2]? = some v := ⟨_, List.getElem?_eq_getElem (by simp; omega)⟩
        obtain ⟨zz, -⟩ := HX.elem 0 rfl (j := j2) (u := .int .i64 v2) (by rw [List.getElem?_map, hv2]; rfl)
        go_simp
        clear zz
        refine hK.out _ _ (.inr (⟨x0, x1⟩)) ?_
        clear hK K
        with_reducible refine po_run ?_ (fun K hK => ?_) ?_
        · (go_simp; done)
        rotate_left
        · exact po_stop
        go_simp
        replace HX := HX.litI [v2] one_le_maxLen
        try simp only [World.size_alloc, drew_size, List.map_cons, List.map_nil, List.length_cons, List.length_nil, Nat.zero_add, Nat.reduceAdd] at HX
        clear x0 x1
        obtain ⟨x0, x1, -, -⟩ := HX.box2 3 rfl
        refine hK.out _ _ (.inr (⟨x0, x1⟩)) ?_
        clear hK K
        revert x0 x1 HX
        generalize World.alloc _ _ = wz
        intro HX x0 x1
        with_reducible refine po_run ?_ (fun K hK => ?_) ?_
        · (go_simp; done)
        rotate_left
        · exact po_stop
        refine wp_pushO (.tmp 38) (.tmp 47) rfl HX 2 rfl rfl rfl (HX.owI 0 rfl).rdI (by simp; omega) ?_
        intro A3 k3 w9 HY
        simp only [List.set_cons_zero, List.set_cons_succ] at HY
        clear HX x0 x1
        have HX := HY
        clear HY
        obtain ⟨x0, x1, -, -⟩ := HX.box2 3 rfl
        refine hK.out _ _ (.inr (⟨x0, x1⟩)) ?_
        clear hK K
        repeat (first
          | (with_reducible refine po_take (v := ?_) ?_ (fun w' hS' => ?_) ?_
             rotate_left
             · (go_simp; done)
             · ((try dsimp only at hS'); go_simp; try with_reducible rfl)
             simp only [Act.put, List.setIfInBounds_toArray, List.set_cons_zero, List.set_cons_succ])
          | (with_reducible refine po_skip ?_ ?_
             · (go_simp; done)
             simp only [Act.put, List.setIfInBounds_toArray, List.set_cons_zero, List.set_cons_succ]))
        refine po_done ?_
        have HE := (HX.erase 0).erase 0
        simp only [List.eraseIdx_cons_zero, List.eraseIdx_cons_succ, List.length_append, List.length_cons, List.length_nil, Nat.zero_add] at HE
        clear HX H0 x0 x1
        obtain ⟨w0_, w1_, -, -⟩ := HE.box2 1 rfl
        obtain ⟨y0, y1, y2, y3⟩ := HE.box2 4 rfl
        have HZ := (((HE.putBox 4 rfl 0 (.slice C T.cells.length kC)).putBox 4 rfl 1 (.slice R nR kR)).erase 1)
        simp only [List.set_cons_zero, List.set_cons_succ, List.eraseIdx_cons_zero, List.eraseIdx_cons_succ] at HZ
        obtain ⟨z0, z1, -, -⟩ := HZ.box2 3 rfl
        have HZ2 := HZ.erase 3
        simp only [List.eraseIdx_cons_zero, List.eraseIdx_cons_succ] at HZ2
        obtain ⟨z2, -, -, -⟩ := (HE.putBox 4 rfl 0 (.slice C T.cells.length kC)).box2 4 rfl
        have HSF : Hid (DrewHI lo w0 L i g A n c p (.returned (.tuple #[.agg #[.slice C T.cells.length kC, .slice R nR kR], .slice A3 (xs.length + 1) k3])) _) := Go.Lib.hid ⟨T, _, rvs, _, _, _, _, (xs ++ [v2]), (p2 + 2), rfl, HS.out, HT.out, by simp; omega, by omega, by omega, HZ2⟩
        clear HE HZ HZ2
        go_wp2
        exact bodyPost_ret (v := .tuple #[.agg #[.slice C T.cells.length kC, .slice R nR kR], .slice A3 (xs.length + 1) k3]) (by simp [results, Try.results59, go_sem, z0, z1, z2]) rfl HSF.out
    · obtain ⟨l, hl1⟩ : ∃ l, Hid (T.cells[k]? = some l) := ⟨_, Go.Lib.hid (List.getElem?_eq_getElem hlt)⟩
      obtain ⟨gC, cC, A1, c1, eC, -, u1, -, -, -, -, -, -, -⟩ := H.cellW 2 rfl hl1
      simp only [Value.slice.injEq] at eC
      obtain ⟨rfl, -, rfl⟩ := eC
      cases hu : l.used
      · rw [hu] at u1
        clear hu
        go_wp2_with fail
        go_roundw
        case rel => exact ⟨_, k + 1, xs, p2, rfl, by go_num, by omega, by omega, by omega, by omega, H⟩
        case measure => simp [intOf]; omega
      · rw [hu] at u1
        clear hu
        go_wp2_with fail
        refine (pick_own H (i + 5) (set_get hX _) hr (by omega) 3 (by unfold I64; omega)).mono ?_
        rintro e w3 ⟨y, rfl, hy, H4⟩
        simp only [List.set_cons_succ, List.set_set] at H4
        clear H x0 x1 x2 x3 u1
        by_cases hy0 : y = 0
        · subst hy0
          have H5 := H4.litI [(k : Int)] one_le_maxLen
          simp only [List.map_cons, List.map_nil, List.length_cons, List.length_nil, Nat.zero_add] at H5
          go_wp2_with (at_builtin; go_loud (refine wpList_pushO rfl (.tmp 31) (.tmp 33) rfl H5 1 rfl rfl rfl (rdI_new _ _ _ rfl) (by simp; omega) ?_; intro A3 k3 w5 H6; simp only [List.set_cons_zero, List.set_cons_succ] at H6))
          have H7 := H6.erase 0
          simp only [List.eraseIdx_cons_zero] at H7
          go_roundw
          case rel => exact ⟨_, k + 1, xs ++ [(k : Int)], p2 + 1, rfl, by go_num, by omega, by simp; omega, by omega, by omega, by simpa using H7⟩
          case measure => simp [intOf]; omega
        · have e1 : ((y : Int) == 0) = false := by simp; omega
          clear hy0
          go_wp2_with fail
          go_roundw
          case rel => exact ⟨_, k + 1, xs, p2 + 1, rfl, by go_num, by omega, by omega, by omega, by omega, H4⟩
          case measure => simp [intOf]; omega
end Go.Proofs.Ytjpfgbckmcjjaaa
