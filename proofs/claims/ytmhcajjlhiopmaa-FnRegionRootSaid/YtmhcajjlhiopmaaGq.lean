/- The law FnRegionRoot's walk, for every code that can be read. -/
import Derived.Test.YtmhcajjlhiopmaaZd
namespace Go.Proofs.Ytmhcajjlhiopmaa
open Go.RowKit
set_option maxHeartbeats 6400000 in
set_option maxRecDepth 20000 in
theorem lawRegionRoot_any (w : World) {A : Option Addr} {n c : Nat} {bs : List Int} (hr : RdY w w.heap.size A n c bs) :
    Calls Try.prog 8 #[.slice A n c] w fun e w' => e = .returned (.bool true) ∧ Below w.heap.size w w' := by
  by_cases s0 : 1048576 < n
  · go_enter Try.func8, Try.ntmps8
    go_wp2
    go_ret
    exact ⟨rfl, Below.refl _ _⟩
  go_enter Try.func8, Try.ntmps8
  go_wp2_with fail
  refine (DrawRegionSizes_any w A n c bs hr).mono ?_
  rintro e w1 ⟨T, cv, rvs, rv, rv0, v, rs0, xs, rfl, hS, ht, hxl, H1⟩
  obtain ⟨C, kC, rfl, -⟩ := H1.formC 1 rfl
  obtain ⟨R0, kR0, e0, -⟩ := H1.formI 2 rfl
  obtain ⟨R, nR, kR, rfl⟩ := ht.form e0
  obtain ⟨V, kV, rfl, -⟩ := H1.formI 0 rfl
  have HT := Go.Lib.hid ht
  have HR3 : Hid (∀ c ∈ T.cells, c.refs.length ≤ 1048576) := Go.Lib.hid fun c hc => by have := hS.refs c hc; omega
  clear e0 ht hS hr s0
  have H := H1.box [.slice C T.cells.length kC, .slice R nR kR] 26
  clear H1
  obtain ⟨x0, x1, -, -⟩ := H.box2 0 rfl
  go_wp2_with fail
  refine (implRegionSizes_any _ _ _ _ T _ _ _ xs (H.rdHx 2 3 rfl rfl HT.out) (H.owI 1 rfl).rdI).mono ?_
  rintro e w2 ⟨v2, rfl, ho2, hb2⟩
  obtain ⟨X, hX⟩ : ∃ X, X = mRegionSizes T xs := ⟨_, rfl⟩
  rw [← hX] at ho2
  have HXe := Go.Lib.hid hX
  clear hX
  have H2 := H.madeI ho2 hb2
  clear H ho2 hb2 x0 x1
  obtain ⟨A2, k2, rfl, -⟩ := H2.formI 0 rfl
  obtain ⟨x0, x1, -, -⟩ := H2.box2 1 rfl
  go_wp2_with fail
  refine (specRegionSizes_any _ _ _ _ T _ _ _ xs (H2.rdHx 3 4 rfl rfl HT.out) (H2.owI 2 rfl).rdI).mono ?_
  rintro e w3 ⟨v3, rfl, ho3, hb3⟩
  rw [← HXe.out] at ho3
  have H3 := H2.madeI ho3 hb3
  clear H2 ho3 hb3 x0 x1
  obtain ⟨A3, k3, rfl, -⟩ := H3.formI 0 rfl
  go_wp2_with fail
  refine (sameInts_yes _ _ _ _ _ _ _ _ _ X (H3.owI 1 rfl).rdI (H3.owI 0 rfl).rdI).mono ?_
  rintro e w4 ⟨rfl, hb4⟩
  have H4 := (H3.call hb4).erase 0
  simp only [List.eraseIdx_cons_zero] at H4
  clear H3 hb4
  obtain ⟨x0, x1, -, -⟩ := H4.box2 1 rfl
  by_cases h0 : X.length = 0
  · obtain rfl : X = [] := List.length_eq_zero_iff.1 h0
    clear h0 x0 x1
    go_wp2_with fail
    refine (alive_any _).mono ?_
    rintro e w8 ⟨rfl, hb⟩
    have HB := (H4.call hb).below
    clear H4 hb
    go_wp2
    go_ret
    exact ⟨rfl, HB⟩
  · obtain ⟨hv, f1⟩ := mSizes_facts (h := T) (rs := xs) (by rw [← HXe.out]; rintro rfl; exact h0 rfl)
    have hXe : X = sizesTo T.cells xs T.cells.length := HXe.out.trans f1
    have hX6 : X.length = 6 := by rw [hXe, sizesTo_length]
    obtain ⟨g1, g2, g3, g4, g5⟩ := drop_at hv (by omega : (1 : Int) ≤ 1) (by omega)
    obtain ⟨r1, r2, r3, r4, r5⟩ := sz_rel hv (by omega : (1 : Int) ≤ 1) (by omega) T.cells.length (Nat.le_refl _)
    rw [← hXe] at r2
    have hlen := (mRegions_parts hv).1
    have HV := Go.Lib.hid hv
    obtain ⟨P, hP⟩ : ∃ P, P = mDropH T xs 1 := ⟨_, rfl⟩
    obtain ⟨Y, hY⟩ : ∃ Y, Y = mDropL T xs 1 := ⟨_, rfl⟩
    have HPc : Hid (P.cells = drCells T.cells xs 1) := Go.Lib.hid (by rw [hP, g1])
    have hPl : P.cells.length = T.cells.length := by rw [HPc.out, drCells_len]
    have hl1 : P.cells.length ≤ T.cells.length := by omega
    have hl1' : T.cells.length ≤ P.cells.length := by omega
    have hl3 : xs.length ≤ T.cells.length := by omega
    have hl3' : T.cells.length ≤ xs.length := by omega
    have hU0 : X.getD 0 0 = ((usedTo P.cells P.cells.length : Nat) : Int) := by
      have k0 := r2 0 (by omega) (by omega)
      have k1 := r3 1 (by omega) (by omega)
      have k2 := r3 2 (by omega) (by omega)
      have k3 := r3 3 (by omega) (by omega)
      have k4 := r3 4 (by omega) (by omega)
      have k5 := r3 5 (by omega) (by omega)
      rw [hPl, HPc.out]
      omega
    have HPok : Hid (heapOk P = true) := Go.Lib.hid (by rw [hP]; exact g5)
    rw [← hP, ← hY] at g4
    obtain ⟨x6, hx6⟩ : ∃ x, Hid (X[0]? = some x) := ⟨_, Go.Lib.hid (List.getElem?_eq_getElem (by omega))⟩
    rw [List.getD_eq_getElem?_getD, hx6.out] at hU0
    simp only [Option.getD_some] at hU0
    have HU0 := Go.Lib.hid hU0
    have h6' : 6 ≤ X.length := by omega
    clear f1 hXe g1 g2 g3 g4 g5 r1 r2 r3 r4 r5 hU0 hX6 h0 hv hPl hlen
    go_wp2_with fail
    refine (implDropRegion_any _ _ _ _ T _ _ _ xs 1 (H4.rdHx 3 4 rfl rfl HT.out) (H4.owI 2 rfl).rdI HR3.out).mono ?_
    rintro e w5 ⟨cv6, rvs6, rv6, lv6, rfl, K⟩
    rw [← hP, ← hY] at K
    have H6 := H4.merge K
    simp only [List.cons_append, List.nil_append] at H6
    clear H4 K x0 x1 hP hY
    obtain ⟨C6, k6, rfl, -⟩ := H6.formC 0 rfl
    obtain ⟨R6, kR6, rfl, -⟩ := H6.formI 1 rfl
    obtain ⟨A6, kA6, rfl, -⟩ := H6.formI 2 rfl
    have H7 := H6.box [.slice C6 P.cells.length k6, .slice R6 P.roots.length kR6] 26
    clear H6
    obtain ⟨x0, x1, -, -⟩ := H7.box2 0 rfl
    go_wp2_with fail
    refine (implUsedCells_any _ _ _ P (H7.rdHx 1 2 rfl rfl (.inl ⟨rfl, rfl⟩)) HPok.out).mono ?_
    rintro e w6 ⟨⟨y, rfl⟩, hb6⟩
    rw [← HU0.out]
    have H8 := H7.call hb6
    clear H7 hb6 x0 x1 HU0
    go_wp2_with fail
    go_loopw [11] (fun i wr => ∃ k : Nat, i = .int .i64 k ∧ k ≤ P.cells.length ∧ Owns w.heap.size w wr [.box w5.heap.size [.slice C6 P.cells.length k6, .slice R6 P.roots.length kR6] 26, .cells (.slice C6 P.cells.length k6) rvs6 P.cells, .ints (.slice R6 P.roots.length kR6) P.roots, .ints (.slice A6 Y.length kA6) Y, .ints (.slice A2 X.length k2) X, .box w1.heap.size [.slice C T.cells.length kC, .slice R nR kR] 26, .ints (.slice V xs.length kV) xs, .cells (.slice C T.cells.length kC) rvs T.cells, .ints rv0 rs0]) (fun i _ => P.cells.length - (intOf i).toNat)
    case atStart => exact ⟨0, rfl, Nat.zero_le _, H8⟩
    case round =>
      clear H8
      obtain ⟨k, rfl, hk, H⟩ := hrel
      obtain ⟨x0, x1, -, -⟩ := H.box2 0 rfl
      obtain ⟨y0, y1, -, -⟩ := H.box2 5 rfl
      by_cases hlt : k < P.cells.length
      · obtain ⟨l, hl0⟩ : ∃ l, Hid (T.cells[k]? = some l) := ⟨_, Go.Lib.hid (List.getElem?_eq_getElem (by omega))⟩
        obtain ⟨r, hr0, hrn, -, -, -⟩ := rg_parts HV.out hl0.out
        have hPk := drCells_at (rs := xs) (f := 1) hl0.out
        rw [drB_at hr0, ← HPc.out] at hPk
        obtain ⟨g6, c6, e6, -, -, -, -⟩ := H.rowAt 6 rfl (by omega)
        simp only [Value.slice.injEq] at e6
        obtain ⟨rfl, -, rfl⟩ := e6
        obtain ⟨z6, -⟩ := H.elem 6 rfl (j := k) (u := .int .i64 r) (by rw [List.getElem?_map, hr0]; rfl)
        obtain ⟨gP, cP, A3, c3, eP, -, u1, -, -, -, -, -, -, -⟩ := H.cellW 1 rfl (Go.Lib.hid hPk)
        simp only [Value.slice.injEq] at eP
        obtain ⟨rfl, -, rfl⟩ := eP
        obtain ⟨gT, cT, A4, c4, eT, -, u2, -, -, -, -, -, -, -⟩ := H.cellW 7 rfl hl0
        simp only [Value.slice.injEq] at eT
        obtain ⟨rfl, -, rfl⟩ := eT
        have i1 : (0 : Int) ≤ (k : Int) := by omega
        have i2 : (k : Int) < (P.cells.length : Int) := by omega
        have i3 : (k : Int) < (T.cells.length : Int) := by omega
        have i4 : (k : Int) < (xs.length : Int) := by omega
        have HX := H.drew
        have H0 := Go.Lib.hid H
        have hPu : (if decide (1 ≤ r) = true then noCel else l).used = (l.used && (r == 0)) := by
          by_cases h1 : 1 ≤ r
          · have e0 : (r == 0) = false := by simp; omega
            rw [decide_eq_true h1, if_pos rfl, e0, Bool.and_false]; rfl
          · have e0 : (r == 0) = true := by simp; omega
            rw [decide_eq_false h1, if_neg Bool.false_ne_true, e0, Bool.and_true]
        rw [hPu] at u1
        clear hPu hPk hl0 hr0 H
        cases hlu : l.used
        · rw [hlu] at u1 u2
          rw [Bool.false_and] at u1
          clear hlu
          go_wp2_with fail
          refine wp_region_tree (fun w' => w'.cell? ⟨w5.heap.size, 0, none⟩ = some (.slice (some ⟨gP, 0, none⟩) P.cells.length k6) ∧ w'.cell? ⟨w1.heap.size, 0, none⟩ = some (.slice (some ⟨gT, 0, none⟩) T.cells.length kC) ∧ w'.cell? ⟨gP, k * 3, none⟩ = some (.bool false) ∧ w'.cell? ⟨gT, k * 3, none⟩ = some (.bool false) ∧ w'.cell? ⟨g6, k, none⟩ = some (.int .i64 r)) 20 [] (.take 0 (.take 1 (.take 2 (.take 3 (.take 4 (.take 5 (.take 6 (.take 7 (.take 8 (.take 9 (.take 10 (.take 11 (.take 12 (.take 13 (.take 14 (.take 15 (.take 16 (.take 17 (.take 18 (.take 19 (.done))))))))))))))))))))) (by kernel_rfl) (by kernel_rfl) (by kernel_rfl) (⟨x0, y0, u1, u2, z6⟩) ?_
          simp only [fillT, List.getElem?_cons_zero, List.getElem?_cons_succ]
          repeat (first
            | (with_reducible refine po_take (v := ?_) ?_ (fun w' hS' => ?_) ?_
               rotate_left
               · (go_simp; done)
               · ((try dsimp only at hS'); go_simp; try with_reducible rfl)
               simp only [Act.put, List.setIfInBounds_toArray, List.set_cons_zero, List.set_cons_succ])
            | (with_reducible refine po_skip ?_ ?_
               · (go_simp; done)
               simp only [Act.put, List.setIfInBounds_toArray, List.set_cons_zero, List.set_cons_succ]))
          refine po_done ?_
          go_wp2
          go_roundw
          case rel => exact ⟨k + 1, by go_num, by omega, HX⟩
          case measure => simp [intOf]; omega
        · rw [hlu] at u1 u2
          rw [Bool.true_and] at u1
          clear hlu
          by_cases h1 : r = 0
          · subst h1
            go_wp2_with fail
            refine wp_region_tree (fun w' => w'.cell? ⟨w5.heap.size, 0, none⟩ = some (.slice (some ⟨gP, 0, none⟩) P.cells.length k6) ∧ w'.cell? ⟨w1.heap.size, 0, none⟩ = some (.slice (some ⟨gT, 0, none⟩) T.cells.length kC) ∧ w'.cell? ⟨gP, k * 3, none⟩ = some (.bool true) ∧ w'.cell? ⟨gT, k * 3, none⟩ = some (.bool true) ∧ w'.cell? ⟨g6, k, none⟩ = some (.int .i64 0)) 20 [] (.take 0 (.take 1 (.take 2 (.take 3 (.take 4 (.take 5 (.take 6 (.take 7 (.take 8 (.take 9 (.take 10 (.take 11 (.take 12 (.take 13 (.take 14 (.take 15 (.take 16 (.take 17 (.take 18 (.take 19 (.done))))))))))))))))))))) (by kernel_rfl) (by kernel_rfl) (by kernel_rfl) (⟨x0, y0, u1, u2, z6⟩) ?_
            simp only [fillT, List.getElem?_cons_zero, List.getElem?_cons_succ]
            repeat (first
              | (with_reducible refine po_take (v := ?_) ?_ (fun w' hS' => ?_) ?_
                 rotate_left
                 · (go_simp; done)
                 · ((try dsimp only at hS'); go_simp; try with_reducible rfl)
                 simp only [Act.put, List.setIfInBounds_toArray, List.set_cons_zero, List.set_cons_succ])
              | (with_reducible refine po_skip ?_ ?_
                 · (go_simp; done)
                 simp only [Act.put, List.setIfInBounds_toArray, List.set_cons_zero, List.set_cons_succ]))
            refine po_done ?_
            go_wp2
            go_roundw
            case rel => exact ⟨k + 1, by go_num, by omega, HX⟩
            case measure => simp [intOf]; omega
          · have e0 : (r == 0) = false := by simp; omega
            rw [e0] at u1
            go_wp2_with fail
            refine wp_region_tree (fun w' => w'.cell? ⟨w5.heap.size, 0, none⟩ = some (.slice (some ⟨gP, 0, none⟩) P.cells.length k6) ∧ w'.cell? ⟨w1.heap.size, 0, none⟩ = some (.slice (some ⟨gT, 0, none⟩) T.cells.length kC) ∧ w'.cell? ⟨gP, k * 3, none⟩ = some (.bool false) ∧ w'.cell? ⟨gT, k * 3, none⟩ = some (.bool true) ∧ w'.cell? ⟨g6, k, none⟩ = some (.int .i64 r)) 20 [] (.take 0 (.take 1 (.take 2 (.take 3 (.take 4 (.take 5 (.take 6 (.take 7 (.take 8 (.take 9 (.take 10 (.take 11 (.take 12 (.take 13 (.take 14 (.take 15 (.take 16 (.take 17 (.take 18 (.take 19 (.done))))))))))))))))))))) (by kernel_rfl) (by kernel_rfl) (by kernel_rfl) (⟨x0, y0, u1, u2, z6⟩) ?_
            simp only [fillT, List.getElem?_cons_zero, List.getElem?_cons_succ]
            repeat (first
              | (with_reducible refine po_take (v := ?_) ?_ (fun w' hS' => ?_) ?_
                 rotate_left
                 · (go_simp; done)
                 · ((try dsimp only at hS'); go_simp; try with_reducible rfl)
                 simp only [Act.put, List.setIfInBounds_toArray, List.set_cons_zero, List.set_cons_succ])
              | (with_reducible refine po_skip ?_ ?_
                 · (go_simp; done)
                 simp only [Act.put, List.setIfInBounds_toArray, List.set_cons_zero, List.set_cons_succ]))
            refine po_done ?_
            go_wp2
            go_roundw
            case rel => exact ⟨k + 1, by go_num, by omega, HX⟩
            case measure => simp [intOf]; omega
      · obtain ⟨g1, c1, e1, -, -, -, -⟩ := H.rowAt 4 rfl (by omega)
        simp only [Value.slice.injEq] at e1
        obtain ⟨rfl, -, rfl⟩ := e1
        obtain ⟨z1, -⟩ := H.elem 4 rfl (j := 0) (u := .int .i64 x6) (by rw [List.getElem?_map, hx6.out]; rfl)
        have HB := H.below
        clear H hx6
        go_wp2
        go_ret
        exact ⟨rfl, HB⟩
end Go.Proofs.Ytmhcajjlhiopmaa
