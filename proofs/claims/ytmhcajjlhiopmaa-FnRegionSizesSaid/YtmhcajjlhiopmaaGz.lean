/- The law FnRegionSizes' walk, for every code that can be read. -/
import Derived.Test.YtmhcajjlhiopmaaZd
namespace Go.Proofs.Ytmhcajjlhiopmaa
open Go.RowKit
set_option maxHeartbeats 6400000 in
set_option maxRecDepth 20000 in
theorem lawRegionSizes_any (w : World) {A : Option Addr} {n c : Nat} {bs : List Int} (hr : RdY w w.heap.size A n c bs) :
    Calls Try.prog 7 #[.slice A n c] w fun e w' => e = .returned (.bool true) ∧ Below w.heap.size w w' := by
  by_cases s0 : 1048576 < n
  · go_enter Try.func7, Try.ntmps7
    go_wp2
    go_ret
    exact ⟨rfl, Below.refl _ _⟩
  go_enter Try.func7, Try.ntmps7
  go_wp2_with fail
  refine (DrawRegionSizes_any w A n c bs hr).mono ?_
  rintro e w1 ⟨T, cv, rvs, rv, rv0, v, rs0, xs, rfl, hS, ht, hxl, H1⟩
  obtain ⟨C, kC, rfl, -⟩ := H1.formC 1 rfl
  obtain ⟨R0, kR0, e0, -⟩ := H1.formI 2 rfl
  obtain ⟨R, nR, kR, rfl⟩ := ht.form e0
  obtain ⟨V, kV, rfl, -⟩ := H1.formI 0 rfl
  have HT := Go.Lib.hid ht
  have HR3 : Hid (∀ c ∈ T.cells, c.refs.length ≤ 1048576) := Go.Lib.hid fun c hc => by have := hS.refs c hc; omega
  clear e0 ht hS hr s0
  have H := H1.box [.slice C T.cells.length kC, .slice R nR kR] 26
  clear H1
  obtain ⟨x0, x1, -, -⟩ := H.box2 0 rfl
  go_wp2_with fail
  refine (implRegionSizes_any _ _ _ _ T _ _ _ xs (H.rdHx 2 3 rfl rfl HT.out) (H.owI 1 rfl).rdI).mono ?_
  rintro e w2 ⟨v2, rfl, ho2, hb2⟩
  obtain ⟨X, hX⟩ : ∃ X, X = mRegionSizes T xs := ⟨_, rfl⟩
  rw [← hX] at ho2
  have HXe := Go.Lib.hid hX
  clear hX
  have H2 := H.madeI ho2 hb2
  clear H ho2 hb2 x0 x1
  obtain ⟨A2, k2, rfl, -⟩ := H2.formI 0 rfl
  obtain ⟨x0, x1, -, -⟩ := H2.box2 1 rfl
  go_wp2_with fail
  refine (specRegionSizes_any _ _ _ _ T _ _ _ xs (H2.rdHx 3 4 rfl rfl HT.out) (H2.owI 2 rfl).rdI).mono ?_
  rintro e w3 ⟨v3, rfl, ho3, hb3⟩
  rw [← HXe.out] at ho3
  have H3 := H2.madeI ho3 hb3
  clear H2 ho3 hb3 x0 x1
  obtain ⟨A3, k3, rfl, -⟩ := H3.formI 0 rfl
  go_wp2_with fail
  refine (sameInts_yes _ _ _ _ _ _ _ _ _ X (H3.owI 1 rfl).rdI (H3.owI 0 rfl).rdI).mono ?_
  rintro e w4 ⟨rfl, hb4⟩
  have H4 := (H3.call hb4).erase 0
  simp only [List.eraseIdx_cons_zero] at H4
  clear H3 hb4
  obtain ⟨x0, x1, -, -⟩ := H4.box2 1 rfl
  by_cases h0 : X.length = 0
  · obtain rfl : X = [] := List.length_eq_zero_iff.1 h0
    clear h0 x0 x1
    go_wp2_with fail
    refine (alive_any _).mono ?_
    rintro e w8 ⟨rfl, hb⟩
    have HB := (H4.call hb).below
    clear H4 hb
    go_wp2
    go_ret
    exact ⟨rfl, HB⟩
  · obtain ⟨hv, f1⟩ := mSizes_facts (h := T) (rs := xs) (by rw [← HXe.out]; rintro rfl; exact h0 rfl)
    have hXe : X = sizesTo T.cells xs T.cells.length := HXe.out.trans f1
    have hX6 : X.length = 6 := by rw [hXe, sizesTo_length]
    obtain ⟨g1, g2, g3, g4, g5⟩ := drop_at hv (by omega : (1 : Int) ≤ 3) (by omega)
    obtain ⟨r1, r2, r3, r4, r5⟩ := sz_rel hv (by omega : (1 : Int) ≤ 3) (by omega) T.cells.length (Nat.le_refl _)
    have hsm : ∀ q, 0 ≤ X.getD q 0 ∧ X.getD q 0 ≤ 40 := fun q => by
      have h1 := sizesTo_small (cs := T.cells) (rs := xs) T.cells.length q
      have h2 := (heapOk_small (mRegions_parts hv).2.1).1
      rw [hXe]; omega
    have HOK := Go.Lib.hid (mRegions_parts hv).2.1
    rw [← hXe] at r1 r2
    rw [← g4] at r2 r3 r4
    have HD := Go.Lib.hid g3
    have HP : Hid (∃ a b c d e g : Int, X = [a, b, c, d, e, g] ∧ mRegionSizes (mDropH T xs 3) (mDropL T xs 3) = [a, b, c, 0, 0, 0] ∧ ((usedTo T.cells T.cells.length : Nat) : Int) = a + b + c + d + e + g ∧ ((drTo xs 3 T.cells.length : Nat) : Int) = d + e + g ∧ (0 ≤ d ∧ d ≤ 40) ∧ (0 ≤ e ∧ e ≤ 40) ∧ 0 ≤ g ∧ g ≤ 40) := Go.Lib.hid (by
      obtain ⟨a, b, c, d, e, g, rfl⟩ := six_of hX6
      have hZ6 : (mRegionSizes (mDropH T xs 3) (mDropL T xs 3)).length = 6 := by rw [g4, sizesTo_length]
      obtain ⟨a', b', c', d', e', g', hZ⟩ := six_of hZ6
      rw [hZ] at r2 r3 r4 ⊢
      have k0 := r2 0 (by omega) (by omega)
      have k1 := r2 1 (by omega) (by omega)
      have k2 := r2 2 (by omega) (by omega)
      have k3 := r3 3 (by omega) (by omega)
      have k4 := r3 4 (by omega) (by omega)
      have k5 := r3 5 (by omega) (by omega)
      have m3 := hsm 3
      have m4 := hsm 4
      have m5 := hsm 5
      simp only [List.getD_cons_zero, List.getD_cons_succ] at r1 k0 k1 k2 k3 k4 k5 m3 m4 m5 r4
      subst k0 k1 k2 k3 k4 k5
      refine ⟨_, _, _, _, _, _, rfl, rfl, by omega, by omega, m3, m4, m5⟩)
    have HS2 := Go.Lib.hid hsm
    have h6 : X.length ≤ 6 := by omega
    have h6' : 6 ≤ X.length := by omega
    clear hv f1 hXe HXe g1 g2 g3 g4 g5 r1 r2 r3 r4 r5 hsm x0 x1 h0 hX6
    go_wp2_with fail
    go_loopw [6, 7] (fun v i wr => ∃ (k : Nat) (t : Int), v = .int .i64 t ∧ i = .int .i64 k ∧ k ≤ X.length ∧ t = (X.take k).sum ∧ 0 ≤ t ∧ t ≤ 40 * k ∧ Owns w.heap.size w wr [.ints (.slice A2 X.length k2) X, .box w1.heap.size [.slice C T.cells.length kC, .slice R nR kR] 26, .ints (.slice V xs.length kV) xs, .cells (.slice C T.cells.length kC) rvs T.cells, .ints rv0 rs0]) (fun _ i _ => X.length - (intOf i).toNat)
    case atStart => exact ⟨0, 0, rfl, rfl, Nat.zero_le _, by simp, by omega, by omega, H4⟩
    case round =>
      clear H4
      obtain ⟨k, t, rfl, rfl, hk, ht, ht0, ht1, H⟩ := hrel
      by_cases hlt : k < X.length
      · obtain ⟨x, hx0⟩ : ∃ x, Hid (X[k]? = some x) := ⟨_, Go.Lib.hid (List.getElem?_eq_getElem (by omega))⟩
        have hxx := HS2.out k
        rw [List.getD_eq_getElem?_getD, hx0.out] at hxx
        simp only [Option.getD_some] at hxx
        have hst : Hid (t + x = (X.take (k + 1)).sum) := Go.Lib.hid (by rw [take_snoc' hx0, List.sum_append, ht]; simp)
        obtain ⟨g1, c1, e1, -, -, -, -⟩ := H.rowAt 0 rfl (by omega)
        simp only [Value.slice.injEq] at e1
        obtain ⟨rfl, -, rfl⟩ := e1
        obtain ⟨z1, -⟩ := H.elem 0 rfl (j := k) (u := .int .i64 x) (by rw [List.getElem?_map, hx0.out]; rfl)
        have i1 : (0 : Int) ≤ (k : Int) := by omega
        have i2 : (k : Int) < (X.length : Int) := by omega
        have t1 : IntKind.i64.wrap (t + x) = t + x := IntWalk.i64_in _ (by omega)
        clear hx0 ht
        go_wp2
        go_roundw
        case rel => exact ⟨k + 1, t + x, rfl, by go_num, by omega, hst.out, by omega, by omega, H⟩
        case measure => simp [intOf]; omega
      · rw [List.take_of_length_le (by omega)] at ht
        have HTs := Go.Lib.hid ht
        clear ht
        obtain ⟨x0, x1, -, -⟩ := H.box2 1 rfl
        go_wp2_with fail
        clear hk hlt
        refine (implUsedCells_any _ _ _ T (H.rdHx 3 4 rfl rfl HT.out) HOK.out).mono ?_
        rintro e w5 ⟨⟨y, rfl⟩, hb5⟩
        have H5 := H.call hb5
        clear H hb5 x0 x1
        obtain ⟨x0, x1, -, -⟩ := H5.box2 1 rfl
        go_wp2_with fail
        refine (implDropRegion_any _ _ _ _ T _ _ _ xs 3 (H5.rdHx 3 4 rfl rfl HT.out) (H5.owI 2 rfl).rdI HR3.out).mono ?_
        rintro e w6 ⟨cv6, rvs6, rv6, lv6, rfl, K⟩
        rw [HD.out]
        obtain ⟨a, b, c', d, e, g, hXl, hZl, hu, hd, hdb, heb, hgb⟩ := HP.out
        subst hXl
        have ht := HTs.out
        simp only [List.sum_cons, List.sum_nil] at ht
        clear HTs
        obtain ⟨P, hP⟩ : ∃ P, P = mDropH T xs 3 := ⟨_, rfl⟩
        obtain ⟨Y, hY⟩ : ∃ Y, Y = mDropL T xs 3 := ⟨_, rfl⟩
        rw [← hP, ← hY] at K hZl
        have HZl := Go.Lib.hid hZl
        have htu : t = ((usedTo T.cells T.cells.length : Nat) : Int) := by omega
        have HTU := Go.Lib.hid htu
        have HDd := Go.Lib.hid hd
        clear htu ht hu hd
        have H6 := H5.merge K
        simp only [List.cons_append, List.nil_append, List.length_cons, List.length_nil, Nat.zero_add, Nat.reduceAdd] at H6
        clear H5 K x0 x1 hP hY hZl HP HD h6 h6' HS2
        obtain ⟨C6, k6, rfl, -⟩ := H6.formC 0 rfl
        obtain ⟨R6, kR6, rfl, -⟩ := H6.formI 1 rfl
        obtain ⟨A6, kA6, rfl, -⟩ := H6.formI 2 rfl
        have H7 := H6.box [.slice C6 P.cells.length k6, .slice R6 P.roots.length kR6] 26
        clear H6
        obtain ⟨x0, x1, -, -⟩ := H7.box2 0 rfl
        go_wp2_with fail
        refine (implRegionSizes_any _ _ _ _ P _ _ _ Y (H7.rdHx 1 2 rfl rfl (.inl ⟨rfl, rfl⟩)) (H7.owI 3 rfl).rdI).mono ?_
        rintro e w7 ⟨v7, rfl, ho7, hb7⟩
        rw [HZl.out] at ho7
        have H8 := H7.madeI ho7 hb7
        clear H7 ho7 hb7 x0 x1
        obtain ⟨g7, c7, rfl, hc7, hc8, -, -⟩ := H8.rowAt 0 rfl (by simp)
        obtain ⟨g5, c5, e5, hc5, hc6, -, -⟩ := H8.rowAt 5 rfl (by simp)
        simp only [Value.slice.injEq] at e5
        obtain ⟨rfl, -, rfl⟩ := e5
        simp only [List.length_cons, List.length_nil, Nat.zero_add, Nat.reduceAdd] at H8 hc7 hc5 ⊢
        unfold maxLen at hc8 hc6
        have c3 : 3 ≤ c7 := by omega
        have c4 : 3 ≤ k2 := by omega
        have t3 : IntKind.i64.wrap 0 = 0 := IntWalk.i64_in _ (by omega)
        have c5 : (3 : Int) ≤ (c7 : Int) := by omega
        have c6 : (3 : Int) ≤ (k2 : Int) := by omega
        obtain ⟨p3, -⟩ := H8.elem 0 rfl (j := 3) (u := .int .i64 0) rfl
        obtain ⟨p4, -⟩ := H8.elem 0 rfl (j := 4) (u := .int .i64 0) rfl
        obtain ⟨p5, -⟩ := H8.elem 0 rfl (j := 5) (u := .int .i64 0) rfl
        obtain ⟨q3, -⟩ := H8.elem 5 rfl (j := 3) (u := .int .i64 d) rfl
        obtain ⟨q4, -⟩ := H8.elem 5 rfl (j := 4) (u := .int .i64 e) rfl
        obtain ⟨q5, -⟩ := H8.elem 5 rfl (j := 5) (u := .int .i64 g) rfl
        have r7 := ((H8.owI 0 rfl).rdI).cutN 3 (by simp)
        have r5 := ((H8.owI 5 rfl).rdI).cutN 3 (by simp)
        simp only [List.take_succ_cons, List.take_zero] at r7 r5
        have R7 := Go.Lib.hid r7
        have R5 := Go.Lib.hid r5
        have t1 : IntKind.i64.wrap (d + e) = d + e := IntWalk.i64_in _ (by omega)
        have t2 : IntKind.i64.wrap (d + e + g) = d + e + g := IntWalk.i64_in _ (by omega)
        rw [HTU.out, HDd.out]
        generalize ((usedTo T.cells T.cells.length : Nat) : Int) = uu at *
        clear r7 r5
        go_wp2_with fail
        have HX := H8.drew
        have H0 := Go.Lib.hid H8
        clear H8
        refine wp_region_tree (fun w' => w'.cell? ⟨g7, 3, none⟩ = some (.int .i64 0) ∧ w'.cell? ⟨g7, 4, none⟩ = some (.int .i64 0) ∧ w'.cell? ⟨g7, 5, none⟩ = some (.int .i64 0) ∧ w'.cell? ⟨g5, 3, none⟩ = some (.int .i64 d) ∧ w'.cell? ⟨g5, 4, none⟩ = some (.int .i64 e) ∧ w'.cell? ⟨g5, 5, none⟩ = some (.int .i64 g)) 52 [] (.take 0 (.take 1 (.take 2 (.take 3 (.take 4 (.take 5 (.take 6 (.take 7 (.take 8 (.take 9 (.take 10 (.take 11 (.take 12 (.take 13 (.take 14 (.take 15 (.take 16 (.take 17 (.take 18 (.take 19 (.alt 20 (.take 21 (.take 22 (.take 23 (.take 24 (.take 25 (.take 26 (.take 27 (.take 28 (.take 29 (.take 30 (.take 31 (.take 32 (.take 33 (.take 34 (.take 35 (.take 36 (.take 37 (.take 38 (.take 39 (.take 40 (.take 41 (.take 42 (.take 43 (.take 44 (.take 45 (.take 46 (.take 47 (.take 48 (.take 49 (.take 50 (.take 51 (.done)))))))))))))))))))))))))))))))) (.stop)))))))))))))))))))))) (by kernel_rfl) (by kernel_rfl) (by kernel_rfl) (⟨p3, p4, p5, q3, q4, q5⟩) ?_
        simp only [fillT, List.getElem?_cons_zero, List.getElem?_cons_succ, Nat.reduceBEq]
        repeat (first
          | (with_reducible refine po_take (v := ?_) ?_ (fun w' hS' => ?_) ?_
             rotate_left
             · (go_simp; done)
             · ((try dsimp only at hS'); go_simp; try with_reducible rfl)
             simp only [Act.put, List.setIfInBounds_toArray, List.set_cons_zero, List.set_cons_succ])
          | (with_reducible refine po_skip ?_ ?_
             · (go_simp; done)
             simp only [Act.put, List.setIfInBounds_toArray, List.set_cons_zero, List.set_cons_succ]))
        with_reducible refine po_run ?_ (fun K hK => ?_) ?_
        · (go_simp; done)
        rotate_left
        · exact po_stop
        go_simp
        refine (sameInts_yes _ _ _ _ _ _ _ _ _ [a, b, c'] (R7.out.below (Below.refl _ _).drew) (R5.out.below (Below.refl _ _).drew)).mono ?_
        rintro e w9 ⟨rfl, hb⟩
        replace HX := HX.call hb
        refine hK.out _ _ (.inr (⟨keepd p3 hb, keepd p4 hb, keepd p5 hb, keepd q3 hb, keepd q4 hb, keepd q5 hb⟩)) ?_
        clear hK K
        repeat (first
          | (with_reducible refine po_take (v := ?_) ?_ (fun w' hS' => ?_) ?_
             rotate_left
             · (go_simp; done)
             · ((try dsimp only at hS'); go_simp; try with_reducible rfl)
             simp only [Act.put, List.setIfInBounds_toArray, List.set_cons_zero, List.set_cons_succ])
          | (with_reducible refine po_skip ?_ ?_
             · (go_simp; done)
             simp only [Act.put, List.setIfInBounds_toArray, List.set_cons_zero, List.set_cons_succ]))
        refine po_done ?_
        have HB := HX.below
        clear HX H0 p3 p4 p5 q3 q4 q5
        go_wp2
        go_ret
        exact ⟨rfl, HB⟩
end Go.Proofs.Ytmhcajjlhiopmaa
