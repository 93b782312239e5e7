/- The drawing of a heap with regions, for every code that can be read. -/
import Derived.Test.YtmhcajjlhiopmaaOo
import Derived.Test.YtmhcajjlhiopmaaWrS
namespace Go.Proofs.Ytmhcajjlhiopmaa
open Go.RowKit
theorem mWanted_of (h : Hp) {ws : List Int} (hl : ws.length = 4) (h2 : ∀ x ∈ ws, regB x = true) : (mWantedRegions h ws).length ≤ 41 ∧ (heapOk h = true → (mWantedRegions h ws).length = h.cells.length) := by
  cases hy : heapOk h
  · rw [mWanted_no1 hy]
    exact ⟨by simp, fun h => by cases h⟩
  · rw [mWanted_yes hy hl fun j x _ hx => h2 x (List.mem_of_getElem? hx)]
    have := (heapOk_small hy).1
    exact ⟨by simp; omega, fun _ => by simp⟩
theorem regB_lt {j : Nat} (h : j < 6) : regB (j : Int) = true := by simp [regB]; omega
theorem mWanted_four (h : Hp) {a b c d : Nat} (ha : a < 6) (hb : b < 6) (hc : c < 6) (hd : d < 6) : (mWantedRegions h [(a : Int), (b : Int), (c : Int), (d : Int)]).length ≤ 41 ∧ (heapOk h = true → (mWantedRegions h [(a : Int), (b : Int), (c : Int), (d : Int)]).length = h.cells.length) := by
  refine mWanted_of h rfl ?_
  intro x hx
  simp only [List.mem_cons, List.not_mem_nil, or_false] at hx
  rcases hx with rfl | rfl | rfl | rfl
  · exact regB_lt ha
  · exact regB_lt hb
  · exact regB_lt hc
  · exact regB_lt hd
/-- A heap and regions were drawn. -/
def DrewR (lo : Nat) (w0 : World) (L : List OB) (i g : Nat) (A : Option Addr) (n c p : Nat) (e : Ending) (w' : World) : Prop :=
  ∃ (h : Hp) (cv : Value) (rvs : List Value) (rv rv0 v : Value) (rs0 xs : List Int) (p' : Nat), e = .returned (.tuple #[.agg #[cv, rv], v]) ∧ SmG h ∧ TailOf rv rv0 h.roots rs0 ∧ xs.length ≤ 60 ∧ (heapOk h = true → xs.length = h.cells.length ∨ xs.length = h.cells.length + 1) ∧ p ≤ p' ∧ p' ≤ p + 2000 ∧ Owns lo w0 w' (.ints v xs :: .cells cv rvs h.cells :: .ints rv0 rs0 :: L.set i (.rdr g A n c p'))
/-- A heap and regions, of the call's own. -/
def DrawnR (w : World) (e : Ending) (w' : World) : Prop :=
  ∃ (h : Hp) (cv : Value) (rvs : List Value) (rv rv0 v : Value) (rs0 xs : List Int), e = .returned (.tuple #[.agg #[cv, rv], v]) ∧ SmG h ∧ TailOf rv rv0 h.roots rs0 ∧ xs.length ≤ 60 ∧ (heapOk h = true → xs.length = h.cells.length ∨ xs.length = h.cells.length + 1) ∧ Owns w.heap.size w w' [.ints v xs, .cells cv rvs h.cells, .ints rv0 rs0]
set_option maxHeartbeats 6400000 in
set_option maxRecDepth 20000 in
theorem regions_own {lo : Nat} {w0 w : World} {L : List OB} {g : Nat} {A : Option Addr} {n c p : Nat} (h : Owns lo w0 w L) (i : Nat) (hX : L[i]? = some (.rdr g A n c p)) {bs : List Int} (hr : RdU w0 lo A n c bs) (hp : p ≤ 600000) (N : Int) (hN0 : 1 ≤ N) (hN1 : N ≤ 1000) :
    Calls Try.prog 58 #[.pointer (some ⟨g, 0, none⟩), .int .i64 N] w (DrewR lo w0 L i g A n c p) := by
  have H := h.box [.slice none 0 0, .slice none 0 0] 26
  clear h
  go_enter Try.func58, Try.ntmps58
  go_wp2_with fail
  refine (heap_own H (i + 1) hX hr (by omega) 0 (by omega) (by omega)).mono ?_
  rintro e w1 ⟨T, cv, rvs, rv, rv0, rs0, p1, rfl, hS, ht, hp1, hp2, H1⟩
  simp only [List.set_cons_succ] at H1
  obtain ⟨C, kC, rfl, -⟩ := H1.formC 0 rfl
  obtain ⟨R0, kR0, e0, -⟩ := H1.formI 1 rfl
  obtain ⟨R, nR, kR, rfl⟩ := ht.form e0
  clear e0 H
  have H2 := H1.box [.slice C T.cells.length kC, .slice R nR kR] 26
  clear H1
  have HT := Go.Lib.hid ht
  have HS := Go.Lib.hid hS
  clear ht hS
  go_wp2_with fail
  have HX := H2.drew
  have H0 := Go.Lib.hid H2
  clear H2
  obtain ⟨x0, x1, -, -⟩ := HX.box2 0 rfl
  refine wp_region_tree (fun w' => w'.cell? ⟨w1.heap.size, 0, none⟩ = some (.slice C T.cells.length kC) ∧ w'.cell? ⟨w1.heap.size, 1, none⟩ = some (.slice R nR kR)) 12 [] (.take 0 (.take 1 (.take 3 (.take 5 (.take 7 (.alt 2 (.alt 4 (.alt 6 (.alt 8 (.alt 9 (.alt 10 (.take 11 (.done)) (.stop)) (.stop)) (.stop)) (.stop)) (.stop)) (.stop))))))) (by kernel_rfl) (by kernel_rfl) (by kernel_rfl) (⟨x0, x1⟩) ?_
  simp only [fillT, List.getElem?_cons_zero, List.getElem?_cons_succ, Nat.reduceBEq]
  repeat (first
    | (with_reducible refine po_take (v := ?_) ?_ (fun w' hS' => ?_) ?_
       rotate_left
       · (go_simp; done)
       · ((try dsimp only at hS'); go_simp; try with_reducible rfl)
       simp only [Act.put, List.setIfInBounds_toArray, List.set_cons_zero, List.set_cons_succ])
    | (with_reducible refine po_skip ?_ ?_
       · (go_simp; done)
       simp only [Act.put, List.setIfInBounds_toArray, List.set_cons_zero, List.set_cons_succ]))
  with_reducible refine po_run ?_ (fun K hK => ?_) ?_
  · (go_simp; done)
  rotate_left
  · exact po_stop
  try (revert x0 x1 HX; generalize World.drew _ = wd; intro HX x0 x1)
  go_simp
  refine (pick_own HX (i + 4) (set_get hX _) hr (by omega) 6 (by unfold I64; omega)).mono ?_
  rintro e wa0 ⟨j0, rfl, hj0, HY⟩
  replace hj0 : j0 < 6 := by omega
  simp only [List.set_cons_succ, List.set_set] at HY
  clear HX x0 x1
  have HX := HY
  clear HY
  obtain ⟨x0, x1, -, -⟩ := HX.box2 0 rfl
  refine hK.out _ _ (.inr (⟨x0, x1⟩)) ?_
  clear hK K
  with_reducible refine po_run ?_ (fun K hK => ?_) ?_
  · (go_simp; done)
  rotate_left
  · exact po_stop
  go_simp
  refine (pick_own HX (i + 4) (set_get hX _) hr (by omega) 6 (by unfold I64; omega)).mono ?_
  rintro e wa1 ⟨j1, rfl, hj1, HY⟩
  replace hj1 : j1 < 6 := by omega
  simp only [List.set_cons_succ, List.set_set] at HY
  clear HX x0 x1
  have HX := HY
  clear HY
  obtain ⟨x0, x1, -, -⟩ := HX.box2 0 rfl
  refine hK.out _ _ (.inr (⟨x0, x1⟩)) ?_
  clear hK K
  with_reducible refine po_run ?_ (fun K hK => ?_) ?_
  · (go_simp; done)
  rotate_left
  · exact po_stop
  go_simp
  refine (pick_own HX (i + 4) (set_get hX _) hr (by omega) 6 (by unfold I64; omega)).mono ?_
  rintro e wa2 ⟨j2, rfl, hj2, HY⟩
  replace hj2 : j2 < 6 := by omega
  simp only [List.set_cons_succ, List.set_set] at HY
  clear HX x0 x1
  have HX := HY
  clear HY
  obtain ⟨x0, x1, -, -⟩ := HX.box2 0 rfl
  refine hK.out _ _ (.inr (⟨x0, x1⟩)) ?_
  clear hK K
  with_reducible refine po_run ?_ (fun K hK => ?_) ?_
  · (go_simp; done)
  rotate_left
  · exact po_stop
  go_simp
  refine (pick_own HX (i + 4) (set_get hX _) hr (by omega) 6 (by unfold I64; omega)).mono ?_
  rintro e wa3 ⟨j3, rfl, hj3, HY⟩
  replace hj3 : j3 < 6 := by omega
  simp only [List.set_cons_succ, List.set_set] at HY
  clear HX x0 x1
  have HX := HY
  clear HY
  obtain ⟨x0, x1, -, -⟩ := HX.box2 0 rfl
  refine hK.out _ _ (.inr (⟨x0, x1⟩)) ?_
  clear hK K
  with_reducible refine po_run ?_ (fun K hK => ?_) ?_
  · (go_simp; done)
  rotate_left
  · exact po_stop
  go_simp
  replace HX := HX.litI [(j0 : Int), (j1 : Int), (j2 : Int), (j3 : Int)] (by show 4 ≤ maxLen; unfold maxLen; omega)
  try simp only [List.map_cons, List.map_nil, List.length_cons, List.length_nil, Nat.zero_add, Nat.reduceAdd] at HX
  clear x0 x1
  obtain ⟨x0, x1, -, -⟩ := HX.box2 1 rfl
  refine hK.out _ _ (.inr (⟨x0, x1⟩)) ?_
  clear hK K
  revert x0 x1 HX
  generalize World.alloc _ _ = wz
  intro HX x0 x1
  with_reducible refine po_run ?_ (fun K hK => ?_) ?_
  · (go_simp; done)
  rotate_left
  · exact po_stop
  go_simp
  refine (specWantedRegions_any _ _ _ _ T _ _ _ [(j0 : Int), (j1 : Int), (j2 : Int), (j3 : Int)] (HX.rdHx 2 3 rfl rfl HT.out) (HX.owI 0 rfl).rdI).mono ?_
  rintro e wb ⟨vb, rfl, hob, hbb⟩
  obtain ⟨X, hXX⟩ : ∃ X, X = mWantedRegions T [(j0 : Int), (j1 : Int), (j2 : Int), (j3 : Int)] := ⟨_, rfl⟩
  rw [← hXX] at hob
  have HXn : Hid (heapOk T = true → X.length = T.cells.length) := Go.Lib.hid (by rw [hXX]; exact (mWanted_four T hj0 hj1 hj2 hj3).2)
  have hX41 : X.length ≤ 41 := by rw [hXX]; exact (mWanted_four T hj0 hj1 hj2 hj3).1
  clear hXX
  have HY := (HX.madeI hob hbb).erase 1
  simp only [List.eraseIdx_cons_zero, List.eraseIdx_cons_succ] at HY
  clear HX x0 x1 hob hbb
  have HX := HY
  clear HY
  obtain ⟨x0, x1, -, -⟩ := HX.box2 1 rfl
  refine hK.out _ _ (.inr (⟨x0, x1⟩)) ?_
  clear hK K
  repeat (first
    | (with_reducible refine po_take (v := ?_) ?_ (fun w' hS' => ?_) ?_
       rotate_left
       · (go_simp; done)
       · ((try dsimp only at hS'); go_simp; try with_reducible rfl)
       simp only [Act.put, List.setIfInBounds_toArray, List.set_cons_zero, List.set_cons_succ])
    | (with_reducible refine po_skip ?_ ?_
       · (go_simp; done)
       simp only [Act.put, List.setIfInBounds_toArray, List.set_cons_zero, List.set_cons_succ]))
  refine po_done ?_
  clear x0 x1 H0
  obtain ⟨AX, kX, rfl, -⟩ := HX.formI 0 rfl
  go_wp2_with fail
  refine (odd_own HX (i + 5) (set_get hX _) hr (by omega) N (by omega) (by omega)).mono ?_
  rintro e w6 ⟨bo, rfl, H6⟩
  simp only [List.set_cons_succ, List.set_set] at H6
  clear HX
  cases bo
  · obtain ⟨w0_, w1_, -, -⟩ := H6.box2 1 rfl
    obtain ⟨y0, y1, y2, y3⟩ := H6.box2 4 rfl
    have HZ := (((H6.putBox 4 rfl 0 (.slice C T.cells.length kC)).putBox 4 rfl 1 (.slice R nR kR)).erase 1)
    simp only [List.set_cons_zero, List.set_cons_succ, List.eraseIdx_cons_zero, List.eraseIdx_cons_succ] at HZ
    obtain ⟨z0, z1, -, -⟩ := HZ.box2 3 rfl
    have HZ2 := HZ.erase 3
    simp only [List.eraseIdx_cons_zero, List.eraseIdx_cons_succ] at HZ2
    obtain ⟨z2, -, -, -⟩ := (H6.putBox 4 rfl 0 (.slice C T.cells.length kC)).box2 4 rfl
    have HSF : Hid (DrewR lo w0 L i g A n c p (.returned (.tuple #[.agg #[.slice C T.cells.length kC, .slice R nR kR], .slice AX X.length kX])) _) := Go.Lib.hid ⟨T, _, rvs, _, _, _, _, X, (p1 + 4 + 1), rfl, HS.out, HT.out, by omega, fun hk => .inl (HXn.out hk), by omega, by omega, HZ2⟩
    clear H6 HZ HZ2
    go_wp2
    exact bodyPost_ret (v := .tuple #[.agg #[.slice C T.cells.length kC, .slice R nR kR], .slice AX X.length kX]) (by simp [results, Try.results58, go_sem, z0, z1]) rfl HSF.out
  · by_cases hx0 : 0 < X.length
    rotate_left
    · have HA := H6.litI [0] one_le_maxLen
      simp only [List.map_cons, List.map_nil, List.length_cons, List.length_nil, Nat.zero_add] at HA
      go_wp2_with (at_builtin; go_loud (refine wpList_pushO rfl (.tmp 43) (.tmp 44) rfl HA 1 rfl rfl rfl (rdI_new _ _ _ rfl) (by simp; omega) ?_; intro A3 k3 w9 HB; simp only [List.set_cons_zero, List.set_cons_succ] at HB; have HE := HB.erase 0; simp only [List.eraseIdx_cons_zero, List.length_append, List.length_cons, List.length_nil, Nat.zero_add] at HE; clear HA HB; obtain ⟨w0_, w1_, -, -⟩ := HE.box2 1 rfl; obtain ⟨y0, y1, y2, y3⟩ := HE.box2 4 rfl; have HZ := (((HE.putBox 4 rfl 0 (.slice C T.cells.length kC)).putBox 4 rfl 1 (.slice R nR kR)).erase 1); simp only [List.set_cons_zero, List.set_cons_succ, List.eraseIdx_cons_zero, List.eraseIdx_cons_succ] at HZ; obtain ⟨z0, z1, -, -⟩ := HZ.box2 3 rfl; have HZ2 := HZ.erase 3; simp only [List.eraseIdx_cons_zero, List.eraseIdx_cons_succ] at HZ2; obtain ⟨z2, -, -, -⟩ := (HE.putBox 4 rfl 0 (.slice C T.cells.length kC)).box2 4 rfl; have HSF : Hid (DrewR lo w0 L i g A n c p (.returned (.tuple #[.agg #[.slice C T.cells.length kC, .slice R nR kR], .slice A3 (X.length + 1) k3])) _) := Go.Lib.hid ⟨T, _, rvs, _, _, _, _, (X ++ [0]), (p1 + 4 + 1), rfl, HS.out, HT.out, by simp; omega, fun hk => .inr (by have := HXn.out hk; simp; omega), by omega, by omega, HZ2⟩))
      exact bodyPost_ret (v := .tuple #[.agg #[.slice C T.cells.length kC, .slice R nR kR], .slice A3 (X.length + 1) k3]) (by simp [results, Try.results58, go_sem, z0, z1]) rfl HSF.out
    · go_wp2_with fail
      refine (pick_own H6 (i + 5) (set_get hX _) hr (by omega) 2 (by unfold I64; omega)).mono ?_
      rintro e w7 ⟨y, rfl, hy2, H7⟩
      simp only [List.set_cons_succ, List.set_set] at H7
      clear H6
      have H6 := H7
      clear H7
      by_cases hy0 : y = 0
      rotate_left
      · have e1 : ((y : Int) == 0) = false := by simp; omega
        clear hy0
        have HA := H6.litI [0] one_le_maxLen
        simp only [List.map_cons, List.map_nil, List.length_cons, List.length_nil, Nat.zero_add] at HA
        go_wp2_with (at_builtin; go_loud (refine wpList_pushO rfl (.tmp 43) (.tmp 44) rfl HA 1 rfl rfl rfl (rdI_new _ _ _ rfl) (by simp; omega) ?_; intro A3 k3 w9 HB; simp only [List.set_cons_zero, List.set_cons_succ] at HB; have HE := HB.erase 0; simp only [List.eraseIdx_cons_zero, List.length_append, List.length_cons, List.length_nil, Nat.zero_add] at HE; clear HA HB; obtain ⟨w0_, w1_, -, -⟩ := HE.box2 1 rfl; obtain ⟨y0, y1, y2, y3⟩ := HE.box2 4 rfl; have HZ := (((HE.putBox 4 rfl 0 (.slice C T.cells.length kC)).putBox 4 rfl 1 (.slice R nR kR)).erase 1); simp only [List.set_cons_zero, List.set_cons_succ, List.eraseIdx_cons_zero, List.eraseIdx_cons_succ] at HZ; obtain ⟨z0, z1, -, -⟩ := HZ.box2 3 rfl; have HZ2 := HZ.erase 3; simp only [List.eraseIdx_cons_zero, List.eraseIdx_cons_succ] at HZ2; obtain ⟨z2, -, -, -⟩ := (HE.putBox 4 rfl 0 (.slice C T.cells.length kC)).box2 4 rfl; have HSF : Hid (DrewR lo w0 L i g A n c p (.returned (.tuple #[.agg #[.slice C T.cells.length kC, .slice R nR kR], .slice A3 (X.length + 1) k3])) _) := Go.Lib.hid ⟨T, _, rvs, _, _, _, _, (X ++ [0]), (p1 + 4 + 1 + 1), rfl, HS.out, HT.out, by simp; omega, fun hk => .inr (by have := HXn.out hk; simp; omega), by omega, by omega, HZ2⟩))
        exact bodyPost_ret (v := .tuple #[.agg #[.slice C T.cells.length kC, .slice R nR kR], .slice A3 (X.length + 1) k3]) (by simp [results, Try.results58, go_sem, z0, z1]) rfl HSF.out
      · subst hy0
        obtain ⟨gX, cX, eX, -, -, -, -⟩ := H6.rowAt 0 rfl (by omega)
        simp only [Value.slice.injEq] at eX
        obtain ⟨rfl, -, rfl⟩ := eX
        go_wp2_with fail
        refine (pick_own H6 (i + 5) (set_get hX _) hr (by omega) (X.length : Int) (by unfold I64; omega)).mono ?_
        rintro e w8 ⟨m1, rfl, hm1, H8⟩
        replace hm1 : m1 < X.length := by omega
        have hm1' : (m1 : Int) < (X.length : Int) := by omega
        have hm1'' : (0 : Int) ≤ (m1 : Int) := by omega
        simp only [List.set_cons_succ, List.set_set] at H8
        clear H6
        have H9 := H8.litI [-1, 0, 5, 6] (by show 4 ≤ maxLen; unfold maxLen; omega)
        simp only [List.length_cons, List.length_nil, Nat.zero_add, Nat.reduceAdd] at H9
        go_wp2_with fail
        refine (pick_own H9 (i + 6) (set_get hX _) hr (by omega) 4 (by unfold I64; omega)).mono ?_
        rintro e w9 ⟨m2, rfl, hm2, HA⟩
        replace hm2 : m2 < 4 := by omega
        have hm2' : (m2 : Int) < 4 := by omega
        have hm2'' : (0 : Int) ≤ (m2 : Int) := by omega
        simp only [List.set_cons_succ, List.set_set] at HA
        clear H9
        obtain ⟨v2, hv2⟩ : ∃ v, ([-1, 0, 5, 6] : List Int)[m2]? = some v := ⟨_, List.getElem?_eq_getElem (by simp; omega)⟩
        obtain ⟨zz, -⟩ := HA.elem 0 rfl (j := m2) (u := .int .i64 v2) (by rw [List.getElem?_map, hv2]; rfl)
        obtain ⟨xr, hxr⟩ : ∃ x, Hid (X[m1]? = some x) := ⟨_, Go.Lib.hid (List.getElem?_eq_getElem (by omega))⟩
        obtain ⟨q0, q1⟩ := HA.intAt 1 rfl rfl hxr
        have HQ := HA.setInt 1 rfl rfl m1 v2
        simp only [List.set_cons_zero, List.set_cons_succ] at HQ
        have HE := HQ.erase 0
        simp only [List.eraseIdx_cons_zero] at HE
        clear HQ HA H8 hv2
        obtain ⟨w0_, w1_, -, -⟩ := HE.box2 1 rfl
        obtain ⟨y0, y1, y2, y3⟩ := HE.box2 4 rfl
        have HZ := (((HE.putBox 4 rfl 0 (.slice C T.cells.length kC)).putBox 4 rfl 1 (.slice R nR kR)).erase 1)
        simp only [List.set_cons_zero, List.set_cons_succ, List.eraseIdx_cons_zero, List.eraseIdx_cons_succ] at HZ
        obtain ⟨z0, z1, -, -⟩ := HZ.box2 3 rfl
        have HZ2 := HZ.erase 3
        simp only [List.eraseIdx_cons_zero, List.eraseIdx_cons_succ] at HZ2
        obtain ⟨z2, -, -, -⟩ := (HE.putBox 4 rfl 0 (.slice C T.cells.length kC)).box2 4 rfl
        have HSF : Hid (DrewR lo w0 L i g A n c p (.returned (.tuple #[.agg #[.slice C T.cells.length kC, .slice R nR kR], .slice (some ⟨gX, 0, none⟩) X.length kX])) _) := Go.Lib.hid ⟨T, _, rvs, _, _, _, _, (X.set m1 v2), (p1 + 4 + 1 + 1 + 2), rfl, HS.out, HT.out, by rw [List.length_set]; omega, fun hk => .inl (by rw [List.length_set]; exact HXn.out hk), by omega, by omega, HZ2⟩
        clear HE HZ HZ2
        go_wp2
        exact bodyPost_ret (v := .tuple #[.agg #[.slice C T.cells.length kC, .slice R nR kR], .slice (some ⟨gX, 0, none⟩) X.length kX]) (by simp [results, Try.results58, go_sem, z0, z1]) rfl HSF.out
end Go.Proofs.Ytmhcajjlhiopmaa
