/- A table drawn from a code; the law FnTableHeap's walk. For every code that can be read. -/
import Derived.Test.YtnpehidhoekfcaaTd
import Derived.Test.YtnpehidhoekfcaaAl
import Derived.Test.YtnpehidhoekfcaaTs
import Derived.Test.YtnpehidhoekfcaaThp
import Derived.Test.YtnpehidhoekfcaaSm
namespace Go.Proofs.Ytnpehidhoekfcaa
open Go.RowKit
theorem tab_told {t : Tbl} (h : mTableValid t = true) : heapOk (mTableHeap t) = true ∧ (mTableHeap t).cells = t.store.cells.map (tellC t.hands) := by
  rw [mTHp_yes h]
  refine ⟨?_, rfl⟩
  simp only [mTableValid, Bool.and_eq_true] at h
  exact h.2
set_option maxHeartbeats 1600000 in
set_option maxRecDepth 20000 in
theorem DrawTableHeap_any (w : World) (A : Option Addr) (n c : Nat) (bs : List Int) (hr : RdY w w.heap.size A n c bs) :
    Calls Try.prog 25 #[.slice A n c] w (DrawnT w) := by
  have H := (Owns.nil w).box [.slice none 0 0, .slice none 0 0, .slice none 0 0] 42
  go_enter Try.func25, Try.ntmps25
  go_wp2_with fail
  refine (open_own H A n c bs hr).mono ?_
  rintro e w1 ⟨g, A1, n1, c1, bs1, rfl, hU, H1⟩
  clear H hr
  go_wp2_with fail
  refine (table_own H1 0 rfl hU (by omega) 9 (by omega) (by omega)).mono ?_
  rintro e w2 ⟨t, cv, rvs, rv, hv, hv0, hs0, p1, rfl, hS, ht, -, -, H2⟩
  simp only [List.set_cons_zero] at H2
  clear H1 hU
  obtain ⟨C, kC, rfl, -⟩ := H2.formC 0 rfl
  obtain ⟨R, kR, rfl, -⟩ := H2.formI 1 rfl
  obtain ⟨E0, kE0, e0, -⟩ := H2.formI 2 rfl
  obtain ⟨E, nE, kE, rfl⟩ := ht.form e0
  clear e0
  obtain ⟨y0, y1, y2, y3, y4, y5⟩ := H2.box3 4 rfl
  have HZ := ((H2.putBox 4 rfl 0 (.slice C t.store.cells.length kC)).putBox 4 rfl 1 (.slice R t.store.roots.length kR)).putBox 4 rfl 2 (.slice E nE kE)
  simp only [List.set_cons_zero, List.set_cons_succ] at HZ
  obtain ⟨z0, z1, z2, -, -, -⟩ := HZ.box3 4 rfl
  have HS : Hid (DrawnT w (.returned (.agg #[.slice C t.store.cells.length kC, .slice R t.store.roots.length kR, .slice E nE kE])) _) := Go.Lib.hid ⟨t, _, rvs, _, _, _, _, rfl, hS, ht, HZ.take 3⟩
  clear H2 HZ hS ht
  go_wp2
  exact bodyPost_ret (v := .agg #[.slice C t.store.cells.length kC, .slice R t.store.roots.length kR, .slice E nE kE]) (by simp [results, Try.results25, go_sem, z0, z1, z2]) rfl HS.out
set_option maxHeartbeats 6400000 in
set_option maxRecDepth 20000 in
theorem lawTableHeap_any (w : World) {A : Option Addr} {n c : Nat} {bs : List Int} (hr : RdY w w.heap.size A n c bs) :
    Calls Try.prog 7 #[.slice A n c] w fun e w' => e = .returned (.bool true) ∧ Below w.heap.size w w' := by
  by_cases s0 : 1048576 < n
  · go_enter Try.func7, Try.ntmps7
    go_wp2
    go_ret
    exact ⟨rfl, Below.refl _ _⟩
  go_enter Try.func7, Try.ntmps7
  go_wp2_with fail
  refine (DrawTableHeap_any w A n c bs hr).mono ?_
  rintro e w1 ⟨t, cv, rvs, rv, hv, hv0, hs0, rfl, hS, ht, H1⟩
  obtain ⟨C, kC, rfl, -⟩ := H1.formC 0 rfl
  obtain ⟨R, kR, rfl, -⟩ := H1.formI 1 rfl
  obtain ⟨E0, kE0, e0, -⟩ := H1.formI 2 rfl
  obtain ⟨E, nE, kE, rfl⟩ := ht.form e0
  have HT := Go.Lib.hid ht
  have HBg := Go.Lib.hid hS.big
  clear e0 ht hS hr s0
  have H := H1.box [.slice C t.store.cells.length kC, .slice R t.store.roots.length kR, .slice E nE kE] 42
  clear H1
  obtain ⟨x0, x1, x2, -, -, -⟩ := H.box3 0 rfl
  go_wp2_with fail
  refine (implTableHeap_any _ _ _ t (H.rdTx 1 2 3 rfl rfl rfl HT.out) HBg.out.1 HBg.out.2.1 HBg.out.2.2.1 HBg.out.2.2.2).mono ?_
  rintro e w2 ⟨cv2, rvs2, rv2, rfl, K⟩
  obtain ⟨Z, hZ⟩ : ∃ Z, Z = mTableHeap t := ⟨_, rfl⟩
  rw [← hZ] at K
  have HZe := Go.Lib.hid hZ
  have H2 := H.merge K
  simp only [List.cons_append, List.nil_append] at H2
  clear H K x0 x1 x2 hZ
  obtain ⟨C2, k2, rfl, -⟩ := H2.formC 0 rfl
  obtain ⟨R2, kR2, rfl, -⟩ := H2.formI 1 rfl
  have H3 := H2.box [.slice C2 Z.cells.length k2, .slice R2 Z.roots.length kR2] 27
  clear H2
  go_wp2_with fail
  have HX := H3.drew
  have H0 := Go.Lib.hid H3
  clear H3
  obtain ⟨y0, y1, -, -⟩ := HX.box2 0 rfl
  obtain ⟨x0, x1, x2, -, -, -⟩ := HX.box3 3 rfl
  refine wp_region_tree (fun w' => (w'.cell? ⟨w1.heap.size, 0, none⟩ = some (.slice C t.store.cells.length kC) ∧ w'.cell? ⟨w1.heap.size, 1, none⟩ = some (.slice R t.store.roots.length kR) ∧ w'.cell? ⟨w1.heap.size, 2, none⟩ = some (.slice E nE kE)) ∧ w'.cell? ⟨w2.heap.size, 0, none⟩ = some (.slice C2 Z.cells.length k2) ∧ w'.cell? ⟨w2.heap.size, 1, none⟩ = some (.slice R2 Z.roots.length kR2)) 5 [] (.take 0 (.take 1 (.alt 2 (.alt 3 (.take 4 (.done)) (.stop)) (.stop)))) (by kernel_rfl) (by kernel_rfl) (by kernel_rfl) (⟨⟨x0, x1, x2⟩, y0, y1⟩) ?_
  simp only [fillT, List.getElem?_cons_zero, List.getElem?_cons_succ, Nat.reduceBEq]
  repeat (first
    | (with_reducible refine po_take (v := ?_) ?_ (fun w' hS' => ?_) ?_
       rotate_left
       · (go_simp; done)
       · ((try dsimp only at hS'); go_simp; try with_reducible rfl)
       simp only [Act.put, List.setIfInBounds_toArray, List.set_cons_zero, List.set_cons_succ])
    | (with_reducible refine po_skip ?_ ?_
       · (go_simp; done)
       simp only [Act.put, List.setIfInBounds_toArray, List.set_cons_zero, List.set_cons_succ]))
  with_reducible refine po_run ?_ (fun K hK => ?_) ?_
  · (go_simp; done)
  rotate_left
  · exact po_stop
  try (revert x0 x1 x2 y0 y1 HX; generalize World.drew _ = wd; intro HX x0 x1 x2 y0 y1)
  go_simp
  refine (specTableHeap_any _ _ _ t (HX.rdTx 4 5 6 rfl rfl rfl HT.out) HBg.out.1 HBg.out.2.1 HBg.out.2.2.1 HBg.out.2.2.2).mono ?_
  rintro e w3 ⟨cv3, rvs3, rv3, rfl, K⟩
  rw [← HZe.out] at K
  have HY := HX.merge K
  simp only [List.cons_append, List.nil_append] at HY
  clear HX K x0 x1 x2 y0 y1
  have HX := HY
  clear HY
  obtain ⟨y0, y1, -, -⟩ := HX.box2 2 rfl
  obtain ⟨x0, x1, x2, -, -, -⟩ := HX.box3 5 rfl
  refine hK.out _ _ (.inr (⟨⟨x0, x1, x2⟩, y0, y1⟩)) ?_
  clear hK K
  with_reducible refine po_run ?_ (fun K hK => ?_) ?_
  · (go_simp; done)
  rotate_left
  · exact po_stop
  go_simp
  refine (sameHeap_yes _ _ _ _ _ Z (HX.rdHx 3 4 rfl rfl (.inl ⟨rfl, rfl⟩)) (HX.rdHx 0 1 rfl rfl (.inl ⟨rfl, rfl⟩))).mono ?_
  rintro e w4 ⟨rfl, hb⟩
  replace HX := (HX.call hb).drop 2
  simp only [List.drop_succ_cons, List.drop_zero] at HX
  clear hb x0 x1 x2 y0 y1
  obtain ⟨y0, y1, -, -⟩ := HX.box2 0 rfl
  obtain ⟨x0, x1, x2, -, -, -⟩ := HX.box3 3 rfl
  refine hK.out _ _ (.inr (⟨⟨x0, x1, x2⟩, y0, y1⟩)) ?_
  clear hK K
  repeat (first
    | (with_reducible refine po_take (v := ?_) ?_ (fun w' hS' => ?_) ?_
       rotate_left
       · (go_simp; done)
       · ((try dsimp only at hS'); go_simp; try with_reducible rfl)
       simp only [Act.put, List.setIfInBounds_toArray, List.set_cons_zero, List.set_cons_succ])
    | (with_reducible refine po_skip ?_ ?_
       · (go_simp; done)
       simp only [Act.put, List.setIfInBounds_toArray, List.set_cons_zero, List.set_cons_succ]))
  refine po_done ?_
  clear H0
  go_wp2_with fail
  refine (specTableValid_any _ _ _ t (HX.rdTx 4 5 6 rfl rfl rfl HT.out) HBg.out.1 HBg.out.2.1 HBg.out.2.2.1 HBg.out.2.2.2).mono ?_
  rintro e w5 ⟨rfl, hb⟩
  replace HX := HX.call hb
  clear hb x0 x1 x2 y0 y1
  cases hy : mTableValid t
  · have hZn : Z = ⟨[], []⟩ := by rw [HZe.out]; exact mTHp_no hy
    subst hZn
    simp only [List.length_nil] at HX ⊢
    obtain ⟨y0, y1, -, -⟩ := HX.box2 0 rfl
    clear hy
    go_wp2_with fail
    refine (alive_any _).mono ?_
    rintro e w8 ⟨rfl, hb⟩
    have HB := (HX.call hb).below
    clear HX hb y0 y1
    go_wp2
    go_ret
    exact ⟨rfl, HB⟩
  · obtain ⟨f1, f2⟩ := tab_told hy
    rw [← HZe.out] at f1 f2
    have HOk := Go.Lib.hid f1
    have HZc := Go.Lib.hid f2
    have h40 := (heapOk_small f1).1
    have hl1 : Z.cells.length ≤ t.store.cells.length := by rw [f2, List.length_map]; omega
    have hl2 : t.store.cells.length ≤ Z.cells.length := by rw [f2, List.length_map]; omega
    clear hy f1 f2
    have H5 := HX
    clear HX
    go_wp2_with fail
    go_loopw [5] (fun i wr => ∃ k : Nat, i = .int .i64 k ∧ k ≤ Z.cells.length ∧ Owns w.heap.size w wr [.box w2.heap.size [.slice C2 Z.cells.length k2, .slice R2 Z.roots.length kR2] 27, .cells (.slice C2 Z.cells.length k2) rvs2 Z.cells, .ints (.slice R2 Z.roots.length kR2) Z.roots, .box w1.heap.size [.slice C t.store.cells.length kC, .slice R t.store.roots.length kR, .slice E nE kE] 42, .cells (.slice C t.store.cells.length kC) rvs t.store.cells, .ints (.slice R t.store.roots.length kR) t.store.roots, .ints hv0 hs0]) (fun i _ => Z.cells.length - (intOf i).toNat)
    case atStart => exact ⟨0, rfl, Nat.zero_le _, H5⟩
    case round =>
      clear H5
      obtain ⟨k, rfl, hk, H⟩ := hrel
      obtain ⟨y0, y1, -, -⟩ := H.box2 0 rfl
      obtain ⟨x0, x1, x2, -, -, -⟩ := H.box3 3 rfl
      by_cases hlt : k < Z.cells.length
      · obtain ⟨l, hl0⟩ : ∃ l, Hid (t.store.cells[k]? = some l) := ⟨_, Go.Lib.hid (List.getElem?_eq_getElem (by omega))⟩
        have hZk : Hid (Z.cells[k]? = some (tellC t.hands l)) := Go.Lib.hid (by rw [HZc.out, List.getElem?_map, hl0.out]; rfl)
        obtain ⟨gP, cP, A3, c3, eP, -, u1, u2, u3, -, -, -, -, -⟩ := H.cellW 1 rfl hZk
        simp only [Value.slice.injEq] at eP
        obtain ⟨rfl, -, rfl⟩ := eP
        obtain ⟨gT, cT, A4, c4, eT, -, v1, v2, v3, -, -, -, -, -⟩ := H.cellW 4 rfl hl0
        simp only [Value.slice.injEq] at eT
        obtain ⟨rfl, -, rfl⟩ := eT
        simp only [tellC, List.length_map] at u1 u2 u3
        have i1 : (0 : Int) ≤ (k : Int) := by omega
        have i2 : (k : Int) < (Z.cells.length : Int) := by omega
        have i3 : (k : Int) < (t.store.cells.length : Int) := by omega
        have HX := H.drew
        have H0 := Go.Lib.hid H
        clear hZk hl0 H
        go_wp2_with fail
        refine wp_region_tree (fun w' => (w'.cell? ⟨w2.heap.size, 0, none⟩ = some (.slice (some ⟨gP, 0, none⟩) Z.cells.length k2) ∧ w'.cell? ⟨w1.heap.size, 0, none⟩ = some (.slice (some ⟨gT, 0, none⟩) t.store.cells.length kC)) ∧ (w'.cell? ⟨gP, k * 3, none⟩ = some (.bool l.used) ∧ w'.cell? ⟨gP, k * 3 + 1, none⟩ = some (.int .i64 l.data) ∧ w'.cell? ⟨gP, k * 3 + 2, none⟩ = some (.slice A3 l.refs.length c3)) ∧ w'.cell? ⟨gT, k * 3, none⟩ = some (.bool l.used) ∧ w'.cell? ⟨gT, k * 3 + 1, none⟩ = some (.int .i64 l.data) ∧ w'.cell? ⟨gT, k * 3 + 2, none⟩ = some (.slice A4 l.refs.length c4)) 48 [] (.take 0 (.take 1 (.take 2 (.take 3 (.take 4 (.take 5 (.take 6 (.take 7 (.take 8 (.take 9 (.take 10 (.take 11 (.take 12 (.take 13 (.take 14 (.take 15 (.take 16 (.take 17 (.take 18 (.take 19 (.take 20 (.take 21 (.take 22 (.take 23 (.take 24 (.take 25 (.take 26 (.take 27 (.take 28 (.take 29 (.take 30 (.take 31 (.take 32 (.take 33 (.take 34 (.take 35 (.take 36 (.take 37 (.take 38 (.take 39 (.take 40 (.take 41 (.take 42 (.take 43 (.take 44 (.take 45 (.take 46 (.take 47 (.done))))))))))))))))))))))))))))))))))))))))))))))))) (by kernel_rfl) (by kernel_rfl) (by kernel_rfl) (⟨⟨y0, x0⟩, ⟨u1, u2, u3⟩, v1, v2, v3⟩) ?_
        simp only [fillT, List.getElem?_cons_zero, List.getElem?_cons_succ]
        repeat (first
          | (with_reducible refine po_take (v := ?_) ?_ (fun w' hS' => ?_) ?_
             rotate_left
             · (go_simp; done)
             · ((try dsimp only at hS'); go_simp; try with_reducible rfl)
             simp only [Act.put, List.setIfInBounds_toArray, List.set_cons_zero, List.set_cons_succ])
          | (with_reducible refine po_skip ?_ ?_
             · (go_simp; done)
             simp only [Act.put, List.setIfInBounds_toArray, List.set_cons_zero, List.set_cons_succ]))
        refine po_done ?_
        clear x0 x1 x2 y0 y1 u1 u2 u3 v1 v2 v3 H0
        go_wp2
        go_roundw
        case rel => first | exact ⟨k + 1, by go_num, by omega, HX⟩ | exact ⟨k + 1, by go_num, by omega⟩
        case measure => simp [intOf]; omega
      · go_wp2_with fail
        refine (heapValid_any _ _ _ Z (H.rdHx 1 2 rfl rfl (.inl ⟨rfl, rfl⟩))).mono ?_
        rintro e w6 ⟨rfl, hb⟩
        rw [HOk.out]
        have H6 := H.call hb
        clear H hb x0 x1 x2 y0 y1
        obtain ⟨y0, y1, -, -⟩ := H6.box2 0 rfl
        obtain ⟨x0, x1, x2, -, -, -⟩ := H6.box3 3 rfl
        have e2 : ((Z.cells.length : Int) == (t.store.cells.length : Int)) = true := by simp; omega
        have HB := H6.below
        clear H6
        go_wp2
        go_ret
        exact ⟨rfl, HB⟩
end Go.Proofs.Ytnpehidhoekfcaa
