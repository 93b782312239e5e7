/- A heap drawn from a code; the law FnTableOf's walk. For every code that can be read. -/
import Derived.Test.YtlhecfpflkioeaaOo
import Derived.Test.YtlhecfpflkioeaaAl
import Derived.Test.YtlhecfpflkioeaaSn
import Derived.Test.YtlhecfpflkioeaaGp
import Derived.Test.YtlhecfpflkioeaaMg
namespace Go.Proofs.Ytlhecfpflkioeaa
open Go.RowKit
set_option maxHeartbeats 1600000 in
theorem DrawTableOf_any (w : World) (A : Option Addr) (n c : Nat) (bs : List Int) (hr : RdY w w.heap.size A n c bs) :
    Calls Try.prog 27 #[.slice A n c] w (DrawnH w) := by
  have H := (Owns.nil w).box [.slice none 0 0, .slice none 0 0] 26
  go_enter Try.func27, Try.ntmps27
  go_wp2_with fail
  refine (open_own H A n c bs hr).mono ?_
  rintro e w1 ⟨g, A1, n1, c1, bs1, rfl, hU, H1⟩
  clear H hr
  go_wp2_with fail
  refine (heap_own H1 0 rfl hU (by omega) 9 (by omega) (by omega)).mono ?_
  rintro e w2 ⟨T, cv, rvs, rv, rv0, rs0, p1, rfl, hS, ht, -, -, H2⟩
  simp only [List.set_cons_zero] at H2
  clear H1 hU
  obtain ⟨C, kC, rfl, -⟩ := H2.formC 0 rfl
  obtain ⟨R0, kR0, e0, -⟩ := H2.formI 1 rfl
  obtain ⟨R, nR, kR, rfl⟩ := ht.form e0
  clear e0
  obtain ⟨y0, y1, y2, y3⟩ := H2.box2 3 rfl
  have HZ := (H2.putBox 3 rfl 0 (.slice C T.cells.length kC)).putBox 3 rfl 1 (.slice R nR kR)
  simp only [List.set_cons_zero, List.set_cons_succ] at HZ
  obtain ⟨z0, z1, -, -⟩ := HZ.box2 3 rfl
  have HS : Hid (DrawnH w (.returned (.agg #[.slice C T.cells.length kC, .slice R nR kR])) _) := Go.Lib.hid ⟨T, _, rvs, _, _, _, rfl, hS, ht, HZ.take 2⟩
  clear H2 HZ hS ht
  go_wp2
  exact bodyPost_ret (v := .agg #[.slice C T.cells.length kC, .slice R nR kR]) (by simp [results, Try.results27, go_sem, z0, z1]) rfl HS.out
theorem mTabOf_sm {h : Hp} (s : SmG h) : (mTableOf h).store.cells.length ≤ 1048576 ∧ (mTableOf h).store.roots.length ≤ 1048576 ∧ (∀ c ∈ (mTableOf h).store.cells, c.refs.length ≤ 1048576) ∧ (mTableOf h).hands.length ≤ 1048576 := by
  have h1 := s.len; have h2 := s.roots
  unfold mTableOf
  split
  · exact ⟨by show h.cells.length ≤ _; omega, by show h.roots.length ≤ _; omega, fun c hc => by have := s.refs c hc; omega, by rw [upTo_len]; omega⟩
  · exact ⟨by simp, by simp, fun c hc => by simp at hc, by simp⟩
set_option maxHeartbeats 6400000 in
set_option maxRecDepth 20000 in
theorem lawTableOf_any (w : World) {A : Option Addr} {n c : Nat} {bs : List Int} (hr : RdY w w.heap.size A n c bs) :
    Calls Try.prog 8 #[.slice A n c] w fun e w' => e = .returned (.bool true) ∧ Below w.heap.size w w' := by
  by_cases s0 : 1048576 < n
  · go_enter Try.func8, Try.ntmps8
    go_wp2
    go_ret
    exact ⟨rfl, Below.refl _ _⟩
  go_enter Try.func8, Try.ntmps8
  go_wp2_with fail
  refine (DrawTableOf_any w A n c bs hr).mono ?_
  rintro e w1 ⟨T, cv, rvs, rv, rv0, rs0, rfl, hS, ht, H1⟩
  obtain ⟨C, kC, rfl, -⟩ := H1.formC 0 rfl
  obtain ⟨R0, kR0, e0, -⟩ := H1.formI 1 rfl
  obtain ⟨R, nR, kR, rfl⟩ := ht.form e0
  have HT := Go.Lib.hid ht
  have HS := Go.Lib.hid hS
  have HM := Go.Lib.hid (mTabOf_sm hS)
  clear e0 ht hS hr s0
  have H := H1.box [.slice C T.cells.length kC, .slice R nR kR] 26
  clear H1
  obtain ⟨x0, x1, -, -⟩ := H.box2 0 rfl
  go_wp2_with fail
  refine (implTableOf_any _ _ _ T (H.rdHx 1 2 rfl rfl HT.out) (by have := HS.out.len; omega) (by have := HS.out.roots; omega) (fun c hc => by have := HS.out.refs c hc; omega)).mono ?_
  rintro e w2 ⟨v2, rfl, K⟩
  obtain ⟨cv2, rvs2, rv2, hv2, rfl, H2⟩ := H.mergeT K
  obtain ⟨C2, kC2, rfl, -⟩ := H2.formC 0 rfl
  obtain ⟨R2, kR2, rfl, -⟩ := H2.formI 1 rfl
  obtain ⟨V2, kV2, rfl, -⟩ := H2.formI 2 rfl
  have HY := H2.box [.slice C2 (mTableOf T).store.cells.length kC2, .slice R2 (mTableOf T).store.roots.length kR2, .slice V2 (mTableOf T).hands.length kV2] 44
  clear H H2 K x0 x1
  have HX := HY.drew
  obtain ⟨x0, x1, -, -⟩ := HX.box2 4 rfl
  obtain ⟨y0, y1, y2, -, -, -⟩ := HX.box3 0 rfl
  go_wp2_with fail
  clear HY
  refine wp_region_tree (fun w' => w'.cell? ⟨w1.heap.size, 0, none⟩ = some (.slice C T.cells.length kC) ∧ w'.cell? ⟨w1.heap.size, 1, none⟩ = some (.slice R nR kR) ∧ w'.cell? ⟨w2.heap.size, 0, none⟩ = some (.slice C2 (mTableOf T).store.cells.length kC2) ∧ w'.cell? ⟨w2.heap.size, 1, none⟩ = some (.slice R2 (mTableOf T).store.roots.length kR2) ∧ w'.cell? ⟨w2.heap.size, 2, none⟩ = some (.slice V2 (mTableOf T).hands.length kV2)) 5 [] (.take 0 (.take 1 (.alt 2 (.alt 3 (.take 4 (.done)) (.stop)) (.stop)))) (by kernel_rfl) (by kernel_rfl) (by kernel_rfl) (⟨x0, x1, y0, y1, y2⟩) ?_
  simp only [fillT, List.getElem?_cons_zero, List.getElem?_cons_succ, Nat.reduceBEq]
  repeat (first
    | (with_reducible refine po_take (v := ?_) ?_ (fun w' hS' => ?_) ?_
       rotate_left
       · (go_simp; done)
       · ((try dsimp only at hS'); go_simp; try with_reducible rfl)
       simp only [Act.put, List.setIfInBounds_toArray, List.set_cons_zero, List.set_cons_succ])
    | (with_reducible refine po_skip ?_ ?_
       · (go_simp; done)
       simp only [Act.put, List.setIfInBounds_toArray, List.set_cons_zero, List.set_cons_succ]))
  with_reducible refine po_run ?_ (fun K hK => ?_) ?_
  · (go_simp; done)
  rotate_left
  · exact po_stop
  go_simp
  refine (specTableOf_any _ _ _ T (HX.rdHx 5 6 rfl rfl HT.out) (by have := HS.out.len; omega) (by have := HS.out.roots; omega) (fun c hc => by have := HS.out.refs c hc; omega)).mono ?_
  rintro e w3 ⟨v3, rfl, K⟩
  obtain ⟨cv3, rvs3, rv3, hv3, rfl, HY⟩ := HX.mergeT K
  clear HX K x0 x1 y0 y1 y2
  have HX := HY
  clear HY
  obtain ⟨x0, x1, -, -⟩ := HX.box2 7 rfl
  obtain ⟨y0, y1, y2, -, -, -⟩ := HX.box3 3 rfl
  refine hK.out _ _ (.inr (⟨x0, x1, y0, y1, y2⟩)) ?_
  clear hK K
  with_reducible refine po_run ?_ (fun K hK => ?_) ?_
  · (go_simp; done)
  rotate_left
  · exact po_stop
  go_simp
  refine (sameTable_yes _ _ _ _ _ (mTableOf T) (HX.rdT 4 5 6 rfl rfl rfl) (HX.rdT 0 1 2 rfl rfl rfl)).mono ?_
  rintro e w4 ⟨rfl, hb⟩
  replace HX := HX.call hb
  clear hb x0 x1 y0 y1 y2
  obtain ⟨x0, x1, -, -⟩ := HX.box2 7 rfl
  obtain ⟨y0, y1, y2, -, -, -⟩ := HX.box3 3 rfl
  refine hK.out _ _ (.inr (⟨x0, x1, y0, y1, y2⟩)) ?_
  clear hK K
  repeat (first
    | (with_reducible refine po_take (v := ?_) ?_ (fun w' hS' => ?_) ?_
       rotate_left
       · (go_simp; done)
       · ((try dsimp only at hS'); go_simp; try with_reducible rfl)
       simp only [Act.put, List.setIfInBounds_toArray, List.set_cons_zero, List.set_cons_succ])
    | (with_reducible refine po_skip ?_ ?_
       · (go_simp; done)
       simp only [Act.put, List.setIfInBounds_toArray, List.set_cons_zero, List.set_cons_succ]))
  refine po_done ?_
  go_wp2_with fail
  refine (specHeapValid_any _ _ _ T (HX.rdHx 8 9 rfl rfl HT.out)).mono ?_
  rintro e w5 ⟨rfl, hb⟩
  replace HX := HX.call hb
  clear hb x0 x1 y0 y1 y2
  obtain ⟨x0, x1, -, -⟩ := HX.box2 7 rfl
  obtain ⟨y0, y1, y2, -, -, -⟩ := HX.box3 3 rfl
  cases hy : heapOk T
  · have e1 : ((((mTableOf T).store.roots.length : Nat) : Int) == 0) = true := by rw [mTabOf_no hy]; rfl
    clear hy
    go_wp2_with fail
    refine (alive_any _).mono ?_
    rintro e w8 ⟨rfl, hb⟩
    replace HX := HX.call hb
    have HB := HX.below
    clear HX hb x0 x1 y0 y1 y2
    go_wp2
    go_ret
    exact ⟨rfl, HB⟩
  · have HV := Go.Lib.hid (tabOf_valid hy)
    have HE := Go.Lib.hid (tabHeap_of hy)
    clear hy
    replace HX := HX.drew
    clear x0 x1 y0 y1 y2
    obtain ⟨x0, x1, -, -⟩ := HX.box2 7 rfl
    obtain ⟨y0, y1, y2, -, -, -⟩ := HX.box3 3 rfl
    go_wp2_with fail
    refine wp_region_tree (fun w' => w'.cell? ⟨w1.heap.size, 0, none⟩ = some (.slice C T.cells.length kC) ∧ w'.cell? ⟨w1.heap.size, 1, none⟩ = some (.slice R nR kR) ∧ w'.cell? ⟨w2.heap.size, 0, none⟩ = some (.slice C2 (mTableOf T).store.cells.length kC2) ∧ w'.cell? ⟨w2.heap.size, 1, none⟩ = some (.slice R2 (mTableOf T).store.roots.length kR2) ∧ w'.cell? ⟨w2.heap.size, 2, none⟩ = some (.slice V2 (mTableOf T).hands.length kV2)) 9 [] (.take 0 (.alt 1 (.take 2 (.take 3 (.take 5 (.alt 4 (.alt 6 (.take 7 (.take 8 (.done))) (.stop)) (.stop))))) (.stop))) (by kernel_rfl) (by kernel_rfl) (by kernel_rfl) (⟨x0, x1, y0, y1, y2⟩) ?_
    simp only [fillT, List.getElem?_cons_zero, List.getElem?_cons_succ, Nat.reduceBEq]
    repeat (first
      | (with_reducible refine po_take (v := ?_) ?_ (fun w' hS' => ?_) ?_
         rotate_left
         · (go_simp; done)
         · ((try dsimp only at hS'); go_simp; try with_reducible rfl)
         simp only [Act.put, List.setIfInBounds_toArray, List.set_cons_zero, List.set_cons_succ])
      | (with_reducible refine po_skip ?_ ?_
         · (go_simp; done)
         simp only [Act.put, List.setIfInBounds_toArray, List.set_cons_zero, List.set_cons_succ]))
    with_reducible refine po_run ?_ (fun K hK => ?_) ?_
    · (go_simp; done)
    rotate_left
    · exact po_stop
    go_simp
    refine (implTableValid_any _ _ _ (mTableOf T) (HX.rdT 4 5 6 rfl rfl rfl) HM.out.1 HM.out.2.1 HM.out.2.2.1 HM.out.2.2.2).mono ?_
    rintro e w6 ⟨rfl, hb⟩
    rw [HV.out]
    replace HX := HX.call hb
    clear hb x0 x1 y0 y1 y2
    obtain ⟨x0, x1, -, -⟩ := HX.box2 7 rfl
    obtain ⟨y0, y1, y2, -, -, -⟩ := HX.box3 3 rfl
    refine hK.out _ _ (.inr (⟨x0, x1, y0, y1, y2⟩)) ?_
    clear hK K
    repeat (first
      | (with_reducible refine po_take (v := ?_) ?_ (fun w' hS' => ?_) ?_
         rotate_left
         · (go_simp; done)
         · ((try dsimp only at hS'); go_simp; try with_reducible rfl)
         simp only [Act.put, List.setIfInBounds_toArray, List.set_cons_zero, List.set_cons_succ])
      | (with_reducible refine po_skip ?_ ?_
         · (go_simp; done)
         simp only [Act.put, List.setIfInBounds_toArray, List.set_cons_zero, List.set_cons_succ]))
    with_reducible refine po_run ?_ (fun K hK => ?_) ?_
    · (go_simp; done)
    rotate_left
    · exact po_stop
    go_simp
    refine (implTableHeap_any _ _ _ (mTableOf T) (HX.rdT 4 5 6 rfl rfl rfl) HM.out.1 HM.out.2.1 HM.out.2.2.1 HM.out.2.2.2).mono ?_
    rintro e w6 ⟨cv6, rvs6, rv6, rfl, K⟩
    rw [HE.out] at K
    have HY := HX.merge K
    simp only [List.cons_append, List.nil_append] at HY
    clear HX K x0 x1 y0 y1 y2
    have HX := HY
    clear HY
    obtain ⟨x0, x1, -, -⟩ := HX.box2 9 rfl
    obtain ⟨y0, y1, y2, -, -, -⟩ := HX.box3 5 rfl
    refine hK.out _ _ (.inr (⟨x0, x1, y0, y1, y2⟩)) ?_
    clear hK K
    with_reducible refine po_run ?_ (fun K hK => ?_) ?_
    · (go_simp; done)
    rotate_left
    · exact po_stop
    go_simp
    refine (sameHeap_yes _ _ _ _ _ T (HX.rdHx 0 1 rfl rfl (.inl ⟨rfl, rfl⟩)) (HX.rdHx 10 11 rfl rfl HT.out)).mono ?_
    rintro e w7 ⟨rfl, hb⟩
    replace HX := HX.call hb
    clear hb x0 x1 y0 y1 y2
    obtain ⟨x0, x1, -, -⟩ := HX.box2 9 rfl
    obtain ⟨y0, y1, y2, -, -, -⟩ := HX.box3 5 rfl
    refine hK.out _ _ (.inr (⟨x0, x1, y0, y1, y2⟩)) ?_
    clear hK K
    repeat (first
      | (with_reducible refine po_take (v := ?_) ?_ (fun w' hS' => ?_) ?_
         rotate_left
         · (go_simp; done)
         · ((try dsimp only at hS'); go_simp; try with_reducible rfl)
         simp only [Act.put, List.setIfInBounds_toArray, List.set_cons_zero, List.set_cons_succ])
      | (with_reducible refine po_skip ?_ ?_
         · (go_simp; done)
         simp only [Act.put, List.setIfInBounds_toArray, List.set_cons_zero, List.set_cons_succ]))
    refine po_done ?_
    have HB := HX.below
    clear HX x0 x1 y0 y1 y2
    go_wp2
    go_ret
    exact ⟨rfl, HB⟩
end Go.Proofs.Ytlhecfpflkioeaa
