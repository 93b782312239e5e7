/- The program's execution of a possible instruction, a new cell at any place: for every valid heap. Printed by genex.py. -/
import Derived.Test.YtdkpfggfkhnjfaaPw
import Derived.Test.YtdkpfggfkhnjfaaCv
import Derived.Test.YtdkpfggfkhnjfaaPc
import Derived.Test.YtdkpfggfkhnjfaaDo
import Derived.Test.YtdkpfggfkhnjfaaCpI
namespace Go.Proofs.Ytdkpfggfkhnjfaa
open Go.RowKit
set_option maxHeartbeats 6400000 in
set_option maxRecDepth 20000 in
theorem execute_any (w : World) (B : Nat) (v : Value) (h : Hp) (hh : RdH w B v h) (o : Cmd) (g : Good h) (hc : cmdOk o = true) (hp : possB h o = true) (pc : Nat) (hpc : pc ≤ h.cells.length) :
    Calls Try.prog 50 #[v, cmdV o, .int .i64 (pc : Int)] w (MadeHp w (mDo h o pc)) := by
  have hh' := hh.top
  obtain ⟨D, m, d, D', m', d', rfl, hC, hR⟩ := hh.top
  have hl40 := g.len
  have h4 := g.roots
  have hn3 : ∀ c ∈ h.cells, c.refs.length ≤ 1048576 := fun c hm => by
    have := g.cell c hm
    rw [cellOk_iff] at this
    rcases this with k | k
    · omega
    · rw [k.2.2]; simp
  have hca := cmd_a hc
  have hcb := cmd_b hc
  have hcc := cmd_c hc
  obtain ⟨op, a, b, c⟩ := o
  simp only at hca hcb hcc
  have H := (((Owns.nil w).box [.slice D m d, .slice D' m' d'] 29).box [.int .i64 op, .int .i64 a, .int .i64 b, .int .i64 c] 46).box [.slice none 0 0, .slice none 0 0] 29
  simp only [World.size_alloc] at H
  obtain ⟨a0, a1, -, -⟩ := H.box2 2 rfl
  have HN3 := Go.Lib.hid hn3
  have HCB := Go.Lib.hid hcb
  have HCC := Go.Lib.hid hcc
  have H4 := Go.Lib.hid h4
  have GG := Go.Lib.hid g
  have hr4 : 4 ≤ h.roots.length := by omega
  have hr4' : h.roots.length ≤ 4 := by omega
  clear hn3 hcb hcc h4 g
  obtain ⟨an, rfl⟩ := Int.eq_ofNat_of_zero_le hca.1
  have han : an < h.roots.length := by omega
  obtain ⟨xo, hxo⟩ : ∃ x, Hid (h.roots[an]? = some x) := ⟨_, Go.Lib.hid (List.getElem?_eq_getElem han)⟩
  have HC' := Go.Lib.hid hc
  have HP := Go.Lib.hid hp
  clear hc hp
  go_enter Try.func50, Try.ntmps50
  go_wp2_with fail
  refine (copyHeap_any _ _ _ h (hh'.below H.below) (by omega) (by omega) HN3.out).mono ?_
  rintro e w1 ⟨v1, rfl, ho, hb⟩
  obtain ⟨cv, rvs, rv, rfl, H1⟩ := H.madeH ho hb
  obtain ⟨C, kC, rfl, -⟩ := H1.formC 0 rfl
  obtain ⟨gR, kR, eR, -, -, -, -⟩ := H1.rowAt 1 rfl (show 0 < h.roots.length by omega)
  obtain rfl := eR
  clear H ho hb a0 a1
  have H2 := H1.box [.slice C h.cells.length kC, .slice (some ⟨gR, 0, none⟩) h.roots.length kR] 29
  clear H1
  clear hh hh' hC hR
  by_cases h4 : op = 4
  · subst h4
    obtain ⟨bn, rfl⟩ := Int.eq_ofNat_of_zero_le (HCB.out (.inr (.inr rfl))).1
    have hbn : (bn : Int) ≤ 3 := (HCB.out (.inr (.inr rfl))).2
    obtain ⟨x, hx⟩ : ∃ x, Hid (h.roots[bn]? = some x) := ⟨_, Go.Lib.hid (List.getElem?_eq_getElem (by omega))⟩
    have HF : Hid (mDo h ⟨4, an, bn, c⟩ pc = ⟨h.cells, h.roots.set an x⟩) := Go.Lib.hid (by simp [mDo, rootI_of hx])
    have hI := opsAt_4
    have hQ := opsR_4
    have k3 : ((4 : Int) != 1) = true := by decide
    obtain ⟨b0, b1, b2, b3, -, -, -, -⟩ := box4 H2 4 rfl
    go_wp2_with fail
    have HX := H2.drew
    clear H2 b0 b1 b2 b3
    obtain ⟨b0, b1, b2, b3, -, -, -, -⟩ := box4 HX 4 rfl
    refine wp_region_tree (fun w' => w'.cell? ⟨w.heap.size + 1, 0, none⟩ = some (.int .i64 4) ∧ w'.cell? ⟨w.heap.size + 1, 1, none⟩ = some (.int .i64 an) ∧ w'.cell? ⟨w.heap.size + 1, 2, none⟩ = some (.int .i64 bn) ∧ w'.cell? ⟨w.heap.size + 1, 3, none⟩ = some (.int .i64 c)) 6 [] (.take 1 (.take 2 (.take 5 (.alt 0 (.take 3 (.take 4 (.alt 6 (.done) (.stop)))) (.stop))))) (by kernel_rfl) (by kernel_rfl) (by kernel_rfl) (⟨b0, b1, b2, b3⟩) ?_
    simp only [fillT, List.getElem?_cons_zero, List.getElem?_cons_succ, Nat.reduceBEq]
    repeat (first
      | (with_reducible refine po_take (v := ?_) ?_ (fun w' hS' => ?_) ?_
         rotate_left
         · (go_simp; done)
         · ((try dsimp only at hS'); go_simp; try with_reducible rfl)
         simp only [Act.put, List.setIfInBounds_toArray, List.set_cons_zero, List.set_cons_succ])
      | (with_reducible refine po_skip ?_ ?_
         · (go_simp; done)
         simp only [Act.put, List.setIfInBounds_toArray, List.set_cons_zero, List.set_cons_succ]))
    with_reducible refine po_run ?_ (fun K hK => ?_) ?_
    · (go_simp; done)
    rotate_left
    · exact po_stop
    go_simp
    refine (operations_any _).mono ?_
    rintro e w3 ⟨rfl, hb⟩
    replace HX := HX.call hb
    clear hb b0 b1 b2 b3
    obtain ⟨b0, b1, b2, b3, -, -, -, -⟩ := box4 HX 4 rfl
    refine hK.out _ _ (.inr (⟨b0, b1, b2, b3⟩)) ?_
    clear hK K
    repeat (first
      | (with_reducible refine po_take (v := ?_) ?_ (fun w' hS' => ?_) ?_
         rotate_left
         · (go_simp; done)
         · ((try dsimp only at hS'); go_simp; try with_reducible rfl)
         simp only [Act.put, List.setIfInBounds_toArray, List.set_cons_zero, List.set_cons_succ])
      | (with_reducible refine po_skip ?_ ?_
         · (go_simp; done)
         simp only [Act.put, List.setIfInBounds_toArray, List.set_cons_zero, List.set_cons_succ]))
    with_reducible refine po_run ?_ (fun K hK => ?_) ?_
    · (go_simp; done)
    rotate_left
    · exact po_stop
    go_simp
    refine (runCopy_own HX rfl 4 c an bn xo x hxo hx).mono ?_
    rintro e w4 ⟨⟨u, rfl⟩, HY⟩
    clear HX b0 b1 b2 b3
    have HX := HY
    clear HY
    obtain ⟨b0, b1, b2, b3, -, -, -, -⟩ := box4 HX 4 rfl
    refine hK.out _ _ (.inr (⟨b0, b1, b2, b3⟩)) ?_
    clear hK K
    refine po_done ?_
    clear b0 b1 b2 b3
    obtain ⟨x0, x1, xf0, xf1⟩ := HX.box2 0 rfl
    obtain ⟨y0, y1, y2, y3⟩ := HX.box2 3 rfl
    have HZ := (HX.putBox 3 rfl 0 (.slice C h.cells.length kC)).putBox 3 rfl 1 (.slice (some ⟨gR, 0, none⟩) h.roots.length kR)
    simp only [List.set_cons_zero, List.set_cons_succ] at HZ
    obtain ⟨z0, z1, -, -⟩ := HZ.box2 3 rfl
    obtain ⟨z2, -, -, -⟩ := (HX.putBox 3 rfl 0 (.slice C h.cells.length kC)).box2 3 rfl
    have HS : Hid (MadeHp w (mDo h ⟨4, an, bn, c⟩ pc) (.returned (.agg #[.slice C h.cells.length kC, .slice (some ⟨gR, 0, none⟩) h.roots.length kR])) _) := Go.Lib.hid (by rw [HF.out]; exact ⟨_, _, _, rfl, HZ.order [1, 2] (by decide) rfl⟩)
    clear HX HZ
    go_wp2
    exact bodyPost_ret (v := .agg #[.slice C h.cells.length kC, .slice (some ⟨gR, 0, none⟩) h.roots.length kR]) (by simp [results, Try.results50, go_sem, z0, z1]) rfl HS.out
  by_cases h5 : op = 5
  · subst h5
    have HF : Hid (mDo h ⟨5, an, b, c⟩ pc = ⟨h.cells, h.roots.set an (-1)⟩) := Go.Lib.hid (by simp [mDo])
    have hI := opsAt_5
    have hQ := opsR_5
    have k3 : ((5 : Int) != 1) = true := by decide
    obtain ⟨b0, b1, b2, b3, -, -, -, -⟩ := box4 H2 4 rfl
    go_wp2_with fail
    have HX := H2.drew
    clear H2 b0 b1 b2 b3
    obtain ⟨b0, b1, b2, b3, -, -, -, -⟩ := box4 HX 4 rfl
    refine wp_region_tree (fun w' => w'.cell? ⟨w.heap.size + 1, 0, none⟩ = some (.int .i64 5) ∧ w'.cell? ⟨w.heap.size + 1, 1, none⟩ = some (.int .i64 an) ∧ w'.cell? ⟨w.heap.size + 1, 2, none⟩ = some (.int .i64 b) ∧ w'.cell? ⟨w.heap.size + 1, 3, none⟩ = some (.int .i64 c)) 6 [] (.take 1 (.take 2 (.take 5 (.alt 0 (.take 3 (.take 4 (.alt 6 (.done) (.stop)))) (.stop))))) (by kernel_rfl) (by kernel_rfl) (by kernel_rfl) (⟨b0, b1, b2, b3⟩) ?_
    simp only [fillT, List.getElem?_cons_zero, List.getElem?_cons_succ, Nat.reduceBEq]
    repeat (first
      | (with_reducible refine po_take (v := ?_) ?_ (fun w' hS' => ?_) ?_
         rotate_left
         · (go_simp; done)
         · ((try dsimp only at hS'); go_simp; try with_reducible rfl)
         simp only [Act.put, List.setIfInBounds_toArray, List.set_cons_zero, List.set_cons_succ])
      | (with_reducible refine po_skip ?_ ?_
         · (go_simp; done)
         simp only [Act.put, List.setIfInBounds_toArray, List.set_cons_zero, List.set_cons_succ]))
    with_reducible refine po_run ?_ (fun K hK => ?_) ?_
    · (go_simp; done)
    rotate_left
    · exact po_stop
    go_simp
    refine (operations_any _).mono ?_
    rintro e w3 ⟨rfl, hb⟩
    replace HX := HX.call hb
    clear hb b0 b1 b2 b3
    obtain ⟨b0, b1, b2, b3, -, -, -, -⟩ := box4 HX 4 rfl
    refine hK.out _ _ (.inr (⟨b0, b1, b2, b3⟩)) ?_
    clear hK K
    repeat (first
      | (with_reducible refine po_take (v := ?_) ?_ (fun w' hS' => ?_) ?_
         rotate_left
         · (go_simp; done)
         · ((try dsimp only at hS'); go_simp; try with_reducible rfl)
         simp only [Act.put, List.setIfInBounds_toArray, List.set_cons_zero, List.set_cons_succ])
      | (with_reducible refine po_skip ?_ ?_
         · (go_simp; done)
         simp only [Act.put, List.setIfInBounds_toArray, List.set_cons_zero, List.set_cons_succ]))
    with_reducible refine po_run ?_ (fun K hK => ?_) ?_
    · (go_simp; done)
    rotate_left
    · exact po_stop
    go_simp
    refine (runDrop_own HX rfl 5 b c an xo hxo).mono ?_
    rintro e w4 ⟨⟨u, rfl⟩, HY⟩
    clear HX b0 b1 b2 b3
    have HX := HY
    clear HY
    obtain ⟨b0, b1, b2, b3, -, -, -, -⟩ := box4 HX 4 rfl
    refine hK.out _ _ (.inr (⟨b0, b1, b2, b3⟩)) ?_
    clear hK K
    refine po_done ?_
    clear b0 b1 b2 b3
    obtain ⟨x0, x1, xf0, xf1⟩ := HX.box2 0 rfl
    obtain ⟨y0, y1, y2, y3⟩ := HX.box2 3 rfl
    have HZ := (HX.putBox 3 rfl 0 (.slice C h.cells.length kC)).putBox 3 rfl 1 (.slice (some ⟨gR, 0, none⟩) h.roots.length kR)
    simp only [List.set_cons_zero, List.set_cons_succ] at HZ
    obtain ⟨z0, z1, -, -⟩ := HZ.box2 3 rfl
    obtain ⟨z2, -, -, -⟩ := (HX.putBox 3 rfl 0 (.slice C h.cells.length kC)).box2 3 rfl
    have HS : Hid (MadeHp w (mDo h ⟨5, an, b, c⟩ pc) (.returned (.agg #[.slice C h.cells.length kC, .slice (some ⟨gR, 0, none⟩) h.roots.length kR])) _) := Go.Lib.hid (by rw [HF.out]; exact ⟨_, _, _, rfl, HZ.order [1, 2] (by decide) rfl⟩)
    clear HX HZ
    go_wp2
    exact bodyPost_ret (v := .agg #[.slice C h.cells.length kC, .slice (some ⟨gR, 0, none⟩) h.roots.length kR]) (by simp [results, Try.results50, go_sem, z0, z1]) rfl HS.out
  by_cases h2 : op = 2
  · subst h2
    obtain ⟨bn, rfl⟩ := Int.eq_ofNat_of_zero_le (HCB.out (.inl rfl)).1
    obtain ⟨cn, rfl⟩ := Int.eq_ofNat_of_zero_le (HCC.out (.inl rfl)).1
    have hbn : (bn : Int) ≤ 3 := (HCB.out (.inl rfl)).2
    obtain ⟨x, hx⟩ : ∃ x, Hid (h.roots[bn]? = some x) := ⟨_, Go.Lib.hid (List.getElem?_eq_getElem (by omega))⟩
    have hpl : placeB h x cn = true := by
      have := HP.out
      simpa [possB, rootI_of hx] using this
    simp only [placeB, Bool.and_eq_true, decide_eq_true_eq] at hpl
    have hxl : x < h.cells.length := by rw [← rootI_of hx]; exact good_rootLt GG.out _
    obtain ⟨q, rfl⟩ := Int.eq_ofNat_of_zero_le hpl.1
    obtain ⟨l, hxc⟩ : ∃ l, Hid (h.cells[q]? = some l) := ⟨_, Go.Lib.hid (List.getElem?_eq_getElem (by omega))⟩
    rw [celI_of hxc] at hpl
    obtain ⟨y, hy⟩ : ∃ y, Hid (l.refs[cn]? = some y) := ⟨_, Go.Lib.hid (List.getElem?_eq_getElem (by omega))⟩
    obtain ⟨gC, cC, A2, c2, eC, hrv, -, -, -, -, -, -, -, -⟩ := H2.cellW 1 rfl hxc
    simp only [Value.slice.injEq] at eC
    obtain ⟨rfl, -, rfl⟩ := eC
    have kc1 : h.cells.length ≤ kC := by obtain ⟨_, _, e, hR⟩ := H2.formC 1 rfl; simp only [Value.slice.injEq] at e; have := hR.cap; omega
    have kr1 : h.roots.length ≤ kR := by obtain ⟨_, _, e, hR⟩ := H2.formI 2 rfl; simp only [Value.slice.injEq] at e; have := hR.cap; omega
    have HF : Hid (mDo h ⟨2, an, bn, cn⟩ pc = ⟨h.cells, h.roots.set an y⟩) := Go.Lib.hid (by simp [mDo, rootI_of hx, celI_of hxc, hy.out])
    have hI := opsAt_2
    have hQ := opsR_2
    have k3 : ((2 : Int) != 1) = true := by decide
    obtain ⟨b0, b1, b2, b3, -, -, -, -⟩ := box4 H2 4 rfl
    go_wp2_with fail
    have HX := H2.drew
    clear H2 b0 b1 b2 b3
    obtain ⟨b0, b1, b2, b3, -, -, -, -⟩ := box4 HX 4 rfl
    refine wp_region_tree (fun w' => w'.cell? ⟨w.heap.size + 1, 0, none⟩ = some (.int .i64 2) ∧ w'.cell? ⟨w.heap.size + 1, 1, none⟩ = some (.int .i64 an) ∧ w'.cell? ⟨w.heap.size + 1, 2, none⟩ = some (.int .i64 bn) ∧ w'.cell? ⟨w.heap.size + 1, 3, none⟩ = some (.int .i64 cn)) 6 [] (.take 1 (.take 2 (.take 5 (.alt 0 (.take 3 (.take 4 (.alt 6 (.done) (.stop)))) (.stop))))) (by kernel_rfl) (by kernel_rfl) (by kernel_rfl) (⟨b0, b1, b2, b3⟩) ?_
    simp only [fillT, List.getElem?_cons_zero, List.getElem?_cons_succ, Nat.reduceBEq]
    repeat (first
      | (with_reducible refine po_take (v := ?_) ?_ (fun w' hS' => ?_) ?_
         rotate_left
         · (go_simp; done)
         · ((try dsimp only at hS'); go_simp; try with_reducible rfl)
         simp only [Act.put, List.setIfInBounds_toArray, List.set_cons_zero, List.set_cons_succ])
      | (with_reducible refine po_skip ?_ ?_
         · (go_simp; done)
         simp only [Act.put, List.setIfInBounds_toArray, List.set_cons_zero, List.set_cons_succ]))
    with_reducible refine po_run ?_ (fun K hK => ?_) ?_
    · (go_simp; done)
    rotate_left
    · exact po_stop
    go_simp
    refine (operations_any _).mono ?_
    rintro e w3 ⟨rfl, hb⟩
    replace HX := HX.call hb
    clear hb b0 b1 b2 b3
    obtain ⟨b0, b1, b2, b3, -, -, -, -⟩ := box4 HX 4 rfl
    refine hK.out _ _ (.inr (⟨b0, b1, b2, b3⟩)) ?_
    clear hK K
    repeat (first
      | (with_reducible refine po_take (v := ?_) ?_ (fun w' hS' => ?_) ?_
         rotate_left
         · (go_simp; done)
         · ((try dsimp only at hS'); go_simp; try with_reducible rfl)
         simp only [Act.put, List.setIfInBounds_toArray, List.set_cons_zero, List.set_cons_succ])
      | (with_reducible refine po_skip ?_ ?_
         · (go_simp; done)
         simp only [Act.put, List.setIfInBounds_toArray, List.set_cons_zero, List.set_cons_succ]))
    with_reducible refine po_run ?_ (fun K hK => ?_) ?_
    · (go_simp; done)
    rotate_left
    · exact po_stop
    go_simp
    refine (runGet_own HX rfl rfl kc1 kr1 2 an bn cn q l xo y hxo hx hxc hy).mono ?_
    rintro e w4 ⟨⟨u, rfl⟩, HY⟩
    clear HX b0 b1 b2 b3
    have HX := HY
    clear HY
    obtain ⟨b0, b1, b2, b3, -, -, -, -⟩ := box4 HX 4 rfl
    refine hK.out _ _ (.inr (⟨b0, b1, b2, b3⟩)) ?_
    clear hK K
    refine po_done ?_
    clear b0 b1 b2 b3
    obtain ⟨x0, x1, xf0, xf1⟩ := HX.box2 0 rfl
    obtain ⟨y0, y1, y2, y3⟩ := HX.box2 3 rfl
    have HZ := (HX.putBox 3 rfl 0 (.slice (some ⟨gC, 0, none⟩) h.cells.length kC)).putBox 3 rfl 1 (.slice (some ⟨gR, 0, none⟩) h.roots.length kR)
    simp only [List.set_cons_zero, List.set_cons_succ] at HZ
    obtain ⟨z0, z1, -, -⟩ := HZ.box2 3 rfl
    obtain ⟨z2, -, -, -⟩ := (HX.putBox 3 rfl 0 (.slice (some ⟨gC, 0, none⟩) h.cells.length kC)).box2 3 rfl
    have HS : Hid (MadeHp w (mDo h ⟨2, an, bn, cn⟩ pc) (.returned (.agg #[.slice (some ⟨gC, 0, none⟩) h.cells.length kC, .slice (some ⟨gR, 0, none⟩) h.roots.length kR])) _) := Go.Lib.hid (by rw [HF.out]; exact ⟨_, _, _, rfl, HZ.order [1, 2] (by decide) rfl⟩)
    clear HX HZ
    go_wp2
    exact bodyPost_ret (v := .agg #[.slice (some ⟨gC, 0, none⟩) h.cells.length kC, .slice (some ⟨gR, 0, none⟩) h.roots.length kR]) (by simp [results, Try.results50, go_sem, z0, z1]) rfl HS.out
  by_cases h3 : op = 3
  · subst h3
    obtain ⟨bn, rfl⟩ := Int.eq_ofNat_of_zero_le (HCB.out (.inr (.inl rfl))).1
    obtain ⟨cn, rfl⟩ := Int.eq_ofNat_of_zero_le (HCC.out (.inr rfl)).1
    have hbn : (bn : Int) ≤ 3 := (HCB.out (.inr (.inl rfl))).2
    obtain ⟨z, hz⟩ : ∃ x, Hid (h.roots[bn]? = some x) := ⟨_, Go.Lib.hid (List.getElem?_eq_getElem (by omega))⟩
    have hpl : placeB h xo cn = true := by
      have := HP.out
      simpa [possB, rootI_of hxo] using this
    simp only [placeB, Bool.and_eq_true, decide_eq_true_eq] at hpl
    have hxl : xo < h.cells.length := by rw [← rootI_of hxo]; exact good_rootLt GG.out _
    obtain ⟨q, rfl⟩ := Int.eq_ofNat_of_zero_le hpl.1
    obtain ⟨l, hxc⟩ : ∃ l, Hid (h.cells[q]? = some l) := ⟨_, Go.Lib.hid (List.getElem?_eq_getElem (by omega))⟩
    rw [celI_of hxc] at hpl
    obtain ⟨y, hy⟩ : ∃ y, Hid (l.refs[cn]? = some y) := ⟨_, Go.Lib.hid (List.getElem?_eq_getElem (by omega))⟩
    obtain ⟨gC, cC, A2, c2, eC, hrv, -, -, -, -, -, -, -, -⟩ := H2.cellW 1 rfl hxc
    simp only [Value.slice.injEq] at eC
    obtain ⟨rfl, -, rfl⟩ := eC
    have kc1 : h.cells.length ≤ kC := by obtain ⟨_, _, e, hR⟩ := H2.formC 1 rfl; simp only [Value.slice.injEq] at e; have := hR.cap; omega
    have kr1 : h.roots.length ≤ kR := by obtain ⟨_, _, e, hR⟩ := H2.formI 2 rfl; simp only [Value.slice.injEq] at e; have := hR.cap; omega
    have HF : Hid (mDo h ⟨3, an, bn, cn⟩ pc = ⟨h.cells.set q ⟨l.used, l.data, l.refs.set cn z⟩, h.roots⟩) := Go.Lib.hid (by simp [mDo, rootI_of hxo, rootI_of hz, celI_of hxc, setRef])
    have hI := opsAt_3
    have hQ := opsR_3
    have k3 : ((3 : Int) != 1) = true := by decide
    obtain ⟨b0, b1, b2, b3, -, -, -, -⟩ := box4 H2 4 rfl
    go_wp2_with fail
    have HX := H2.drew
    clear H2 b0 b1 b2 b3
    obtain ⟨b0, b1, b2, b3, -, -, -, -⟩ := box4 HX 4 rfl
    refine wp_region_tree (fun w' => w'.cell? ⟨w.heap.size + 1, 0, none⟩ = some (.int .i64 3) ∧ w'.cell? ⟨w.heap.size + 1, 1, none⟩ = some (.int .i64 an) ∧ w'.cell? ⟨w.heap.size + 1, 2, none⟩ = some (.int .i64 bn) ∧ w'.cell? ⟨w.heap.size + 1, 3, none⟩ = some (.int .i64 cn)) 6 [] (.take 1 (.take 2 (.take 5 (.alt 0 (.take 3 (.take 4 (.alt 6 (.done) (.stop)))) (.stop))))) (by kernel_rfl) (by kernel_rfl) (by kernel_rfl) (⟨b0, b1, b2, b3⟩) ?_
    simp only [fillT, List.getElem?_cons_zero, List.getElem?_cons_succ, Nat.reduceBEq]
    repeat (first
      | (with_reducible refine po_take (v := ?_) ?_ (fun w' hS' => ?_) ?_
         rotate_left
         · (go_simp; done)
         · ((try dsimp only at hS'); go_simp; try with_reducible rfl)
         simp only [Act.put, List.setIfInBounds_toArray, List.set_cons_zero, List.set_cons_succ])
      | (with_reducible refine po_skip ?_ ?_
         · (go_simp; done)
         simp only [Act.put, List.setIfInBounds_toArray, List.set_cons_zero, List.set_cons_succ]))
    with_reducible refine po_run ?_ (fun K hK => ?_) ?_
    · (go_simp; done)
    rotate_left
    · exact po_stop
    go_simp
    refine (operations_any _).mono ?_
    rintro e w3 ⟨rfl, hb⟩
    replace HX := HX.call hb
    clear hb b0 b1 b2 b3
    obtain ⟨b0, b1, b2, b3, -, -, -, -⟩ := box4 HX 4 rfl
    refine hK.out _ _ (.inr (⟨b0, b1, b2, b3⟩)) ?_
    clear hK K
    repeat (first
      | (with_reducible refine po_take (v := ?_) ?_ (fun w' hS' => ?_) ?_
         rotate_left
         · (go_simp; done)
         · ((try dsimp only at hS'); go_simp; try with_reducible rfl)
         simp only [Act.put, List.setIfInBounds_toArray, List.set_cons_zero, List.set_cons_succ])
      | (with_reducible refine po_skip ?_ ?_
         · (go_simp; done)
         simp only [Act.put, List.setIfInBounds_toArray, List.set_cons_zero, List.set_cons_succ]))
    with_reducible refine po_run ?_ (fun K hK => ?_) ?_
    · (go_simp; done)
    rotate_left
    · exact po_stop
    go_simp
    refine (runSet_own HX rfl rfl kc1 kr1 3 an bn cn q l z y hxo hz hxc hy).mono ?_
    rintro e w4 ⟨⟨u, rfl⟩, HY⟩
    clear HX b0 b1 b2 b3
    have HX := HY
    clear HY
    obtain ⟨b0, b1, b2, b3, -, -, -, -⟩ := box4 HX 4 rfl
    refine hK.out _ _ (.inr (⟨b0, b1, b2, b3⟩)) ?_
    clear hK K
    refine po_done ?_
    clear b0 b1 b2 b3
    obtain ⟨x0, x1, xf0, xf1⟩ := HX.box2 0 rfl
    obtain ⟨y0, y1, y2, y3⟩ := HX.box2 3 rfl
    have HZ := (HX.putBox 3 rfl 0 (.slice (some ⟨gC, 0, none⟩) h.cells.length kC)).putBox 3 rfl 1 (.slice (some ⟨gR, 0, none⟩) h.roots.length kR)
    simp only [List.set_cons_zero, List.set_cons_succ] at HZ
    obtain ⟨z0, z1, -, -⟩ := HZ.box2 3 rfl
    obtain ⟨z2, -, -, -⟩ := (HX.putBox 3 rfl 0 (.slice (some ⟨gC, 0, none⟩) h.cells.length kC)).box2 3 rfl
    have HS : Hid (MadeHp w (mDo h ⟨3, an, bn, cn⟩ pc) (.returned (.agg #[.slice (some ⟨gC, 0, none⟩) h.cells.length kC, .slice (some ⟨gR, 0, none⟩) h.roots.length kR])) _) := Go.Lib.hid (by rw [HF.out]; exact ⟨_, _, _, rfl, HZ.order [1, 2] (by decide) rfl⟩)
    clear HX HZ
    go_wp2
    exact bodyPost_ret (v := .agg #[.slice (some ⟨gC, 0, none⟩) h.cells.length kC, .slice (some ⟨gR, 0, none⟩) h.roots.length kR]) (by simp [results, Try.results50, go_sem, z0, z1]) rfl HS.out
  by_cases h6 : op = 6
  · subst h6
    have HQ : 0 ≤ xo := by
      have := HP.out
      simpa [possB, rootI_of hxo] using this
    have hxl : xo < h.cells.length := by rw [← rootI_of hxo]; exact good_rootLt GG.out _
    obtain ⟨q, rfl⟩ := Int.eq_ofNat_of_zero_le HQ
    obtain ⟨l, hxc⟩ : ∃ l, Hid (h.cells[q]? = some l) := ⟨_, Go.Lib.hid (List.getElem?_eq_getElem (by omega))⟩
    obtain ⟨gC, cC, A2, c2, eC, hrv, -, -, -, -, -, -, -, -⟩ := H2.cellW 1 rfl hxc
    simp only [Value.slice.injEq] at eC
    obtain ⟨rfl, -, rfl⟩ := eC
    have HF : Hid (mDo h ⟨6, an, b, c⟩ pc = ⟨h.cells.set q ⟨l.used, b, l.refs⟩, h.roots⟩) := Go.Lib.hid (by simp [mDo, rootI_of hxo, celI_of hxc, setDat])
    have hI := opsAt_6
    have hQ := opsR_6
    have k3 : ((6 : Int) != 1) = true := by decide
    obtain ⟨b0, b1, b2, b3, -, -, -, -⟩ := box4 H2 4 rfl
    go_wp2_with fail
    have HX := H2.drew
    clear H2 b0 b1 b2 b3
    obtain ⟨b0, b1, b2, b3, -, -, -, -⟩ := box4 HX 4 rfl
    refine wp_region_tree (fun w' => w'.cell? ⟨w.heap.size + 1, 0, none⟩ = some (.int .i64 6) ∧ w'.cell? ⟨w.heap.size + 1, 1, none⟩ = some (.int .i64 an) ∧ w'.cell? ⟨w.heap.size + 1, 2, none⟩ = some (.int .i64 b) ∧ w'.cell? ⟨w.heap.size + 1, 3, none⟩ = some (.int .i64 c)) 6 [] (.take 1 (.take 2 (.take 5 (.alt 0 (.take 3 (.take 4 (.alt 6 (.done) (.stop)))) (.stop))))) (by kernel_rfl) (by kernel_rfl) (by kernel_rfl) (⟨b0, b1, b2, b3⟩) ?_
    simp only [fillT, List.getElem?_cons_zero, List.getElem?_cons_succ, Nat.reduceBEq]
    repeat (first
      | (with_reducible refine po_take (v := ?_) ?_ (fun w' hS' => ?_) ?_
         rotate_left
         · (go_simp; done)
         · ((try dsimp only at hS'); go_simp; try with_reducible rfl)
         simp only [Act.put, List.setIfInBounds_toArray, List.set_cons_zero, List.set_cons_succ])
      | (with_reducible refine po_skip ?_ ?_
         · (go_simp; done)
         simp only [Act.put, List.setIfInBounds_toArray, List.set_cons_zero, List.set_cons_succ]))
    with_reducible refine po_run ?_ (fun K hK => ?_) ?_
    · (go_simp; done)
    rotate_left
    · exact po_stop
    go_simp
    refine (operations_any _).mono ?_
    rintro e w3 ⟨rfl, hb⟩
    replace HX := HX.call hb
    clear hb b0 b1 b2 b3
    obtain ⟨b0, b1, b2, b3, -, -, -, -⟩ := box4 HX 4 rfl
    refine hK.out _ _ (.inr (⟨b0, b1, b2, b3⟩)) ?_
    clear hK K
    repeat (first
      | (with_reducible refine po_take (v := ?_) ?_ (fun w' hS' => ?_) ?_
         rotate_left
         · (go_simp; done)
         · ((try dsimp only at hS'); go_simp; try with_reducible rfl)
         simp only [Act.put, List.setIfInBounds_toArray, List.set_cons_zero, List.set_cons_succ])
      | (with_reducible refine po_skip ?_ ?_
         · (go_simp; done)
         simp only [Act.put, List.setIfInBounds_toArray, List.set_cons_zero, List.set_cons_succ]))
    with_reducible refine po_run ?_ (fun K hK => ?_) ?_
    · (go_simp; done)
    rotate_left
    · exact po_stop
    go_simp
    refine (runData_own HX rfl rfl 6 b c an q l hxo hxc).mono ?_
    rintro e w4 ⟨⟨u, rfl⟩, HY⟩
    clear HX b0 b1 b2 b3
    have HX := HY
    clear HY
    obtain ⟨b0, b1, b2, b3, -, -, -, -⟩ := box4 HX 4 rfl
    refine hK.out _ _ (.inr (⟨b0, b1, b2, b3⟩)) ?_
    clear hK K
    refine po_done ?_
    clear b0 b1 b2 b3
    obtain ⟨x0, x1, xf0, xf1⟩ := HX.box2 0 rfl
    obtain ⟨y0, y1, y2, y3⟩ := HX.box2 3 rfl
    have HZ := (HX.putBox 3 rfl 0 (.slice (some ⟨gC, 0, none⟩) h.cells.length kC)).putBox 3 rfl 1 (.slice (some ⟨gR, 0, none⟩) h.roots.length kR)
    simp only [List.set_cons_zero, List.set_cons_succ] at HZ
    obtain ⟨z0, z1, -, -⟩ := HZ.box2 3 rfl
    obtain ⟨z2, -, -, -⟩ := (HX.putBox 3 rfl 0 (.slice (some ⟨gC, 0, none⟩) h.cells.length kC)).box2 3 rfl
    have HS : Hid (MadeHp w (mDo h ⟨6, an, b, c⟩ pc) (.returned (.agg #[.slice (some ⟨gC, 0, none⟩) h.cells.length kC, .slice (some ⟨gR, 0, none⟩) h.roots.length kR])) _) := Go.Lib.hid (by rw [HF.out]; exact ⟨_, _, _, rfl, HZ.order [1, 2] (by decide) rfl⟩)
    clear HX HZ
    go_wp2
    exact bodyPost_ret (v := .agg #[.slice (some ⟨gC, 0, none⟩) h.cells.length kC, .slice (some ⟨gR, 0, none⟩) h.roots.length kR]) (by simp [results, Try.results50, go_sem, z0, z1]) rfl HS.out
  by_cases h1 : op = 1
  · subst h1
    have hok := HC'.out
    rw [cmdOk1] at hok
    simp only [Bool.and_eq_true, inR_iff] at hok
    obtain ⟨bn, rfl⟩ := Int.eq_ofNat_of_zero_le hok.1.2.1
    have hbn : (bn : Int) ≤ 3 := hok.1.2.2
    have HF : Hid (∀ n, n = bn → mDo h ⟨1, an, n, c⟩ pc = ⟨putCel h.cells pc ⟨true, c, emptyTo n⟩, h.roots.set an (pc : Int)⟩) := Go.Lib.hid (fun n e => by subst e; simp [mDo, newCel, emptyTo])
    clear hok
    have H3 := (H2.box [.bool true, .int .i64 c, .slice none 0 0] 49).noInts
    simp only [World.size_alloc] at H3
    obtain ⟨b0, b1, b2, b3, -, -, -, -⟩ := box4 H2 4 rfl
    obtain ⟨d0, d1, d2, d3, -, -, -, -⟩ := box4 H3 6 rfl
    clear H2
    go_wp2_with fail
    clear b0 b1 b2 b3 d0 d1 d2 d3
    go_loopw [27] (fun i wr => ∃ (k : Nat) (v : Value), i = .int .i64 k ∧ k ≤ bn ∧ Owns w.heap.size w wr [.ints v (emptyTo k), .box (w1.heap.size + 1) [.bool true, .int .i64 c, v] 49, .box w1.heap.size [.slice C h.cells.length kC, .slice (some ⟨gR, 0, none⟩) h.roots.length kR] 29, .cells (.slice C h.cells.length kC) rvs h.cells, .ints (.slice (some ⟨gR, 0, none⟩) h.roots.length kR) h.roots, .box (w.heap.size + 1 + 1) [.slice none 0 0, .slice none 0 0] 29, .box (w.heap.size + 1) [.int .i64 1, .int .i64 an, .int .i64 bn, .int .i64 c] 46, .box w.heap.size [.slice D m d, .slice D' m' d'] 29]) (fun i _ => bn - (intOf i).toNat)
    case atStart => exact ⟨0, _, rfl, Nat.zero_le _, H3⟩
    case round =>
      clear H3
      obtain ⟨k, v, rfl, hk, H⟩ := hrel
      obtain ⟨A, c1, rfl, -⟩ := H.formI 0 rfl
      have el : (emptyTo k).length = k := by simp [emptyTo]
      rw [el] at H
      have HL := Go.Lib.hid el
      clear el
      obtain ⟨u0, u1, u2, u3, u4, u5⟩ := H.box3 1 rfl
      obtain ⟨b0, b1, b2, b3, -, -, -, -⟩ := box4 H 6 rfl
      by_cases hlt : k < bn
      · have H4 := H.litI [-1] one_le_maxLen
        simp only [List.map_cons, List.map_nil, List.length_cons, List.length_nil, Nat.zero_add] at H4
        have e : emptyTo k ++ [-1] = emptyTo (k + 1) := by simp [emptyTo, List.replicate_succ']
        have HE := Go.Lib.hid e
        clear e
        go_wp2_with (at_builtin; go_loud (refine wpList_pushO rfl (.tmp 30) (.tmp 31) rfl H4 1 rfl rfl rfl (rdI_new _ _ _ rfl) (by rw [HL.out]; simp; omega) ?_; intro A3 k3 w3 H5; simp only [List.set_cons_zero, List.set_cons_succ, List.length_append, List.length_cons, List.length_nil, Nat.zero_add] at H5; rw [HE.out] at H5; obtain ⟨e0, e1, e2, e3, e4, e5⟩ := H5.box3 2 rfl))
        have H6 := (H5.putBox 2 rfl 2 (.slice A3 ((emptyTo k).length + 1) k3)).erase 0
        simp only [List.set_cons_zero, List.set_cons_succ, List.eraseIdx_cons_zero] at H6
        go_roundw
        case rel => exact ⟨k + 1, _, by go_num, by omega, H6⟩
        case measure => simp [intOf]; omega
      · obtain rfl : k = bn := by omega
        obtain ⟨x0, x1, xf0, xf1⟩ := H.box2 2 rfl
        by_cases hpq : pc = h.cells.length
        · have k1 : ((pc : Int) == (h.cells.length : Int)) = true := by simp; omega
          have i1 : (0 : Int) ≤ (pc : Int) := by omega
          have i2 : (pc : Int) < (h.cells.length : Int) + 1 := by omega
          have HF2 : Hid (mDo h ⟨1, an, k, c⟩ pc = ⟨(h.cells ++ [noCel]).set pc ⟨true, c, emptyTo k⟩, h.roots.set an (pc : Int)⟩) := Go.Lib.hid (by rw [HF.out k rfl, putCel, if_pos hpq, hpq]; simp)
          have hl0 : Hid ((h.cells ++ [noCel])[pc]? = some noCel) := Go.Lib.hid (by rw [hpq]; simp)
          clear hpq
          have H4 := H.noInts.alloc (.cells #[.bool false, .int .i64 0, .slice none 0 0] 49)
          go_wp2_with (at_builtin; go_loud (refine wpList_pushCO rfl (.tmp 41) (.tmp 43) rfl H4 4 0 (c := noCel) (rv := .slice none 0 0) rfl rfl rfl rfl rfl (heap1 wr _) (by omega) ?_; intro A3 k3 w3 H5; simp only [List.set_cons_zero, List.set_cons_succ, List.eraseIdx_cons_zero, List.length_append, List.length_cons, List.length_nil, Nat.zero_add] at H5; obtain ⟨e0, e1, e2, e3⟩ := H5.box2 2 rfl; have H6 := H5.putBox 2 rfl 0 (.slice A3 (h.cells.length + 1) k3); simp only [List.set_cons_zero, List.set_cons_succ] at H6; obtain ⟨gC, cC, A2, c2, eC, -, s0, s1, s2, t0, t1, t2, -, -⟩ := H6.cellW 3 rfl hl0; simp only [Value.slice.injEq] at eC; obtain ⟨rfl, -, rfl⟩ := eC; obtain ⟨n0, n1, nf0, nf1⟩ := H6.box2 2 rfl; obtain ⟨v0, v1, v2, -, -, -⟩ := H6.box3 1 rfl; have H7 := H6.putCell 3 0 (c := ⟨true, c, emptyTo k⟩) (rv := .slice A k c1) rfl rfl (by simp) pc (by simp; omega); simp only [List.set_cons_zero, List.set_cons_succ, List.eraseIdx_cons_zero] at H7; obtain ⟨j0, j1, -, -⟩ := H7.box2 1 rfl; obtain ⟨f0, f1, f2, f3, -, -, -, -⟩ := box4 H7 5 rfl; obtain ⟨r0, r1⟩ := H7.intAt 3 rfl rfl hxo; have H8 := H7.setInt 3 rfl rfl an (pc : Int); simp only [List.set_cons_zero, List.set_cons_succ] at H8; obtain ⟨l0, l1, -, -⟩ := H8.box2 1 rfl; obtain ⟨y0, y1, y2, y3⟩ := H8.box2 4 rfl; have HZ := (H8.putBox 4 rfl 0 (.slice (some ⟨gC, 0, none⟩) (h.cells.length + 1) k3)).putBox 4 rfl 1 (.slice (some ⟨gR, 0, none⟩) h.roots.length kR); simp only [List.set_cons_zero, List.set_cons_succ] at HZ; obtain ⟨z0, z1, -, -⟩ := HZ.box2 4 rfl; obtain ⟨z2, -, -, -⟩ := (H8.putBox 4 rfl 0 (.slice (some ⟨gC, 0, none⟩) (h.cells.length + 1) k3)).box2 4 rfl))
          have HS : Hid (MadeHp w (mDo h ⟨1, an, k, c⟩ pc) (.returned (.agg #[.slice (some ⟨gC, 0, none⟩) (h.cells.length + 1) k3, .slice (some ⟨gR, 0, none⟩) h.roots.length kR])) _) := Go.Lib.hid (by rw [HF2.out]; exact ⟨_, _, _, rfl, HZ.order [2, 3] (by decide) rfl⟩)
          exact bodyPost_ret (v := .agg #[.slice (some ⟨gC, 0, none⟩) (h.cells.length + 1) k3, .slice (some ⟨gR, 0, none⟩) h.roots.length kR]) (by simp [results, Try.results50, go_sem, z0, z1]) rfl HS.out
        · have hpl : pc < h.cells.length := by omega
          have k1 : ((pc : Int) == (h.cells.length : Int)) = false := by simp; omega
          have i1 : (0 : Int) ≤ (pc : Int) := by omega
          have i2 : (pc : Int) < (h.cells.length : Int) := by omega
          have HF2 : Hid (mDo h ⟨1, an, k, c⟩ pc = ⟨h.cells.set pc ⟨true, c, emptyTo k⟩, h.roots.set an (pc : Int)⟩) := Go.Lib.hid (by rw [HF.out k rfl, putCel, if_neg hpq])
          obtain ⟨l0, hl0⟩ : ∃ l0, Hid (h.cells[pc]? = some l0) := ⟨_, Go.Lib.hid (List.getElem?_eq_getElem hpl)⟩
          obtain ⟨gC, cC, A2, c2, eC, -, s0, s1, s2, t0, t1, t2, -, -⟩ := H.cellW 3 rfl hl0
          simp only [Value.slice.injEq] at eC
          obtain ⟨rfl, -, rfl⟩ := eC
          obtain ⟨x0, x1, xf0, xf1⟩ := H.box2 2 rfl
          have H5 := H.putCell 3 0 (c := ⟨true, c, emptyTo k⟩) (rv := .slice A k c1) rfl rfl rfl pc hpl
          simp only [List.set_cons_zero, List.set_cons_succ, List.eraseIdx_cons_zero] at H5
          obtain ⟨e0, e1, -, -⟩ := H5.box2 1 rfl
          obtain ⟨f0, f1, f2, f3, -, -, -, -⟩ := box4 H5 5 rfl
          obtain ⟨r0, r1⟩ := H5.intAt 3 rfl rfl hxo
          have H7 := H5.setInt 3 rfl rfl an (pc : Int)
          simp only [List.set_cons_zero, List.set_cons_succ] at H7
          obtain ⟨j0, j1, -, -⟩ := H7.box2 1 rfl
          obtain ⟨y0, y1, y2, y3⟩ := H7.box2 4 rfl
          have HZ := (H7.putBox 4 rfl 0 (.slice (some ⟨gC, 0, none⟩) h.cells.length kC)).putBox 4 rfl 1 (.slice (some ⟨gR, 0, none⟩) h.roots.length kR)
          simp only [List.set_cons_zero, List.set_cons_succ] at HZ
          obtain ⟨z0, z1, -, -⟩ := HZ.box2 4 rfl
          obtain ⟨z2, -, -, -⟩ := (H7.putBox 4 rfl 0 (.slice (some ⟨gC, 0, none⟩) h.cells.length kC)).box2 4 rfl
          have HS : Hid (MadeHp w (mDo h ⟨1, an, k, c⟩ pc) (.returned (.agg #[.slice (some ⟨gC, 0, none⟩) h.cells.length kC, .slice (some ⟨gR, 0, none⟩) h.roots.length kR])) _) := Go.Lib.hid (by rw [HF2.out]; exact ⟨_, _, _, rfl, HZ.order [2, 3] (by decide) rfl⟩)
          clear H H5 H7 HZ
          go_wp2
          exact bodyPost_ret (v := .agg #[.slice (some ⟨gC, 0, none⟩) h.cells.length kC, .slice (some ⟨gR, 0, none⟩) h.roots.length kR]) (by simp [results, Try.results50, go_sem, z0, z1]) rfl HS.out
  exact absurd HC'.out (by rw [cmdOk0 _ _ _ ⟨h1, h2, h3, h4, h5, h6⟩]; exact Bool.false_ne_true)
end Go.Proofs.Ytdkpfggfkhnjfaa
