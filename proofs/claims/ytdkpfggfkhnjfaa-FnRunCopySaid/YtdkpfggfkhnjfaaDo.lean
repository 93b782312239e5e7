/- The reference's execution of a possible instruction, a new cell behind the last one: for every valid heap. -/
import Derived.Test.YtdkpfggfkhnjfaaZ2
import Derived.Test.YtdkpfggfkhnjfaaZ1
namespace Go.Proofs.Ytdkpfggfkhnjfaa
open Go.RowKit
theorem mDo_cells {h : Hp} {o : Cmd} (p : Nat) : mDo h o p = mDo h o p := rfl
theorem celI_of {h : Hp} {q : Nat} {l : Cel} (hx : Hid (h.cells[q]? = some l)) : celI h (q : Int) = l := by unfold celI; rw [Int.toNat_natCast, getD_of hx]
set_option maxHeartbeats 6400000 in
set_option maxRecDepth 20000 in
theorem l8Do_any (w : World) (B : Nat) (v : Value) (h : Hp) (hh : RdH w B v h) (o : Cmd) (g : Good h) (hc : cmdOk o = true) (hp : possB h o = true) :
    Calls Try.prog 41 #[v, cmdV o, .int .i64 (h.cells.length : Int)] w (MadeHp w (mDo h o h.cells.length)) := by
  have hh' := hh.top
  obtain ⟨D, m, d, D', m', d', rfl, hC, hR⟩ := hh.top
  have hl40 := g.len
  have h4 := g.roots
  have hn3 : ∀ c ∈ h.cells, c.refs.length ≤ 1048576 := fun c hm => by
    have := g.cell c hm
    rw [cellOk_iff] at this
    rcases this with k | k
    · omega
    · rw [k.2.2]; simp
  have l1 := hC.le1; have l2 := hC.le2
  have l3 := RdI.le1 hR; have l4 := RdI.le2 hR
  have hca := cmd_a hc
  have hcb := cmd_b hc
  have hcc := cmd_c hc
  obtain ⟨op, a, b, c⟩ := o
  simp only at hca hcb hcc
  have H := (((Owns.nil w).box [.slice D m d, .slice D' m' d'] 29).box [.int .i64 op, .int .i64 a, .int .i64 b, .int .i64 c] 46).box [.slice none 0 0, .slice none 0 0] 29
  simp only [World.size_alloc] at H
  obtain ⟨a0, a1, -, -⟩ := H.box2 2 rfl
  have HN3 := Go.Lib.hid hn3
  have HCB := Go.Lib.hid hcb
  have HCC := Go.Lib.hid hcc
  have H4 := Go.Lib.hid h4
  have hm4 : 4 ≤ m' := by omega
  have hr4 : 4 ≤ h.roots.length := by omega
  have hr4' : h.roots.length ≤ 4 := by omega
  clear hn3 hcb hcc h4
  obtain ⟨an, rfl⟩ := Int.eq_ofNat_of_zero_le hca.1
  go_enter Try.func41, Try.ntmps41
  go_wp2_with fail
  refine (l7Copy_any _ _ _ h (hh'.below H.below) (by omega) (by omega) HN3.out).mono ?_
  rintro e w1 ⟨v1, rfl, ho, hb⟩
  obtain ⟨cv, rvs, rv, rfl, H1⟩ := H.madeH ho hb
  obtain ⟨C, kC, rfl, -⟩ := H1.formC 0 rfl
  obtain ⟨gR, kR, eR, -, -, -, -⟩ := H1.rowAt 1 rfl (show 0 < h.roots.length by omega)
  obtain rfl := eR
  clear H ho hb a0 a1
  have H2 := H1.box [.slice C h.cells.length kC, .slice (some ⟨gR, 0, none⟩) h.roots.length kR] 29
  clear H1
  obtain ⟨x0, x1, xf0, xf1⟩ := H2.box2 0 rfl
  obtain ⟨a0, a1, -, -⟩ := H2.box2 5 rfl
  obtain ⟨b0, b1, b2, b3, -, -, -, -⟩ := box4 H2 4 rfl
  have HC' := Go.Lib.hid hc
  have HP := Go.Lib.hid hp
  clear hc hp
  by_cases h4 : op = 4
  · subst h4
    obtain ⟨bn, rfl⟩ := Int.eq_ofNat_of_zero_le (HCB.out (.inr (.inr rfl))).1
    have hbn : (bn : Int) ≤ 3 := (HCB.out (.inr (.inr rfl))).2
    have hbm : bn < m' := by omega
    have hal : an < h.roots.length := by omega
    obtain ⟨bb, oo, x, rfl, hbb, hx, q1⟩ := RdI.at_ hR hbm
    obtain ⟨bz, oz, xo, -, -, hxo, -⟩ := RdI.at_ hR (show an < m' by omega)
    have HF : Hid (mDo h ⟨4, an, bn, c⟩ h.cells.length = ⟨h.cells, h.roots.set an x⟩) := Go.Lib.hid (by simp [mDo, rootI_of hx])
    go_wp2_with fail
    have HX := H2.drew
    clear x0 x1 xf0 xf1 a0 a1 b0 b1 b2 b3
    obtain ⟨x0, x1, xf0, xf1⟩ := HX.box2 0 rfl
    obtain ⟨a0, a1, -, -⟩ := HX.box2 5 rfl
    obtain ⟨b0, b1, b2, b3, -, -, -, -⟩ := box4 HX 4 rfl
    have q2 := HX.ro q1 hbb
    obtain ⟨e0, e1⟩ := HX.intAt 2 rfl rfl hxo
    clear q1
    refine wp_region_tree (fun w' => (w'.cell? ⟨w1.heap.size, 0, none⟩ = some (.slice C h.cells.length kC) ∧ w'.cell? ⟨w1.heap.size, 1, none⟩ = some (.slice (some ⟨gR, 0, none⟩) h.roots.length kR)) ∧ (w'.cell? ⟨w.heap.size, 0, none⟩ = some (.slice D m d) ∧ w'.cell? ⟨w.heap.size, 1, none⟩ = some (.slice (some ⟨bb, oo, none⟩) m' d')) ∧ (w'.cell? ⟨w.heap.size + 1, 1, none⟩ = some (.int .i64 an) ∧ w'.cell? ⟨w.heap.size + 1, 2, none⟩ = some (.int .i64 bn) ∧ w'.cell? ⟨w.heap.size + 1, 3, none⟩ = some (.int .i64 c)) ∧ w'.cell? ⟨bb, oo + bn, none⟩ = some (.int .i64 x)) 11 [] (.take 0 (.take 1 (.take 2 (.take 3 (.take 4 (.take 5 (.take 6 (.take 7 (.take 8 (.take 9 (.take 10 (.alt 11 (.done) (.stop))))))))))))) (by kernel_rfl) (by kernel_rfl) (by kernel_rfl) (⟨⟨x0, x1⟩, ⟨a0, a1⟩, ⟨b1, b2, b3⟩, q2⟩) ?_
    simp only [fillT, List.getElem?_cons_zero, List.getElem?_cons_succ, Nat.reduceBEq]
    repeat (first
      | (with_reducible refine po_take (v := ?_) ?_ (fun w' hS' => ?_) ?_
         rotate_left
         · (go_simp; done)
         · ((try dsimp only at hS'); go_simp; try with_reducible rfl)
         simp only [Act.put, List.setIfInBounds_toArray, List.set_cons_zero, List.set_cons_succ])
      | (with_reducible refine po_skip ?_ ?_
         · (go_simp; done)
         simp only [Act.put, List.setIfInBounds_toArray, List.set_cons_zero, List.set_cons_succ]))
    with_reducible refine po_run ?_ (fun K hK => ?_) ?_
    · (go_simp; done)
    rotate_left
    · exact po_stop
    go_simp
    clear HX
    have HX := H2.setInt 2 rfl rfl an x
    simp only [List.set_cons_zero, List.set_cons_succ] at HX
    clear e0 e1 q2 x0 x1 xf0 xf1 a0 a1 b0 b1 b2 b3 H2
    refine hK.out _ _ (.inl rfl) ?_
    clear hK K
    refine po_done ?_
    obtain ⟨x0, x1, xf0, xf1⟩ := HX.box2 0 rfl
    obtain ⟨y0, y1, y2, y3⟩ := HX.box2 3 rfl
    have HZ0 := (HX.putBox 3 rfl 0 (.slice C h.cells.length kC)).putBox 3 rfl 1 (.slice (some ⟨gR, 0, none⟩) h.roots.length kR)
    simp only [List.set_cons_zero, List.set_cons_succ] at HZ0
    obtain ⟨z0, z1, -, -⟩ := HZ0.box2 3 rfl
    have HZ := (HX.drew.putBox 3 rfl 0 (.slice C h.cells.length kC)).putBox 3 rfl 1 (.slice (some ⟨gR, 0, none⟩) h.roots.length kR)
    simp only [List.set_cons_zero, List.set_cons_succ] at HZ
    obtain ⟨z2, -, -, -⟩ := (HX.putBox 3 rfl 0 (.slice C h.cells.length kC)).box2 3 rfl
    have HS : Hid (MadeHp w (mDo h ⟨4, an, bn, c⟩ h.cells.length) (.returned (.agg #[.slice C h.cells.length kC, .slice (some ⟨gR, 0, none⟩) h.roots.length kR])) _) := Go.Lib.hid (by rw [HF.out]; exact ⟨_, rvs, _, rfl, HZ.order [1, 2] (by decide) rfl⟩)
    clear HX HZ HZ0
    go_wp2
    exact bodyPost_ret (v := .agg #[.slice C h.cells.length kC, .slice (some ⟨gR, 0, none⟩) h.roots.length kR]) (by simp [results, Try.results41, go_sem, z0, z1]) rfl HS.out
  by_cases h5 : op = 5
  · subst h5
    have hal : an < h.roots.length := by omega
    obtain ⟨bz, oz, xo, -, -, hxo, -⟩ := RdI.at_ hR (show an < m' by omega)
    have HF : Hid (mDo h ⟨5, an, b, c⟩ h.cells.length = ⟨h.cells, h.roots.set an (-1)⟩) := Go.Lib.hid (by simp [mDo])
    obtain ⟨e0, e1⟩ := H2.intAt 2 rfl rfl hxo
    have HX := H2.setInt 2 rfl rfl an (-1)
    simp only [List.set_cons_zero, List.set_cons_succ] at HX
    clear H2
    obtain ⟨x0, x1, xf0, xf1⟩ := HX.box2 0 rfl
    obtain ⟨y0, y1, y2, y3⟩ := HX.box2 3 rfl
    have HZ0 := (HX.putBox 3 rfl 0 (.slice C h.cells.length kC)).putBox 3 rfl 1 (.slice (some ⟨gR, 0, none⟩) h.roots.length kR)
    simp only [List.set_cons_zero, List.set_cons_succ] at HZ0
    obtain ⟨z0, z1, -, -⟩ := HZ0.box2 3 rfl
    have HZ := (HX.putBox 3 rfl 0 (.slice C h.cells.length kC)).putBox 3 rfl 1 (.slice (some ⟨gR, 0, none⟩) h.roots.length kR)
    simp only [List.set_cons_zero, List.set_cons_succ] at HZ
    obtain ⟨z2, -, -, -⟩ := (HX.putBox 3 rfl 0 (.slice C h.cells.length kC)).box2 3 rfl
    have HS : Hid (MadeHp w (mDo h ⟨5, an, b, c⟩ h.cells.length) (.returned (.agg #[.slice C h.cells.length kC, .slice (some ⟨gR, 0, none⟩) h.roots.length kR])) _) := Go.Lib.hid (by rw [HF.out]; exact ⟨_, rvs, _, rfl, HZ.order [1, 2] (by decide) rfl⟩)
    clear HX HZ HZ0
    go_wp2
    exact bodyPost_ret (v := .agg #[.slice C h.cells.length kC, .slice (some ⟨gR, 0, none⟩) h.roots.length kR]) (by simp [results, Try.results41, go_sem, z0, z1]) rfl HS.out
  by_cases h2 : op = 2
  · subst h2
    obtain ⟨bn, rfl⟩ := Int.eq_ofNat_of_zero_le (HCB.out (.inl rfl)).1
    obtain ⟨cn, rfl⟩ := Int.eq_ofNat_of_zero_le (HCC.out (.inl rfl)).1
    have hbn : (bn : Int) ≤ 3 := (HCB.out (.inl rfl)).2
    have hbm : bn < m' := by omega
    have hal : an < h.roots.length := by omega
    obtain ⟨bb, oo, x, rfl, hbb, hx, q1⟩ := RdI.at_ hR hbm
    obtain ⟨bz, oz, xo, -, -, hxo, -⟩ := RdI.at_ hR (show an < m' by omega)
    have hpl : placeB h x cn = true := by
      have := HP.out
      simpa [possB, rootI_of hx] using this
    simp only [placeB, Bool.and_eq_true, decide_eq_true_eq] at hpl
    have hxl : x < h.cells.length := by rw [← rootI_of hx]; exact good_rootLt g _
    obtain ⟨q, rfl⟩ := Int.eq_ofNat_of_zero_le hpl.1
    have hqm : q < m := by omega
    obtain ⟨b2', o2', l, A2, n2, c2, rfl, hbb2, hxc, k1, k2, k3, hrf⟩ := hC.at_ hqm
    rw [celI_of hxc] at hpl
    have r1 := RdI.le1 hrf; have r2 := RdI.le2 hrf
    have hcn : cn < n2 := by omega
    obtain ⟨b3', o3', y, rfl, hbb3, hy, t1⟩ := RdI.at_ hrf hcn
    have HF : Hid (mDo h ⟨2, an, bn, cn⟩ h.cells.length = ⟨h.cells, h.roots.set an y⟩) := Go.Lib.hid (by simp [mDo, rootI_of hx, celI_of hxc, hy.out])
    clear hpl k1 k2
    go_wp2_with fail
    have HX := H2.drew
    clear x0 x1 xf0 xf1 a0 a1 b0 b1 b2 b3
    obtain ⟨x0, x1, xf0, xf1⟩ := HX.box2 0 rfl
    obtain ⟨a0, a1, -, -⟩ := HX.box2 5 rfl
    obtain ⟨b0, b1, b2, b3, -, -, -, -⟩ := box4 HX 4 rfl
    have q2 := HX.ro q1 hbb
    have k4 := HX.ro k3 hbb2
    have t2 := HX.ro t1 hbb3
    obtain ⟨e0, e1⟩ := HX.intAt 2 rfl rfl hxo
    clear q1 k3 t1
    refine wp_region_tree (fun w' => (w'.cell? ⟨w1.heap.size, 0, none⟩ = some (.slice C h.cells.length kC) ∧ w'.cell? ⟨w1.heap.size, 1, none⟩ = some (.slice (some ⟨gR, 0, none⟩) h.roots.length kR)) ∧ (w'.cell? ⟨w.heap.size, 0, none⟩ = some (.slice (some ⟨b2', o2', none⟩) m d) ∧ w'.cell? ⟨w.heap.size, 1, none⟩ = some (.slice (some ⟨bb, oo, none⟩) m' d')) ∧ (w'.cell? ⟨w.heap.size + 1, 1, none⟩ = some (.int .i64 an) ∧ w'.cell? ⟨w.heap.size + 1, 2, none⟩ = some (.int .i64 bn) ∧ w'.cell? ⟨w.heap.size + 1, 3, none⟩ = some (.int .i64 cn)) ∧ w'.cell? ⟨bb, oo + bn, none⟩ = some (.int .i64 (q : Int)) ∧ w'.cell? ⟨b2', o2' + q * 3 + 2, none⟩ = some (.slice (some ⟨b3', o3', none⟩) n2 c2) ∧ w'.cell? ⟨b3', o3' + cn, none⟩ = some (.int .i64 y)) 20 [] (.take 0 (.take 1 (.take 2 (.take 3 (.take 4 (.take 5 (.take 6 (.take 7 (.take 8 (.take 9 (.take 10 (.take 11 (.take 12 (.take 13 (.take 14 (.take 15 (.take 16 (.take 17 (.take 18 (.take 19 (.alt 20 (.done) (.stop)))))))))))))))))))))) (by kernel_rfl) (by kernel_rfl) (by kernel_rfl) (⟨⟨x0, x1⟩, ⟨a0, a1⟩, ⟨b1, b2, b3⟩, q2, k4, t2⟩) ?_
    simp only [fillT, List.getElem?_cons_zero, List.getElem?_cons_succ, Nat.reduceBEq]
    repeat (first
      | (with_reducible refine po_take (v := ?_) ?_ (fun w' hS' => ?_) ?_
         rotate_left
         · (go_simp; done)
         · ((try dsimp only at hS'); go_simp; try with_reducible rfl)
         simp only [Act.put, List.setIfInBounds_toArray, List.set_cons_zero, List.set_cons_succ])
      | (with_reducible refine po_skip ?_ ?_
         · (go_simp; done)
         simp only [Act.put, List.setIfInBounds_toArray, List.set_cons_zero, List.set_cons_succ]))
    with_reducible refine po_run ?_ (fun K hK => ?_) ?_
    · (go_simp; done)
    rotate_left
    · exact po_stop
    go_simp
    clear HX
    have HX := H2.setInt 2 rfl rfl an y
    simp only [List.set_cons_zero, List.set_cons_succ] at HX
    clear e0 e1 q2 k4 t2 x0 x1 xf0 xf1 a0 a1 b0 b1 b2 b3 H2
    refine hK.out _ _ (.inl rfl) ?_
    clear hK K
    refine po_done ?_
    obtain ⟨x0, x1, xf0, xf1⟩ := HX.box2 0 rfl
    obtain ⟨y0, y1, y2, y3⟩ := HX.box2 3 rfl
    have HZ0 := (HX.putBox 3 rfl 0 (.slice C h.cells.length kC)).putBox 3 rfl 1 (.slice (some ⟨gR, 0, none⟩) h.roots.length kR)
    simp only [List.set_cons_zero, List.set_cons_succ] at HZ0
    obtain ⟨z0, z1, -, -⟩ := HZ0.box2 3 rfl
    have HZ := (HX.drew.putBox 3 rfl 0 (.slice C h.cells.length kC)).putBox 3 rfl 1 (.slice (some ⟨gR, 0, none⟩) h.roots.length kR)
    simp only [List.set_cons_zero, List.set_cons_succ] at HZ
    obtain ⟨z2, -, -, -⟩ := (HX.putBox 3 rfl 0 (.slice C h.cells.length kC)).box2 3 rfl
    have HS : Hid (MadeHp w (mDo h ⟨2, an, bn, cn⟩ h.cells.length) (.returned (.agg #[.slice C h.cells.length kC, .slice (some ⟨gR, 0, none⟩) h.roots.length kR])) _) := Go.Lib.hid (by rw [HF.out]; exact ⟨_, rvs, _, rfl, HZ.order [1, 2] (by decide) rfl⟩)
    clear HX HZ HZ0
    go_wp2
    exact bodyPost_ret (v := .agg #[.slice C h.cells.length kC, .slice (some ⟨gR, 0, none⟩) h.roots.length kR]) (by simp [results, Try.results41, go_sem, z0, z1]) rfl HS.out
  by_cases h3 : op = 3
  · subst h3
    obtain ⟨bn, rfl⟩ := Int.eq_ofNat_of_zero_le (HCB.out (.inr (.inl rfl))).1
    obtain ⟨cn, rfl⟩ := Int.eq_ofNat_of_zero_le (HCC.out (.inr rfl)).1
    have hbn : (bn : Int) ≤ 3 := (HCB.out (.inr (.inl rfl))).2
    have hbm : bn < m' := by omega
    have ham : an < m' := by omega
    obtain ⟨bb, oo, x, rfl, hbb, hx, q1⟩ := RdI.at_ hR ham
    obtain ⟨bz, oz, z, ez, hbz, hz, qz⟩ := RdI.at_ hR hbm
    simp only [Option.some.injEq, Addr.mk.injEq, and_true] at ez
    obtain ⟨rfl, rfl⟩ := ez
    have hpl : placeB h x cn = true := by
      have := HP.out
      simpa [possB, rootI_of hx] using this
    simp only [placeB, Bool.and_eq_true, decide_eq_true_eq] at hpl
    have HQ := hpl.1
    have hxl : x < h.cells.length := by rw [← rootI_of hx]; exact good_rootLt g _
    obtain ⟨q, rfl⟩ := Int.eq_ofNat_of_zero_le HQ
    have hql : q < h.cells.length := by omega
    obtain ⟨l, hxc⟩ : ∃ l, Hid (h.cells[q]? = some l) := ⟨_, Go.Lib.hid (List.getElem?_eq_getElem hql)⟩
    rw [celI_of hxc] at hpl
    have hcn : cn < l.refs.length := by omega
    obtain ⟨yo, hyo⟩ : ∃ y, Hid (l.refs[cn]? = some y) := ⟨_, Go.Lib.hid (List.getElem?_eq_getElem hcn)⟩
    obtain ⟨gC, cC, A2, c2, eC, hrv, -, -, -, -, -, -, -, -⟩ := H2.cellW 1 rfl hxc
    simp only [Value.slice.injEq] at eC
    obtain ⟨rfl, -, rfl⟩ := eC
    obtain ⟨gF, rfl, -, -⟩ := H2.refAt 1 rfl hrv hxc hyo
    have HF : Hid (mDo h ⟨3, an, bn, cn⟩ h.cells.length = ⟨h.cells.set q ⟨l.used, l.data, l.refs.set cn z⟩, h.roots⟩) := Go.Lib.hid (by simp [mDo, rootI_of hx, rootI_of hz, celI_of hxc, setRef])
    clear hpl HQ
    go_wp2_with fail
    have HX := H2.drew
    clear x0 x1 xf0 xf1 a0 a1 b0 b1 b2 b3
    obtain ⟨x0, x1, xf0, xf1⟩ := HX.box2 0 rfl
    obtain ⟨a0, a1, -, -⟩ := HX.box2 5 rfl
    obtain ⟨b0, b1, b2, b3, -, -, -, -⟩ := box4 HX 4 rfl
    have q2 := HX.ro q1 hbb
    have qz2 := HX.ro qz hbb
    obtain ⟨gC', cC', A2', c2', eC, hrv', -, -, k4, -, -, -, -, -⟩ := HX.cellW 1 rfl hxc
    simp only [Value.slice.injEq, Option.some.injEq, Addr.mk.injEq, and_true, true_and] at eC
    obtain ⟨rfl, rfl⟩ := eC
    obtain ⟨gF', eF, e0, e1⟩ := HX.refAt 1 rfl hrv' hxc hyo
    obtain rfl := eF
    have eV := hid_inj hrv hrv'
    simp only [Value.slice.injEq, Option.some.injEq, Addr.mk.injEq, and_true, true_and] at eV
    obtain ⟨rfl, rfl⟩ := eV
    clear q1 qz
    refine wp_region_tree (fun w' => (w'.cell? ⟨w1.heap.size, 0, none⟩ = some (.slice (some ⟨gC, 0, none⟩) h.cells.length kC) ∧ w'.cell? ⟨w1.heap.size, 1, none⟩ = some (.slice (some ⟨gR, 0, none⟩) h.roots.length kR)) ∧ (w'.cell? ⟨w.heap.size, 0, none⟩ = some (.slice D m d) ∧ w'.cell? ⟨w.heap.size, 1, none⟩ = some (.slice (some ⟨bb, oo, none⟩) m' d')) ∧ (w'.cell? ⟨w.heap.size + 1, 1, none⟩ = some (.int .i64 an) ∧ w'.cell? ⟨w.heap.size + 1, 2, none⟩ = some (.int .i64 bn) ∧ w'.cell? ⟨w.heap.size + 1, 3, none⟩ = some (.int .i64 cn)) ∧ w'.cell? ⟨bb, oo + an, none⟩ = some (.int .i64 (q : Int)) ∧ w'.cell? ⟨bb, oo + bn, none⟩ = some (.int .i64 z) ∧ w'.cell? ⟨gC, q * 3 + 2, none⟩ = some (.slice (some ⟨gF, 0, none⟩) l.refs.length c2)) 20 [] (.take 0 (.take 1 (.take 2 (.take 3 (.take 4 (.take 5 (.take 6 (.take 7 (.take 8 (.take 9 (.take 10 (.take 11 (.take 12 (.take 13 (.take 14 (.take 15 (.take 16 (.take 17 (.take 18 (.take 19 (.alt 20 (.done) (.stop)))))))))))))))))))))) (by kernel_rfl) (by kernel_rfl) (by kernel_rfl) (⟨⟨x0, x1⟩, ⟨a0, a1⟩, ⟨b1, b2, b3⟩, q2, qz2, k4⟩) ?_
    simp only [fillT, List.getElem?_cons_zero, List.getElem?_cons_succ, Nat.reduceBEq]
    repeat (first
      | (with_reducible refine po_take (v := ?_) ?_ (fun w' hS' => ?_) ?_
         rotate_left
         · (go_simp; done)
         · ((try dsimp only at hS'); go_simp; try with_reducible rfl)
         simp only [Act.put, List.setIfInBounds_toArray, List.set_cons_zero, List.set_cons_succ])
      | (with_reducible refine po_skip ?_ ?_
         · (go_simp; done)
         simp only [Act.put, List.setIfInBounds_toArray, List.set_cons_zero, List.set_cons_succ]))
    with_reducible refine po_run ?_ (fun K hK => ?_) ?_
    · (go_simp; done)
    rotate_left
    · exact po_stop
    go_simp
    clear HX
    have HX := H2.putRef 1 rfl hrv.out hxc.out rfl cn z
    simp only [List.set_cons_zero, List.set_cons_succ] at HX
    clear e0 e1 q2 qz2 k4 x0 x1 xf0 xf1 a0 a1 b0 b1 b2 b3 H2
    refine hK.out _ _ (.inl rfl) ?_
    clear hK K
    refine po_done ?_
    obtain ⟨x0, x1, xf0, xf1⟩ := HX.box2 0 rfl
    obtain ⟨y0, y1, y2, y3⟩ := HX.box2 3 rfl
    have HZ0 := (HX.putBox 3 rfl 0 (.slice (some ⟨gC, 0, none⟩) h.cells.length kC)).putBox 3 rfl 1 (.slice (some ⟨gR, 0, none⟩) h.roots.length kR)
    simp only [List.set_cons_zero, List.set_cons_succ] at HZ0
    obtain ⟨z0, z1, -, -⟩ := HZ0.box2 3 rfl
    have HZ := (HX.drew.putBox 3 rfl 0 (.slice (some ⟨gC, 0, none⟩) h.cells.length kC)).putBox 3 rfl 1 (.slice (some ⟨gR, 0, none⟩) h.roots.length kR)
    simp only [List.set_cons_zero, List.set_cons_succ] at HZ
    obtain ⟨z2, -, -, -⟩ := (HX.putBox 3 rfl 0 (.slice (some ⟨gC, 0, none⟩) h.cells.length kC)).box2 3 rfl
    have HS : Hid (MadeHp w (mDo h ⟨3, an, bn, cn⟩ h.cells.length) (.returned (.agg #[.slice (some ⟨gC, 0, none⟩) h.cells.length kC, .slice (some ⟨gR, 0, none⟩) h.roots.length kR])) _) := Go.Lib.hid (by rw [HF.out]; exact ⟨_, rvs, _, rfl, HZ.order [1, 2] (by decide) rfl⟩)
    clear HX HZ HZ0
    go_wp2
    exact bodyPost_ret (v := .agg #[.slice (some ⟨gC, 0, none⟩) h.cells.length kC, .slice (some ⟨gR, 0, none⟩) h.roots.length kR]) (by simp [results, Try.results41, go_sem, z0, z1]) rfl HS.out
  by_cases h6 : op = 6
  · subst h6
    have ham : an < m' := by omega
    obtain ⟨bb, oo, x, rfl, hbb, hx, q1⟩ := RdI.at_ hR ham
    have HQ : 0 ≤ x := by
      have := HP.out
      simpa [possB, rootI_of hx] using this
    have hxl : x < h.cells.length := by rw [← rootI_of hx]; exact good_rootLt g _
    obtain ⟨q, rfl⟩ := Int.eq_ofNat_of_zero_le HQ
    have hql : q < h.cells.length := by omega
    obtain ⟨l, hxc⟩ : ∃ l, Hid (h.cells[q]? = some l) := ⟨_, Go.Lib.hid (List.getElem?_eq_getElem hql)⟩
    obtain ⟨gC, cC, A2, c2, eC, hrv, -, -, -, -, -, -, -, -⟩ := H2.cellW 1 rfl hxc
    simp only [Value.slice.injEq] at eC
    obtain ⟨rfl, -, rfl⟩ := eC
    have HF : Hid (mDo h ⟨6, an, b, c⟩ h.cells.length = ⟨h.cells.set q ⟨l.used, b, l.refs⟩, h.roots⟩) := Go.Lib.hid (by simp [mDo, rootI_of hx, celI_of hxc, setDat])
    clear HQ
    go_wp2_with fail
    have HX := H2.drew
    clear x0 x1 xf0 xf1 a0 a1 b0 b1 b2 b3
    obtain ⟨x0, x1, xf0, xf1⟩ := HX.box2 0 rfl
    obtain ⟨a0, a1, -, -⟩ := HX.box2 5 rfl
    obtain ⟨b0, b1, b2, b3, -, -, -, -⟩ := box4 HX 4 rfl
    have q2 := HX.ro q1 hbb
    obtain ⟨gC', cC', A2', c2', eC, hrv', -, e0, -, -, e1, -, -, -⟩ := HX.cellW 1 rfl hxc
    simp only [Value.slice.injEq, Option.some.injEq, Addr.mk.injEq, and_true, true_and] at eC
    obtain ⟨rfl, rfl⟩ := eC
    clear q1
    refine wp_region_tree (fun w' => (w'.cell? ⟨w1.heap.size, 0, none⟩ = some (.slice (some ⟨gC, 0, none⟩) h.cells.length kC) ∧ w'.cell? ⟨w1.heap.size, 1, none⟩ = some (.slice (some ⟨gR, 0, none⟩) h.roots.length kR)) ∧ (w'.cell? ⟨w.heap.size, 0, none⟩ = some (.slice D m d) ∧ w'.cell? ⟨w.heap.size, 1, none⟩ = some (.slice (some ⟨bb, oo, none⟩) m' d')) ∧ (w'.cell? ⟨w.heap.size + 1, 1, none⟩ = some (.int .i64 an) ∧ w'.cell? ⟨w.heap.size + 1, 2, none⟩ = some (.int .i64 b) ∧ w'.cell? ⟨w.heap.size + 1, 3, none⟩ = some (.int .i64 c)) ∧ w'.cell? ⟨bb, oo + an, none⟩ = some (.int .i64 (q : Int))) 12 [] (.take 0 (.take 1 (.take 2 (.take 3 (.take 4 (.take 5 (.take 6 (.take 7 (.take 8 (.take 9 (.take 10 (.take 11 (.alt 12 (.done) (.stop)))))))))))))) (by kernel_rfl) (by kernel_rfl) (by kernel_rfl) (⟨⟨x0, x1⟩, ⟨a0, a1⟩, ⟨b1, b2, b3⟩, q2⟩) ?_
    simp only [fillT, List.getElem?_cons_zero, List.getElem?_cons_succ, Nat.reduceBEq]
    repeat (first
      | (with_reducible refine po_take (v := ?_) ?_ (fun w' hS' => ?_) ?_
         rotate_left
         · (go_simp; done)
         · ((try dsimp only at hS'); go_simp; try with_reducible rfl)
         simp only [Act.put, List.setIfInBounds_toArray, List.set_cons_zero, List.set_cons_succ])
      | (with_reducible refine po_skip ?_ ?_
         · (go_simp; done)
         simp only [Act.put, List.setIfInBounds_toArray, List.set_cons_zero, List.set_cons_succ]))
    with_reducible refine po_run ?_ (fun K hK => ?_) ?_
    · (go_simp; done)
    rotate_left
    · exact po_stop
    go_simp
    clear HX
    have HX := H2.putDat 1 rfl rfl hxc.out b
    simp only [List.set_cons_zero, List.set_cons_succ] at HX
    clear e0 e1 q2 x0 x1 xf0 xf1 a0 a1 b0 b1 b2 b3 H2
    refine hK.out _ _ (.inl rfl) ?_
    clear hK K
    refine po_done ?_
    obtain ⟨x0, x1, xf0, xf1⟩ := HX.box2 0 rfl
    obtain ⟨y0, y1, y2, y3⟩ := HX.box2 3 rfl
    have HZ0 := (HX.putBox 3 rfl 0 (.slice (some ⟨gC, 0, none⟩) h.cells.length kC)).putBox 3 rfl 1 (.slice (some ⟨gR, 0, none⟩) h.roots.length kR)
    simp only [List.set_cons_zero, List.set_cons_succ] at HZ0
    obtain ⟨z0, z1, -, -⟩ := HZ0.box2 3 rfl
    have HZ := (HX.drew.putBox 3 rfl 0 (.slice (some ⟨gC, 0, none⟩) h.cells.length kC)).putBox 3 rfl 1 (.slice (some ⟨gR, 0, none⟩) h.roots.length kR)
    simp only [List.set_cons_zero, List.set_cons_succ] at HZ
    obtain ⟨z2, -, -, -⟩ := (HX.putBox 3 rfl 0 (.slice (some ⟨gC, 0, none⟩) h.cells.length kC)).box2 3 rfl
    have HS : Hid (MadeHp w (mDo h ⟨6, an, b, c⟩ h.cells.length) (.returned (.agg #[.slice (some ⟨gC, 0, none⟩) h.cells.length kC, .slice (some ⟨gR, 0, none⟩) h.roots.length kR])) _) := Go.Lib.hid (by rw [HF.out]; exact ⟨_, rvs, _, rfl, HZ.order [1, 2] (by decide) rfl⟩)
    clear HX HZ HZ0
    go_wp2
    exact bodyPost_ret (v := .agg #[.slice (some ⟨gC, 0, none⟩) h.cells.length kC, .slice (some ⟨gR, 0, none⟩) h.roots.length kR]) (by simp [results, Try.results41, go_sem, z0, z1]) rfl HS.out
  by_cases h1 : op = 1
  · subst h1
    have hok := HC'.out
    rw [cmdOk1] at hok
    simp only [Bool.and_eq_true, inR_iff] at hok
    obtain ⟨bn, rfl⟩ := Int.eq_ofNat_of_zero_le hok.1.2.1
    have hbn : (bn : Int) ≤ 3 := hok.1.2.2
    have ham : an < m' := by omega
    obtain ⟨bb, oo, xo, rfl, -, hxo, -⟩ := RdI.at_ hR ham
    have HF : Hid (mDo h ⟨1, an, bn, c⟩ h.cells.length = ⟨h.cells ++ [⟨true, c, emptyTo bn⟩], h.roots.set an (h.cells.length : Int)⟩) := Go.Lib.hid (by simp [mDo, putCel, newCel, emptyTo])
    clear hok
    have H3 := (H2.box [.bool true, .int .i64 c, .slice none 0 0] 49).noInts
    simp only [World.size_alloc] at H3
    go_wp2_with fail
    clear H2 x0 x1 xf0 xf1 a0 a1 b0 b1 b2 b3
    go_loopw [9] (fun i wr => ∃ (k : Nat) (v : Value), i = .int .i64 k ∧ k ≤ bn ∧ Owns w.heap.size w wr [.ints v (emptyTo k), .box (w1.heap.size + 1) [.bool true, .int .i64 c, v] 49, .box w1.heap.size [.slice C h.cells.length kC, .slice (some ⟨gR, 0, none⟩) h.roots.length kR] 29, .cells (.slice C h.cells.length kC) rvs h.cells, .ints (.slice (some ⟨gR, 0, none⟩) h.roots.length kR) h.roots, .box (w.heap.size + 1 + 1) [.slice none 0 0, .slice none 0 0] 29, .box (w.heap.size + 1) [.int .i64 1, .int .i64 an, .int .i64 bn, .int .i64 c] 46, .box w.heap.size [.slice D m d, .slice (some ⟨bb, oo, none⟩) m' d'] 29]) (fun i _ => bn - (intOf i).toNat)
    case atStart => exact ⟨0, _, rfl, Nat.zero_le _, H3⟩
    case round =>
      clear H3
      obtain ⟨k, v, rfl, hk, H⟩ := hrel
      obtain ⟨A, c1, rfl, -⟩ := H.formI 0 rfl
      have el : (emptyTo k).length = k := by simp [emptyTo]
      rw [el] at H
      have HL := Go.Lib.hid el
      clear el
      obtain ⟨u0, u1, u2, u3, u4, u5⟩ := H.box3 1 rfl
      obtain ⟨b0, b1, b2, b3, -, -, -, -⟩ := box4 H 6 rfl
      by_cases hlt : k < bn
      · have H4 := H.litI [-1] one_le_maxLen
        simp only [List.map_cons, List.map_nil, List.length_cons, List.length_nil, Nat.zero_add] at H4
        have e : emptyTo k ++ [-1] = emptyTo (k + 1) := by simp [emptyTo, List.replicate_succ']
        have HE := Go.Lib.hid e
        clear e
        go_wp2_with (at_builtin; go_loud (refine wpList_pushO rfl (.tmp 26) (.tmp 27) rfl H4 1 rfl rfl rfl (rdI_new _ _ _ rfl) (by rw [HL.out]; simp; omega) ?_; intro A3 k3 w3 H5; simp only [List.set_cons_zero, List.set_cons_succ, List.length_append, List.length_cons, List.length_nil, Nat.zero_add] at H5; rw [HE.out] at H5; obtain ⟨e0, e1, e2, e3, e4, e5⟩ := H5.box3 2 rfl))
        have H6 := (H5.putBox 2 rfl 2 (.slice A3 ((emptyTo k).length + 1) k3)).erase 0
        simp only [List.set_cons_zero, List.set_cons_succ, List.eraseIdx_cons_zero] at H6
        go_roundw
        case rel => exact ⟨k + 1, _, by go_num, by omega, H6⟩
        case measure => simp [intOf]; omega
      · obtain rfl : k = bn := by omega
        obtain ⟨x0, x1, xf0, xf1⟩ := H.box2 2 rfl
        have H4 := H.alloc (.cells #[.bool true, .int .i64 c, .slice A k c1] 49)
        have HF2 : Hid (mDo h ⟨1, an, k, c⟩ h.cells.length = ⟨h.cells ++ [⟨true, c, emptyTo k⟩], h.roots.set an (h.cells.length : Int)⟩) := HF
        go_wp2_with (at_builtin; go_loud (refine wpList_pushCO rfl (.tmp 36) (.tmp 38) rfl H4 3 0 (c := ⟨true, c, emptyTo k⟩) (rv := .slice A k c1) rfl rfl rfl rfl rfl (heap1 wr _) (by omega) ?_; intro A3 k3 w3 H5; simp only [List.set_cons_zero, List.set_cons_succ, List.eraseIdx_cons_zero, List.length_append, List.length_cons, List.length_nil, Nat.zero_add] at H5; obtain ⟨e0, e1, e2, e3⟩ := H5.box2 1 rfl; have H6 := H5.putBox 1 rfl 0 (.slice A3 (h.cells.length + 1) k3); simp only [List.set_cons_zero, List.set_cons_succ] at H6; obtain ⟨e4, e5, -, -⟩ := H6.box2 1 rfl; obtain ⟨f0, f1, f2, f3, -, -, -, -⟩ := box4 H6 5 rfl; obtain ⟨r0, r1⟩ := H6.intAt 3 rfl rfl hxo; have H7 := H6.setInt 3 rfl rfl an (h.cells.length : Int); simp only [List.set_cons_zero, List.set_cons_succ] at H7; obtain ⟨i0, i1, -, -⟩ := H7.box2 1 rfl; obtain ⟨y0, y1, y2, y3⟩ := H7.box2 4 rfl; have HZ := (H7.putBox 4 rfl 0 (.slice A3 (h.cells.length + 1) k3)).putBox 4 rfl 1 (.slice (some ⟨gR, 0, none⟩) h.roots.length kR); simp only [List.set_cons_zero, List.set_cons_succ] at HZ; obtain ⟨z0, z1, -, -⟩ := HZ.box2 4 rfl; obtain ⟨z2, -, -, -⟩ := (H7.putBox 4 rfl 0 (.slice A3 (h.cells.length + 1) k3)).box2 4 rfl))
        have HS : Hid (MadeHp w (mDo h ⟨1, an, k, c⟩ h.cells.length) (.returned (.agg #[.slice A3 (h.cells.length + 1) k3, .slice (some ⟨gR, 0, none⟩) h.roots.length kR])) _) := Go.Lib.hid (by rw [HF2.out]; exact ⟨_, _, _, rfl, HZ.order [2, 3] (by decide) rfl⟩)
        exact bodyPost_ret (v := .agg #[.slice A3 (h.cells.length + 1) k3, .slice (some ⟨gR, 0, none⟩) h.roots.length kR]) (by simp [results, Try.results41, go_sem, z0, z1]) rfl HS.out
  exact absurd HC'.out (by rw [cmdOk0 _ _ _ ⟨h1, h2, h3, h4, h5, h6⟩]; exact Bool.false_ne_true)
end Go.Proofs.Ytdkpfggfkhnjfaa
