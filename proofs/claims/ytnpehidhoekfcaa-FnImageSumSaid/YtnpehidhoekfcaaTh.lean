/- The program's heap of a table, made. -/
import Derived.Test.YtnpehidhoekfcaaTi
import Derived.Test.YtnpehidhoekfcaaZ0
namespace Go.Proofs.Ytnpehidhoekfcaa
open Go.RowKit
theorem tellC_snoc {hs : List Int} {cs : List Cel} {k : Nat} {l : Cel} (h : Hid (cs[k]? = some l)) : (cs.take (k + 1)).map (tellC hs) = (cs.take k).map (tellC hs) ++ [tellC hs l] := by
  rw [take_snoc' h, List.map_append]; rfl
set_option maxHeartbeats 3200000 in
set_option maxRecDepth 20000 in
theorem tabHeap_any (w : World) (B : Nat) (v : Value) (t : Tbl) (hh : RdT w B v t) (hn : t.store.cells.length ≤ 1048576) (hn2 : t.store.roots.length ≤ 1048576) (hn3 : ∀ c ∈ t.store.cells, c.refs.length ≤ 1048576) (hn4 : t.hands.length ≤ 1048576) :
    Calls Try.prog 51 #[v] w (MadeH w (tellH t)) := by
  have hh' := hh.top
  obtain ⟨D, m, d, D', m', d', E, q, f, rfl, hC, hR, hE⟩ := hh.top
  have hm1 := hC.mx; have hcap1 := hC.cap
  have l3 := hC.le1; have l4 := hC.le2
  have l5 := RdI.le1 hR; have l6 := RdI.le2 hR
  unfold maxLen at hm1
  have H1 := ((Owns.nil w).box [.slice D m d, .slice D' m' d', .slice E q f] 42).box [.slice none 0 0, .slice none 0 0] 27
  simp only [World.size_alloc] at H1
  obtain ⟨a0, a1, a2, -, -, -⟩ := H1.box3 1 rfl
  go_enter Try.func51, Try.ntmps51
  go_wp2_with fail
  refine (told_any _ _ _ _ t _ _ _ t.store.roots (hh'.below H1.below) (hR.below H1.below) hn2 hn4).mono ?_
  rintro e w1 ⟨rv, rfl, ho, hb⟩
  have H2 := H1.madeI ho hb
  obtain ⟨R, HRg⟩ : ∃ R, Hid (t.store.roots.map (tellR t.hands) = R) := ⟨_, Go.Lib.hid rfl⟩
  rw [HRg.out] at H2
  obtain ⟨A3, k3, rfl, -⟩ := H2.formI 0 rfl
  have H3 := ((H2.box [.slice none 0 0, .slice A3 R.length k3] 27).noCells)
  clear H1 H2 ho hb a0 a1 a2
  obtain ⟨a0, a1, a2, -, -, -⟩ := H3.box3 4 rfl
  go_wp2_with fail
  go_loopw [16] (fun i wr => ∃ (k : Nat) (cv : Value) (rvs : List Value), i = .int .i64 k ∧ k ≤ m ∧ Owns w.heap.size w wr [.cells cv rvs ((t.store.cells.take k).map (tellC t.hands)), .box w1.heap.size [cv, .slice A3 R.length k3] 27, .ints (.slice A3 R.length k3) R, .box (w.heap.size + 1) [.slice none 0 0, .slice none 0 0] 27, .box w.heap.size [.slice D m d, .slice D' m' d', .slice E q f] 42]) (fun i _ => m - (intOf i).toNat)
  case atStart => exact ⟨0, _, _, rfl, Nat.zero_le _, H3⟩
  case round =>
    clear H3 a0 a1 a2
    obtain ⟨k, cv, rvs, rfl, hk, H⟩ := hrel
    by_cases hlt : k < m
    · obtain ⟨b, o, l, A2, n2, c2, rfl, hbb, hx, q1, q2, q3, hrf⟩ := hC.at_ hlt
      have g1 := H.ro q1 hbb
      have g2 := H.ro q2 hbb
      have g3 := H.ro q3 hbb
      have HX := (H.box [.bool l.used, .int .i64 l.data, .slice A2 n2 c2] 40).drew
      obtain ⟨x0, x1, xf, -⟩ := HX.box2 2 rfl
      obtain ⟨y0, y1, y2, -, -, -⟩ := HX.box3 0 rfl
      obtain ⟨z0, z1, z2, -, -, -⟩ := HX.box3 5 rfl
      have hb3 := hn3 l (List.mem_of_getElem? hx.out)
      have r1 := RdI.le1 hrf; have r2 := RdI.le2 hrf
      have hT := tellC_snoc (hs := t.hands) hx
      have hlen : ((t.store.cells.take k).map (tellC t.hands)).length ≤ k := by simp; omega
      have hlen2 : k ≤ ((t.store.cells.take k).map (tellC t.hands)).length := by simp; omega
      generalize (t.store.cells.take k).map (tellC t.hands) = X at *
      clear q1 q2 q3
      go_wp2_with fail
      refine wp_region_tree (fun w' => w'.cell? ⟨w1.heap.size, 0, none⟩ = some cv ∧ (w'.cell? ⟨wr.heap.size, 0, none⟩ = some (.bool l.used) ∧ w'.cell? ⟨wr.heap.size, 1, none⟩ = some (.int .i64 l.data) ∧ w'.cell? ⟨wr.heap.size, 2, none⟩ = some (.slice A2 n2 c2)) ∧ w'.cell? ⟨w.heap.size, 0, none⟩ = some (.slice (some ⟨b, o, none⟩) m d) ∧ w'.cell? ⟨w.heap.size, 1, none⟩ = some (.slice D' m' d') ∧ w'.cell? ⟨w.heap.size, 2, none⟩ = some (.slice E q f)) 14 [] (.take 0 (.take 1 (.take 2 (.take 3 (.take 4 (.take 5 (.take 6 (.take 7 (.take 8 (.alt 9 (.take 10 (.alt 11 (.alt 12 (.take 13 (.alt 14 (.done) (.stop))) (.stop)) (.stop))) (.stop))))))))))) (by kernel_rfl) (by kernel_rfl) (by kernel_rfl) (⟨x0, ⟨y0, y1, y2⟩, z0, z1, z2⟩) ?_
      simp only [fillT, List.getElem?_cons_zero, List.getElem?_cons_succ, Nat.reduceBEq]
      repeat (first
        | (with_reducible refine po_take (v := ?_) ?_ (fun w' hS' => ?_) ?_
           rotate_left
           · (go_simp; done)
           · ((try dsimp only at hS'); go_simp; try with_reducible rfl)
           simp only [Act.put, List.setIfInBounds_toArray, List.set_cons_zero, List.set_cons_succ])
        | (with_reducible refine po_skip ?_ ?_
           · (go_simp; done)
           simp only [Act.put, List.setIfInBounds_toArray, List.set_cons_zero, List.set_cons_succ]))
      with_reducible refine po_run ?_ (fun K hK => ?_) ?_
      · (go_simp; done)
      rotate_left
      · exact po_stop
      go_simp
      refine (told_any _ _ _ _ t _ _ _ l.refs (hh'.below HX.below) (hrf.below HX.below) hb3 hn4).mono ?_
      rintro e w3 ⟨v3, rfl, ho, hb⟩
      have hLr : (tellC t.hands l).refs = l.refs.map (tellR t.hands) := rfl
      rw [← hLr] at ho
      clear hLr
      have e1 : l.used = (tellC t.hands l).used := rfl
      have e2 : l.data = (tellC t.hands l).data := rfl
      rw [e1, e2]
      generalize tellC t.hands l = l' at *
      clear e1 e2
      obtain ⟨A4, k4, rfl, -⟩ := ho.form
      replace HX := HX.madeI ho hb
      refine hK.out _ _ (.inr (⟨keept x0 hb, ⟨keept y0 hb, keept y1 hb, keept y2 hb⟩, keept z0 hb, keept z1 hb, keept z2 hb⟩)) ?_
      clear hK K
      replace x0 := keept x0 hb
      replace y0 := keept y0 hb
      replace y1 := keept y1 hb
      replace y2 := keept y2 hb
      replace z0 := keept z0 hb
      replace z1 := keept z1 hb
      replace z2 := keept z2 hb
      repeat (first
        | (with_reducible refine po_take (v := ?_) ?_ (fun w' hS' => ?_) ?_
           rotate_left
           · (go_simp; done)
           · ((try dsimp only at hS'); go_simp; try with_reducible rfl)
           simp only [Act.put, List.setIfInBounds_toArray, List.set_cons_zero, List.set_cons_succ])
        | (with_reducible refine po_skip ?_ ?_
           · (go_simp; done)
           simp only [Act.put, List.setIfInBounds_toArray, List.set_cons_zero, List.set_cons_succ]))
      with_reducible refine po_run ?_ (fun K hK => ?_) ?_
      · (go_simp; done)
      rotate_left
      · exact po_stop
      go_simp
      replace HX := HX.box [.bool l'.used, .int .i64 l'.data, .slice A4 l'.refs.length k4] 40
      have hb := below_alloc w3 (.cells #[.bool l'.used, .int .i64 l'.data, .slice A4 l'.refs.length k4] 40)
      refine hK.out _ _ (.inr (⟨keept x0 hb, ⟨keept y0 hb, keept y1 hb, keept y2 hb⟩, keept z0 hb, keept z1 hb, keept z2 hb⟩)) ?_
      clear hK K
      with_reducible refine po_run ?_ (fun K hK => ?_) ?_
      · (go_simp; done)
      rotate_left
      · exact po_stop
      refine wp_pushCO (.tmp 21) (.tmp 31) rfl HX 3 1 rfl rfl rfl rfl rfl (HX.holds 0 _ rfl).2 (by simp; omega) ?_
      intro A5 e5 w5 HZ
      simp only [List.set_cons_zero, List.set_cons_succ, List.eraseIdx_cons_succ, List.eraseIdx_cons_zero] at HZ
      obtain ⟨u0, u1, uf, -⟩ := HZ.box2 3 rfl
      obtain ⟨y0, y1, y2, -, -, -⟩ := HZ.box3 1 rfl
      obtain ⟨z0, z1, z2, -, -, -⟩ := HZ.box3 6 rfl
      refine hK.out _ _ (.inr (⟨u0, ⟨y0, y1, y2⟩, z0, z1, z2⟩)) ?_
      clear hK K
      repeat (first
        | (with_reducible refine po_take (v := ?_) ?_ (fun w' hS' => ?_) ?_
           rotate_left
           · (go_simp; done)
           · ((try dsimp only at hS'); go_simp; try with_reducible rfl)
           simp only [Act.put, List.setIfInBounds_toArray, List.set_cons_zero, List.set_cons_succ])
        | (with_reducible refine po_skip ?_ ?_
           · (go_simp; done)
           simp only [Act.put, List.setIfInBounds_toArray, List.set_cons_zero, List.set_cons_succ]))
      with_reducible refine po_run ?_ (fun K hK => ?_) ?_
      · (go_simp; done)
      rotate_left
      · exact po_stop
      replace HZ := (HZ.putBox 3 rfl 0 (.slice A5 (X ++ [l']).length e5)).drop 2
      simp only [List.set_cons_zero, List.set_cons_succ, List.drop_succ_cons, List.drop_zero] at HZ
      have e9 : (X ++ [l']).length = X.length + 1 := by simp
      rw [e9, ← hT] at HZ
      have HS := Go.Lib.hid HZ
      clear HZ HX H
      go_simp
      refine hK.out _ _ (.inl rfl) ?_
      clear hK K
      refine po_done ?_
      clear x0 x1 xf y0 y1 y2 z0 z1 z2 u0 u1 uf g1 g2 g3 hT
      go_wp2
      go_roundw
      case rel => exact ⟨k + 1, _, _, by go_num, by omega, HS.out⟩
      case measure => simp [intOf]; omega
    · rw [List.take_of_length_le (by omega)] at H
      obtain ⟨C1, e1, rfl, -⟩ := H.formC 0 rfl
      obtain ⟨x0, x1, -, -⟩ := H.box2 1 rfl
      obtain ⟨y0, y1, y2, y3⟩ := H.box2 3 rfl
      have R2 := (H.putBox 3 rfl 0 (.slice C1 (t.store.cells.map (tellC t.hands)).length e1)).putBox 3 rfl 1 (.slice A3 R.length k3)
      have HR := Go.Lib.hid R2
      clear R2 H
      generalize hX : t.store.cells.map (tellC t.hands) = X at *
      go_wp2
      refine bodyPost_ret (v := .agg #[.slice C1 X.length e1, .slice A3 R.length k3]) (by simp [results, Try.results51, go_sem, y0, y1]) rfl ?_
      unfold tellH
      rw [HRg.out, hX]
      exact HR.out.toH 0 2 rfl rfl
end Go.Proofs.Ytnpehidhoekfcaa
