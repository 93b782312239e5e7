/- The program's gathered makes a heap anew in an order; its CopyHeap. For every valid heap that can be read. -/
import Derived.Test.YtdkpfggfkhnjfaaVi
import Derived.Test.YtdkpfggfkhnjfaaVc
namespace Go.Proofs.Ytdkpfggfkhnjfaa
open Go.RowKit
theorem copyCel_snoc {h : Hp} {o o' : List Int} {k : Nat} {x : Int} (hx : Hid (o'[k]? = some x)) : (o'.take (k + 1)).map (copyCel h o) = (o'.take k).map (copyCel h o) ++ [copyCel h o x] := by
  rw [take_snoc' hx, List.map_append]; rfl
set_option maxHeartbeats 3200000 in
set_option maxRecDepth 20000 in
theorem gathered_any (w : World) (B B' : Nat) (v : Value) (h : Hp) (A : Option Addr) (n c : Nat) (o : List Int) (hh : RdH w B v h) (hr : RdI w B' A n c o) (hok : heapOk h = true) (hd : o.Nodup) (hl : o.length ≤ 40) (hm : ∀ c, c ∈ o ↔ RchI h c) :
    Calls Try.prog 34 #[v, .slice A n c] w (MadeH w (gath h o)) := by
  have hh' := hh.top
  have hr := hr.top
  obtain ⟨D, m, d, D', m', d', rfl, hC, hR⟩ := hh.top
  have l3 := hC.le1; have l4 := hC.le2
  have l1 := RdI.le1 hr; have l2 := RdI.le2 hr
  have l5 := RdI.le1 hR; have l6 := RdI.le2 hR
  obtain ⟨s4, s5⟩ := heapOk_small hok
  have HOr : Hid (∀ x ∈ o, 0 ≤ x ∧ x < m) := Go.Lib.hid fun x hx => by have h1 := (hm x).1 hx; have h2 := reach_lt h1; exact ⟨h1.1, by omega⟩
  have HNd := Go.Lib.hid hd
  have HNeg : Hid (nameI o (-1) = -1) := Go.Lib.hid (nameI_out fun k => by have := ((hm _).1 k).1; omega)
  have HCl : Hid (∀ (c : Nat) (l : Cel), h.cells[c]? = some l → l.refs.length ≤ 3 ∧ ∀ r ∈ l.refs, r = -1 ∨ (0 ≤ r ∧ r.toNat < h.cells.length)) := Go.Lib.hid fun c l hl => refs3 hok hl
  have HRt : Hid (∀ r ∈ h.roots, r = -1 ∨ (0 ≤ r ∧ r.toNat < h.cells.length)) := Go.Lib.hid fun r hr => by
    have h1 := (heapOk_leads hok).1 r hr
    by_cases h0 : 0 ≤ r
    · exact .inr ⟨h0, usedN_lt (leadsB_used h1 h0)⟩
    · refine .inl ?_
      unfold leadsB at h1
      rw [decide_eq_false h0] at h1
      simpa using h1
  clear hd hm hok
  have H1 := ((Owns.nil w).box [.slice D m d, .slice D' m' d'] 29).box [.slice none 0 0, .slice none 0 0] 29
  simp only [List.set_cons_zero, List.set_cons_succ, List.eraseIdx_cons_zero, List.eraseIdx_cons_succ, List.drop_succ_cons, List.drop_zero, List.take_succ_cons, List.take_zero, List.length_append, List.length_cons, List.length_nil, List.nil_append, Nat.zero_add, World.size_alloc] at H1
  obtain ⟨a0, a1, -, -⟩ := H1.box2 1 rfl
  go_enter Try.func34, Try.ntmps34
  go_wp2_with fail
  refine (numbersIn_any _ _ _ _ _ o m (hr.below H1.below) (by omega) HNd.out HOr.out).mono ?_
  rintro e w1 ⟨v1, rfl, ho, hb⟩
  have H2 := H1.madeI ho hb
  obtain ⟨N, hN⟩ : ∃ N, N = numL o m := ⟨_, rfl⟩
  rw [← hN] at H2
  have HN : Hid (∀ q, q < m → N[q]? = some (nameI o (q : Int))) := Go.Lib.hid fun q hq => by rw [hN]; exact numL_at hq
  clear hN H1 ho hb a0 a1
  obtain ⟨E, kE, rfl, -⟩ := H2.formI 0 rfl
  obtain ⟨a0, a1, -, -⟩ := H2.box2 2 rfl
  go_wp2_with fail
  refine (renamed_any _ _ _ _ _ _ _ _ _ h.roots N (nameI o) (hR.below H2.below) (H2.owI 0 rfl).rdI (by omega) (fun r hr h0 => ?_) fun r hr h0 => ?_).mono ?_
  · rcases HRt.out r hr with e | ⟨k, -⟩
    · rw [e]; exact HNeg.out
    · omega
  · rcases HRt.out r hr with e | ⟨k, k2⟩
    · omega
    · rw [HN.out _ (by omega), Int.toNat_of_nonneg k]
  rintro e w2 ⟨v2, rfl, ho, hb⟩
  have H3 := H2.madeI ho hb
  obtain ⟨R, hRg⟩ : ∃ R, R = h.roots.map (nameI o) := ⟨_, rfl⟩
  rw [← hRg] at H3
  have HRg := Go.Lib.hid hRg
  clear H2 ho hb a0 a1 hRg
  obtain ⟨A3, k3, rfl, -⟩ := H3.formI 0 rfl
  have H4 := (H3.box [.slice none 0 0, .slice A3 R.length k3] 29).noCells
  clear H3
  obtain ⟨a0, a1, -, -⟩ := H4.box2 5 rfl
  go_wp2_with fail
  go_loopw [22] (fun i wr => ∃ (k : Nat) (cv : Value) (rvs : List Value), i = .int .i64 k ∧ k ≤ n ∧ Owns w.heap.size w wr [.cells cv rvs ((o.take k).map (copyCel h o)), .box w2.heap.size [cv, .slice A3 R.length k3] 29, .ints (.slice A3 R.length k3) R, .ints (.slice E N.length kE) N, .box (w.heap.size + 1) [.slice none 0 0, .slice none 0 0] 29, .box w.heap.size [.slice D m d, .slice D' m' d'] 29]) (fun i _ => n - (intOf i).toNat)
  case atStart => exact ⟨0, _, _, rfl, Nat.zero_le _, H4⟩
  case round =>
    clear H4 a0 a1
    obtain ⟨k, cv, rvs, rfl, hk, H⟩ := hrel
    by_cases hlt : k < n
    · obtain ⟨bo, oo, x, rfl, hbo, hx0, q0⟩ := RdI.at_ hr hlt
      obtain ⟨hp0, hp1⟩ := HOr.out x (List.mem_of_getElem? hx0.out)
      obtain ⟨q, rfl⟩ := Int.eq_ofNat_of_zero_le hp0
      have hq : q < m := by omega
      obtain ⟨b, ob, l, A2, n2, c2, rfl, hbb, hx, q1, q2, q3, hrf⟩ := hC.at_ hq
      have g0 := H.ro q0 hbo
      have g1 := H.ro q1 hbb
      have g2 := H.ro q2 hbb
      have g3 := H.ro q3 hbb
      obtain ⟨a0, a1, -, -⟩ := H.box2 5 rfl
      have HF := Go.Lib.hid (HCl.out q l hx.out)
      have hf3 := HF.out.1
      have r1 := RdI.le1 hrf; have r2 := RdI.le2 hrf
      have hT := copyCel_snoc (h := h) (o := o) hx0
      have hlc : copyCel h o (q : Int) = ⟨true, l.data, l.refs.map (nameI o)⟩ := by unfold copyCel; rw [cel_at hx]
      have hlen : ((o.take k).map (copyCel h o)).length ≤ k := by simp; omega
      have hlen2 : k ≤ ((o.take k).map (copyCel h o)).length := by simp; omega
      have HX := (H.box [.bool l.used, .int .i64 l.data, .slice A2 n2 c2] 49).drew
      obtain ⟨x0, x1, xf, -⟩ := HX.box2 2 rfl
      obtain ⟨y0, y1, y2, -, -, -⟩ := HX.box3 0 rfl
      generalize (o.take k).map (copyCel h o) = X at *
      generalize copyCel h o (q : Int) = lc at *
      have i3 : (0 : Int) ≤ (q : Int) := by omega
      have i4 : (q : Int) < (m : Int) := by omega
      clear q0 q1 q2 q3 hp0 hp1 hx0
      go_wp2_with fail
      clear g0 g1 g2 g3 a0 a1
      refine wp_region_tree (fun w' => w'.cell? ⟨w2.heap.size, 0, none⟩ = some cv ∧ w'.cell? ⟨wr.heap.size, 1, none⟩ = some (.int .i64 l.data) ∧ w'.cell? ⟨wr.heap.size, 2, none⟩ = some (.slice A2 n2 c2)) 12 [] (.take 0 (.take 1 (.take 2 (.take 3 (.take 4 (.take 5 (.take 6 (.alt 7 (.take 8 (.alt 9 (.alt 10 (.take 11 (.alt 12 (.done) (.stop))) (.stop)) (.stop))) (.stop))))))))) (by kernel_rfl) (by kernel_rfl) (by kernel_rfl) (⟨x0, y1, y2⟩) ?_
      simp only [fillT, List.getElem?_cons_zero, List.getElem?_cons_succ, Nat.reduceBEq]
      repeat (first
        | (with_reducible refine po_take (v := ?_) ?_ (fun w' hS' => ?_) ?_
           rotate_left
           · (go_simp; done)
           · ((try dsimp only at hS'); go_simp; try with_reducible rfl)
           simp only [Act.put, List.setIfInBounds_toArray, List.set_cons_zero, List.set_cons_succ])
        | (with_reducible refine po_skip ?_ ?_
           · (go_simp; done)
           simp only [Act.put, List.setIfInBounds_toArray, List.set_cons_zero, List.set_cons_succ]))
      with_reducible refine po_run ?_ (fun K hK => ?_) ?_
      · (go_simp; done)
      rotate_left
      · exact po_stop
      go_simp
      refine (renamed_any _ _ _ _ _ _ _ _ _ l.refs N (nameI o) (hrf.below HX.below) (HX.owI 4 rfl).rdI (by omega) (fun r hr h0 => ?_) fun r hr h0 => ?_).mono ?_
      · rcases HF.out.2 r hr with e | ⟨k, -⟩
        · rw [e]; exact HNeg.out
        · omega
      · rcases HF.out.2 r hr with e | ⟨k, k2⟩
        · omega
        · rw [HN.out _ (by omega), Int.toNat_of_nonneg k]
      rintro e w3 ⟨v3, rfl, ho, hb⟩
      have hLr : l.refs.map (nameI o) = lc.refs := by rw [hlc]
      have e1 : Hid (true = lc.used) := Go.Lib.hid (by rw [hlc])
      have e2 : Hid (l.data = lc.data) := Go.Lib.hid (by rw [hlc])
      rw [hLr] at ho
      clear hLr hlc
      obtain ⟨A4, k4, rfl, -⟩ := ho.form
      replace HX := HX.madeI ho hb
      refine hK.out _ _ (.inr (⟨keept x0 hb, keept y1 hb, keept y2 hb⟩)) ?_
      clear hK K
      replace x0 := keept x0 hb
      replace y1 := keept y1 hb
      replace y2 := keept y2 hb
      repeat (first
        | (with_reducible refine po_take (v := ?_) ?_ (fun w' hS' => ?_) ?_
           rotate_left
           · (go_simp; done)
           · ((try dsimp only at hS'); go_simp; try with_reducible rfl)
           simp only [Act.put, List.setIfInBounds_toArray, List.set_cons_zero, List.set_cons_succ])
        | (with_reducible refine po_skip ?_ ?_
           · (go_simp; done)
           simp only [Act.put, List.setIfInBounds_toArray, List.set_cons_zero, List.set_cons_succ]))
      with_reducible refine po_run ?_ (fun K hK => ?_) ?_
      · (go_simp; done)
      rotate_left
      · exact po_stop
      go_simp
      replace HX := HX.box [.bool true, .int .i64 l.data, .slice A4 lc.refs.length k4] 49
      have hb := below_alloc w3 (.cells #[.bool true, .int .i64 l.data, .slice A4 lc.refs.length k4] 49)
      refine hK.out _ _ (.inr (⟨keept x0 hb, keept y1 hb, keept y2 hb⟩)) ?_
      clear hK K
      with_reducible refine po_run ?_ (fun K hK => ?_) ?_
      · (go_simp; done)
      rotate_left
      · exact po_stop
      refine wp_pushCO (c := lc) (.tmp 32) (.tmp 40) rfl HX 3 1 rfl rfl rfl rfl rfl (by rw [← e1.out, ← e2.out]; exact (HX.holds 0 _ rfl).2) (by omega) ?_
      intro A5 e5 w5 HZ
      simp only [List.set_cons_zero, List.set_cons_succ, List.eraseIdx_cons_succ, List.eraseIdx_cons_zero] at HZ
      obtain ⟨u0, u1, uf, -⟩ := HZ.box2 3 rfl
      obtain ⟨y0, y1, y2, -, -, -⟩ := HZ.box3 1 rfl
      refine hK.out _ _ (.inr (⟨u0, y1, y2⟩)) ?_
      clear hK K
      repeat (first
        | (with_reducible refine po_take (v := ?_) ?_ (fun w' hS' => ?_) ?_
           rotate_left
           · (go_simp; done)
           · ((try dsimp only at hS'); go_simp; try with_reducible rfl)
           simp only [Act.put, List.setIfInBounds_toArray, List.set_cons_zero, List.set_cons_succ])
        | (with_reducible refine po_skip ?_ ?_
           · (go_simp; done)
           simp only [Act.put, List.setIfInBounds_toArray, List.set_cons_zero, List.set_cons_succ]))
      with_reducible refine po_run ?_ (fun K hK => ?_) ?_
      · (go_simp; done)
      rotate_left
      · exact po_stop
      replace HZ := (HZ.putBox 3 rfl 0 (.slice A5 (X ++ [lc]).length e5)).drop 2
      simp only [List.set_cons_zero, List.set_cons_succ, List.drop_succ_cons, List.drop_zero] at HZ
      have e9 : (X ++ [lc]).length = X.length + 1 := by simp
      rw [e9, ← hT] at HZ
      have HS := Go.Lib.hid HZ
      clear HZ HX H
      go_simp
      refine hK.out _ _ (.inl rfl) ?_
      clear hK K
      refine po_done ?_
      clear x0 x1 xf y0 y1 y2 u0 u1 uf hT e1 e2
      go_wp2
      go_roundw
      case rel => exact ⟨k + 1, _, _, by go_num, by omega, HS.out⟩
      case measure => simp [intOf]; omega
    · rw [List.take_of_length_le (by omega)] at H
      obtain ⟨C1, e1, rfl, -⟩ := H.formC 0 rfl
      obtain ⟨x0, x1, -, -⟩ := H.box2 1 rfl
      obtain ⟨y0, y1, y2, y3⟩ := H.box2 4 rfl
      have R2 := (H.putBox 4 rfl 0 (.slice C1 (o.map (copyCel h o)).length e1)).putBox 4 rfl 1 (.slice A3 R.length k3)
      simp only [List.set_cons_zero, List.set_cons_succ, List.eraseIdx_cons_zero, List.eraseIdx_cons_succ, List.drop_succ_cons, List.drop_zero, List.take_succ_cons, List.take_zero, List.length_append, List.length_cons, List.length_nil, List.nil_append, Nat.zero_add, World.size_alloc] at R2
      obtain ⟨z0, z1, -, -⟩ := R2.box2 4 rfl
      have HR := Go.Lib.hid R2
      clear R2 H
      generalize hX : o.map (copyCel h o) = X at *
      go_wp2
      refine bodyPost_ret (v := .agg #[.slice C1 X.length e1, .slice A3 R.length k3]) (by simp [results, Try.results34, go_sem, z0, z1]) rfl ?_
      unfold gath
      rw [← HRg.out, hX]
      exact HR.out.toH 0 2 rfl rfl
set_option maxHeartbeats 3200000 in
set_option maxRecDepth 20000 in
theorem implCopyHeap_any (w : World) (B : Nat) (v : Value) (h : Hp) (hh : RdH w B v h) (hok : heapOk h = true) :
    Calls Try.prog 16 #[v] w (MadeH w (mCopy h)) := by
  have hh' := hh.top
  obtain ⟨D, m, d, D', m', d', rfl, hC, hR⟩ := hh.top
  have HOk := Go.Lib.hid hok
  have hlo : (ordH h).length ≤ 40 := by have := ordH_len hok; have := (heapOk_small hok).1; omega
  have HNd := Go.Lib.hid (ordH_nodup h)
  have HMem : Hid (∀ c, c ∈ ordH h ↔ RchI h c) := Go.Lib.hid fun c => mem_ordH hok
  rw [mCopy_yes hok]
  obtain ⟨o, hoe⟩ : ∃ o, o = ordH h := ⟨_, rfl⟩
  rw [← hoe] at hlo HNd HMem ⊢
  have HOe := Go.Lib.hid hoe
  clear hok hoe
  have H1 := ((Owns.nil w).box [.slice D m d, .slice D' m' d'] 29).box [.slice none 0 0, .slice none 0 0] 29
  simp only [List.set_cons_zero, List.set_cons_succ, List.eraseIdx_cons_zero, List.eraseIdx_cons_succ, List.drop_succ_cons, List.drop_zero, List.take_succ_cons, List.take_zero, List.length_append, List.length_cons, List.length_nil, List.nil_append, Nat.zero_add, World.size_alloc] at H1
  obtain ⟨a0, a1, -, -⟩ := H1.box2 1 rfl
  go_enter Try.func16, Try.ntmps16
  go_wp2_with fail
  refine (heapValid_any _ _ _ h (hh'.below H1.below)).mono ?_
  rintro e w1 ⟨rfl, hb1⟩
  rw [HOk.out]
  have H2 := H1.call hb1
  clear H1 hb1 a0 a1
  go_wp2_with fail
  have HX := H2.drew
  have H0 := Go.Lib.hid H2
  clear H2
  obtain ⟨b0, b1, -, -⟩ := HX.box2 1 rfl
  refine wp_region_tree (fun w' => w'.cell? ⟨w.heap.size, 0, none⟩ = some (.slice D m d) ∧ w'.cell? ⟨w.heap.size, 1, none⟩ = some (.slice D' m' d')) 4 [] (.take 0 (.take 1 (.alt 2 (.alt 3 (.alt 4 (.done) (.stop)) (.stop)) (.stop)))) (by kernel_rfl) (by kernel_rfl) (by kernel_rfl) (⟨b0, b1⟩) ?_
  simp only [fillT, List.getElem?_cons_zero, List.getElem?_cons_succ, Nat.reduceBEq]
  repeat (first
    | (with_reducible refine po_take (v := ?_) ?_ (fun w' hS' => ?_) ?_
       rotate_left
       · (go_simp; done)
       · ((try dsimp only at hS'); go_simp; try with_reducible rfl)
       simp only [Act.put, List.setIfInBounds_toArray, List.set_cons_zero, List.set_cons_succ])
    | (with_reducible refine po_skip ?_ ?_
       · (go_simp; done)
       simp only [Act.put, List.setIfInBounds_toArray, List.set_cons_zero, List.set_cons_succ]))
  with_reducible refine po_run ?_ (fun K hK => ?_) ?_
  · (go_simp; done)
  rotate_left
  · exact po_stop
  go_simp
  refine (metOrder_any _ _ _ h (hh'.below HX.below) HOk.out).mono ?_
  rintro e w2 ⟨v2, rfl, ho, hb⟩
  rw [← HOe.out] at ho
  replace HX := HX.madeI ho hb
  clear b0 b1 ho hb
  obtain ⟨O, kO, rfl, -⟩ := HX.formI 0 rfl
  obtain ⟨b0, b1, -, -⟩ := HX.box2 2 rfl
  refine hK.out _ _ (.inr (⟨b0, b1⟩)) ?_
  clear hK K
  with_reducible refine po_run ?_ (fun K hK => ?_) ?_
  · (go_simp; done)
  rotate_left
  · exact po_stop
  go_simp
  refine (gathered_any _ _ _ _ h _ _ _ o (hh'.below HX.below) (HX.owI 0 rfl).rdI HOk.out HNd.out hlo HMem.out).mono ?_
  rintro e w3 ⟨v3, rfl, ho, hb⟩
  obtain ⟨Z, hZ⟩ : ∃ Z, Z = gath h o := ⟨_, rfl⟩
  rw [← hZ] at ho
  have HZe := Go.Lib.hid hZ
  clear hZ
  obtain ⟨cv, rvs, rv, rfl, HY⟩ := HX.madeH ho hb
  clear b0 b1 ho hb HX
  have HX := HY
  clear HY
  obtain ⟨C, kC, rfl, -⟩ := HX.formC 0 rfl
  obtain ⟨R, kR, rfl, -⟩ := HX.formI 1 rfl
  obtain ⟨b0, b1, -, -⟩ := HX.box2 4 rfl
  refine hK.out _ _ (.inr (⟨b0, b1⟩)) ?_
  clear hK K
  with_reducible refine po_run ?_ (fun K hK => ?_) ?_
  · (go_simp; done)
  rotate_left
  · exact po_stop
  obtain ⟨y0, y1, y2, y3⟩ := HX.box2 3 rfl
  go_simp
  have HZ := (HX.putBox 3 rfl 0 (.slice C Z.cells.length kC)).putBox 3 rfl 1 (.slice R Z.roots.length kR)
  simp only [List.set_cons_zero, List.set_cons_succ, List.eraseIdx_cons_zero, List.eraseIdx_cons_succ, List.drop_succ_cons, List.drop_zero, List.take_succ_cons, List.take_zero, List.length_append, List.length_cons, List.length_nil, List.nil_append, Nat.zero_add, World.size_alloc] at HZ
  refine hK.out _ _ (.inl rfl) ?_
  clear hK K
  refine po_done ?_
  obtain ⟨z0, z1, -, -⟩ := HZ.box2 3 rfl
  have HS : Hid (MadeH w (gath h o) (.returned (.agg #[.slice C Z.cells.length kC, .slice R Z.roots.length kR])) _) := Go.Lib.hid (by rw [← HZe.out]; exact HZ.toH 0 1 rfl rfl)
  clear HX HZ H0 b0 b1 y0 y1 y2 y3
  go_wp2
  exact bodyPost_ret (v := .agg #[.slice C Z.cells.length kC, .slice R Z.roots.length kR]) (by simp [results, Try.results16, go_sem, z0, z1]) rfl HS.out
end Go.Proofs.Ytdkpfggfkhnjfaa
