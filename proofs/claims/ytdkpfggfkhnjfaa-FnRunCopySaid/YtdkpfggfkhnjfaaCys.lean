/- The reference's l15Move makes a heap anew in an order; its CopyHeap. For every valid heap that can be read. -/
import Derived.Test.YtdkpfggfkhnjfaaOs
import Derived.Test.YtdkpfggfkhnjfaaL9
import Derived.Test.YtdkpfggfkhnjfaaVi
namespace Go.Proofs.Ytdkpfggfkhnjfaa
open Go.RowKit
theorem copyCel_next {h : Hp} {o o' : List Int} {k : Nat} {x : Int} (hx : Hid (o'[k]? = some x)) : (o'.take (k + 1)).map (copyCel h o) = (o'.take k).map (copyCel h o) ++ [copyCel h o x] := by
  rw [take_snoc' hx, List.map_append]; rfl
theorem nameI_next {o rs : List Int} {k : Nat} {x : Int} (hx : Hid (rs[k]? = some x)) : (rs.take (k + 1)).map (nameI o) = (rs.take k).map (nameI o) ++ [nameI o x] := by
  rw [take_snoc' hx, List.map_append]; rfl
set_option maxHeartbeats 6400000 in
set_option maxRecDepth 20000 in
theorem l15Move_any (w : World) (B B' : Nat) (v : Value) (h : Hp) (A : Option Addr) (n c : Nat) (o : List Int) (hh : RdH w B v h) (hr : RdI w B' A n c o) (hl : o.length ≤ 1000) (h3 : ∀ (c : Nat) (l : Cel), h.cells[c]? = some l → l.refs.length ≤ 1000) (h4 : h.roots.length ≤ 1000) (hO : ∀ x ∈ o, 0 ≤ x ∧ x < h.cells.length) :
    Calls Try.prog 37 #[v, .slice A n c] w (MadeH w (gath h o)) := by
  have hr := hr.top
  obtain ⟨D, m, d, D', m', d', rfl, hC, hR⟩ := hh.top
  have l3 := hC.le1; have l4 := hC.le2
  have l1 := RdI.le1 hr; have l2 := RdI.le2 hr
  have l5 := RdI.le1 hR; have l6 := RdI.le2 hR
  have HOr : Hid (∀ x ∈ o, 0 ≤ x ∧ x < m) := Go.Lib.hid fun x hx => by have := hO x hx; omega
  have H3 := Go.Lib.hid h3
  clear hO h3
  have H1 := ((((Owns.nil w).box [.slice D m d, .slice D' m' d'] 29).box [.slice none 0 0, .slice none 0 0] 29).box [.slice none 0 0, .slice none 0 0] 29).noCells
  simp only [List.set_cons_zero, List.set_cons_succ, List.eraseIdx_cons_zero, List.eraseIdx_cons_succ, List.drop_succ_cons, List.drop_zero, List.take_succ_cons, List.take_zero, List.length_append, List.length_cons, List.length_nil, List.nil_append, Nat.zero_add, World.size_alloc] at H1
  go_enter Try.func37, Try.ntmps37
  go_wp2_with fail
  go_loopw [6] (fun i wr => ∃ (k : Nat) (cv : Value) (rvs : List Value), i = .int .i64 k ∧ k ≤ n ∧ Owns w.heap.size w wr [.cells cv rvs ((o.take k).map (copyCel h o)), .box (w.heap.size + 2) [cv, .slice none 0 0] 29, .box (w.heap.size + 1) [.slice none 0 0, .slice none 0 0] 29, .box w.heap.size [.slice D m d, .slice D' m' d'] 29]) (fun i _ => n - (intOf i).toNat)
  case atStart => exact ⟨0, _, _, rfl, Nat.zero_le _, H1⟩
  case round =>
    clear H1
    obtain ⟨k, cv, rvs, rfl, hk, H⟩ := hrel
    by_cases hlt : k < n
    · obtain ⟨bo, oo, x, rfl, hbo, hx0, q0⟩ := RdI.at_ hr hlt
      obtain ⟨hp0, hp1⟩ := HOr.out x (List.mem_of_getElem? hx0.out)
      obtain ⟨q, rfl⟩ := Int.eq_ofNat_of_zero_le hp0
      have hq : q < m := by omega
      obtain ⟨b, ob, l, A2, n2, c2, rfl, hbb, hx, q1, q2, q3, hrf⟩ := hC.at_ hq
      have hf3 := H3.out q l hx.out
      have r1 := RdI.le1 hrf; have r2 := RdI.le2 hrf
      have hT := copyCel_next (h := h) (o := o) hx0
      have hlc : copyCel h o (q : Int) = ⟨true, l.data, l.refs.map (nameI o)⟩ := by unfold copyCel; rw [cel_at hx]
      have hlen : ((o.take k).map (copyCel h o)).length ≤ k := by simp; omega
      have hlen2 : k ≤ ((o.take k).map (copyCel h o)).length := by simp; omega
      generalize (o.take k).map (copyCel h o) = X at *
      generalize copyCel h o (q : Int) = lc at *
      have i3 : (0 : Int) ≤ (q : Int) := by omega
      have i4 : (q : Int) < (m : Int) := by omega
      clear hp0 hp1 hx0
      go_wp2_with fail
      have HX := H.drew
      clear H
      obtain ⟨a0, a1, -, -⟩ := HX.box2 3 rfl
      have g0 := HX.ro q0 hbo
      have g1 := HX.ro q1 hbb
      have g2 := HX.ro q2 hbb
      have g3 := HX.ro q3 hbb
      clear q0 q1 q2 q3
      refine wp_region_tree (fun w' => w'.cell? ⟨w.heap.size, 0, none⟩ = some (.slice (some ⟨b, ob, none⟩) m d) ∧ w'.cell? ⟨bo, oo + k, none⟩ = some (.int .i64 (q : Int)) ∧ w'.cell? ⟨b, ob + q * 3, none⟩ = some (.bool l.used) ∧ w'.cell? ⟨b, ob + q * 3 + 1, none⟩ = some (.int .i64 l.data) ∧ w'.cell? ⟨b, ob + q * 3 + 2, none⟩ = some (.slice A2 n2 c2)) 9 [] (.take 0 (.take 1 (.take 2 (.take 3 (.take 4 (.take 5 (.take 6 (.take 7 (.alt 8 (.alt 9 (.done) (.stop)) (.stop)))))))))) (by kernel_rfl) (by kernel_rfl) (by kernel_rfl) (⟨a0, g0, g1, g2, g3⟩) ?_
      simp only [fillT, List.getElem?_cons_zero, List.getElem?_cons_succ, Nat.reduceBEq]
      repeat (first
        | (with_reducible refine po_take (v := ?_) ?_ (fun w' hS' => ?_) ?_
           rotate_left
           · (go_simp; done)
           · ((try dsimp only at hS'); go_simp; try with_reducible rfl)
           simp only [Act.put, List.setIfInBounds_toArray, List.set_cons_zero, List.set_cons_succ])
        | (with_reducible refine po_skip ?_ ?_
           · (go_simp; done)
           simp only [Act.put, List.setIfInBounds_toArray, List.set_cons_zero, List.set_cons_succ]))
      with_reducible refine po_run ?_ (fun K hK => ?_) ?_
      · (go_simp; done)
      rotate_left
      · exact po_stop
      go_simp
      have H0 := HX.box [.bool false, .int .i64 0, .slice none 0 0] 49
      have hb := below_alloc wr.drew (.cells #[.bool false, .int .i64 0, .slice none 0 0] 49)
      refine hK.out _ _ (.inr (⟨keept a0 hb, keept g0 hb, keept g1 hb, keept g2 hb, keept g3 hb⟩)) ?_
      clear hK K
      with_reducible refine po_run ?_ (fun K hK => ?_) ?_
      · (go_simp; done)
      rotate_left
      · exact po_stop
      go_simp
      have H2 := HX.box [.bool l.used, .int .i64 l.data, .slice A2 n2 c2] 49
      refine hK.out _ _ (.inl rfl) ?_
      clear hK K
      refine po_done ?_
      simp only [drew_size] at H2
      have hbc := (H2.boxLt 0 rfl).1
      clear H0 hb a0 a1 g0 g1 g2 g3 HX
      have H4 := H2.litI [] zero_le_maxLen
      clear H2
      generalize hzz : wr.heap.size = zz at *
      go_wp2_with fail
      go_loopw [8, 9] (fun v8 i ws => ∃ j : Nat, i = .int .i64 j ∧ j ≤ n2 ∧ Owns w.heap.size w ws [.ints v8 ((l.refs.take j).map (nameI o)), .box zz [.bool l.used, .int .i64 l.data, .slice A2 n2 c2] 49, .cells cv rvs X, .box (w.heap.size + 2) [cv, .slice none 0 0] 29, .box (w.heap.size + 1) [.slice none 0 0, .slice none 0 0] 29, .box w.heap.size [.slice (some ⟨b, ob, none⟩) m d, .slice D' m' d'] 29]) (fun _ i _ => n2 - (intOf i).toNat)
      case atStart =>
        simp only [List.set_cons_zero, List.set_cons_succ, List.eraseIdx_cons_zero, List.eraseIdx_cons_succ, List.drop_succ_cons, List.drop_zero, List.take_succ_cons, List.take_zero, List.length_append, List.length_cons, List.length_nil, List.nil_append, Nat.zero_add, World.size_alloc] at H4
        simp only [drew_size, hzz] at H4
        exact ⟨0, rfl, Nat.zero_le _, H4⟩
      case round =>
        clear H4
        obtain ⟨j, rfl, hj, H⟩ := hrel
        obtain ⟨Y, hY⟩ : ∃ Y, Y = (l.refs.take j).map (nameI o) := ⟨_, rfl⟩
        rw [← hY] at H
        obtain ⟨E, kE, rfl, -⟩ := H.formI 0 rfl
        obtain ⟨y0, y1, y2, -, -, -⟩ := H.box3 1 rfl
        by_cases hlj : j < n2
        · obtain ⟨b2, o2, r, rfl, hbb2, hx2, p1⟩ := RdI.at_ hrf hlj
          have g1 := H.ro p1 hbb2
          have hT2 := nameI_next (o := o) hx2
          have hle : Y.length ≤ j := by rw [hY]; simp; omega
          rw [← hY] at hT2
          clear p1 hx2 hY
          go_wp2_with fail
          refine (l9Name_any _ _ _ _ _ o r (hr.below H.below) (by omega)).mono ?_
          rintro e w3 ⟨rfl, hb⟩
          generalize nameI o r = rn at *
          have H5 := (H.call hb).litI [rn] one_le_maxLen
          clear hb H y0 y1 y2 g1
          simp only [List.map_cons, List.map_nil, List.length_cons, List.length_nil, Nat.zero_add] at H5
          go_wp2_with (at_builtin; go_loud (refine wpList_pushO rfl (.tmp 34) (.tmp 42) rfl H5 1 rfl rfl rfl (rdI_new _ _ _ rfl) (by omega) ?_; intro A3 k3 w5 H6; simp only [List.set_cons_zero, List.set_cons_succ] at H6; generalize hN : Y ++ [rn] = N at *))
          have H7 := H6.erase 0
          simp only [List.eraseIdx_cons_zero] at H7
          clear H6
          go_roundw
          case rel => exact ⟨j + 1, by go_num, by omega, by rw [hT2]; exact H7⟩
          case measure => simp [intOf]; omega
        · obtain rfl : Y = lc.refs := by rw [hY, hlc, List.take_of_length_le (by omega)]
          have e3 : Hid (true = lc.used) := Go.Lib.hid (by rw [hlc])
          have e4 : Hid (l.data = lc.data) := Go.Lib.hid (by rw [hlc])
          clear hlc hY
          obtain ⟨C1, kC1, rfl, -⟩ := H.formC 2 rfl
          have H5 := H.box [.bool true, .int .i64 l.data, .slice E lc.refs.length kE] 49
          obtain ⟨z0, z1, zf, zf2⟩ := H.box2 3 rfl
          have HT := Go.Lib.hid hT
          clear H hT r1 r2
          go_wp2_with (at_builtin; go_loud (refine wpList_pushCO (c := lc) rfl (.tmp 45) (.tmp 50) rfl H5 3 1 rfl rfl rfl rfl rfl (by rw [← e3.out, ← e4.out]; exact (H5.holds 0 _ rfl).2) (by omega) ?_; intro A5 e5 w5 HZ; simp only [List.set_cons_zero, List.set_cons_succ, List.eraseIdx_cons_succ, List.eraseIdx_cons_zero] at HZ; generalize hN : X ++ [lc] = N at *; obtain ⟨u0, u1, uf, uf2⟩ := HZ.box2 3 rfl))
          have H6 := (HZ.putBox 3 rfl 0 (.slice A5 N.length e5)).drop 2
          simp only [List.set_cons_zero, List.set_cons_succ, List.drop_succ_cons, List.drop_zero] at H6
          clear HZ H5
          go_roundw
          case rel => exact ⟨k + 1, _, _, by go_num, by omega, by rw [HT.out]; exact H6⟩
          case measure => simp [intOf]; omega
    · rw [List.take_of_length_le (by omega)] at H
      have HX := Go.Lib.hid (show gath h o = ⟨o.map (copyCel h o), h.roots.map (nameI o)⟩ from rfl)
      generalize o.map (copyCel h o) = X at *
      obtain ⟨C1, kC1, rfl, -⟩ := H.formC 0 rfl
      have H5 := H.noInts
      clear H
      go_wp2_with fail
      go_loopw [10] (fun i ws => ∃ (j : Nat) (rv : Value), i = .int .i64 j ∧ j ≤ m' ∧ Owns w.heap.size w ws [.ints rv ((h.roots.take j).map (nameI o)), .cells (.slice C1 X.length kC1) rvs X, .box (w.heap.size + 2) [.slice C1 X.length kC1, rv] 29, .box (w.heap.size + 1) [.slice none 0 0, .slice none 0 0] 29, .box w.heap.size [.slice D m d, .slice D' m' d'] 29]) (fun i _ => m' - (intOf i).toNat)
      case atStart => exact ⟨0, _, rfl, Nat.zero_le _, H5⟩
      case round =>
        clear H5
        obtain ⟨j, rv, rfl, hj, H⟩ := hrel
        obtain ⟨Y, hY⟩ : ∃ Y, Y = (h.roots.take j).map (nameI o) := ⟨_, rfl⟩
        rw [← hY] at H
        obtain ⟨E, kE, rfl, -⟩ := H.formI 0 rfl
        obtain ⟨a0, a1, -, -⟩ := H.box2 4 rfl
        by_cases hlj : j < m'
        · obtain ⟨b2, o2, r, rfl, hbb2, hx2, p1⟩ := RdI.at_ hR hlj
          have hT2 := nameI_next (o := o) hx2
          have hle : Y.length ≤ j := by rw [hY]; simp; omega
          rw [← hY] at hT2
          have HT2 := Go.Lib.hid hT2
          clear hY hT2 hx2
          go_wp2_with fail
          have HX := H.drew
          clear H a0 a1
          obtain ⟨x0, x1, xf, xf2⟩ := HX.box2 2 rfl
          obtain ⟨a0, a1, -, -⟩ := HX.box2 4 rfl
          have g1 := HX.ro p1 hbb2
          refine wp_region_tree (fun w' => w'.cell? ⟨w.heap.size + 2, 1, none⟩ = some (.slice E Y.length kE) ∧ w'.cell? ⟨w.heap.size, 1, none⟩ = some (.slice (some ⟨b2, o2, none⟩) m' d') ∧ w'.cell? ⟨b2, o2 + j, none⟩ = some (.int .i64 r)) 12 [] (.take 0 (.take 1 (.take 2 (.take 3 (.take 4 (.take 5 (.take 6 (.take 7 (.alt 8 (.alt 9 (.alt 10 (.take 11 (.alt 12 (.done) (.stop))) (.stop)) (.stop)) (.stop)))))))))) (by kernel_rfl) (by kernel_rfl) (by kernel_rfl) (⟨x1, a1, g1⟩) ?_
          simp only [fillT, List.getElem?_cons_zero, List.getElem?_cons_succ, Nat.reduceBEq]
          repeat (first
            | (with_reducible refine po_take (v := ?_) ?_ (fun w' hS' => ?_) ?_
               rotate_left
               · (go_simp; done)
               · ((try dsimp only at hS'); go_simp; try with_reducible rfl)
               simp only [Act.put, List.setIfInBounds_toArray, List.set_cons_zero, List.set_cons_succ])
            | (with_reducible refine po_skip ?_ ?_
               · (go_simp; done)
               simp only [Act.put, List.setIfInBounds_toArray, List.set_cons_zero, List.set_cons_succ]))
          with_reducible refine po_run ?_ (fun K hK => ?_) ?_
          · (go_simp; done)
          rotate_left
          · exact po_stop
          go_simp
          refine (l9Name_any _ _ _ _ _ o r (hr.below HX.below) (by omega)).mono ?_
          rintro e w3 ⟨rfl, hb⟩
          replace HX := HX.call hb
          refine hK.out _ _ (.inr (⟨keept x1 hb, keept a1 hb, keept g1 hb⟩)) ?_
          clear hK K
          replace x1 := keept x1 hb
          replace a1 := keept a1 hb
          replace g1 := keept g1 hb
          generalize nameI o r = rn at *
          with_reducible refine po_run ?_ (fun K hK => ?_) ?_
          · (go_simp; done)
          rotate_left
          · exact po_stop
          go_simp
          have H0 := HX.litI [rn] one_le_maxLen
          have hb2 := below_alloc w3 (.cells #[.int .i64 rn] 3)
          refine hK.out _ _ (.inr (⟨keept x1 hb2, keept a1 hb2, keept g1 hb2⟩)) ?_
          clear hK K
          with_reducible refine po_run ?_ (fun K hK => ?_) ?_
          · (go_simp; done)
          rotate_left
          · exact po_stop
          refine wp_pushO (.tmp 61) (.tmp 69) rfl H0 1 rfl rfl rfl (rdI_new _ _ _ rfl) (by omega) ?_
          intro A5 k5 w5 HZ
          simp only [List.set_cons_zero, List.set_cons_succ] at HZ
          generalize hN : Y ++ [rn] = N at *
          obtain ⟨x0, x1, xf, xf2⟩ := HZ.box2 3 rfl
          obtain ⟨a0, a1, -, -⟩ := HZ.box2 5 rfl
          have g1 := HZ.ro p1 hbb2
          refine hK.out _ _ (.inr (⟨x1, a1, g1⟩)) ?_
          clear hK K
          repeat (first
            | (with_reducible refine po_take (v := ?_) ?_ (fun w' hS' => ?_) ?_
               rotate_left
               · (go_simp; done)
               · ((try dsimp only at hS'); go_simp; try with_reducible rfl)
               simp only [Act.put, List.setIfInBounds_toArray, List.set_cons_zero, List.set_cons_succ])
            | (with_reducible refine po_skip ?_ ?_
               · (go_simp; done)
               simp only [Act.put, List.setIfInBounds_toArray, List.set_cons_zero, List.set_cons_succ]))
          with_reducible refine po_run ?_ (fun K hK => ?_) ?_
          · (go_simp; done)
          rotate_left
          · exact po_stop
          go_simp
          have H6 := (HZ.putBox 3 rfl 1 (.slice A5 N.length k5)).drop 1
          simp only [List.set_cons_zero, List.set_cons_succ, List.drop_succ_cons, List.drop_zero] at H6
          refine hK.out _ _ (.inl rfl) ?_
          clear hK K
          refine po_done ?_
          clear HZ H0 HX x0 x1 xf xf2 a0 a1 g1 hb2 hb
          go_wp2
          go_roundw
          case rel => exact ⟨j + 1, _, by go_num, by omega, by rw [HT2.out]; exact H6⟩
          case measure => simp [intOf]; omega
        · have hYe : h.roots.map (nameI o) = Y := by rw [hY, List.take_of_length_le (by omega)]
          rw [hYe] at HX
          clear hY hYe
          obtain ⟨y0, y1, y2, y3⟩ := H.box2 3 rfl
          obtain ⟨x0, x1, xf, xf2⟩ := H.box2 2 rfl
          have HZ := (H.putBox 3 rfl 0 (.slice C1 X.length kC1)).putBox 3 rfl 1 (.slice E Y.length kE)
          simp only [List.set_cons_zero, List.set_cons_succ, List.eraseIdx_cons_zero, List.eraseIdx_cons_succ, List.drop_succ_cons, List.drop_zero, List.take_succ_cons, List.take_zero, List.length_append, List.length_cons, List.length_nil, List.nil_append, Nat.zero_add, World.size_alloc] at HZ
          obtain ⟨z0, z1, -, -⟩ := HZ.box2 3 rfl
          have HS : Hid (MadeH w (gath h o) (.returned (.agg #[.slice C1 X.length kC1, .slice E Y.length kE])) _) := Go.Lib.hid (by rw [HX.out]; exact HZ.toH 1 0 rfl rfl)
          clear H HZ
          go_wp2
          exact bodyPost_ret (v := .agg #[.slice C1 X.length kC1, .slice E Y.length kE]) (by simp [results, Try.results37, go_sem, z0, z1]) rfl HS.out
set_option maxHeartbeats 3200000 in
set_option maxRecDepth 20000 in
theorem specCopyHeap_any (w : World) (B : Nat) (v : Value) (h : Hp) (hh : RdH w B v h) (hok : heapOk h = true) :
    Calls Try.prog 19 #[v] w (MadeH w (mCopy h)) := by
  have hh' := hh.top
  obtain ⟨D, m, d, D', m', d', rfl, hC, hR⟩ := hh.top
  have HOk := Go.Lib.hid hok
  have hlo : (ordH h).length ≤ 40 := by have := ordH_len hok; have := (heapOk_small hok).1; omega
  have HNd := Go.Lib.hid (ordH_nodup h)
  have HMem : Hid (∀ c, c ∈ ordH h ↔ RchI h c) := Go.Lib.hid fun c => mem_ordH hok
  rw [mCopy_yes hok]
  obtain ⟨o, hoe⟩ : ∃ o, o = ordH h := ⟨_, rfl⟩
  rw [← hoe] at hlo HNd HMem ⊢
  have HOe := Go.Lib.hid hoe
  clear hok hoe
  have H1 := ((Owns.nil w).box [.slice D m d, .slice D' m' d'] 29).box [.slice none 0 0, .slice none 0 0] 29
  simp only [List.set_cons_zero, List.set_cons_succ, List.eraseIdx_cons_zero, List.eraseIdx_cons_succ, List.drop_succ_cons, List.drop_zero, List.take_succ_cons, List.take_zero, List.length_append, List.length_cons, List.length_nil, List.nil_append, Nat.zero_add, World.size_alloc] at H1
  obtain ⟨a0, a1, -, -⟩ := H1.box2 1 rfl
  go_enter Try.func19, Try.ntmps19
  go_wp2_with fail
  refine (specHeapValid_any _ _ _ h (hh'.below H1.below)).mono ?_
  rintro e w1 ⟨rfl, hb1⟩
  rw [HOk.out]
  have H2 := H1.call hb1
  clear H1 hb1 a0 a1
  go_wp2_with fail
  have HX := H2.drew
  have H0 := Go.Lib.hid H2
  clear H2
  obtain ⟨b0, b1, -, -⟩ := HX.box2 1 rfl
  refine wp_region_tree (fun w' => w'.cell? ⟨w.heap.size, 0, none⟩ = some (.slice D m d) ∧ w'.cell? ⟨w.heap.size, 1, none⟩ = some (.slice D' m' d')) 4 [] (.take 0 (.take 1 (.alt 2 (.alt 3 (.alt 4 (.done) (.stop)) (.stop)) (.stop)))) (by kernel_rfl) (by kernel_rfl) (by kernel_rfl) (⟨b0, b1⟩) ?_
  simp only [fillT, List.getElem?_cons_zero, List.getElem?_cons_succ, Nat.reduceBEq]
  repeat (first
    | (with_reducible refine po_take (v := ?_) ?_ (fun w' hS' => ?_) ?_
       rotate_left
       · (go_simp; done)
       · ((try dsimp only at hS'); go_simp; try with_reducible rfl)
       simp only [Act.put, List.setIfInBounds_toArray, List.set_cons_zero, List.set_cons_succ])
    | (with_reducible refine po_skip ?_ ?_
       · (go_simp; done)
       simp only [Act.put, List.setIfInBounds_toArray, List.set_cons_zero, List.set_cons_succ]))
  with_reducible refine po_run ?_ (fun K hK => ?_) ?_
  · (go_simp; done)
  rotate_left
  · exact po_stop
  go_simp
  refine (l9Order_any _ _ _ h (hh'.below HX.below) HOk.out).mono ?_
  rintro e w2 ⟨v2, rfl, ho, hb⟩
  rw [← HOe.out] at ho
  replace HX := HX.madeI ho hb
  clear b0 b1 ho hb
  obtain ⟨O, kO, rfl, -⟩ := HX.formI 0 rfl
  obtain ⟨b0, b1, -, -⟩ := HX.box2 2 rfl
  refine hK.out _ _ (.inr (⟨b0, b1⟩)) ?_
  clear hK K
  with_reducible refine po_run ?_ (fun K hK => ?_) ?_
  · (go_simp; done)
  rotate_left
  · exact po_stop
  go_simp
  refine (l15Move_any _ _ _ _ h _ _ _ o (hh'.below HX.below) (HX.owI 0 rfl).rdI (by omega) (fun c l hl => by have := (refs3 HOk.out hl).1; omega) (by have := (heapOk_small HOk.out).2; omega) (fun x hx => by have h1 := (HMem.out x).1 hx; have h2 := reach_lt h1; have h3 := h1.1; omega)).mono ?_
  rintro e w3 ⟨v3, rfl, ho, hb⟩
  obtain ⟨Z, hZ⟩ : ∃ Z, Z = gath h o := ⟨_, rfl⟩
  rw [← hZ] at ho
  have HZe := Go.Lib.hid hZ
  clear hZ
  obtain ⟨cv, rvs, rv, rfl, HY⟩ := HX.madeH ho hb
  clear b0 b1 ho hb HX
  have HX := HY
  clear HY
  obtain ⟨C, kC, rfl, -⟩ := HX.formC 0 rfl
  obtain ⟨R, kR, rfl, -⟩ := HX.formI 1 rfl
  obtain ⟨b0, b1, -, -⟩ := HX.box2 4 rfl
  refine hK.out _ _ (.inr (⟨b0, b1⟩)) ?_
  clear hK K
  with_reducible refine po_run ?_ (fun K hK => ?_) ?_
  · (go_simp; done)
  rotate_left
  · exact po_stop
  obtain ⟨y0, y1, y2, y3⟩ := HX.box2 3 rfl
  go_simp
  have HZ := (HX.putBox 3 rfl 0 (.slice C Z.cells.length kC)).putBox 3 rfl 1 (.slice R Z.roots.length kR)
  simp only [List.set_cons_zero, List.set_cons_succ, List.eraseIdx_cons_zero, List.eraseIdx_cons_succ, List.drop_succ_cons, List.drop_zero, List.take_succ_cons, List.take_zero, List.length_append, List.length_cons, List.length_nil, List.nil_append, Nat.zero_add, World.size_alloc] at HZ
  refine hK.out _ _ (.inl rfl) ?_
  clear hK K
  refine po_done ?_
  obtain ⟨z0, z1, -, -⟩ := HZ.box2 3 rfl
  have HS : Hid (MadeH w (gath h o) (.returned (.agg #[.slice C Z.cells.length kC, .slice R Z.roots.length kR])) _) := Go.Lib.hid (by rw [← HZe.out]; exact HZ.toH 0 1 rfl rfl)
  clear HX HZ H0 b0 b1 y0 y1 y2 y3
  go_wp2
  exact bodyPost_ret (v := .agg #[.slice C Z.cells.length kC, .slice R Z.roots.length kR]) (by simp [results, Try.results19, go_sem, z0, z1]) rfl HS.out
end Go.Proofs.Ytdkpfggfkhnjfaa
