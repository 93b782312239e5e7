/- WantedRegions, the reference's: it makes mWantedRegions too. -/
import Derived.Test.YtmhcajjlhiopmaaWr
namespace Go.Proofs.Ytmhcajjlhiopmaa
open Go.RowKit
def stL (h : Hp) (k : Nat) : List Int := (List.range k).map fun c => if usedN h.cells c then (5 : Int) else 0
theorem stL_len (h : Hp) (k : Nat) : (stL h k).length = k := by simp [stL]
theorem stL_free {h : Hp} {k : Nat} (hu : usedN h.cells k = false) : stL h (k + 1) = stL h k ++ [0] := by
  unfold stL; rw [List.range_succ, List.map_append, List.map_cons, List.map_nil, hu]; rfl
theorem stL_used {h : Hp} {k : Nat} (hu : usedN h.cells k = true) : stL h (k + 1) = (stL h k ++ [0]).set k 5 := by
  have hl := stL_len h k
  rw [List.set_append_right _ _ (by omega), hl, Nat.sub_self]
  unfold stL; rw [List.range_succ, List.map_append, List.map_cons, List.map_nil, hu]; rfl
theorem stL_end (h : Hp) (ws : List Int) : stL h h.cells.length = rtTo h ws ((List.range h.cells.length).map (wTo h ws 0)) 0 := rfl
theorem gd_at {X : List Int} {q : Nat} (h : q < X.length) : X[q]? = some (gd X q) := by
  unfold gd
  simp [List.getD, List.getElem?_eq_getElem h]
theorem snoc_at {X : List Int} {k : Nat} {x : Int} (h1 : X.length ≤ k) (h2 : k ≤ X.length) : (X ++ [x])[k]? = some x := by
  obtain rfl : k = X.length := by omega
  simp
theorem rl_len (k : Nat) (X : List Int) (r : Int) : (rl k X r).length = X.length := by unfold rl; split <;> simp
theorem relR_len (k : Nat) : ∀ (rs X : List Int), (relR k X rs).length = X.length
  | [], _ => rfl
  | r :: rs, X => by
    have := relR_len k rs (rl k X r)
    rw [rl_len] at this; exact this
theorem relC_len (cs : List Cel) (X : List Int) : ∀ k, (relC cs X k).length = X.length
  | 0 => rfl
  | k + 1 => by rw [relC, relR_len, relC_len cs X k]
theorem relN_len (cs : List Cel) (X : List Int) : ∀ t, (relN cs X t).length = X.length
  | 0 => rfl
  | t + 1 => by rw [relN, relC_len, relN_len cs X t]
theorem rt_len (h : Hp) (ws X : List Int) (k : Nat) : (rt h ws X k).length = X.length := by unfold rt; split <;> simp
theorem rtTo_len (h : Hp) (ws X : List Int) : ∀ k, (rtTo h ws X k).length = X.length
  | 0 => rfl
  | k + 1 => by rw [rtTo, rt_len, rtTo_len h ws X k]
theorem rl_neg {k : Nat} {X : List Int} {r : Int} (h : r < 0) : rl k X r = X := by unfold rl; rw [if_neg (by omega)]
theorem rl_pos {k : Nat} {X : List Int} {q : Nat} : rl k X (q : Int) = X.set q (min (gd X q) (gd X k)) := by unfold rl; rw [if_pos (by omega)]; simp
theorem rt_neg {h : Hp} {ws X : List Int} {k : Nat} {r : Int} (hr : Hid (h.roots[k]? = some r)) (h0 : r < 0) : rt h ws X k = X := by
  unfold rt; rw [getD_of hr, if_neg (by omega)]
theorem rt_pos {h : Hp} {ws X : List Int} {k q : Nat} {x : Int} (hr : Hid (h.roots[k]? = some (q : Int))) (hx : Hid (ws[k]? = some x)) : rt h ws X k = X.set q (min (gd X q) x) := by
  unfold rt; rw [getD_of hr, getD_of hx, if_pos (by omega)]; simp
abbrev OB.intsIn (v : Value) (n : Nat) (xs : List Int) : OB := .row 3 1 v n (xs.map (Value.int .i64))
theorem Owns.putIn {lo : Nat} {w0 w : World} {L : List OB} {g n c : Nat} {xs : List Int} (h : Owns lo w0 w (.intsIn (.slice (some ⟨g, 0, none⟩) n c) n xs :: L)) (j : Nat) (x : Int) : Owns lo w0 (w.setCell ⟨g, j, none⟩ (.int .i64 x)) (.intsIn (.slice (some ⟨g, 0, none⟩) n c) n (xs.set j x) :: L) := by
  have := h.putRow 0 rfl j (.int .i64 x)
  simpa only [List.set_cons_zero, ← List.map_set] using this
theorem Owns.ofIn {lo : Nat} {w0 w : World} {L : List OB} {n : Nat} {v : Value} {xs : List Int} (h : Owns lo w0 w (.intsIn v n xs :: L)) (hn : xs.length = n) : Owns lo w0 w (.ints v xs :: L) := by
  unfold OB.ints; rw [hn]; exact h
theorem Owns.toIn {lo : Nat} {w0 w : World} {L : List OB} {n : Nat} {v : Value} {xs : List Int} (h : Owns lo w0 w (.ints v xs :: L)) (hn : xs.length = n) : Owns lo w0 w (.intsIn v n xs :: L) := by
  subst hn; exact h
theorem Owns.snocRow {lo : Nat} {w0 w : World} {L : List OB} {g c : Nat} {X : List Int} {x : Int} (h : Owns lo w0 w (.ints (.slice (some ⟨g, 0, none⟩) (X ++ [x]).length c) (X ++ [x]) :: L)) : Owns lo w0 w (.intsIn (.slice (some ⟨g, 0, none⟩) (X.length + 1) c) (X.length + 1) (X ++ [x]) :: L) := by
  have e : (X ++ [x]).length = X.length + 1 := by simp
  rw [← e]; exact h
set_option maxHeartbeats 3200000 in
set_option maxRecDepth 20000 in
theorem specWantedRegions_any (w : World) (B B' : Nat) (v : Value) (h : Hp) (A : Option Addr) (n c : Nat) (ws : List Int) (hh : RdH w B v h) (hr : RdI w B' A n c ws) :
    Calls Try.prog 12 #[v, .slice A n c] w (MadeI w (mWantedRegions h ws)) := by
  have hh' := hh.top
  have hr := hr.top
  obtain ⟨D, m, d, D', m', d', rfl, hC, hR⟩ := hh.top
  have l1 := RdI.le1 hr; have l2 := RdI.le2 hr
  have l3 := hC.le1; have l4 := hC.le2
  have l5 := RdI.le1 hR; have l6 := RdI.le2 hR
  have H1 := ((Owns.nil w).box [.slice D m d, .slice D' m' d'] 26).litI [] zero_le_maxLen
  simp only [List.length_nil, World.size_alloc] at H1
  obtain ⟨a0, a1, -, -⟩ := H1.box2 1 rfl
  go_enter Try.func12, Try.ntmps12
  go_wp2_with fail
  refine (specHeapValid_any _ _ _ h (hh'.below H1.below)).mono ?_
  rintro e w1 ⟨rfl, hb1⟩
  have H2 := H1.call hb1
  clear H1 hb1 a0 a1
  obtain ⟨a0, a1, -, -⟩ := H2.box2 1 rfl
  cases hy : heapOk h
  · have HF := Go.Lib.hid (mWanted_no1 (ws := ws) hy)
    clear hy
    go_wp2
    go_ret
    rw [HF.out]
    exact H2.toI 0 rfl
  obtain ⟨s4, s5⟩ := heapOk_small hy
  replace s5 := Nat.le_of_eq s5.symm
  obtain ⟨s6, s7⟩ := heapOk_leads hy
  have HV := Go.Lib.hid (And.intro s6 s7)
  have HY := Go.Lib.hid hy
  clear hy s6 s7
  by_cases hn4 : n = 4
  · subst hn4
    obtain rfl : m = h.cells.length := by omega
    go_wp2_with fail
    go_loopw [5, 6] (fun v i wr => ∃ k : Nat, i = .int .i64 k ∧ k ≤ h.cells.length ∧ Owns w.heap.size w wr [.ints v (stL h k), .box w.heap.size [.slice D h.cells.length d, .slice D' m' d'] 26]) (fun _ i _ => h.cells.length - (intOf i).toNat)
    case atStart => exact ⟨0, rfl, Nat.zero_le _, H2⟩
    case round =>
      clear H2 a0 a1
      obtain ⟨k, rfl, hk, H⟩ := hrel
      obtain ⟨a0, a1, -, -⟩ := H.box2 1 rfl
      by_cases hlt : k < h.cells.length
      · obtain ⟨b, o, l, A2, n2, c2, rfl, hbb, hx, q1, q2, q3, hrf⟩ := hC.at_ hlt
        clear q2 q3 hrf
        have hun := usedN_at hx
        have hlen := stL_len h k
        obtain ⟨C5, k5, rfl, -⟩ := H.formI 0 rfl
        cases hu : l.used
        · rw [hu] at q1 hun
          have HB := Go.Lib.hid (stL_free hun)
          clear hu hun
          generalize stL h k = X at *
          have hl1 : X.length ≤ k := by omega
          have hl2 : k ≤ X.length := by omega
          clear hlen
          have H4 := H.alloc (.cells #[.int .i64 0] 3)
          go_wp2_with (at_builtin; go_loud (refine wpList_pushO rfl (.tmp 30) (.tmp 31) rfl H4 0 rfl rfl rfl (rdI_new _ _ _ (by simp)) (by omega) ?_; intro A3 k3 w3 H5; clear a0 a1; obtain ⟨a0, a1, -, -⟩ := H5.box2 1 rfl; have g1 := H5.ro q1 hbb))
          simp only [List.set_cons_zero, List.length_append, List.length_cons, List.length_nil, Nat.zero_add] at H5
          go_roundw
          case rel => exact ⟨k + 1, by go_num, by omega, by rw [HB.out]; exact H5⟩
          case measure => simp [intOf]; omega
        · rw [hu] at q1 hun
          have HB := Go.Lib.hid (stL_used hun)
          clear hu hun
          generalize stL h k = X at *
          have hl1 : X.length ≤ k := by omega
          have hl2 : k ≤ X.length := by omega
          clear hlen
          have H4 := H.alloc (.cells #[.int .i64 0] 3)
          go_wp2_with (at_builtin; go_loud (refine wpList_pushO rfl (.tmp 30) (.tmp 31) rfl H4 0 rfl rfl rfl (rdI_new _ _ _ (by simp)) (by omega) ?_; intro A3 k3 w3 H5; clear a0 a1; obtain ⟨a0, a1, -, -⟩ := H5.box2 1 rfl; have g1 := H5.ro q1 hbb; obtain ⟨g, cc, e7, -, -, -, -⟩ := H5.rowAt 0 rfl (by simp); simp only [Value.slice.injEq] at e7; obtain ⟨rfl, -, rfl⟩ := e7; have H6 := Owns.snocRow H5; obtain ⟨z0, zf⟩ := H6.elem 0 rfl (j := k) (u := .int .i64 0) (by rw [List.getElem?_map, snoc_at hl1 hl2]; rfl)))
          have H7 := (H6.putIn k 5).ofIn (by simp)
          rw [← HB.out] at H7
          go_roundw
          case rel => exact ⟨k + 1, by go_num, by omega, H7⟩
          case measure => simp [intOf]; omega
      · obtain rfl : k = h.cells.length := by omega
        rw [stL_end h ws] at H
        have HW : Hid (heapOk h = true) := HY
        replace H := H.toIn (n := h.cells.length) (by rw [rtTo_len]; simp)
        have HO : Hid (((List.range h.cells.length).map (wTo h ws 0)).length = h.cells.length) := Go.Lib.hid (by simp)
        have HFin := Go.Lib.hid fun hr => wanted_same (h := h) (wants := ws) HY.out hr
        generalize (List.range h.cells.length).map (wTo h ws 0) = O at *
        have hv : ∃ C cC, u5 = .slice C h.cells.length cC := by
          obtain ⟨C, cC, e, -⟩ := (H.ofIn (by rw [rtTo_len]; exact HO.out)).formI 0 rfl
          rw [rtTo_len, HO.out] at e
          exact ⟨C, cC, e⟩
        obtain ⟨C, cC, rfl⟩ := hv
        go_wp2_with fail
        clear a0 a1
        go_loopw [7] (fun i wr => ∃ k : Nat, i = .int .i64 k ∧ k ≤ 4 ∧ (∀ j x, j < k → ws[j]? = some x → regB x = true) ∧ Owns w.heap.size w wr [.intsIn (.slice C h.cells.length cC) h.cells.length (rtTo h ws O k), .box w.heap.size [.slice D h.cells.length d, .slice D' m' d'] 26]) (fun i _ => 4 - (intOf i).toNat)
        case atStart => exact ⟨0, rfl, Nat.zero_le _, fun j x hj => by omega, H⟩
        case round =>
          clear H
          obtain ⟨k, rfl, hk, hall, H⟩ := hrel
          obtain ⟨a0, a1, -, -⟩ := H.box2 1 rfl
          by_cases hlt : k < 4
          · obtain ⟨b, o, x, rfl, hbb, hx, q1⟩ := RdI.at_ hr hlt
            obtain ⟨bR, oR, r, rfl, hbR, hxR, q2⟩ := RdI.at_ hR (show k < m' by omega)
            have g1 := H.ro q1 hbb
            have g2 := H.ro q2 hbR
            cases hxr : regB x
            · have HF := Go.Lib.hid (mWanted_no3 (h := h) hx hxr)
              have hno := regB_no hxr
              clear hxr
              go_wp2_with fail
              refine (l1In_no _ _ _ _ hno).mono ?_
              rintro e w3 ⟨rfl, hw3⟩
              obtain rfl := hw3
              clear hno
              have H8 := H.litI [] zero_le_maxLen
              go_wp2
              go_ret
              rw [HF.out]
              exact H8.toI 0 rfl
            · have HALL := Go.Lib.hid (regs_succ hx hxr hall)
              obtain ⟨y1, y2⟩ := regB_yes hxr
              clear hxr hall
              by_cases c0 : r < 0
              · have HT : Hid (rtTo h ws O (k + 1) = rtTo h ws O k) := Go.Lib.hid (rt_neg hxR c0)
                go_wp2_with fail
                refine (l1In_yes _ _ _ _ y1 y2).mono ?_
                rintro e w3 ⟨rfl, hw3⟩
                obtain rfl := hw3
                go_wp2
                go_roundw
                case rel => exact ⟨k + 1, by go_num, by omega, HALL.out, by rw [HT.out]; exact H⟩
                case measure => simp [intOf]; omega
              · obtain ⟨q, rfl⟩ := Int.eq_ofNat_of_zero_le (by omega : 0 ≤ r)
                have hq : q < h.cells.length := by have := usedN_lt (leadsB_used (HV.out.1 _ (List.mem_of_getElem? hxR.out)) (by omega)); simpa using this
                have HT : Hid (rtTo h ws O (k + 1) = (rtTo h ws O k).set q (min (gd (rtTo h ws O k) q) x)) := Go.Lib.hid (rt_pos hxR hx)
                have HL : Hid ((rtTo h ws O k)[q]? = some (gd (rtTo h ws O k) q)) := Go.Lib.hid (gd_at (by rw [rtTo_len, HO.out]; exact hq))
                generalize rtTo h ws O k = X at *
                generalize gd X q = z at *
                obtain ⟨g, cc, e7, -, -, -, -⟩ := H.rowAt 0 rfl (by omega)
                simp only [Value.slice.injEq, true_and] at e7
                obtain ⟨rfl, rfl⟩ := e7
                have HX := H.drew
                obtain ⟨z0, zf⟩ := HX.elem 0 rfl (j := q) (u := .int .i64 z) (by rw [List.getElem?_map, HL.out]; rfl)
                have z1 := HX.ro q1 hbb
                go_wp2_with fail
                refine (l1In_yes _ _ _ _ y1 y2).mono ?_
                rintro e w3 ⟨rfl, hw3⟩
                obtain rfl := hw3
                go_wp2_with fail
                refine wp_region_tree (fun w' => w'.cell? ⟨g, q, none⟩ = some (.int .i64 z) ∧ w'.frozen? ⟨g, q, none⟩ = false ∧ w'.cell? ⟨b, o + k, none⟩ = some (.int .i64 x)) 12 [] (.take 0 (.take 1 (.take 2 (.take 3 (.take 4 (.take 5 (.take 6 (.take 7 (.take 8 (.take 9 (.alt 10 (.take 11 (.alt 12 (.done) (.stop))) (.stop)))))))))))) (by kernel_rfl) (by kernel_rfl) (by kernel_rfl) (⟨z0, zf, z1⟩) ?_
                simp only [fillT, List.getElem?_cons_zero, List.getElem?_cons_succ, Nat.reduceBEq]
                repeat (first
                  | (with_reducible refine po_take (v := ?_) ?_ (fun w' hS' => ?_) ?_
                     rotate_left
                     · (go_simp; done)
                     · ((try dsimp only at hS'); go_simp; try with_reducible rfl)
                     simp only [Act.put, List.setIfInBounds_toArray, List.set_cons_zero, List.set_cons_succ])
                  | (with_reducible refine po_skip ?_ ?_
                     · (go_simp; done)
                     simp only [Act.put, List.setIfInBounds_toArray, List.set_cons_zero, List.set_cons_succ]))
                with_reducible refine po_run ?_ (fun K hK => ?_) ?_
                · (go_simp; done)
                rotate_left
                · exact po_stop
                go_simp
                refine hK.out _ _ (.inr (⟨z0, zf, z1⟩)) ?_
                clear hK K
                repeat (first
                  | (with_reducible refine po_take (v := ?_) ?_ (fun w' hS' => ?_) ?_
                     rotate_left
                     · (go_simp; done)
                     · ((try dsimp only at hS'); go_simp; try with_reducible rfl)
                     simp only [Act.put, List.setIfInBounds_toArray, List.set_cons_zero, List.set_cons_succ])
                  | (with_reducible refine po_skip ?_ ?_
                     · (go_simp; done)
                     simp only [Act.put, List.setIfInBounds_toArray, List.set_cons_zero, List.set_cons_succ]))
                with_reducible refine po_run ?_ (fun K hK => ?_) ?_
                · (go_simp; done)
                rotate_left
                · exact po_stop
                have H7 := HX.putIn q (min z x)
                rw [← HT.out] at H7
                go_simp
                refine hK.out _ _ (.inl rfl) ?_
                clear hK K
                refine po_done ?_
                go_wp2
                go_roundw
                case rel => exact ⟨k + 1, by go_num, by omega, HALL.out, by rw [← int_min]; exact H7⟩
                case measure => simp [intOf]; omega
          · obtain rfl : k = 4 := by omega
            have HF := Go.Lib.hid (mWanted_yes HY.out (by omega) hall)
            have HE := Go.Lib.hid (HFin.out fun k hk => by
              have hkl : k < h.roots.length := by omega
              rw [getD_of (Go.Lib.hid (List.getElem?_eq_getElem hkl))]
              exact HV.out.1 _ (List.getElem_mem hkl))
            clear hall
            have HZ : Hid ((rtTo h ws O 4).length = h.cells.length) := Go.Lib.hid (by rw [rtTo_len]; exact HO.out)
            rw [← HE.out] at HF
            clear HE
            generalize rtTo h ws O 4 = Z at *
            go_wp2_with fail
            clear a0 a1
            go_loopw [9] (fun i wr => ∃ t : Nat, i = .int .i64 t ∧ t ≤ h.cells.length ∧ Owns w.heap.size w wr [.intsIn (.slice C h.cells.length cC) h.cells.length (relN h.cells Z t), .box w.heap.size [.slice D h.cells.length d, .slice D' m' d'] 26]) (fun i _ => h.cells.length - (intOf i).toNat)
            case atStart => exact ⟨0, rfl, Nat.zero_le _, H⟩
            case round =>
              clear H
              obtain ⟨t, rfl, ht, H⟩ := hrel
              by_cases hltt : t < h.cells.length
              · have HY2 : Hid ((relN h.cells Z t).length = h.cells.length) := Go.Lib.hid (by rw [relN_len]; exact HZ.out)
                have HS : Hid (relN h.cells Z (t + 1) = relC h.cells (relN h.cells Z t) h.cells.length) := Go.Lib.hid rfl
                generalize relN h.cells Z t = Y at *
                go_wp2_with fail
                go_loopw [10] (fun i wr => ∃ k : Nat, i = .int .i64 k ∧ k ≤ h.cells.length ∧ Owns w.heap.size w wr [.intsIn (.slice C h.cells.length cC) h.cells.length (relC h.cells Y k), .box w.heap.size [.slice D h.cells.length d, .slice D' m' d'] 26]) (fun i _ => h.cells.length - (intOf i).toNat)
                case atStart => exact ⟨0, rfl, Nat.zero_le _, H⟩
                case round =>
                  clear H
                  obtain ⟨k, rfl, hk, H⟩ := hrel
                  by_cases hlt : k < h.cells.length
                  · obtain ⟨b, o, l, A2, n2, c2, rfl, hbb, hx, q1, q2, q3, hrf⟩ := hC.at_ hlt
                    clear q1 q2
                    have r1 := RdI.le1 hrf; have r2 := RdI.le2 hrf
                    have r3 := hrf.mx; have r4 := hrf.cap
                    unfold maxLen at r3
                    have HW : Hid ((relC h.cells Y k).length = h.cells.length) := Go.Lib.hid (by rw [relC_len]; exact HY2.out)
                    have HR : Hid (relC h.cells Y (k + 1) = relR k (relC h.cells Y k) l.refs) := Go.Lib.hid (by rw [relC, getD_of hx])
                    generalize relC h.cells Y k = V at *
                    go_wp2_with fail
                    go_loopw [11] (fun i wr => ∃ j : Nat, i = .int .i64 j ∧ j ≤ n2 ∧ Owns w.heap.size w wr [.intsIn (.slice C h.cells.length cC) h.cells.length (relR k V (l.refs.take j)), .box w.heap.size [.slice (some ⟨b, o, none⟩) h.cells.length d, .slice D' m' d'] 26]) (fun i _ => n2 - (intOf i).toNat)
                    case atStart => exact ⟨0, rfl, Nat.zero_le _, by rw [List.take_zero]; exact H⟩
                    case round =>
                      clear H
                      obtain ⟨j, rfl, hj, H⟩ := hrel
                      have HX := H.drew
                      obtain ⟨a0, a1, -, -⟩ := H.box2 1 rfl
                      have g3 := H.ro q3 hbb
                      by_cases hltj : j < n2
                      · obtain ⟨b2, o2, x, rfl, hbb2, hx2, q4⟩ := RdI.at_ hrf hltj
                        have g4 := H.ro q4 hbb2
                        have hT := relR_take (k := k) (out := V) hx2
                        have HL0 : Hid ((relR k V (l.refs.take j)).length = h.cells.length) := Go.Lib.hid (by rw [relR_len]; exact HW.out)
                        generalize relR k V (l.refs.take j) = X at *
                        by_cases c0 : x < 0
                        · rw [rl_neg c0] at hT
                          have HT := Go.Lib.hid hT
                          clear hT
                          go_wp2
                          go_roundw
                          case rel => exact ⟨j + 1, by go_num, by omega, by rw [HT.out]; exact H⟩
                          case measure => simp [intOf]; omega
                        · obtain ⟨q, rfl⟩ := Int.eq_ofNat_of_zero_le (by omega : 0 ≤ x)
                          have hq : q < h.cells.length := by have := usedN_lt (leadsB_used (HV.out.2 k l hx.out _ (List.mem_of_getElem? hx2.out)) (by omega)); simpa using this
                          rw [rl_pos] at hT
                          have HT := Go.Lib.hid hT
                          have HL : Hid (X[q]? = some (gd X q)) := Go.Lib.hid (gd_at (by rw [HL0.out]; exact hq))
                          have HK : Hid (X[k]? = some (gd X k)) := Go.Lib.hid (gd_at (by rw [HL0.out]; exact hlt))
                          clear hT
                          generalize gd X q = z at *
                          generalize gd X k = y at *
                          obtain ⟨g, cc, e7, -, -, -, -⟩ := H.rowAt 0 rfl (by omega)
                          simp only [Value.slice.injEq, true_and] at e7
                          obtain ⟨rfl, rfl⟩ := e7
                          obtain ⟨z0, zf⟩ := HX.elem 0 rfl (j := q) (u := .int .i64 z) (by rw [List.getElem?_map, HL.out]; rfl)
                          obtain ⟨z1, -⟩ := HX.elem 0 rfl (j := k) (u := .int .i64 y) (by rw [List.getElem?_map, HK.out]; rfl)
                          go_wp2_with fail
                          refine wp_region_tree (fun w' => w'.cell? ⟨g, q, none⟩ = some (.int .i64 z) ∧ w'.frozen? ⟨g, q, none⟩ = false ∧ w'.cell? ⟨g, k, none⟩ = some (.int .i64 y)) 12 [] (.take 0 (.take 1 (.take 2 (.take 3 (.take 4 (.take 5 (.take 6 (.take 7 (.take 8 (.take 9 (.alt 10 (.take 11 (.alt 12 (.done) (.stop))) (.stop)))))))))))) (by kernel_rfl) (by kernel_rfl) (by kernel_rfl) (⟨z0, zf, z1⟩) ?_
                          simp only [fillT, List.getElem?_cons_zero, List.getElem?_cons_succ, Nat.reduceBEq]
                          repeat (first
                            | (with_reducible refine po_take (v := ?_) ?_ (fun w' hS' => ?_) ?_
                               rotate_left
                               · (go_simp; done)
                               · ((try dsimp only at hS'); go_simp; try with_reducible rfl)
                               simp only [Act.put, List.setIfInBounds_toArray, List.set_cons_zero, List.set_cons_succ])
                            | (with_reducible refine po_skip ?_ ?_
                               · (go_simp; done)
                               simp only [Act.put, List.setIfInBounds_toArray, List.set_cons_zero, List.set_cons_succ]))
                          with_reducible refine po_run ?_ (fun K hK => ?_) ?_
                          · (go_simp; done)
                          rotate_left
                          · exact po_stop
                          go_simp
                          refine hK.out _ _ (.inr (⟨z0, zf, z1⟩)) ?_
                          clear hK K
                          repeat (first
                            | (with_reducible refine po_take (v := ?_) ?_ (fun w' hS' => ?_) ?_
                               rotate_left
                               · (go_simp; done)
                               · ((try dsimp only at hS'); go_simp; try with_reducible rfl)
                               simp only [Act.put, List.setIfInBounds_toArray, List.set_cons_zero, List.set_cons_succ])
                            | (with_reducible refine po_skip ?_ ?_
                               · (go_simp; done)
                               simp only [Act.put, List.setIfInBounds_toArray, List.set_cons_zero, List.set_cons_succ]))
                          with_reducible refine po_run ?_ (fun K hK => ?_) ?_
                          · (go_simp; done)
                          rotate_left
                          · exact po_stop
                          have H7 := HX.putIn q (min z y)
                          rw [← HT.out] at H7
                          go_simp
                          refine hK.out _ _ (.inl rfl) ?_
                          clear hK K
                          refine po_done ?_
                          go_wp2
                          · have e : min z y = y := by omega
                            rw [e] at H7
                            go_roundw
                            case rel => exact ⟨j + 1, by go_num, by omega, H7⟩
                            case measure => simp [intOf]; omega
                          · have e : min z y = z := by omega
                            rw [e] at H7
                            go_roundw
                            case rel => exact ⟨j + 1, by go_num, by omega, H7⟩
                            case measure => simp [intOf]; omega
                      · rw [List.take_of_length_le (by omega), ← HR.out] at H
                        go_wp2
                        go_roundw
                        case rel => exact ⟨k + 1, by go_num, by omega, H⟩
                        case measure => simp [intOf]; omega
                  · obtain rfl : k = h.cells.length := by omega
                    rw [← HS.out] at H
                    go_wp2
                    go_roundw
                    case rel => exact ⟨t + 1, by go_num, by omega, H⟩
                    case measure => simp [intOf]; omega
              · obtain rfl : t = h.cells.length := by omega
                have H9 := H.ofIn (by rw [relN_len]; exact HZ.out)
                go_wp2
                go_ret
                rw [HF.out]
                exact H9.toI 0 rfl
  · have HF := Go.Lib.hid (mWanted_no2 (h := h) (ws := ws) (by omega))
    go_wp2
    go_ret
    rw [HF.out]
    exact H2.toI 0 rfl
theorem mWantedRegions_len (h : Hp) (ws : List Int) : (mWantedRegions h ws).length ≤ 1048576 := by
  unfold mWantedRegions
  split
  · rename_i h0
    simp only [Bool.and_eq_true] at h0
    obtain ⟨h1, -⟩ := heapOk_small h0.1.1
    rw [List.length_map, List.length_range]; omega
  · simp
end Go.Proofs.Ytmhcajjlhiopmaa
