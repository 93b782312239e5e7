/- ReadyCells, the program's and the reference's: both make mReadyCells, for every heap and list that can be read. -/
import Derived.Test.YtpglhmlebcigfaaKw
namespace Go.Proofs.Ytpglhmlebcigfaa
open Go.RowKit
noncomputable def lostB (h : Hp) (x : Int) : Bool := !(reachB h.cells h.roots x.toNat)
noncomputable def toB (h : Hp) (x y : Int) : Bool := reachB h.cells [x] y.toNat
noncomputable def okY (h : Hp) (x y : Int) : Bool := !lostB h y || (!toB h y x || toB h x y)
noncomputable def readyB (h : Hp) (ws : List Int) (x : Int) : Bool := lostB h x && ws.all (okY h x)
noncomputable def readyL (h : Hp) (ws : List Int) : List Int := ws.filter (readyB h ws)
noncomputable def freeB (h : Hp) (ws : List Int) (x : Int) (j : Nat) : Bool := lostB h x && (ws.take j).all (okY h x)
theorem freeB_zero (h : Hp) (ws : List Int) (x : Int) : freeB h ws x 0 = lostB h x := by simp [freeB]
theorem freeB_succ {h : Hp} {ws : List Int} {x y : Int} {j : Nat} (hy : Hid (ws[j]? = some y)) : freeB h ws x (j + 1) = (freeB h ws x j && okY h x y) := by
  unfold freeB
  rw [take_snoc' hy, List.all_append, List.all_cons, List.all_nil, Bool.and_true, Bool.and_assoc]
theorem freeB_end {h : Hp} {ws : List Int} {x : Int} {j : Nat} (hj : ws.length ≤ j) : freeB h ws x j = readyB h ws x := by
  unfold freeB readyB
  rw [List.take_of_length_le hj]
theorem filter_succ {p : Int → Bool} {ws : List Int} {k : Nat} {x : Int} (h : Hid (ws[k]? = some x)) : (ws.take (k + 1)).filter p = (ws.take k).filter p ++ (if p x then [x] else []) := by
  rw [take_snoc' h, List.filter_append, List.filter_cons, List.filter_nil]
theorem filter_len {p : Int → Bool} {ws : List Int} {k : Nat} : ((ws.take k).filter p).length ≤ ws.length :=
  Nat.le_trans (List.length_filter_le _ _) (by rw [List.length_take]; omega)
theorem has_reach {cs : List Cel} {fr : List Int} {x : Int} (h64 : cs.length ≤ 64) (h0 : 0 ≤ x) : hasB (closM cs (usedM cs) fr) x = reachB cs fr x.toNat := by
  unfold hasB
  rw [closM_used h64]; simp [h0]
theorem rdI_new1 (w : World) (x : Int) (g : Nat) (hg : w.heap.size = g) : RdI (w.alloc (.cells #[.int .i64 x] 3)) (g + 1) (some ⟨g, 0, none⟩) 1 1 [x] := by
  have := rdI_new w x g hg
  subst hg
  simpa using this
set_option maxHeartbeats 1600000 in
set_option maxRecDepth 20000 in
theorem cellsFrom_any (w : World) (B : Nat) (v : Value) (h : Hp) (x : Int) (hh : RdH w B v h) (hn : h.cells.length ≤ 64) :
    Calls Try.prog 49 #[v, .int .i64 x] w fun e w' => e = .returned (.int .u64 (closM h.cells (usedM h.cells) [x])) ∧ Below w.heap.size w w' := by
  have hh' := hh.top
  obtain ⟨D, m, d, D', m', d', rfl, hC, hR⟩ := hh.top
  have H1 := (Owns.nil w).box [.slice D m d, .slice D' m' d'] 26
  have HX := H1.drew
  obtain ⟨b0, b1, -, -⟩ := HX.box2 0 rfl
  clear H1
  go_enter Try.func49, Try.ntmps49
  go_wp2_with fail
  refine wp_region_tree (fun w' => w'.cell? ⟨w.heap.size, 0, none⟩ = some (.slice D m d) ∧ w'.cell? ⟨w.heap.size, 1, none⟩ = some (.slice D' m' d')) 7 [] (.take 0 (.take 1 (.take 3 (.alt 2 (.alt 4 (.alt 5 (.take 6 (.done)) (.stop)) (.stop)) (.alt 4 (.alt 2 (.alt 5 (.take 6 (.done)) (.stop)) (.stop)) (.stop)))))) (by kernel_rfl) (by kernel_rfl) (by kernel_rfl) (⟨b0, b1⟩) ?_
  simp only [fillT, List.getElem?_cons_zero, List.getElem?_cons_succ, Nat.reduceBEq]
  repeat (first
    | (with_reducible refine po_take (v := ?_) ?_ (fun w' hS' => ?_) ?_
       rotate_left
       · (go_simp; done)
       · ((try dsimp only at hS'); go_simp; try with_reducible rfl)
       simp only [Act.put, List.setIfInBounds_toArray, List.set_cons_zero, List.set_cons_succ])
    | (with_reducible refine po_skip ?_ ?_
       · (go_simp; done)
       simp only [Act.put, List.setIfInBounds_toArray, List.set_cons_zero, List.set_cons_succ]))
  with_reducible refine po_run ?_ (fun K hK => ?_) ?_
  · (go_simp; done)
  · -- operation 2 first
    go_simp
    replace HX := HX.litI [x] one_le_maxLen
    try simp only [World.size_alloc, drew_size, List.length_cons, List.length_nil, Nat.zero_add] at HX
    replace b0 := keept b0 (below_alloc _ (.cells #[.int .i64 x] 3))
    replace b1 := keept b1 (below_alloc _ (.cells #[.int .i64 x] 3))
    refine hK.out _ _ (.inr (⟨b0, b1⟩)) ?_
    clear hK K
    with_reducible refine po_run ?_ (fun K hK => ?_) ?_
    · (go_simp; done)
    rotate_left
    · exact po_stop
    go_simp
    refine (usedSet_any _ _ _ h (hh'.below HX.below) hn).mono ?_
    rintro e w4 ⟨rfl, hb⟩
    replace HX := (HX.call hb).noInts
    replace b0 := keept b0 hb
    replace b1 := keept b1 hb
    refine hK.out _ _ (.inr (⟨b0, b1⟩)) ?_
    clear hK K
    with_reducible refine po_run ?_ (fun K hK => ?_) ?_
    · (go_simp; done)
    rotate_left
    · exact po_stop
    go_simp
    refine (closure_any _ _ _ _ h _ _ _ [x] (usedM h.cells) (hh'.below HX.below) (HX.owI 1 rfl).rdI (usedM_lt _) fun c hc => usedN_lt (by rwa [usedM_bit hn] at hc)).mono ?_
    rintro e w5 ⟨rfl, hb⟩
    replace HX := HX.call hb
    refine hK.out _ _ (.inr (⟨keept b0 hb, keept b1 hb⟩)) ?_
    clear hK K
    repeat (first
      | (with_reducible refine po_take (v := ?_) ?_ (fun w' hS' => ?_) ?_
         rotate_left
         · (go_simp; done)
         · ((try dsimp only at hS'); go_simp; try with_reducible rfl)
         simp only [Act.put, List.setIfInBounds_toArray, List.set_cons_zero, List.set_cons_succ])
      | (with_reducible refine po_skip ?_ ?_
         · (go_simp; done)
         simp only [Act.put, List.setIfInBounds_toArray, List.set_cons_zero, List.set_cons_succ]))
    refine po_done ?_
    have HB := HX.below
    clear b0 b1 hb HX
    go_wp2
    go_ret
    exact ⟨rfl, HB⟩
  with_reducible refine po_run ?_ (fun K hK => ?_) ?_
  · (go_simp; done)
  rotate_left
  · exact po_stop
  go_simp
  refine (usedSet_any _ _ _ h (hh'.below HX.below) hn).mono ?_
  rintro e w4 ⟨rfl, hb⟩
  replace HX := (HX.call hb).noInts
  replace b0 := keept b0 hb
  replace b1 := keept b1 hb
  refine hK.out _ _ (.inr (⟨b0, b1⟩)) ?_
  clear hK K
  with_reducible refine po_run ?_ (fun K hK => ?_) ?_
  · (go_simp; done)
  rotate_left
  · exact po_stop
  go_simp
  replace HX := HX.litI [x] one_le_maxLen
  try simp only [World.size_alloc, drew_size, List.length_cons, List.length_nil, Nat.zero_add] at HX
  replace b0 := keept b0 (below_alloc _ (.cells #[.int .i64 x] 3))
  replace b1 := keept b1 (below_alloc _ (.cells #[.int .i64 x] 3))
  refine hK.out _ _ (.inr (⟨b0, b1⟩)) ?_
  clear hK K
  with_reducible refine po_run ?_ (fun K hK => ?_) ?_
  · (go_simp; done)
  rotate_left
  · exact po_stop
  go_simp
  refine (closure_any _ _ _ _ h _ _ _ [x] (usedM h.cells) (hh'.below HX.below) (HX.owI 0 rfl).rdI (usedM_lt _) fun c hc => usedN_lt (by rwa [usedM_bit hn] at hc)).mono ?_
  rintro e w5 ⟨rfl, hb⟩
  replace HX := HX.call hb
  refine hK.out _ _ (.inr (⟨keept b0 hb, keept b1 hb⟩)) ?_
  clear hK K
  repeat (first
    | (with_reducible refine po_take (v := ?_) ?_ (fun w' hS' => ?_) ?_
       rotate_left
       · (go_simp; done)
       · ((try dsimp only at hS'); go_simp; try with_reducible rfl)
       simp only [Act.put, List.setIfInBounds_toArray, List.set_cons_zero, List.set_cons_succ])
    | (with_reducible refine po_skip ?_ ?_
       · (go_simp; done)
       simp only [Act.put, List.setIfInBounds_toArray, List.set_cons_zero, List.set_cons_succ]))
  refine po_done ?_
  have HB := HX.below
  clear b0 b1 hb HX
  go_wp2
  go_ret
  exact ⟨rfl, HB⟩
set_option maxHeartbeats 1600000 in
theorem ready_any (w : World) (B B' : Nat) (v : Value) (h : Hp) (A : Option Addr) (n c : Nat) (ws : List Int) (hh : RdH w B v h) (hr : RdI w B' A n c ws) (hn : h.cells.length ≤ 64) (hw : ws.length ≤ 1048576) (h0 : ∀ r ∈ ws, 0 ≤ r) :
    Calls Try.prog 39 #[v, .slice A n c] w (MadeI w (readyL h ws)) := by
  have hh' := hh.top
  have hr := hr.top
  obtain ⟨D, m, d, D', m', d', rfl, hC, hR⟩ := hh.top
  have l1 := RdI.le1 hr; have l2 := RdI.le2 hr
  have H1 := (Owns.nil w).box [.slice D m d, .slice D' m' d'] 26
  have HM := Go.Lib.hid (closM_lt h.cells (usedM h.cells) h.roots)
  go_enter Try.func39, Try.ntmps39
  go_wp2_with fail
  refine (reachable_any _ _ _ h (hh'.below H1.below) hn).mono ?_
  rintro e w1 ⟨rfl, hb1⟩
  have H2 := (H1.call hb1).litI [] zero_le_maxLen
  clear H1 hb1
  go_wp2_with fail
  go_loopw [6, 17] (fun v i wr => ∃ k : Nat, i = .int .i64 k ∧ k ≤ n ∧ Owns w.heap.size w wr [.ints v ((ws.take k).filter (readyB h ws)), .box w.heap.size [.slice D m d, .slice D' m' d'] 26]) (fun _ i _ => n - (intOf i).toNat)
  case atStart => exact ⟨0, rfl, Nat.zero_le _, H2⟩
  case round =>
    clear H2
    obtain ⟨k, rfl, hk, H⟩ := hrel
    by_cases hlt : k < n
    · obtain ⟨b, o, x, rfl, hbb, hx, q1⟩ := RdI.at_ hr hlt
      have g1 := H.ro q1 hbb
      have x0 := h0 x (List.mem_of_getElem? hx.out)
      have HB : Hid (hasB (closM h.cells (usedM h.cells) h.roots) x = !lostB h x) := Go.Lib.hid (by rw [has_reach hn x0]; simp [lostB])
      have HF := Go.Lib.hid (freeB_zero h ws x)
      go_wp2_with fail
      refine (has_any _ x _ HM.out).mono ?_
      rintro e w2 ⟨rfl, hw2⟩
      obtain rfl := hw2
      rw [HB.out]
      go_wp2_with fail
      go_loopw [9, 27] (fun f i wr => ∃ j : Nat, i = .int .i64 j ∧ j ≤ n ∧ f = .bool (freeB h ws x j) ∧ Owns w.heap.size w wr [.ints u6 ((ws.take k).filter (readyB h ws)), .box w.heap.size [.slice D m d, .slice D' m' d'] 26]) (fun _ i _ => n - (intOf i).toNat)
      case atStart => exact ⟨0, rfl, Nat.zero_le _, by rw [HF.out], H⟩
      case round =>
        clear H g1
        obtain ⟨j, rfl, hj, rfl, H⟩ := hrel
        by_cases hltj : j < n
        · obtain ⟨b2, o2, y, e2, hbb2, hy, q2⟩ := RdI.at_ hr hltj
          injection e2 with e2; injection e2 with e2 e3; subst e2 e3
          have g2 := H.ro q2 hbb2
          have y0 := h0 y (List.mem_of_getElem? hy.out)
          have HS := freeB_succ (h := h) (x := x) hy
          obtain ⟨a0, a1, -, -⟩ := H.box2 1 rfl
          cases hf : freeB h ws x j
          · rw [hf, Bool.false_and] at HS
            have HT := Go.Lib.hid HS
            clear HS hf
            go_wp2
            go_roundw
            case rel => exact ⟨j + 1, by go_num, by omega, by rw [HT.out], H⟩
            case measure => simp [intOf]; omega
          rw [hf, Bool.true_and] at HS
          have HBy : Hid (hasB (closM h.cells (usedM h.cells) h.roots) y = !lostB h y) := Go.Lib.hid (by rw [has_reach hn y0]; simp [lostB])
          have HM1 := Go.Lib.hid (closM_lt h.cells (usedM h.cells) [y])
          have HM2 := Go.Lib.hid (closM_lt h.cells (usedM h.cells) [x])
          have HB1 : Hid (hasB (closM h.cells (usedM h.cells) [y]) x = toB h y x) := Go.Lib.hid (by rw [has_reach hn x0]; rfl)
          have HB2 : Hid (hasB (closM h.cells (usedM h.cells) [x]) y = toB h x y) := Go.Lib.hid (by rw [has_reach hn y0]; rfl)
          have HO : Hid (okY h x y = (!lostB h y || (!toB h y x || toB h x y))) := Go.Lib.hid rfl
          have HT := Go.Lib.hid HS
          clear HS hf
          go_wp2_with fail
          refine (has_any _ y _ HM.out).mono ?_
          rintro e w2 ⟨rfl, hw2⟩
          obtain rfl := hw2
          rw [HBy.out]
          cases hl : lostB h y
          · have HU : Hid (okY h x y = true) := Go.Lib.hid (by rw [HO.out, hl]; rfl)
            clear hl
            go_wp2
            go_roundw
            case rel => exact ⟨j + 1, by go_num, by omega, by rw [HT.out, HU.out], H⟩
            case measure => simp [intOf]; omega
          have HL := Go.Lib.hid hl
          clear hl
          go_wp2_with fail
          refine (cellsFrom_any _ _ _ h y (hh'.below H.below) hn).mono ?_
          rintro e w3 ⟨rfl, hb3⟩
          have H3 := H.call hb3
          clear H a0 a1 g2
          go_wp2_with fail
          refine (has_any _ x _ HM1.out).mono ?_
          rintro e w2 ⟨rfl, hw2⟩
          obtain rfl := hw2
          rw [HB1.out]
          cases ht : toB h y x
          · have HU : Hid (okY h x y = true) := Go.Lib.hid (by rw [HO.out, ht]; simp)
            clear ht
            go_wp2
            go_roundw
            case rel => exact ⟨j + 1, by go_num, by omega, by rw [HT.out, HU.out], H3⟩
            case measure => simp [intOf]; omega
          have HL2 := Go.Lib.hid ht
          clear ht
          obtain ⟨a0, a1, -, -⟩ := H3.box2 1 rfl
          go_wp2_with fail
          refine (cellsFrom_any _ _ _ h x (hh'.below H3.below) hn).mono ?_
          rintro e w4 ⟨rfl, hb4⟩
          have H4 := H3.call hb4
          clear H3 a0 a1
          go_wp2_with fail
          refine (has_any _ y _ HM2.out).mono ?_
          rintro e w2 ⟨rfl, hw2⟩
          obtain rfl := hw2
          rw [HB2.out]
          cases ht : toB h x y
          · have HU : Hid (okY h x y = false) := Go.Lib.hid (by rw [HO.out, ht, HL.out, HL2.out]; rfl)
            clear ht
            go_wp2
            go_roundw
            case rel => exact ⟨j + 1, by go_num, by omega, by rw [HT.out, HU.out], H4⟩
            case measure => simp [intOf]; omega
          · have HU : Hid (okY h x y = true) := Go.Lib.hid (by rw [HO.out, ht]; simp)
            clear ht
            go_wp2
            go_roundw
            case rel => exact ⟨j + 1, by go_num, by omega, by rw [HT.out, HU.out], H4⟩
            case measure => simp [intOf]; omega
        · have HE := freeB_end (h := h) (x := x) (by omega : ws.length ≤ j)
          rw [HE]
          have E1 := filter_succ (p := readyB h ws) hx
          have hlen : ((ws.take k).filter (readyB h ws)).length ≤ 1048576 := Nat.le_trans filter_len hw
          obtain ⟨C6, k6, rfl, -⟩ := H.formI 0 rfl
          clear HE
          cases hb : readyB h ws x
          · rw [hb, if_neg (by simp), List.append_nil] at E1
            have HX := Go.Lib.hid E1
            clear E1 hb
            go_wp2
            go_roundw
            case rel => exact ⟨k + 1, by go_num, by omega, by rw [HX.out]; exact H⟩
            case measure => simp [intOf]; omega
          · rw [hb, if_pos rfl] at E1
            generalize (ws.take k).filter (readyB h ws) = X at *
            have HX := Go.Lib.hid E1
            have H4 := H.alloc (.cells #[.int .i64 x] 3)
            clear E1 hb
            go_wp2_with (at_builtin; go_loud (refine wpList_pushO rfl (.tmp 55) (.tmp 57) rfl H4 0 rfl rfl rfl (rdI_new _ _ _ (by simp)) (by omega) ?_; intro A9 k9 w9 H5))
            simp only [List.set_cons_zero, List.set_cons_succ, List.eraseIdx_cons_zero, List.eraseIdx_cons_succ, List.drop_succ_cons, List.drop_zero, List.take_succ_cons, List.take_zero, List.length_append, List.length_cons, List.length_nil, List.nil_append, Nat.zero_add, World.size_alloc] at H5
            go_roundw
            case rel => exact ⟨k + 1, by go_num, by omega, by rw [HX.out]; exact H5⟩
            case measure => simp [intOf]; omega
    · rw [List.take_of_length_le (by omega)] at H
      go_wp2
      go_ret
      exact H.toI 0 rfl
noncomputable def mReadyCells (h : Hp) (ws : List Int) : List Int := if mWatchedValid h ws then readyL h ws else []
theorem mReady_no {h : Hp} {ws : List Int} (h0 : mWatchedValid h ws = false) : mReadyCells h ws = [] := by simp [mReadyCells, h0]
theorem mReady_yes {h : Hp} {ws : List Int} (h0 : mWatchedValid h ws = true) : mReadyCells h ws = readyL h ws := by simp [mReadyCells, h0]
theorem mReadyCells_len (h : Hp) (ws : List Int) : (mReadyCells h ws).length ≤ 1048576 := by
  unfold mReadyCells
  split
  · rename_i h0
    have := mWatched_len h0
    exact Nat.le_trans (List.length_filter_le _ _) (by omega)
  · simp
theorem implReadyCells_any (w : World) (B B' : Nat) (v : Value) (h : Hp) (A : Option Addr) (n c : Nat) (ws : List Int) (hh : RdH w B v h) (hr : RdI w B' A n c ws) :
    Calls Try.prog 23 #[v, .slice A n c] w (MadeI w (mReadyCells h ws)) := by
  have hh' := hh.top
  have hr := hr.top
  obtain ⟨D, m, d, D', m', d', rfl, hC, hR⟩ := hh.top
  have H1 := (Owns.nil w).box [.slice D m d, .slice D' m' d'] 26
  go_enter Try.func23, Try.ntmps23
  go_wp2_with fail
  refine (implWatchedValid_any _ _ _ _ h _ _ _ ws (hh'.below H1.below) (hr.below H1.below)).mono ?_
  rintro e w1 ⟨rfl, hb1⟩
  have H2 := H1.call hb1
  obtain ⟨a0, a1, -, -⟩ := H2.box2 0 rfl
  clear H1 hb1
  cases hy : mWatchedValid h ws
  · have HF := Go.Lib.hid (mReady_no hy)
    clear hy
    go_wp2
    go_ret
    rw [HF.out]
    exact H2.noInts.toI 0 rfl
  · have s0 := mWatched_len hy
    obtain ⟨s1, s2, -⟩ := mWatched_parts hy
    obtain ⟨s4, -⟩ := heapOk_small s1
    have HF := Go.Lib.hid (mReady_yes hy)
    have HU := Go.Lib.hid (show ∀ r ∈ ws, 0 ≤ r from fun r hr => (usedB_parts (s2 r hr)).1)
    clear hy s1 s2
    go_wp2_with fail
    refine (ready_any _ _ _ _ h _ _ _ ws (hh'.below H2.below) (hr.below H2.below) (by omega) (by omega) HU.out).mono ?_
    rintro e w2 ⟨v2, rfl, ho2, hb2⟩
    rw [← HF.out] at ho2
    have H3 := H2.madeI ho2 hb2
    clear H2 ho2 hb2 a0 a1
    go_wp2
    go_ret
    exact H3.toI 0 rfl
/-! ### The reference's -/
theorem ready_lost (h : Hp) (ws : List Int) : (ws.filter (lostB h)).filter (fun x => (ws.filter (lostB h)).all fun y => !toB h y x || toB h x y) = readyL h ws := by
  unfold readyL
  rw [List.filter_filter]
  congr 1
  funext x
  unfold readyB okY
  rw [List.all_filter]
  simp only [Bool.and_comm, Bool.not_eq_eq_eq_not, decide_eq_true_eq]
set_option maxHeartbeats 1600000 in
theorem l21Watched_any (w : World) (B B' : Nat) (v : Value) (h : Hp) (A : Option Addr) (n c : Nat) (ws : List Int) (hh : RdH w B v h) (hr : RdI w B' A n c ws) (hok : heapOk h = true) (hu : ∀ r ∈ ws, usedB h.cells r = true) (hw : ws.length ≤ 1048576) :
    Calls Try.prog 40 #[v, .slice A n c] w (MadeI w (ws.filter (lostB h))) := by
  have hh' := hh.top
  have hr := hr.top
  obtain ⟨D, m, d, D', m', d', rfl, hC, hR⟩ := hh.top
  have l1 := RdI.le1 hr; have l2 := RdI.le2 hr
  obtain ⟨s4, -⟩ := heapOk_small hok
  obtain ⟨s6, s7⟩ := heapOk_leads hok
  have HV := Go.Lib.hid (And.intro s6 s7)
  clear s6 s7 hok
  have H1 := ((Owns.nil w).box [.slice D m d, .slice D' m' d'] 26).litI [] zero_le_maxLen
  simp only [List.set_cons_zero, List.set_cons_succ, List.eraseIdx_cons_zero, List.eraseIdx_cons_succ, List.drop_succ_cons, List.drop_zero, List.take_succ_cons, List.take_zero, List.length_append, List.length_cons, List.length_nil, List.nil_append, Nat.zero_add, World.size_alloc] at H1
  obtain ⟨a0, a1, -, -⟩ := H1.box2 1 rfl
  go_enter Try.func40, Try.ntmps40
  go_wp2_with fail
  refine (l7Reach_any _ _ _ _ h _ _ _ h.roots (hh'.below H1.below) (hR.below H1.below) (by omega) HV.out.1 HV.out.2).mono ?_
  rintro e w1 ⟨vR, rfl, hoR, hb1⟩
  have H2 := H1.madeB hoR hb1
  clear H1 hoR hb1 a0 a1
  go_wp2_with fail
  go_loopw [5, 7] (fun v i wr => ∃ k : Nat, i = .int .i64 k ∧ k ≤ n ∧ Owns w.heap.size w wr [.bools vR (reachL h.cells h.roots), .ints v ((ws.take k).filter (lostB h)), .box w.heap.size [.slice D m d, .slice D' m' d'] 26]) (fun _ i _ => n - (intOf i).toNat)
  case atStart => exact ⟨0, rfl, Nat.zero_le _, H2⟩
  case round =>
    clear H2
    obtain ⟨k, rfl, hk, H⟩ := hrel
    by_cases hlt : k < n
    · obtain ⟨b, o, x, rfl, hbb, hx, q1⟩ := RdI.at_ hr hlt
      have g1 := H.ro q1 hbb
      obtain ⟨x0, x1, -, -⟩ := usedB_parts (hu x (List.mem_of_getElem? hx.out))
      obtain ⟨q, rfl⟩ := Int.eq_ofNat_of_zero_le x0
      have hqm : q < h.cells.length := by omega
      have hqr := reachL_at (fr := h.roots) hqm
      have hql : q < (reachL h.cells h.roots).length := (List.getElem?_eq_some_iff.1 hqr).1
      obtain ⟨g, cc, rfl, hc1, hc2, hg1, hg2⟩ := H.rowAt 0 rfl (by omega)
      obtain ⟨z0, zf⟩ := H.elem 0 rfl (j := q) (u := .bool (reachB h.cells h.roots q)) (by rw [List.getElem?_map, hqr]; rfl)
      have E1 := filter_succ (p := lostB h) hx
      have hlen : ((ws.take k).filter (lostB h)).length ≤ 1048576 := Nat.le_trans filter_len hw
      obtain ⟨C6, k6, rfl, -⟩ := H.formI 1 rfl
      clear hqr
      cases hrb : reachB h.cells h.roots q
      · rw [hrb] at z0
        rw [show lostB h (q : Int) = true from by simp [lostB, hrb], if_pos rfl] at E1
        generalize (ws.take k).filter (lostB h) = X at *
        have HX := Go.Lib.hid E1
        have H4 := H.alloc (.cells #[.int .i64 q] 3)
        clear E1 hrb
        go_wp2_with (at_builtin; go_loud (refine wpList_pushO rfl (.tmp 27) (.tmp 32) rfl H4 1 rfl rfl rfl (rdI_new _ _ _ (by simp)) (by omega) ?_; intro A9 k9 w9 H5))
        simp only [List.set_cons_zero, List.set_cons_succ, List.eraseIdx_cons_zero, List.eraseIdx_cons_succ, List.drop_succ_cons, List.drop_zero, List.take_succ_cons, List.take_zero, List.length_append, List.length_cons, List.length_nil, List.nil_append, Nat.zero_add, World.size_alloc] at H5
        go_roundw
        case rel => exact ⟨k + 1, by go_num, by omega, by rw [HX.out]; exact H5⟩
        case measure => simp [intOf]; omega
      · rw [hrb] at z0
        rw [show lostB h (q : Int) = false from by simp [lostB, hrb], if_neg (by simp), List.append_nil] at E1
        have HX := Go.Lib.hid E1
        clear E1 hrb
        go_wp2
        go_roundw
        case rel => exact ⟨k + 1, by go_num, by omega, by rw [HX.out]; exact H⟩
        case measure => simp [intOf]; omega
    · rw [List.take_of_length_le (by omega)] at H
      go_wp2
      go_ret
      exact H.toI 1 rfl
noncomputable def rdS (h : Hp) (L : List Int) (x : Int) (j : Nat) : Bool := (L.take j).all fun y => !toB h y x || toB h x y
theorem rdS_succ {h : Hp} {L : List Int} {x y : Int} {j : Nat} (hy : Hid (L[j]? = some y)) : rdS h L x (j + 1) = (rdS h L x j && (!toB h y x || toB h x y)) := by
  unfold rdS
  rw [take_snoc' hy, List.all_append, List.all_cons, List.all_nil, Bool.and_true]
theorem toB_nat (h : Hp) (x y : Nat) : toB h (x : Int) (y : Int) = reachB h.cells [(x : Int)] y := by simp [toB]
set_option maxHeartbeats 3200000 in
set_option maxRecDepth 20000 in
theorem specReadyCells_any (w : World) (B B' : Nat) (v : Value) (h : Hp) (A : Option Addr) (n c : Nat) (ws : List Int) (hh : RdH w B v h) (hr : RdI w B' A n c ws) :
    Calls Try.prog 41 #[v, .slice A n c] w (MadeI w (mReadyCells h ws)) := by
  have hh' := hh.top
  have hr := hr.top
  obtain ⟨D, m, d, D', m', d', rfl, hC, hR⟩ := hh.top
  have l3 := hC.le1; have l4 := hC.le2
  have H1 := ((Owns.nil w).box [.slice D m d, .slice D' m' d'] 26).litI [] zero_le_maxLen
  simp only [List.set_cons_zero, List.set_cons_succ, List.eraseIdx_cons_zero, List.eraseIdx_cons_succ, List.drop_succ_cons, List.drop_zero, List.take_succ_cons, List.take_zero, List.length_append, List.length_cons, List.length_nil, List.nil_append, Nat.zero_add, World.size_alloc] at H1
  obtain ⟨a0, a1, -, -⟩ := H1.box2 1 rfl
  go_enter Try.func41, Try.ntmps41
  go_wp2_with fail
  refine (specWatchedValid_any _ _ _ _ h _ _ _ ws (hh'.below H1.below) (hr.below H1.below)).mono ?_
  rintro e w1 ⟨rfl, hb1⟩
  have H2 := H1.call hb1
  clear H1 hb1 a0 a1
  obtain ⟨a0, a1, -, -⟩ := H2.box2 1 rfl
  cases hy : mWatchedValid h ws
  · have HF := Go.Lib.hid (mReady_no hy)
    clear hy
    go_wp2
    go_ret
    rw [HF.out]
    exact H2.toI 0 rfl
  · have s0 := mWatched_len hy
    obtain ⟨s1, s2, -⟩ := mWatched_parts hy
    obtain ⟨s4, -⟩ := heapOk_small s1
    obtain ⟨-, s7⟩ := heapOk_leads s1
    have HV := Go.Lib.hid s7
    have HF := Go.Lib.hid (mReady_yes hy)
    have hLu : ∀ r ∈ ws.filter (lostB h), usedB h.cells r = true := fun r hr => s2 r (List.mem_filter.1 hr).1
    have hLl : (ws.filter (lostB h)).length ≤ 40 := Nat.le_trans (List.length_filter_le _ _) s0
    have HR := Go.Lib.hid (ready_lost h ws)
    clear hy s7
    go_wp2_with fail
    refine (l21Watched_any _ _ _ _ h _ _ _ ws (hh'.below H2.below) (hr.below H2.below) s1 s2 (by omega)).mono ?_
    rintro e w2 ⟨vL, rfl, hoL, hb2⟩
    have H3 := H2.madeI hoL hb2
    generalize ws.filter (lostB h) = L at *
    obtain ⟨AL, cL, rfl, -⟩ := H3.formI 0 rfl
    clear H2 hoL hb2 a0 a1 s1 s2
    go_wp2_with fail
    go_loopw [5, 7] (fun v i wr => ∃ k : Nat, i = .int .i64 k ∧ k ≤ L.length ∧ Owns w.heap.size w wr [.ints (.slice AL L.length cL) L, .ints v ((L.take k).filter fun x => rdS h L x L.length), .box w.heap.size [.slice D m d, .slice D' m' d'] 26]) (fun _ i _ => L.length - (intOf i).toNat)
    case atStart => exact ⟨0, rfl, Nat.zero_le _, H3⟩
    case round =>
      clear H3
      obtain ⟨k, rfl, hk, H⟩ := hrel
      by_cases hlt : k < L.length
      · obtain ⟨g, cc, e0, hc1, hc2, hg1, hg2⟩ := H.rowAt 0 rfl (by omega)
        injection e0 with e0 _ e3
        subst e0 e3
        obtain ⟨x, hx0⟩ : ∃ x, L[k]? = some x := ⟨L[k], List.getElem?_eq_getElem hlt⟩
        have hx := Go.Lib.hid hx0
        obtain ⟨x0, x1, -, x3⟩ := usedB_parts (hLu x (List.mem_of_getElem? hx0))
        obtain ⟨qx, rfl⟩ := Int.eq_ofNat_of_zero_le x0
        have hqx : qx < h.cells.length := by omega
        have HLx : ∀ r ∈ [(qx : Int)], leadsB h.cells r = true := fun r hr => by rw [List.mem_singleton.1 hr]; exact x3
        clear hx0 x3
        obtain ⟨u0, uf⟩ := H.elem 0 rfl (j := k) (u := .int .i64 qx) (by rw [List.getElem?_map, hx.out]; rfl)
        have i1 : (0 : Int) ≤ (k : Int) := by omega
        have i2 : (k : Int) < (L.length : Int) := by omega
        have i3 : (0 : Int) ≤ (qx : Int) := by omega
        go_wp2_with fail
        go_loopw [8, 9] (fun f i wr => ∃ j : Nat, i = .int .i64 j ∧ j ≤ L.length ∧ f = .bool (rdS h L qx j) ∧ Owns w.heap.size w wr [.ints (.slice (some ⟨g, 0, none⟩) L.length cL) L, .ints u5 ((L.take k).filter fun x => rdS h L x L.length), .box w.heap.size [.slice D m d, .slice D' m' d'] 26]) (fun _ i _ => L.length - (intOf i).toNat)
        case atStart => exact ⟨0, rfl, Nat.zero_le _, by simp [rdS], H⟩
        case round =>
          clear H u0 uf
          obtain ⟨j, rfl, hj, rfl, H⟩ := hrel
          by_cases hltj : j < L.length
          · obtain ⟨y, hy0⟩ : ∃ y, L[j]? = some y := ⟨L[j], List.getElem?_eq_getElem hltj⟩
            have hy := Go.Lib.hid hy0
            obtain ⟨y0, y1, -, y3⟩ := usedB_parts (hLu y (List.mem_of_getElem? hy0))
            obtain ⟨qy, rfl⟩ := Int.eq_ofNat_of_zero_le y0
            have hqy : qy < h.cells.length := by omega
            have HLy : ∀ r ∈ [(qy : Int)], leadsB h.cells r = true := fun r hr => by rw [List.mem_singleton.1 hr]; exact y3
            have HT := Go.Lib.hid (rdS_succ (h := h) (x := (qx : Int)) hy)
            have HJ : Hid (j = k → qy = qx) := Go.Lib.hid (by rintro rfl; have := hx.out.symm.trans hy.out; injection this with this; omega)
            clear hy0 y3
            have HX := H.drew
            obtain ⟨b0, b1, -, -⟩ := HX.box2 2 rfl
            obtain ⟨b2, -⟩ := HX.elem 0 rfl (j := k) (u := .int .i64 qx) (by rw [List.getElem?_map, hx.out]; rfl)
            obtain ⟨b3, -⟩ := HX.elem 0 rfl (j := j) (u := .int .i64 qy) (by rw [List.getElem?_map, hy.out]; rfl)
            clear H
            have i4 : (0 : Int) ≤ (j : Int) := by omega
            have i5 : (j : Int) < (L.length : Int) := by omega
            have i6 : (0 : Int) ≤ (qy : Int) := by omega
            generalize rdS h L qx j = f at *
            go_wp2_with fail
            refine wp_region_tree (fun w' => w'.cell? ⟨w.heap.size, 0, none⟩ = some (.slice D m d) ∧ w'.cell? ⟨w.heap.size, 1, none⟩ = some (.slice D' m' d') ∧ w'.cell? ⟨g, k, none⟩ = some (.int .i64 qx) ∧ w'.cell? ⟨g, j, none⟩ = some (.int .i64 qy)) 14 [12] (.take 0 (.take 1 (.take 2 (.take 3 (.take 4 (.take 7 (.take 8 (.take 9 (.take 10 (.alt 5 (.alt 6 (.take 11 (.alt 12 (.take 13 (.done)) (.stop))) (.stop)) (.stop))))))))))) (by kernel_rfl) (by kernel_rfl) (by kernel_rfl) (⟨b0, b1, b2, b3⟩) ?_
            simp only [fillT, List.getElem?_cons_zero, List.getElem?_cons_succ, Nat.reduceBEq]
            repeat (first
              | (with_reducible refine po_take (v := ?_) ?_ (fun w' hS' => ?_) ?_
                 rotate_left
                 · (go_simp; done)
                 · ((try dsimp only at hS'); go_simp; try with_reducible rfl)
                 simp only [Act.put, List.setIfInBounds_toArray, List.set_cons_zero, List.set_cons_succ])
              | (with_reducible refine po_skip ?_ ?_
                 · (go_simp; done)
                 simp only [Act.put, List.setIfInBounds_toArray, List.set_cons_zero, List.set_cons_succ]))
            with_reducible refine po_run ?_ (fun K hK => ?_) ?_
            · (go_simp; done)
            rotate_left
            · exact po_stop
            go_simp
            replace HX := HX.litI [(qy : Int)] one_le_maxLen
            try simp only [World.size_alloc, drew_size, List.length_cons, List.length_nil, Nat.zero_add] at HX
            replace b0 := keept b0 (below_alloc _ (.cells #[.int .i64 qy] 3))
            replace b1 := keept b1 (below_alloc _ (.cells #[.int .i64 qy] 3))
            replace b2 := keept b2 (below_alloc _ (.cells #[.int .i64 qy] 3))
            replace b3 := keept b3 (below_alloc _ (.cells #[.int .i64 qy] 3))
            refine hK.out _ _ (.inr (⟨b0, b1, b2, b3⟩)) ?_
            clear hK K
            with_reducible refine po_run ?_ (fun K hK => ?_) ?_
            · (go_simp; done)
            rotate_left
            · exact po_stop
            go_simp
            refine (l7Reach_any _ _ _ _ h _ _ _ [(qy : Int)] (hh'.below HX.below) (HX.owI 0 rfl).rdI (by omega) HLy HV.out).mono ?_
            rintro e w9 ⟨v9, rfl, ho9, hb⟩
            replace HX := HX.madeB ho9 hb
            have hqr := reachL_at (fr := [(qy : Int)]) hqx
            have hql : qx < (reachL h.cells [(qy : Int)]).length := (List.getElem?_eq_some_iff.1 hqr).1
            obtain ⟨g9, c9, rfl, hc1, hc2, -, -⟩ := HX.rowAt 0 rfl (by omega)
            obtain ⟨z0, zf⟩ := HX.elem 0 rfl (j := qx) (u := .bool (reachB h.cells [(qy : Int)] qx)) (by rw [List.getElem?_map, hqr]; rfl)
            clear hqr ho9
            replace b0 := keept b0 hb
            replace b1 := keept b1 hb
            replace b2 := keept b2 hb
            replace b3 := keept b3 hb
            refine hK.out _ _ (.inr (⟨b0, b1, b2, b3⟩)) ?_
            clear hK K
            repeat (first
              | (with_reducible refine po_take (v := ?_) ?_ (fun w' hS' => ?_) ?_
                 rotate_left
                 · (go_simp; done)
                 · ((try dsimp only at hS'); go_simp; try with_reducible rfl)
                 simp only [Act.put, List.setIfInBounds_toArray, List.set_cons_zero, List.set_cons_succ])
              | (with_reducible refine po_skip ?_ ?_
                 · (go_simp; done)
                 simp only [Act.put, List.setIfInBounds_toArray, List.set_cons_zero, List.set_cons_succ]))
            with_reducible refine po_run ?_ (fun K hK => ?_) ?_
            · (go_simp; done)
            rotate_left
            · exact po_stop
            go_simp
            refine hK.out _ _ (.inr (⟨b0, b1, b2, b3⟩)) ?_
            clear hK K
            repeat (first
              | (with_reducible refine po_take (v := ?_) ?_ (fun w' hS' => ?_) ?_
                 rotate_left
                 · (go_simp; done)
                 · ((try dsimp only at hS'); go_simp; try with_reducible rfl)
                 simp only [Act.put, List.setIfInBounds_toArray, List.set_cons_zero, List.set_cons_succ])
              | (with_reducible refine po_skip ?_ ?_
                 · (go_simp; done)
                 simp only [Act.put, List.setIfInBounds_toArray, List.set_cons_zero, List.set_cons_succ]))
            refine po_done ?_
            have HY := HX.drop 2
            simp only [List.drop_succ_cons, List.drop_zero] at HY
            clear HX hb b0 b1 b2 b3 z0 zf hc1 hc2 hql
            have HX := HY.drew
            clear HY
            obtain ⟨b0, b1, -, -⟩ := HX.box2 2 rfl
            obtain ⟨b2, -⟩ := HX.elem 0 rfl (j := k) (u := .int .i64 qx) (by rw [List.getElem?_map, hx.out]; rfl)
            obtain ⟨b3, -⟩ := HX.elem 0 rfl (j := j) (u := .int .i64 qy) (by rw [List.getElem?_map, hy.out]; rfl)
            go_wp2_with fail
            refine wp_region_tree (fun w' => w'.cell? ⟨w.heap.size, 0, none⟩ = some (.slice D m d) ∧ w'.cell? ⟨w.heap.size, 1, none⟩ = some (.slice D' m' d') ∧ w'.cell? ⟨g, k, none⟩ = some (.int .i64 qx) ∧ w'.cell? ⟨g, j, none⟩ = some (.int .i64 qy)) 14 [12] (.take 0 (.take 1 (.take 2 (.take 3 (.take 4 (.take 7 (.take 8 (.take 9 (.take 10 (.alt 5 (.alt 6 (.take 11 (.alt 12 (.take 13 (.done)) (.stop))) (.stop)) (.stop))))))))))) (by kernel_rfl) (by kernel_rfl) (by kernel_rfl) (⟨b0, b1, b2, b3⟩) ?_
            simp only [fillT, List.getElem?_cons_zero, List.getElem?_cons_succ, Nat.reduceBEq]
            repeat (first
              | (with_reducible refine po_take (v := ?_) ?_ (fun w' hS' => ?_) ?_
                 rotate_left
                 · (go_simp; done)
                 · ((try dsimp only at hS'); go_simp; try with_reducible rfl)
                 simp only [Act.put, List.setIfInBounds_toArray, List.set_cons_zero, List.set_cons_succ])
              | (with_reducible refine po_skip ?_ ?_
                 · (go_simp; done)
                 simp only [Act.put, List.setIfInBounds_toArray, List.set_cons_zero, List.set_cons_succ]))
            with_reducible refine po_run ?_ (fun K hK => ?_) ?_
            · (go_simp; done)
            rotate_left
            · exact po_stop
            go_simp
            replace HX := HX.litI [(qx : Int)] one_le_maxLen
            try simp only [World.size_alloc, drew_size, List.length_cons, List.length_nil, Nat.zero_add] at HX
            replace b0 := keept b0 (below_alloc _ (.cells #[.int .i64 qx] 3))
            replace b1 := keept b1 (below_alloc _ (.cells #[.int .i64 qx] 3))
            replace b2 := keept b2 (below_alloc _ (.cells #[.int .i64 qx] 3))
            replace b3 := keept b3 (below_alloc _ (.cells #[.int .i64 qx] 3))
            refine hK.out _ _ (.inr (⟨b0, b1, b2, b3⟩)) ?_
            clear hK K
            with_reducible refine po_run ?_ (fun K hK => ?_) ?_
            · (go_simp; done)
            rotate_left
            · exact po_stop
            go_simp
            refine (l7Reach_any _ _ _ _ h _ _ _ [(qx : Int)] (hh'.below HX.below) (HX.owI 0 rfl).rdI (by omega) HLx HV.out).mono ?_
            rintro e w9 ⟨v9, rfl, ho9, hb⟩
            replace HX := HX.madeB ho9 hb
            have hqr := reachL_at (fr := [(qx : Int)]) hqy
            have hql : qy < (reachL h.cells [(qx : Int)]).length := (List.getElem?_eq_some_iff.1 hqr).1
            obtain ⟨g9, c9, rfl, hc1, hc2, -, -⟩ := HX.rowAt 0 rfl (by omega)
            obtain ⟨z0, zf⟩ := HX.elem 0 rfl (j := qy) (u := .bool (reachB h.cells [(qx : Int)] qy)) (by rw [List.getElem?_map, hqr]; rfl)
            clear hqr ho9
            replace b0 := keept b0 hb
            replace b1 := keept b1 hb
            replace b2 := keept b2 hb
            replace b3 := keept b3 hb
            refine hK.out _ _ (.inr (⟨b0, b1, b2, b3⟩)) ?_
            clear hK K
            repeat (first
              | (with_reducible refine po_take (v := ?_) ?_ (fun w' hS' => ?_) ?_
                 rotate_left
                 · (go_simp; done)
                 · ((try dsimp only at hS'); go_simp; try with_reducible rfl)
                 simp only [Act.put, List.setIfInBounds_toArray, List.set_cons_zero, List.set_cons_succ])
              | (with_reducible refine po_skip ?_ ?_
                 · (go_simp; done)
                 simp only [Act.put, List.setIfInBounds_toArray, List.set_cons_zero, List.set_cons_succ]))
            with_reducible refine po_run ?_ (fun K hK => ?_) ?_
            · (go_simp; done)
            rotate_left
            · exact po_stop
            go_simp
            refine hK.out _ _ (.inr (⟨b0, b1, b2, b3⟩)) ?_
            clear hK K
            repeat (first
              | (with_reducible refine po_take (v := ?_) ?_ (fun w' hS' => ?_) ?_
                 rotate_left
                 · (go_simp; done)
                 · ((try dsimp only at hS'); go_simp; try with_reducible rfl)
                 simp only [Act.put, List.setIfInBounds_toArray, List.set_cons_zero, List.set_cons_succ])
              | (with_reducible refine po_skip ?_ ?_
                 · (go_simp; done)
                 simp only [Act.put, List.setIfInBounds_toArray, List.set_cons_zero, List.set_cons_succ]))
            refine po_done ?_
            have HY := HX.drop 2
            simp only [List.drop_succ_cons, List.drop_zero] at HY
            clear HX hb b0 b1 b2 b3 z0 zf hc1 hc2 hql
            have HT' : Hid (rdS h L (qx : Int) (j + 1) = (f && (!reachB h.cells [(qy : Int)] qx || reachB h.cells [(qx : Int)] qy))) := Go.Lib.hid (by rw [HT.out, toB_nat, toB_nat])
            generalize hr1 : reachB h.cells [(qy : Int)] qx = r1 at *
            generalize hr2 : reachB h.cells [(qx : Int)] qy = r2 at *
            have HR1 := Go.Lib.hid hr1
            have HR2 := Go.Lib.hid hr2
            clear hr1 hr2 HT
            cases f
            · have HU : Hid (rdS h L (qx : Int) (j + 1) = false) := Go.Lib.hid (by rw [HT'.out]; rfl)
              clear HT'
              go_wp2
              go_roundw
              case rel => exact ⟨j + 1, by go_num, by omega, by rw [HU.out], HY⟩
              case measure => simp [intOf]; omega
            by_cases hjk : j = k
            · have HU : Hid (rdS h L (qx : Int) (j + 1) = true) := Go.Lib.hid (by
                have e := HJ.out hjk
                subst e
                have := HR1.out.symm.trans HR2.out
                rw [HT'.out, this]; cases r2 <;> rfl)
              clear HT' HJ
              have e1 : ((j : Int) == (k : Int)) = true := by simp [hjk]
              clear hjk
              go_wp2
              go_roundw
              case rel => exact ⟨j + 1, by go_num, by omega, by rw [HU.out], HY⟩
              case measure => simp [intOf]; omega
            have e1 : ((j : Int) == (k : Int)) = false := by simp; omega
            clear hjk HJ
            cases r1
            · have HU : Hid (rdS h L (qx : Int) (j + 1) = true) := Go.Lib.hid (by rw [HT'.out]; rfl)
              clear HT'
              go_wp2
              go_roundw
              case rel => exact ⟨j + 1, by go_num, by omega, by rw [HU.out], HY⟩
              case measure => simp [intOf]; omega
            cases r2
            · have HU : Hid (rdS h L (qx : Int) (j + 1) = false) := Go.Lib.hid (by rw [HT'.out]; rfl)
              clear HT'
              go_wp2
              go_roundw
              case rel => exact ⟨j + 1, by go_num, by omega, by rw [HU.out], HY⟩
              case measure => simp [intOf]; omega
            · have HU : Hid (rdS h L (qx : Int) (j + 1) = true) := Go.Lib.hid (by rw [HT'.out]; rfl)
              clear HT'
              go_wp2
              go_roundw
              case rel => exact ⟨j + 1, by go_num, by omega, by rw [HU.out], HY⟩
              case measure => simp [intOf]; omega
          · obtain rfl : j = L.length := by omega
            have E1 := filter_succ (p := fun x => rdS h L x L.length) hx
            have hlen : ((L.take k).filter fun x => rdS h L x L.length).length ≤ 40 := Nat.le_trans filter_len hLl
            obtain ⟨u0, uf⟩ := H.elem 0 rfl (j := k) (u := .int .i64 qx) (by rw [List.getElem?_map, hx.out]; rfl)
            obtain ⟨C6, k6, rfl, -⟩ := H.formI 1 rfl
            cases hb : rdS h L (qx : Int) L.length
            · simp only [hb, Bool.false_eq_true, if_false, List.append_nil] at E1
              have HX := Go.Lib.hid E1
              clear E1 hb
              go_wp2
              go_roundw
              case rel => exact ⟨k + 1, by go_num, by omega, by rw [HX.out]; exact H⟩
              case measure => simp [intOf]; omega
            · simp only [hb, if_true] at E1
              generalize ((L.take k).filter fun x => rdS h L x L.length) = X at *
              have HX := Go.Lib.hid E1
              have H4 := H.alloc (.cells #[.int .i64 qx] 3)
              clear E1 hb
              go_wp2_with (at_builtin; go_loud (refine wpList_pushO rfl (.tmp 73) (.tmp 78) rfl H4 1 rfl rfl rfl (rdI_new _ _ _ (by simp)) (by omega) ?_; intro A9 k9 w9 H5))
              simp only [List.set_cons_zero, List.set_cons_succ, List.eraseIdx_cons_zero, List.eraseIdx_cons_succ, List.drop_succ_cons, List.drop_zero, List.take_succ_cons, List.take_zero, List.length_append, List.length_cons, List.length_nil, List.nil_append, Nat.zero_add, World.size_alloc] at H5
              go_roundw
              case rel => exact ⟨k + 1, by go_num, by omega, by rw [HX.out]; exact H5⟩
              case measure => simp [intOf]; omega
      · rw [List.take_of_length_le (by omega)] at H
        have HE : Hid (L.filter (fun x => rdS h L x L.length) = mReadyCells h ws) := Go.Lib.hid (by
          rw [HF.out, ← HR.out]
          congr 1
          funext x
          unfold rdS
          rw [List.take_of_length_le (Nat.le_refl _)])
        have HO := Go.Lib.hid H
        clear H
        go_wp2
        go_ret
        rw [← HE.out]
        exact HO.out.toI 1 rfl
end Go.Proofs.Ytpglhmlebcigfaa
