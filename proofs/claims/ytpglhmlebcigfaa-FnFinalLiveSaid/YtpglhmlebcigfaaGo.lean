/- A heap drawn from a code; the law FnFinalLive's walk. For every code that can be read. -/
import Derived.Test.YtpglhmlebcigfaaOo
import Derived.Test.YtpglhmlebcigfaaAl
import Derived.Test.YtpglhmlebcigfaaSm
import Derived.Test.YtpglhmlebcigfaaSk
import Derived.Test.YtpglhmlebcigfaaFo
namespace Go.Proofs.Ytpglhmlebcigfaa
open Go.RowKit
/-- The used cells among the first k. -/
def wat (h : Hp) (k : Nat) : List Int := ((List.range k).filter (usedN h.cells)).map fun i : Nat => (i : Int)
theorem wat_no {h : Hp} {k : Nat} (hu : usedN h.cells k = false) : wat h (k + 1) = wat h k := by simp [wat, List.range_succ, List.filter_append, hu]
theorem wat_yes {h : Hp} {k : Nat} (hu : usedN h.cells k = true) : wat h (k + 1) = wat h k ++ [(k : Int)] := by simp [wat, List.range_succ, List.filter_append, hu]
theorem wat_len (h : Hp) (k : Nat) : (wat h k).length ≤ k := by
  unfold wat
  rw [List.length_map]
  have := List.length_filter_le (usedN h.cells) (List.range k)
  simpa using this
theorem sweep_get {h : Hp} {i : Nat} (hi : i < h.cells.length) : (mDrop h (deadL (reachL h.cells h.roots))).cells[i]? = some (if reachB h.cells h.roots i then h.cells.getD i noCel else noCel) := by
  show (wipeP _ _ _)[i]? = _
  rw [wipeP_get, if_pos hi]
  have hat : atB (deadL (reachL h.cells h.roots)) i = !reachB h.cells h.roots i := by
    unfold atB deadL
    rw [List.getD_eq_getElem?_getD, List.getElem?_map, reachL_at hi]; rfl
  rw [hat]
  cases reachB h.cells h.roots i <;> simp [hi]
theorem sweep_reach {h : Hp} {c : Nat} (hr : Rch h.cells (usedN h.cells) h.roots c) : Rch (mDrop h (deadL (reachL h.cells h.roots))).cells (usedN (mDrop h (deadL (reachL h.cells h.roots))).cells) h.roots c := by
  have hget : ∀ q, Rch h.cells (usedN h.cells) h.roots q → (mDrop h (deadL (reachL h.cells h.roots))).cells[q]? = h.cells[q]? ∧ usedN (mDrop h (deadL (reachL h.cells h.roots))).cells q = true := fun q hq => by
    have hu := hq.inS
    have hi := usedN_lt hu
    have e := sweep_get hi
    rw [show reachB h.cells h.roots q = true by simpa [reachB] using hq, if_pos rfl, List.getD_eq_getElem?_getD, List.getElem?_eq_getElem hi] at e
    refine ⟨by rw [e, List.getElem?_eq_getElem hi]; rfl, ?_⟩
    rw [usedN_at (Go.Lib.hid e)]
    rw [usedN_at (Go.Lib.hid (List.getElem?_eq_getElem hi))] at hu
    exact hu
  induction hr with
  | base h1 h2 h3 => exact .base h1 h2 (hget _ (.base h1 h2 h3)).2
  | step hc h1 h2 h3 h4 ih => exact .step ih (by rw [(hget _ hc).1]; exact h1) h2 h3 (hget _ (.step hc h1 h2 h3 h4)).2
theorem collect_live {h : Hp} {i : Nat} (hu : usedN (mCollect h).cells i = true) : lostB (mCollect h) (i : Int) = false := by
  cases hy : heapOk h
  · have e1 : sweepOk h (mReachable h) = false := by unfold sweepOk; rw [hy]; rfl
    have e2 : mCollect h = ⟨[], []⟩ := (mSweep_no e1).1
    rw [e2] at hu
    simp [usedN, noCel] at hu
  · have e1 := collect_good (good_iff.1 hy)
    have e2 : mCollect h = mDrop h (deadL (reachL h.cells h.roots)) := by unfold mCollect; rw [(mSweep_yes e1).1, mReachable_yes hy]
    rw [e2] at hu ⊢
    have hi : i < h.cells.length := by
      have := usedN_lt hu
      simpa [mDrop, wipeP_len] using this
    have e3 := sweep_get hi
    rw [usedN_at (Go.Lib.hid e3)] at hu
    have hr : reachB h.cells h.roots i = true := by
      cases hb : reachB h.cells h.roots i
      · rw [hb] at hu; simp [noCel] at hu
      · rfl
    have h1 : Rch h.cells (usedN h.cells) h.roots i := by simpa [reachB] using hr
    have h2 := sweep_reach h1
    unfold lostB
    rw [Int.toNat_natCast]
    have h3 : reachB (mDrop h (deadL (reachL h.cells h.roots))).cells (mDrop h (deadL (reachL h.cells h.roots))).roots i = true := by simp only [reachB, decide_eq_true_eq]; exact h2
    rw [h3]; rfl
theorem live_nil {h : Hp} {ws : List Int} (hl : ∀ x ∈ ws, lostB h x = false) : mFinalOrder h ws = [] ∧ mReadyCells h ws = [] := by
  have hr : readyL h ws = [] := by
    rw [List.eq_nil_iff_forall_not_mem]
    intro x hx
    have := ready_mem hx
    rw [hl x this.1] at this
    exact absurd this.2 Bool.false_ne_true
  cases hy : mWatchedValid h ws
  · exact ⟨mFinal_no hy, mReady_no hy⟩
  · rw [mFinal_yes hy, mReady_yes hy]
    exact ⟨finN_none hr, hr⟩
theorem wat_live (h : Hp) (k : Nat) : ∀ x ∈ wat (mCollect h) k, lostB (mCollect h) x = false := by
  intro x hx
  unfold wat at hx
  obtain ⟨i, hi, rfl⟩ := List.mem_map.1 hx
  exact collect_live (List.mem_filter.1 hi).2
theorem collect_len (h : Hp) : (mCollect h).cells.length ≤ h.cells.length := by
  unfold mCollect mSweepH
  split
  · simp [mDrop, wipeP_len]
  · simp
set_option maxHeartbeats 1600000 in
theorem DrawCollectSweep_any (w : World) (A : Option Addr) (n c : Nat) (bs : List Int) (hr : RdY w w.heap.size A n c bs) :
    Calls Try.prog 19 #[.slice A n c] w (DrawnH w) := by
  have H := (Owns.nil w).box [.slice none 0 0, .slice none 0 0] 26
  go_enter Try.func19, Try.ntmps19
  go_wp2_with fail
  refine (open_own H A n c bs hr).mono ?_
  rintro e w1 ⟨g, A1, n1, c1, bs1, rfl, hU, H1⟩
  clear H hr
  go_wp2_with fail
  refine (heap_own H1 0 rfl hU (by omega) 12 (by omega) (by omega)).mono ?_
  rintro e w2 ⟨T, cv, rvs, rv, rv0, rs0, p1, rfl, hS, ht, -, -, H2⟩
  simp only [List.set_cons_zero] at H2
  clear H1 hU
  obtain ⟨C, kC, rfl, -⟩ := H2.formC 0 rfl
  obtain ⟨R0, kR0, e0, -⟩ := H2.formI 1 rfl
  obtain ⟨R, nR, kR, rfl⟩ := ht.form e0
  clear e0
  obtain ⟨y0, y1, y2, y3⟩ := H2.box2 3 rfl
  have HZ := (H2.putBox 3 rfl 0 (.slice C T.cells.length kC)).putBox 3 rfl 1 (.slice R nR kR)
  simp only [List.set_cons_zero, List.set_cons_succ, List.eraseIdx_cons_zero, List.eraseIdx_cons_succ, List.drop_succ_cons, List.drop_zero, List.take_succ_cons, List.take_zero, List.length_append, List.length_cons, List.length_nil, List.nil_append, Nat.zero_add, World.size_alloc] at HZ
  obtain ⟨z0, z1, -, -⟩ := HZ.box2 3 rfl
  have HS : Hid (DrawnH w (.returned (.agg #[.slice C T.cells.length kC, .slice R nR kR])) _) := Go.Lib.hid ⟨T, _, rvs, _, _, _, rfl, hS, ht, HZ.take 2⟩
  clear H2 HZ hS ht
  go_wp2
  exact bodyPost_ret (v := .agg #[.slice C T.cells.length kC, .slice R nR kR]) (by simp [results, Try.results19, go_sem, z0, z1]) rfl HS.out
set_option maxHeartbeats 6400000 in
set_option maxRecDepth 20000 in
theorem lawFinalLive_any (w : World) {A : Option Addr} {n c : Nat} {bs : List Int} (hr : RdY w w.heap.size A n c bs) :
    Calls Try.prog 5 #[.slice A n c] w fun e w' => e = .returned (.bool true) ∧ Below w.heap.size w w' := by
  by_cases s0 : 1048576 < n
  · go_enter Try.func5, Try.ntmps5
    go_wp2
    go_ret
    exact ⟨rfl, Below.refl _ _⟩
  go_enter Try.func5, Try.ntmps5
  go_wp2_with fail
  refine (DrawCollectSweep_any w A n c bs hr).mono ?_
  rintro e w1 ⟨T, cv, rvs, rv, rv0, rs0, rfl, hS, ht, H1⟩
  obtain ⟨C, kC, rfl, -⟩ := H1.formC 0 rfl
  obtain ⟨R0, kR0, e0, -⟩ := H1.formI 1 rfl
  obtain ⟨R, nR, kR, rfl⟩ := ht.form e0
  have HT := Go.Lib.hid ht
  have h41 := hS.len
  clear e0 ht hS hr s0
  have H := H1.box [.slice C T.cells.length kC, .slice R nR kR] 26
  clear H1
  obtain ⟨x0, x1, -, -⟩ := H.box2 0 rfl
  obtain ⟨X, hX⟩ : ∃ X, X = mCollect T := ⟨_, rfl⟩
  obtain ⟨N, hN⟩ : ∃ N, N = mCollectN T := ⟨_, rfl⟩
  have HLive : Hid (mFinalOrder X (wat X X.cells.length) = [] ∧ mReadyCells X (wat X X.cells.length) = []) := Go.Lib.hid (by rw [hX]; exact live_nil (wat_live T _))
  have hX41 : X.cells.length ≤ 41 := by have := collect_len T; rw [hX]; omega
  have HXe := Go.Lib.hid hX
  have HNe := Go.Lib.hid hN
  clear hX hN
  go_wp2_with fail
  refine (implCollect_any _ _ _ T (H.rdHx 1 2 rfl rfl HT.out)).mono ?_
  rintro e w2 ⟨cv2, rvs2, rv2, rfl, K⟩
  rw [← HXe.out] at K
  rw [← HNe.out]
  have H2 := H.merge K
  simp only [List.cons_append, List.nil_append] at H2
  clear H K x0 x1
  obtain ⟨C2, k2, rfl, -⟩ := H2.formC 0 rfl
  obtain ⟨R2, kR2, rfl, -⟩ := H2.formI 1 rfl
  have H3 := H2.box [.slice C2 X.cells.length k2, .slice R2 X.roots.length kR2] 26
  clear H2
  obtain ⟨x0, x1, -, -⟩ := H3.box2 3 rfl
  go_wp2_with fail
  refine (specCollect_any _ _ _ T (H3.rdHx 4 5 rfl rfl HT.out)).mono ?_
  rintro e w3 ⟨cv3, rvs3, rv3, rfl, K⟩
  rw [← HXe.out] at K
  rw [← HNe.out]
  have H4 := H3.merge K
  simp only [List.cons_append, List.nil_append] at H4
  clear H3 K x0 x1
  obtain ⟨C3, k3, rfl, -⟩ := H4.formC 0 rfl
  obtain ⟨R3, kR3, rfl, -⟩ := H4.formI 1 rfl
  have H5 := H4.box [.slice C3 X.cells.length k3, .slice R3 X.roots.length kR3] 26
  clear H4
  obtain ⟨y0, y1, -, -⟩ := H5.box2 0 rfl
  obtain ⟨x0, x1, -, -⟩ := H5.box2 3 rfl
  go_wp2_with fail
  refine (sameHeap_yes _ _ _ _ _ X (H5.rdHx 4 5 rfl rfl (.inl ⟨rfl, rfl⟩)) (H5.rdHx 1 2 rfl rfl (.inl ⟨rfl, rfl⟩))).mono ?_
  rintro e w4 ⟨rfl, hb4⟩
  have H6 := ((H5.call hb4).drop 3).take 3
  simp only [List.drop_succ_cons, List.drop_zero, List.take_succ_cons, List.take_zero] at H6
  clear H5 hb4 x0 x1 y0 y1
  have H7 := H6.litI [] zero_le_maxLen
  simp only [List.map_nil, List.length_nil] at H7
  clear H6
  go_wp2_with fail
  go_loopw [8, 9] (fun v i wr => ∃ k : Nat, i = .int .i64 k ∧ k ≤ X.cells.length ∧ Owns w.heap.size w wr [.ints v (wat X k), .box w2.heap.size [.slice C2 X.cells.length k2, .slice R2 X.roots.length kR2] 26, .cells (.slice C2 X.cells.length k2) rvs2 X.cells, .ints (.slice R2 X.roots.length kR2) X.roots]) (fun _ i _ => X.cells.length - (intOf i).toNat)
  case atStart => exact ⟨0, rfl, Nat.zero_le _, H7⟩
  case round =>
    clear H7
    obtain ⟨k, rfl, hk, H⟩ := hrel
    obtain ⟨Av, cv, rfl, -⟩ := H.formI 0 rfl
    obtain ⟨x0, x1, -, -⟩ := H.box2 1 rfl
    by_cases hlt : k < X.cells.length
    · obtain ⟨l, hl0⟩ : ∃ l, Hid (X.cells[k]? = some l) := ⟨_, Go.Lib.hid (List.getElem?_eq_getElem hlt)⟩
      obtain ⟨gC, cC, A3, c3, eC, -, u1, -, -, -, -, -, -, -⟩ := H.cellW 2 rfl hl0
      simp only [Value.slice.injEq] at eC
      obtain ⟨rfl, -, rfl⟩ := eC
      have hun := usedN_at hl0
      have hwl := wat_len X k
      have i1 : (0 : Int) ≤ (k : Int) := by omega
      have i2 : (k : Int) < (X.cells.length : Int) := by omega
      cases hu : l.used
      · rw [hu] at u1 hun
        have HW := Go.Lib.hid (wat_no hun)
        have H8 := H
        clear hu hun hl0 H hwl
        go_wp2
        go_roundw
        case rel => exact ⟨k + 1, by go_num, by omega, by rw [HW.out]; exact H8⟩
        case measure => simp [intOf]; omega
      · rw [hu] at u1 hun
        have HW := Go.Lib.hid (wat_yes hun)
        obtain ⟨W, hW⟩ : ∃ W, W = wat X k := ⟨_, rfl⟩
        rw [← hW] at H HW hwl ⊢
        have H8 := H.litI [(k : Int)] one_le_maxLen
        simp only [List.map_cons, List.map_nil, List.length_cons, List.length_nil, Nat.zero_add] at H8
        clear hu hun hl0 H hW
        go_wp2_with (at_builtin; go_loud (refine wpList_pushO rfl (.tmp 48) (.tmp 50) rfl H8 1 rfl rfl rfl (rdI_new _ _ _ rfl) (by simp; omega) ?_; intro A5 k5 w5 H9; simp only [List.set_cons_zero, List.set_cons_succ] at H9))
        have HA := H9.erase 0
        simp only [List.eraseIdx_cons_zero] at HA
        go_roundw
        case rel => exact ⟨k + 1, by go_num, by omega, by rw [HW.out]; simpa using HA⟩
        case measure => simp [intOf]; omega
    · have hkx : k = X.cells.length := by omega
      subst hkx
      obtain ⟨W, hW⟩ : ∃ W, W = wat X X.cells.length := ⟨_, rfl⟩
      rw [← hW] at H HLive ⊢
      have hF := HLive.out
      obtain ⟨f1, f2⟩ := hF
      have HF1 := Go.Lib.hid f1
      have HF2 := Go.Lib.hid f2
      clear hW f1 f2 hk
      go_wp2_with fail
      refine (implFinalOrder_any _ _ _ _ X _ _ _ W (H.rdHx 2 3 rfl rfl (.inl ⟨rfl, rfl⟩)) (H.owI 0 rfl).rdI).mono ?_
      rintro e w6 ⟨v6, rfl, ho6, hb6⟩
      rw [HF1.out] at ho6
      have H8 := H.madeI ho6 hb6
      clear H ho6 hb6 x0 x1
      obtain ⟨A6, k6, rfl, -⟩ := H8.formI 0 rfl
      obtain ⟨x0, x1, -, -⟩ := H8.box2 2 rfl
      go_wp2_with fail
      refine (implReadyCells_any _ _ _ _ X _ _ _ W (H8.rdHx 3 4 rfl rfl (.inl ⟨rfl, rfl⟩)) (H8.owI 1 rfl).rdI).mono ?_
      rintro e w7 ⟨v7, rfl, ho7, hb7⟩
      rw [HF2.out] at ho7
      have H9 := H8.madeI ho7 hb7
      clear H8 ho7 hb7 x0 x1
      obtain ⟨A7, k7, rfl, -⟩ := H9.formI 0 rfl
      go_wp2_with fail
      refine (alive_any _).mono ?_
      rintro e w8 ⟨rfl, hb⟩
      have HB := (H9.call hb).below
      clear H9 hb
      go_wp2
      go_ret
      exact ⟨rfl, HB⟩
end Go.Proofs.Ytpglhmlebcigfaa
